/- Lemmas that the statement of this claim leans on; their own comments are taken out, for the size of the claim. No condition beyond what each lemma states. -/
import Derived.Test.YtnohglkilpnjhaaGreatDoorSc6
import Derived.Deep.QuietTactic
import Derived.BigQuiet
import Derived.Deep.DeepCutAuto
import Derived.Deep.RegionHeld3
import Derived.Lib.SlBytesConst
set_option linter.unusedVariables false
set_option linter.unusedSimpArgs false
set_option linter.unusedSectionVars false
namespace Go.Proofs.YtnohglkilpnjhaaGreatDoor
open Go.RowKit
def W32 (x:UInt32):Value:=.int .u32 (w32 x)
def Words (w:World) (g t:Nat) (ws:List UInt32):Prop:=w.heap[g]? = some (.cells (ws.map W32).toArray t (0,0))
theorem Words.cell {w:World} {g t:Nat} {ws:List UInt32} (h:Words w g t ws) {j:Nat} (hj:j < ws.length):w.cell? ⟨g,j,none⟩ = some (W32 (ws.getD j 0)):=by
 unfold Words at h
 simp [World.cell?,h,List.getElem?_eq_getElem hj,List.getD]
theorem Words.free {w:World} {g t:Nat} {ws:List UInt32} (h:Words w g t ws) (j:Nat):w.frozen? ⟨g,j,none⟩ = false:=by
 unfold Words at h
 simp [World.frozen?,h]
theorem Words.set {w:World} {g t:Nat} {ws:List UInt32} (h:Words w g t ws) (j:Nat) (x:UInt32):Words (w.setCell ⟨g,j,none⟩ (W32 x)) g t (ws.set j x):=by
 unfold Words at *
 obtain ⟨hlt,hk⟩:=Array.getElem?_eq_some_iff.1 h
 show (w.heap.modify g _)[g]? = _
 rw [Array.getElem?_eq_getElem (by rw [Array.size_modify];exact hlt),Array.getElem_modify_self,hk]
 simp [List.map_set]
theorem Words.of_block {w w':World} {g t:Nat} {ws:List UInt32} (h:Words w g t ws) (e:w'.heap[g]? = w.heap[g]?):Words w' g t ws:=by
 unfold Words at *;rw [e];exact h
theorem Words.drew {w:World} {g t:Nat} {ws:List UInt32} (h:Words w g t ws):Words w.drew g t ws:=h
theorem words_two (w:World) (t:Nat) (A:Array Value) (ws:List UInt32) (h:A = (ws.map W32).toArray):Words ((w.alloc (.cells A t)).alloc (.cells A t)) (w.heap.size + 1) t ws∧Words ((w.alloc (.cells A t)).alloc (.cells A t)) w.heap.size t ws:=by
 subst h
 constructor
 ·have:=heap_alloc_new (w.alloc (.cells (ws.map W32).toArray t)) (.cells (ws.map W32).toArray t)
  rw [World.size_alloc] at this
  exact this
 ·exact (Below.heap_alloc _ _ _ (by simp)).trans (heap_alloc_new w _)
theorem pw_len (b:List UInt8) (k:Nat):(pw b k).length = 64:=by
 induction k with
 | zero=>simp [pw]
 | succ k ih=>simp [pw,ih]
theorem w32_byte (x:UInt32) (c:UInt8) (j:Nat) (hj:j ≤ 24):bits BinOp.or IntKind.u32 (w32 x) (IntKind.u32.wrap ((c.toNat:Int) * 2 ^ j)) = w32 (x ||| UInt32.ofNat (c.toNat * 2 ^ j)):=by
 have hc:=c.toNat_lt
 have hp:2 ^ j ≤ 2 ^ 24:=Nat.pow_le_pow_right (by decide) hj
 have hlt:c.toNat * 2 ^ j < 4294967296:=Nat.lt_of_le_of_lt (Nat.mul_le_mul_left _ hp) (by omega)
 have e:IntKind.u32.wrap ((c.toNat:Int) * 2 ^ j) = w32 (UInt32.ofNat (c.toNat * 2 ^ j)):=by
  rw [IntKind.wrap_u32',w32_nat]
  simp
 rw [e,w32_or]
theorem w32_byte' (x:UInt32) (c:UInt8) (j:Nat) (hj:j ≤ 24):bits BinOp.or IntKind.u32 (w32 x) ((c.toNat:Int) % 4294967296 * 2 ^ j % 4294967296) = w32 (x ||| UInt32.ofNat (c.toNat * 2 ^ j)):=by
 have hc:=c.toNat_lt
 rw [← w32_byte x c j hj,IntKind.wrap_u32',show (c.toNat:Int) % 4294967296 = (c.toNat:Int) from by omega]
theorem set_next (m:List UInt8) (t:Nat) (h1:16 ≤ t) (h2:t < 64) :
  (wordsTo m (t - 16) ++ List.replicate (64 - t) 0).set t (nextW (wordsTo m (t - 16))) = wordsTo m (t + 1 - 16) ++ List.replicate (64 - (t + 1)) 0:=by
 have hl:=wordsTo_len m (t - 16)
 rw [show t + 1 - 16 = (t - 16) + 1 from by omega,wordsTo,show 64 - t = (64 - (t + 1)) + 1 from by omega,List.replicate_succ]
 rw [List.set_append_right _ _ (by rw [hl];omega),hl,show t - (16 + (t - 16)) = 0 from by omega,List.set_cons_zero,List.append_assoc,List.singleton_append]
theorem nextW_at (m:List UInt8) (t:Nat) (h1:16 ≤ t):nextW (wordsTo m (t - 16)) = (wordsTo m (t - 16)).getD (t - 16) 0 + (wordsTo m (t - 16)).getD (t - 7) 0 + sg1 ((wordsTo m (t - 16)).getD (t - 2) 0) + sg0 ((wordsTo m (t - 16)).getD (t - 15) 0):=by
 rw [nextW,wordsTo_len,show 16 + (t - 16) = t from by omega]
theorem words_one (ws:List UInt32):((ws.map W32).toArray).all (·.oneCell') = true:=
 Array.all_eq_true_iff_forall_mem.2 (fun v hv=>by
  obtain ⟨x,_,rfl⟩:=List.mem_map.1 (by simpa using hv)
  rfl)
theorem wpList_store_words {P:Program} {ops:Array Oper} {rest:List Oper} {op:Oper} {a:Act} {w:World} {Q:Exit→Act→World→Prop} (ty:TypeId) (x y:Operand) (g t:Nat) (old ws:List UInt32) (hgd:op.guard = none) (ho:op.op = .store ty x y)
  (hx:a.eval x = .pointer (some ⟨g,0,none⟩)) (hy:a.eval y = .agg (ws.map W32).toArray) (hg:Words w g t old) (hi:(P.info? ty).map (·.size) = some ws.length) (hs:old.length = ws.length)
  (h:wpList P ops Q rest (a.put op.dst undef) (w.setRow g (ws.map W32).toArray)):wpList P ops Q (op :: rest) a w:=
 wpList_store_row hgd ty x y ho g t _ _ hx hy hg (by rw [hi];simp) (by simp [hs]) (words_one ws) h
theorem Words.laid {w:World} {g t:Nat} {old:List UInt32} (h:Words w g t old) (ws:List UInt32):Words (w.setRow g (ws.map W32).toArray) g t ws:=setRow_heap _ _ _ _ _ _ h
theorem Words.run_load {P:Program} {w:World} {g t:Nat} {ws:List UInt32} (h:Words w g t ws) (ty e:TypeId) (n:Nat) (hu:P.underlying ty = some (.array n e)) (hi:(P.info? ty).map (·.size) = some ws.length) :
  (loadVar ty ⟨g,0,none⟩).run P w = .ok (.agg (ws.map W32).toArray) w:=
 run_loadVar_row _ _ t ty _ (0,0) _ h hu rfl (by rw [hi];simp)
theorem info_64:(Tryz.prog.info? 199).map (·.size) = some 64:=by kernel_rfl
attribute [local go_sem] w32_add w32_xor w32_shr10 w32_shr3
set_option maxRecDepth 100000 in
set_option maxHeartbeats 1600000 in
theorem spread_any (v:Value) (l:List UInt8) (w:World) (hl:Bytes w v l) (h64:64 ≤ l.length) :
  Calls Tryz.prog 159 #[v] w fun e w'=>e = .returned (.agg ((wordsL l).map W32).toArray)∧Below w.heap.size w w':=by
 obtain ⟨i0,hi,hz0,hz1,hz2⟩:=info_parts infoU8
 obtain ⟨a,cp,hv⟩:=hl.len
 subst hv
 obtain ⟨r,hrun,hr,_⟩:=hl.part (P:=Tryz.prog) (t:=33) Tryz.underlying33 hi hz1 none (some (.int .i64 64)) 0 64 (by omega) h64 (.inl ⟨rfl,rfl⟩) (.inr ⟨.i64,rfl⟩)
 obtain ⟨m,hm⟩:∃ m,m = (l.drop 0).take (64 - 0):=⟨_,rfl⟩
 have hm64:m.length = 64:=by rw [hm];simp;omega
 rw [← hm] at hr
 have hwl:wordsL l = wordsL m:=by rw [hm];exact (wordsTo_take l 48).symm
 rw [hwl]
 obtain ⟨ra,rc,hrs⟩:=hr.len
 rw [hm64] at hrs
 subst hrs
 obtain ⟨b,off,c',hv,hbl,hc⟩:=hr.cell (by omega)
 rw [hm64] at hv hc
 obtain ⟨rfl,rfl⟩:ra = some ⟨b,off,none⟩∧rc = c':=by cases hv;exact ⟨rfl,rfl⟩
 have HC:=Lib.hid hc
 clear hc hv hr hm hwl hl h64
 go_enter Tryz.func159,Tryz.ntmps159
 go_wp2
 go_loopw [12] (fun iv wr=>∃ k:Nat,k ≤ 64∧iv = .int .i64 k∧Words wr (w.heap.size + 1) 199 (pw m k)∧Words wr w.heap.size 199 (List.replicate 64 0)∧Below w.heap.size w wr)
  (fun iv _=>64 - (intOf iv).toNat)
 case atStart=>exact ⟨0,by omega,rfl,(words_two w _ _ _ (by rfl)).1,(words_two w _ _ _ (by rfl)).2,((Below.refl _ w).alloc (Nat.le_refl _) _).alloc (by simp) _⟩
 case round=>
  obtain ⟨k,hk,rfl,hW,hR,hb⟩:=hrel
  by_cases hlt:k < 64
  ·have hck:=(hb.cell (p:=⟨b,off + k,none⟩) hbl).trans (HC.out k hlt)
   obtain ⟨c,hcc⟩:∃ c,c = m.getD k 0:=⟨_,rfl⟩
   rw [← hcc] at hck
   unfold B8 at hck
   have Hcc:=Lib.hid hcc
   have hwk:wr.cell? ⟨w.heap.size + 1,k / 4,none⟩ = some (W32 ((pw m k).getD (k / 4) 0)):=hW.cell (by rw [pw_len];omega)
   have hfk:=hW.free (k / 4)
   unfold W32 at hwk
   obtain ⟨x,hx⟩:∃ x,x = (pw m k).getD (k / 4) 0:=⟨_,rfl⟩
   rw [← hx] at hwk
   have HX:=Lib.hid hx
   clear hx
   have HW:=Lib.hid hW
   have HR:=Lib.hid hR
   clear hW hR hcc
   have hq0:(0:Int) ≤ (k:Int) / 4:=by omega
   have hq1:(k:Int) / 4 < 64:=by omega
   go_wp2
   go_region
   all_goals go_wp2
   go_roundw
   case rel=>
    have hb':Below w.heap.size w wr:=hb
    rw [w32_byte' x c _ (by omega)]
    refine ⟨k + 1,by omega,by go_num,?_,?_,(hb.setCell (p:=⟨w.heap.size + 1,k / 4,none⟩) (by simp) _).drew⟩
    ·have:=(HW.out.set (k / 4) (x ||| UInt32.ofNat (c.toNat * 2 ^ (24 - 8 * (k % 4))))).drew
     rw [pw,← Hcc.out,← HX.out]
     exact this
    ·exact (HR.out.of_block (Below.heap_setCell _ _ _ _ (by simp))).drew
   case measure=>simp [intOf];omega
  ·obtain rfl:k = 64:=by omega
   have hpw:pw m 64 = wordsTo m 0 ++ List.replicate 48 0:=pw_four m 16 (by omega)
   rw [hpw] at hW
   clear hpw
   have hbA:=hb
   have hszA:=hb.size
   clear hb
   rw [show ((64:Nat):Int) = 64 from rfl]
   go_wp2
   go_loopw [6] (fun iv wx=>∃ t:Nat,16 ≤ t∧t ≤ 64∧iv = .int .i64 t∧Words wx (w.heap.size + 1) 199 (wordsTo m (t - 16) ++ List.replicate (64 - t) 0)∧Words wx w.heap.size 199 (List.replicate 64 0)∧Below w.heap.size w wx)
    (fun iv _=>64 - (intOf iv).toNat)
   case atStart=>exact ⟨16,by omega,by omega,rfl,hW,hR,hbA⟩
   case round=>
    clear hW hR hbA
    obtain ⟨t,ht16,ht,rfl,hW,hR,hb⟩:=hrel
    have hlen:(wordsTo m (t - 16) ++ List.replicate (64 - t) 0).length = 64:=by rw [List.length_append,wordsTo_len,List.length_replicate];omega
    by_cases hlt:t < 64
    ·have hg:∀ j,j < t→(wordsTo m (t - 16) ++ List.replicate (64 - t) 0).getD j 0 = (wordsTo m (t - 16)).getD j 0:=by
      intro j hj
      simp only [List.getD_eq_getElem?_getD]
      rw [List.getElem?_append_left (by rw [wordsTo_len];omega)]
     have h2:=hW.cell (j:=t - 2) (by omega)
     have h15:=hW.cell (j:=t - 15) (by omega)
     have h16:=hW.cell (j:=t - 16) (by omega)
     have h7:=hW.cell (j:=t - 7) (by omega)
     have hfr:=hW.free t
     have ht1:=hW.cell (j:=t) (by omega)
     rw [hg _ (by omega)] at h2 h15 h16 h7
     unfold W32 at h2 h15 h16 h7 ht1
     obtain ⟨x2,e2⟩:∃ x,x = (wordsTo m (t - 16)).getD (t - 2) 0:=⟨_,rfl⟩
     obtain ⟨x15,e15⟩:∃ x,x = (wordsTo m (t - 16)).getD (t - 15) 0:=⟨_,rfl⟩
     obtain ⟨x16,e16⟩:∃ x,x = (wordsTo m (t - 16)).getD (t - 16) 0:=⟨_,rfl⟩
     obtain ⟨x7,e7⟩:∃ x,x = (wordsTo m (t - 16)).getD (t - 7) 0:=⟨_,rfl⟩
     rw [← e2] at h2
     rw [← e15] at h15
     rw [← e16] at h16
     rw [← e7] at h7
     have E2:=Lib.hid e2
     have E15:=Lib.hid e15
     have E16:=Lib.hid e16
     have E7:=Lib.hid e7
     have HW:=Lib.hid hW
     have HR:=Lib.hid hR
     have HG:=Lib.hid hlen
     clear e2 e15 e16 e7 hW hR hlen hg
     have i2:(0:Int) ≤ (t:Int) - 2:=by omega
     have j2:(t:Int) - 2 < 64:=by omega
     have i15:(0:Int) ≤ (t:Int) - 15:=by omega
     have j15:(t:Int) - 15 < 64:=by omega
     have i16:(0:Int) ≤ (t:Int) - 16:=by omega
     have j16:(t:Int) - 16 < 64:=by omega
     have i7:(0:Int) ≤ (t:Int) - 7:=by omega
     have j7:(t:Int) - 7 < 64:=by omega
     have jt:(t:Int) < 64:=by omega
     go_wp2
     go_quiet (fail)
     go_wp2_with fail
     refine (turn17 x2 _).mono ?_
     rintro e w1 ⟨rfl,rfl⟩
     go_wp2_with fail
     refine (turn19 x2 _).mono ?_
     rintro e w1 ⟨rfl,rfl⟩
     go_wp2_with fail
     refine (turn7 x15 _).mono ?_
     rintro e w1 ⟨rfl,rfl⟩
     go_wp2_with fail
     refine (turn18 x15 _).mono ?_
     rintro e w1 ⟨rfl,rfl⟩
     go_wp2_with fail
     go_region
     all_goals go_wp2
     go_roundw
     case rel=>
      refine ⟨t + 1,by omega,by omega,by go_num,?_,?_,Below.trans hb ((below_drewn _).setCell (p:=⟨w.heap.size + 1,t,none⟩) (by show w.heap.size ≤ w.heap.size + 1;omega) _)⟩
      ·rw [← set_next m t ht16 hlt,nextW_at m t ht16,← E2.out,← E15.out,← E16.out,← E7.out]
       exact HW.out.set t _
      ·exact HR.out.of_block (Below.heap_setCell _ _ _ _ (by simp))
     case measure=>simp [intOf];omega
    ·obtain rfl:t = 64:=by omega
     have hW':Words wr (w.heap.size + 1) 199 (wordsL m):=by simpa [wordsL] using hW
     have hl48:(wordsL m).length = 64:=wordsTo_len m 48
     clear hW
     go_wp2_with (first | (refine wpList_load_row rfl 199 _ rfl (w.heap.size + 1) rfl _ _ _ _ hW' Tryz.underlying199 rfl ?hi ?_;(case hi=>rw [info_64];simp [hl48])) | (refine wpList_store_row rfl 199 _ _ rfl w.heap.size 199 _ _ rfl rfl hR ?hj ?hk (words_one _) ?_;(case hj=>rw [info_64];simp [hl48]);(case hk=>simp [hl48])))
     refine bodyPost_ret (results_cell rfl _ rfl (run_loadVar_row _ _ 199 _ ((wordsL m).map W32).toArray (0,0) _ (setRow_heap _ _ _ _ _ _ hR) Tryz.underlying199 rfl (by rw [info_64];simp [hl48]))) rfl ⟨rfl,?_⟩
     exact hb.trans (below_setRow' _ _ _ (Nat.le_refl _))
def Consts (w:World):Prop:=∀ j,j < 64→w.cell? ⟨0,j,none⟩ = some (W32 (shaK.getD j 0))
theorem Consts.lt {w:World} (h:Consts w):0 < w.heap.size:=World.block_lt_of_cell? w _ (h 0 (by decide))
theorem Consts.of_new {w w':World} (h:Consts w) (hb:Below w.heap.size w w'):Consts w':=fun j hj=>(hb.cell (p:=⟨0,j,none⟩) h.lt).trans (h j hj)
theorem same_quiet {P:Program} {f:FuncId} {args:Array Value} {w:World} {n:Nat} {v:Value} (h:Calls P f args (w.drewN n) fun e w'=>e = .returned v∧w.drewN n = w') :
  Calls P f args (w.drewN n) fun e w''=>e = .returned v∧∃ m,w'' = w.drewN m:=h.mono fun _ _ ⟨he,hm⟩=>⟨he,n,hm.symm⟩
def St.agg (s:St):Value:=.agg #[W32 s.a,W32 s.b,W32 s.c,W32 s.d,W32 s.e,W32 s.f,W32 s.g,W32 s.h]
theorem index_words (ws:List UInt32) (h:ws.length = 64) (j:Nat) (hj:j < 64) (W:World):(Instr.index 199 (.agg (ws.map W32).toArray) (.int .i64 (j:Int))).run Tryz.prog W = .ok (.int .u32 (w32 (ws.getD j 0))) W:=by
 have hp:j < ws.length:=by omega
 have h1:(sizeOf 151).run Tryz.prog W = .ok 1 W:=by kernel_rfl
 have hx:((ws.map W32).toArray)[j]? = some (.int .u32 (w32 (ws.getD j 0))):=by
  simp [List.getElem?_eq_getElem hp,List.getD_eq_getElem?_getD,W32]
 have h2:(part 151 (ws.map W32).toArray j).run Tryz.prog W = .ok (.int .u32 (w32 (ws.getD j 0))) W:=run_part_plain W (by kernel_rfl) hx
 have h3:(j:Int) < 64:=by omega
 simp only [Instr.index,Sem.run_bind,run_underlying Tryz.underlying199,asIntOf,Sem.run_pure,Result.andThen_ok]
 rw [if_pos ⟨by omega,h3⟩]
 simp only [Sem.run_bind,h1,Result.andThen_ok,Int.toNat_natCast,Nat.mul_one,h2]
theorem box8 (w:World) (t:Nat) (xs ys:List UInt32) (A B:Array Value) (n:Nat) (hA:A = (xs.map W32).toArray) (hB:B = (ys.map W32).toArray) :
  Words (((w.alloc (.cells A t)).alloc (.cells B t)).drewN n) w.heap.size t xs∧Words (((w.alloc (.cells A t)).alloc (.cells B t)).drewN n) (w.heap.size + 1) t ys∧Below w.heap.size w (((w.alloc (.cells A t)).alloc (.cells B t)).drewN n) ∧
   w.heap.size + 2 = (((w.alloc (.cells A t)).alloc (.cells B t)).drewN n).heap.size:=by
 subst hA
 subst hB
 refine ⟨?_,?_,(((Below.refl _ w).alloc (Nat.le_refl _) _).alloc (by simp) _).trans (below_drewn n),by show _ = ((w.alloc _).alloc _).heap.size;simp⟩
 ·exact (Below.heap_alloc _ _ _ (by simp)).trans (heap_alloc_new w _)
 ·have:=heap_alloc_new (w.alloc (.cells (xs.map W32).toArray t)) (.cells (ys.map W32).toArray t)
  rw [World.size_alloc] at this
  exact this
attribute [local go_sem] w32_add w32_xor w32_and w32_or
set_option maxRecDepth 100000 in
set_option maxHeartbeats 800000 in
theorem take_any (s:St) (v:Value) (l:List UInt8) (w:World) (hl:Bytes w v l) (h64:64 ≤ l.length) (hK:Consts w) :
  Calls Tryz.prog 117 #[s.agg,v] w fun e w'=>e = .returned (takeL s l).agg∧Below w.heap.size w w':=by
 obtain ⟨sa,sb,sc,sd,se,sf,sg,sh⟩:=s
 unfold St.agg
 obtain ⟨a,cp,hv⟩:=hl.len
 subst hv
 have HL:=Lib.hid hl
 have HK:=Lib.hid hK
 clear hl hK
 unfold W32
 go_enter Tryz.func117,Tryz.ntmps117
 go_wp2
 go_quiet (fail)
 go_wp2_with fail
 obtain ⟨hX,hY,hb,hsz⟩:=box8 w 204 [sa,sb,sc,sd,se,sf,sg,sh] (List.replicate 8 0) #[.int .u32 (w32 sa),.int .u32 (w32 sb),.int .u32 (w32 sc),.int .u32 (w32 sd),.int .u32 (w32 se),.int .u32 (w32 sf),.int .u32 (w32 sg),.int .u32 (w32 sh)] #[.int .u32 0,.int .u32 0,.int .u32 0,.int .u32 0,.int .u32 0,.int .u32 0,.int .u32 0,.int .u32 0] nq (by rfl) (by rfl)
 generalize hW1:(((w.alloc (.cells #[.int .u32 (w32 sa),.int .u32 (w32 sb),.int .u32 (w32 sc),.int .u32 (w32 sd),.int .u32 (w32 se),.int .u32 (w32 sf),.int .u32 (w32 sg),.int .u32 (w32 sh)] 204)).alloc (.cells #[.int .u32 0,.int .u32 0,.int .u32 0,.int .u32 0,.int .u32 0,.int .u32 0,.int .u32 0,.int .u32 0] 204)).drewN nq) = W1 at *
 clear hW1
 refine (spread_any _ l _ (HL.out.of_new hb) h64).mono ?_
 rintro e w2 ⟨rfl,hb2⟩
 have hbA:=below_next hb hb2
 have hX2:=hX.of_block (hb2.block _ (by omega))
 have hY2:=hY.of_block (hb2.block _ (by omega))
 have HK2:=Lib.hid (HK.out.of_new hbA)
 have hwl:(wordsL l).length = 64:=wordsTo_len l 48
 have HIX:=Lib.hid (index_words (wordsL l) hwl)
 have hszA:=hbA.size
 have hsz2:=hb2.size
 clear hX hY hb hb2 HK
 go_wp2
 go_loopw [5,6,7,8,9,10,11,12,35] (fun va vb vc vd ve vf vg vh iv wr=>∃ (n:Nat) (s:St),n ≤ 64∧iv = .int .i64 n∧s = rndTo ⟨sa,sb,sc,sd,se,sf,sg,sh⟩ (wordsL l) n ∧
   va = .int .u32 (w32 s.a)∧vb = .int .u32 (w32 s.b)∧vc = .int .u32 (w32 s.c)∧vd = .int .u32 (w32 s.d)∧ve = .int .u32 (w32 s.e)∧vf = .int .u32 (w32 s.f)∧vg = .int .u32 (w32 s.g)∧vh = .int .u32 (w32 s.h)∧Below w2.heap.size w2 wr)
  (fun _ _ _ _ _ _ _ _ iv _=>64 - (intOf iv).toNat)
 case atStart=>exact ⟨0,_,by omega,rfl,rfl,rfl,rfl,rfl,rfl,rfl,rfl,rfl,rfl,Below.refl _ _⟩
 case round=>
  obtain ⟨n,⟨ra,rb,rc,rd,re,rf,rg,rh⟩,hn,rfl,hs,rfl,rfl,rfl,rfl,rfl,rfl,rfl,rfl,hbr⟩:=hrel
  have HS:=Lib.hid hs
  clear hs
  dsimp only
  by_cases hlt:n < 64
  ·have hk:=(HK2.out.of_new hbr) n hlt
   have hix:=HIX.out n hlt
   unfold W32 at hk
   obtain ⟨kk,ek⟩:∃ x,x = shaK.getD n 0:=⟨_,rfl⟩
   obtain ⟨ww,ew⟩:∃ x,x = (wordsL l).getD n 0:=⟨_,rfl⟩
   rw [← ek] at hk
   rw [← ew] at hix
   have EK:=Lib.hid ek
   have EW:=Lib.hid ew
   clear ek ew
   have jn:(n:Int) < 64:=by omega
   go_wp2
   go_quiet ((go_at_call 160;exact same_quiet (turn_any _ _ _ (by omega) (by omega))))
   go_wp2_with fail
   refine (turn2 ra _).mono ?_
   rintro e w1 ⟨rfl,rfl⟩
   go_wp2_with fail
   refine (turn13 ra _).mono ?_
   rintro e w1 ⟨rfl,rfl⟩
   go_wp2_with fail
   refine (turn22 ra _).mono ?_
   rintro e w1 ⟨rfl,rfl⟩
   go_wp2
   go_roundw
   case rel=>
    refine ⟨n + 1,rnd ⟨ra,rb,rc,rd,re,rf,rg,rh⟩ kk ww,by omega,by go_num,by rw [rndTo,← HS.out,EK.out,EW.out],rfl,rfl,rfl,rfl,rfl,rfl,rfl,rfl,hbr.trans (below_drewn _)⟩
   case measure=>simp [intOf];omega
  ·obtain rfl:n = 64:=by omega
   have hX3:=hX2.of_block (hbr.block _ (by omega))
   have hY3:=hY2.of_block (hbr.block _ (by omega))
   have c0:=hX3.cell (j:=0) (by simp)
   have c1:=hX3.cell (j:=1) (by simp)
   have c2:=hX3.cell (j:=2) (by simp)
   have c3:=hX3.cell (j:=3) (by simp)
   have c4:=hX3.cell (j:=4) (by simp)
   have c5:=hX3.cell (j:=5) (by simp)
   have c6:=hX3.cell (j:=6) (by simp)
   have c7:=hX3.cell (j:=7) (by simp)
   simp only [W32,List.getD_cons_zero,List.getD_cons_succ] at c0 c1 c2 c3 c4 c5 c6 c7
   have hbF:=below_next hbA hbr
   clear hX3 hX2 hY2 hbr
   rw [show ((64:Nat):Int) = 64 from rfl]
   have HF:=Lib.hid hbF
   have HY:=Lib.hid hY3
   clear hn hlt hwl HIX HK2 hbA hszA hsz2 hsz hbF hY3
   have heq:takeL ⟨sa,sb,sc,sd,se,sf,sg,sh⟩ l = ⟨sa + ra,sb + rb,sc + rc,sd + rd,se + re,sf + rf,sg + rg,sh + rh⟩:=by
    simp only [takeL,St.plus,← HS.out]
   have HEQ:=Lib.hid heq
   clear heq
   go_wp2_with ((with_reducible refine wpList_store_words (op:=⟨none,Op.store 204 (.tmp 4) (.tmp 126),_,_,_,_⟩) 204 (.tmp 4) (.tmp 126) (w.heap.size + 1) 204 (List.replicate 8 (0:UInt32)) [sa + ra,sb + rb,sc + rc,sd + rd,se + re,sf + rf,sg + rg,sh + rh] ?g ?ho ?hx ?hy HY.out ?hi ?hs ?_);(case g=>rfl);(case ho=>rfl);(case hx=>rfl);(case hi=>kernel_rfl);(case hs=>rfl);(case hy=>rfl))
   rw [HEQ.out]
   refine bodyPost_ret (results_cell rfl _ rfl ((HY.out.laid _).run_load 204 151 8 Tryz.underlying204 (by kernel_rfl))) rfl ⟨rfl,HF.out.trans (below_setRow' _ _ _ (Nat.le_succ _))⟩
end Go.Proofs.YtnohglkilpnjhaaGreatDoor
namespace Go.Proofs.YtnohglkilpnjhaaGreatDoor
theorem takeL_take (s:St) (b:List UInt8):takeL s (b.take 64) = takeL s b:=by
 unfold takeL wordsL;rw [wordsTo_take]
theorem chunksTo_app (m r:List UInt8) (n:Nat) (h:64 * n ≤ m.length):chunksTo (m ++ r) n = chunksTo m n:=by
 induction n with
 | zero=>rfl
 | succ n ih=>
  rw [chunksTo,chunksTo,ih (by omega),List.drop_append_of_le_length (by omega),List.take_append_of_le_length (by rw [List.length_drop];omega)]
theorem chunksTo_next (m:List UInt8) (n:Nat):chunksTo m (n + 1) = takeL (chunksTo m n) (m.drop (64 * n)):=by
 rw [chunksTo,takeL_take]
def tailL (b:List UInt8):List UInt8:=(padL b).drop (b.length / 64 * 64)
theorem lenBytes_len (n:Nat):(lenBytes n).length = 8:=by simp [lenBytes]
theorem padL_len (b:List UInt8):(padL b).length = b.length + 1 + zerosOf b.length + 8:=by
 simp [padL,lenBytes_len];omega
theorem padL_dvd (b:List UInt8):(padL b).length % 64 = 0:=by
 rw [padL_len];unfold zerosOf;omega
theorem tailL_eq (b:List UInt8):tailL b = b.drop (b.length / 64 * 64) ++ [128] ++ List.replicate (zerosOf b.length) 0 ++ lenBytes b.length:=by
 unfold tailL padL
 simp only [List.append_assoc]
 rw [List.drop_append_of_le_length (by omega)]
theorem tailL_len (b:List UInt8):(tailL b).length = (padL b).length - b.length / 64 * 64:=by unfold tailL;rw [List.length_drop]
theorem padL_whole (b:List UInt8) (n:Nat) (h:64 * n ≤ b.length):chunksTo (padL b) n = chunksTo b n:=by
 unfold padL
 simp only [List.append_assoc]
 exact chunksTo_app _ _ _ h
theorem padL_next (b:List UInt8) (n:Nat):chunksTo (padL b) (b.length / 64 + n + 1) = takeL (chunksTo (padL b) (b.length / 64 + n)) ((tailL b).drop (64 * n)):=by
 rw [chunksTo_next]
 unfold tailL
 rw [List.drop_drop]
 congr 2
 omega
theorem zeros_step (n j:Nat) (h:(n % 64 + 1 + j) % 64 ≠ 56) (hj:j ≤ zerosOf n):j + 1 ≤ zerosOf n:=by unfold zerosOf at *;omega
theorem zeros_end (n j:Nat) (h:(n % 64 + 1 + j) % 64 = 56) (hj:j ≤ zerosOf n):j = zerosOf n:=by unfold zerosOf at *;omega
end Go.Proofs.YtnohglkilpnjhaaGreatDoor
namespace Go.Proofs.YtnohglkilpnjhaaGreatDoor
open Go.RowKit
set_option maxRecDepth 100000 in
set_option maxHeartbeats 800000 in
theorem BClone_any (v:Value) (l:List UInt8) (w:World) (hl:Bytes w v l) (hlen:l.length ≤ 140737488355328) :
  Calls Tryz.prog 118 #[v] w fun e w'=>∃ v',e = .returned v'∧Own8 w' w.heap.size 5 v' l∧Below w.heap.size w w':=by
 obtain ⟨i0,hi,hz0,hz1,hz2⟩:=info_parts infoU8
 obtain ⟨a,c,hv⟩:=hl.len
 cases a with
 | none=>
  have hl0:l = []:=by
   obtain ⟨_,a',c',hv',h1,_,h3,_⟩:=hl
   rw [hv'] at hv;cases hv
   have:=h3 rfl
   exact List.eq_nil_of_length_eq_zero (by omega)
  subst hl0
  have hc:c = 0:=by
   obtain ⟨_,a',c',hv',h1,_,h3,_⟩:=hl
   rw [hv'] at hv;cases hv
   exact h3 rfl
  subst hc
  subst hv
  have he:=fun (w:World) (a:Option Addr) (n c:Nat)=>Lib.run_eql_slice_nil (P:=Tryz.prog) w 33 5 a n c 0 0 Tryz.underlying33
  go_enter Tryz.func118,Tryz.ntmps118
  go_wp2
  go_ret
  exact ⟨_,rfl,Own8.nil _ _ _,Below.refl _ _⟩
 | some a=>
  subst hv
  have he:=fun (w:World) (a:Option Addr) (n c:Nat)=>Lib.run_eql_slice_nil (P:=Tryz.prog) w 33 5 a n c 0 0 Tryz.underlying33
  have hown0:Own8 (w.alloc (.cells #[] 5)) w.heap.size 5 (.slice (some ⟨w.heap.size,0,none⟩) 0 0) []:=World.ownsRow_made w #[] 0 (Nat.le_refl _) (by unfold maxLen;omega) rfl
  have hl0:=hl.of_alloc (.cells #[] 5)
  have HO:=Lib.hid hown0
  have HL:=Lib.hid hl0
  clear hown0 hl0 hl
  go_enter Tryz.func118,Tryz.ntmps118
  go_wp2_with (at_builtin;refine wpList_app8 rfl (.tmp 5) (.tmp 6) 33 rfl w.heap.size 5 i0 Tryz.underlying33 hi hz0 hz1 hz2 _ [] rfl HO.out _ l rfl HL.out ?c1 ?c2 ?_)
  case c1=>first | omega | (simp;omega)
  case c2=>simp
  intro v1 w1 hown1 hg1 _
  have hbA:Below w.heap.size w w1:=((Below.refl _ w).alloc (Nat.le_refl _) _).grown hg1 (by simp) (fun j hj=>(HO.out.lt j hj).1)
  clear hg1
  go_wp2
  go_ret
  exact ⟨_,rfl,by simpa using hown1,hbA⟩
theorem run_load_state {w:World} {g t:Nat} {s:St} (h:Words w g t s.list):(loadVar 204 ⟨g,0,none⟩).run Tryz.prog w = .ok s.agg w:=
 h.run_load 204 151 8 Tryz.underlying204 (by kernel_rfl)
theorem step_load_state {w:World} {ops:Array Oper} {o:Oper} {a:Act} {K:Act→World→Prop} {Q:Exit→Act→World→Prop} {E:Prop} (hgd:o.guard = Option.none) (x:Operand) (ho:o.op = .load 204 x)
  (g t:Nat) (s:St) (hx:a.eval x = .pointer (some ⟨g,0,none⟩)) (hw:Words w g t s.list) (h:K (a.put o.dst s.agg) w):if Region.wanted o (yielded ops a.tmps) = true then Oper.wp Tryz.prog o a w K Q else E:=by
 rw [if_pos (by simp [Region.wanted,hgd])]
 unfold Oper.wp execOp
 simp only [ho,hx,Instr.loadAt,Instr.sureAddr,Sem.run_bind,Sem.run_pure,Result.andThen_ok,run_load_state hw]
 exact h
theorem step_store_state {w:World} {ops:Array Oper} {o:Oper} {a:Act} {K:Act→World→Prop} {Q:Exit→Act→World→Prop} {E:Prop} (hgd:o.guard = Option.none) (x y:Operand) (ho:o.op = .store 204 x y)
  (g t:Nat) (old s:St) (hx:a.eval x = .pointer (some ⟨g,0,none⟩)) (hy:a.eval y = s.agg) (hw:Words w g t old.list) (h:K (a.put o.dst undef) (w.setRow g (s.list.map W32).toArray)):if Region.wanted o (yielded ops a.tmps) = true then Oper.wp Tryz.prog o a w K Q else E:=by
 rw [if_pos (by simp [Region.wanted,hgd])]
 have hy':a.eval y = .agg (s.list.map W32).toArray:=hy
 unfold Oper.wp execOp
 simp only [ho,hx,hy',Instr.storeAt,Instr.sureAddr,Sem.run_bind,Sem.run_pure,Result.andThen_ok,run_storeVar_row (P:=Tryz.prog) w g t 204 (old.list.map W32).toArray (s.list.map W32).toArray hw (by kernel_rfl) (by rfl) (words_one _)]
 exact h
theorem box_two (w:World) (A B:Array Value) (s t:Nat) (xs:List UInt32) (hB:B = (xs.map W32).toArray) :
  Words ((w.alloc (.cells A s)).alloc (.cells B t)) (w.heap.size + 1) t xs∧Below w.heap.size w ((w.alloc (.cells A s)).alloc (.cells B t))∧w.heap.size + 2 = ((w.alloc (.cells A s)).alloc (.cells B t)).heap.size:=by
 subst hB
 refine ⟨?_,((Below.refl _ w).alloc (Nat.le_refl _) _).alloc (by simp) _,by simp⟩
 have:=heap_alloc_new (w.alloc (.cells A s)) (.cells (xs.map W32).toArray t)
 rw [World.size_alloc] at this
 exact this
theorem app_kept {w w1:World} {o:Obj} {v:Value} {l:List UInt8} {base e:Nat} (ho1:Own8 (w.alloc o) base e v l) (ho:Own8 w base e v l) (hs:base ≤ w.heap.size) (hg:(w.alloc o).grownBy w1 v.ownBlock):Below base w w1:=
 ((Below.refl _ w).alloc hs _).grown hg (by simp;omega) (fun j hj=>(ho.lt j hj).1)
theorem len_byte (n j:Nat):Value.int .u8 ((n:Int) * 8 / 2 ^ j % 256) = B8 (UInt8.ofNat (8 * n / 2 ^ j % 256)):=by
 unfold B8
 congr 1
 rw [UInt8.toNat_ofNat',Nat.mod_mod,Nat.mul_comm]
 simp
theorem lenBytes_next (n k:Nat) (h:k < 8):(lenBytes n).take (k + 1) = (lenBytes n).take k ++ [UInt8.ofNat (8 * n / 2 ^ (56 - 8 * k) % 256)]:=by
 unfold lenBytes
 rw [← List.map_take,← List.map_take,List.take_range,List.take_range,Nat.min_eq_left (by omega),Nat.min_eq_left (by omega),List.range_succ,List.map_append]
 rfl
theorem outB_len (s:St):(outB s).length = 32:=by simp [outB]
theorem w32_out (x:UInt32) (j:Nat):Value.int .u8 (w32 x / 2 ^ j % 256) = B8 (UInt8.ofNat (x.toNat / 2 ^ j % 256)):=by
 unfold B8 w32
 congr 1
 rw [UInt8.toNat_ofNat',Nat.mod_mod]
 simp
theorem outB_next (s:St) (k:Nat) (h:k < 32):((outB s).take k ++ List.replicate (32 - k) 0).set k (UInt8.ofNat ((s.list.getD (k / 4) 0).toNat / 2 ^ (24 - 8 * (k % 4)) % 256)) = (outB s).take (k + 1) ++ List.replicate (32 - (k + 1)) 0:=by
 have hl:((outB s).take k).length = k:=by rw [List.length_take,outB_len];omega
 have hn:(outB s).take (k + 1) = (outB s).take k ++ [UInt8.ofNat ((s.list.getD (k / 4) 0).toNat / 2 ^ (24 - 8 * (k % 4)) % 256)]:=by
  unfold outB
  rw [← List.map_take,← List.map_take,List.take_range,List.take_range,Nat.min_eq_left (by omega),Nat.min_eq_left (by omega),List.range_succ,List.map_append]
  rfl
 rw [hn,show 32 - k = (32 - (k + 1)) + 1 from by omega,List.replicate_succ]
 rw [List.set_append_right _ _ (by omega),hl,Nat.sub_self,List.set_cons_zero,List.append_assoc,List.singleton_append]
theorem lenV_of {w:World} {v:Value} {l:List UInt8} {base e:Nat} (h:Own8 w base e v l):lenV v = l.length:=by
 obtain ⟨a,c,rfl⟩:=h.bytes.len
 rfl
theorem sum_start (w:World) (A B:Array Value) (hA:A = ((List.replicate 32 (0:UInt8)).map B8).toArray) (hB:B = (st0.list.map W32).toArray) (s t:Nat) :
  Octs ((w.alloc (.cells A s)).alloc (.cells B t)) w.heap.size s (List.replicate 32 0)∧Words ((w.alloc (.cells A s)).alloc (.cells B t)) (w.heap.size + 1) t st0.list ∧
   Below w.heap.size w ((w.alloc (.cells A s)).alloc (.cells B t))∧w.heap.size + 2 = ((w.alloc (.cells A s)).alloc (.cells B t)).heap.size:=by
 subst hA
 refine ⟨?_,box_two w _ B s t _ hB⟩
 exact (Below.heap_alloc _ _ _ (by simp)).trans (heap_alloc_new w _)
set_option maxRecDepth 100000 in
set_option maxHeartbeats 800000 in
theorem Sum_any (v:Value) (l:List UInt8) (w:World) (hl:Bytes w v l) (hlen:l.length ≤ 1099511627776) (hK:Consts w) :
  Calls Tryz.prog 73 #[v] w fun e w'=>e = .returned (.agg ((sumL l).map B8).toArray)∧Below w.heap.size w w':=by
 obtain ⟨i0,hi,hz0,hz1,hz2⟩:=info_parts infoU8
 obtain ⟨a,cp,hv⟩:=hl.len
 subst hv
 have HL:=Lib.hid hl
 have HK:=Lib.hid hK
 clear hl hK
 go_enter Tryz.func73,Tryz.ntmps73
 go_wp2
 generalize hW1:(w.alloc _).alloc _ = W1
 obtain ⟨hR,hS,hb,hsz⟩:Octs W1 w.heap.size 31 (List.replicate 32 0)∧Words W1 (w.heap.size + 1) 204 st0.list∧Below w.heap.size w W1∧w.heap.size + 2 = W1.heap.size:=by
  subst hW1
  exact sum_start w _ _ (by rfl) (by rfl) _ _
 clear hW1
 go_loopw [5] (fun iv wr=>∃ n:Nat,n ≤ l.length / 64∧iv = .int .i64 (64 * (n:Int))∧Words wr (w.heap.size + 1) 204 (chunksTo l n).list∧Octs wr w.heap.size 31 (List.replicate 32 0)∧Below w.heap.size w wr∧w.heap.size + 2 ≤ wr.heap.size)
  (fun iv _=>l.length - (intOf iv).toNat)
 case atStart=>exact ⟨0,by omega,rfl,hS,hR,hb,by omega⟩
 case round=>
  clear hS hR hb hsz
  obtain ⟨n,hn,rfl,hS,hR,hb,hsz⟩:=hrel
  by_cases hlt:n < l.length / 64
  ·obtain ⟨r,hrun,hr,_⟩:=HL.out.part (P:=Tryz.prog) (t:=33) Tryz.underlying33 hi hz1 (some (.int .i64 (64 * (n:Int)))) none (64 * n) l.length (by omega) (by omega) (.inr ⟨.i64,by simp⟩) (.inl ⟨rfl,rfl⟩)
   rw [List.take_of_length_le (by simp)] at hr
   have HS:=Lib.hid hS
   have HR:=Lib.hid hR
   have Hr:=Lib.hid hr
   have hr1:=Lib.hid (Hr.out.of_new hb.drew)
   have hK1:=Lib.hid (HK.out.of_new hb.drew)
   clear hS hR hr
   go_wp2
   refine wp_region_any (by kernel_rfl) ?_
   change wpAny _ _ _ _ _ _ _ (World.drew _)
   refine wpAny_take (i:=1) (v:=.slice a l.length cp) rfl (by kernel_rfl) (by kernel_rfl) (by kernel_rfl) (fun _ _ _ h=>h) (Or.inl ⟨by rfl,fun w=>by go_simp⟩) ?_
   refine wpAny_take (i:=2) (v:=.int .i64 (64 * (n:Int))) rfl (by kernel_rfl) (by kernel_rfl) (by kernel_rfl) (fun _ _ _ h=>h) (Or.inl ⟨by rfl,fun w=>by go_simp⟩) ?_
   refine wpAny_take (i:=3) (v:=r) rfl (by kernel_rfl) (by kernel_rfl) (by kernel_rfl) (fun _ _ _ h=>h) (Or.inl ⟨by rfl,fun w=>by go_simp⟩) ?_
   refine wpAny_ready (rs:=[0]) (by kernel_rfl) (by simp) ?_
   refine AllReady.cons rfl (fun K hK=>?_) AllReady.nil
   refine step_load_state rfl (.tmp 3) rfl (w.heap.size + 1) 204 (chunksTo l n) rfl HS.out ?_
   refine hK _ _ ?_
   clear hK K
   refine wpAny_ready (rs:=[4]) (by kernel_rfl) (by simp) ?_
   refine AllReady.cons rfl (fun K hK=>?_) AllReady.nil
   go_simp
   refine (take_any (chunksTo l n) r _ wr.drew hr1.out (by rw [List.length_drop];omega) hK1.out).mono ?_
   rintro e w2 ⟨rfl,hb2⟩
   have hb3:=hb2.size
   have hS2:=HS.out.of_block (hb2.block _ (by show _ < wr.heap.size;omega))
   have hR2:=HR.out.of_block (hb2.block _ (by show _ < wr.heap.size;omega))
   have hbA:=hb.drew.trans (hb2.mono (by show _ ≤ wr.heap.size;omega))
   have hszA:w.heap.size + 2 ≤ w2.heap.size:=by
    have:wr.heap.size ≤ w2.heap.size:=hb3
    omega
   refine hK _ _ ?_
   clear hK K hb2 hb3 HS HR
   refine wpAny_ready (rs:=[5]) (by kernel_rfl) (by simp) ?_
   refine AllReady.cons rfl (fun K hK=>?_) AllReady.nil
   refine step_store_state rfl (.tmp 3) (.tmp 25) rfl (w.heap.size + 1) 204 (chunksTo l n) (takeL (chunksTo l n) (l.drop (64 * n))) rfl rfl hS2 ?_
   refine hK _ _ ?_
   clear hK K
   refine wpAny_done (by kernel_rfl) ?_ _
   go_wp2
   go_roundw
   case rel=>
    refine ⟨n + 1,by omega,by go_num,?_,?_,hbA.trans (below_setRow' _ _ _ (by omega)),by simpa [World.setRow] using hszA⟩
    ·rw [chunksTo_next]
     exact hS2.laid _
    ·exact hR2.of_block (by simp only [World.setRow,Array.getElem?_modify];rw [if_neg (by omega)])
   case measure=>simp [intOf];omega
  ·obtain rfl:n = l.length / 64:=by omega
   clear hlt
   obtain ⟨r,hrun,hr,hrb⟩:=HL.out.part (P:=Tryz.prog) (t:=33) Tryz.underlying33 hi hz1 (some (.int .i64 ((l.length:Int) / 64 * 64))) none (l.length / 64 * 64) l.length (by omega) (by omega) (.inr ⟨.i64,by simp⟩) (.inl ⟨rfl,rfl⟩)
   rw [List.take_of_length_le (by simp)] at hr
   have HS:=Lib.hid hS
   have HR:=Lib.hid hR
   have Hr:=Lib.hid (hr.of_new hb)
   have one1:∀ W:World,Bytes (W.alloc (.cells #[.int .u8 128] 5)) (.slice (some ⟨W.heap.size,0,none⟩) 1 1) [128]:=fun W=>Bytes.one W 128 5
   clear hS hR hr hrb
   go_wp2_with fail
   refine (BClone_any r _ wr Hr.out (by rw [List.length_drop];omega)).mono ?_
   rintro e w1 ⟨v1,rfl,ho1,hb1⟩
   have ho:=Lib.hid (ho1.mono hsz)
   have hs1:=hb1.size
   have HS1:=Lib.hid (HS.out.of_block (hb1.block _ (by omega)))
   have HR1:=Lib.hid (HR.out.of_block (hb1.block _ (by omega)))
   have hbA:=hb.trans (hb1.mono (by omega))
   have hszA:w.heap.size + 2 ≤ w1.heap.size:=by omega
   have HO1:=Lib.hid (ho.out.alloc (.cells #[.int .u8 128] 5))
   clear ho1 hb1 HS HR hb Hr hs1 hsz
   go_wp2_with (at_builtin;refine wpList_app8 rfl (.tmp 29) (.tmp 30) 33 rfl (w.heap.size + 2) 5 i0 Tryz.underlying33 hi hz0 hz1 hz2 _ _ rfl HO1.out _ [128] rfl (one1 w1) ?c1 ?c2 ?_)
   case c1=>rw [List.length_drop];simp;omega
   case c2=>simp;omega
   intro v2 w2 ho2 hg2 _
   have hb2:=app_kept HO1.out ho.out hszA hg2
   have hs2:=hb2.size
   have HS2:=Lib.hid (HS1.out.of_block (hb2.block _ (by omega)))
   have HR2:=Lib.hid (HR1.out.of_block (hb2.block _ (by omega)))
   have hbB:=hbA.trans (hb2.mono (by omega))
   have hszB:w.heap.size + 2 ≤ w2.heap.size:=by omega
   obtain ⟨t0,et0⟩:∃ x,x = l.drop (l.length / 64 * 64):=⟨_,rfl⟩
   have ht0:t0.length = l.length % 64:=by rw [et0,List.length_drop];omega
   have Et0:=Lib.hid et0
   rw [← et0] at ho2
   clear HO1 HS1 HR1 hbA hb2 hg2 ho hs2 hszA et0
   go_wp2
   go_loopw [6] (fun tv wr=>∃ j:Nat,j ≤ zerosOf l.length∧Own8 wr (w.heap.size + 2) 5 tv (t0 ++ [128] ++ List.replicate j 0)∧Below (w.heap.size + 2) w2 wr)
    (fun tv _=>64 + l.length % 64 + 1 - lenV tv)
   case atStart=>exact ⟨0,by omega,by simpa using ho2,Below.refl _ _⟩
   case round=>
    clear ho2
    obtain ⟨j,hj,hown,hbr⟩:=hrel
    obtain ⟨T,eT⟩:∃ T,T = t0 ++ [128] ++ List.replicate j 0:=⟨_,rfl⟩
    have hT:T.length = l.length % 64 + 1 + j:=by rw [eT];simp;omega
    have ET:=Lib.hid eT
    rw [← eT] at hown
    have hlv:=lenV_of hown
    obtain ⟨oa,oc,rfl⟩:=hown.bytes.len
    have HO:=Lib.hid hown
    have hzz:zerosOf l.length < 64:=by unfold zerosOf;omega
    clear eT hown
    by_cases hne:(l.length % 64 + 1 + j) % 64 = 56
    ·have hjj:=zeros_end l.length j hne hj
     subst hjj
     go_wp2
     have hbC:=hbB.trans (hbr.mono (by omega))
     have hsr:=hbr.size
     have hszC:w.heap.size + 2 ≤ wr.heap.size:=by omega
     have HS3:=Lib.hid (HS2.out.of_block (hbr.block _ (by omega)))
     have HR3:=Lib.hid (HR2.out.of_block (hbr.block _ (by omega)))
     have hTl:T.length = l.length % 64 + 1 + zerosOf l.length:=hT
     have hff:(((l.length:Int) % 64 + 1 + (zerosOf l.length:Int)) % 64 != 56) = false:=by simp;omega
     rw [hT,hff]
     clear HS2 HR2 hbB hszB hsr hbr hj hne hlv hT hff
     go_loopw [6,39] (fun tv cv wx=>∃ k:Nat,k ≤ 8∧cv = .int .i64 k∧Own8 wx (w.heap.size + 2) 5 tv (T ++ (lenBytes l.length).take k)∧Below (w.heap.size + 2) wr wx)
      (fun _ cv _=>8 - (intOf cv).toNat)
     case atStart=>
      refine ⟨0,by omega,rfl,?_,Below.refl _ _⟩
      have h0:=HO.out
      rw [hTl] at h0
      simpa using h0
     case round=>
      obtain ⟨k,hk,rfl,hown,hbx⟩:=hrel
      obtain ⟨X,eX⟩:∃ X,X = T ++ (lenBytes l.length).take k:=⟨_,rfl⟩
      have hX:X.length = l.length % 64 + 1 + zerosOf l.length + k:=by rw [eX,List.length_append,List.length_take,lenBytes_len];omega
      rw [← eX] at hown
      have EX:=Lib.hid eX
      clear eX
      obtain ⟨oa,oc,rfl⟩:=hown.bytes.len
      have HX:=Lib.hid hown
      clear hown
      by_cases hlt:k < 8
      ·have HX1:=Lib.hid (HX.out.alloc (.cells #[.int .u8 ((l.length:Int) * 8 / 2 ^ (56 - 8 * k) % 256)] 5))
       have one1:∀ W:World,Bytes (W.alloc (.cells #[.int .u8 ((l.length:Int) * 8 / 2 ^ (56 - 8 * k) % 256)] 5)) (.slice (some ⟨W.heap.size,0,none⟩) 1 1) [UInt8.ofNat (8 * l.length / 2 ^ (56 - 8 * k) % 256)]:=fun W=>by
        rw [len_byte];exact Bytes.one W _ 5
       have hsx:=hbx.size
       go_wp2_with (at_builtin;refine wpList_app8 rfl (.tmp 42) (.tmp 52) 33 rfl (w.heap.size + 2) 5 i0 Tryz.underlying33 hi hz0 hz1 hz2 _ _ rfl HX1.out _ [UInt8.ofNat (8 * l.length / 2 ^ (56 - 8 * k) % 256)] rfl (one1 wr) ?d1 ?d2 ?_)
       case d1=>rw [hX];simp;omega
       case d2=>simp;omega
       intro v3 w3 ho3 hg3 _
       have hb3:=app_kept HX1.out HX.out (by omega) (by rw [← hX] at hg3;exact hg3)
       go_wp2
       go_roundw
       case rel=>
        refine ⟨k + 1,by omega,by go_num,?_,hbx.trans hb3⟩
        rw [lenBytes_next _ _ hlt,← List.append_assoc,← EX.out]
        exact ho3
       case measure=>simp [intOf];omega
      ·obtain rfl:k = 8:=by omega
       have eY:X = T ++ lenBytes l.length:=by rw [EX.out,List.take_of_length_le (by rw [lenBytes_len];omega)]
       rw [show ((8:Nat):Int) = 8 from rfl]
       have hsx:=hbx.size
       have hbD:=hbC.trans (hbx.mono (by omega))
       have HS4:=HS3.out.of_block (hbx.block _ (by omega))
       have HR4:=HR3.out.of_block (hbx.block _ (by omega))
       have eTail:X = tailL l:=by rw [eY,ET.out,Et0.out,tailL_eq]
       have hszD:w.heap.size + 2 ≤ wr.heap.size:=by omega
       have hXm:X.length % 64 = 0:=by rw [hX];unfold zerosOf;omega
       have hXl:X.length < 200:=by rw [hX];omega
       have HXO:=Lib.hid HX.out
       have ETL:=Lib.hid eTail
       have hKD:=HK.out.of_new hbD
       clear HS3 HR3 hbC hbx EX eY ET Et0 HX hsx hszC hk hlt hzz eTail
       have HXX:=Lib.hid hX
       clear hX
       go_wp2
       go_loopw [8] (fun iv wx=>∃ n:Nat,64 * n ≤ X.length∧iv = .int .i64 (64 * (n:Int))∧Words wx (w.heap.size + 1) 204 (chunksTo (padL l) (l.length / 64 + n)).list∧Octs wx w.heap.size 31 (List.replicate 32 0)∧Below w.heap.size w wx∧w.heap.size + 2 ≤ wx.heap.size∧Own8 wx (w.heap.size + 2) 5 (.slice oa X.length oc) X)
        (fun iv _=>X.length - (intOf iv).toNat)
       case atStart=>exact ⟨0,by omega,rfl,by rw [Nat.add_zero,padL_whole _ _ (by omega)];exact HS4,HR4,hbD,hszD,HXO.out⟩
       case round=>
        clear HS4 HR4 hbD
        clear HXO hKD hszD
        obtain ⟨n,hn,rfl,hS,hR,hbE,hszE,hown⟩:=hrel
        have HX:=Lib.hid hown
        clear hown
        have HS:=Lib.hid hS
        have HR:=Lib.hid hR
        clear hS hR
        by_cases hlt:64 * n < X.length
        ·obtain ⟨r2,hrun2,hr2,_⟩:=HX.out.bytes.part (P:=Tryz.prog) (t:=33) Tryz.underlying33 hi hz1 (some (.int .i64 (64 * (n:Int)))) none (64 * n) X.length (by omega) (by omega) (.inr ⟨.i64,by simp⟩) (.inl ⟨rfl,rfl⟩)
         rw [List.take_of_length_le (by simp)] at hr2
         have hXn:64 * n + 64 ≤ X.length:=by omega
         have Hr:=Lib.hid (hr2.of_new (below_drewn 1))
         have hK1:=Lib.hid (HK.out.of_new hbE.drew)
         clear hr2
         go_wp2
         refine wp_region_any (by kernel_rfl) ?_
         change wpAny _ _ _ _ _ _ _ (World.drew _)
         refine wpAny_take (i:=1) (v:=.slice oa X.length oc) rfl (by kernel_rfl) (by kernel_rfl) (by kernel_rfl) (fun _ _ _ h=>h) (Or.inl ⟨by rfl,fun w=>by go_simp⟩) ?_
         refine wpAny_take (i:=2) (v:=.int .i64 (64 * (n:Int))) rfl (by kernel_rfl) (by kernel_rfl) (by kernel_rfl) (fun _ _ _ h=>h) (Or.inl ⟨by rfl,fun w=>by go_simp⟩) ?_
         refine wpAny_take (i:=3) (v:=r2) rfl (by kernel_rfl) (by kernel_rfl) (by kernel_rfl) (fun _ _ _ h=>h) (Or.inl ⟨by rfl,fun w=>by go_simp⟩) ?_
         refine wpAny_ready (rs:=[0]) (by kernel_rfl) (by simp) ?_
         refine AllReady.cons rfl (fun K hK=>?_) AllReady.nil
         refine step_load_state rfl (.tmp 3) rfl (w.heap.size + 1) 204 (chunksTo (padL l) (l.length / 64 + n)) rfl HS.out ?_
         refine hK _ _ ?_
         clear hK K
         refine wpAny_ready (rs:=[4]) (by kernel_rfl) (by simp) ?_
         refine AllReady.cons rfl (fun K hK=>?_) AllReady.nil
         go_simp
         refine (take_any (chunksTo (padL l) (l.length / 64 + n)) r2 _ wr.drew Hr.out (by rw [List.length_drop];omega) hK1.out).mono ?_
         rintro e w2 ⟨rfl,hb2⟩
         have hb3:wr.heap.size ≤ w2.heap.size:=hb2.size
         have hb2':Below wr.heap.size wr w2:=(below_drewn 1).trans hb2
         have hS2:=HS.out.of_block (hb2'.block _ (by omega))
         have hR2:=HR.out.of_block (hb2'.block _ (by omega))
         have hbA:=hbE.trans (hb2'.mono (by omega))
         have hszA:w.heap.size + 2 ≤ w2.heap.size:=by omega
         have hX2:=HX.out.new hb2'
         refine hK _ _ ?_
         clear hK K hb2 hb3 HS HR
         refine wpAny_ready (rs:=[5]) (by kernel_rfl) (by simp) ?_
         refine AllReady.cons rfl (fun K hK=>?_) AllReady.nil
         refine step_store_state rfl (.tmp 3) (.tmp 65) rfl (w.heap.size + 1) 204 (chunksTo (padL l) (l.length / 64 + n)) (takeL (chunksTo (padL l) (l.length / 64 + n)) (X.drop (64 * n))) rfl rfl hS2 ?_
         refine hK _ _ ?_
         clear hK K
         refine wpAny_done (by kernel_rfl) ?_ _
         go_wp2
         go_roundw
         case rel=>
          refine ⟨n + 1,by omega,by go_num,?_,?_,hbA.trans (below_setRow' _ _ _ (by omega)),by simpa [World.setRow] using hszA,hX2.kept (grown_setRow _ _ _) (.inr ?_)⟩
          ·rw [← Nat.add_assoc,padL_next,← ETL.out]
           exact hS2.laid _
          ·exact hR2.of_block (by simp only [World.setRow,Array.getElem?_modify];rw [if_neg (by omega)])
          ·intro he
           have:=hX2.lt _ he
           omega
         case measure=>simp [intOf];omega
        ·have hS4:=HS.out
         have es:chunksTo (padL l) (l.length / 64 + n) = chunksTo (padL l) ((padL l).length / 64):=by
          congr 1
          have e1:=tailL_len l
          rw [← ETL.out] at e1
          have e2:=padL_len l
          omega
         rw [es] at hS4
         obtain ⟨s,hs⟩:∃ s,s = chunksTo (padL l) ((padL l).length / 64):=⟨_,rfl⟩
         rw [← hs] at hS4
         have hout:sumL l = outB s:=by rw [hs];rfl
         have HOUT:=Lib.hid hout
         have HS4:=Lib.hid hS4
         clear hS4 hs hout es HS HX ETL HXX
         go_wp2
         obtain ⟨W3,eW3⟩:∃ W,W = wr.alloc (.cells #[.int .u8 0,.int .u8 0,.int .u8 0,.int .u8 0,.int .u8 0,.int .u8 0,.int .u8 0,.int .u8 0,.int .u8 0,.int .u8 0,.int .u8 0,.int .u8 0,.int .u8 0,.int .u8 0,.int .u8 0,.int .u8 0,.int .u8 0,.int .u8 0,.int .u8 0,.int .u8 0,.int .u8 0,.int .u8 0,.int .u8 0,.int .u8 0,.int .u8 0,.int .u8 0,.int .u8 0,.int .u8 0,.int .u8 0,.int .u8 0,.int .u8 0,.int .u8 0] 31):=⟨_,rfl⟩
         rw [← eW3]
         have hD0:Octs W3 wr.heap.size 31 (List.replicate 32 0):=by
          rw [eW3];exact heap_alloc_new wr _
         have hb3:Below wr.heap.size wr W3:=by rw [eW3];exact (Below.refl _ wr).alloc (Nat.le_refl _) _
         have hS5:=HS4.out.of_block (hb3.block _ (by omega))
         have hR5:=HR.out.of_block (hb3.block _ (by omega))
         have hb5:=hbE.trans (hb3.mono (by omega))
         obtain ⟨g,hg⟩:∃ g,g = wr.heap.size:=⟨_,rfl⟩
         rw [← hg] at hD0 ⊢
         have hg2:w.heap.size + 2 ≤ g:=by omega
         clear HS4 HR hb3 eW3 hg hlt hn
         go_loopw [66] (fun iv wx=>∃ k:Nat,k ≤ 32∧iv = .int .i64 k∧Words wx (w.heap.size + 1) 204 s.list∧Octs wx w.heap.size 31 (List.replicate 32 0)∧Below w.heap.size w wx∧Octs wx g 31 ((outB s).take k ++ List.replicate (32 - k) 0))
          (fun iv _=>32 - (intOf iv).toNat)
         case atStart=>exact ⟨0,by omega,rfl,hS5,hR5,hb5,by simpa using hD0⟩
         case round=>
          clear hS5 hR5 hb5 hD0
          obtain ⟨k,hk,rfl,hS,hR,hb,hD⟩:=hrel
          by_cases hlt:k < 32
          ·obtain ⟨x,hx⟩:∃ x,x = s.list.getD (k / 4) 0:=⟨_,rfl⟩
           have hc:=hS.cell (j:=k / 4) (by show _ < 8;omega)
           rw [← hx] at hc
           unfold W32 at hc
           have hfr:=hD.free k
           have hck:=hD.cell (j:=k) (by rw [List.length_append,List.length_take,outB_len,List.length_replicate];omega)
           have hq0:(0:Int) ≤ (k:Int) / 4:=by omega
           have hq1:(k:Int) / 4 < 8:=by omega
           have HX:=Lib.hid hx
           have HS:=Lib.hid hS
           have HR:=Lib.hid hR
           have HD:=Lib.hid hD
           clear hx hS hR hD
           go_wp2
           go_roundw
           case rel=>
            refine ⟨k + 1,by omega,by go_num,HS.out.of_block (Below.heap_setCell _ _ _ _ (by simp;omega)),HR.out.of_block (Below.heap_setCell _ _ _ _ (by simp;omega)),hb.setCell (by simp;omega) _,?_⟩
            rw [w32_out,← outB_next s k hlt]
            rw [← HX.out]
            exact HD.out.set k _
           case measure=>simp [intOf];omega
          ·obtain rfl:k = 32:=by omega
           rw [show 32 - 32 = 0 from rfl,List.replicate_zero,List.append_nil,List.take_of_length_le (by rw [outB_len];omega)] at hD
           rw [show ((32:Nat):Int) = 32 from rfl]
           have HR:=Lib.hid hR
           have HB:=Lib.hid hb
           clear hR hb hS
           go_wp2_with (first | (refine wpList_load_row rfl 31 _ rfl g rfl _ _ _ _ hD Tryz.underlying31 rfl ?hi ?_;(case hi=>rw [info_dig];simp [outB_len])) | (refine wpList_store_row rfl 31 _ _ rfl w.heap.size 31 _ _ rfl rfl HR.out ?hj ?hk (octs_one _) ?_;(case hj=>rw [info_dig];simp [outB_len]);(case hk=>simp [outB_len])))
           rw [HOUT.out]
           refine bodyPost_ret (results_cell rfl _ rfl (run_loadVar_row _ _ 31 _ ((outB s).map B8).toArray (0,0) _ (setRow_heap _ _ _ _ _ _ HR.out) Tryz.underlying31 rfl (by rw [info_dig];simp [outB_len]))) rfl ⟨rfl,?_⟩
           exact HB.out.trans (below_setRow' _ _ _ (Nat.le_refl _))
    ·have hj1:=zeros_step l.length j hne hj
     have HO1:=Lib.hid (HO.out.alloc (.cells #[.int .u8 0] 5))
     have one1:∀ W:World,Bytes (W.alloc (.cells #[.int .u8 0] 5)) (.slice (some ⟨W.heap.size,0,none⟩) 1 1) [0]:=fun W=>Bytes.one W 0 5
     have hsr:=hbr.size
     go_wp2_with (at_builtin;refine wpList_app8 rfl (.tmp 36) (.tmp 37) 33 rfl (w.heap.size + 2) 5 i0 Tryz.underlying33 hi hz0 hz1 hz2 _ _ rfl HO1.out _ [0] rfl (one1 wr) ?c1 ?c2 ?_)
     case c1=>rw [hT];simp;omega
     case c2=>simp;omega
     intro v3 w3 ho3 hg3 _
     have hb3:=app_kept HO1.out HO.out (by omega) (by rw [← hT] at hg3;exact hg3)
     go_wp2
     go_roundw
     case rel=>
      refine ⟨j + 1,hj1,?_,hbr.trans hb3⟩
      rw [List.replicate_succ',← List.append_assoc,← ET.out]
      exact ho3
     case measure=>
      have hl3:=lenV_of ho3
      rw [List.length_append,hT] at hl3
      simp only [List.length_singleton] at hl3
      omega
theorem sumL_len (l:List UInt8):(sumL l).length = 32:=outB_len _
end Go.Proofs.YtnohglkilpnjhaaGreatDoor
namespace Go.Proofs.YtnohglkilpnjhaaGreatDoor
def len8 (n:Nat):List UInt8:=(List.range 8).map fun i=>UInt8.ofNat (n / 256 ^ i % 256)
def partL (p:List UInt8):List UInt8:=len8 p.length ++ p
def partsL (tag:UInt8) (ps:List (List UInt8)):List UInt8:=[tag] ++ ps.flatMap partL
theorem len8_len (n:Nat):(len8 n).length = 8:=by simp [len8]
theorem len8_next (n k:Nat) (h:k < 8):(len8 n).take (k + 1) = (len8 n).take k ++ [UInt8.ofNat (n / 256 ^ k % 256)]:=by
 unfold len8
 rw [← List.map_take,← List.map_take,List.take_range,List.take_range,Nat.min_eq_left (by omega),Nat.min_eq_left (by omega),List.range_succ,List.map_append]
 rfl
theorem partL_len (p:List UInt8):(partL p).length = 8 + p.length:=by simp [partL,len8_len]
theorem partsTo_next (tag:UInt8) (ps:List (List UInt8)) (k:Nat) (h:k < ps.length):partsL tag (ps.take (k + 1)) = partsL tag (ps.take k) ++ len8 (ps.getD k []).length ++ ps.getD k []:=by
 unfold partsL
 rw [List.take_succ_eq_append_getElem h,List.flatMap_append]
 simp [partL,List.getD_eq_getElem?_getD,List.getElem?_eq_getElem h]
theorem partsL_len (tag:UInt8) (ps:List (List UInt8)) (m:Nat) (h:∀ p ∈ ps,p.length ≤ m):(partsL tag ps).length ≤ 1 + ps.length * (8 + m):=by
 unfold partsL
 rw [List.length_append]
 have:(ps.flatMap partL).length ≤ ps.length * (8 + m):=by
  induction ps with
  | nil=>simp
  | cons p ps ih=>
   have h1:=ih (fun x hx=>h x (by simp [hx]))
   have h2:=h p (by simp)
   simp only [List.flatMap_cons,List.length_append,partL_len,List.length_cons,Nat.add_mul,Nat.one_mul]
   omega
 simp only [List.length_singleton];omega
end Go.Proofs.YtnohglkilpnjhaaGreatDoor

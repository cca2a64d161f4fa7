/- Lemmas that the statement of this claim leans on; their own comments are taken out, for the size of the claim. No condition beyond what each lemma states. -/
import Derived.Test.YtnohglkilpnjhaaGreatDoorSc13
import Derived.LoopNIn
import Derived.LoopIn
import Derived.Shelf.RegionOpen
import Derived.Sort.QuietIn
import Derived.Deep.DeepCutAuto
import Derived.Deep.Cut
import Derived.BigQuiet
set_option linter.unusedVariables false
set_option linter.unusedSimpArgs false
set_option linter.unusedSectionVars false
namespace Go.Proofs.YtnohglkilpnjhaaGreatDoor
open Go.RowKit Go.Shelf
attribute [local go_sem] Oper.semAt_some
set_option maxRecDepth 100000
def chunksL (b:List UInt8) (k:Nat):List (List UInt8):=(List.range ((b.length + k - 1) / k)).map fun i=>(b.drop (i * k)).take k
theorem chunksL_len (b:List UInt8) (k:Nat):(chunksL b k).length = (b.length + k - 1) / k:=by simp [chunksL]
theorem chunks_lt {b:List UInt8} {k j:Nat} (hk:0 < k):j * k < b.length↔j < (chunksL b k).length:=by
 rw [chunksL_len]
 constructor
 ·intro h
  exact (Nat.le_div_iff_mul_le hk).2 (by rw [Nat.succ_mul];omega)
 ·intro h
  have:=(Nat.le_div_iff_mul_le hk).1 h
  rw [Nat.succ_mul] at this;omega
theorem chunks_take {b:List UInt8} {k j:Nat} (h:j < (chunksL b k).length):(chunksL b k).take (j + 1) = (chunksL b k).take j ++ [(b.drop (j * k)).take k]:=by
 rw [List.take_add_one,List.getElem?_eq_getElem h]
 simp [chunksL]
theorem chunks_le {b:List UInt8} {k:Nat}:∀ c ∈ chunksL b k,c.length ≤ k:=fun c hc=>by
 obtain ⟨i,_,rfl⟩:=List.mem_map.1 hc
 rw [List.length_take];omega
theorem Bytes.part3 {P:Program} {w:World} {v:Value} {l:List UInt8} {t e:TypeId} {i:TypeInfo} (h:Bytes w v l) (ht:P.underlying t = some (.slice e)) (hi0:P.info? e = some i) (hsz:i.size = 1) (lo hi:Nat) (h1:lo < hi) (h2:hi ≤ l.length) :
  ∃ a c,(∀ W:World,(Instr.slice t v (some (.int .i64 (lo:Int))) (some (.int .i64 (hi:Int))) (some (.int .i64 (hi:Int)))).run P W = .ok (.slice a (hi - lo) c) W)∧Bytes w (.slice a (hi - lo) c) ((l.drop lo).take (hi - lo)):=by
 obtain ⟨_,a,c,rfl,hn,hm,hnil,hc⟩:=h
 have e:((l.drop lo).take (hi - lo)).length = hi - lo:=by simp;omega
 have hb:(Instr.sliceBounds true l.length c (some (.int .i64 (lo:Int))) (some (.int .i64 (hi:Int))) (some (.int .i64 (hi:Int)))).run P = fun W=>.ok (lo,hi,hi) W:=by
  funext W
  simp [Instr.sliceBounds,run_sliceBound,Sem.run_bind,Sem.run_pure,show hi ≤ c by omega,show lo ≤ hi by omega]
 refine ⟨if hi = lo then a else a.map (·.add (lo * 1)),hi - lo,fun W=>?_,?_⟩
 ·simp [Instr.slice,run_underlying ht,hb,sizeOf,typeInfo,hi0,hsz,Sem.run_bind,Sem.run_pure]
 ·obtain ⟨bb,off,rfl,hlt,hcell⟩:=hc (by omega)
  unfold Bytes
  rw [e]
  refine ⟨by simp;omega,_,hi - lo,rfl,Nat.le_refl _,by unfold maxLen at *;omega,?_,fun _=>⟨bb,off + lo,?_,hlt,fun j hj=>?_⟩⟩
  ·intro h
   rw [if_neg (by omega)] at h
   cases h
  ·rw [if_neg (by omega)]
   simp only [Option.map_some,Addr.add,Nat.mul_one]
   split
   ·rename_i h0;simp [h0]
   ·rfl
  ·rw [Nat.add_assoc,hcell (lo + j) (by omega),List.map_take,List.map_drop,List.getElem?_take,if_pos (by omega),List.getElem?_drop]
set_option maxHeartbeats 800000 in
theorem Chunk_any (a:Option Addr) (n c:Nat) (k:Int) (hk:1 ≤ k) (w:World) :
  Calls Tryz.prog 122 #[.slice a n c,.int .i64 k] w fun e w'=>
   e = .returned (.func (.func 163) #[] #[.pointer (some ⟨w.heap.size,0,none⟩),.pointer (some ⟨w.heap.size + 1,0,none⟩)])∧w' = (w.alloc (.cells #[.slice a n c] 33)).alloc (.cells #[.int .i64 k] 3):=by
 have h0:¬ k < 1:=by omega
 go_enter Tryz.func122,Tryz.ntmps122
 go_wp2
 go_ret
 exact ⟨rfl,rfl⟩
abbrev encC (x:List UInt8 × Value):Array Value:=#[x.2]
def ChunkIt (w0:World) (b:List UInt8) (k:Nat) (pre:List (List UInt8 × Value)) (x:List UInt8 × Value) (W:World):Prop:=(pre ++ [x]).map (·.1) <+: chunksL b k∧Bytes w0 x.2 x.1
def ChunkI (w0:World) (bs bn:Nat) (v:Value) (b:List UInt8) (k:Nat) (J:List (List UInt8 × Value)→World→Prop) (iv:Value) (wr:World):Prop:=
 ∃ (pre:List (List UInt8 × Value)),iv = .int .i64 ((pre.length * k:Nat):Int)∧pre.map (·.1) = (chunksL b k).take pre.length∧pre.length ≤ (chunksL b k).length∧J pre wr∧One wr bs v 33∧One wr bn (.int .i64 (k:Int)) 3
set_option maxHeartbeats 3200000 in
theorem chunk_seq (n:Nat) (hn:1 ≤ n) (bs bn n0:Nat) (v:Value) (b:List UInt8) (k:Nat) (hk:1 ≤ k) (hk2:k ≤ 1048576) (hlen:b.length ≤ 1099511627776) (W w0:World) (hc1:One W bs v 33) (hc2:One W bn (.int .i64 (k:Int)) 3) (hl:Bytes w0 v b) :
  SeqT Fence.wide n Tryz.prog 163 #[.pointer (some ⟨bs,0,none⟩),.pointer (some ⟨bn,0,none⟩)] encC (ChunkIt w0 b k)
   (fun xs=>xs.map (·.1) = chunksL b k) (fun j=>j = bs∨j = bn) n0 (chunksL b k).length W:=fun l J hJ hY h0=>by
 obtain ⟨i0,hi,hz0,hz1,hz2⟩:=info_parts infoU8
 obtain ⟨G,hG⟩:∃ G:Nat→Prop,G = fun j=>j = bs∨j = bn:=⟨_,rfl⟩
 have hGF:Fresh (fun j=>j = bs∨j = bn) G W:=fun j hj=>.inr (by rw [hG] at hj;exact hj)
 have hJG:=hJ G hGF
 have hYG:=fun pre x W1=>hY G pre x W1 hGF
 have h0G:=h0 G W hGF (Below.refl _ W)
 have hG1:G bs:=by rw [hG];exact .inl rfl
 have hG2:G bn:=by rw [hG];exact .inr rfl
 have hGl:∀ wr:World,bs < wr.heap.size→bn < wr.heap.size→∀ j,G j→j < wr.heap.size:=fun wr h1 h2 j hj=>by
  rw [hG] at hj;rcases hj with rfl | rfl <;> assumption
 clear hJ hY h0
 refine (CallsIn.mono (R:=fun e W'=>(∃ v,e = .returned v)∧∃ xs,xs.map (·.1) = chunksL b k∧J G xs W') ?_ (fun e W' h=>⟨h.1,G,by obtain ⟨_,xs,h1,h2⟩:=h;exact ⟨xs,hGF,h1,h2⟩⟩))
 clear hGF hG
 obtain ⟨va,vc,hv⟩:=hl.len
 subst hv
 refine callsIn_of_wp Tryz.func163 rfl trivial ?_ rfl
 simp only [Tryz.ntmps163,List.size_toArray,List.length_cons,List.length_nil,Nat.reduceAdd,Nat.reduceSub,Array.replicate_succ,Array.replicate_zero,List.push_toArray,List.append_toArray,List.nil_append,List.cons_append]
 gi_wp2
 gi_loopw [4] (ChunkI w0 bs bn (.slice va b.length vc) b k (J G)) (fun iv _=>b.length - (intOf iv).toNat)
 case atStart=>exact ⟨[],by simp,by simp,by simp,h0G,hc1,hc2⟩
 case round=>
  clear h0G hc1 hc2
  obtain ⟨pre,rfl,hpre,hple,hj,o1,o2⟩:=hrel
  obtain ⟨j,hj0⟩:∃ j,pre.length = j:=⟨_,rfl⟩
  rw [hj0] at hpre hple ⊢
  have c1:=o1.cell
  have c2:=o2.cell
  by_cases hlt:j * k < b.length
  ·have hjc:=(chunks_lt (b:=b) (j:=j) (by omega)).1 hlt
   have hsnoc:=chunks_take hjc
   rw [← hpre] at hsnoc
   have hstep:(j + 1) * k = j * k + k:=Nat.succ_mul j k
   have hcl:j * k + k ≤ 1099512676352:=by omega
   obtain ⟨m,hm⟩:∃ m,j * k = m:=⟨_,rfl⟩
   rw [hm] at hlt hsnoc hstep hcl ⊢
   obtain ⟨tv,hrt,ht,_⟩:=hl.part (P:=Tryz.prog) (t:=33) Tryz.underlying33 hi hz1 (some (.int .i64 (m:Int))) none m b.length (by omega) (Nat.le_refl _) (.inr ⟨.i64,rfl⟩) (.inl ⟨rfl,rfl⟩)
   rw [List.take_of_length_le (by simp)] at ht
   have hD:(b.drop m).length = b.length - m:=by simp
   obtain ⟨e,he⟩:∃ e,min k (b.length - m) = e:=⟨_,rfl⟩
   obtain ⟨pa,pc,hr3,hp3⟩:=hl.part3 (P:=Tryz.prog) (t:=33) Tryz.underlying33 hi hz1 m (m + e) (by omega) (by omega)
   have hpe:(b.drop m).take (m + e - m) = (b.drop m).take k:=by
    rw [show m + e - m = e by omega,← he]
    rw [List.take_eq_take_iff];simp
   rw [hpe,show m + e - m = e by omega] at hp3
   rw [show m + e - m = e by omega,Int.natCast_add] at hr3
   have hlt2:(m:Int) < (b.length:Int):=by omega
   have hpre2:(pre ++ [((b.drop m).take k,Value.slice pa e pc)]).map (·.1) = (chunksL b k).take (j + 1):=by rw [hsnoc];simp
   have hyg:=fun (wq:World) (hq:Below wr.heap.size wr wq)=>hYG pre ((b.drop m).take k,.slice pa e pc) wq (hGl _ ((o1.of_new hq).lt) ((o2.of_new hq).lt)) (hJG _ _ _ hj ((Kept.refl _ wr).below hq)) ⟨by rw [hpre2];exact List.take_prefix _ _,hp3⟩ (by omega)
   dsimp only [encC] at hyg
   have hpl:(pre ++ [((b.drop m).take k,Value.slice pa e pc)]).length = j + 1:=by simp [hj0]
   have HP:=Lib.hid hpre2
   have HPL:=Lib.hid hpl
   clear hsnoc hpe hpre hpre2 hpl hp3
   obtain ⟨D,hDD⟩:∃ D,b.drop m = D:=⟨_,rfl⟩
   rw [hDD] at ht hD HP HPL hyg
   clear hDD
   obtain ⟨ta,tc,hv⟩:=ht.len
   subst hv
   have hcase:(k ≤ D.length∧e = k)∨(D.length < k∧e = D.length):=by omega
   clear ht
   have HD:=Lib.hid hD
   clear hD
   rcases hcase with ⟨hc,hek⟩ | ⟨hc,hek⟩
   all_goals
    rw [hek] at hr3 hyg HPL HP he
    clear hek
    have hcI:((D.length:Nat):Int) ≤ 1099511627776:=by have:=HD.out;omega
    have hw1:IntKind.i64.wrap ((m:Int) + (k:Int)) = (m:Int) + (k:Int):=IntWalk.i64_in _ (by omega)
    have hw2:IntKind.i64.wrap ((m:Int) + (D.length:Int)) = (m:Int) + (D.length:Int):=IntWalk.i64_in _ (by omega)
    gi_wp2
    gi_quiet (fail)
    obtain ⟨fn,tmps,assign,body,hy,hR⟩:=hyg (wr.drewN nq) (below_drewn nq)
    clear hyg hYG
    gi_wp2
    refine hR.mono ?_
    rintro e W3 ⟨rfl,hJ3,hk3⟩
    have o1':=o1.of_block ((hk3.block _ (by simpa using o1.lt) (.inl hG1)).trans rfl)
    have o2':=o2.of_block ((hk3.block _ (by simpa using o2.lt) (.inl hG2)).trans rfl)
    have c2':=o2'.cell
    gi_wp2
    refine ⟨⟨_,?_,?_,?_,hJ3,o1',o2'⟩,?_⟩
    ·rw [HPL.out,hstep,Int.natCast_add]
    ·rw [HPL.out];exact HP.out
    ·rw [HPL.out];exact hjc
    ·simp only [intOf];omega
  ·have hge:¬ (((j * k:Nat):Int) < (b.length:Int)):=by omega
   have hjc:¬ j < (chunksL b k).length:=fun h=>hlt ((chunks_lt (by omega)).2 h)
   obtain ⟨m,hm⟩:∃ m,j * k = m:=⟨_,rfl⟩
   rw [hm] at hge ⊢
   have he:pre.map (·.1) = chunksL b k:=by rw [hpre,List.take_of_length_le (by omega)]
   have HE:=Lib.hid he
   clear he hpre
   gi_wp2
   go_end0
   exact ⟨⟨_,rfl⟩,pre,HE.out,hj⟩
end Go.Proofs.YtnohglkilpnjhaaGreatDoor
namespace Go.Proofs.YtnohglkilpnjhaaGreatDoor
open Go.RowKit Go.Shelf
attribute [local go_sem] Oper.semAt_some
set_option maxRecDepth 100000
theorem wp_store_fresh {w:World} {A:Array Value} {op:Oper} {a:Act} {K:Act→World→Prop} {Q:Exit→Act→World→Prop} (x y:Operand) (d:List UInt8) (ho:op.op = .store 31 x y)
  (hx:a.eval x = .pointer (some ⟨w.heap.size,0,none⟩)) (hy:a.eval y = .agg (d.map B8).toArray) (hA:A.size = 32) (hd:d.length = 32)
  (h:∀ w',DigAt w' w.heap.size 0 d→Below w.heap.size w w'→w.heap.size < w'.heap.size→K (a.put op.dst undef) w'):op.wp Tryz.prog a (w.alloc (.cells A 31)) K Q:=by
 have hrun:=run_storeVar_row (P:=Tryz.prog) (w.alloc (.cells A 31)) w.heap.size 31 31 A (d.map B8).toArray (heap_alloc_new w _) (by rw [info_dig];simp [hd]) (by simp [hA,hd]) (octs_one d)
 have ho':Octs ((w.alloc (.cells A 31)).setRow w.heap.size (d.map B8).toArray) w.heap.size 31 d:=setRow_heap _ _ _ _ _ _ (heap_alloc_new w _)
 unfold Oper.wp execOp
 simp only [ho,hx,hy,Instr.storeAt,Instr.sureAddr,Sem.run_bind,Sem.run_pure,Result.andThen_ok,hrun]
 exact h _ (ho'.digAt hd) (((Below.refl _ w).alloc (Nat.le_refl _) _).trans (below_setRow' _ _ _ (Nat.le_refl _))) (by simp [World.setRow])
abbrev encD (x:List UInt8):Array Value:=#[.agg (x.map B8).toArray]
def CollI (w:World) (n0:Nat) (G:Nat→Prop) (pre:List (List UInt8)) (W:World):Prop:=
 ∃ ov,One W w.heap.size ov 34∧OwnD W (w.heap.size + 3) ov pre∧(∀ k,ov.ownBlock = some k→¬ G k)∧Below n0 w W∧w.heap.size + 1 ≤ W.heap.size
def CollG (w:World) (tm:Value→Value→Array Value) (x:List UInt8) (a:Act) (W:World):Prop:=
 ∃ g,w.heap.size + 3 ≤ g∧DigAt W g 0 x∧g < W.heap.size∧a = { tmps:=tm (.pointer (some ⟨g,0,none⟩)) (.agg (x.map B8).toArray),defers:=[] }
set_option maxHeartbeats 1600000 in
theorem AppendSeqD_any (gf:Nat) (lb:Array Value) (L:List (List UInt8)) (n0:Nat) (O:Nat→Prop) (w:World) (h32:Dig32 L) (hL:L.length ≤ 1048576) (hn0:n0 ≤ w.heap.size) (hO:∀ k,O k→n0 ≤ k∧k < w.heap.size)
  (eg:∀ args w,(callFunc gf args).run Tryz.prog w = .ok (.enter gf args) w)
  (hseq:∀ W1,Below w.heap.size w W1→w.heap.size ≤ W1.heap.size→SeqT Fence.wide 4 Tryz.prog gf lb encD (fun pre x _=>pre ++ [x] <+: L) (fun xs=>xs = L) O n0 L.length W1) :
  Calls Tryz.prog 120 #[.slice none 0 0,.func (.func gf) #[] lb] w fun e w'=>∃ v,e = .returned v∧OwnD w' w.heap.size v L∧Below n0 w w':=by
 refine (callsIn_wide (n:=5)).1 ?_
 refine callsIn_of_wp_marks Tryz.func120 rfl trivial ?_ rfl
 simp only [Tryz.ntmps120,List.size_toArray,List.length_cons,List.length_nil,Nat.reduceAdd,Nat.reduceSub,Array.replicate_succ,Array.replicate_zero,List.push_toArray,List.append_toArray,List.nil_append,List.cons_append]
 gi_wp2
 generalize hW0:w.alloc _ = W0
 obtain ⟨hsz,hB0,o1⟩:W0.heap.size = w.heap.size + 1∧Below w.heap.size w W0∧One W0 w.heap.size (.slice none 0 0) 34:=by
  subst hW0
  exact ⟨by simp,(Below.refl _ w).alloc (Nat.le_refl _) _,heap_alloc_new _ _⟩
 clear hW0
 refine wpIn_rangeFunc_total (F:=Fence.wide) (n:=5) rfl (by omega) (gf:=gf) (lb:=lb) rfl trivial eg (encs:=encD) (It:=fun pre x _=>pre ++ [x] <+: L) (S:=fun xs=>xs = L) (O:=O) (n0:=n0) (N:=L.length) (by omega) (fun k h=>by have:=(hO k h).2;omega)
  (fun W1 hb1 hs1=>hseq W1 (hB0.trans (hb1.mono (by omega))) (by omega)) (fun _=>rfl)
  (CollI w n0)
  (fun G s A B hG hs hk=>by
   obtain ⟨ov,a1,a2,a3,a4,a5⟩:=hs
   refine ⟨ov,a1.of_block (hk.block _ a1.lt ⟨fun h=>?_,by omega⟩),a2.kept (U:=fun _=>True) (fun k hk2=>hk.block _ (a2.lt k hk2).2 ⟨a3 k hk2,?_⟩),a3,hk.to_below a4 (by omega) (fun k hk2=>⟨fun h=>?_,by omega⟩),Nat.le_trans a5 hk.size⟩
   ·rcases hG _ h with h | h
    ·omega
    ·have:=(hO _ h).2;omega
   ·have:=(a2.lt k hk2).1;omega
   ·rcases hG _ h with h | h
    ·omega
    ·have:=(hO _ h).1;omega)
  (fun _ _ _ _ h _=>h)
  (fun G W' hG hb=>⟨.slice none 0 0,o1.of_block (hb.block _ (by omega)),OwnD.nil _ _,(fun k h=>by cases h),(hB0.trans (hb.mono (by omega))).mono hn0,by have:=hb.size;omega⟩)
  (CollG w fun p y=>#[.slice none 0 0,.func (.func gf) #[] lb,.pointer (some ⟨w.heap.size,0,none⟩),undef,.slice none 0 0,p,.func (.func gf) #[] lb,y,undef,undef,undef,undef,undef])
  (fun x a A B hg hk=>by
   obtain ⟨g,h1,h2,h3,h4⟩:=hg
   exact ⟨g,h1,h2.of_block (hk.block g h3 (by omega)),Nat.lt_of_lt_of_le h3 hk.size,h4⟩)
  ?assign ?body ?done
 case assign=>
  intro l pre x W K hit hs hK
  have hx:x.length = 32:=h32 x (hit.subset (by simp))
  gi_wp2_with ((with_reducible refine wpListIn_round (o:=⟨none,Op.store 31 _ _,_,_,_,_⟩) rfl ?_ ?_);(intro c hc;cases hc);refine wp_store_fresh (.tmp 5) (.tmp 7) x rfl rfl rfl rfl hx ?_;intro w2 hd2 hb2 hl2)
  exact hK _ _ hb2 ⟨W.heap.size,by omega,hd2,hl2,rfl⟩
 case body=>
  rintro l G pre x a' W hG hGl ⟨ov,q1,q2,q3,q4,q5⟩ hpre ⟨g,g1,g2,g3,rfl⟩ hlen hW2
  have hx:x.length = 32:=h32 x (hpre.subset (by simp))
  have hx32:Dig32 [x]:=fun d hd=>by simp at hd;rw [hd];exact hx
  obtain ⟨oa,oc,hv⟩:=q2.digs.len
  subst hv
  have qc:=q1.cell
  have qf:=q1.free
  have hGw:¬ G w.heap.size:=fun h=>by
   rcases hG _ h with h | h
   ·omega
   ·have:=(hO _ h).2;omega
  have HQ2:=Lib.hid q2
  have HG2:=Lib.hid g2
  gi_wp2_with (first
   | ((with_reducible refine wpListIn_round (o:=⟨some 9,_,_,_,_,_⟩) rfl ?_ ?_);(intro c hc;cases hc);refine wp_load_at (ty:=31) (x:=.tmp 5) rfl rfl HG2.out ?_)
   | ((with_reducible refine wpListIn_round (o:=⟨some 10,_,_,_,_,_⟩) rfl ?_ ?_);(intro c hc;cases hc);refine wp_buildDigs 1 #[(0,.tmp 9)] [x] rfl rfl (by simp) (by simp) hx32 (by simp only [List.map_toArray,List.map_cons,List.map_nil];rfl) ?_;intro w2 ho2 hb2 hs2;have HO2:=Lib.hid ho2.digs;have HB2:=Lib.hid hb2;have HQ3:=Lib.hid (q2.kept (U:=fun _=>True) (w':=w2) (fun k hk2=>hb2.block _ (q2.lt k hk2).2));have qc2:=(q1.of_new hb2).cell;have qf2:=(q1.of_new hb2).free;clear ho2 hb2)
   | ((with_reducible refine wpListIn_round (o:=⟨some 11,_,_,_,_,_⟩) rfl ?_ ?_);(intro c hc;cases hc);refine wp_appD (.tmp 8) (.tmp 10) rfl (w.heap.size + 3) _ pre rfl HQ3.out _ [x] rfl HO2.out (by simp;omega) (by omega) ?_;intro v3 w3 ho3 hg3 hu3;obtain ⟨va,vc,hv3⟩:=ho3.digs.len;subst hv3;have q13:=(q1.of_new HB2.out).grown hg3 (fun e=>by have:=(HQ3.out.lt _ e.symm).1;omega);have qc3:=q13.cell;have qf3:=q13.free))
  have hwne:∀ r,(Value.slice oa pre.length oc).ownBlock = some r→w.heap.size + 3 ≤ r:=fun r e=>(q2.lt r e).1
  have ho4:OwnD (w3.setCell ⟨w.heap.size,0,none⟩ (.slice va (pre.length + 1) vc)) (w.heap.size + 3) (.slice va (pre.length + 1) vc) (pre ++ [x]):=by
   rw [List.length_append,List.length_singleton] at ho3
   exact ho3.kept (U:=fun _=>True) (fun k hk2=>Below.heap_setCell _ _ _ _ (by have:=(ho3.lt k hk2).1;show k ≠ w.heap.size;omega))
  refine ⟨(((Kept.refl _ W).below HB2.out).grown hg3 (fun r e=>?_)).setCell (fun h=>?_) _,_,q13.set _,ho4,fun k hk2 hGk=>?_,?_,?_⟩
  ·rintro (h | h | h | h)
   ·exact q3 r e h
   ·have:=hwne r e;omega
   ·have:=hwne r e;omega
   ·have:=hwne r e;omega
  ·rcases h with h | h | h | h
   ·exact hGw h
   ·dsimp only at h;omega
   ·dsimp only at h;omega
   ·dsimp only at h;omega
  ·rcases hu3 k (by rw [List.length_append] at *;exact hk2) with h | h
   ·exact q3 k h hGk
   ·have:=hGl k hGk;omega
  ·have hA:Below n0 w w2:=q4.trans (HB2.out.mono (by omega))
   exact (hA.grown hg3 (by omega) (fun r e=>by have:=hwne r e;omega)).setCell (by show n0 ≤ w.heap.size;omega) _
  ·have:=hg3.size
   simp only [World.size_setCell];omega
 case done=>
  rintro G xs W rfl ⟨ov,q1,q2,q3,q4,q5⟩ hW2 hD
  obtain ⟨oa,oc,hv⟩:=q2.digs.len
  subst hv
  have qc:=q1.cell
  have qf:=q1.free
  gi_wp2
  refine ⟨by simp,.inl ⟨_,_,rfl,run_takeDeferred hD,?_⟩⟩
  refine ⟨_,results_tmp rfl _ _ _,?_⟩
  have ho:=q2.kept (U:=fun _=>True) (w':=W.putObj W0.heap.size (.deferred none)) (fun k hk2=>World.putObj_heap_other (by have:=(q2.lt k hk2).1;omega))
  exact ⟨_,rfl,⟨ho.1,ho.2.1,ho.2.2.imp id fun ⟨g,cap,cur,h1,h2,h3⟩=>⟨g,cap,cur,h1,by omega,h3⟩⟩,q4.grown (grownBy_putObj' _ _ _) (by omega) (fun k e=>by cases e;omega)⟩
set_option maxHeartbeats 800000 in
theorem CollectD_any (gf:Nat) (lb:Array Value) (L:List (List UInt8)) (n0:Nat) (O:Nat→Prop) (w:World) (h32:Dig32 L) (hL:L.length ≤ 1048576) (hn0:n0 ≤ w.heap.size) (hO:∀ k,O k→n0 ≤ k∧k < w.heap.size)
  (eg:∀ args w,(callFunc gf args).run Tryz.prog w = .ok (.enter gf args) w)
  (hseq:∀ W1,Below w.heap.size w W1→w.heap.size ≤ W1.heap.size→SeqT Fence.wide 4 Tryz.prog gf lb encD (fun pre x _=>pre ++ [x] <+: L) (fun xs=>xs = L) O n0 L.length W1) :
  Calls Tryz.prog 75 #[.func (.func gf) #[] lb] w fun e w'=>∃ v,e = .returned v∧OwnD w' w.heap.size v L∧Below n0 w w':=by
 go_enter Tryz.func75,Tryz.ntmps75
 go_wp2_with fail
 refine (AppendSeqD_any gf lb L n0 O w h32 hL hn0 hO eg hseq).mono ?_
 rintro e w2 ⟨v,rfl,ho,hb⟩
 go_wp2
 go_ret
 exact ⟨v,rfl,ho,hb⟩
end Go.Proofs.YtnohglkilpnjhaaGreatDoor
namespace Go.Proofs.YtnohglkilpnjhaaGreatDoor
open Go.RowKit Go.Shelf
attribute [local go_sem] Oper.semAt_some
set_option maxRecDepth 100000
def leavesL (b:List UInt8) (k:Nat):List (List UInt8):=(chunksL b k).map leafL
theorem leavesL_len (b:List UInt8) (k:Nat):(leavesL b k).length = (b.length + k - 1) / k:=by simp [leavesL,chunksL_len]
theorem leavesL_32 (b:List UInt8) (k:Nat):Dig32 (leavesL b k):=fun d hd=>by
 obtain ⟨c,_,rfl⟩:=List.mem_map.1 hd
 exact leafL_len c
set_option maxHeartbeats 800000 in
theorem leaves_any (a:Option Addr) (n c:Nat) (k:Int) (w:World) :
  Calls Tryz.prog 76 #[.slice a n c,.int .i64 k] w fun e w'=>
   e = .returned (.func (.func 121) #[] #[.pointer (some ⟨w.heap.size,0,none⟩),.pointer (some ⟨w.heap.size + 1,0,none⟩)])∧w' = (w.alloc (.cells #[.slice a n c] 33)).alloc (.cells #[.int .i64 k] 3):=by
 go_enter Tryz.func76,Tryz.ntmps76
 go_wp2
 go_ret
 exact ⟨rfl,rfl⟩
theorem roundIn_wide {l l' n n':Nat} {P:Program} {f:FuncId} {tmps:Array Value} {assign body:Code} {w:World} {R:Ending→World→Prop} (h:RoundIn Fence.wide n P l f tmps assign body w R):RoundIn (Fence.wide.inRound l') n' P l f tmps assign body w R:=
 ⟨h.1,fun c cs hr=>h.2 c cs (fun d hd=>by cases hd)⟩
def LeavesI (w0:World) (gy l:Nat) (J:List (List UInt8)→World→Prop) (pre:List (List UInt8 × Value)) (W:World):Prop:=
 J (pre.map (leafL ·.1)) W∧One W gy (.func (.yield l) #[] #[]) 210∧Below w0.heap.size w0 W
set_option maxHeartbeats 3200000 in
theorem leaves_seq (bs bn:Nat) (v:Value) (b:List UInt8) (k:Nat) (hk:1 ≤ k) (hk2:k ≤ 1048576) (hlen:b.length ≤ 1099511627776) (W w0:World) (hc1:One W bs v 33) (hc2:One W bn (.int .i64 (k:Int)) 3) (hl:Bytes w0 v b) (hK:Consts w0) (hb0:Below w0.heap.size w0 W) :
  SeqT Fence.wide 4 Tryz.prog 121 #[.pointer (some ⟨bs,0,none⟩),.pointer (some ⟨bn,0,none⟩)] encD (fun pre x W'=>pre ++ [x] <+: leavesL b k)
   (fun xs=>xs = leavesL b k) (fun _=>False) w0.heap.size (leavesL b k).length W:=fun l J hJ hY h0=>by
 have hsz0:=hb0.size
 obtain ⟨T,hT⟩:∃ T:(Nat→Prop)→Nat→Prop,T = fun G j=>(W.heap.size ≤ j∧j < W.heap.size + 5)∨(G j∧W.heap.size ≤ j):=⟨_,rfl⟩
 have hTF:∀ G,Fresh (fun _=>False) (T G) W:=fun G j hj=>.inl (by rw [hT] at hj;rcases hj with h | h;exact h.1;exact h.2)
 have hJG:=fun G=>hJ (T G) (hTF G)
 have hYG:=fun G pre x W1=>hY (T G) pre x W1 (hTF G)
 have h0G:=fun G W'=>h0 (T G) W' (hTF G)
 have hTi:∀ G j,W.heap.size ≤ j→j < W.heap.size + 5→T G j:=fun G j h1 h2=>by rw [hT];exact .inl ⟨h1,h2⟩
 have hTg:∀ G j,G j→W.heap.size ≤ j→T G j:=fun G j h1 h2=>by rw [hT];exact .inr ⟨h1,h2⟩
 have hTo:∀ G j,T G j→(W.heap.size ≤ j∧j < W.heap.size + 5)∨G j:=fun G j h=>by rw [hT] at h;exact h.imp id (·.1)
 clear hJ hY h0
 refine (CallsIn.mono (R:=fun e W'=>(∃ v,e = .returned v)∧∃ G,J (T G) (leavesL b k) W') ?_ (fun e W' h=>⟨h.1,by obtain ⟨_,G,h⟩:=h;exact ⟨T G,_,hTF G,rfl,h⟩⟩))
 clear hTF hT
 obtain ⟨va,vc,hv⟩:=hl.len
 subst hv
 have c1:=fun o=>(hc1.of_new ((Below.refl _ W).alloc (Nat.le_refl _) o)).cell
 have c2:=fun o=>(hc2.of_new ((Below.refl _ W).alloc (Nat.le_refl _) o)).cell
 refine callsIn_of_wp_marks Tryz.func121 rfl trivial ?_ rfl
 simp only [Tryz.ntmps121,List.size_toArray,List.length_cons,List.length_nil,Nat.reduceAdd,Nat.reduceSub,Array.replicate_succ,Array.replicate_zero,List.push_toArray,List.append_toArray,List.nil_append,List.cons_append]
 gi_wp2_with (refine ⟨trivial,?_⟩;gi_at_call 122;refine (callsIn_wide.2 (Chunk_any _ _ _ _ (by omega) _)).mono ?_;rintro e w' ⟨rfl,rfl⟩)
 generalize hW0:((W.alloc _).alloc _).alloc _ = W0
 obtain ⟨hsz,hB0,o1,o2,o3⟩:W0.heap.size = W.heap.size + 3∧Below W.heap.size W W0∧One W0 W.heap.size (.func (.yield l) #[] #[]) 210∧One W0 (W.heap.size + 1) (.slice va b.length vc) 33∧One W0 (W.heap.size + 1 + 1) (.int .i64 (k:Int)) 3:=by
  subst hW0
  refine ⟨by simp,(((Below.refl _ W).alloc (Nat.le_refl _) _).alloc (by simp) _).alloc (by simp;omega) _,?_,?_,?_⟩
  ·exact (Below.heap_alloc _ _ _ (by simp;omega)).trans ((Below.heap_alloc _ _ _ (by simp)).trans (heap_alloc_new _ _))
  ·refine (Below.heap_alloc _ _ _ (by simp)).trans ?_
   have:=heap_alloc_new (W.alloc (.cells #[.func (.yield l) #[] #[]] 210)) (.cells #[.slice va b.length vc] 33)
   rwa [World.size_alloc] at this
  ·have:=heap_alloc_new ((W.alloc (.cells #[.func (.yield l) #[] #[]] 210)).alloc (.cells #[.slice va b.length vc] 33)) (.cells #[.int .i64 (k:Int)] 3)
   rwa [World.size_alloc,World.size_alloc] at this
 clear hW0 c1 c2
 refine wpIn_rangeFunc_total (F:=Fence.wide) (n:=4) rfl (by omega) (gf:=163) (lb:=#[.pointer (some ⟨W.heap.size + 1,0,none⟩),.pointer (some ⟨W.heap.size + 1 + 1,0,none⟩)]) rfl trivial
  (enters_of Tryz.func163 (by kernel_rfl) rfl)
  (encs:=encC) (It:=ChunkIt w0 b k) (S:=fun xs=>xs.map (·.1) = chunksL b k) (O:=fun j=>j = W.heap.size + 1∨j = W.heap.size + 1 + 1) (n0:=w0.heap.size) (N:=(chunksL b k).length) (by omega) (fun j h=>by omega)
  (fun W1 hb1 hs1=>chunk_seq 3 (by omega) _ _ _ _ b k hk hk2 hlen W1 w0 (o2.of_block (hb1.block _ (by omega))) (o3.of_block (hb1.block _ (by omega))) hl)
  (fun _=>rfl)
  (fun G=>LeavesI w0 W.heap.size l (J (T G)))
  (fun G s A B hG hs hkp=>by
   obtain ⟨a1,a2,a3⟩:=hs
   have hno:∀ j,j ≤ W.heap.size→¬ G j:=fun j hj h=>by rcases hG j h with h | h <;> omega
   exact ⟨hJG G _ _ _ a1 (hkp.mono fun j _ hj=>⟨fun h=>hj (hTg G j h (by rcases hG j h with h | h <;> omega)),fun h=>hj (hTi G j (by omega) (by omega))⟩),a2.of_block (hkp.block _ a2.lt ⟨hno _ (Nat.le_refl _),by omega⟩),hkp.to_below a3 (by have:=a2.lt;omega) (fun j hj=>⟨hno _ (by omega),by omega⟩)⟩)
  (fun _ _ _ _ h _=>h)
  (fun G W' hG hb=>by
   have hbw:Below W.heap.size W W':=hB0.trans (hb.mono (by omega))
   exact ⟨h0G G W' hbw,o1.of_block (hb.block _ (by omega)),hb0.trans (hbw.mono (by omega))⟩)
  (fun x a W'=>a = { tmps:=#[.func (.yield l) #[] #[],.pointer (some ⟨bs,0,none⟩),.pointer (some ⟨bn,0,none⟩),.pointer (some ⟨W.heap.size,0,none⟩),x.2,.slice va b.length vc,.int .i64 (k:Int),
   .func (.func 163) #[] #[.pointer (some ⟨W.heap.size + 1,0,none⟩),.pointer (some ⟨W.heap.size + 1 + 1,0,none⟩)],x.2,undef,undef,undef,undef,undef],defers:=[] })
  (fun _ _ _ _ h _=>h)
  ?assign ?body ?done
 case assign=>
  rintro l' pre ⟨x,u⟩ W1 K ⟨_,hx⟩ _ hK2
  dsimp only at hx
  obtain ⟨ua,uc,hv⟩:=hx.len
  subst hv
  gi_wp2
  exact hK2 _ _ (Below.refl _ _) rfl
 case body=>
  rintro l' G pre ⟨x,u⟩ a' W1 hG hGl ⟨a1,a2,a3⟩ ⟨hpre,hx⟩ ha hlen hW2
  dsimp only at hx ha
  obtain ⟨ua,uc,hv⟩:=hx.len
  subst hv
  subst ha
  have hxk:x.length ≤ k:=chunks_le x (hpre.subset (by simp))
  have hcy:∀ w2,Grew W1 w2→w2.cell? ⟨W.heap.size,0,none⟩ = some (.func (.yield l) #[] #[]):=fun w2 h=>(a2.of_new h).cell
  gi_wp2
  refine wpIn_region_class (ro:=some l') (C:=Grew W1) 3 (by kernel_rfl) (by kernel_rfl) (Grew.start _) ?_
  simp only [List.take_succ_cons,List.take_zero,List.drop_succ_cons,List.drop_zero]
  go_simp
  repeat (first
   | (go_big_quiet_want;(with_reducible apply quiet_load_at (ty:=31) (x:=.tmp _));rfl;rfl;assumption;go_simp;go_big_quiet_on)
   | (go_big_quiet_want;apply quiet_val;(intro w' hw';go_simp;first | done | rfl);go_simp;go_big_quiet_on)
   | (go_big_quiet_want;apply quiet_call (f:=70);(intro w' hw';go_simp;first | done | rfl);(intro w' hw';exact Grew.call hw' (Leaf_any _ x w' (hx.of_new (below_next' a3 hw' (by omega))) (by omega) (hK.of_new (below_next' a3 hw' (by omega)))));go_simp;go_big_quiet_on)
   | (go_big_quiet_skip))
  refine wpQuiet_nil ?_
  intro w6 hw6
  rw [wF_some]
  have hpre2:pre.map (leafL ·.1) ++ [leafL x] <+: leavesL b k:=by
   have:=hpre.map leafL
   rw [List.map_map,List.map_append] at this
   exact this
  have hlen2:(pre.map (leafL ·.1)).length < (leavesL b k).length:=by rw [List.length_map,leavesL,List.length_map];exact hlen
  have hkw:Kept (fun j=>¬ T G j) W1 w6:=(Kept.refl _ W1).below hw6
  have a1':J (T G) (pre.map (leafL ·.1)) w6:=hJG G _ _ _ a1 hkw
  have hTl:∀ j,T G j→j < w6.heap.size:=fun j hj=>by have:=hw6.size;rcases hTo G j hj with h | h;omega;(have:=hGl j h;omega)
  obtain ⟨P,hP⟩:∃ P,pre.map (leafL ·.1) = P:=⟨_,rfl⟩
  rw [hP] at a1' hpre2 hlen2
  obtain ⟨d,hd⟩:∃ d,leafL x = d:=⟨_,rfl⟩
  rw [hd] at hpre2 ⊢
  obtain ⟨fn,tmps,assign,body,hy,hR⟩:=hYG G P d w6 hTl a1' hpre2 hlen2
  dsimp only [encD] at hy
  gi_wp2
  refine (roundIn_wide hR).mono ?_
  rintro e W3 ⟨rfl,hJ3,hk3⟩
  gi_wp2
  have hgy:=hk3.block W.heap.size (by have:=a2.lt;have:=hw6.size;omega) (.inl (hTi G _ (Nat.le_refl _) (by omega)))
  refine ⟨((Kept.refl _ W1).below hw6).trans (hk3.mono fun j _ hj=>?_),?_,(a2.of_new hw6).of_block hgy,hk3.to_below (below_next' a3 hw6 (by omega)) (by have:=hw6.size;omega) (fun j hj=>.inr hj)⟩
  ·rcases hj with h | h | h | h
   ·exact .inl (hTg G j h (by rcases hG j h with h | h <;> omega))
   ·exact .inr h
   ·exact .inl (hTi G j (by omega) (by omega))
   ·exact .inl (hTi G j (by omega) (by omega))
  ·rw [List.map_append,hP];rw [← hd] at hJ3;exact hJ3
 case done=>
  rintro G xs W1 hxs ⟨a1,a2,a3⟩ hW2 hD
  have e:xs.map (leafL ·.1) = leavesL b k:=by unfold leavesL;rw [← hxs,List.map_map];rfl
  rw [e] at a1
  gi_wp2
  refine ⟨by simp,.inl ⟨_,_,rfl,run_takeDeferred hD,?_⟩⟩
  refine ⟨_,results_none rfl _ _ _,?_⟩
  exact ⟨⟨_,rfl⟩,G,hJG G _ _ _ a1 ((Kept.refl _ W1).putObj (fun h=>h (hTi G _ (by omega) (by omega))) _)⟩
end Go.Proofs.YtnohglkilpnjhaaGreatDoor
namespace Go.Proofs.YtnohglkilpnjhaaGreatDoor
open Go.RowKit
set_option maxRecDepth 100000
def leavesE (b:List UInt8) (k:Int):List (List UInt8) × Int:=if mrightB b.length k = true then (leavesL b k.toNat,0) else ([],1)
def LeavesPost (w:World) (p:List (List UInt8) × Int) (e:Ending) (w':World):Prop:=
 ∃ v,e = .returned (.tuple #[v,.int .i64 p.2])∧OwnD w' w.heap.size v p.1∧Below w.heap.size w w'
theorem count_nat {b:List UInt8} {n:Nat} (hn:1 ≤ n):(((b.length + n - 1) / n:Nat):Int) = ((b.length:Int) + (n:Int) - 1) / (n:Int):=by
 rw [Int.natCast_ediv];congr 1;omega
set_option maxHeartbeats 1600000 in
theorem Leaves_any (v:Value) (b:List UInt8) (k:Int) (w:World) (hl:Bytes w v b) (hKc:Consts w) :
  Calls Tryz.prog 35 #[v,.int .i64 k] w (LeavesPost w (leavesE b k)):=by
 obtain ⟨va,vc,hv⟩:=hl.len
 subst hv
 have HL:=Lib.hid hl
 obtain ⟨E,hE⟩:∃ E,leavesE b k = E:=⟨_,rfl⟩
 rw [hE]
 have HE:=Lib.hid hE
 clear hE hl
 go_enter Tryz.func35,Tryz.ntmps35
 go_wp2_with ((with_reducible refine wpList_plain (o:=⟨some 9,_,_,_,_,_⟩) rfl fun K hK=>wp_build_blob2 (b.length:Int) k rfl rfl rfl (hK _ _ ?_)))
 refine (Right_any ⟨z32,b.length,k,z32⟩ w ⟨rfl,rfl⟩).mono ?_
 rintro e w2 ⟨rfl,hb2⟩
 dsimp only
 rcases hr:mrightB b.length k with _ | _
 ·have e:E = ([],1):=by rw [← HE.out,leavesE,hr];rfl
  have HE2:=Lib.hid e
  clear e HE hr
  go_wp2
  go_ret2
  rw [HE2.out]
  exact ⟨_,rfl,OwnD.nil _ _,hb2⟩
 ·obtain ⟨q1,q2,q3,q4,q5⟩:=right_parts hr
  obtain ⟨n,hn⟩:∃ n:Nat,k = (n:Int):=⟨k.toNat,by omega⟩
  subst hn
  have e:E = (leavesL b n,0):=by rw [← HE.out,leavesE,hr];simp
  have HE2:=Lib.hid e
  have hle:(leavesL b n).length ≤ 1048576:=by have:=count_nat (b:=b) (n:=n) (by omega);rw [leavesL_len];omega
  have hLn:=Lib.hid hle
  clear e HE hr q5 hle
  go_wp2_with fail
  refine (leaves_any va b.length vc (n:Int) w2).mono ?_
  rintro e w3 ⟨rfl,hw3⟩
  have hb3:Below w2.heap.size w2 w3:=by rw [hw3];exact ((Below.refl _ w2).alloc (Nat.le_refl _) _).alloc (by simp) _
  have o1:One w3 w2.heap.size (.slice va b.length vc) 33:=by rw [hw3];exact (Below.heap_alloc _ _ _ (by simp)).trans (heap_alloc_new _ _)
  have o2:One w3 (w2.heap.size + 1) (.int .i64 (n:Int)) 3:=by
   rw [hw3]
   have:=heap_alloc_new (w2.alloc (.cells #[.slice va b.length vc] 33)) (.cells #[.int .i64 (n:Int)] 3)
   rwa [World.size_alloc] at this
  clear hw3
  have hbA:=below_next hb2 hb3
  go_wp2_with fail
  refine (CollectD_any 121 _ (leavesL b n) w3.heap.size (fun _=>False) w3 (leavesL_32 b n) hLn.out (Nat.le_refl _) (fun k h=>h.elim) (enters_of Tryz.func121 (by kernel_rfl) rfl)
   (fun W1 hb1 hs1=>leaves_seq w2.heap.size (w2.heap.size + 1) _ b n (by omega) (by omega) (by omega) W1 w3 (o1.of_new hb1) (o2.of_new hb1) (HL.out.of_new hbA) (hKc.of_new hbA) hb1)).mono ?_
  rintro e w4 ⟨v4,rfl,ho4,hb4⟩
  obtain ⟨a4,c4,hv4⟩:=ho4.digs.len
  subst hv4
  go_wp2
  go_ret2
  rw [HE2.out]
  have h4:=hbA.size
  exact ⟨_,rfl,⟨ho4.1,ho4.2.1,ho4.2.2.imp id fun ⟨g,cap,cur,h1,h2,h3⟩=>⟨g,cap,cur,h1,by omega,h3⟩⟩,below_next hbA hb4⟩
def RLeavesI (w:World) (b:List UInt8) (n:Nat) (ov iv:Value) (W:World):Prop:=
 ∃ (j:Nat),iv = .int .i64 (j:Int)∧j ≤ (leavesL b n).length∧OwnD W w.heap.size ov ((leavesL b n).take j)∧Below w.heap.size w W
set_option maxHeartbeats 3200000 in
theorem RLeaves_any (v:Value) (b:List UInt8) (k:Int) (w:World) (hl:Bytes w v b) :
  Calls Tryz.prog 145 #[v,.int .i64 k] w (LeavesPost w (leavesE b k)):=by
 obtain ⟨i0,hi,hz0,hz1,hz2⟩:=info_parts infoU8
 obtain ⟨va,vc,hv⟩:=hl.len
 subst hv
 have HL:=Lib.hid hl
 obtain ⟨E,hE⟩:∃ E,leavesE b k = E:=⟨_,rfl⟩
 rw [hE]
 have HE:=Lib.hid hE
 clear hE hl
 go_enter Tryz.func145,Tryz.ntmps145
 go_wp2_with ((with_reducible refine wpList_plain (o:=⟨some 12,_,_,_,_,_⟩) rfl fun K hK=>wp_build_blob2 (b.length:Int) k rfl rfl rfl (hK _ _ ?_)))
 refine (RCount_any ⟨z32,b.length,k,z32⟩ w ⟨rfl,rfl⟩).mono ?_
 rintro e w2 ⟨rfl,hb2⟩
 dsimp only
 rcases hr:mrightB b.length k with _ | _
 ·have e:E = ([],1):=by rw [← HE.out,leavesE,hr];rfl
  have hc:mcountB b.length k = 0:=by rw [mcountB,hr];rfl
  have HE2:=Lib.hid e
  rw [hc]
  clear e HE hr hc
  go_wp2
  go_ret2
  rw [HE2.out]
  exact ⟨_,rfl,OwnD.nil _ _,hb2⟩
 ·obtain ⟨q1,q2,q3,q4,q5⟩:=right_parts hr
  obtain ⟨n,hn⟩:∃ n:Nat,k = (n:Int):=⟨k.toNat,by omega⟩
  subst hn
  have e:E = (leavesL b n,0):=by rw [← HE.out,leavesE,hr];simp
  have hcn:=count_nat (b:=b) (n:=n) (by omega)
  have hc:mcountB b.length n = ((leavesL b n).length:Int):=by rw [mcountB,hr,leavesL_len,hcn];rfl
  have hpos:=count_pos q1 q3
  rw [← hcn] at hpos q5
  rw [← leavesL_len] at hpos q5
  have hc0:(((leavesL b n).length:Int) == 0) = false:=beq_eq_false_iff_ne.2 (by omega)
  have HE2:=Lib.hid e
  rw [hc]
  have hlt:∀ j,j < (leavesL b n).length→j * n < b.length:=fun j h=>(chunks_lt (by omega)).2 (by rw [chunksL_len,← leavesL_len];exact h)
  have hsn:∀ j,j < (leavesL b n).length→(leavesL b n).take (j + 1) = (leavesL b n).take j ++ [leafL ((b.drop (j * n)).take n)]:=fun j h=>by
   have:=chunks_take (b:=b) (k:=n) (j:=j) (by rw [chunksL_len,← leavesL_len];exact h)
   unfold leavesL
   rw [← List.map_take,this,List.map_append,List.map_take];rfl
  have h32:=leavesL_32 b n
  have HLT:=Lib.hid hlt
  have HSN:=Lib.hid hsn
  obtain ⟨N,hN⟩:∃ N,(leavesL b n).length = N:=⟨_,rfl⟩
  rw [hN] at hpos q5 hc0 HLT HSN ⊢
  have HN:=Lib.hid hN
  clear e HE hr hc hcn hlt hsn hN
  go_wp2
  go_loopw [7,8] (RLeavesI w b n) (fun _ iv _=>N - (intOf iv).toNat)
  case atStart=>exact ⟨0,rfl,by omega,by simpa using OwnD.nil _ _,hb2⟩
  case round=>
   obtain ⟨j,rfl,hj,ho,hbw⟩:=hrel
   rw [HN.out] at hj
   obtain ⟨P,hP⟩:∃ P,(leavesL b n).take j = P:=⟨_,rfl⟩
   have hol:P.length = j:=by rw [← hP,List.length_take,HN.out];omega
   rw [hP] at ho
   obtain ⟨oa,oc,hv⟩:=ho.digs.len
   subst hv
   have HO:=Lib.hid ho
   have HP:=Lib.hid hP
   have HOL:=Lib.hid hol
   have hol2:P.length ≤ 1048576:=by omega
   clear hol ho
   have hbL:Bytes wr (.slice va b.length vc) b:=HL.out.of_new hbw
   have hsw:=hbw.size
   have HBW:=Lib.hid hbw
   by_cases hlt:j < N
   ·have h1:=HLT.out j hlt
    have h2:=HSN.out j hlt
    rw [HP.out] at h2
    clear hP
    obtain ⟨m,hm⟩:∃ m,j * n = m:=⟨_,rfl⟩
    have hmi:(j:Int) * (n:Int) = (m:Int):=by rw [← hm];simp
    have hm2:((j:Int) + 1) * (n:Int) = (m:Int) + (n:Int):=by rw [Int.add_mul,hmi,Int.one_mul]
    rw [hm] at h1 h2
    have hw1:IntKind.i64.wrap ((j:Int) * (n:Int)) = (m:Int):=by rw [hmi];exact IntWalk.i64_in _ (by omega)
    have hw2:IntKind.i64.wrap (((j:Int) + 1) * (n:Int)) = (m:Int) + (n:Int):=by rw [hm2];exact IntWalk.i64_in _ (by omega)
    have hjN:(j:Int) < (N:Int):=by omega
    obtain ⟨hv,hi',hhv,hpe,hle1,hle2,hcs⟩:∃ (hv:Int) (hi':Nat),hv = (hi':Int)∧(b.drop m).take (hi' - m) = (b.drop m).take n∧m ≤ hi'∧hi' ≤ b.length∧((hv = (m:Int) + (n:Int)∧(m:Int) + (n:Int) < (b.length:Int))∨(hv = (b.length:Int)∧(b.length:Int) ≤ (m:Int) + (n:Int))):=by
     by_cases hc:m + n < b.length
     ·exact ⟨_,m + n,rfl,by rw [show m + n - m = n by omega],by omega,by omega,.inl ⟨by omega,by omega⟩⟩
     ·exact ⟨_,b.length,rfl,by rw [List.take_eq_take_iff];simp;omega,by omega,Nat.le_refl _,.inr ⟨rfl,by omega⟩⟩
    obtain ⟨pv,hrp,hpp,_⟩:=hbL.part (P:=Tryz.prog) (t:=33) Tryz.underlying33 hi hz1 (some (.int .i64 (m:Int))) (some (.int .i64 hv)) m hi' hle1 hle2 (.inr ⟨.i64,rfl⟩) (.inr ⟨.i64,by rw [hhv]⟩)
    rw [hpe] at hpp
    have hxk:((b.drop m).take n).length ≤ 1048576:=by rw [List.length_take];omega
    obtain ⟨x,hx⟩:∃ x,(b.drop m).take n = x:=⟨_,rfl⟩
    rw [hx] at hpp h2 hxk
    obtain ⟨pa,pc,hv2⟩:=hpp.len
    subst hv2
    have HPP:=Lib.hid hpp
    have H2:=Lib.hid h2
    have hx32:Dig32 [leafL x]:=fun d hd=>by simp at hd;rw [hd];exact leafL_len x
    clear hpe hx hm hmi hm2 hpp hbL h1 h2 hbw hhv hle1 hle2
    rcases hcs with ⟨rfl,hcs⟩ | ⟨rfl,hcs⟩
    all_goals
     go_wp2_with (first
      | (go_at_call 175;refine (RLeaf_any _ x _ HPP.out hxk).mono ?_;rintro e w3 ⟨rfl,hb3⟩;have HB3:=Lib.hid hb3;have HO3:=Lib.hid (HO.out.of_new hb3);clear hb3)
      | ((with_reducible refine wpList_plain (o:=⟨some 35,_,_,_,_,_⟩) rfl fun K hK=>?_);refine wp_buildDigs 1 _ [leafL x] rfl rfl (by simp) (by simp) hx32 (by simp only [List.map_toArray,List.map_cons,List.map_nil];rfl) ?_;intro w4 ho4 hb4 hs4;refine hK _ _ ?_;have HO4:=Lib.hid ho4.digs;have HB4:=Lib.hid hb4;have HO5:=Lib.hid (HO3.out.of_new hb4);clear ho4 hb4 hK)
      | ((with_reducible refine wpList_plain (o:=⟨some 36,_,_,_,_,_⟩) rfl fun K hK=>?_);refine wp_appD (.tmp 21) (.tmp 35) rfl w.heap.size _ P rfl HO5.out _ [leafL x] rfl HO4.out (by simp;omega) (by have:=HB3.out.size;have:=HB4.out.size;omega) ?_;intro v6 w6 ho6 hg6 hu6;refine hK _ _ ?_;obtain ⟨a6,c6,hv6⟩:=ho6.digs.len;subst hv6;clear hK))
     go_roundw
     case rel=>
      refine ⟨j + 1,by go_num,by have:=HN.out;omega,?_,?_⟩
      ·rw [H2.out]
       rw [List.length_append] at ho6
       exact ho6
      ·have hA:Below w.heap.size w w3:=below_next' HBW.out HB3.out hsw
       have hB:Below w.heap.size w _:=below_next' hA HB4.out (by have:=HB3.out.size;omega)
       exact hB.grown hg6 (by have:=HB3.out.size;have:=HB4.out.size;omega) (fun r e=>(HO5.out.lt r e).1)
     case measure=>simp [intOf];omega
   ·have hjN:¬ (j:Int) < (N:Int):=by omega
    go_wp2
    go_ret2
    rw [HE2.out]
    have e2:P = leavesL b n:=by rw [← HP.out,List.take_of_length_le (by have:=HN.out;omega)]
    exact ⟨_,rfl,e2 ▸ HO.out,HBW.out⟩
def blobE (b:List UInt8) (k:Int):BlobL × Int:=if mrightB b.length k = true then (⟨sumL b,b.length,k,rootL (leavesL b k.toNat)⟩,0) else (BlobL.zero,1)
def BlobPost (w:World) (p:BlobL × Int) (e:Ending) (w':World):Prop:=e = .returned (.tuple #[BlobV p.1,.int .i64 p.2])∧Below w.heap.size w w'
theorem leaves_few {b:List UInt8} {k:Int} (h:mrightB b.length k = true):(leavesL b k.toNat).length ≤ 1024:=by
 obtain ⟨q1,q2,q3,q4,q5⟩:=right_parts h
 obtain ⟨n,rfl⟩:∃ n:Nat,k = (n:Int):=⟨k.toNat,by omega⟩
 have:=count_nat (b:=b) (n:=n) (by omega)
 rw [leavesL_len,Int.toNat_natCast];omega
theorem blobE_ok (b:List UInt8) (k:Int):(blobE b k).1.ok:=by
 unfold blobE
 split
 ·exact ⟨sumL_len b,rootL_len (leavesL_32 _ _)⟩
 ·exact BlobL.zero_ok
set_option maxHeartbeats 1600000 in
theorem Blob_any (v:Value) (b:List UInt8) (k:Int) (w:World) (hl:Bytes w v b) (hKc:Consts w) :
  Calls Tryz.prog 34 #[v,.int .i64 k] w (BlobPost w (blobE b k)):=by
 obtain ⟨va,vc,hv⟩:=hl.len
 subst hv
 have HL:=Lib.hid hl
 clear hl
 obtain ⟨E,hE⟩:∃ E,blobE b k = E:=⟨_,rfl⟩
 rw [hE]
 have HE:=Lib.hid hE
 clear hE
 go_enter Tryz.func34,Tryz.ntmps34
 go_wp2_with fail
 generalize hW:w.alloc _ = W
 obtain ⟨hbo,hb0⟩:BlobO W w.heap.size BlobL.zero∧Below w.heap.size w W:=by
  subst hW
  exact ⟨⟨heap_alloc_new _ _,BlobL.zero_ok⟩,(Below.refl _ w).alloc (Nat.le_refl _) _⟩
 clear hW
 refine (Leaves_any _ b k W (HL.out.of_new hb0) (hKc.of_new hb0)).mono ?_
 rintro e w2 ⟨v2,rfl,ho2,hb2⟩
 have hbA:=below_next hb0 hb2
 have hbo2:=hbo.of_new hb2
 have hgl:=hbo2.lt
 clear hbo hb2
 obtain ⟨a2,c2,hv2⟩:=ho2.digs.len
 subst hv2
 have HBO:=Lib.hid hbo2
 clear hbo2
 rcases hr:mrightB b.length k with _ | _
 ·have e:E = (BlobL.zero,1):=by rw [← HE.out,blobE,hr];rfl
  have el:leavesE b k = ([],1):=by rw [leavesE,hr];rfl
  rw [el] at ho2 ⊢
  have HE2:=Lib.hid e
  clear e el HE hr ho2
  go_wp2_with (first
   | ((with_reducible refine wpList_plain (o:=⟨some 16,Op.build 81 #[],_,_,_,_⟩) rfl fun K hK=>wp_build_blob0 rfl (hK _ _ ?_)))
   | ((with_reducible refine wpList_plain (o:=⟨none,Op.store 81 _ _,_,_,_,_⟩) rfl fun K hK=>wp_store_blob (.tmp 4) (.tmp 16) w.heap.size BlobL.zero BlobL.zero rfl rfl rfl BlobL.zero_ok HBO.out fun w3 hx3 hg3 hs3=>hK _ _ ?_)))
  refine bodyPost_ret (results_blob rfl _ rfl rfl hx3) rfl ?_
  rw [HE2.out]
  exact ⟨rfl,hbA.grown hg3 (by omega) (fun r e=>by cases e;omega)⟩
 ·have e:E = (⟨sumL b,b.length,k,rootL (leavesL b k.toNat)⟩,0):=by rw [← HE.out,blobE,hr];rfl
  have el:leavesE b k = (leavesL b k.toNat,0):=by rw [leavesE,hr];rfl
  have hle:(leavesL b k.toNat).length ≤ 1024:=leaves_few hr
  have hbl:b.length ≤ 1048576:=by have:=(right_parts hr).2.1;omega
  rw [el] at ho2 ⊢
  have HE2:=Lib.hid e
  clear e el HE hr
  obtain ⟨L,hL⟩:∃ L,leavesL b k.toNat = L:=⟨_,rfl⟩
  rw [hL] at ho2 hle ⊢
  have HD32:Dig32 L:=hL ▸ leavesL_32 b _
  have HL2:=Lib.hid hL
  have HO2:=Lib.hid ho2.digs
  clear hL ho2
  go_wp2_with (first
   | (go_at_call 73;refine (Sum_any _ b _ (HL.out.of_new hbA) (by omega) (hKc.of_new hbA)).mono ?_;rintro e w3 ⟨rfl,hb3⟩;have HB3:=Lib.hid hb3;clear hb3)
   | (go_at_call 74;refine (Root_any _ L _ (HO2.out.of_new HB3.out) (by omega) (hKc.of_new (below_next hbA HB3.out))).mono ?_;rintro e w4 ⟨rfl,hb4⟩;have HB4:=Lib.hid hb4;clear hb4)
   | ((with_reducible refine wpList_plain (o:=⟨some 25,Op.build 81 _,_,_,_,_⟩) rfl fun K hK=>?_);(refine wp_build_blob (sumL b) (rootL L) (b.length:Int) k rfl rfl rfl rfl rfl (sumL_len b) ((rootL_len HD32)) (hK _ _ ?_)))
   | ((with_reducible refine wpList_plain (o:=⟨none,Op.store 81 _ _,_,_,_,_⟩) rfl fun K hK=>?_);(refine wp_store_blob (.tmp 4) (.tmp 25) w.heap.size ⟨sumL b,b.length,k,rootL L⟩ BlobL.zero rfl rfl rfl ⟨sumL_len b,(rootL_len HD32)⟩ ((HBO.out.of_new HB3.out).of_new HB4.out) fun w5 hx5 hg5 hs5=>hK _ _ ?_)))
  refine bodyPost_ret (results_blob rfl _ rfl rfl hx5) rfl ?_
  rw [HE2.out,HL2.out]
  have hbB:=below_next (below_next hbA HB3.out) HB4.out
  exact ⟨rfl,hbB.grown hg5 (by have:=hbB.size;omega) (fun r e=>by cases e;omega)⟩
set_option maxHeartbeats 1600000 in
theorem RBlob_any (v:Value) (b:List UInt8) (k:Int) (w:World) (hl:Bytes w v b) :
  Calls Tryz.prog 96 #[v,.int .i64 k] w (BlobPost w (blobE b k)):=by
 obtain ⟨va,vc,hv⟩:=hl.len
 subst hv
 have HL:=Lib.hid hl
 clear hl
 obtain ⟨E,hE⟩:∃ E,blobE b k = E:=⟨_,rfl⟩
 rw [hE]
 have HE:=Lib.hid hE
 clear hE
 go_enter Tryz.func96,Tryz.ntmps96
 go_wp2_with fail
 generalize hW:w.alloc _ = W
 obtain ⟨hbo,hb0⟩:BlobO W w.heap.size BlobL.zero∧Below w.heap.size w W:=by
  subst hW
  exact ⟨⟨heap_alloc_new _ _,BlobL.zero_ok⟩,(Below.refl _ w).alloc (Nat.le_refl _) _⟩
 clear hW
 refine (RLeaves_any _ b k W (HL.out.of_new hb0)).mono ?_
 rintro e w2 ⟨v2,rfl,ho2,hb2⟩
 have hbA:=below_next hb0 hb2
 have hbo2:=hbo.of_new hb2
 have hgl:=hbo2.lt
 clear hbo hb2
 obtain ⟨a2,c2,hv2⟩:=ho2.digs.len
 subst hv2
 have HBO:=Lib.hid hbo2
 clear hbo2
 rcases hr:mrightB b.length k with _ | _
 ·have e:E = (BlobL.zero,1):=by rw [← HE.out,blobE,hr];rfl
  have el:leavesE b k = ([],1):=by rw [leavesE,hr];rfl
  rw [el] at ho2 ⊢
  have HE2:=Lib.hid e
  clear e el HE hr ho2
  go_wp2_with (first
   | ((with_reducible refine wpList_plain (o:=⟨some 16,Op.build 81 #[],_,_,_,_⟩) rfl fun K hK=>wp_build_blob0 rfl (hK _ _ ?_)))
   | ((with_reducible refine wpList_plain (o:=⟨none,Op.store 81 _ _,_,_,_,_⟩) rfl fun K hK=>wp_store_blob (.tmp 4) (.tmp 16) w.heap.size BlobL.zero BlobL.zero rfl rfl rfl BlobL.zero_ok HBO.out fun w3 hx3 hg3 hs3=>hK _ _ ?_)))
  refine bodyPost_ret (results_blob rfl _ rfl rfl hx3) rfl ?_
  rw [HE2.out]
  exact ⟨rfl,hbA.grown hg3 (by omega) (fun r e=>by cases e;omega)⟩
 ·have e:E = (⟨sumL b,b.length,k,rootL (leavesL b k.toNat)⟩,0):=by rw [← HE.out,blobE,hr];rfl
  have el:leavesE b k = (leavesL b k.toNat,0):=by rw [leavesE,hr];rfl
  have hle:(leavesL b k.toNat).length ≤ 1024:=leaves_few hr
  have hbl:b.length ≤ 1048576:=by have:=(right_parts hr).2.1;omega
  rw [el] at ho2 ⊢
  have HE2:=Lib.hid e
  clear e el HE hr
  obtain ⟨L,hL⟩:∃ L,leavesL b k.toNat = L:=⟨_,rfl⟩
  rw [hL] at ho2 hle ⊢
  have HD32:Dig32 L:=hL ▸ leavesL_32 b _
  have HL2:=Lib.hid hL
  have HO2:=Lib.hid ho2.digs
  clear hL ho2
  go_wp2_with (first
   | (go_at_call 32;refine (RSum_any _ b _ (HL.out.of_new hbA) (by omega)).mono ?_;rintro e w3 ⟨rfl,hb3⟩;have HB3:=Lib.hid hb3;clear hb3)
   | (go_at_call 146;refine (RRoot_any _ L _ (HO2.out.of_new HB3.out) (by omega)).mono ?_;rintro e w4 ⟨rfl,hb4⟩;have HB4:=Lib.hid hb4;clear hb4)
   | ((with_reducible refine wpList_plain (o:=⟨some 25,Op.build 81 _,_,_,_,_⟩) rfl fun K hK=>?_);(refine wp_build_blob (sumL b) (rootL L) (b.length:Int) k rfl rfl rfl rfl rfl (sumL_len b) ((rootL_len HD32)) (hK _ _ ?_)))
   | ((with_reducible refine wpList_plain (o:=⟨none,Op.store 81 _ _,_,_,_,_⟩) rfl fun K hK=>?_);(refine wp_store_blob (.tmp 4) (.tmp 25) w.heap.size ⟨sumL b,b.length,k,rootL L⟩ BlobL.zero rfl rfl rfl ⟨sumL_len b,(rootL_len HD32)⟩ ((HBO.out.of_new HB3.out).of_new HB4.out) fun w5 hx5 hg5 hs5=>hK _ _ ?_)))
  refine bodyPost_ret (results_blob rfl _ rfl rfl hx5) rfl ?_
  rw [HE2.out,HL2.out]
  have hbB:=below_next (below_next hbA HB3.out) HB4.out
  exact ⟨rfl,hbB.grown hg5 (by have:=hbB.size;omega) (fun r e=>by cases e;omega)⟩
end Go.Proofs.YtnohglkilpnjhaaGreatDoor
namespace Go.Proofs.YtnohglkilpnjhaaGreatDoor
open Go.RowKit Go.Shelf
attribute [local go_sem] Oper.semAt_some
def upP:List (Nat × Nat)→List UInt8→List (List UInt8)→List UInt8 × List (List UInt8)
 | [],x,p=>(x,p)
 | (n,i) :: r,x,p=>if besideZ n i < 0 then upP r x p else if i % 2 = 1 then upP r (nodeL (p.getD 0 []) x) p.tail else upP r (nodeL x (p.getD 0 [])) p.tail
end Go.Proofs.YtnohglkilpnjhaaGreatDoor
namespace Go.Proofs.YtnohglkilpnjhaaGreatDoor
open Go.RowKit
theorem take_snoc_d {l:List (List UInt8)} {k:Nat} (h:k < l.length):l.take (k + 1) = l.take k ++ [l.getD k []]:=by
 rw [List.take_succ_eq_append_getElem h]
 simp [List.getD,List.getElem?_eq_getElem h]
def SameI (l m:List (List UInt8)) (w:World) (iv:Value) (wr:World):Prop:=∃ k:Nat,k ≤ l.length∧iv = .int .i64 (k:Int)∧l.take k = m.take k∧Below w.heap.size w wr
set_option maxRecDepth 100000 in
set_option maxHeartbeats 1600000 in
theorem Same_any (v u:Value) (l m:List (List UInt8)) (w:World) (hl:Digs w v l) (hm:Digs w u m) :
  Calls Tryz.prog 51 #[v,u] w fun e w'=>e = .returned (.bool (decide (l = m)))∧Below w.heap.size w w':=by
 have hle:=hl.le
 have hme:=hm.le
 unfold maxLen at hle hme
 obtain ⟨va,vc,hv⟩:=hl.len
 subst hv
 obtain ⟨ua,uc,hv⟩:=hm.len
 subst hv
 have hgd:=guard_dig
 by_cases hlen:l.length = m.length
 ·have t1:((l.length:Int) != (m.length:Int)) = false:=by simp;omega
  have HLM:=Lib.hid hlen
  go_enter Tryz.func51,Tryz.ntmps51
  clear hlen
  go_wp2
  go_loopw [5] (SameI l m w) (fun iv _=>l.length - (intOf iv).toNat)
  case atStart=>exact ⟨0,by omega,rfl,by simp,Below.refl _ _⟩
  case round=>
   obtain ⟨k,hk,rfl,heq,hb⟩:=hrel
   have hl':=hl.of_new hb
   have hm':=hm.of_new hb
   have HQ:=Lib.hid heq
   clear heq hl hm
   by_cases hlt:k < l.length
   ·have t2:(k:Int) < (l.length:Int):=by omega
    have t3:(k:Int) < (m.length:Int):=by have:=HLM.out;omega
    obtain ⟨b,off,c,hv⟩:=hl'.shape (by omega)
    obtain ⟨rfl,rfl⟩:va = some ⟨b,off,none⟩∧vc = c:=by cases hv;exact ⟨rfl,rfl⟩
    clear hv
    obtain ⟨b2,off2,c2,hv⟩:=hm'.shape (by omega)
    obtain ⟨rfl,rfl⟩:ua = some ⟨b2,off2,none⟩∧uc = c2:=by cases hv;exact ⟨rfl,rfl⟩
    clear hv
    have h1:=hl'.digAt hlt
    have h2:=hm'.digAt (show k < m.length by omega)
    have hs1:=take_snoc_d hlt
    have hs2:=take_snoc_d (show k < m.length by omega)
    have hg1:l = m→l.getD k [] = m.getD k []:=fun e=>by rw [e]
    have H1:=Lib.hid hs1
    have H2:=Lib.hid hs2
    have H3:=Lib.hid hg1
    have hneq:=run_neq_dig (l.getD k []) (m.getD k []) h1.1 h2.1
    clear hs1 hs2 hg1
    generalize l.getD k [] = d1 at *
    generalize m.getD k [] = d2 at *
    go_upto_region 6 with (fail)
    refine wp_region_grew (by kernel_rfl) (by kernel_rfl) ?_
    repeat (first
     | (go_big_quiet_want;(with_reducible apply quiet_load_at (ty:=31) (x:=.tmp _));rfl;rfl;assumption;go_simp;go_big_quiet_on)
     | (go_big_quiet_want;apply quiet_val;(intro w' hw';go_simp;first | done | rfl);go_simp;go_big_quiet_on)
     | (go_big_quiet_skip))
    refine wpQuiet_nil ?_
    intro w5 hw5
    have hB5:=below_next' hb hw5 (by have:=hb.size;omega)
    clear hneq
    by_cases hd:d1 = d2
    ·have t4:decide (d1 = d2) = true:=by simp [hd]
     have HD:=Lib.hid hd
     clear hd
     simp only [t4,Bool.not_true]
     go_wp2
     exact ⟨⟨k + 1,by omega,by go_num,by rw [H1.out,H2.out,HQ.out,HD.out],hB5⟩,by simp [intOf];omega⟩
    ·have t4:decide (d1 = d2) = false:=by simp [hd]
     have HD:=Lib.hid hd
     clear hd
     simp only [t4,Bool.not_false]
     go_wp2
     go_ret
     exact ⟨ret_bool (by simp;exact fun e=>HD.out (H3.out e)),hB5⟩
   ·obtain rfl:k = l.length:=by omega
    have t2:¬ (l.length:Int) < (l.length:Int):=by omega
    have he:l = m:=by
     have:=HQ.out
     rwa [List.take_of_length_le (Nat.le_refl _),List.take_of_length_le (by have:=HLM.out;omega)] at this
    have HE:=Lib.hid he
    clear he
    go_wp2
    go_ret
    exact ⟨ret_bool (by simp;exact HE.out),hb⟩
 ·have t1:((l.length:Int) != (m.length:Int)) = true:=by simp;omega
  have hne:l ≠ m:=fun e=>hlen (by rw [e])
  have HN:=Lib.hid hne
  clear hne hlen
  go_enter Tryz.func51,Tryz.ntmps51
  go_wp2
  go_ret
  exact ⟨ret_bool (by simp;exact HN.out),Below.refl _ _⟩
end Go.Proofs.YtnohglkilpnjhaaGreatDoor

/- Lemmas that the statement of this claim leans on; their own comments are taken out, for the size of the claim. No condition beyond what each lemma states. -/
import Derived.Test.YtnohglkilpnjhaaGreatDoorSa20
import Derived.Test.YtnohglkilpnjhaaGreatDoorRows
import Derived.Lib.LaidTab
set_option linter.unusedVariables false
set_option linter.unusedSimpArgs false
set_option linter.unusedSectionVars false
namespace Go.Proofs.YtnohglkilpnjhaaGreatDoor
open Go.RowKit
theorem fields_mem : (Tryz.prog.fieldsOf 113).toList.map (fun f => (f.name, f.type, f.offset)) = [("Id", 3, 0), ("Incarnation", 3, 1), ("State", 3, 2), ("Since", 3, 3)] := by kernel_rfl
def MemV (x:MemL):Value:=.agg #[.int .i64 x.id,.int .i64 x.inc,.int .i64 x.state,.int .i64 x.since]
theorem run_equalIn_mem (d:Nat) (x y:MemL) (w:World):(Op.equalIn (d + 3) 113 (MemV x) (MemV y)).run Tryz.prog w = .ok (decide (x = y)) w:=by
 unfold MemV
 rw [run_equalIn_struct w (d + 2) 113 _ _ (by kernel_rfl) (by kernel_rfl)]
 have hai:(isAgg 3).run Tryz.prog w = .ok false w:=by kernel_rfl
 have hi:∀ a b:Int,(Op.equalIn (d + 2) 3 (.int .i64 a) (.int .i64 b)).run Tryz.prog w = .ok (a == b) w:=fun a b=>run_equalIn_int w (d + 1) 3 .i64 .i64 a b Tryz.underlying3
 obtain ⟨g,hg⟩:∃ g:Nat→Bool,g = fun k=>if k = 0 then x.id == y.id else if k = 1 then x.inc == y.inc else if k = 2 then x.state == y.state else x.since == y.since:=⟨_,rfl⟩
 have hf:=fields_mem
 generalize (Tryz.prog.fieldsOf 113).toList = fs at hf
 rw [eqFields_all g fs (fun f hfm=>by
  have hm:(f.name,f.type,f.offset) ∈ fs.map (fun f=>(f.name,f.type,f.offset)):=List.mem_map.2 ⟨f,hfm,rfl⟩
  rw [hf] at hm
  simp only [List.mem_cons,Prod.mk.injEq,List.not_mem_nil,or_false] at hm
  rcases hm with ⟨h1,h2,h3⟩ | ⟨h1,h2,h3⟩ | ⟨h1,h2,h3⟩ | ⟨h1,h2,h3⟩
  all_goals
   rw [h1,h2,h3,hg]
   refine ⟨by decide,_,_,?_,?_,hi _ _⟩ <;> simp [part,Sem.run_bind,hai,Sem.run_pure])]
 have e:(fs.all fun f=>g f.offset) = (fs.map (fun f=>(f.name,f.type,f.offset))).all (fun q=>g q.2.2):=by rw [List.all_map];rfl
 rw [e,hf,hg]
 refine congrArg (fun b:Bool=>Result.ok b w) ?_
 obtain ⟨a,b,c,e⟩:=x
 obtain ⟨a',b',c',e'⟩:=y
 simp
 rw [Bool.eq_iff_iff]
 simp
theorem guard_mem:Tryz.prog.eqGuardType Tryz.prog.depth 113 = false:=by kernel_rfl
theorem run_neq_mem (x y:MemL) (w:World):(binOp .neq 113 (MemV x) (MemV y)).run Tryz.prog w = .ok (.bool (!decide (x = y))) w:=by
 have:=run_equalIn_mem 9997 x y w
 unfold MemV at this ⊢
 rw [run_neq_struct,this];rfl
theorem size_mem:(Tryz.prog.info? 113).map (·.size) = some 4:=by kernel_rfl
theorem run_load_mem {w:World} {g off:Nat} {x:MemL} (h:MemAt w g off x):(loadVar 113 ⟨g,off,none⟩).run Tryz.prog w = .ok (MemV x) w:=by
 obtain ⟨h0,h1,h2,h3⟩:=h
 have hl:=run_loadCells_list (P:=Tryz.prog) w ⟨g,off,none⟩ [.int .i64 x.id,.int .i64 x.inc,.int .i64 x.state,.int .i64 x.since] (fun j v hv=>by
  have hadd:(⟨g,off,none⟩:Addr).add j = ⟨g,off + j,none⟩:=by unfold Addr.add;split <;> simp_all
  rw [hadd]
  match j,hv with
  | 0,hv=>cases hv;exact h0
  | 1,hv=>cases hv;exact h1
  | 2,hv=>cases hv;exact h2
  | 3,hv=>cases hv;exact h3
  | n + 4,hv=>simp at hv)
 have hi:=size_mem
 cases hq:Tryz.prog.info? 113 with
 | none=>rw [hq] at hi;cases hi
 | some i=>
  rw [hq] at hi
  simp only [Option.map_some,Option.some.injEq] at hi
  simp only [List.length_cons,List.length_nil] at hl
  simp [loadVar,isAgg,run_underlying Tryz.underlying113,sizeOf,typeInfo,hq,hi,hl,MemV]
theorem quiet_load_mem {W:World} {o:Oper} {a:Act} {K:Act→Prop} {p:Operand} {g off:Nat} {x:MemL} (ho:o.op = .load 113 p) (hp:a.eval p = .pointer (some ⟨g,off,none⟩)) (h:MemAt W g off x)
  (hK:K (a.put o.dst (.agg #[.int .i64 x.id,.int .i64 x.inc,.int .i64 x.state,.int .i64 x.since]))):o.quiet Tryz.prog a (Grew W) K:=by
 refine quiet_val (fun w hw=>?_) hK
 have:=run_load_mem (h.of_new hw)
 unfold MemV at this
 unfold execOp
 simp only [ho,hp,Instr.loadAt,Instr.sureAddr,Sem.run_bind,Sem.run_pure,Result.andThen_ok,this]
theorem take_snoc_i {l:List Int} {k:Nat} (h:k < l.length):l.take (k + 1) = l.take k ++ [l.getD k 0]:=by
 rw [List.take_succ_eq_append_getElem h]
 simp [List.getD,List.getElem?_eq_getElem h]
def SameII (l m:List Int) (w:World) (iv:Value) (wr:World):Prop:=∃ k:Nat,k ≤ l.length∧iv = .int .i64 (k:Int)∧l.take k = m.take k∧Below w.heap.size w wr
set_option maxRecDepth 100000 in
set_option maxHeartbeats 1600000 in
theorem SameInts_any (v u:Value) (l m:List Int) (w:World) (hl:Ints w v l) (hm:Ints w u m) :
  Calls Tryz.prog 50 #[v,u] w fun e w'=>e = .returned (.bool (decide (l = m)))∧Below w.heap.size w w':=by
 have hle:=hl.le
 have hme:=hm.le
 obtain ⟨va,vc,hv⟩:=hl.len
 subst hv
 obtain ⟨ua,uc,hv⟩:=hm.len
 subst hv
 by_cases hlen:l.length = m.length
 ·have t1:((l.length:Int) != (m.length:Int)) = false:=by simp;omega
  have HLM:=Lib.hid hlen
  go_enter Tryz.func50,Tryz.ntmps50
  clear hlen
  go_wp2
  go_loopw [5] (SameII l m w) (fun iv _=>l.length - (intOf iv).toNat)
  case atStart=>exact ⟨0,by omega,rfl,by simp,Below.refl _ _⟩
  case round=>
   obtain ⟨k,hk,rfl,heq,hb⟩:=hrel
   have hl':=hl.of_new hb
   have hm':=hm.of_new hb
   have HQ:=Lib.hid heq
   clear heq hl hm
   by_cases hlt:k < l.length
   ·have t2:(k:Int) < (l.length:Int):=by omega
    have t3:(k:Int) < (m.length:Int):=by have:=HLM.out;omega
    obtain ⟨b,off,c,hv,hbl1,hcell1⟩:=hl'.cell (by omega)
    obtain ⟨rfl,rfl⟩:va = some ⟨b,off,none⟩∧vc = c:=by cases hv;exact ⟨rfl,rfl⟩
    clear hv
    obtain ⟨b2,off2,c2,hv,hbl2,hcell2⟩:=hm'.cell (by omega)
    obtain ⟨rfl,rfl⟩:ua = some ⟨b2,off2,none⟩∧uc = c2:=by cases hv;exact ⟨rfl,rfl⟩
    clear hv
    have h1:=fun w' (hw':Grew wr w')=>hw'.cell (hcell1 k hlt)
    have h2:=fun w' (hw':Grew wr w')=>hw'.cell (hcell2 k (show k < m.length by omega))
    have hs1:=take_snoc_i hlt
    have hs2:=take_snoc_i (show k < m.length by omega)
    have hg1:l = m→l.getD k 0 = m.getD k 0:=fun e=>by rw [e]
    have H1:=Lib.hid hs1
    have H2:=Lib.hid hs2
    have H3:=Lib.hid hg1
    have t7:(k:Int).toNat = k:=by omega
    clear hs1 hs2 hg1 hcell1 hcell2
    generalize l.getD k 0 = d1 at *
    generalize m.getD k 0 = d2 at *
    go_upto_region 6 with (fail)
    refine wp_region_grew (by kernel_rfl) (by kernel_rfl) ?_
    repeat (first
     | (go_big_quiet_want;(with_reducible apply quiet_load_at (ty:=31) (x:=.tmp _));rfl;rfl;assumption;go_simp;go_big_quiet_on)
     | (go_big_quiet_want;apply quiet_val;(intro w' hw';go_simp;first | done | rfl);go_simp;go_big_quiet_on)
     | (go_big_quiet_skip))
    refine wpQuiet_nil ?_
    intro w5 hw5
    have hB5:=below_next' hb hw5 (by have:=hb.size;omega)
    clear h1 h2
    by_cases hd:d1 = d2
    ·have t4:(d1 != d2) = false:=by simp [hd]
     have HD:=Lib.hid hd
     clear hd
     go_wp2
     exact ⟨⟨k + 1,by omega,by go_num,by rw [H1.out,H2.out,HQ.out,HD.out],hB5⟩,by simp [intOf];omega⟩
    ·have t4:(d1 != d2) = true:=by simp [hd]
     have HD:=Lib.hid hd
     clear hd
     go_wp2
     go_ret
     exact ⟨ret_bool (by simp;exact fun e=>HD.out (H3.out e)),hB5⟩
   ·obtain rfl:k = l.length:=by omega
    have t2:¬ (l.length:Int) < (l.length:Int):=by omega
    have he:l = m:=by
     have:=HQ.out
     rwa [List.take_of_length_le (Nat.le_refl _),List.take_of_length_le (by have:=HLM.out;omega)] at this
    have HE:=Lib.hid he
    clear he
    go_wp2
    go_ret
    exact ⟨ret_bool (by simp;exact HE.out),hb⟩
 ·have t1:((l.length:Int) != (m.length:Int)) = true:=by simp;omega
  have hne:l ≠ m:=fun e=>hlen (by rw [e])
  have HN:=Lib.hid hne
  clear hne hlen
  go_enter Tryz.func50,Tryz.ntmps50
  go_wp2
  go_ret
  exact ⟨ret_bool (by simp;exact HN.out),Below.refl _ _⟩
theorem take_snoc_m {l:List MemL} {k:Nat} (h:k < l.length):l.take (k + 1) = l.take k ++ [l.getD k mem0]:=by
 rw [List.take_succ_eq_append_getElem h]
 simp [List.getD,List.getElem?_eq_getElem h]
def SameMI (l m:List MemL) (w:World) (iv:Value) (wr:World):Prop:=∃ k:Nat,k ≤ l.length∧iv = .int .i64 (k:Int)∧l.take k = m.take k∧Below w.heap.size w wr
set_option maxRecDepth 100000 in
set_option maxHeartbeats 1600000 in
theorem SameMems_any (v u:Value) (l m:List MemL) (w:World) (hl:Mems w v l) (hm:Mems w u m) :
  Calls Tryz.prog 52 #[v,u] w fun e w'=>e = .returned (.bool (decide (l = m)))∧Below w.heap.size w w':=by
 have hle:=hl.le
 have hme:=hm.le
 obtain ⟨va,vc,hv⟩:=hl.len
 subst hv
 obtain ⟨ua,uc,hv⟩:=hm.len
 subst hv
 have hgd:=guard_mem
 by_cases hlen:l.length = m.length
 ·have t1:((l.length:Int) != (m.length:Int)) = false:=by simp;omega
  have HLM:=Lib.hid hlen
  go_enter Tryz.func52,Tryz.ntmps52
  clear hlen
  go_wp2
  go_loopw [5] (SameMI l m w) (fun iv _=>l.length - (intOf iv).toNat)
  case atStart=>exact ⟨0,by omega,rfl,by simp,Below.refl _ _⟩
  case round=>
   obtain ⟨k,hk,rfl,heq,hb⟩:=hrel
   have hl':=hl.of_new hb
   have hm':=hm.of_new hb
   have HQ:=Lib.hid heq
   clear heq hl hm
   by_cases hlt:k < l.length
   ·have t2:(k:Int) < (l.length:Int):=by omega
    have t3:(k:Int) < (m.length:Int):=by have:=HLM.out;omega
    obtain ⟨b,off,c,hv,hbl1,hcell1⟩:=hl'.cell (by omega)
    obtain ⟨rfl,rfl⟩:va = some ⟨b,off,none⟩∧vc = c:=by cases hv;exact ⟨rfl,rfl⟩
    clear hv
    obtain ⟨b2,off2,c2,hv,hbl2,hcell2⟩:=hm'.cell (by omega)
    obtain ⟨rfl,rfl⟩:ua = some ⟨b2,off2,none⟩∧uc = c2:=by cases hv;exact ⟨rfl,rfl⟩
    clear hv
    have h1:=hcell1 k hlt
    have h2:=hcell2 k (show k < m.length by omega)
    have hs1:=take_snoc_m hlt
    have hs2:=take_snoc_m (show k < m.length by omega)
    have hg1:l = m→l.getD k mem0 = m.getD k mem0:=fun e=>by rw [e]
    have H1:=Lib.hid hs1
    have H2:=Lib.hid hs2
    have H3:=Lib.hid hg1
    have hneq:=run_neq_mem (l.getD k mem0) (m.getD k mem0)
    unfold MemV at hneq
    have t7:(k:Int).toNat = k:=by omega
    clear hs1 hs2 hg1 hcell1 hcell2
    generalize l.getD k mem0 = d1 at *
    generalize m.getD k mem0 = d2 at *
    have H11:=Lib.hid h1
    have H12:=Lib.hid h2
    clear h1 h2
    go_upto_region 6 with (fail)
    refine wp_region_grew (by kernel_rfl) (by kernel_rfl) ?_
    repeat (first
     | (go_big_quiet_want;(with_reducible apply quiet_load_mem (x:=d2) (p:=.tmp 23));rfl;rfl;exact H12.out;go_simp;go_big_quiet_on)
     | (go_big_quiet_want;(with_reducible apply quiet_load_mem (x:=d1) (p:=.tmp 19));rfl;rfl;exact H11.out;go_simp;go_big_quiet_on)
     | (go_big_quiet_want;(with_reducible apply quiet_load_at (ty:=31) (x:=.tmp _));rfl;rfl;assumption;go_simp;go_big_quiet_on)
     | (go_big_quiet_want;apply quiet_val;(intro w' hw';go_simp;first | done | rfl);go_simp;go_big_quiet_on)
     | (go_big_quiet_skip))
    refine wpQuiet_nil ?_
    intro w5 hw5
    have hB5:=below_next' hb hw5 (by have:=hb.size;omega)
    clear hneq
    by_cases hd:d1 = d2
    ·have t4:decide (d1 = d2) = true:=by simp [hd]
     have HD:=Lib.hid hd
     clear hd
     simp only [t4,Bool.not_true]
     go_wp2
     exact ⟨⟨k + 1,by omega,by go_num,by rw [H1.out,H2.out,HQ.out,HD.out],hB5⟩,by simp [intOf];omega⟩
    ·have t4:decide (d1 = d2) = false:=by simp [hd]
     have HD:=Lib.hid hd
     clear hd
     simp only [t4,Bool.not_false]
     go_wp2
     go_ret
     exact ⟨ret_bool (by simp;exact fun e=>HD.out (H3.out e)),hB5⟩
   ·obtain rfl:k = l.length:=by omega
    have t2:¬ (l.length:Int) < (l.length:Int):=by omega
    have he:l = m:=by
     have:=HQ.out
     rwa [List.take_of_length_le (Nat.le_refl _),List.take_of_length_le (by have:=HLM.out;omega)] at this
    have HE:=Lib.hid he
    clear he
    go_wp2
    go_ret
    exact ⟨ret_bool (by simp;exact HE.out),hb⟩
 ·have t1:((l.length:Int) != (m.length:Int)) = true:=by simp;omega
  have hne:l ≠ m:=fun e=>hlen (by rw [e])
  have HN:=Lib.hid hne
  clear hne hlen
  go_enter Tryz.func52,Tryz.ntmps52
  go_wp2
  go_ret
  exact ⟨ret_bool (by simp;exact HN.out),Below.refl _ _⟩
end Go.Proofs.YtnohglkilpnjhaaGreatDoor
namespace Go.Proofs.YtnohglkilpnjhaaGreatDoor
open Go.RowKit
set_option maxRecDepth 100000
theorem msg_boxed2 (w:World) {a b:MsgL} {s u:MsgS} (h:a.hash.length = 32) (h2:b.hash.length = 32):∃ W,(w.alloc (.cells (msgCells a s).toArray 37)).alloc (.cells (msgCells b u).toArray 37) = W∧MsgO W w.heap.size a s∧MsgO W (w.heap.size + 1) b u∧Below w.heap.size w W:=by
 refine ⟨_,rfl,(msg_alloc w h).of_new ((Below.refl _ _).alloc (Nat.le_refl _) _),?_,((Below.refl _ w).alloc (Nat.le_refl _) _).alloc (by simp) _⟩
 have:=msg_alloc (w.alloc (.cells (msgCells a s).toArray 37)) (m:=b) (s:=u) h2
 rwa [World.size_alloc] at this
set_option maxHeartbeats 6400000 in
theorem SameMsg_any (a b:MsgL) (s u:MsgS) (w:World) (ha:MsgR w a s) (hb:MsgR w b u) :
  Calls Tryz.prog 16 #[MsgV a s,MsgV b u] w fun e w'=>e = .returned (.bool (decide (a = b)))∧Below w.heap.size w w':=by
 obtain ⟨W,hW,hoa,hob,hbb⟩:=msg_boxed2 w (s:=s) (u:=u) ha.hash hb.hash
 rw [show MsgV a s = .agg (msgCells a s).toArray from rfl,show MsgV b u = .agg (msgCells b u).toArray from rfl]
 have haW:=ha.of_new hbb
 have hbW:=hb.of_new hbb
 obtain ⟨va,ca,hva⟩:=haW.bytes.len
 obtain ⟨vb,cb,hvb⟩:=hbW.bytes.len
 have a4:=hoa.ids
 have a6:=hoa.proof
 have a7:=hoa.members
 have b4:=hob.ids
 have b6:=hob.proof
 have b7:=hob.members
 have hS1:=SameInts_any s.vi u.vi a.ids b.ids W haW.ids hbW.ids
 have hS2:=fun w' (h:Below W.heap.size W w')=>Same_any s.vp u.vp a.proof b.proof w' (haW.proof.of_new h) (hbW.proof.of_new h)
 have hS3:=fun w' (h:Below W.heap.size W w')=>SameMems_any s.vm u.vm a.members b.members w' (haW.members.of_new h) (hbW.members.of_new h)
 obtain ⟨x4,y4,hx4⟩:=haW.ids.len
 obtain ⟨x6,y6,hx6⟩:=haW.proof.len
 obtain ⟨x7,y7,hx7⟩:=haW.members.len
 obtain ⟨z4,t4,hz4⟩:=hbW.ids.len
 obtain ⟨z6,t6,hz6⟩:=hbW.proof.len
 obtain ⟨z7,t7,hz7⟩:=hbW.members.len
 rw [hx4] at a4 hS1
 rw [hz4] at b4 hS1
 rw [hx6] at a6 hS2
 rw [hz6] at b6 hS2
 rw [hx7] at a7 hS3
 rw [hz7] at b7 hS3
 have HA:=Lib.hid haW
 have HB:=Lib.hid hbW
 have HOA:=Lib.hid hoa
 have HOB:=Lib.hid hob
 have HW:=Lib.hid hW
 have HS1:=Lib.hid hS1
 have HS2:=Lib.hid hS2
 have HS3:=Lib.hid hS3
 have HVA:=Lib.hid hva
 have HVB:=Lib.hid hvb
 have gla:=hoa.lt
 have glb:=hob.lt
 have hne:∀ (q:Prop) [Decidable q],(a = b→q)→¬ q→decide (a = b) = false:=fun q _ h1 h2=>decide_eq_false fun e=>h2 (h1 e)
 have HNE:=Lib.hid hne
 obtain ⟨D,hD⟩:∃ D,decide (a = b) = D:=⟨_,rfl⟩
 have hdn:∀ (q:Prop),(a = b→q)→¬ q→D = false:=fun q h1 h2=>by rw [← hD];exact decide_eq_false fun e=>h2 (h1 e)
 have hdy:a.kind = b.kind→a.hash = b.hash→a.piece = b.piece→a.ids = b.ids→a.bytes = b.bytes→a.proof = b.proof→a.members = b.members→D = decide (a.seed = b.seed):=fun e1 e2 e3 e4 e5 e6 e7=>by
  rw [← hD]
  obtain ⟨k1,h1,p1,i1,b1,q1,m1,d1⟩:=a
  obtain ⟨k2,h2,p2,i2,b2,q2,m2,d2⟩:=b
  dsimp only at *
  subst e1 e2 e3 e4 e5 e6 e7
  simp
 rw [hD]
 have HDN:=Lib.hid hdn
 have HDY:=Lib.hid hdy
 clear hW ha hb haW hbW hoa hob hva hvb hS1 hS2 hS3 hx4 hx6 hx7 hz4 hz6 hz7 hne HNE hD hdn hdy
 go_enter Tryz.func16,Tryz.ntmps16
 go_upto_region 1 with (fail)
 rw [HW.out]
 go_upto_region 2 with (first | (go_at_call 50;refine HS1.out.mono ?_;rintro e w1 ⟨rfl,hb1⟩))
 have a6':=Grew.cell hb1 a6
 have b6':=Grew.cell hb1 b6
 go_upto_region 3 with (first | (go_at_call 51;refine (HS2.out _ hb1).mono ?_;rintro e w2 ⟨rfl,hb2⟩))
 have hB2:=below_next hb1 hb2
 have a7':=Grew.cell hB2 a7
 have b7':=Grew.cell hB2 b7
 go_upto_region 4 with (first | (go_at_call 52;refine (HS3.out _ hB2).mono ?_;rintro e w3 ⟨rfl,hb3⟩))
 have hB3:=below_next hB2 hb3
 have hF:=below_next hbb hB3
 have oa:=HOA.out.of_new hB3
 have ob:=HOB.out.of_new hB3
 have a0:=oa.kind
 have a1:=oa.hash
 have a3:=oa.piece
 have a5:=oa.bytes
 have a8:=oa.seed
 have b0:=ob.kind
 have b1:=ob.hash
 have b3:=ob.piece
 have b5:=ob.bytes
 have b8:=ob.seed
 rw [HVA.out] at a5
 rw [HVB.out] at b5
 have ra:=HA.out.bytes.of_new hB3
 have rb:=HB.out.bytes.of_new hB3
 rw [HVA.out] at ra
 rw [HVB.out] at rb
 have s1:=ra.string (P:=Tryz.prog) (t:=33) (d:=9) Tryz.underlying33 Tryz.underlying5 Tryz.underlying9
 have s2:=rb.string (P:=Tryz.prog) (t:=33) (d:=9) Tryz.underlying33 Tryz.underlying5 Tryz.underlying9
 have hgd:=guard_dig
 have heq:=run_eql_dig a.hash b.hash a1.1 b1.1
 have hse:=str_eq a.bytes b.bytes
 have A1:=Lib.hid a1
 have B1:=Lib.hid b1
 clear oa ob ra rb a4 b4 a6 b6 a7 b7 a6' b6' a7' b7' a1 b1 HA HB HOA HOB HW HS1 HS2 HS3
 by_cases c0:a.kind = b.kind
 case neg=>
  have t:(a.kind == b.kind) = false:=beq_eq_false_iff_ne.2 c0
  have HC:=Lib.hid (HDN.out _ (fun e=>by rw [e]) c0)
  clear c0
  go_wp2
  go_ret
  exact ⟨ret_bool HC.out.symm,hF⟩
 have t0:(a.kind == b.kind) = true:=beq_iff_eq.2 c0
 have C0:=Lib.hid c0
 clear c0
 by_cases c1:a.hash = b.hash
 case neg=>
  rw [decide_eq_false c1] at heq
  have HC:=Lib.hid (HDN.out _ (fun e=>by rw [e]) c1)
  clear c1
  go_wp2_with (first
   | ((with_reducible refine wpList_met (o:=⟨some 30,_,_,_,_,_⟩) ?_ ?_);rfl;intro K hK;refine wp_load_at (ty:=31) (x:=.tmp 29) rfl rfl A1.out (hK _ _ ?_))
   | ((with_reducible refine wpList_met (o:=⟨some 32,_,_,_,_,_⟩) ?_ ?_);rfl;intro K hK;refine wp_load_at (ty:=31) (x:=.tmp 31) rfl rfl B1.out (hK _ _ ?_)))
  go_ret
  exact ⟨ret_bool HC.out.symm,hF⟩
 rw [decide_eq_true c1] at heq
 have C1:=Lib.hid c1
 clear c1
 by_cases c3:a.piece = b.piece
 case neg=>
  have t:(a.piece == b.piece) = false:=beq_eq_false_iff_ne.2 c3
  have HC:=Lib.hid (HDN.out _ (fun e=>by rw [e]) c3)
  clear c3
  go_wp2_with (first
   | ((with_reducible refine wpList_met (o:=⟨some 30,_,_,_,_,_⟩) ?_ ?_);rfl;intro K hK;refine wp_load_at (ty:=31) (x:=.tmp 29) rfl rfl A1.out (hK _ _ ?_))
   | ((with_reducible refine wpList_met (o:=⟨some 32,_,_,_,_,_⟩) ?_ ?_);rfl;intro K hK;refine wp_load_at (ty:=31) (x:=.tmp 31) rfl rfl B1.out (hK _ _ ?_)))
  go_ret
  exact ⟨ret_bool HC.out.symm,hF⟩
 have t3:(a.piece == b.piece) = true:=beq_iff_eq.2 c3
 have C3:=Lib.hid c3
 clear c3
 by_cases c4:a.ids = b.ids
 case neg=>
  rw [decide_eq_false c4]
  have HC:=Lib.hid (HDN.out _ (fun e=>by rw [e]) c4)
  clear c4
  go_wp2_with (first
   | ((with_reducible refine wpList_met (o:=⟨some 30,_,_,_,_,_⟩) ?_ ?_);rfl;intro K hK;refine wp_load_at (ty:=31) (x:=.tmp 29) rfl rfl A1.out (hK _ _ ?_))
   | ((with_reducible refine wpList_met (o:=⟨some 32,_,_,_,_,_⟩) ?_ ?_);rfl;intro K hK;refine wp_load_at (ty:=31) (x:=.tmp 31) rfl rfl B1.out (hK _ _ ?_)))
  go_ret
  exact ⟨ret_bool HC.out.symm,hF⟩
 rw [decide_eq_true c4]
 have C4:=Lib.hid c4
 clear c4
 by_cases c5:a.bytes = b.bytes
 case neg=>
  rw [decide_eq_false c5] at hse
  have t5:decide (a.bytes = b.bytes) = false:=decide_eq_false c5
  have t6:(a.bytes == b.bytes) = false:=by simp [c5]
  have t7:(a.bytes.toArray == b.bytes.toArray) = false:=by simp [c5]
  have HC:=Lib.hid (HDN.out _ (fun e=>by rw [e]) c5)
  clear c5
  go_wp2_with (first
   | ((with_reducible refine wpList_met (o:=⟨some 30,_,_,_,_,_⟩) ?_ ?_);rfl;intro K hK;refine wp_load_at (ty:=31) (x:=.tmp 29) rfl rfl A1.out (hK _ _ ?_))
   | ((with_reducible refine wpList_met (o:=⟨some 32,_,_,_,_,_⟩) ?_ ?_);rfl;intro K hK;refine wp_load_at (ty:=31) (x:=.tmp 31) rfl rfl B1.out (hK _ _ ?_)))
  go_ret
  exact ⟨ret_bool HC.out.symm,hF⟩
 rw [decide_eq_true c5] at hse
 have t5:decide (a.bytes = b.bytes) = true:=decide_eq_true c5
 have t6:(a.bytes == b.bytes) = true:=by simp [c5]
 have t7:(a.bytes.toArray == b.bytes.toArray) = true:=by simp [c5]
 have C5:=Lib.hid c5
 clear c5
 by_cases c6:a.proof = b.proof
 case neg=>
  rw [decide_eq_false c6]
  have HC:=Lib.hid (HDN.out _ (fun e=>by rw [e]) c6)
  clear c6
  go_wp2_with (first
   | ((with_reducible refine wpList_met (o:=⟨some 30,_,_,_,_,_⟩) ?_ ?_);rfl;intro K hK;refine wp_load_at (ty:=31) (x:=.tmp 29) rfl rfl A1.out (hK _ _ ?_))
   | ((with_reducible refine wpList_met (o:=⟨some 32,_,_,_,_,_⟩) ?_ ?_);rfl;intro K hK;refine wp_load_at (ty:=31) (x:=.tmp 31) rfl rfl B1.out (hK _ _ ?_)))
  go_ret
  exact ⟨ret_bool HC.out.symm,hF⟩
 rw [decide_eq_true c6]
 have C6:=Lib.hid c6
 clear c6
 by_cases c7:a.members = b.members
 case neg=>
  rw [decide_eq_false c7]
  have HC:=Lib.hid (HDN.out _ (fun e=>by rw [e]) c7)
  clear c7
  go_wp2_with (first
   | ((with_reducible refine wpList_met (o:=⟨some 30,_,_,_,_,_⟩) ?_ ?_);rfl;intro K hK;refine wp_load_at (ty:=31) (x:=.tmp 29) rfl rfl A1.out (hK _ _ ?_))
   | ((with_reducible refine wpList_met (o:=⟨some 32,_,_,_,_,_⟩) ?_ ?_);rfl;intro K hK;refine wp_load_at (ty:=31) (x:=.tmp 31) rfl rfl B1.out (hK _ _ ?_)))
  go_ret
  exact ⟨ret_bool HC.out.symm,hF⟩
 rw [decide_eq_true c7]
 have HC:=Lib.hid (HDY.out C0.out C1.out C3.out C4.out C5.out C6.out c7)
 clear c7
 go_wp2_with (first
  | ((with_reducible refine wpList_met (o:=⟨some 30,_,_,_,_,_⟩) ?_ ?_);rfl;intro K hK;refine wp_load_at (ty:=31) (x:=.tmp 29) rfl rfl A1.out (hK _ _ ?_))
  | ((with_reducible refine wpList_met (o:=⟨some 32,_,_,_,_,_⟩) ?_ ?_);rfl;intro K hK;refine wp_load_at (ty:=31) (x:=.tmp 31) rfl rfl B1.out (hK _ _ ?_)))
 go_ret
 refine ⟨ret_bool ?_,hF⟩
 rw [HC.out,Bool.eq_iff_iff]
 simp
end Go.Proofs.YtnohglkilpnjhaaGreatDoor
namespace Go.Proofs.YtnohglkilpnjhaaGreatDoor
open Go.RowKit
def shaZ:List Int:=[1116352408,1899447441,3049323471,3921009573,961987163,1508970993,2453635748,2870763221,3624381080,310598401,607225278,1426881987,1925078388,2162078206,2614888103,3248222580,3835390401,4022224774,264347078,604807628,770255983,1249150122,1555081692,1996064986,2554220882,2821834349,2952996808,3210313671,3336571891,3584528711,113926993,338241895,666307205,773529912,1294757372,1396182291,1695183700,1986661051,2177026350,2456956037,2730485921,2820302411,3259730800,3345764771,3516065817,3600352804,4094571909,275423344,430227734,506948616,659060556,883997877,958139571,1322822218,1537002063,1747873779,1955562222,2024104815,2227730452,2361852424,2428436474,2756734187,3204031479,3329325298]
theorem gK : Tryz.prog.globalNamed "starling/digest.constants" = some 0 := by kernel_rfl
theorem gKType:(Tryz.prog.globals[0]?).map (·.type) = some 199:=by kernel_rfl
theorem cellsK:Tryz.prog.cellsOf 199 = 64:=by kernel_rfl
theorem cellsK1:Tryz.prog.cellsOf 151 = 1:=by kernel_rfl
theorem shaZ_at:∀ j:Fin 64,shaZ.getD j.val 0 = w32 (shaK.getD j.val 0):=by decide
theorem consts_of {W : World} (h : laidMetH Tryz.prog [("starling/digest.constants", Rows.laid_starling_digest_constants)] W) : Consts W := by
 have ht : Lib.TabIs Tryz.prog W "starling/digest.constants" .u32 shaZ := Lib.tabIs_of_head (rest := []) gK gKType Tryz.underlying199 Tryz.underlying151 cellsK1 cellsK h
 intro j hj
 have:=ht.cell gK j hj
 rw [this]
 unfold W32
 rw [← shaZ_at ⟨j,hj⟩]
noncomputable def laidWorld (os:Os):World:=
 { World.holding Tryz.prog os ⟨#[],#[],[]⟩ with heap:=(World.holding Tryz.prog os ⟨#[],#[],[]⟩).heap.modify 0 fun
   | .cells _ t frozen=>.cells #[.int .u32 1116352408,.int .u32 1899447441,.int .u32 3049323471,.int .u32 3921009573,.int .u32 961987163,.int .u32 1508970993,.int .u32 2453635748,.int .u32 2870763221,.int .u32 3624381080,.int .u32 310598401,.int .u32 607225278,.int .u32 1426881987,.int .u32 1925078388,.int .u32 2162078206,.int .u32 2614888103,.int .u32 3248222580,.int .u32 3835390401,.int .u32 4022224774,.int .u32 264347078,.int .u32 604807628,.int .u32 770255983,.int .u32 1249150122,.int .u32 1555081692,.int .u32 1996064986,.int .u32 2554220882,.int .u32 2821834349,.int .u32 2952996808,.int .u32 3210313671,.int .u32 3336571891,.int .u32 3584528711,.int .u32 113926993,.int .u32 338241895,.int .u32 666307205,.int .u32 773529912,.int .u32 1294757372,.int .u32 1396182291,.int .u32 1695183700,.int .u32 1986661051,.int .u32 2177026350,.int .u32 2456956037,.int .u32 2730485921,.int .u32 2820302411,.int .u32 3259730800,.int .u32 3345764771,.int .u32 3516065817,.int .u32 3600352804,.int .u32 4094571909,.int .u32 275423344,.int .u32 430227734,.int .u32 506948616,.int .u32 659060556,.int .u32 883997877,.int .u32 958139571,.int .u32 1322822218,.int .u32 1537002063,.int .u32 1747873779,.int .u32 1955562222,.int .u32 2024104815,.int .u32 2227730452,.int .u32 2361852424,.int .u32 2428436474,.int .u32 2756734187,.int .u32 3204031479,.int .u32 3329325298] t frozen
   | o=>o }
end Go.Proofs.YtnohglkilpnjhaaGreatDoor
namespace Go.Proofs.YtnohglkilpnjhaaGreatDoor
open Go.ChangeShapes Go.WideShapes Go.ChangeAt Go.RowKit Go.Deep
section
variable {H:Type} {enc:TypeId × Value→H} {P:Program} {W:World} {base:Nat} {spare:Nat→Bool} {held:Bool}
theorem flatD_getElem {l:List (List UInt8)} (h:Dig32 l) {j:Nat} (hj:j < l.length * 32):(flatD l)[j]? = ((l.getD (j / 32) []).map B8)[j % 32]?:=by
 have:=flatD_at h (i:=j / 32) (j:=j % 32) (by omega) (by omega)
 rwa [show j / 32 * 32 + j % 32 = j by omega] at this
end
end Go.Proofs.YtnohglkilpnjhaaGreatDoor
namespace Go.Proofs.YtnohglkilpnjhaaGreatDoor
open Go.ChangeShapes Go.WideShapes Go.ChangeAt Go.RowKit Go.Deep
set_option maxRecDepth 100000
section
variable {H:Type} {enc:TypeId × Value→H} {P:Program} {W:World} {base:Nat} {spare:Nat→Bool} {held:Bool}
theorem ints_of_trod {t e:TypeId} {fuel:Nat} {cs:List Value} {x:DataW H × List MemPlace} (ht:P.underlying t = some (.slice e)) (he:P.underlying e = some (.int .i64)) (hc:P.cellsOf e = 1)
  (h:DataW.trod enc P W base spare held fuel t cs = some x):∃ v l,cs = [v]∧Ints W v l∧∀ n ∈ l,inI64 n:=by
 rcases open_ints ht he hc h with ⟨rfl,_⟩ | ⟨a,len,cap,zs,rfl,_,hl,hm,hz,_,hcell,hwz⟩
 ·exact ⟨_,[],rfl,Row.of_nil 1,fun n h=>by cases h⟩
 ·have hlz:len ≤ zs.length:=by rw [hz];split <;> omega
  refine ⟨_,zs.take len,rfl,?_,fun n hn=>bd_i64 (hwz n (List.mem_of_mem_take hn))⟩
  have hlen:(zs.take len).length = len:=by simp;omega
  unfold Ints
  rw [hlen]
  refine ⟨by simp;omega,some a,cap,rfl,hl,hm,(fun h=>by cases h),fun hne=>?_⟩
  have h0:=hcell 0 (by omega)
  have e0:a.add 0 = a:=rfl
  rw [e0] at h0
  obtain ⟨b,off,rfl⟩:=addr_none h0
  refine ⟨b,off,rfl,World.block_lt_of_cell? _ _ h0,fun j hj=>?_⟩
  have hj':j < zs.length:=by omega
  have:=hcell j hj'
  rw [addr_add] at this
  rw [this]
  simp [List.getElem?_map,show j < len by omega,List.getElem?_eq_getElem hj',List.getD,I64]
theorem digests_of_trod {t e f:TypeId} {fuel:Nat} {cs:List Value} {x:DataW H × List MemPlace} (ht:P.underlying t = some (.slice e)) (he:P.underlying e = some (.array 32 f)) (hf:P.underlying f = some (.int .u8)) (hce:P.cellsOf e = 32) (hcf:P.cellsOf f = 1)
  (hfu:DataW.trod enc P W 0 spare held fuel t cs = some x):∃ v l,cs = [v]∧Digs W v l:=by
 rcases open_slice ht hfu with ⟨rfl,_⟩ | ⟨a,len0,cap0,m,n,D,Pl,rfl,_,hl,hm,hmm,_,hx⟩
 ·exact ⟨_,[],rfl,(fun _ h=>by simp at h),Row.of_nil 32⟩
 ·have hlm:len0 ≤ m:=by rw [hmm];split <;> omega
  have one:∀ i,i < len0→∃ y:List UInt8,y.length = 32∧∀ j,j < 32→W.cell? ((a.add (i * 32)).add j) = (y.map B8)[j]?:=by
   intro i hi
   obtain ⟨cs',hc,ht'⟩:=hx i (by omega)
   rw [hce] at hc
   obtain ⟨_,hcl,hat⟩:=World.cells?_some hc
   obtain ⟨l,rfl,hb⟩:=octs_of_trod he hf hcf hce ht'
   refine ⟨l,hb,fun j hj=>?_⟩
   have:=hat j hj
   simpa using this
  obtain ⟨Y,hY⟩:=choose_lt (n:=len0) (p:=fun i (y:List UInt8)=>y.length = 32∧∀ j,j < 32→W.cell? ((a.add (i * 32)).add j) = (y.map B8)[j]?) one
  have h32:Dig32 ((List.range len0).map Y):=fun d hd=>by
   obtain ⟨i,hi,rfl⟩:=List.mem_map.1 hd
   exact (hY i (List.mem_range.1 hi)).1
  have hlen:((List.range len0).map Y).length = len0:=by simp
  refine ⟨_,(List.range len0).map Y,rfl,h32,by rw [flatD_len h32],some a,cap0,by rw [hlen],by rw [hlen];exact hl,hm,(fun h=>by cases h),fun h0=>?_⟩
  rw [hlen] at h0 ⊢
  have h0':0 < len0:=by omega
  have c0:=(hY 0 h0').2 0 (by omega)
  have e0:(a.add (0 * 32)).add 0 = a:=rfl
  rw [e0,List.getElem?_eq_getElem (by simp [(hY 0 h0').1])] at c0
  obtain ⟨b,off,rfl⟩:=addr_none c0
  refine ⟨b,off,rfl,World.block_lt_of_cell? _ _ c0,fun j hj=>?_⟩
  have h2:=(hY (j / 32) (by omega)).2 (j % 32) (by omega)
  rw [addr_add,addr_add,Nat.add_assoc,show j / 32 * 32 + j % 32 = j by omega] at h2
  rw [h2,flatD_getElem h32 (by rw [hlen];exact hj)]
  simp [List.getD,show j / 32 < len0 by omega]
end
section
variable {H:Type} {enc:TypeId × Value→H} {W:World} {base:Nat} {spare:Nat→Bool} {held:Bool}
theorem fields_member : (Tryz.prog.fieldsOf 113).toList.map (fun f => (f.name, f.type, f.offset)) = [("Id", 3, 0), ("Incarnation", 3, 1), ("State", 3, 2), ("Since", 3, 3)] := by kernel_rfl
theorem fields_msg:(Tryz.prog.fieldsOf 37).toList.map (fun f=>(f.name,f.type,f.offset)) =
  [("Kind", 3, 0), ("Hash", 31, 1), ("Piece", 3, 33), ("Ids", 32, 34), ("Bytes", 33, 35), ("Proof", 34, 36), ("Members", 35, 37), ("Seed", 4, 38)] := by kernel_rfl
theorem struct_fields {T:TypeId} {fs:Array Field} {fuel:Nat} {cs:List Value} {y:DataW H × List MemPlace} (ht:Tryz.prog.underlying T = some (.struct fs)) (h:DataW.trod enc Tryz.prog W 0 spare held fuel T cs = some y) :
  ∃ n,cs.length = Tryz.prog.cellsOf T∧∀ (j:Nat) (q:String × TypeId × Nat),(fs.toList.map (fun f=>(f.name,f.type,f.offset)))[j]? = some q→∃ z,DataW.trod enc Tryz.prog W 0 spare held n q.2.1 ((cs.drop q.2.2).take (Tryz.prog.cellsOf q.2.1)) = some z:=by
 obtain ⟨xs,n,_,rfl,hl,hlen,hf⟩:=DataW.trod_struct ht h
 refine ⟨n,hl,fun j q hq=>?_⟩
 rw [List.getElem?_map] at hq
 obtain ⟨f,hfj,rfl⟩:=Option.map_eq_some_iff.1 hq
 have h1:=hf j f (by simpa using hfj)
 have hj:j < xs.length:=by
  have:=(List.getElem?_eq_some_iff.1 hfj).1
  simp at this;omega
 exact ⟨xs[j],by rw [h1,List.getElem?_eq_getElem hj]⟩
theorem struct_member : ∃ fs, Tryz.prog.underlying 113 = some (.struct fs) ∧ fs.toList.map (fun f => (f.name, f.type, f.offset)) = [("Id", 3, 0), ("Incarnation", 3, 1), ("State", 3, 2), ("Since", 3, 3)] :=
 ⟨Tryz.prog.fieldsOf 113,by kernel_rfl,fields_member⟩
theorem struct_msg:∃ fs,Tryz.prog.underlying 37 = some (.struct fs)∧fs.toList.map (fun f=>(f.name,f.type,f.offset)) =
  [("Kind", 3, 0), ("Hash", 31, 1), ("Piece", 3, 33), ("Ids", 32, 34), ("Bytes", 33, 35), ("Proof", 34, 36), ("Members", 35, 37), ("Seed", 4, 38)] :=
 ⟨Tryz.prog.fieldsOf 37,by kernel_rfl,fields_msg⟩
theorem mem_of_trod {fuel:Nat} {cs:List Value} {y:DataW H × List MemPlace} (h:DataW.trod enc Tryz.prog W 0 spare held fuel 113 cs = some y):∃ x:MemL,cs = x.cells∧x.ok:=by
 obtain ⟨fs,ht,hff⟩:=struct_member
 obtain ⟨n,hl,fld⟩:=struct_fields ht h
 have hcl:Tryz.prog.cellsOf 113 = 4:=by kernel_rfl
 have hci:Tryz.prog.cellsOf 3 = 1:=by kernel_rfl
 rw [hff] at fld
 rw [hcl] at hl
 obtain ⟨z0,f0⟩:=fld 0 _ rfl
 obtain ⟨z1,f1⟩:=fld 1 _ rfl
 obtain ⟨z2,f2⟩:=fld 2 _ rfl
 obtain ⟨z3,f3⟩:=fld 3 _ rfl
 dsimp only at f0 f1 f2 f3
 rw [hci] at f0 f1 f2 f3
 obtain ⟨q0,e0,_,w0⟩:=DataW.trod_int Tryz.underlying3 f0
 obtain ⟨q1,e1,_,w1⟩:=DataW.trod_int Tryz.underlying3 f1
 obtain ⟨q2,e2,_,w2⟩:=DataW.trod_int Tryz.underlying3 f2
 obtain ⟨q3,e3,_,w3⟩:=DataW.trod_int Tryz.underlying3 f3
 match cs,hl with
 | [c0,c1,c2,c3],_=>
  simp at e0 e1 e2 e3
  subst e0 e1 e2 e3
  exact ⟨⟨q0,q1,q2,q3⟩,rfl,bd_i64 w0,bd_i64 w1,bd_i64 w2,bd_i64 w3⟩
theorem mems_of_trod {fuel:Nat} {cs:List Value} {x:DataW H × List MemPlace} (hfu:DataW.trod enc Tryz.prog W 0 spare held fuel 35 cs = some x):∃ v l,cs = [v]∧Mems W v l∧∀ y ∈ l,y.ok:=by
 have hce:Tryz.prog.cellsOf 113 = 4:=by kernel_rfl
 rcases open_slice Tryz.underlying35 hfu with ⟨rfl,_⟩ | ⟨a,len0,cap0,m,n,D,Pl,rfl,_,hl,hm,hmm,_,hx⟩
 ·exact ⟨_,[],rfl,Row.of_nil 4,fun _ h=>by cases h⟩
 ·have hlm:len0 ≤ m:=by rw [hmm];split <;> omega
  have one:∀ i,i < len0→∃ y:MemL,y.ok∧∀ j,j < 4→W.cell? ((a.add (i * 4)).add j) = y.cells[j]?:=by
   intro i hi
   obtain ⟨cs',hc,ht'⟩:=hx i (by omega)
   rw [hce] at hc
   obtain ⟨_,hcl,hat⟩:=World.cells?_some hc
   obtain ⟨y,rfl,hy⟩:=mem_of_trod ht'
   exact ⟨y,hy,fun j hj=>hat j hj⟩
  haveI:Inhabited MemL:=⟨mem0⟩
  obtain ⟨Y,hY⟩:=choose_lt (n:=len0) (p:=fun i (y:MemL)=>y.ok∧∀ j,j < 4→W.cell? ((a.add (i * 4)).add j) = y.cells[j]?) one
  have hlen:((List.range len0).map Y).length = len0:=by simp
  refine ⟨_,(List.range len0).map Y,rfl,⟨by rw [flatM_len],some a,cap0,by rw [hlen],by rw [hlen];exact hl,hm,(fun h=>by cases h),fun h0=>?_⟩,fun y hy=>?_⟩
  ·rw [hlen] at h0 ⊢
   have h0':0 < len0:=by omega
   have c0:=(hY 0 h0').2 0 (by omega)
   have e0:(a.add (0 * 4)).add 0 = a:=rfl
   rw [e0] at c0
   obtain ⟨b,off,rfl⟩:=addr_none (u:=.int .i64 (Y 0).id) (c0.trans rfl)
   refine ⟨b,off,rfl,World.block_lt_of_cell? _ _ (c0.trans rfl:_ = some (.int .i64 (Y 0).id)),fun j hj=>?_⟩
   have h2:=(hY (j / 4) (by omega)).2 (j % 4) (by omega)
   rw [addr_add,addr_add,Nat.add_assoc,show j / 4 * 4 + j % 4 = j by omega] at h2
   rw [h2]
   obtain ⟨g0,g1,g2,g3⟩:=flatM_at (l:=(List.range len0).map Y) (i:=j / 4) (by rw [hlen];omega)
   have eg:((List.range len0).map Y).getD (j / 4) mem0 = Y (j / 4):=by simp [List.getD,show j / 4 < len0 by omega]
   rw [eg] at g0 g1 g2 g3
   have hj4:j = j / 4 * 4 + j % 4:=by omega
   rcases (show j % 4 = 0∨j % 4 = 1∨j % 4 = 2∨j % 4 = 3 by omega) with e | e | e | e
   ·rw [e,show j = j / 4 * 4 by omega,show j / 4 * 4 / 4 = j / 4 by omega,g0];rfl
   ·rw [e,show j = j / 4 * 4 + 1 by omega,show (j / 4 * 4 + 1) / 4 = j / 4 by omega,g1];rfl
   ·rw [e,show j = j / 4 * 4 + 2 by omega,show (j / 4 * 4 + 2) / 4 = j / 4 by omega,g2];rfl
   ·rw [e,show j = j / 4 * 4 + 3 by omega,show (j / 4 * 4 + 3) / 4 = j / 4 by omega,g3];rfl
  ·obtain ⟨i,hi,rfl⟩:=List.mem_map.1 hy
   exact (hY i (List.mem_range.1 hi)).1
theorem msg_of_trod {fuel:Nat} {cs:List Value} {y:DataW H × List MemPlace} (h:DataW.trod enc Tryz.prog W 0 spare held fuel 37 cs = some y):∃ (m:MsgL) (s:MsgS),cs = msgCells m s∧MsgR W m s∧m.ok:=by
 obtain ⟨fs,ht,hff⟩:=struct_msg
 obtain ⟨n,hl,fld⟩:=struct_fields ht h
 have hcl:Tryz.prog.cellsOf 37 = 39:=by kernel_rfl
 have hci:Tryz.prog.cellsOf 3 = 1:=by kernel_rfl
 have hcd:Tryz.prog.cellsOf 31 = 32:=by kernel_rfl
 have hcb:Tryz.prog.cellsOf 5 = 1:=by kernel_rfl
 have hs1:Tryz.prog.cellsOf 32 = 1:=by kernel_rfl
 have hs2:Tryz.prog.cellsOf 33 = 1:=by kernel_rfl
 have hs3:Tryz.prog.cellsOf 34 = 1:=by kernel_rfl
 have hs4:Tryz.prog.cellsOf 35 = 1:=by kernel_rfl
 have hs5:Tryz.prog.cellsOf 4 = 1:=by kernel_rfl
 rw [hff] at fld
 rw [hcl] at hl
 obtain ⟨z0,f0⟩:=fld 0 _ rfl
 obtain ⟨z1,f1⟩:=fld 1 _ rfl
 obtain ⟨z2,f2⟩:=fld 2 _ rfl
 obtain ⟨z3,f3⟩:=fld 3 _ rfl
 obtain ⟨z4,f4⟩:=fld 4 _ rfl
 obtain ⟨z5,f5⟩:=fld 5 _ rfl
 obtain ⟨z6,f6⟩:=fld 6 _ rfl
 obtain ⟨z7,f7⟩:=fld 7 _ rfl
 dsimp only at f0 f1 f2 f3 f4 f5 f6 f7
 rw [hci] at f0 f2
 rw [hs1] at f3
 rw [hs2] at f4
 rw [hs3] at f5
 rw [hs4] at f6
 rw [hs5] at f7
 obtain ⟨q0,e0,_,w0⟩:=DataW.trod_int Tryz.underlying3 f0
 obtain ⟨l1,e1,n1⟩:=octs_of_trod Tryz.underlying31 Tryz.underlying5 hcb hcd f1
 obtain ⟨q2,e2,_,w2⟩:=DataW.trod_int Tryz.underlying3 f2
 obtain ⟨v3,l3,e3,r3,o3⟩:=ints_of_trod Tryz.underlying32 Tryz.underlying3 hci f3
 obtain ⟨v4,l4,e4,r4⟩:=bytes_of_trod Tryz.underlying33 Tryz.underlying5 hcb f4
 obtain ⟨v5,l5,e5,r5⟩:=digests_of_trod Tryz.underlying34 Tryz.underlying31 Tryz.underlying5 hcd hcb f5
 obtain ⟨v6,l6,e6,r6,o6⟩:=mems_of_trod f6
 obtain ⟨q7,e7,_⟩:=DataW.trod_bool Tryz.underlying4 f7
 rw [hcd] at e1
 refine ⟨⟨q0,l1,q2,l3,l4,l5,l6,q7⟩,⟨v3,v4,v5,v6⟩,?_,⟨n1,r3,r4,r5,r6⟩,⟨bd_i64 w0,bd_i64 w2,o3,o6⟩⟩
 unfold msgCells
 dsimp only
 have hd:∀ k,cs.drop k = (cs.drop k).take 1 ++ cs.drop (k + 1):=fun k=>by have:=List.take_append_drop 1 (cs.drop k);rw [List.drop_drop] at this;exact this.symm
 have h39:cs.drop 39 = []:=List.drop_of_length_le (by omega)
 have h33:cs.drop 33 = [.int .i64 q2,v3,v4,v5,v6,.bool q7]:=by
  rw [hd 33,e2,hd 34,e3,hd 35,e4,hd 36,e5,hd 37,e6,hd 38,e7,h39];rfl
 have h1:cs.drop 1 = l1.map B8 ++ cs.drop 33:=by
  have:=List.take_append_drop 32 (cs.drop 1)
  rw [List.drop_drop,e1] at this
  exact this.symm
 have h0:cs = cs.drop 0:=rfl
 rw [h0,hd 0,e0,h1,h33];rfl
end
end Go.Proofs.YtnohglkilpnjhaaGreatDoor

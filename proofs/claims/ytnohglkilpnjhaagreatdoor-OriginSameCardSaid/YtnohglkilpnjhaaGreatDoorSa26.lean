/- Lemmas that the statement of this claim leans on; their own comments are taken out, for the size of the claim. No condition beyond what each lemma states. -/
import Derived.Test.YtnohglkilpnjhaaGreatDoorSa25
set_option linter.unusedVariables false
set_option linter.unusedSimpArgs false
set_option linter.unusedSectionVars false
namespace Go.Proofs.YtnohglkilpnjhaaGreatDoor
open Go.RowKit
set_option maxRecDepth 100000
def TakePost (w:World) (o:Nat) (most each life:Int) (F:Nat→Prop) (m:MsgL) (r:OrgL × MsgL × Bool × Int) (e:Ending) (w':World):Prop:=
 ∃ F' s,e = .returned (.tuple #[MsgV r.2.1 s,.bool r.2.2.1,.int .i64 r.2.2.2])∧MsgR w' r.2.1 s∧OrgP w' o most each life r.1 F'∧OStep F F' w w'∧(m.kind ≠ 6→Below w.heap.size w w')∧(m.kind = 6→∃ vi,s = { sN with vi:=vi }∧∀ q,vi.ownBlock = some q→∃ cur,w'.heap[q]? = some (.cells cur 3 (0,0)))
theorem takeOk_iff {id now:Int} {m:MsgL}:takeOk id now m = true↔(1 ≤ id∧id ≤ 65536)∧(0 ≤ now∧now ≤ 1099511627776)∧wrightB m = true:=by
 unfold takeOk
 rw [Bool.and_eq_true,Bool.and_eq_true,decide_eq_true_iff,decide_eq_true_iff]
theorem Kept.fresh {U:Nat→Prop} {A B C:World} {g:Nat} (h:Kept U A B) (hg:B.grownBy C (some g)) (hn:A.heap.size ≤ g):Kept U A C:=by
 have h1:Kept (fun k=>U k∧k < A.heap.size) A B:=h.mono (fun k hk hu=>hu.1)
 have h2:=h1.grown hg (fun r e hx=>by cases e;have:=hx.2;omega)
 exact h2.mono (fun k hk hu=>⟨hu,hk⟩)
theorem Row.same_block {w w':World} {v:Value} {n size:Nat} {cs:List Value} (h:Row w v n size cs) (hs:w.heap.size ≤ w'.heap.size) (hq:∀ q,v.ownBlock = some q→w'.heap[q]? = w.heap[q]?):Row w' v n size cs:=by
 obtain ⟨h1,a,c,rfl,h2,h3,h4,h5⟩:=h
 refine ⟨h1,a,c,rfl,h2,h3,h4,fun h=>?_⟩
 obtain ⟨b,off,rfl,hb,hc⟩:=h5 h
 refine ⟨b,off,rfl,Nat.lt_of_lt_of_le hb hs,fun j hj=>?_⟩
 rw [← hc j hj]
 exact World.cell?_of_block (w:=w) (hq b rfl)
theorem MsgR.num_keep {U:Nat→Prop} {w w':World} {m:MsgL} {vi:Value} (h:MsgR w m { sN with vi:=vi }) (ht:∀ q,vi.ownBlock = some q→∃ cur,w.heap[q]? = some (.cells cur 3 (0,0))) (hk:Kept U w w') (hu:∀ k cur,w.heap[k]? = some (.cells cur 3 (0,0))→U k):MsgR w' m { sN with vi:=vi }:=
 have hq:∀ q,vi.ownBlock = some q→w'.heap[q]? = w.heap[q]?:=fun q e=>by
  obtain ⟨cur,hc⟩:=ht q e
  exact hk.block q (Array.getElem?_eq_some_iff.1 hc).1 (hu q cur hc)
 have hn:∀ q,(Value.slice none 0 0).ownBlock = some q→w'.heap[q]? = w.heap[q]?:=fun q e=>by cases e
 ⟨h.hash,Row.same_block h.ids hk.size hq,Row.same_block h.bytes hk.size hn,⟨h.proof.1,Row.same_block h.proof.2 hk.size hn⟩,Row.same_block h.members hk.size hn⟩
section
variable {w W W2:World} {o:Nat} {most each life:Int} {S:OrgL} {F:Nat→Prop}
end
set_option maxHeartbeats 6400000 in
theorem OTake_any (o:Nat) (most each life:Int) (S:OrgL) (F:Nat→Prop) (id now:Int) (m:MsgL) (s:MsgS) (seed:Nat) (w:World) (hO:OrgP w o most each life S F) (hk:OrgOk most each S) (hm:1 ≤ most∧most ≤ 1000) (he:1 ≤ each∧each ≤ 64) (hM:MsgR w m s) (hmo:m.ok) (hsd:seed < 18446744073709551616) (hKc:Consts w) :
  Calls Tryz.prog 13 #[.pointer (some ⟨o,0,none⟩),.int .i64 id,.int .i64 now,MsgV m s,.int .u64 (seed:Int)] w (TakePost w o most each life F m (takeO S most each life id now m seed)):=by
 obtain ⟨W,hW⟩:∃ W,w.alloc (.cells (msgCells m s).toArray 37) = W:=⟨_,rfl⟩
 have ho:MsgO W w.heap.size m s:=by rw [← hW];exact msg_alloc w hM.hash
 have hb:Below w.heap.size w W:=by rw [← hW];exact (Below.refl _ w).alloc (Nat.le_refl _) _
 have HW:=Lib.hid hW
 have HO:=Lib.hid ho
 have HB:=Lib.hid hb
 have HP:=Lib.hid hO
 have HR:=Lib.hid (hM.of_new hb)
 have HK:=Lib.hid hk
 have HKC:=Lib.hid (hKc.of_new hb)
 have H32:=Lib.hid hM.hash
 have HMO:=Lib.hid hmo
 clear hO hk hM hmo hKc hW ho hb
 show Calls Tryz.prog 13 #[.pointer (some ⟨o,0,none⟩),.int .i64 id,.int .i64 now,.agg (msgCells m s).toArray,.int .u64 (seed:Int)] w _
 rcases htk:takeOk id now m with _ | _
 ·have HT:=Lib.hid (show takeO S most each life id now m seed = (S,msgN,false,1) by unfold takeO;rw [htk];rfl)
  have hor:id < 1∨(¬ id < 1∧65536 < id)∨(¬ id < 1∧¬ 65536 < id∧now < 0)∨(¬ id < 1∧¬ 65536 < id∧¬ now < 0∧1099511627776 < now)∨(¬ id < 1∧¬ 65536 < id∧¬ now < 0∧¬ 1099511627776 < now∧wrightB m = false):=by
   by_cases a1:id < 1
   ·exact .inl a1
   by_cases a2:65536 < id
   ·exact .inr (.inl ⟨a1,a2⟩)
   by_cases a3:now < 0
   ·exact .inr (.inr (.inl ⟨a1,a2,a3⟩))
   by_cases a4:1099511627776 < now
   ·exact .inr (.inr (.inr (.inl ⟨a1,a2,a3,a4⟩)))
   refine .inr (.inr (.inr (.inr ⟨a1,a2,a3,a4,?_⟩)))
   cases hw:wrightB m with
   | false=>rfl
   | true=>rw [takeOk_iff.2 ⟨by omega,by omega,hw⟩] at htk;cases htk
  clear htk
  rcases hor with h1 | ⟨h1,h2⟩ | ⟨h1,h2,h3⟩ | ⟨h1,h2,h3,h4⟩ | ⟨h1,h2,h3,h4,h5⟩
  ·go_enter Tryz.func13,Tryz.ntmps13
   go_upto_region 1 with ((with_reducible refine wpList_plain (o:=⟨some 10,Op.alloc _,_,_,_,_⟩) rfl fun K hK=>?_);(refine wp_alloc_msg rfl fun w1 ho1 hb1 hs1=>hK _ _ ?_);rw [HW.out] at ho1 hb1 hs1 ⊢;have HO1:=Lib.hid ho1.o;have HB1:=Lib.hid hb1;have HO8:=Lib.hid (HO.out.of_new hb1);have HR8:=Lib.hid (HR.out.of_new hb1);clear ho1 hb1 hs1)
   obtain ⟨g8,hg8⟩:∃ g,w.heap.size = g:=⟨_,rfl⟩
   have HG8:=Lib.hid hg8
   rw [hg8] at HO8 HO ⊢
   obtain ⟨g10,hg10⟩:∃ g,W.heap.size = g:=⟨_,rfl⟩
   have HG10:=Lib.hid hg10
   rw [hg10] at HO1 ⊢
   clear hg8 hg10
   go_upto_region 2 with (fail)
   go_wp2_with (first
    | ((with_reducible refine wpList_plain (o:=⟨some 32,Op.build _ _,_,_,_,_⟩) rfl fun K hK=>?_);(refine wp_val (v:=MsgV msgZ sN) (by unfold execOp;simp only [List.map_toArray,List.map_nil,build_msg,Sem.run_bind,Result.andThen_ok,Sem.run_pure]) (hK _ _ ?_)))
    | ((with_reducible refine wpList_plain (o:=⟨none,Op.store _ (.tmp 10) (.tmp 32),_,_,_,_⟩) rfl fun K hK=>?_);(refine wp_store_msg (.tmp 10) (.tmp 32) g10 msgZ msgZ sN sN rfl rfl rfl (msgR_zero _) HO1.out fun w6 ho6 hg6 hs6=>hK _ _ ?_);have HO6:=Lib.hid ho6;have HG6:=Lib.hid hg6;clear ho6 hg6 hs6))
   refine bodyPost_ret (results_msg3 rfl _ rfl rfl rfl HO6.out) rfl ?_
   rw [HT.out]
   have hbl:Below w.heap.size w w6:=(below_next HB.out HB1.out).grown HG6.out (by have:=HB.out.size;have:=HB1.out.size;omega) (fun k e=>by cases e;have:=HG10.out;have:=HB.out.size;omega)
   exact ⟨F,sN,rfl,msgR_zero _,HP.out.of_new hbl,OStep.of_below hbl,fun _=>hbl,fun _=>⟨sN.vi,rfl,fun q h=>by cases h⟩⟩
  ·go_enter Tryz.func13,Tryz.ntmps13
   go_upto_region 1 with ((with_reducible refine wpList_plain (o:=⟨some 10,Op.alloc _,_,_,_,_⟩) rfl fun K hK=>?_);(refine wp_alloc_msg rfl fun w1 ho1 hb1 hs1=>hK _ _ ?_);rw [HW.out] at ho1 hb1 hs1 ⊢;have HO1:=Lib.hid ho1.o;have HB1:=Lib.hid hb1;have HO8:=Lib.hid (HO.out.of_new hb1);have HR8:=Lib.hid (HR.out.of_new hb1);clear ho1 hb1 hs1)
   obtain ⟨g8,hg8⟩:∃ g,w.heap.size = g:=⟨_,rfl⟩
   have HG8:=Lib.hid hg8
   rw [hg8] at HO8 HO ⊢
   obtain ⟨g10,hg10⟩:∃ g,W.heap.size = g:=⟨_,rfl⟩
   have HG10:=Lib.hid hg10
   rw [hg10] at HO1 ⊢
   clear hg8 hg10
   go_upto_region 2 with (fail)
   go_wp2_with (first
    | ((with_reducible refine wpList_plain (o:=⟨some 32,Op.build _ _,_,_,_,_⟩) rfl fun K hK=>?_);(refine wp_val (v:=MsgV msgZ sN) (by unfold execOp;simp only [List.map_toArray,List.map_nil,build_msg,Sem.run_bind,Result.andThen_ok,Sem.run_pure]) (hK _ _ ?_)))
    | ((with_reducible refine wpList_plain (o:=⟨none,Op.store _ (.tmp 10) (.tmp 32),_,_,_,_⟩) rfl fun K hK=>?_);(refine wp_store_msg (.tmp 10) (.tmp 32) g10 msgZ msgZ sN sN rfl rfl rfl (msgR_zero _) HO1.out fun w6 ho6 hg6 hs6=>hK _ _ ?_);have HO6:=Lib.hid ho6;have HG6:=Lib.hid hg6;clear ho6 hg6 hs6))
   refine bodyPost_ret (results_msg3 rfl _ rfl rfl rfl HO6.out) rfl ?_
   rw [HT.out]
   have hbl:Below w.heap.size w w6:=(below_next HB.out HB1.out).grown HG6.out (by have:=HB.out.size;have:=HB1.out.size;omega) (fun k e=>by cases e;have:=HG10.out;have:=HB.out.size;omega)
   exact ⟨F,sN,rfl,msgR_zero _,HP.out.of_new hbl,OStep.of_below hbl,fun _=>hbl,fun _=>⟨sN.vi,rfl,fun q h=>by cases h⟩⟩
  ·go_enter Tryz.func13,Tryz.ntmps13
   go_upto_region 1 with ((with_reducible refine wpList_plain (o:=⟨some 10,Op.alloc _,_,_,_,_⟩) rfl fun K hK=>?_);(refine wp_alloc_msg rfl fun w1 ho1 hb1 hs1=>hK _ _ ?_);rw [HW.out] at ho1 hb1 hs1 ⊢;have HO1:=Lib.hid ho1.o;have HB1:=Lib.hid hb1;have HO8:=Lib.hid (HO.out.of_new hb1);have HR8:=Lib.hid (HR.out.of_new hb1);clear ho1 hb1 hs1)
   obtain ⟨g8,hg8⟩:∃ g,w.heap.size = g:=⟨_,rfl⟩
   have HG8:=Lib.hid hg8
   rw [hg8] at HO8 HO ⊢
   obtain ⟨g10,hg10⟩:∃ g,W.heap.size = g:=⟨_,rfl⟩
   have HG10:=Lib.hid hg10
   rw [hg10] at HO1 ⊢
   clear hg8 hg10
   go_upto_region 2 with (fail)
   go_wp2_with (first
    | ((with_reducible refine wpList_plain (o:=⟨some 32,Op.build _ _,_,_,_,_⟩) rfl fun K hK=>?_);(refine wp_val (v:=MsgV msgZ sN) (by unfold execOp;simp only [List.map_toArray,List.map_nil,build_msg,Sem.run_bind,Result.andThen_ok,Sem.run_pure]) (hK _ _ ?_)))
    | ((with_reducible refine wpList_plain (o:=⟨none,Op.store _ (.tmp 10) (.tmp 32),_,_,_,_⟩) rfl fun K hK=>?_);(refine wp_store_msg (.tmp 10) (.tmp 32) g10 msgZ msgZ sN sN rfl rfl rfl (msgR_zero _) HO1.out fun w6 ho6 hg6 hs6=>hK _ _ ?_);have HO6:=Lib.hid ho6;have HG6:=Lib.hid hg6;clear ho6 hg6 hs6))
   refine bodyPost_ret (results_msg3 rfl _ rfl rfl rfl HO6.out) rfl ?_
   rw [HT.out]
   have hbl:Below w.heap.size w w6:=(below_next HB.out HB1.out).grown HG6.out (by have:=HB.out.size;have:=HB1.out.size;omega) (fun k e=>by cases e;have:=HG10.out;have:=HB.out.size;omega)
   exact ⟨F,sN,rfl,msgR_zero _,HP.out.of_new hbl,OStep.of_below hbl,fun _=>hbl,fun _=>⟨sN.vi,rfl,fun q h=>by cases h⟩⟩
  ·go_enter Tryz.func13,Tryz.ntmps13
   go_upto_region 1 with ((with_reducible refine wpList_plain (o:=⟨some 10,Op.alloc _,_,_,_,_⟩) rfl fun K hK=>?_);(refine wp_alloc_msg rfl fun w1 ho1 hb1 hs1=>hK _ _ ?_);rw [HW.out] at ho1 hb1 hs1 ⊢;have HO1:=Lib.hid ho1.o;have HB1:=Lib.hid hb1;have HO8:=Lib.hid (HO.out.of_new hb1);have HR8:=Lib.hid (HR.out.of_new hb1);clear ho1 hb1 hs1)
   obtain ⟨g8,hg8⟩:∃ g,w.heap.size = g:=⟨_,rfl⟩
   have HG8:=Lib.hid hg8
   rw [hg8] at HO8 HO ⊢
   obtain ⟨g10,hg10⟩:∃ g,W.heap.size = g:=⟨_,rfl⟩
   have HG10:=Lib.hid hg10
   rw [hg10] at HO1 ⊢
   clear hg8 hg10
   go_upto_region 2 with (fail)
   go_wp2_with (first
    | ((with_reducible refine wpList_plain (o:=⟨some 32,Op.build _ _,_,_,_,_⟩) rfl fun K hK=>?_);(refine wp_val (v:=MsgV msgZ sN) (by unfold execOp;simp only [List.map_toArray,List.map_nil,build_msg,Sem.run_bind,Result.andThen_ok,Sem.run_pure]) (hK _ _ ?_)))
    | ((with_reducible refine wpList_plain (o:=⟨none,Op.store _ (.tmp 10) (.tmp 32),_,_,_,_⟩) rfl fun K hK=>?_);(refine wp_store_msg (.tmp 10) (.tmp 32) g10 msgZ msgZ sN sN rfl rfl rfl (msgR_zero _) HO1.out fun w6 ho6 hg6 hs6=>hK _ _ ?_);have HO6:=Lib.hid ho6;have HG6:=Lib.hid hg6;clear ho6 hg6 hs6))
   refine bodyPost_ret (results_msg3 rfl _ rfl rfl rfl HO6.out) rfl ?_
   rw [HT.out]
   have hbl:Below w.heap.size w w6:=(below_next HB.out HB1.out).grown HG6.out (by have:=HB.out.size;have:=HB1.out.size;omega) (fun k e=>by cases e;have:=HG10.out;have:=HB.out.size;omega)
   exact ⟨F,sN,rfl,msgR_zero _,HP.out.of_new hbl,OStep.of_below hbl,fun _=>hbl,fun _=>⟨sN.vi,rfl,fun q h=>by cases h⟩⟩
  ·go_enter Tryz.func13,Tryz.ntmps13
   go_upto_region 1 with ((with_reducible refine wpList_plain (o:=⟨some 10,Op.alloc _,_,_,_,_⟩) rfl fun K hK=>?_);(refine wp_alloc_msg rfl fun w1 ho1 hb1 hs1=>hK _ _ ?_);rw [HW.out] at ho1 hb1 hs1 ⊢;have HO1:=Lib.hid ho1.o;have HB1:=Lib.hid hb1;have HO8:=Lib.hid (HO.out.of_new hb1);have HR8:=Lib.hid (HR.out.of_new hb1);clear ho1 hb1 hs1)
   obtain ⟨g8,hg8⟩:∃ g,w.heap.size = g:=⟨_,rfl⟩
   have HG8:=Lib.hid hg8
   rw [hg8] at HO8 HO ⊢
   obtain ⟨g10,hg10⟩:∃ g,W.heap.size = g:=⟨_,rfl⟩
   have HG10:=Lib.hid hg10
   rw [hg10] at HO1 ⊢
   clear hg8 hg10
   go_upto_region 2 with (first
    | ((with_reducible refine wpList_met (o:=⟨some 28,Op.load _ _,_,_,_,_⟩) ?_ ?_);rfl;intro K hK;refine wp_load_msg rfl rfl HO8.out (hK _ _ ?_))
    | (go_at_call 38;refine (WRight_any m s _ HR8.out).mono ?_;rintro e w2 ⟨rfl,hb2⟩;have HB2:=Lib.hid (below_next HB1.out hb2);have HO2:=Lib.hid (HO1.out.of_new hb2);have HO82:=Lib.hid (HO8.out.of_new hb2);clear hb2))
   go_wp2_with (first
    | ((with_reducible refine wpList_plain (o:=⟨some 32,Op.build _ _,_,_,_,_⟩) rfl fun K hK=>?_);(refine wp_val (v:=MsgV msgZ sN) (by unfold execOp;simp only [List.map_toArray,List.map_nil,build_msg,Sem.run_bind,Result.andThen_ok,Sem.run_pure]) (hK _ _ ?_)))
    | ((with_reducible refine wpList_plain (o:=⟨none,Op.store _ (.tmp 10) (.tmp 32),_,_,_,_⟩) rfl fun K hK=>?_);(refine wp_store_msg (.tmp 10) (.tmp 32) g10 msgZ msgZ sN sN rfl rfl rfl (msgR_zero _) HO2.out fun w6 ho6 hg6 hs6=>hK _ _ ?_);have HO6:=Lib.hid ho6;have HG6:=Lib.hid hg6;clear ho6 hg6 hs6))
   refine bodyPost_ret (results_msg3 rfl _ rfl rfl rfl HO6.out) rfl ?_
   rw [HT.out]
   have hbl:Below w.heap.size w w6:=(below_next HB.out HB2.out).grown HG6.out (by have:=HB.out.size;have:=HB2.out.size;omega) (fun k e=>by cases e;have:=HG10.out;have:=HB.out.size;omega)
   exact ⟨F,sN,rfl,msgR_zero _,HP.out.of_new hbl,OStep.of_below hbl,fun _=>hbl,fun _=>⟨sN.vi,rfl,fun q h=>by cases h⟩⟩
 ·obtain ⟨⟨q1,q2⟩,⟨q3,q4⟩,h5⟩:=takeOk_iff.1 htk
  have h1:¬ id < 1:=by omega
  have h2:¬ 65536 < id:=by omega
  have h3:¬ now < 0:=by omega
  have h4:¬ 1099511627776 < now:=by omega
  have HTK:=Lib.hid (show takeO S most each life id now m seed = _ from by unfold takeO;rw [if_pos htk])
  clear htk
  go_enter Tryz.func13,Tryz.ntmps13
  go_upto_region 1 with ((with_reducible refine wpList_plain (o:=⟨some 10,Op.alloc _,_,_,_,_⟩) rfl fun K hK=>?_);(refine wp_alloc_msg rfl fun w1 ho1 hb1 hs1=>hK _ _ ?_);rw [HW.out] at ho1 hb1 hs1 ⊢;have HO1:=Lib.hid ho1.o;have HB1:=Lib.hid hb1;have HO8:=Lib.hid (HO.out.of_new hb1);have HR8:=Lib.hid (HR.out.of_new hb1);clear ho1 hb1 hs1)
  obtain ⟨g8,hg8⟩:∃ g,w.heap.size = g:=⟨_,rfl⟩
  have HG8:=Lib.hid hg8
  rw [hg8] at HO8 HO ⊢
  obtain ⟨g10,hg10⟩:∃ g,W.heap.size = g:=⟨_,rfl⟩
  have HG10:=Lib.hid hg10
  rw [hg10] at HO1 ⊢
  clear hg8 hg10
  go_upto_region 3 with (first
   | ((with_reducible refine wpList_met (o:=⟨some 28,Op.load _ _,_,_,_,_⟩) ?_ ?_);rfl;intro K hK;refine wp_load_msg rfl rfl HO8.out (hK _ _ ?_))
   | (go_at_call 38;refine (WRight_any m s _ HR8.out).mono ?_;rintro e w2 ⟨rfl,hb2⟩;have HB2:=Lib.hid (below_next HB1.out hb2);have HO2:=Lib.hid (HO1.out.of_new hb2);have HO82:=Lib.hid (HO8.out.of_new hb2);clear hb2))
  have hkd:=HO82.out.kind
  clear h1 h2 h3 h4 h5 q1 q2 q3 q4
  have hB2:=below_next HB.out HB2.out
  have HBW:=Lib.hid hB2
  have HP2:=Lib.hid (HP.out.of_new hB2)
  have HKC2:=Lib.hid (HKC.out.of_new HB2.out)
  have HZ2:=Lib.hid (show w.heap.size ≤ g8∧w.heap.size ≤ g10∧g10 < w2.heap.size from ⟨by have:=HG8.out;omega,by have:=HG10.out;have:=HB.out.size;omega,HO2.out.lt⟩)
  clear hB2
  by_cases k9:m.kind = 9
  ·have HN6:=Lib.hid (show m.kind ≠ 6 by omega)
   rw [k9] at hkd
   have HT:=Lib.hid (show takeO S most each life id now m seed = (S,tellL S m.hash,true,0) by rw [HTK.out,if_pos k9])
   have HDG:=Lib.hid HO82.out.hash
   clear k9
   go_wp2_with (first
    | ((with_reducible refine wpList_plain (o:=⟨some 39,Op.load _ _,_,_,_,_⟩) rfl fun K hK=>?_);(refine wp_load_at (ty:=31) (x:=.tmp 38) rfl rfl HDG.out (hK _ _ ?_)))
    | (go_at_call 39;refine (OTell_any o most each life S F m.hash _ HP2.out H32.out).mono ?_;rintro e w3 ⟨s3,rfl,hr3,hi3,hb3⟩;have HR3:=Lib.hid hr3;have HI3:=Lib.hid hi3;have HB3:=Lib.hid (below_next HBW.out hb3);have HO3:=Lib.hid (HO2.out.of_new hb3);clear hr3 hi3 hb3)
    | ((with_reducible refine wpList_plain (o:=⟨none,Op.store _ (.tmp 10) (.tmp 40),_,_,_,_⟩) rfl fun K hK=>?_);(refine wp_store_msg (.tmp 10) (.tmp 40) g10 (tellL S m.hash) msgZ s3 sN rfl rfl rfl HR3.out HO3.out fun w6 ho6 hg6 hs6=>hK _ _ ?_);have HO6:=Lib.hid ho6;have HG6:=Lib.hid hg6;clear ho6 hg6 hs6))
   refine bodyPost_ret (results_msg3 rfl _ rfl rfl rfl HO6.out) rfl ?_
   rw [HT.out]
   have hbl:Below w.heap.size w w6:=HB3.out.grown HG6.out (by have:=HB3.out.size;omega) (fun k e=>by cases e;exact HZ2.out.2.1)
   exact ⟨F,s3,rfl,HR3.out.keptHi HI3.out HG6.out HZ2.out.2.2,HP.out.of_new hbl,OStep.of_below hbl,fun _=>hbl,fun h=>absurd h HN6.out⟩
  have b9:(m.kind == 9) = false:=beq_eq_false_iff_ne.2 k9
  by_cases k3:m.kind = 3
  ·have HN6:=Lib.hid (show m.kind ≠ 6 by omega)
   have HT:=Lib.hid (show takeO S most each life id now m seed = (S,giveL S m.hash m.piece,true,0) by rw [HTK.out,if_neg k9,if_pos k3])
   rw [k3] at hkd
   have HDG:=Lib.hid HO82.out.hash
   have hpc:=HO82.out.piece
   clear k9 b9 k3
   go_wp2_with (first
    | ((with_reducible refine wpList_plain (o:=⟨some 45,Op.load _ _,_,_,_,_⟩) rfl fun K hK=>?_);(refine wp_load_at (ty:=31) (x:=.tmp 44) rfl rfl HDG.out (hK _ _ ?_)))
    | (go_at_call 40;refine (OGive_any o most each life S F m.hash m.piece _ HP2.out HK.out H32.out HMO.out.piece.1 HMO.out.piece.2 HKC2.out).mono ?_;rintro e w3 ⟨s3,rfl,hr3,hi3,hb3⟩;have HR3:=Lib.hid hr3;have HI3:=Lib.hid hi3;have HB3:=Lib.hid (below_next HBW.out hb3);have HO3:=Lib.hid (HO2.out.of_new hb3);clear hr3 hi3 hb3)
    | ((with_reducible refine wpList_plain (o:=⟨none,Op.store _ (.tmp 10) (.tmp 48),_,_,_,_⟩) rfl fun K hK=>?_);(refine wp_store_msg (.tmp 10) (.tmp 48) g10 (giveL S m.hash m.piece) msgZ s3 sN rfl rfl rfl HR3.out HO3.out fun w6 ho6 hg6 hs6=>hK _ _ ?_);have HO6:=Lib.hid ho6;have HG6:=Lib.hid hg6;clear ho6 hg6 hs6))
   refine bodyPost_ret (results_msg3 rfl _ rfl rfl rfl HO6.out) rfl ?_
   rw [HT.out]
   have hbl:Below w.heap.size w w6:=HB3.out.grown HG6.out (by have:=HB3.out.size;omega) (fun k e=>by cases e;exact HZ2.out.2.1)
   exact ⟨F,s3,rfl,HR3.out.keptHi HI3.out HG6.out HZ2.out.2.2,HP.out.of_new hbl,OStep.of_below hbl,fun _=>hbl,fun h=>absurd h HN6.out⟩
  have b3:(m.kind == 3) = false:=beq_eq_false_iff_ne.2 k3
  by_cases k6:m.kind = 6
  ·have HT:=Lib.hid (show takeO S most each life id now m seed = (annS S most each life m.hash id now m.seed,askS (annS S most each life m.hash id now m.seed) m.hash id seed,true,0) by rw [HTK.out,if_neg k9,if_neg k3,if_pos k6])
   rw [k6] at hkd
   have HK6:=Lib.hid k6
   clear k9 b9 k3 b3 k6
   obtain ⟨t,mb,im,bm,E,I,C,hq,rfl,rfl⟩:=HP2.out
   have HQ:=Lib.hid hq
   have hdg:DigAt w2 g8 1 m.hash:=HO82.out.hash
   have hc0:=fun w' (h:Grew w2 w')=>Grew.cell h hq.cell0
   have hc1:=fun w' (h:Grew w2 w')=>Grew.cell h hq.cell1
   have hsdc:=fun w' (h:Grew w2 w')=>Grew.cell h HO82.out.seed
   clear hq
   go_upto_region 9 with (fail)
   refine (wpIn_wide (n:=5)).1 ?_
   refine wpIn_region_mix (ro:=none) (C:=Grew w2) [0,1,2,3,4,5,6,7,8,9,10,11,12,13] [] [14] (by kernel_rfl) (by kernel_rfl) (Grew.start _) (fun c a d v w h=>by cases d <;> exact h) ?_
   simp only [opsAt,List.flatMap_cons,List.flatMap_nil,List.getElem?_cons_zero,List.getElem?_cons_succ,Option.toList_some,List.cons_append,List.nil_append]
   go_simp
   repeat (first
    | (go_big_quiet_want;(with_reducible apply quiet_load_at (ty:=31) (x:=.tmp _));rfl;rfl;assumption;go_simp;go_big_quiet_on)
    | (go_big_quiet_want;apply quiet_val;(intro w' hw';go_simp;first | done | rfl);go_simp;go_big_quiet_on)
    | (go_big_quiet_skip))
   refine wpQuiet_nil ?_
   intro w3 hw3
   refine LateL.nil ?_
   refine wpListIn_of_wp (ro:=none) rfl (fun c hc=>by cases hc) (wp_enter (f:=41) (args:=#[.pointer (some ⟨t,0,none⟩),.agg (m.hash.map B8).toArray,.int .i64 id,.int .i64 now,.int .i64 life,.bool m.seed]) (by go_simp <;> rfl) (Announce_any t mb most each E m.hash id now life m.seed w3 (HQ.out.of_new hw3).tab HK.out.tab hm he H32.out) ?_)
   unfold AnnPost
   rintro e w4 ⟨E4,hE4,rfl,hT4,hs4⟩
   refine ⟨_,rfl,?_⟩
   obtain ⟨hq4,hst4⟩:=(HQ.out.of_new hw3).table hT4 hs4
   have ho84:MsgO w4 g8 m s:=(HO82.out.of_new hw3).of_block (hs4.kept.block g8 (HO82.out.of_new hw3).lt fun hx=>by
    obtain ⟨q1,q2,q3⟩:=ownE_obj (HQ.out.of_new hw3).tab hx
    rw [(HO82.out.of_new hw3).1] at q3;cases q3)
   have ho104:MsgO w4 g10 msgZ sN:=(HO2.out.of_new hw3).of_block (hs4.kept.block g10 (HO2.out.of_new hw3).lt fun hx=>by
    obtain ⟨q1,q2,q3⟩:=ownE_obj (HQ.out.of_new hw3).tab hx
    rw [(HO2.out.of_new hw3).1] at q3;cases q3)
   have hlt4:g10 < w4.heap.size:=ho104.lt
   have HQ4:=Lib.hid hq4
   have HE4:=Lib.hid hE4
   have HST4:=Lib.hid ((OStep.of_below (below_next HBW.out hw3)).trans hst4)
   have HO10:=Lib.hid ho104
   have HLT4:=Lib.hid hlt4
   have hdg:DigAt w4 g8 1 m.hash:=ho84.hash
   have hc0:=fun w' (h:Grew w4 w')=>Grew.cell h hq4.cell0
   clear hc1 hsdc hw3 hq4 hst4 hs4 hT4 hE4 ho84 ho104 hlt4
   simp only [Act.put]
   rw [wF_none]
   gi_wp2
   go_upto_region 10 with (fail)
   refine (wpIn_wide (n:=5)).1 ?_
   refine wpIn_region_mix (ro:=none) (C:=Grew w4) [0,1,2,3,4,5,6,7,8,9] [10] [11,12,13,14] (by kernel_rfl) (by kernel_rfl) (Grew.start _) (fun c a d v w h=>by cases d <;> exact h) ?_
   simp only [opsAt,List.flatMap_cons,List.flatMap_nil,List.getElem?_cons_zero,List.getElem?_cons_succ,Option.toList_some,List.cons_append,List.nil_append]
   go_simp
   repeat (first
    | (go_big_quiet_want;(with_reducible apply quiet_load_at (ty:=31) (x:=.tmp _));rfl;rfl;assumption;go_simp;go_big_quiet_on)
    | (go_big_quiet_want;apply quiet_val;(intro w' hw';go_simp;first | done | rfl);go_simp;go_big_quiet_on)
    | (go_big_quiet_skip))
   refine wpQuiet_nil ?_
   intro w5 hw5
   refine LateL.cons rfl (wp_enter (f:=42) (args:=#[.pointer (some ⟨t,0,none⟩),.agg (m.hash.map B8).toArray,.int .i64 id,.int .i64 8,.int .u64 (seed:Int)]) (by go_simp <;> rfl) (AskO_any t mb most each E4 m.hash id 8 seed w5 (HQ4.out.of_new hw5).tab (by unfold EntOk;rw [HE4.out];exact HK.out.tab.ann hm.1 he.1 H32.out id now life m.seed) he H32.out hsd) ?_)
   rintro e w6 ⟨v6,rfl,hi6,hb6,ho6⟩
   have hw6:Grew w4 w6:=below_next hw5 hb6
   refine ⟨_,rfl,hw6,?_⟩
   refine LateL.nil ?_
   rw [wF_none]
   rw [HE4.out] at hi6
   obtain ⟨l6,hl6⟩:∃ l6,sampleL seed (othersL (peersT m.hash (annT most each (tabOf E) m.hash id now life m.seed).1) id) 8 = l6:=⟨_,rfl⟩
   have HL6:=Lib.hid hl6
   rw [hl6] at hi6
   obtain ⟨a6,c6,hv6⟩:=hi6.len
   subst hv6
   have HI6:=Lib.hid hi6
   have HOB6:=Lib.hid (fun q hq=>Nat.le_trans hw5.size (ho6 q hq).1)
   have HTY6:=Lib.hid (fun q hq=>(ho6 q hq).2)
   have HO106:=Lib.hid (HO10.out.of_new hw6)
   have HQ6:=Lib.hid (HQ4.out.of_new hw6)
   have HST6:=Lib.hid (HST4.out.new hw6)
   clear hw5 hw6 hi6 ho6 hb6 hdg hc0 hl6
   refine wpListIn_of_wp (ro:=none) rfl (fun c hc=>by cases hc) (wp_build_mI 7 m.hash (.slice a6 l6.length c6) l6 H32.out rfl rfl rfl rfl rfl ?_)
   refine wpListIn_of_wp (ro:=none) rfl (fun c hc=>by cases hc) (wp_store_msg (.tmp 10) (.tmp 77) g10 _ msgZ _ sN rfl rfl rfl (msgR_I 7 H32.out HI6.out) HO106.out ?_)
   intro w9 ho9 hg9 hs9
   have HO9:=Lib.hid ho9
   have HG9:=Lib.hid hg9
   clear ho9 hg9 hs9
   simp only [Act.put]
   rw [wF_none]
   gi_wp2
   go_wp2
   refine bodyPost_ret (results_msg3 rfl _ rfl rfl rfl HO9.out) rfl ?_
   have hask:askS (annS ⟨I.map plI,C.map plC,tabOf E⟩ most each life m.hash id now m.seed) m.hash id seed = { mk0 7 m.hash with ids:=l6 }:=by
    unfold askS annS
    rw [← HL6.out]
   rw [HT.out,hask]
   have hmb:∀ k,FootM mb im bm E4 k→k ≠ g10:=fun k hk e=>by
    subst e
    exact HQ6.out.cells_ne hk HO106.out.1
   have hkk:Kept (fun k=>k ≠ g10) w6 w9:=(Kept.refl _ w6).grown HG9.out fun r e=>by cases e;exact fun h=>h rfl
   refine ⟨FootM mb im bm E4,{ sN with vi:=.slice a6 l6.length c6 },rfl,MsgR.keptHi (msgR_I 7 H32.out HI6.out) (hi_I HOB6.out) HG9.out HLT4.out,⟨t,mb,im,bm,E4,I,C,HQ6.out.kept hkk hmb (fun k cur ty f he ht e=>?_),?_,rfl⟩,⟨HST6.out.kept.fresh HG9.out HZ2.out.2.1,HST6.out.own⟩,fun h=>absurd HK6.out h,fun _=>⟨_,rfl,fun q hq=>?_⟩⟩
   ·subst e
    rw [HO106.out.1] at he
    cases he
    rcases ht with h | h | h | h | h <;> exact absurd h (by decide)
   ·unfold annS
    rw [HE4.out]
   ·obtain ⟨cur,hc⟩:=HTY6.out q hq
    refine ⟨cur,(hkk.block q (Array.getElem?_eq_some_iff.1 hc).1 fun e=>?_).trans hc⟩
    subst e
    rw [HO106.out.1] at hc
    cases hc
  have b6:(m.kind == 6) = false:=beq_eq_false_iff_ne.2 k6
  have HT:=Lib.hid (show takeO S most each life id now m seed = (S,msgN,false,0) by rw [HTK.out,if_neg k9,if_neg k3,if_neg k6])
  clear k9 k3 k6
  go_wp2_with (first
   | ((with_reducible refine wpList_plain (o:=⟨some 78,Op.build _ _,_,_,_,_⟩) rfl fun K hK=>?_);(refine wp_val (v:=MsgV msgZ sN) (by unfold execOp;simp only [List.map_toArray,List.map_nil,build_msg,Sem.run_bind,Result.andThen_ok,Sem.run_pure]) (hK _ _ ?_)))
   | ((with_reducible refine wpList_plain (o:=⟨none,Op.store _ (.tmp 10) (.tmp 78),_,_,_,_⟩) rfl fun K hK=>?_);(refine wp_store_msg (.tmp 10) (.tmp 78) g10 msgZ msgZ sN sN rfl rfl rfl (msgR_zero _) HO2.out fun w6 ho6 hg6 hs6=>hK _ _ ?_);have HO6:=Lib.hid ho6;have HG6:=Lib.hid hg6;clear ho6 hg6 hs6))
  refine bodyPost_ret (results_msg3 rfl _ rfl rfl rfl HO6.out) rfl ?_
  rw [HT.out]
  have hbl:Below w.heap.size w w6:=HBW.out.grown HG6.out (by have:=HBW.out.size;omega) (fun k e=>by cases e;exact HZ2.out.2.1)
  exact ⟨F,sN,rfl,msgR_zero _,HP.out.of_new hbl,OStep.of_below hbl,fun _=>hbl,fun _=>⟨sN.vi,rfl,fun q h=>by cases h⟩⟩
end Go.Proofs.YtnohglkilpnjhaaGreatDoor

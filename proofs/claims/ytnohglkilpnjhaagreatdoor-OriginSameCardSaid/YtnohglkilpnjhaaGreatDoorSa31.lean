/- Lemmas that the statement of this claim leans on; their own comments are taken out, for the size of the claim. No condition beyond what each lemma states. -/
import Derived.Test.YtnohglkilpnjhaaGreatDoorSa30
set_option linter.unusedVariables false
set_option linter.unusedSimpArgs false
set_option linter.unusedSectionVars false
namespace Go.Proofs.YtnohglkilpnjhaaGreatDoor
open Go.RowKit
set_option maxRecDepth 100000
def actO (most each life:Int) (S:OrgL) (x:S19) (ls:List (List UInt8)):OrgL:=
 if x.act = 0 then (pubL S ls x.n).1 else if x.act = 1 then (takeO S most each life x.frm x.now x.m x.seed).1 else (tickL S x.now).1
structure BothI (W:World) (o r:Nat) (most each life:Int) (B:Nat) (S S2:OrgL) (F:Nat→Prop) (w:World):Prop where
 org:OrgP w o most each life S F
 ref:ROrgP w r most each life B S2
 ok:OrgOk most each S
 ok2:OrgOk most each S2
 own:∀ k,F k→W.heap.size ≤ k
 base:W.heap.size ≤ B
 bsz:B ≤ w.heap.size
 below:Below W.heap.size W w
section
variable {W w w':World} {o r B:Nat} {most each life:Int} {S S2 S':OrgL} {F F':Nat→Prop}
theorem BothI.new (h:BothI W o r most each life B S S2 F w) (hb:Below w.heap.size w w'):BothI W o r most each life B S S2 F w':=
 ⟨h.org.of_new hb,h.ref.of_new hb,h.ok,h.ok2,h.own,h.base,Nat.le_trans h.bsz hb.size,below_next h.below hb⟩
theorem BothI.prog (h:BothI W o r most each life B S S2 F w) (ho:OrgP w' o most each life S' F') (hk:OrgOk most each S') (hs:OStep F F' w w'):BothI W o r most each life B S' S2 F' w':=
 ⟨ho,h.ref.prog_step h.org hs,hk,h.ok2,fun k hf=>(hs.own k hf).elim (h.own k) (fun e=>Nat.le_trans h.below.size e),h.base,Nat.le_trans h.bsz hs.kept.size,hs.below h.below h.below.size h.own⟩
theorem BothI.refs (h:BothI W o r most each life B S S2 F w) (hr:ROrgP w' r most each life B S') (hk:OrgOk most each S') (hs:RKept B w w'):BothI W o r most each life B S S' F w':=
 ⟨h.org.ref_step hs,hr,h.ok,hk,h.own,h.base,Nat.le_trans h.bsz hs.size,hs.below h.below h.below.size h.base⟩
theorem OStep.block_of {cur:Array Value} {ty:TypeId} {f:Nat × Nat} {g:Nat} (hs:OStep F F' w w') (hO:OrgP w o most each life S F) (he:w.heap[g]? = some (.cells cur ty f)):w'.heap[g]? = w.heap[g]?:=
 hs.kept.block g (Array.getElem?_eq_some_iff.1 he).1 fun hf=>hO.cells_ne hf he
theorem RKept.block_of {cur:Array Value} {ty:TypeId} {f:Nat × Nat} {g:Nat} (hs:RKept B w w') (he:w.heap[g]? = some (.cells cur ty f)) (ht:¬ refTy ty):w'.heap[g]? = w.heap[g]?:=
 hs.block g (Array.getElem?_eq_some_iff.1 he).1 fun ⟨_,cur2,ty2,f2,e2,ht2⟩=>by rw [he] at e2;cases e2;exact ht ht2
end
section
variable {w:World} {g:Nat} {x:S19}
theorem step_n (h:StepO w g x):w.cell? ⟨g,1,none⟩ = some (.int .i64 x.n):=h.at_.n
theorem step_frm (h:StepO w g x):w.cell? ⟨g,2,none⟩ = some (.int .i64 x.frm):=h.at_.frm
theorem step_now (h:StepO w g x):w.cell? ⟨g,3,none⟩ = some (.int .i64 x.now):=h.at_.now
theorem step_vl (h:StepO w g x):w.cell? ⟨g,4,none⟩ = some x.vl:=h.at_.vl
theorem step_kind (h:StepO w g x):w.cell? ⟨g,5,none⟩ = some (.int .i64 x.m.kind):=h.at_.kind
theorem step_seed (h:StepO w g x):w.cell? ⟨g,44,none⟩ = some (.int .u64 (x.seed:Int)):=h.at_.seed
end
theorem not_ref_dig:¬ refTy 31:=fun ht=>by rcases ht with h | h | h | h | h <;> exact absurd h (by decide)
theorem not_ref_msg:¬ refTy 37:=fun ht=>by rcases ht with h | h | h | h | h <;> exact absurd h (by decide)
theorem not_ref_int:¬ refTy 3:=fun ht=>by rcases ht with h | h | h | h | h <;> exact absurd h (by decide)
theorem pubL_name (S:OrgL) (ls:List (List UInt8)) (k:Int):(pubL S ls k).2.1.length = 32:=by
 unfold pubL
 repeat' split
 all_goals first
  | rfl
  | exact nameL_len _
set_option maxHeartbeats 6400000 in
theorem step_any19 (W:World) (o r:Nat) (most each life:Int) (B:Nat) (S:OrgL) (F:Nat→Prop) (x:S19) (ls:List (List UInt8)) (w:World) (hI:BothI W o r most each life B S S F w) (hx:S19R W x ls) (hl:ls.length ≤ 1000) (hm:1 ≤ most∧most ≤ 1000) (he:1 ≤ each∧each ≤ 64) (hKc:Consts W) :
  Calls Tryz.prog 23 #[.pointer (some ⟨o,0,none⟩),.pointer (some ⟨r,0,none⟩),.agg x.cells.toArray] w fun e w'=>∃ F',e = .returned (.bool true)∧BothI W o r most each life B (actO most each life S x ls) (actO most each life S x ls) F' w':=by
 obtain ⟨w0,hw0⟩:∃ w0,w.alloc (.cells x.cells.toArray 40) = w0:=⟨_,rfl⟩
 have hso:StepO w0 w.heap.size x:=by rw [← hw0];exact ⟨heap_alloc_new w _,hx.msg.hash⟩
 have hi0:=hI.new (w':=w0) (by rw [← hw0];exact (Below.refl _ w).alloc (Nat.le_refl _) _)
 have HX:=Lib.hid hx
 have HKC:=Lib.hid hKc
 have HSO:=Lib.hid hso
 have HI0:=Lib.hid hi0
 have HW:=Lib.hid hw0
 clear hw0 hso hi0 hI hx hKc
 go_enter Tryz.func23,Tryz.ntmps23
 go_upto_region 1 with (fail)
 rw [HW.out]
 clear HW
 obtain ⟨g,hg⟩:∃ g,w.heap.size = g:=⟨_,rfl⟩
 rw [hg] at HSO ⊢
 clear hg
 have ha:=HSO.out.at_.act
 by_cases h0:x.act = 0
 ·have hact:actO most each life S x ls = (pubL S ls x.n).1:=if_pos h0
  rw [h0] at ha
  have hn:=step_n HSO.out
  have hvl:=step_vl HSO.out
  have h32:=pubL_name S ls x.n
  have hok:=HI0.out.ok.pub ls x.n
  have hop:=fun W' h1 h2 h3=>OPublish_any o most each life S F x.vl ls x.n W' h1 HI0.out.ok h2 hl h3
  have hrp:=fun W' h1 h2 h3 h4=>ROPublish_any r most each life B S x.vl ls x.n W' h1 HI0.out.ok h2 hl h3 h4
  obtain ⟨⟨S',nm,er⟩,hq⟩:∃ q,pubL S ls x.n = q:=⟨_,rfl⟩
  rw [hq] at h32 hok hop hrp hact
  have HACT:=Lib.hid hact
  have H32:=Lib.hid h32
  have HOK:=Lib.hid hok
  have HOP:=Lib.hid hop
  have HRP:=Lib.hid hrp
  clear hq h32 hok hop hrp hact
  go_upto_region 4 with (first
   | (go_at_call 12;refine (HOP.out _ HI0.out.org (HX.out.parts.of_new HI0.out.below) (HKC.out.of_new HI0.out.below)).mono ?_;unfold PubPost;rintro e w1 ⟨F1,rfl,ho1,hs1⟩;have HI1:=Lib.hid (HI0.out.prog ho1 HOK.out hs1);have HSO1:=Lib.hid (HSO.out.of_block (hs1.block_of HI0.out.org HSO.out.1));clear ho1 hs1)
   | ((with_reducible refine wpList_plain (o:=⟨some 7,Op.alloc _,_,_,_,_⟩) rfl fun K hK=>?_);(refine wp_alloc_dig rfl fun w2 ho2 hb2 hs2=>hK _ _ ?_);have HO2:=Lib.hid ho2;have HB2:=Lib.hid hb2;clear ho2 hb2 hs2)
   | ((with_reducible refine wpList_plain (o:=⟨none,Op.store _ (.tmp 7) (.tmp 30),_,_,_,_⟩) rfl fun K hK=>?_);(refine wp_store_digO (.tmp 7) (.tmp 30) w1.heap.size nm dig0 rfl rfl rfl H32.out HO2.out fun w3 ho3 hg3 hs3=>hK _ _ ?_);have hb3:=HB2.out.grown hg3 HB2.out.size (fun k e=>by cases e;exact Nat.le_refl _);have HO3:=Lib.hid ho3;have HI3:=Lib.hid (HI1.out.new hb3);have HSO3:=Lib.hid (HSO1.out.of_new hb3);clear hb3 ho3 hg3 hs3))
  obtain ⟨g7,hg7⟩:∃ g,w1.heap.size = g:=⟨_,rfl⟩
  rw [hg7] at HO3 ⊢
  clear hg7 hn hvl
  have hn:=step_n HSO3.out
  have hvl:=step_vl HSO3.out
  go_upto_region 5 with (first
   | (go_at_call 60;refine (HRP.out _ HI3.out.ref (HX.out.parts.of_new HI3.out.below) (HKC.out.of_new HI3.out.below) HI3.out.bsz).mono ?_;unfold RPubPost;rintro e w4 ⟨rfl,hr4,hs4⟩;have HI4:=Lib.hid (HI3.out.refs hr4 HOK.out hs4);have HO4:=Lib.hid (HO3.out.of_block (hs4.block_of HO3.out.1 not_ref_dig));clear hr4 hs4)
   | ((with_reducible refine wpList_plain (o:=⟨some 9,Op.alloc _,_,_,_,_⟩) rfl fun K hK=>?_);(refine wp_alloc_dig rfl fun w5 ho5 hb5 hs5=>hK _ _ ?_);have HO5:=Lib.hid ho5;have HB5:=Lib.hid hb5;clear ho5 hb5 hs5)
   | ((with_reducible refine wpList_plain (o:=⟨none,Op.store _ (.tmp 9) (.tmp 39),_,_,_,_⟩) rfl fun K hK=>?_);(refine wp_store_digO (.tmp 9) (.tmp 39) w4.heap.size nm dig0 rfl rfl rfl H32.out HO5.out fun w6 ho6 hg6 hs6=>hK _ _ ?_);have hb6:=HB5.out.grown hg6 HB5.out.size (fun k e=>by cases e;exact Nat.le_refl _);have HD6:=Lib.hid ho6.at_;have HI6:=Lib.hid (HI4.out.new hb6);have HD7:=Lib.hid (HO4.out.of_new hb6).at_;clear hb6 ho6 hg6 hs6))
  obtain ⟨g9,hg9⟩:∃ g,w4.heap.size = g:=⟨_,rfl⟩
  rw [hg9] at HD6 ⊢
  clear hg9 hn hvl
  have heq:=run_eql_dig_same nm H32.out
  go_wp2_with (first
   | ((with_reducible refine wpList_plain (o:=⟨some 41,Op.load _ _,_,_,_,_⟩) rfl fun K hK=>?_);(refine wp_load_at (ty:=31) (x:=.tmp 7) rfl rfl HD7.out (hK _ _ ?_)))
   | ((with_reducible refine wpList_plain (o:=⟨some 42,Op.load _ _,_,_,_,_⟩) rfl fun K hK=>?_);(refine wp_load_at (ty:=31) (x:=.tmp 9) rfl rfl HD6.out (hK _ _ ?_))))
  go_ret
  rw [HACT.out]
  exact ⟨_,rfl,HI6.out⟩
 by_cases h1:x.act = 1
 ·have hact:actO most each life S x ls = (takeO S most each life x.frm x.now x.m x.seed).1:=by unfold actO;rw [if_neg h0,if_pos h1]
  rw [h1] at ha
  have hfr:=step_frm HSO.out
  have hnw:=step_now HSO.out
  have hsd:=step_seed HSO.out
  have hok:=HI0.out.ok.take hm.1 he.1 HX.out.msg.hash life x.frm x.now x.seed
  have hot:=fun W' h1 h2 h3=>OTake_any o most each life S F x.frm x.now x.m x.s x.seed W' h1 HI0.out.ok hm he h2 HX.out.ok HX.out.seed h3
  have hrt:=fun W' h1 h2=>ROTake_any r most each life B S x.frm x.now x.m x.s x.seed W' h1 HI0.out.ok hm he h2 HX.out.ok HX.out.seed
  obtain ⟨⟨S',m,is,er⟩,hq⟩:∃ q,takeO S most each life x.frm x.now x.m x.seed = q:=⟨_,rfl⟩
  rw [hq] at hok hot hrt hact
  have HACT:=Lib.hid hact
  have HOK:=Lib.hid hok
  have HOT:=Lib.hid hot
  have HRT:=Lib.hid hrt
  clear hq hok hot hrt hact
  go_upto_region 8 with (first
   | ((with_reducible refine wpList_plain (o:=⟨some 58,Op.load _ _,_,_,_,_⟩) rfl fun K hK=>?_);(refine wp_load_stepmsg (off:=0) rfl rfl HSO.out.at_ (hK _ _ ?_)))
   | (go_at_call 13;refine (HOT.out _ HI0.out.org (HX.out.of_new HI0.out.below).msg (HKC.out.of_new HI0.out.below)).mono ?_;unfold TakePost;rintro e w1 ⟨F1,s1,rfl,hr1,ho1,hs1, -,hn1⟩;have HI1:=Lib.hid (HI0.out.prog ho1 HOK.out hs1);have HSO1:=Lib.hid (HSO.out.of_block (hs1.block_of HI0.out.org HSO.out.1));have HR1:=Lib.hid hr1;have HN1:=Lib.hid hn1;clear ho1 hs1 hr1 hn1)
   | ((with_reducible refine wpList_plain (o:=⟨some 11,Op.alloc _,_,_,_,_⟩) rfl fun K hK=>?_);(refine wp_alloc_msg rfl fun w2 ho2 hb2 hs2=>hK _ _ ?_);have HO2:=Lib.hid ho2.o;have HB2:=Lib.hid hb2;have HR2:=Lib.hid (HR1.out.of_new hb2);clear ho2 hb2 hs2)
   | ((with_reducible refine wpList_plain (o:=⟨none,Op.store _ (.tmp 11) (.tmp 62),_,_,_,_⟩) rfl fun K hK=>?_);(refine wp_store_msg (.tmp 11) (.tmp 62) w1.heap.size m msgZ s1 sN rfl rfl rfl HR2.out HO2.out fun w3 ho3 hg3 hs3=>hK _ _ ?_);have hb3:=HB2.out.grown hg3 HB2.out.size (fun k e=>by cases e;exact Nat.le_refl _);have HO3:=Lib.hid ho3;have HI3:=Lib.hid (HI1.out.new hb3);have HSO3:=Lib.hid (HSO1.out.of_new hb3);have HR3:=Lib.hid (HR1.out.of_new hb3);have HB3:=Lib.hid hb3;clear hb3 ho3 hg3 hs3))
  have HN3:=Lib.hid (show x.m.kind = 6→∃ vi,s1 = { sN with vi:=vi }∧∀ q,vi.ownBlock = some q→∃ cur,w3.heap[q]? = some (.cells cur 3 (0,0)) from fun h=>by
   obtain ⟨vi,e,h2⟩:=HN1.out h
   refine ⟨vi,e,fun q hq=>?_⟩
   obtain ⟨cur,hc⟩:=h2 q hq
   exact ⟨cur,(HB3.out.block q (Array.getElem?_eq_some_iff.1 hc).1).trans hc⟩)
  obtain ⟨g11,hg11⟩:∃ g,w1.heap.size = g:=⟨_,rfl⟩
  rw [hg11] at HO3 ⊢
  clear hg11 hfr hnw hsd HN1 HB3 HR1 HB2 HO2 HR2
  have hfr:=step_frm HSO3.out
  have hnw:=step_now HSO3.out
  have hsd:=step_seed HSO3.out
  go_upto_region 9 with (first
   | ((with_reducible refine wpList_plain (o:=⟨some 72,Op.load _ _,_,_,_,_⟩) rfl fun K hK=>?_);(refine wp_load_stepmsg (off:=0) rfl rfl HSO3.out.at_ (hK _ _ ?_)))
   | (go_at_call 61;refine (HRT.out _ HI3.out.ref (HX.out.of_new HI3.out.below).msg).mono ?_;unfold RTakePost;rintro e w4 ⟨s4,rfl,hr4,ho4,hk4,hb4⟩;have HI4:=Lib.hid (HI3.out.refs ho4 HOK.out hk4);have HO4:=Lib.hid (HO3.out.of_block (hk4.block_of HO3.out.1 not_ref_msg));have HS4:=Lib.hid hr4;have HR4:=Lib.hid (show MsgR w4 m s1 from (by by_cases h6:x.m.kind = 6;(obtain ⟨vi,e,h2⟩:=HN3.out h6;subst e;exact HR3.out.num_keep h2 hk4 (fun k cur hc ⟨_,cur2,ty2,f2,e2,ht2⟩=>by rw [hc] at e2;cases e2;exact not_ref_int ht2));(exact HR3.out.of_new (hb4 h6))));clear hr4 ho4 hk4 hb4)
   | ((with_reducible refine wpList_plain (o:=⟨some 14,Op.alloc _,_,_,_,_⟩) rfl fun K hK=>?_);(refine wp_alloc_msg rfl fun w5 ho5 hb5 hs5=>hK _ _ ?_);have HO5:=Lib.hid ho5.o;have HB5:=Lib.hid hb5;have HR5:=Lib.hid (HS4.out.of_new hb5);clear ho5 hb5 hs5)
   | ((with_reducible refine wpList_plain (o:=⟨none,Op.store _ (.tmp 14) (.tmp 76),_,_,_,_⟩) rfl fun K hK=>?_);(refine wp_store_msg (.tmp 14) (.tmp 76) w4.heap.size m msgZ s4 sN rfl rfl rfl HR5.out HO5.out fun w6 ho6 hg6 hs6=>hK _ _ ?_);have hb6:=HB5.out.grown hg6 HB5.out.size (fun k e=>by cases e;exact Nat.le_refl _);have HO6:=Lib.hid ho6;have HI6:=Lib.hid (HI4.out.new hb6);have HOA6:=Lib.hid (HO4.out.of_new hb6);have HRA6:=Lib.hid (HR4.out.of_new hb6);have HRB6:=Lib.hid (HS4.out.of_new hb6);clear hb6 ho6 hg6 hs6))
  obtain ⟨g14,hg14⟩:∃ g,w4.heap.size = g:=⟨_,rfl⟩
  rw [hg14] at HO6 ⊢
  clear hg14 hfr hnw hsd
  go_upto_region 10 with (first
   | ((with_reducible refine wpList_plain (o:=⟨some 79,Op.load _ _,_,_,_,_⟩) rfl fun K hK=>?_);(refine wp_load_msg rfl rfl HOA6.out (hK _ _ ?_)))
   | ((with_reducible refine wpList_plain (o:=⟨some 80,Op.load _ _,_,_,_,_⟩) rfl fun K hK=>?_);(refine wp_load_msg rfl rfl HO6.out (hK _ _ ?_)))
   | (go_at_call 16;refine (SameMsg_any m m s1 s4 _ HRA6.out HRB6.out).mono ?_;rw [decide_eq_true (show m = m from rfl)];rintro e w7 ⟨rfl,hb7⟩;have HI7:=Lib.hid (HI6.out.new hb7);clear hb7))
  cases is
  all_goals
   go_wp2
   go_ret
   rw [HACT.out]
   exact ⟨_,rfl,HI7.out⟩
 have hact:actO most each life S x ls = (tickL S x.now).1:=by unfold actO;rw [if_neg h0,if_neg h1]
 have hnw:=step_now HSO.out
 have hok:=HI0.out.ok.tick x.now
 have hot:=OTick_any o most each life S F x.now w0 HI0.out.org HI0.out.ok hm he
 have hrt:=fun W' h1=>ROTick_any r most each life B S x.now W' h1 HI0.out.ok hm he
 obtain ⟨⟨S',er⟩,hq⟩:∃ q,tickL S x.now = q:=⟨_,rfl⟩
 rw [hq] at hok hot hrt hact
 have HACT:=Lib.hid hact
 have HOK:=Lib.hid hok
 have HOT:=Lib.hid hot
 have HRT:=Lib.hid hrt
 clear hq hok hot hrt hact
 go_upto_region 12 with (go_at_call 21;refine HOT.out.mono ?_;rintro e w1 ⟨F1,rfl,ho1,hs1⟩;have HI1:=Lib.hid (HI0.out.prog ho1 HOK.out hs1);have HSO1:=Lib.hid (HSO.out.of_block (hs1.block_of HI0.out.org HSO.out.1));clear ho1 hs1)
 clear hnw
 have hnw:=step_now HSO1.out
 go_wp2_with (go_at_call 62;refine (HRT.out _ HI1.out.ref).mono ?_;rintro e w2 ⟨rfl,hr2,hk2⟩;have HI2:=Lib.hid (HI1.out.refs hr2 HOK.out hk2);clear hr2 hk2)
 go_ret
 rw [HACT.out]
 exact ⟨_,rfl,HI2.out⟩
theorem size_step19:(Tryz.prog.info? 40).map (·.size) = some 45:=by kernel_rfl
theorem S19R.one {w:World} {x:S19} {ls:List (List UInt8)} (h:S19R w x ls):x.cells.toArray.all (·.oneCell') = true:=
 Array.all_eq_true_iff_forall_mem.2 (fun v hv=>by
  obtain ⟨va,vc,hl⟩:=h.parts.len
  have hm:=h.msg.one
  have hv':v ∈ x.cells:=by simpa using hv
  simp only [S19.cells,List.mem_append,List.mem_cons,List.not_mem_nil,or_false,hl] at hv'
  rcases hv' with (rfl | rfl | rfl | rfl | rfl) | hv' | rfl
  ·rfl
  ·rfl
  ·rfl
  ·rfl
  ·rfl
  ·exact Array.all_eq_true_iff_forall_mem.1 hm v (by simpa using hv')
  ·rfl)
theorem wp_store_step19 {w:World} {op:Oper} {a:Act} {K:Act→World→Prop} {Q:Exit→Act→World→Prop} (p q:Operand) (g:Nat) (x x0:S19) (ls:List (List UInt8)) (ho:op.op = .store 40 p q)
  (hp:a.eval p = .pointer (some ⟨g,0,none⟩)) (hq:a.eval q = .agg x.cells.toArray) (hx:S19R w x ls) (hg:StepO w g x0)
  (h:∀ w',StepO w' g x→w.grownBy w' (some g)→w'.heap.size = w.heap.size→K (a.put op.dst undef) w'):op.wp Tryz.prog a w K Q:=by
 have hrun:=run_storeVar_row (P:=Tryz.prog) w g 40 40 _ x.cells.toArray hg.1 (by rw [size_step19];simp [S19.len hx.msg.hash]) (by simp [S19.len hx.msg.hash,S19.len hg.2]) hx.one
 unfold Oper.wp execOp
 simp only [ho,hp,hq,Instr.storeAt,Instr.sureAddr,Sem.run_bind,Sem.run_pure,Result.andThen_ok,hrun]
 exact h _ ⟨setRow_heap _ _ _ _ _ _ hg.1,hx.msg.hash⟩ ⟨rfl,rfl,rfl,by simp [World.setRow],fun k hk hne=>Go.setRow_other w g k _ (fun e=>hne (by rw [e]))⟩ (by simp [World.setRow])
theorem zero_step19 (w:World):(zeroValue 40).run Tryz.prog w = .ok (.agg S19.zero.cells.toArray) w:=by kernel_rfl
theorem wp_alloc_step19 {w:World} {o:Oper} {a:Act} {K:Act→World→Prop} {Q:Exit→Act→World→Prop} (ho:o.op = .alloc 40)
  (h:∀ w',StepO w' w.heap.size S19.zero→Below w.heap.size w w'→w'.heap.size = w.heap.size + 1→K (a.put o.dst (.pointer (some ⟨w.heap.size,0,none⟩))) w'):o.wp Tryz.prog a w K Q:=by
 unfold Oper.wp execOp
 have:=h _ ⟨heap_alloc_new w _,rfl⟩ ((Below.refl _ w).alloc (Nat.le_refl _) _) (by simp)
 have hz:=zero_step19 w
 simp only [ho,Instr.alloc,Sem.run_bind,hz,Result.andThen_ok,Sem.run_pure,newVar,newRow]
 exact this
theorem takeO_seed {S:OrgL} {most each life id now:Int} {m:MsgL} (h:m.kind ≠ 6) (s s':Nat):takeO S most each life id now m s' = takeO S most each life id now m s∧(takeO S most each life id now m s).1 = S:=by
 unfold takeO
 split
 ·split
  ·exact ⟨rfl,rfl⟩
  ·split
   ·exact ⟨rfl,rfl⟩
   ·exact ⟨rfl,rfl⟩
 ·exact ⟨rfl,rfl⟩
set_option maxHeartbeats 6400000 in
theorem OriginSame_walk (v:Value) (l:List (S19 × List (List UInt8))) (w:World) (hl:StepsV w v l) (hKc:Consts w) :
  Calls Tryz.prog 6 #[v] w fun e w'=>e = .returned (.bool true)∧Below w.heap.size w w':=by
 have hle:=hl.le
 have HL:=Lib.hid hl
 obtain ⟨va,vc,hv,_,_,hall,hat⟩:=hl
 subst hv
 have HALL:=Lib.hid hall
 have HAT:=Lib.hid hat
 have HKC:=Lib.hid hKc
 clear hall hat hKc
 go_enter Tryz.func6,Tryz.ntmps6
 go_upto_region 2 with (go_at_call 9;refine (oawake_any _ HKC.out).mono ?_;rintro e w1 ⟨rfl,hb1⟩;have HB1:=Lib.hid hb1;clear hb1)
 go_upto_region 3 with (go_at_call 10;refine (much_any _ l _ (HL.out.of_new HB1.out)).mono ?_;unfold MuchPost;rintro e w2 ⟨many,rfl,rfl,hfew⟩;have HFEW:=Lib.hid hfew;clear hfew)
 go_upto_region 4 with (go_at_call 11;refine (ONew_ok 5 5 10 _ (by decide)).mono ?_;rintro e w3 ⟨o,F,rfl,ho3,hf3,hb3⟩;have HO3:=Lib.hid ho3;have HF3:=Lib.hid (fun k hk=>Nat.le_trans HB1.out.size (hf3 k hk));have HB3:=Lib.hid (below_next HB1.out hb3);clear ho3 hf3 hb3)
 cases many with
 | true=>
  go_wp2
  go_ret
  exact ⟨rfl,HB3.out⟩
 | false=>
  have HFW0:=Lib.hid (HFEW.out rfl)
  clear HFEW
  go_upto_region 7 with (go_at_call 22;refine (RONew_ok 5 5 10 _ (by decide)).mono ?_;rintro e w4 ⟨r,rfl,hr4,hb4⟩;have HI4:=Lib.hid (show BothI w o r 5 5 10 w3.heap.size OrgL.zero OrgL.zero F w4 from ⟨HO3.out.of_new hb4,hr4,OrgOk.zero (by omega),OrgOk.zero (by omega),HF3.out,HB3.out.size,hb4.size,below_next HB3.out hb4⟩);clear hr4 hb4)
  obtain ⟨B,hB⟩:∃ B,w3.heap.size = B:=⟨_,rfl⟩
  rw [hB] at HI4
  clear hB
  obtain ⟨n,hn⟩:∃ n,l.length = n:=⟨_,rfl⟩
  rw [hn] at hle HAT ⊢
  have HN:=Lib.hid hn
  clear hn
  go_wp2
  go_loopw [9,10,11,12,13,14,15,16,17] (fun iv _ _ _ _ _ _ _ _ W'=>∃ (i:Nat) (S:OrgL) (F:Nat→Prop),i ≤ n∧iv = .int .i64 (i:Int)∧BothI w o r 5 5 10 B S S F W') (fun iv _ _ _ _ _ _ _ _ _=>n - (intOf iv).toNat)
  case atStart=>exact ⟨0,OrgL.zero,F,Nat.zero_le _,rfl,HI4.out⟩
  case round=>
   rename World=>w5
   obtain ⟨i,S,F5,hi,rfl,hI⟩:=hrel
   have HI5:=Lib.hid hI
   clear hI
   by_cases hlt:i < n
   case neg=>
    have hii:¬ (i:Int) < (n:Int):=by omega
    go_wp2
    go_ret
    exact ⟨rfl,HI5.out.below⟩
   have hii:(i:Int) < (n:Int):=by omega
   by_cases h40:i < 40
   case neg=>
    have h4i:¬ (i:Int) < 40:=by omega
    go_wp2
    go_ret
    exact ⟨rfl,HI5.out.below⟩
   have h4i:(i:Int) < 40:=by omega
   obtain ⟨b,off,rfl,hbl,hst⟩:=HAT.out (by omega)
   obtain ⟨⟨x,ls⟩,hp⟩:∃ p,l[i]? = some p:=⟨_,List.getElem?_eq_getElem (by rw [HN.out];exact hlt)⟩
   have hs19:=HALL.out _ (List.mem_of_getElem? hp)
   have hfw:ls.length ≤ 20:=HFW0.out i _ (by omega) hp
   have HX:=Lib.hid hs19
   have HAX:=Lib.hid ((hst i _ hp).of_new HI5.out.below)
   have HFW:=Lib.hid hfw
   clear hbl hst hp hs19 hfw
   go_upto_region 11 with (first
    | ((with_reducible refine wpList_plain (o:=⟨some 60,Op.load _ _,_,_,_,_⟩) rfl fun K hK=>?_);(refine HAX.out.wp rfl rfl (hK _ _ ?_)))
    | ((with_reducible refine wpList_plain (o:=⟨some 10,Op.alloc _,_,_,_,_⟩) rfl fun K hK=>?_);(refine wp_alloc_step19 rfl fun w6 ho6 hb6 hs6=>hK _ _ ?_);have HO6:=Lib.hid ho6;have HB6:=Lib.hid hb6;clear ho6 hb6 hs6)
    | ((with_reducible refine wpList_plain (o:=⟨none,Op.store _ (.tmp 10) (.tmp 60),_,_,_,_⟩) rfl fun K hK=>?_);(refine wp_store_step19 (.tmp 10) (.tmp 60) w5.heap.size x S19.zero ls rfl rfl rfl ((HX.out.of_new HI5.out.below).of_new HB6.out) HO6.out fun w7 ho7 hg7 hs7=>hK _ _ ?_);have hb7:=HB6.out.grown hg7 HB6.out.size (fun k e=>by cases e;exact Nat.le_refl _);have HSO:=Lib.hid ho7;have HI7:=Lib.hid (HI5.out.new hb7);clear hb7 ho7 hg7 hs7))
   obtain ⟨g,hg⟩:∃ g,w5.heap.size = g:=⟨_,rfl⟩
   rw [hg] at HSO ⊢
   clear hg
   have ha:=HSO.out.at_.act
   have hkd:=step_kind HSO.out
   by_cases hc:x.act = 1∧x.m.kind ≠ 6
   case neg=>
    have hcase:¬ x.act = 1∨(x.act = 1∧x.m.kind = 6):=by
     by_cases h:x.act = 1
     ·exact .inr ⟨h,Classical.byContradiction fun h6=>hc ⟨h,h6⟩⟩
     ·exact .inl h
    clear hc
    rcases hcase with h1 | ⟨h1,h6⟩
    ·go_wp2_with (first
      | ((with_reducible refine wpList_plain (o:=⟨some 72,Op.load _ _,_,_,_,_⟩) rfl fun K hK=>?_);(refine HSO.out.at_.wp rfl rfl (hK _ _ ?_)))
      | (go_at_call 23;refine (step_any19 w o r 5 5 10 B S F5 x ls _ HI7.out HX.out (by have:=HFW.out;omega) (by omega) (by omega) HKC.out).mono ?_;rintro e w8 ⟨F8,rfl,hi8⟩;have HI8:=Lib.hid hi8;clear hi8))
     go_roundw
     case rel=>exact ⟨i + 1,_,F8,by omega,by go_num,HI8.out⟩
     case measure=>simp [intOf];omega
    ·rw [h1] at ha
     rw [h6] at hkd
     go_wp2_with (first
      | ((with_reducible refine wpList_plain (o:=⟨some 72,Op.load _ _,_,_,_,_⟩) rfl fun K hK=>?_);(refine HSO.out.at_.wp rfl rfl (hK _ _ ?_)))
      | (go_at_call 23;refine (step_any19 w o r 5 5 10 B S F5 x ls _ HI7.out HX.out (by have:=HFW.out;omega) (by omega) (by omega) HKC.out).mono ?_;rintro e w8 ⟨F8,rfl,hi8⟩;have HI8:=Lib.hid hi8;clear hi8))
     go_roundw
     case rel=>exact ⟨i + 1,_,F8,by omega,by go_num,HI8.out⟩
     case measure=>simp [intOf];omega
   obtain ⟨h1,h6⟩:=hc
   rw [h1] at ha
   obtain ⟨sd,hsd⟩:∃ sd:Nat,(x.seed + 1) % 18446744073709551616 = sd:=⟨_,rfl⟩
   have hsl:sd < 18446744073709551616:=by omega
   have hwr:IntKind.u64.wrap ((x.seed:Int) + 1) = (sd:Int):=by rw [← hsd,IntKind.wrap_u64];omega
   have hq1:=(takeO_seed (S:=S) (most:=5) (each:=5) (life:=10) (id:=x.frm) (now:=x.now) h6 x.seed sd).1
   have hq2:=(takeO_seed (S:=S) (most:=5) (each:=5) (life:=10) (id:=x.frm) (now:=x.now) h6 x.seed sd).2
   obtain ⟨⟨S',m,is,er⟩,hq⟩:∃ q,takeO S 5 5 10 x.frm x.now x.m x.seed = q:=⟨_,rfl⟩
   rw [hq] at hq1 hq2
   obtain rfl:S' = S:=hq2
   have HT:=fun W' h1 h2 h3=>OTake_any o 5 5 10 S' F5 x.frm x.now x.m x.s x.seed W' h1 HI7.out.ok (by omega) (by omega) h2 HX.out.ok HX.out.seed h3
   have HT2:=fun (F:Nat→Prop) W' h1 h2 h3=>OTake_any o 5 5 10 S' F x.frm x.now x.m x.s sd W' h1 HI7.out.ok (by omega) (by omega) h2 HX.out.ok hsl h3
   rw [hq] at HT
   rw [hq1] at HT2
   have HT:=Lib.hid HT
   have HT2:=Lib.hid HT2
   have H6:=Lib.hid h6
   have t6:(x.m.kind == 6) = false:=beq_eq_false_iff_ne.2 h6
   clear hq hq1 hsd hsl
   have hfr:=step_frm HSO.out
   have hnw:=step_now HSO.out
   have hse:=step_seed HSO.out
   go_upto_region 14 with (first
    | ((with_reducible refine wpList_plain (o:=⟨some 81,Op.load _ _,_,_,_,_⟩) rfl fun K hK=>?_);(refine wp_load_stepmsg (off:=0) rfl rfl HSO.out.at_ (hK _ _ ?_)))
    | (go_at_call 13;refine (HT.out _ HI7.out.org (HX.out.of_new HI7.out.below).msg (HKC.out.of_new HI7.out.below)).mono ?_;unfold TakePost;rintro e w8 ⟨F8,s8,rfl,hr8,ho8,hs8,hb8, -⟩;have HI8:=Lib.hid (HI7.out.prog ho8 HI7.out.ok hs8);have HSO8:=Lib.hid (HSO.out.of_new (hb8 H6.out));have HR8:=Lib.hid hr8;clear ho8 hs8 hr8 hb8)
    | ((with_reducible refine wpList_plain (o:=⟨some 11,Op.alloc _,_,_,_,_⟩) rfl fun K hK=>?_);(refine wp_alloc_msg rfl fun w9 ho9 hb9 hs9=>hK _ _ ?_);have HO9:=Lib.hid ho9.o;have HB9:=Lib.hid hb9;have HR9:=Lib.hid (HR8.out.of_new hb9);clear ho9 hb9 hs9)
    | ((with_reducible refine wpList_plain (o:=⟨none,Op.store _ (.tmp 11) (.tmp 85),_,_,_,_⟩) rfl fun K hK=>?_);(refine wp_store_msg (.tmp 11) (.tmp 85) w8.heap.size m msgZ s8 sN rfl rfl rfl HR9.out HO9.out fun w10 ho10 hg10 hs10=>hK _ _ ?_);have hb10:=HB9.out.grown hg10 HB9.out.size (fun k e=>by cases e;exact Nat.le_refl _);have HO10:=Lib.hid ho10;have HI10:=Lib.hid (HI8.out.new hb10);have HSO10:=Lib.hid (HSO8.out.of_new hb10);have HR10:=Lib.hid (HR8.out.of_new hb10);clear hb10 ho10 hg10 hs10))
   obtain ⟨g11,hg11⟩:∃ g,w8.heap.size = g:=⟨_,rfl⟩
   rw [hg11] at HO10 ⊢
   clear hg11 hfr hnw hse HO9 HB9 HR9 HR8 ha hkd
   have hfr:=step_frm HSO10.out
   have hnw:=step_now HSO10.out
   have hse:=step_seed HSO10.out
   go_upto_region 15 with (first
    | ((with_reducible refine wpList_plain (o:=⟨some 95,Op.load _ _,_,_,_,_⟩) rfl fun K hK=>?_);(refine wp_load_stepmsg (off:=0) rfl rfl HSO10.out.at_ (hK _ _ ?_)))
    | (go_at_call 13;refine (HT2.out _ _ HI10.out.org (HX.out.of_new HI10.out.below).msg (HKC.out.of_new HI10.out.below)).mono ?_;unfold TakePost;rintro e w11 ⟨F11,s11,rfl,hr11,ho11,hs11,hb11, -⟩;have HI11:=Lib.hid (HI10.out.prog ho11 HI10.out.ok hs11);have HO11:=Lib.hid (HO10.out.of_new (hb11 H6.out));have HR11:=Lib.hid (HR10.out.of_new (hb11 H6.out));have HS11:=Lib.hid hr11;clear ho11 hs11 hr11 hb11)
    | ((with_reducible refine wpList_plain (o:=⟨some 14,Op.alloc _,_,_,_,_⟩) rfl fun K hK=>?_);(refine wp_alloc_msg rfl fun w12 ho12 hb12 hs12=>hK _ _ ?_);have HO12:=Lib.hid ho12.o;have HB12:=Lib.hid hb12;have HS12:=Lib.hid (HS11.out.of_new hb12);clear ho12 hb12 hs12)
    | ((with_reducible refine wpList_plain (o:=⟨none,Op.store _ (.tmp 14) (.tmp 100),_,_,_,_⟩) rfl fun K hK=>?_);(refine wp_store_msg (.tmp 14) (.tmp 100) w11.heap.size m msgZ s11 sN rfl rfl rfl HS12.out HO12.out fun w13 ho13 hg13 hs13=>hK _ _ ?_);have hb13:=HB12.out.grown hg13 HB12.out.size (fun k e=>by cases e;exact Nat.le_refl _);have HO13:=Lib.hid ho13;have HI13:=Lib.hid (HI11.out.new hb13);have HOA:=Lib.hid (HO11.out.of_new hb13);have HRA:=Lib.hid (HR11.out.of_new hb13);have HRB:=Lib.hid (HS11.out.of_new hb13);clear hb13 ho13 hg13 hs13))
   obtain ⟨g14,hg14⟩:∃ g,w11.heap.size = g:=⟨_,rfl⟩
   rw [hg14] at HO13 ⊢
   clear hg14 hfr hnw hse
   go_upto_region 16 with (first
    | ((with_reducible refine wpList_plain (o:=⟨some 103,Op.load _ _,_,_,_,_⟩) rfl fun K hK=>?_);(refine wp_load_msg rfl rfl HOA.out (hK _ _ ?_)))
    | ((with_reducible refine wpList_plain (o:=⟨some 104,Op.load _ _,_,_,_,_⟩) rfl fun K hK=>?_);(refine wp_load_msg rfl rfl HO13.out (hK _ _ ?_)))
    | (go_at_call 16;refine (SameMsg_any m m s8 s11 _ HRA.out HRB.out).mono ?_;rw [decide_eq_true (show m = m from rfl)];rintro e w14 ⟨rfl,hb14⟩;have HI14:=Lib.hid (HI13.out.new hb14);clear hb14))
   cases is
   all_goals
    go_wp2
    go_roundw
    case rel=>exact ⟨i + 1,_,F11,by omega,by go_num,HI14.out⟩
    case measure=>simp [intOf];omega
end Go.Proofs.YtnohglkilpnjhaaGreatDoor
namespace Go.Proofs.YtnohglkilpnjhaaGreatDoor
open Go.ChangeShapes Go.WideShapes Go.ChangeAt Go.RowKit Go.Deep
set_option maxRecDepth 100000
section
variable {H:Type} {enc:TypeId × Value→H} {P:Program} {W:World} {base:Nat} {spare:Nat→Bool} {held:Bool}
theorem parts_of_trod {t e f:TypeId} {fuel:Nat} {cs:List Value} {x:DataW H × List MemPlace} (ht:P.underlying t = some (.slice e)) (he:P.underlying e = some (.slice f)) (hf:P.underlying f = some (.int .u8)) (hce:P.cellsOf e = 1) (hcf:P.cellsOf f = 1)
  (hfu:DataW.trod enc P W 0 spare held fuel t cs = some x):∃ v ps,cs = [v]∧PartsV W v ps:=by
 rcases open_slice ht hfu with ⟨rfl,_⟩ | ⟨a,len0,cap0,m,n,D,Pl,rfl,_,hl,hm,hmm,_,hx⟩
 ·exact ⟨_,[],rfl,none,0,rfl,Nat.le_refl _,by unfold maxLen;omega,fun _=>rfl,fun h=>by simp at h⟩
 ·have hlm:len0 ≤ m:=by rw [hmm];split <;> omega
  have one:∀ i,i < len0→∃ y:Value × List UInt8,W.cell? (a.add i) = some y.1∧Bytes W y.1 y.2:=by
   intro i hi
   obtain ⟨cs',hc,ht'⟩:=hx i (by omega)
   rw [hce,Nat.mul_one] at hc
   obtain ⟨_,hcl,hat⟩:=World.cells?_some hc
   obtain ⟨u,l,rfl,hb⟩:=bytes_of_trod he hf hcf ht'
   refine ⟨(u,l),?_,hb⟩
   have:=hat 0 (by omega)
   rw [show (a.add i).add 0 = a.add i from rfl] at this
   simpa using this
  obtain ⟨Y,hY⟩:=choose_lt (n:=len0) (p:=fun i (y:Value × List UInt8)=>W.cell? (a.add i) = some y.1∧Bytes W y.1 y.2) one
  refine ⟨_,(List.range len0).map (fun i=>(Y i).2),rfl,some a,cap0,by simp,by simpa using hl,hm,(fun h=>by cases h),fun h0=>?_⟩
  have h0':0 < len0:=by simpa using h0
  have c0:=(hY 0 h0').1
  have e0:a.add 0 = a:=rfl
  rw [e0] at c0
  obtain ⟨b,off,rfl⟩:=addr_none c0
  refine ⟨b,off,rfl,World.block_lt_of_cell? _ _ c0,fun i hi=>?_⟩
  have hi':i < len0:=by simpa using hi
  obtain ⟨g1,g2⟩:=hY i hi'
  rw [addr_add] at g1
  have e:((List.range len0).map (fun i=>(Y i).2)).getD i [] = (Y i).2:=by simp [List.getD,hi']
  rw [e]
  exact ⟨(Y i).1,g1,g2⟩
end
section
variable {H:Type} {enc:TypeId × Value→H} {W:World} {base:Nat} {spare:Nat→Bool} {held:Bool}
theorem fields_step19:(Tryz.prog.fieldsOf 40).toList.map (fun f=>(f.name,f.type,f.offset)) =
  [("Do", 3, 0), ("N", 3, 1), ("From", 3, 2), ("Now", 3, 3), ("L", 29, 4), ("M", 37, 5), ("Seed", 38, 44)] := by kernel_rfl
theorem struct_step19:∃ fs,Tryz.prog.underlying 40 = some (.struct fs)∧fs.toList.map (fun f=>(f.name,f.type,f.offset)) =
  [("Do", 3, 0), ("N", 3, 1), ("From", 3, 2), ("Now", 3, 3), ("L", 29, 4), ("M", 37, 5), ("Seed", 38, 44)] :=
 ⟨Tryz.prog.fieldsOf 40,by kernel_rfl,fields_step19⟩
theorem step19_of_trod {fuel:Nat} {cs:List Value} {y:DataW H × List MemPlace} (h:DataW.trod enc Tryz.prog W 0 spare held fuel 40 cs = some y):∃ p:S19 × List (List UInt8),cs = p.1.cells∧S19R W p.1 p.2:=by
 obtain ⟨fs,ht,hff⟩:=struct_step19
 obtain ⟨n,hl,fld⟩:=struct_fields ht h
 have hcl:Tryz.prog.cellsOf 40 = 45:=by kernel_rfl
 have hci:Tryz.prog.cellsOf 3 = 1:=by kernel_rfl
 have hcu:Tryz.prog.cellsOf 38 = 1:=by kernel_rfl
 have hcb:Tryz.prog.cellsOf 5 = 1:=by kernel_rfl
 have hcm:Tryz.prog.cellsOf 37 = 39:=by kernel_rfl
 have hs1:Tryz.prog.cellsOf 29 = 1:=by kernel_rfl
 have hs2:Tryz.prog.cellsOf 33 = 1:=by kernel_rfl
 rw [hff] at fld
 rw [hcl] at hl
 obtain ⟨z0,f0⟩:=fld 0 _ rfl
 obtain ⟨z1,f1⟩:=fld 1 _ rfl
 obtain ⟨z2,f2⟩:=fld 2 _ rfl
 obtain ⟨z3,f3⟩:=fld 3 _ rfl
 obtain ⟨z4,f4⟩:=fld 4 _ rfl
 obtain ⟨z5,f5⟩:=fld 5 _ rfl
 obtain ⟨z6,f6⟩:=fld 6 _ rfl
 dsimp only at f0 f1 f2 f3 f4 f5 f6
 rw [hci] at f0 f1 f2 f3
 rw [hs1] at f4
 rw [hcm] at f5
 rw [hcu] at f6
 obtain ⟨q0,e0,_,w0⟩:=DataW.trod_int Tryz.underlying3 f0
 obtain ⟨q1,e1,_,w1⟩:=DataW.trod_int Tryz.underlying3 f1
 obtain ⟨q2,e2,_,w2⟩:=DataW.trod_int Tryz.underlying3 f2
 obtain ⟨q3,e3,_,w3⟩:=DataW.trod_int Tryz.underlying3 f3
 obtain ⟨v4,ls,e4,r4⟩:=parts_of_trod Tryz.underlying29 Tryz.underlying33 Tryz.underlying5 hs2 hcb f4
 obtain ⟨m,s,e5,r5,o5⟩:=msg_of_trod f5
 obtain ⟨q6,e6,_,w6⟩:=DataW.trod_int Tryz.underlying38 f6
 obtain ⟨sd,rfl,hsd⟩:=bd_u64 w6
 refine ⟨(⟨q0,q1,q2,q3,v4,m,s,sd⟩,ls),?_,r4,r5,o5,bd_i64 w0,bd_i64 w1,bd_i64 w2,bd_i64 w3,hsd⟩
 unfold S19.cells
 dsimp only
 have hd:∀ k,cs.drop k = (cs.drop k).take 1 ++ cs.drop (k + 1):=fun k=>by have:=List.take_append_drop 1 (cs.drop k);rw [List.drop_drop] at this;exact this.symm
 have h45:cs.drop 45 = []:=List.drop_of_length_le (by omega)
 have h44:cs.drop 44 = [.int .u64 (sd:Int)]:=by rw [hd 44,e6,h45];rfl
 have h5:cs.drop 5 = msgCells m s ++ cs.drop 44:=by
  have:=List.take_append_drop 39 (cs.drop 5)
  rw [List.drop_drop,e5] at this
  exact this.symm
 have h0:cs = cs.drop 0:=rfl
 rw [h0,hd 0,e0,hd 1,e1,hd 2,e2,hd 3,e3,hd 4,e4,h5,h44];rfl
theorem open_steps19 {v:Value} {d:DataW H} {p:List MemPlace} (hv:Value.okWide Tryz.prog W .any base 22 v) (h:DataW.Trod enc Tryz.prog W 0 spare held 22 v d p) :
  ∃ l,StepsV W v l:=by
 obtain ⟨a0,l0,c0,rfl⟩:=okWide_slice Tryz.underlying22 hv
 obtain ⟨fuel,hfu⟩:=h
 have hce:Tryz.prog.cellsOf 40 = 45:=by kernel_rfl
 rcases open_slice Tryz.underlying22 hfu with ⟨hcs,_⟩ | ⟨a,len0,cap0,m,n,D,Pl,hcs,_,hl,hm,hmm,_,hx⟩
 ·simp [Value.cells] at hcs
  obtain ⟨rfl,rfl,rfl⟩:=hcs
  exact ⟨[],none,0,rfl,Nat.le_refl _,by unfold maxLen;omega,(fun p hp=>by cases hp),fun h=>by simp at h⟩
 ·simp [Value.cells] at hcs
  obtain ⟨rfl,rfl,rfl⟩:=hcs
  have hlm:l0 ≤ m:=by rw [hmm];split <;> omega
  have one:∀ i,i < l0→∃ y:S19 × List (List UInt8),S19R W y.1 y.2∧∀ j,j < 45→W.cell? ((a.add (i * 45)).add j) = y.1.cells[j]?:=by
   intro i hi
   obtain ⟨cs',hc,ht'⟩:=hx i (by omega)
   rw [hce] at hc
   obtain ⟨_,hcl,hat⟩:=World.cells?_some hc
   obtain ⟨y,rfl,hy⟩:=step19_of_trod ht'
   exact ⟨y,hy,fun j hj=>hat j hj⟩
  haveI:Inhabited S19:=⟨S19.zero⟩
  obtain ⟨Y,hY⟩:=choose_lt (n:=l0) (p:=fun i (y:S19 × List (List UInt8))=>S19R W y.1 y.2∧∀ j,j < 45→W.cell? ((a.add (i * 45)).add j) = y.1.cells[j]?) one
  have hlen:((List.range l0).map Y).length = l0:=by simp
  refine ⟨(List.range l0).map Y,some a,c0,by rw [hlen],by rw [hlen];exact hl,hm,(fun p hp=>?_),fun h0=>?_⟩
  ·obtain ⟨i,hi,rfl⟩:=List.mem_map.1 hp
   exact (hY i (List.mem_range.1 hi)).1
  rw [hlen] at h0
  have e00:=(hY 0 h0).2 0 (by omega)
  have e0:(a.add (0 * 45)).add 0 = a:=rfl
  rw [e0] at e00
  obtain ⟨b,off,rfl⟩:=addr_none (u:=.int .i64 (Y 0).1.act) (e00.trans rfl)
  refine ⟨b,off,rfl,World.block_lt_of_cell? _ _ (e00.trans rfl:_ = some (.int .i64 (Y 0).1.act)),fun i p hp=>?_⟩
  have hi:i < l0:=by have:=(List.getElem?_eq_some_iff.1 hp).1;omega
  obtain rfl:Y i = p:=by simpa [hi] using hp
  refine ⟨(hY i hi).1.msg.hash,World.block_lt_of_cell? _ _ (e00.trans rfl:_ = some (.int .i64 (Y 0).1.act)),fun j hj=>?_⟩
  have h2:=(hY i hi).2 j hj
  rwa [addr_add,addr_add] at h2
end
end Go.Proofs.YtnohglkilpnjhaaGreatDoor

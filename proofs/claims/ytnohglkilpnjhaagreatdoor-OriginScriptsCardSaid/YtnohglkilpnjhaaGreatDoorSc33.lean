/- Lemmas that the statement of this claim leans on; their own comments are taken out, for the size of the claim. No condition beyond what each lemma states. -/
import Derived.Test.YtnohglkilpnjhaaGreatDoorSc32
set_option linter.unusedVariables false
set_option linter.unusedSimpArgs false
set_option linter.unusedSectionVars false
namespace Go.Proofs.YtnohglkilpnjhaaGreatDoor
open Go.RowKit
set_option maxRecDepth 100000
def actO (most each life:Int) (S:OrgL) (x:S19) (ls:List (List UInt8)):OrgL:=
 if x.act = 0 then (pubL S ls x.n).1 else if x.act = 1 then (takeO S most each life x.frm x.now x.m x.seed).1 else (tickL S x.now).1
structure BothI (W:World) (o r:Nat) (most each life:Int) (B:Nat) (S S2:OrgL) (F:Nat→Prop) (w:World):Prop where
 org:OrgP w o most each life S F
 ref:ROrgP w r most each life B S2
 ok:OrgOk most each S
 ok2:OrgOk most each S2
 own:∀ k,F k→W.heap.size ≤ k
 base:W.heap.size ≤ B
 bsz:B ≤ w.heap.size
 below:Below W.heap.size W w
section
variable {W w w':World} {o r B:Nat} {most each life:Int} {S S2 S':OrgL} {F F':Nat→Prop}
theorem BothI.new (h:BothI W o r most each life B S S2 F w) (hb:Below w.heap.size w w'):BothI W o r most each life B S S2 F w':=
 ⟨h.org.of_new hb,h.ref.of_new hb,h.ok,h.ok2,h.own,h.base,Nat.le_trans h.bsz hb.size,below_next h.below hb⟩
theorem BothI.prog (h:BothI W o r most each life B S S2 F w) (ho:OrgP w' o most each life S' F') (hk:OrgOk most each S') (hs:OStep F F' w w'):BothI W o r most each life B S' S2 F' w':=
 ⟨ho,h.ref.prog_step h.org hs,hk,h.ok2,fun k hf=>(hs.own k hf).elim (h.own k) (fun e=>Nat.le_trans h.below.size e),h.base,Nat.le_trans h.bsz hs.kept.size,hs.below h.below h.below.size h.own⟩
theorem BothI.refs (h:BothI W o r most each life B S S2 F w) (hr:ROrgP w' r most each life B S') (hk:OrgOk most each S') (hs:RKept B w w'):BothI W o r most each life B S S' F w':=
 ⟨h.org.ref_step hs,hr,h.ok,hk,h.own,h.base,Nat.le_trans h.bsz hs.size,hs.below h.below h.below.size h.base⟩
theorem OStep.block_of {cur:Array Value} {ty:TypeId} {f:Nat × Nat} {g:Nat} (hs:OStep F F' w w') (hO:OrgP w o most each life S F) (he:w.heap[g]? = some (.cells cur ty f)):w'.heap[g]? = w.heap[g]?:=
 hs.kept.block g (Array.getElem?_eq_some_iff.1 he).1 fun hf=>hO.cells_ne hf he
theorem RKept.block_of {cur:Array Value} {ty:TypeId} {f:Nat × Nat} {g:Nat} (hs:RKept B w w') (he:w.heap[g]? = some (.cells cur ty f)) (ht:¬ refTy ty):w'.heap[g]? = w.heap[g]?:=
 hs.block g (Array.getElem?_eq_some_iff.1 he).1 fun ⟨_,cur2,ty2,f2,e2,ht2⟩=>by rw [he] at e2;cases e2;exact ht ht2
end
section
variable {w:World} {g:Nat} {x:S19}
theorem step_n (h:StepO w g x):w.cell? ⟨g,1,none⟩ = some (.int .i64 x.n):=h.at_.n
theorem step_frm (h:StepO w g x):w.cell? ⟨g,2,none⟩ = some (.int .i64 x.frm):=h.at_.frm
theorem step_now (h:StepO w g x):w.cell? ⟨g,3,none⟩ = some (.int .i64 x.now):=h.at_.now
theorem step_vl (h:StepO w g x):w.cell? ⟨g,4,none⟩ = some x.vl:=h.at_.vl
theorem step_seed (h:StepO w g x):w.cell? ⟨g,44,none⟩ = some (.int .u64 (x.seed:Int)):=h.at_.seed
end
theorem not_ref_dig:¬ refTy 31:=fun ht=>by rcases ht with h | h | h | h | h <;> exact absurd h (by decide)
theorem not_ref_msg:¬ refTy 37:=fun ht=>by rcases ht with h | h | h | h | h <;> exact absurd h (by decide)
theorem not_ref_int:¬ refTy 3:=fun ht=>by rcases ht with h | h | h | h | h <;> exact absurd h (by decide)
theorem pubL_name (S:OrgL) (ls:List (List UInt8)) (k:Int):(pubL S ls k).2.1.length = 32:=by
 unfold pubL
 repeat' split
 all_goals first
  | rfl
  | exact nameL_len _
set_option maxHeartbeats 6400000 in
theorem step_any19 (W:World) (o r:Nat) (most each life:Int) (B:Nat) (S:OrgL) (F:Nat→Prop) (x:S19) (ls:List (List UInt8)) (w:World) (hI:BothI W o r most each life B S S F w) (hx:S19R W x ls) (hl:ls.length ≤ 1000) (hm:1 ≤ most∧most ≤ 1000) (he:1 ≤ each∧each ≤ 64) (hKc:Consts W) :
  Calls Tryz.prog 23 #[.pointer (some ⟨o,0,none⟩),.pointer (some ⟨r,0,none⟩),.agg x.cells.toArray] w fun e w'=>∃ F',e = .returned (.bool true)∧BothI W o r most each life B (actO most each life S x ls) (actO most each life S x ls) F' w':=by
 obtain ⟨w0,hw0⟩:∃ w0,w.alloc (.cells x.cells.toArray 40) = w0:=⟨_,rfl⟩
 have hso:StepO w0 w.heap.size x:=by rw [← hw0];exact ⟨heap_alloc_new w _,hx.msg.hash⟩
 have hi0:=hI.new (w':=w0) (by rw [← hw0];exact (Below.refl _ w).alloc (Nat.le_refl _) _)
 have HX:=Lib.hid hx
 have HKC:=Lib.hid hKc
 have HSO:=Lib.hid hso
 have HI0:=Lib.hid hi0
 have HW:=Lib.hid hw0
 clear hw0 hso hi0 hI hx hKc
 go_enter Tryz.func23,Tryz.ntmps23
 go_upto_region 1 with (fail)
 rw [HW.out]
 clear HW
 obtain ⟨g,hg⟩:∃ g,w.heap.size = g:=⟨_,rfl⟩
 rw [hg] at HSO ⊢
 clear hg
 have ha:=HSO.out.at_.act
 by_cases h0:x.act = 0
 ·have hact:actO most each life S x ls = (pubL S ls x.n).1:=if_pos h0
  rw [h0] at ha
  have hn:=step_n HSO.out
  have hvl:=step_vl HSO.out
  have h32:=pubL_name S ls x.n
  have hok:=HI0.out.ok.pub ls x.n
  have hop:=fun W' h1 h2 h3=>OPublish_any o most each life S F x.vl ls x.n W' h1 HI0.out.ok h2 hl h3
  have hrp:=fun W' h1 h2 h3 h4=>ROPublish_any r most each life B S x.vl ls x.n W' h1 HI0.out.ok h2 hl h3 h4
  obtain ⟨⟨S',nm,er⟩,hq⟩:∃ q,pubL S ls x.n = q:=⟨_,rfl⟩
  rw [hq] at h32 hok hop hrp hact
  have HACT:=Lib.hid hact
  have H32:=Lib.hid h32
  have HOK:=Lib.hid hok
  have HOP:=Lib.hid hop
  have HRP:=Lib.hid hrp
  clear hq h32 hok hop hrp hact
  go_upto_region 4 with (first
   | (go_at_call 12;refine (HOP.out _ HI0.out.org (HX.out.parts.of_new HI0.out.below) (HKC.out.of_new HI0.out.below)).mono ?_;unfold PubPost;rintro e w1 ⟨F1,rfl,ho1,hs1⟩;have HI1:=Lib.hid (HI0.out.prog ho1 HOK.out hs1);have HSO1:=Lib.hid (HSO.out.of_block (hs1.block_of HI0.out.org HSO.out.1));clear ho1 hs1)
   | ((with_reducible refine wpList_plain (o:=⟨some 7,Op.alloc _,_,_,_,_⟩) rfl fun K hK=>?_);(refine wp_alloc_dig rfl fun w2 ho2 hb2 hs2=>hK _ _ ?_);have HO2:=Lib.hid ho2;have HB2:=Lib.hid hb2;clear ho2 hb2 hs2)
   | ((with_reducible refine wpList_plain (o:=⟨none,Op.store _ (.tmp 7) (.tmp 30),_,_,_,_⟩) rfl fun K hK=>?_);(refine wp_store_digO (.tmp 7) (.tmp 30) w1.heap.size nm dig0 rfl rfl rfl H32.out HO2.out fun w3 ho3 hg3 hs3=>hK _ _ ?_);have hb3:=HB2.out.grown hg3 HB2.out.size (fun k e=>by cases e;exact Nat.le_refl _);have HO3:=Lib.hid ho3;have HI3:=Lib.hid (HI1.out.new hb3);have HSO3:=Lib.hid (HSO1.out.of_new hb3);clear hb3 ho3 hg3 hs3))
  obtain ⟨g7,hg7⟩:∃ g,w1.heap.size = g:=⟨_,rfl⟩
  rw [hg7] at HO3 ⊢
  clear hg7 hn hvl
  have hn:=step_n HSO3.out
  have hvl:=step_vl HSO3.out
  go_upto_region 5 with (first
   | (go_at_call 60;refine (HRP.out _ HI3.out.ref (HX.out.parts.of_new HI3.out.below) (HKC.out.of_new HI3.out.below) HI3.out.bsz).mono ?_;unfold RPubPost;rintro e w4 ⟨rfl,hr4,hs4⟩;have HI4:=Lib.hid (HI3.out.refs hr4 HOK.out hs4);have HO4:=Lib.hid (HO3.out.of_block (hs4.block_of HO3.out.1 not_ref_dig));clear hr4 hs4)
   | ((with_reducible refine wpList_plain (o:=⟨some 9,Op.alloc _,_,_,_,_⟩) rfl fun K hK=>?_);(refine wp_alloc_dig rfl fun w5 ho5 hb5 hs5=>hK _ _ ?_);have HO5:=Lib.hid ho5;have HB5:=Lib.hid hb5;clear ho5 hb5 hs5)
   | ((with_reducible refine wpList_plain (o:=⟨none,Op.store _ (.tmp 9) (.tmp 39),_,_,_,_⟩) rfl fun K hK=>?_);(refine wp_store_digO (.tmp 9) (.tmp 39) w4.heap.size nm dig0 rfl rfl rfl H32.out HO5.out fun w6 ho6 hg6 hs6=>hK _ _ ?_);have hb6:=HB5.out.grown hg6 HB5.out.size (fun k e=>by cases e;exact Nat.le_refl _);have HD6:=Lib.hid ho6.at_;have HI6:=Lib.hid (HI4.out.new hb6);have HD7:=Lib.hid (HO4.out.of_new hb6).at_;clear hb6 ho6 hg6 hs6))
  obtain ⟨g9,hg9⟩:∃ g,w4.heap.size = g:=⟨_,rfl⟩
  rw [hg9] at HD6 ⊢
  clear hg9 hn hvl
  have heq:=run_eql_dig_same nm H32.out
  go_wp2_with (first
   | ((with_reducible refine wpList_plain (o:=⟨some 41,Op.load _ _,_,_,_,_⟩) rfl fun K hK=>?_);(refine wp_load_at (ty:=31) (x:=.tmp 7) rfl rfl HD7.out (hK _ _ ?_)))
   | ((with_reducible refine wpList_plain (o:=⟨some 42,Op.load _ _,_,_,_,_⟩) rfl fun K hK=>?_);(refine wp_load_at (ty:=31) (x:=.tmp 9) rfl rfl HD6.out (hK _ _ ?_))))
  go_ret
  rw [HACT.out]
  exact ⟨_,rfl,HI6.out⟩
 by_cases h1:x.act = 1
 ·have hact:actO most each life S x ls = (takeO S most each life x.frm x.now x.m x.seed).1:=by unfold actO;rw [if_neg h0,if_pos h1]
  rw [h1] at ha
  have hfr:=step_frm HSO.out
  have hnw:=step_now HSO.out
  have hsd:=step_seed HSO.out
  have hok:=HI0.out.ok.take hm.1 he.1 HX.out.msg.hash life x.frm x.now x.seed
  have hot:=fun W' h1 h2 h3=>OTake_any o most each life S F x.frm x.now x.m x.s x.seed W' h1 HI0.out.ok hm he h2 HX.out.ok HX.out.seed h3
  have hrt:=fun W' h1 h2=>ROTake_any r most each life B S x.frm x.now x.m x.s x.seed W' h1 HI0.out.ok hm he h2 HX.out.ok HX.out.seed
  obtain ⟨⟨S',m,is,er⟩,hq⟩:∃ q,takeO S most each life x.frm x.now x.m x.seed = q:=⟨_,rfl⟩
  rw [hq] at hok hot hrt hact
  have HACT:=Lib.hid hact
  have HOK:=Lib.hid hok
  have HOT:=Lib.hid hot
  have HRT:=Lib.hid hrt
  clear hq hok hot hrt hact
  go_upto_region 8 with (first
   | ((with_reducible refine wpList_plain (o:=⟨some 58,Op.load _ _,_,_,_,_⟩) rfl fun K hK=>?_);(refine wp_load_stepmsg (off:=0) rfl rfl HSO.out.at_ (hK _ _ ?_)))
   | (go_at_call 13;refine (HOT.out _ HI0.out.org (HX.out.of_new HI0.out.below).msg (HKC.out.of_new HI0.out.below)).mono ?_;unfold TakePost;rintro e w1 ⟨F1,s1,rfl,hr1,ho1,hs1, -,hn1⟩;have HI1:=Lib.hid (HI0.out.prog ho1 HOK.out hs1);have HSO1:=Lib.hid (HSO.out.of_block (hs1.block_of HI0.out.org HSO.out.1));have HR1:=Lib.hid hr1;have HN1:=Lib.hid hn1;clear ho1 hs1 hr1 hn1)
   | ((with_reducible refine wpList_plain (o:=⟨some 11,Op.alloc _,_,_,_,_⟩) rfl fun K hK=>?_);(refine wp_alloc_msg rfl fun w2 ho2 hb2 hs2=>hK _ _ ?_);have HO2:=Lib.hid ho2.o;have HB2:=Lib.hid hb2;have HR2:=Lib.hid (HR1.out.of_new hb2);clear ho2 hb2 hs2)
   | ((with_reducible refine wpList_plain (o:=⟨none,Op.store _ (.tmp 11) (.tmp 62),_,_,_,_⟩) rfl fun K hK=>?_);(refine wp_store_msg (.tmp 11) (.tmp 62) w1.heap.size m msgZ s1 sN rfl rfl rfl HR2.out HO2.out fun w3 ho3 hg3 hs3=>hK _ _ ?_);have hb3:=HB2.out.grown hg3 HB2.out.size (fun k e=>by cases e;exact Nat.le_refl _);have HO3:=Lib.hid ho3;have HI3:=Lib.hid (HI1.out.new hb3);have HSO3:=Lib.hid (HSO1.out.of_new hb3);have HR3:=Lib.hid (HR1.out.of_new hb3);have HB3:=Lib.hid hb3;clear hb3 ho3 hg3 hs3))
  have HN3:=Lib.hid (show x.m.kind = 6→∃ vi,s1 = { sN with vi:=vi }∧∀ q,vi.ownBlock = some q→∃ cur,w3.heap[q]? = some (.cells cur 3 (0,0)) from fun h=>by
   obtain ⟨vi,e,h2⟩:=HN1.out h
   refine ⟨vi,e,fun q hq=>?_⟩
   obtain ⟨cur,hc⟩:=h2 q hq
   exact ⟨cur,(HB3.out.block q (Array.getElem?_eq_some_iff.1 hc).1).trans hc⟩)
  obtain ⟨g11,hg11⟩:∃ g,w1.heap.size = g:=⟨_,rfl⟩
  rw [hg11] at HO3 ⊢
  clear hg11 hfr hnw hsd HN1 HB3 HR1 HB2 HO2 HR2
  have hfr:=step_frm HSO3.out
  have hnw:=step_now HSO3.out
  have hsd:=step_seed HSO3.out
  go_upto_region 9 with (first
   | ((with_reducible refine wpList_plain (o:=⟨some 72,Op.load _ _,_,_,_,_⟩) rfl fun K hK=>?_);(refine wp_load_stepmsg (off:=0) rfl rfl HSO3.out.at_ (hK _ _ ?_)))
   | (go_at_call 61;refine (HRT.out _ HI3.out.ref (HX.out.of_new HI3.out.below).msg).mono ?_;unfold RTakePost;rintro e w4 ⟨s4,rfl,hr4,ho4,hk4,hb4⟩;have HI4:=Lib.hid (HI3.out.refs ho4 HOK.out hk4);have HO4:=Lib.hid (HO3.out.of_block (hk4.block_of HO3.out.1 not_ref_msg));have HS4:=Lib.hid hr4;have HR4:=Lib.hid (show MsgR w4 m s1 from (by by_cases h6:x.m.kind = 6;(obtain ⟨vi,e,h2⟩:=HN3.out h6;subst e;exact HR3.out.num_keep h2 hk4 (fun k cur hc ⟨_,cur2,ty2,f2,e2,ht2⟩=>by rw [hc] at e2;cases e2;exact not_ref_int ht2));(exact HR3.out.of_new (hb4 h6))));clear hr4 ho4 hk4 hb4)
   | ((with_reducible refine wpList_plain (o:=⟨some 14,Op.alloc _,_,_,_,_⟩) rfl fun K hK=>?_);(refine wp_alloc_msg rfl fun w5 ho5 hb5 hs5=>hK _ _ ?_);have HO5:=Lib.hid ho5.o;have HB5:=Lib.hid hb5;have HR5:=Lib.hid (HS4.out.of_new hb5);clear ho5 hb5 hs5)
   | ((with_reducible refine wpList_plain (o:=⟨none,Op.store _ (.tmp 14) (.tmp 76),_,_,_,_⟩) rfl fun K hK=>?_);(refine wp_store_msg (.tmp 14) (.tmp 76) w4.heap.size m msgZ s4 sN rfl rfl rfl HR5.out HO5.out fun w6 ho6 hg6 hs6=>hK _ _ ?_);have hb6:=HB5.out.grown hg6 HB5.out.size (fun k e=>by cases e;exact Nat.le_refl _);have HO6:=Lib.hid ho6;have HI6:=Lib.hid (HI4.out.new hb6);have HOA6:=Lib.hid (HO4.out.of_new hb6);have HRA6:=Lib.hid (HR4.out.of_new hb6);have HRB6:=Lib.hid (HS4.out.of_new hb6);clear hb6 ho6 hg6 hs6))
  obtain ⟨g14,hg14⟩:∃ g,w4.heap.size = g:=⟨_,rfl⟩
  rw [hg14] at HO6 ⊢
  clear hg14 hfr hnw hsd
  go_upto_region 10 with (first
   | ((with_reducible refine wpList_plain (o:=⟨some 79,Op.load _ _,_,_,_,_⟩) rfl fun K hK=>?_);(refine wp_load_msg rfl rfl HOA6.out (hK _ _ ?_)))
   | ((with_reducible refine wpList_plain (o:=⟨some 80,Op.load _ _,_,_,_,_⟩) rfl fun K hK=>?_);(refine wp_load_msg rfl rfl HO6.out (hK _ _ ?_)))
   | (go_at_call 16;refine (SameMsg_any m m s1 s4 _ HRA6.out HRB6.out).mono ?_;rw [decide_eq_true (show m = m from rfl)];rintro e w7 ⟨rfl,hb7⟩;have HI7:=Lib.hid (HI6.out.new hb7);clear hb7))
  cases is
  all_goals
   go_wp2
   go_ret
   rw [HACT.out]
   exact ⟨_,rfl,HI7.out⟩
 have hact:actO most each life S x ls = (tickL S x.now).1:=by unfold actO;rw [if_neg h0,if_neg h1]
 have hnw:=step_now HSO.out
 have hok:=HI0.out.ok.tick x.now
 have hot:=OTick_any o most each life S F x.now w0 HI0.out.org HI0.out.ok hm he
 have hrt:=fun W' h1=>ROTick_any r most each life B S x.now W' h1 HI0.out.ok hm he
 obtain ⟨⟨S',er⟩,hq⟩:∃ q,tickL S x.now = q:=⟨_,rfl⟩
 rw [hq] at hok hot hrt hact
 have HACT:=Lib.hid hact
 have HOK:=Lib.hid hok
 have HOT:=Lib.hid hot
 have HRT:=Lib.hid hrt
 clear hq hok hot hrt hact
 go_upto_region 12 with (go_at_call 21;refine HOT.out.mono ?_;rintro e w1 ⟨F1,rfl,ho1,hs1⟩;have HI1:=Lib.hid (HI0.out.prog ho1 HOK.out hs1);have HSO1:=Lib.hid (HSO.out.of_block (hs1.block_of HI0.out.org HSO.out.1));clear ho1 hs1)
 clear hnw
 have hnw:=step_now HSO1.out
 go_wp2_with (go_at_call 62;refine (HRT.out _ HI1.out.ref).mono ?_;rintro e w2 ⟨rfl,hr2,hk2⟩;have HI2:=Lib.hid (HI1.out.refs hr2 HOK.out hk2);clear hr2 hk2)
 go_ret
 rw [HACT.out]
 exact ⟨_,rfl,HI2.out⟩
theorem ROImageP (r:Nat) (most each life:Int) (B:Nat) (S:OrgL) (d:List UInt8) (w:World) (hR:ROrgP w r most each life B S) (hk:OrgOk most each S) (h32:d.length = 32) :
  Calls Tryz.prog 24 #[.pointer (some ⟨r,0,none⟩),.agg (d.map B8).toArray] w fun e w'=>∃ u,e = .returned (.tuple #[.agg #[u],.bool (imgAt S d).isSome])∧RBlob.Row w' u ((imgAt S d).getD [])∧Below w.heap.size w w':=by
 obtain ⟨rt,v,L,T,vi,vb,I,C,hq,rfl⟩:=hR
 have h1:=hk.few
 simp only [List.length_map] at h1
 exact ROImage_any r rt most each life B v L T vi vb I C d w hq (by omega) h32
theorem ROContentP (r:Nat) (most each life:Int) (B:Nat) (S:OrgL) (d:List UInt8) (w:World) (hR:ROrgP w r most each life B S) (hk:OrgOk most each S) (h32:d.length = 32) :
  Calls Tryz.prog 26 #[.pointer (some ⟨r,0,none⟩),.agg (d.map B8).toArray] w fun e w'=>∃ u,e = .returned (.tuple #[u,.bool (contAt S d).isSome])∧Bytes w' u (((contAt S d).map (·.2)).getD [])∧Below w.heap.size w w':=by
 obtain ⟨rt,v,L,T,vi,vb,I,C,hq,rfl⟩:=hR
 have h1:=hk.few
 have h2:=hk.cfew
 simp only [List.length_map] at h1 h2
 exact ROContent_any r rt most each life B v L T vi vb I C d w hq (by omega) h32
set_option maxHeartbeats 6400000 in
theorem OriginScripts_walk (x0 x1 x2:Int) (v:Value) (l:List (S19 × List (List UInt8))) (w:World) (hx0:-9223372036854775808 ≤ x0) (hx0':x0 ≤ 9223372036854775807) (hx1:-9223372036854775808 ≤ x1) (hx1':x1 ≤ 9223372036854775807) (hx2:-9223372036854775808 ≤ x2) (hx2':x2 ≤ 9223372036854775807) (hl:StepsV w v l) (hKc:Consts w) :
  Calls Tryz.prog 7 #[.agg #[.int .i64 x0,.int .i64 x1,.int .i64 x2],v] w fun e w'=>e = .returned (.bool true)∧Below w.heap.size w w':=by
 clear hx0 hx0' hx1 hx1' hx2 hx2'
 obtain ⟨va,vc,hv⟩:=hl.len
 subst hv
 have hle:=hl.le
 obtain ⟨W,hW⟩:∃ W,w.alloc (.cells #[.int .i64 x0,.int .i64 x1,.int .i64 x2] 67) = W:=⟨_,rfl⟩
 have hb:Below w.heap.size w W:=by rw [← hW];exact (Below.refl _ w).alloc (Nat.le_refl _) _
 have hg0:W.cell? ⟨w.heap.size,0,none⟩ = some (.int .i64 x0):=by rw [← hW];simp only [World.cell?,heap_alloc_new];rfl
 have hg1:W.cell? ⟨w.heap.size,1,none⟩ = some (.int .i64 x1):=by rw [← hW];simp only [World.cell?,heap_alloc_new];rfl
 have hg2:W.cell? ⟨w.heap.size,2,none⟩ = some (.int .i64 x2):=by rw [← hW];simp only [World.cell?,heap_alloc_new];rfl
 have HL:=Lib.hid (hl.of_new hb)
 obtain ⟨va',vc',hv,_,_,hall,hat⟩:=hl.of_new hb
 obtain ⟨rfl,rfl⟩:va = va'∧vc = vc':=by cases hv;exact ⟨rfl,rfl⟩
 have HALL:=Lib.hid hall
 have HAT:=Lib.hid hat
 have HKC:=Lib.hid (hKc.of_new hb)
 have HB:=Lib.hid hb
 have HG0:=Lib.hid hg0
 have HG1:=Lib.hid hg1
 have HG2:=Lib.hid hg2
 have HW:=Lib.hid hW
 clear hl hv hall hat hW hb hg0 hg1 hg2 hKc
 go_enter Tryz.func7,Tryz.ntmps7
 go_upto_region 1 with (fail)
 rw [HW.out]
 obtain ⟨g,hg⟩:∃ g,w.heap.size = g:=⟨_,rfl⟩
 have HG:=Lib.hid hg
 rw [hg] at HG0 HG1 HG2 ⊢
 clear hg
 go_upto_region 2 with (go_at_call 9;refine (oawake_any _ HKC.out).mono ?_;rintro e w1 ⟨rfl,hb1⟩;have HB1:=Lib.hid hb1;clear hb1)
 go_upto_region 3 with (go_at_call 10;refine (much_any _ l _ (HL.out.of_new HB1.out)).mono ?_;unfold MuchPost;rintro e w2 ⟨many,rfl,rfl,hfew⟩;have HFEW:=Lib.hid hfew;clear hfew)
 obtain ⟨n,hn⟩:∃ n,l.length = n:=⟨_,rfl⟩
 rw [hn] at hle HAT ⊢
 have HN:=Lib.hid hn
 clear hn
 have c0:=Grew.cell HB1.out HG0.out
 have c1:=Grew.cell HB1.out HG1.out
 have c2:=Grew.cell HB1.out HG2.out
 cases hok:orgOk x0 x1 x2 with
 | false=>
  go_upto_region 4 with (go_at_call 11;refine (ONew_bad x0 x1 x2 _ hok).mono ?_;rintro e w3 ⟨rfl,hb3⟩;have HB3:=Lib.hid (below_next HB1.out hb3);clear hb3)
  clear c0 c1 c2
  have c0:=Grew.cell HB3.out HG0.out
  have c1:=Grew.cell HB3.out HG1.out
  have c2:=Grew.cell HB3.out HG2.out
  go_upto_region 5 with (go_at_call 22;refine (RONew_bad x0 x1 x2 _ hok).mono ?_;rintro e w4 ⟨rfl,hb4⟩;have HB4:=Lib.hid (below_next HB3.out hb4);clear hb4)
  clear c0 c1 c2
  go_wp2
  go_loopw [11,12,13,14,15,16,17,18,19,20,21,22,23] (fun iv _ _ _ _ _ _ _ _ _ _ _ _ W'=>iv = .int .i64 0∧Below W.heap.size W W') (fun _ _ _ _ _ _ _ _ _ _ _ _ _ _=>0)
  case atStart=>exact ⟨rfl,HB4.out⟩
  case round=>
   obtain ⟨rfl,hbr⟩:=hrel
   by_cases h0:(0:Int) < (n:Int)
   all_goals
    go_wp2
    go_ret
    exact ⟨rfl,below_next (HG.out ▸ HB.out) hbr⟩
 | true=>
  have HOK:=Lib.hid (orgOk_iff.1 hok)
  go_upto_region 4 with (go_at_call 11;refine (ONew_ok x0 x1 x2 _ hok).mono ?_;rintro e w3 ⟨o,F,rfl,ho3,hf3,hb3⟩;have HO3:=Lib.hid ho3;have HF3:=Lib.hid (fun k hk=>Nat.le_trans HB1.out.size (hf3 k hk));have HB3:=Lib.hid (below_next HB1.out hb3);clear ho3 hf3 hb3)
  clear c0 c1 c2
  have c0:=Grew.cell HB3.out HG0.out
  have c1:=Grew.cell HB3.out HG1.out
  have c2:=Grew.cell HB3.out HG2.out
  go_upto_region 5 with (go_at_call 22;refine (RONew_ok x0 x1 x2 _ hok).mono ?_;rintro e w4 ⟨r,rfl,hr4,hb4⟩;have HI4:=Lib.hid (show BothI W o r x0 x1 x2 w3.heap.size OrgL.zero OrgL.zero F w4 from ⟨HO3.out.of_new hb4,hr4,OrgOk.zero (by have:=HOK.out;omega),OrgOk.zero (by have:=HOK.out;omega),HF3.out,HB3.out.size,hb4.size,below_next HB3.out hb4⟩);clear hr4 hb4)
  clear c0 c1 c2
  obtain ⟨B,hB⟩:∃ B,w3.heap.size = B:=⟨_,rfl⟩
  rw [hB] at HI4
  clear hB hok
  cases many with
  | true=>
   go_wp2
   go_loopw [11,12,13,14,15,16,17,18,19,20,21,22,23] (fun iv _ _ _ _ _ _ _ _ _ _ _ _ W'=>iv = .int .i64 0∧Below W.heap.size W W') (fun _ _ _ _ _ _ _ _ _ _ _ _ _ _=>0)
   case atStart=>exact ⟨rfl,HI4.out.below⟩
   case round=>
    obtain ⟨rfl,hbr⟩:=hrel
    by_cases h0:(0:Int) < (n:Int)
    all_goals
     go_wp2
     go_ret
     exact ⟨rfl,below_next (HG.out ▸ HB.out) hbr⟩
  | false=>
   have HFW0:=Lib.hid (HFEW.out rfl)
   clear HFEW
   go_wp2
   go_loopw [11,12,13,14,15,16,17,18,19,20,21,22,23] (fun iv _ _ _ _ _ _ _ _ _ _ _ _ W'=>∃ (i:Nat) (S:OrgL) (F:Nat→Prop),i ≤ n∧iv = .int .i64 (i:Int)∧BothI W o r x0 x1 x2 B S S F W') (fun iv _ _ _ _ _ _ _ _ _ _ _ _ _=>n - (intOf iv).toNat)
   case atStart=>exact ⟨0,OrgL.zero,F,Nat.zero_le _,rfl,HI4.out⟩
   case round=>
    rename World=>w5
    obtain ⟨i,S,F5,hi,rfl,hI⟩:=hrel
    have HI5:=Lib.hid hI
    clear hI
    by_cases hlt:i < n
    case neg=>
     have hii:¬ (i:Int) < (n:Int):=by omega
     go_wp2
     go_ret
     exact ⟨rfl,below_next (HG.out ▸ HB.out) HI5.out.below⟩
    have hii:(i:Int) < (n:Int):=by omega
    by_cases h60:i < 60
    case neg=>
     have h6i:¬ (i:Int) < 60:=by omega
     go_wp2
     go_ret
     exact ⟨rfl,below_next (HG.out ▸ HB.out) HI5.out.below⟩
    have h6i:(i:Int) < 60:=by omega
    obtain ⟨b,off,rfl,hbl,hst⟩:=HAT.out (by omega)
    obtain ⟨⟨x,ls⟩,hp⟩:∃ p,l[i]? = some p:=⟨_,List.getElem?_eq_getElem (by rw [HN.out];exact hlt)⟩
    have hs19:=HALL.out _ (List.mem_of_getElem? hp)
    have hfw:ls.length ≤ 20:=HFW0.out i _ (by omega) hp
    have HX:=Lib.hid hs19
    have HAX:=Lib.hid ((hst i _ hp).of_new HI5.out.below)
    have HAX0:=Lib.hid (hst i _ hp)
    have HFW:=Lib.hid hfw
    clear hbl hst hp hs19 hfw
    go_upto_region 11 with (first
     | ((with_reducible refine wpList_plain (o:=⟨some 84,Op.load _ _,_,_,_,_⟩) rfl fun K hK=>?_);(refine HAX.out.wp rfl rfl (hK _ _ ?_)))
     | (go_at_call 23;refine (step_any19 W o r x0 x1 x2 B S F5 x ls _ HI5.out HX.out (by have:=HFW.out;omega) HOK.out.1.1 HOK.out.1.2 HKC.out).mono ?_;rintro e w6 ⟨F6,rfl,hi6⟩;have HI6:=Lib.hid hi6;clear hi6))
    obtain ⟨S6,hS6⟩:∃ S6,actO x0 x1 x2 S x ls = S6:=⟨_,rfl⟩
    rw [hS6] at HI6
    clear hS6
    have HDG:=Lib.hid (HAX0.out.of_new HI6.out.below).hash
    obtain ⟨d,hd⟩:∃ d,x.m.hash = d:=⟨_,rfl⟩
    rw [hd] at HDG
    have HD32:=Lib.hid HDG.out.1
    clear hd
    go_upto_region 12 with (first
     | ((with_reducible refine wpList_plain (o:=⟨some 91,Op.load 31 _,_,_,_,_⟩) rfl fun K' hK'=>?_);(refine wp_load_at (ty:=31) (x:=.tmp 90) rfl rfl HDG.out (hK' _ _ ?_)))
     | ((with_reducible refine wpList_plain (o:=⟨some 13,Op.alloc _,_,_,_,_⟩) rfl fun K hK=>?_);(refine wp_alloc_dig rfl fun w7 ho7 hb7 hs7=>hK _ _ ?_);have HO7:=Lib.hid ho7;have HB7:=Lib.hid hb7;clear ho7 hb7 hs7)
     | ((with_reducible refine wpList_plain (o:=⟨none,Op.store _ (.tmp 13) (.tmp 91),_,_,_,_⟩) rfl fun K hK=>?_);(refine wp_store_digO (.tmp 13) (.tmp 91) w6.heap.size d dig0 rfl rfl rfl HD32.out HO7.out fun w8 ho8 hg8 hs8=>hK _ _ ?_);have hb8:=HB7.out.grown hg8 HB7.out.size (fun k e=>by cases e;exact Nat.le_refl _);have HO8:=Lib.hid ho8;have HI8:=Lib.hid (HI6.out.new hb8);clear ho8 hg8 hs8 hb8))
    obtain ⟨g13,hg13⟩:∃ g,w6.heap.size = g:=⟨_,rfl⟩
    rw [hg13] at HO8 ⊢
    clear hg13
    have hIM:=fun W' h1=>OImage_any o x0 x1 x2 S6 F6 d W' h1 HI6.out.ok HD32.out
    have hRM:=fun W' h1=>ROImageP r x0 x1 x2 B S6 d W' h1 HI6.out.ok HD32.out
    have hCN:=fun W' h1=>OContent_any o x0 x1 x2 S6 F6 d W' h1 HI6.out.ok HD32.out
    have hRC:=fun W' h1=>ROContentP r x0 x1 x2 B S6 d W' h1 HI6.out.ok HD32.out
    obtain ⟨xs,hxs⟩:∃ xs,(imgAt S6 d).getD [] = xs:=⟨_,rfl⟩
    obtain ⟨is,his⟩:∃ is,(imgAt S6 d).isSome = is:=⟨_,rfl⟩
    obtain ⟨bs,hbs⟩:∃ bs,((contAt S6 d).map (·.2)).getD [] = bs:=⟨_,rfl⟩
    obtain ⟨has,hhas⟩:∃ has,(contAt S6 d).isSome = has:=⟨_,rfl⟩
    rw [hxs,his] at hIM hRM
    rw [hbs,hhas] at hCN hRC
    have HIM:=Lib.hid hIM
    have HRM:=Lib.hid hRM
    have HCN:=Lib.hid hCN
    have HRC:=Lib.hid hRC
    clear hIM hRM hCN hRC hxs his hbs hhas
    go_upto_region 13 with (first
     | ((with_reducible refine wpList_plain (o:=⟨some 94,Op.load 31 _,_,_,_,_⟩) rfl fun K' hK'=>?_);(refine wp_load_at (ty:=31) (x:=.tmp 13) rfl rfl HO8.out.at_ (hK' _ _ ?_)))
     | (go_at_call 17;refine (HIM.out _ HI8.out.org).mono ?_;rintro e w9 ⟨xv,rfl,hx9,hb9⟩;obtain ⟨xa,xc,hxv⟩:=hx9.row.len;subst hxv;have HX9:=Lib.hid hx9.row;have HO9:=Lib.hid (HO8.out.of_new hb9);have HI9:=Lib.hid (HI8.out.new hb9);clear hx9 hb9)
     | ((with_reducible refine wpList_plain (o:=⟨some 14,Op.alloc _,_,_,_,_⟩) rfl fun K hK=>?_);(refine RImg.wp_alloc rfl fun wa hoa hba hsa=>hK _ _ ?_);have HOA:=Lib.hid hoa;have HBA:=Lib.hid hba;clear hoa hba hsa)
     | ((with_reducible refine wpList_plain (o:=⟨none,Op.store _ (.tmp 14) (.tmp 96),_,_,_,_⟩) rfl fun K hK=>?_);(refine HOA.out.store (.tmp 14) (.tmp 96) rfl rfl rfl (show RImg.ok (.slice xa xs.length xc) from rfl) fun wb hob hgb hsb=>hK _ _ ?_);have hbb:=HBA.out.grown hgb (by have:=HBA.out.size;omega) (fun k e=>by cases e;exact Nat.le_refl _);have HIMB:=Lib.hid hob;have HXB:=Lib.hid (HX9.out.of_new hbb);have HOB:=Lib.hid (HO9.out.of_new hbb);have HIB:=Lib.hid (HI9.out.new hbb);clear hob hgb hsb hbb))
    obtain ⟨g14,hg14⟩:∃ g,w9.heap.size = g:=⟨_,rfl⟩
    rw [hg14] at HIMB ⊢
    clear hg14
    go_upto_region 14 with (first
     | ((with_reducible refine wpList_plain (o:=⟨some 100,Op.load 31 _,_,_,_,_⟩) rfl fun K' hK'=>?_);(refine wp_load_at (ty:=31) (x:=.tmp 13) rfl rfl HOB.out.at_ (hK' _ _ ?_)))
     | (go_at_call 24;refine (HRM.out _ HIB.out.ref).mono ?_;rintro e wc ⟨yv,rfl,hyc,hbc⟩;obtain ⟨ya,yc,hyv⟩:=hyc.len;subst hyv;have HYC:=Lib.hid hyc;have HXC:=Lib.hid (HXB.out.of_new hbc);have HIMC:=Lib.hid (HIMB.out.of_new hbc);have HOC:=Lib.hid (HOB.out.of_new hbc);have HIC:=Lib.hid (HIB.out.new hbc);clear hyc hbc)
     | ((with_reducible refine wpList_plain (o:=⟨some 16,Op.alloc _,_,_,_,_⟩) rfl fun K hK=>?_);(refine RImg.wp_alloc rfl fun wd hod hbd hsd=>hK _ _ ?_);have HOD:=Lib.hid hod;have HBD:=Lib.hid hbd;clear hod hbd hsd)
     | ((with_reducible refine wpList_plain (o:=⟨none,Op.store _ (.tmp 16) (.tmp 102),_,_,_,_⟩) rfl fun K hK=>?_);(refine HOD.out.store (.tmp 16) (.tmp 102) rfl rfl rfl (show RImg.ok (.slice ya xs.length yc) from rfl) fun we hoe hge hse=>hK _ _ ?_);have hbe:=HBD.out.grown hge (by have:=HBD.out.size;omega) (fun k e=>by cases e;exact Nat.le_refl _);have HIM2:=Lib.hid hoe;have HYE:=Lib.hid (HYC.out.of_new hbe);have HXE:=Lib.hid (HXC.out.of_new hbe);have HIME:=Lib.hid (HIMC.out.of_new hbe);have HOE:=Lib.hid (HOC.out.of_new hbe);have HIE:=Lib.hid (HIC.out.new hbe);clear hoe hge hse hbe))
    obtain ⟨g16,hg16⟩:∃ g,wc.heap.size = g:=⟨_,rfl⟩
    rw [hg16] at HIM2 ⊢
    clear hg16
    go_upto_region 15 with (first
     | ((with_reducible refine wpList_plain (o:=⟨some 106,Op.load 31 _,_,_,_,_⟩) rfl fun K' hK'=>?_);(refine wp_load_at (ty:=31) (x:=.tmp 13) rfl rfl HOE.out.at_ (hK' _ _ ?_)))
     | (go_at_call 25;refine (HCN.out _ HIE.out.org).mono ?_;rintro e wf ⟨bv,rfl,hcf,hbf⟩;obtain ⟨ba,bc,hbv⟩:=hcf.len;subst hbv;have HCF:=Lib.hid hcf;have HYF:=Lib.hid (HYE.out.of_new hbf);have HXF:=Lib.hid (HXE.out.of_new hbf);have HIMF:=Lib.hid (HIME.out.of_new hbf);have HIM2F:=Lib.hid (HIM2.out.of_new hbf);have HOF:=Lib.hid (HOE.out.of_new hbf);have HIF:=Lib.hid (HIE.out.new hbf);clear hcf hbf))
    go_upto_region 16 with (first
     | ((with_reducible refine wpList_plain (o:=⟨some 112,Op.load 31 _,_,_,_,_⟩) rfl fun K' hK'=>?_);(refine wp_load_at (ty:=31) (x:=.tmp 13) rfl rfl HOF.out.at_ (hK' _ _ ?_)))
     | (go_at_call 26;refine (HRC.out _ HIF.out.ref).mono ?_;rintro e wg ⟨dv,rfl,hdg,hbg⟩;obtain ⟨da,dc,hdv⟩:=hdg.len;subst hdv;have HDG2:=Lib.hid hdg;have HCG:=Lib.hid (HCF.out.of_new hbg);have HYG:=Lib.hid (HYF.out.of_new hbg);have HXG:=Lib.hid (HXF.out.of_new hbg);have HIMG:=Lib.hid (HIMF.out.of_new hbg);have HIM2G:=Lib.hid (HIM2F.out.of_new hbg);have HOG:=Lib.hid (HOF.out.of_new hbg);have HIG:=Lib.hid (HIF.out.new hbg);clear hdg hbg))
    go_upto_region 17 with (first
     | ((with_reducible refine wpList_plain (o:=⟨some 116,Op.load _ _,_,_,_,_⟩) rfl fun K hK=>?_);(refine HIMG.out.at_.wp rfl rfl (hK _ _ ?_)))
     | ((with_reducible refine wpList_plain (o:=⟨some 117,Op.load _ _,_,_,_,_⟩) rfl fun K hK=>?_);(refine HIM2G.out.at_.wp rfl rfl (hK _ _ ?_)))
     | (go_at_call 20;refine (SameImg_any _ _ xs xs _ HXG.out HYG.out).mono ?_;rw [decide_eq_true (show xs = xs from rfl)];rintro e wh ⟨rfl,hbh⟩;have HDH:=Lib.hid (HDG2.out.of_new hbh);have HCH:=Lib.hid (HCG.out.of_new hbh);have HOH:=Lib.hid (HOG.out.of_new hbh);have HIH:=Lib.hid (HIG.out.new hbh);clear hbh))
    obtain ⟨rt,rv,rL,rT,vi,vb,RI,RC,hrq,hS⟩:=HIH.out.ref
    have hT:rT = S6.tab:=by rw [hS]
    subst hT
    have hcr:=fun w' (h:Grew wh w')=>Grew.cell h hrq.cell0
    have hdg:DigAt wh g13 0 d:=HOH.out.at_
    have HRQ:=Lib.hid hrq
    clear hS hrq
    refine (wpIn_wide (n:=5)).1 ?_
    refine wpIn_region_mix (ro:=none) (C:=Grew wh) [0,1,3,4,5,6,7] [2,8] [9,10] (by kernel_rfl) (by kernel_rfl) (Grew.start _) (fun c a d v w h=>by cases d <;> exact h) ?_
    simp only [opsAt,List.flatMap_cons,List.flatMap_nil,List.getElem?_cons_zero,List.getElem?_cons_succ,Option.toList_some,List.cons_append,List.nil_append]
    go_simp
    repeat (first
     | (go_big_quiet_want;(with_reducible apply quiet_load_at (ty:=31) (x:=.tmp _));rfl;rfl;assumption;go_simp;go_big_quiet_on)
     | (go_big_quiet_want;apply quiet_val;(intro w' hw';go_simp;first | done | rfl);go_simp;go_big_quiet_on)
     | (go_big_quiet_skip))
    refine wpQuiet_nil ?_
    intro wi hwi
    have HII:=Lib.hid (HIH.out.new hwi)
    refine LateL.cons rfl (wp_enter (f:=28) (args:=#[.pointer (some ⟨o,0,none⟩),.agg (d.map B8).toArray]) (by go_simp <;> rfl) (OPeers_any o x0 x1 x2 S6 F6 d wi HII.out.org HII.out.ok HOK.out.1.2 HD32.out) ?_)
    rintro e wj ⟨u1,rfl,ho1,hbj⟩
    have hwj:Grew wh wj:=below_next hwi hbj
    refine ⟨_,rfl,hwj,?_⟩
    have HIJ:=Lib.hid (HII.out.new hbj)
    refine LateL.cons rfl (wp_enter (f:=29) (args:=#[.pointer (some ⟨rt,0,none⟩),.agg (d.map B8).toArray]) (by go_simp <;> rfl) (RPeers_any rt x0 x1 B rv rL S6.tab d wj (HRQ.out.of_new hwj).tab HII.out.ok.tab HOK.out.1.1 HD32.out) ?_)
    rintro e wk ⟨u2,rfl,ho2,hbk⟩
    have hwk:Grew wh wk:=below_next hwj hbk
    refine ⟨_,rfl,hwk,?_⟩
    have HIK:=Lib.hid (HIJ.out.new hbk)
    refine LateL.nil ?_
    rw [wF_none]
    refine wpListIn_of_wp (ro:=none) rfl (fun c hc=>by cases hc) (wp_enter (f:=27) (args:=#[u1,u2]) (by go_simp <;> rfl) (RSameP_any u1 u2 _ _ wk (ho1.row.of_new hbk) ho2) ?_)
    rintro e wl ⟨rfl,hbl⟩
    refine ⟨_,rfl,?_⟩
    have HIL:=Lib.hid (HIK.out.new hbl)
    have hsame:decide (peersT d S6.tab = peersT d S6.tab) = true:=by simp
    rw [hsame]
    have hbwl:=below_next hwk hbl
    have hs1:=(HCH.out.of_new hbwl).str
    have hs2:=(HDH.out.of_new hbwl).str
    have hq1:(bs == bs) = true:=by simp
    have hq2:=str_same bs
    have hq3:(is != is) = false:=by simp
    have hq4:(has != has) = false:=by simp
    clear hdg hcr hwi ho1 hbj hwj ho2 hbk hwk hbl hsame hbwl
    rw [wF_none]
    gi_wp2
    go_wp2
    go_roundw
    case rel=>exact ⟨i + 1,S6,F6,by omega,by go_num,HIL.out⟩
    case measure=>simp [intOf];omega
end Go.Proofs.YtnohglkilpnjhaaGreatDoor
namespace Go.Proofs.YtnohglkilpnjhaaGreatDoor
open Go.ChangeShapes Go.WideShapes Go.ChangeAt Go.RowKit Go.Deep
set_option maxRecDepth 100000
section
variable {H:Type} {enc:TypeId × Value→H} {P:Program} {W:World} {base:Nat} {spare:Nat→Bool} {held:Bool}
theorem parts_of_trod {t e f:TypeId} {fuel:Nat} {cs:List Value} {x:DataW H × List MemPlace} (ht:P.underlying t = some (.slice e)) (he:P.underlying e = some (.slice f)) (hf:P.underlying f = some (.int .u8)) (hce:P.cellsOf e = 1) (hcf:P.cellsOf f = 1)
  (hfu:DataW.trod enc P W 0 spare held fuel t cs = some x):∃ v ps,cs = [v]∧PartsV W v ps:=by
 rcases open_slice ht hfu with ⟨rfl,_⟩ | ⟨a,len0,cap0,m,n,D,Pl,rfl,_,hl,hm,hmm,_,hx⟩
 ·exact ⟨_,[],rfl,none,0,rfl,Nat.le_refl _,by unfold maxLen;omega,fun _=>rfl,fun h=>by simp at h⟩
 ·have hlm:len0 ≤ m:=by rw [hmm];split <;> omega
  have one:∀ i,i < len0→∃ y:Value × List UInt8,W.cell? (a.add i) = some y.1∧Bytes W y.1 y.2:=by
   intro i hi
   obtain ⟨cs',hc,ht'⟩:=hx i (by omega)
   rw [hce,Nat.mul_one] at hc
   obtain ⟨_,hcl,hat⟩:=World.cells?_some hc
   obtain ⟨u,l,rfl,hb⟩:=bytes_of_trod he hf hcf ht'
   refine ⟨(u,l),?_,hb⟩
   have:=hat 0 (by omega)
   rw [show (a.add i).add 0 = a.add i from rfl] at this
   simpa using this
  obtain ⟨Y,hY⟩:=choose_lt (n:=len0) (p:=fun i (y:Value × List UInt8)=>W.cell? (a.add i) = some y.1∧Bytes W y.1 y.2) one
  refine ⟨_,(List.range len0).map (fun i=>(Y i).2),rfl,some a,cap0,by simp,by simpa using hl,hm,(fun h=>by cases h),fun h0=>?_⟩
  have h0':0 < len0:=by simpa using h0
  have c0:=(hY 0 h0').1
  have e0:a.add 0 = a:=rfl
  rw [e0] at c0
  obtain ⟨b,off,rfl⟩:=addr_none c0
  refine ⟨b,off,rfl,World.block_lt_of_cell? _ _ c0,fun i hi=>?_⟩
  have hi':i < len0:=by simpa using hi
  obtain ⟨g1,g2⟩:=hY i hi'
  rw [addr_add] at g1
  have e:((List.range len0).map (fun i=>(Y i).2)).getD i [] = (Y i).2:=by simp [List.getD,hi']
  rw [e]
  exact ⟨(Y i).1,g1,g2⟩
theorem open_threeint {t e:TypeId} {v:Value} {d:DataW H} {p:List MemPlace} (ht:P.underlying t = some (.array 3 e)) (he:P.underlying e = some (.int .i64)) (hce:P.cellsOf e = 1) (hct:P.cellsOf t = 3)
  (hv:Value.okWide P W .any base t v) (h:DataW.Trod enc P W 0 spare held t v d p):∃ a b c:Int,v = .agg #[.int .i64 a,.int .i64 b,.int .i64 c]∧(-9223372036854775808 ≤ a∧a ≤ 9223372036854775807)∧(-9223372036854775808 ≤ b∧b ≤ 9223372036854775807)∧-9223372036854775808 ≤ c∧c ≤ 9223372036854775807:=by
 simp only [Value.okWide,ht] at hv
 obtain ⟨cs,rfl,_,_⟩:=hv
 obtain ⟨fuel,hfu⟩:=h
 obtain ⟨xs,m,h1,h2,hl,hxl,hx⟩:=DataW.trod_array ht hfu
 have a0:=hx 0 (by omega)
 have a1:=hx 1 (by omega)
 have a2:=hx 2 (by omega)
 rw [List.getElem?_eq_getElem (by omega)] at a0 a1 a2
 obtain ⟨q0,e0,_,w0⟩:=DataW.trod_int he a0
 obtain ⟨q1,e1,_,w1⟩:=DataW.trod_int he a1
 obtain ⟨q2,e2,_,w2⟩:=DataW.trod_int he a2
 refine ⟨q0,q1,q2,?_,bd_i64 w0,bd_i64 w1,bd_i64 w2⟩
 rw [hce] at e0 e1 e2
 simp only [Value.cells] at e0 e1 e2 hl
 congr 1
 rw [← Array.toArray_toList (xs:=cs)]
 congr 1
 simp only [Nat.zero_mul,List.drop_zero,Nat.one_mul,Nat.mul_one] at e0 e1 e2
 rw [← List.take_append_drop 1 cs.toList,e0,← List.take_append_drop 1 (cs.toList.drop 1),e1,List.drop_drop,← List.take_of_length_le (i:=1) (l:=cs.toList.drop (1 + 1)) (by simp at hl ⊢;omega),e2]
 rfl
end
section
variable {H:Type} {enc:TypeId × Value→H} {W:World} {base:Nat} {spare:Nat→Bool} {held:Bool}
theorem fields_step19:(Tryz.prog.fieldsOf 40).toList.map (fun f=>(f.name,f.type,f.offset)) =
  [("Do", 3, 0), ("N", 3, 1), ("From", 3, 2), ("Now", 3, 3), ("L", 29, 4), ("M", 37, 5), ("Seed", 38, 44)] := by kernel_rfl
theorem struct_step19:∃ fs,Tryz.prog.underlying 40 = some (.struct fs)∧fs.toList.map (fun f=>(f.name,f.type,f.offset)) =
  [("Do", 3, 0), ("N", 3, 1), ("From", 3, 2), ("Now", 3, 3), ("L", 29, 4), ("M", 37, 5), ("Seed", 38, 44)] :=
 ⟨Tryz.prog.fieldsOf 40,by kernel_rfl,fields_step19⟩
theorem step19_of_trod {fuel:Nat} {cs:List Value} {y:DataW H × List MemPlace} (h:DataW.trod enc Tryz.prog W 0 spare held fuel 40 cs = some y):∃ p:S19 × List (List UInt8),cs = p.1.cells∧S19R W p.1 p.2:=by
 obtain ⟨fs,ht,hff⟩:=struct_step19
 obtain ⟨n,hl,fld⟩:=struct_fields ht h
 have hcl:Tryz.prog.cellsOf 40 = 45:=by kernel_rfl
 have hci:Tryz.prog.cellsOf 3 = 1:=by kernel_rfl
 have hcu:Tryz.prog.cellsOf 38 = 1:=by kernel_rfl
 have hcb:Tryz.prog.cellsOf 5 = 1:=by kernel_rfl
 have hcm:Tryz.prog.cellsOf 37 = 39:=by kernel_rfl
 have hs1:Tryz.prog.cellsOf 29 = 1:=by kernel_rfl
 have hs2:Tryz.prog.cellsOf 33 = 1:=by kernel_rfl
 rw [hff] at fld
 rw [hcl] at hl
 obtain ⟨z0,f0⟩:=fld 0 _ rfl
 obtain ⟨z1,f1⟩:=fld 1 _ rfl
 obtain ⟨z2,f2⟩:=fld 2 _ rfl
 obtain ⟨z3,f3⟩:=fld 3 _ rfl
 obtain ⟨z4,f4⟩:=fld 4 _ rfl
 obtain ⟨z5,f5⟩:=fld 5 _ rfl
 obtain ⟨z6,f6⟩:=fld 6 _ rfl
 dsimp only at f0 f1 f2 f3 f4 f5 f6
 rw [hci] at f0 f1 f2 f3
 rw [hs1] at f4
 rw [hcm] at f5
 rw [hcu] at f6
 obtain ⟨q0,e0,_,w0⟩:=DataW.trod_int Tryz.underlying3 f0
 obtain ⟨q1,e1,_,w1⟩:=DataW.trod_int Tryz.underlying3 f1
 obtain ⟨q2,e2,_,w2⟩:=DataW.trod_int Tryz.underlying3 f2
 obtain ⟨q3,e3,_,w3⟩:=DataW.trod_int Tryz.underlying3 f3
 obtain ⟨v4,ls,e4,r4⟩:=parts_of_trod Tryz.underlying29 Tryz.underlying33 Tryz.underlying5 hs2 hcb f4
 obtain ⟨m,s,e5,r5,o5⟩:=msg_of_trod f5
 obtain ⟨q6,e6,_,w6⟩:=DataW.trod_int Tryz.underlying38 f6
 obtain ⟨sd,rfl,hsd⟩:=bd_u64 w6
 refine ⟨(⟨q0,q1,q2,q3,v4,m,s,sd⟩,ls),?_,r4,r5,o5,bd_i64 w0,bd_i64 w1,bd_i64 w2,bd_i64 w3,hsd⟩
 unfold S19.cells
 dsimp only
 have hd:∀ k,cs.drop k = (cs.drop k).take 1 ++ cs.drop (k + 1):=fun k=>by have:=List.take_append_drop 1 (cs.drop k);rw [List.drop_drop] at this;exact this.symm
 have h45:cs.drop 45 = []:=List.drop_of_length_le (by omega)
 have h44:cs.drop 44 = [.int .u64 (sd:Int)]:=by rw [hd 44,e6,h45];rfl
 have h5:cs.drop 5 = msgCells m s ++ cs.drop 44:=by
  have:=List.take_append_drop 39 (cs.drop 5)
  rw [List.drop_drop,e5] at this
  exact this.symm
 have h0:cs = cs.drop 0:=rfl
 rw [h0,hd 0,e0,hd 1,e1,hd 2,e2,hd 3,e3,hd 4,e4,h5,h44];rfl
theorem open_steps19 {v:Value} {d:DataW H} {p:List MemPlace} (hv:Value.okWide Tryz.prog W .any base 22 v) (h:DataW.Trod enc Tryz.prog W 0 spare held 22 v d p) :
  ∃ l,StepsV W v l:=by
 obtain ⟨a0,l0,c0,rfl⟩:=okWide_slice Tryz.underlying22 hv
 obtain ⟨fuel,hfu⟩:=h
 have hce:Tryz.prog.cellsOf 40 = 45:=by kernel_rfl
 rcases open_slice Tryz.underlying22 hfu with ⟨hcs,_⟩ | ⟨a,len0,cap0,m,n,D,Pl,hcs,_,hl,hm,hmm,_,hx⟩
 ·simp [Value.cells] at hcs
  obtain ⟨rfl,rfl,rfl⟩:=hcs
  exact ⟨[],none,0,rfl,Nat.le_refl _,by unfold maxLen;omega,(fun p hp=>by cases hp),fun h=>by simp at h⟩
 ·simp [Value.cells] at hcs
  obtain ⟨rfl,rfl,rfl⟩:=hcs
  have hlm:l0 ≤ m:=by rw [hmm];split <;> omega
  have one:∀ i,i < l0→∃ y:S19 × List (List UInt8),S19R W y.1 y.2∧∀ j,j < 45→W.cell? ((a.add (i * 45)).add j) = y.1.cells[j]?:=by
   intro i hi
   obtain ⟨cs',hc,ht'⟩:=hx i (by omega)
   rw [hce] at hc
   obtain ⟨_,hcl,hat⟩:=World.cells?_some hc
   obtain ⟨y,rfl,hy⟩:=step19_of_trod ht'
   exact ⟨y,hy,fun j hj=>hat j hj⟩
  haveI:Inhabited S19:=⟨S19.zero⟩
  obtain ⟨Y,hY⟩:=choose_lt (n:=l0) (p:=fun i (y:S19 × List (List UInt8))=>S19R W y.1 y.2∧∀ j,j < 45→W.cell? ((a.add (i * 45)).add j) = y.1.cells[j]?) one
  have hlen:((List.range l0).map Y).length = l0:=by simp
  refine ⟨(List.range l0).map Y,some a,c0,by rw [hlen],by rw [hlen];exact hl,hm,(fun p hp=>?_),fun h0=>?_⟩
  ·obtain ⟨i,hi,rfl⟩:=List.mem_map.1 hp
   exact (hY i (List.mem_range.1 hi)).1
  rw [hlen] at h0
  have e00:=(hY 0 h0).2 0 (by omega)
  have e0:(a.add (0 * 45)).add 0 = a:=rfl
  rw [e0] at e00
  obtain ⟨b,off,rfl⟩:=addr_none (u:=.int .i64 (Y 0).1.act) (e00.trans rfl)
  refine ⟨b,off,rfl,World.block_lt_of_cell? _ _ (e00.trans rfl:_ = some (.int .i64 (Y 0).1.act)),fun i p hp=>?_⟩
  have hi:i < l0:=by have:=(List.getElem?_eq_some_iff.1 hp).1;omega
  obtain rfl:Y i = p:=by simpa [hi] using hp
  refine ⟨(hY i hi).1.msg.hash,World.block_lt_of_cell? _ _ (e00.trans rfl:_ = some (.int .i64 (Y 0).1.act)),fun j hj=>?_⟩
  have h2:=(hY i hi).2 j hj
  rwa [addr_add,addr_add] at h2
end
end Go.Proofs.YtnohglkilpnjhaaGreatDoor

/- Lemmas that the statement of this claim leans on; their own comments are taken out, for the size of the claim. No condition beyond what each lemma states. -/
import Derived.Test.YtnohglkilpnjhaaGreatDoorSc30
set_option linter.unusedVariables false
set_option linter.unusedSimpArgs false
set_option linter.unusedSectionVars false
namespace Go.Proofs.YtnohglkilpnjhaaGreatDoor
open Go.RowKit
set_option maxRecDepth 100000
def RTakePost (w:World) (r:Nat) (many most life:Int) (B:Nat) (m:MsgL) (q:OrgL × MsgL × Bool × Int) (e:Ending) (w':World):Prop:=
 ∃ s,e = .returned (.tuple #[MsgV q.2.1 s,.bool q.2.2.1,.int .i64 q.2.2.2])∧MsgR w' q.2.1 s∧ROrgP w' r many most life B q.1∧RKept B w w'∧(m.kind ≠ 6→Below w.heap.size w w')
theorem takeOk_eq {id now:Int} {m:MsgL}:takeOk id now m = (within id 1 65536 && (within now 0 1099511627776 && rrightB m)):=by rw [rrightB_eq];rfl
theorem cells_ty {w:World} {k:Nat} {a b:Array Value} {t u:TypeId} {f g:Nat × Nat} (h1:w.heap[k]? = some (.cells a t f)) (h2:w.heap[k]? = some (.cells b u g)):t = u:=by
 rw [h1] at h2
 injection h2 with h
 injection h
theorem ROrgQ.kept_msg {w w':World} {r rt:Nat} {many most life:Int} {B:Nat} {v:Value} {L:RefL} {T:TabL} {vi vb:Value} {I:List ImgR} {C:List RCntR} {g:Nat} {m:MsgL} {s:MsgS} (h:ROrgQ w r rt many most life B v L T vi vb I C) (hm:MsgO w g m s) (hg:w.grownBy w' (some g)):ROrgQ w' r rt many most life B v L T vi vb I C:=by
 have hk:Kept (fun q=>q ≠ g) w w':=(Kept.refl _ w).grown hg fun r e=>by cases e;exact fun h=>h rfl
 have hc:∀ {k:Nat} {cur:Array Value} {ty:TypeId} {f:Nat × Nat},w.heap[k]? = some (.cells cur ty f)→ty ≠ 37→k ≠ g:=fun e hn e2=>by
  subst e2
  exact hn (cells_ty e hm.1)
 have hr:∀ {base:Nat} {e:TypeId} {size n:Nat} {v:Value} {xs:List Value},w.ownsRow base e size v n xs→e ≠ 37→w'.ownsRow base e size v n xs:=fun hr hn=>ownsRow_same hr fun k hv=>by
  obtain ⟨cur,e⟩:=ownsRow_block hr hv
  exact hk.block k (World.ownsRow.lt hr k hv).2 (hc e hn)
 refine ⟨(hk.block r h.rlt (hc h.org (by decide))).trans h.org,h.base,h.tab.kept hk (hc h.tab.tab (by decide)) (fun k hv=>?_) (fun i x y hx hy k hv=>?_),⟨h.imgs.1,hr h.imgs.2 (by decide)⟩,fun x hx=>⟨(h.irow x hx).1,hr (h.irow x hx).2 (by decide)⟩,⟨h.blbs.1,hr h.blbs.2 (by decide)⟩,fun x hx=>hr (h.brow x hx) (by decide)⟩
 ·obtain ⟨cur,e⟩:=ownsRow_block h.tab.own.2 hv
  exact hc e (by decide)
 ·obtain ⟨cur,e⟩:=ownsRow_block (h.tab.rows i x y hx hy).2 hv
  exact hc e (by decide)
theorem MsgO.ref_step {w w':World} {rt:Nat} {many most:Int} {B:Nat} {v:Value} {L:RefL} {T:TabL} {g:Nat} {m:MsgL} {s:MsgS} (h:MsgO w g m s) (hT:RTabP w rt many most B v L T) (hs:RStp rt v w w'):MsgO w' g m s:=
 h.of_block (hs.block g h.lt ⟨fun e=>(by subst e;exact absurd (cells_ty h.1 hT.tab) (by decide)),fun e=>by
  obtain ⟨cur,e2⟩:=ownsRow_block hT.own.2 e
  exact absurd (cells_ty h.1 e2) (by decide)⟩)
set_option maxHeartbeats 1600000 in
theorem ROTick_any (r:Nat) (many most life:Int) (B:Nat) (S:OrgL) (now:Int) (w:World) (hR:ROrgP w r many most life B S) (hk:OrgOk many most S) (hm:1 ≤ many∧many ≤ 1000) (he:1 ≤ most∧most ≤ 64) :
  Calls Tryz.prog 62 #[.pointer (some ⟨r,0,none⟩),.int .i64 now] w fun e w'=>e = .returned (.int .i64 (tickL S now).2)∧ROrgP w' r many most life B (tickL S now).1∧RKept B w w':=by
 obtain ⟨rt,v,L,T,vi,vb,I,C,hq,rfl⟩:=hR
 have hc0:=hq.cell0
 have HQ:=Lib.hid hq
 have HK:=Lib.hid hk.tab
 obtain ⟨c1,hc1⟩:∃ c,(expT T now).2.2 = c:=⟨_,rfl⟩
 have HC1:=Lib.hid hc1
 have HM:=Lib.hid hm
 have HE:=Lib.hid he
 clear hq hk hc1 hm he
 go_enter Tryz.func62,Tryz.ntmps62
 go_wp2_with (go_at_call 101;refine (RExpire_any rt many most B v L T now _ HQ.out.tab HK.out HM.out HE.out).mono ?_;unfold RPost;rw [HC1.out];rintro e w1 ⟨v1,L1,rfl,hT1,hs1⟩;have HR:=Lib.hid (HQ.out.table hT1 hs1);clear hT1 hs1)
 go_ret
 exact ⟨ret_int5 HC1.out,⟨rt,_,_,_,vi,vb,I,C,HR.out.1,rfl⟩,HR.out.2⟩
set_option maxHeartbeats 6400000 in
theorem ROTake_any (r:Nat) (many most life:Int) (B:Nat) (S:OrgL) (id now:Int) (m:MsgL) (s:MsgS) (seed:Nat) (w:World) (hR:ROrgP w r many most life B S) (hk:OrgOk many most S) (hm:1 ≤ many∧many ≤ 1000) (he:1 ≤ most∧most ≤ 64) (hM:MsgR w m s) (hmo:m.ok) (hsd:seed < 18446744073709551616) :
  Calls Tryz.prog 61 #[.pointer (some ⟨r,0,none⟩),.int .i64 id,.int .i64 now,MsgV m s,.int .u64 (seed:Int)] w (RTakePost w r many most life B m (takeO S many most life id now m seed)):=by
 obtain ⟨W,hW⟩:∃ W,w.alloc (.cells (msgCells m s).toArray 37) = W:=⟨_,rfl⟩
 have ho:MsgO W w.heap.size m s:=by rw [← hW];exact msg_alloc w hM.hash
 have hb:Below w.heap.size w W:=by rw [← hW];exact (Below.refl _ w).alloc (Nat.le_refl _) _
 have HW:=Lib.hid hW
 have HO:=Lib.hid ho
 have HB:=Lib.hid hb
 have HP:=Lib.hid hR
 have HR:=Lib.hid (hM.of_new hb)
 have HK:=Lib.hid hk
 have H32:=Lib.hid hM.hash
 have HMO:=Lib.hid hmo
 clear hR hk hM hmo hW ho hb
 show Calls Tryz.prog 61 #[.pointer (some ⟨r,0,none⟩),.int .i64 id,.int .i64 now,.agg (msgCells m s).toArray,.int .u64 (seed:Int)] w _
 have htk:=@takeOk_eq id now m
 obtain ⟨b1,h1⟩:∃ b,within id 1 65536 = b:=⟨_,rfl⟩
 obtain ⟨b2,h2⟩:∃ b,within now 0 1099511627776 = b:=⟨_,rfl⟩
 obtain ⟨b3,h3⟩:∃ b,rrightB m = b:=⟨_,rfl⟩
 rw [h1,h2,h3] at htk
 have H1:=Lib.hid h1
 have H2:=Lib.hid h2
 have H3:=Lib.hid h3
 clear h1 h2 h3
 go_enter Tryz.func61,Tryz.ntmps61
 go_upto_region 1 with ((with_reducible refine wpList_plain (o:=⟨some 10,Op.alloc _,_,_,_,_⟩) rfl fun K hK=>?_);(refine wp_alloc_msg rfl fun w1 ho1 hb1 hs1=>hK _ _ ?_);rw [HW.out] at ho1 hb1 hs1 ⊢;have HO1:=Lib.hid ho1.o;have HB1:=Lib.hid hb1;have HO8:=Lib.hid (HO.out.of_new hb1);have HR8:=Lib.hid (HR.out.of_new hb1);clear ho1 hb1 hs1)
 obtain ⟨g8,hg8⟩:∃ g,w.heap.size = g:=⟨_,rfl⟩
 have HG8:=Lib.hid hg8
 rw [hg8] at HO8 HO ⊢
 obtain ⟨g10,hg10⟩:∃ g,W.heap.size = g:=⟨_,rfl⟩
 have HG10:=Lib.hid hg10
 rw [hg10] at HO1 ⊢
 clear hg8 hg10
 go_upto_region 4 with (first
  | (go_at_call 87;refine (RIsId_any _ _).mono ?_;rw [H1.out];rintro e wx ⟨rfl,rfl⟩)
  | (go_at_call 97;refine (RIsMoment_any _ _).mono ?_;rw [H2.out];rintro e wx ⟨rfl,rfl⟩)
  | ((with_reducible refine wpList_plain (o:=⟨some 27,Op.load _ _,_,_,_,_⟩) rfl fun K hK=>?_);(refine wp_load_msg rfl rfl HO8.out (hK _ _ ?_)))
  | (go_at_call 43;refine (WRRight_any m s _ HR8.out).mono ?_;rw [H3.out];rintro e w2 ⟨rfl,hb2⟩;have HB2:=Lib.hid (below_next HB1.out hb2);have HO2:=Lib.hid (HO1.out.of_new hb2);have HO82:=Lib.hid (HO8.out.of_new hb2);clear hb2))
 have hB2:=below_next HB.out HB2.out
 have HBW:=Lib.hid hB2
 have HP2:=Lib.hid (HP.out.of_new hB2)
 have HZ2:=Lib.hid (show w.heap.size ≤ g8∧w.heap.size ≤ g10∧g10 < w2.heap.size from ⟨by have:=HG8.out;omega,by have:=HG10.out;have:=HB.out.size;omega,HO2.out.lt⟩)
 clear hB2
 rcases hbb:(b1 && (b2 && b3)) with _ | _
 ·have HT:=Lib.hid (show takeO S many most life id now m seed = (S,msgN,false,1) by unfold takeO;rw [htk,hbb];rfl)
  clear htk
  cases b1 <;> cases b2 <;> cases b3 <;> first
   | (exfalso;revert hbb;decide)
   | (
     clear hbb
     go_wp2_with (first
      | ((with_reducible refine wpList_plain (o:=⟨some 39,Op.build _ _,_,_,_,_⟩) rfl fun K hK=>?_);(refine wp_val (v:=MsgV msgZ sN) (by unfold execOp;simp only [List.map_toArray,List.map_nil,build_msg,Sem.run_bind,Result.andThen_ok,Sem.run_pure]) (hK _ _ ?_)))
      | ((with_reducible refine wpList_plain (o:=⟨none,Op.store _ (.tmp 10) (.tmp 39),_,_,_,_⟩) rfl fun K hK=>?_);(refine wp_store_msg (.tmp 10) (.tmp 39) g10 msgZ msgZ sN sN rfl rfl rfl (msgR_zero _) HO2.out fun w6 ho6 hg6 hs6=>hK _ _ ?_);have HO6:=Lib.hid ho6;have HG6:=Lib.hid hg6;clear ho6 hg6 hs6))
     refine bodyPost_ret (results_msg3 rfl _ rfl rfl rfl HO6.out) rfl ?_
     rw [HT.out]
     have hbl:Below w.heap.size w w6:=HBW.out.grown HG6.out (by have:=HBW.out.size;omega) (fun k e=>by cases e;exact HZ2.out.2.1)
     exact ⟨sN,rfl,msgR_zero _,HP.out.of_new hbl,RKept.of_below hbl,fun _=>hbl⟩)
 have HTK:=Lib.hid (show takeO S many most life id now m seed = _ from by unfold takeO;rw [if_pos (by rw [htk,hbb])])
 clear htk
 obtain ⟨rfl,rfl,rfl⟩:b1 = true∧b2 = true∧b3 = true:=by
  revert hbb
  cases b1 <;> cases b2 <;> cases b3 <;> decide
 clear hbb
 have hkd:=HO82.out.kind
 obtain ⟨rt,v,L,T,vi,vb,I,C,hq,rfl⟩:=HP2.out
 have HQ:=Lib.hid hq
 have hIl:I.length ≤ 100000:=by have:=HK.out.few;simp only [List.length_map] at this;omega
 have hCl:C.length ≤ 100000:=by have h1:=HK.out.cfew;have h2:=HK.out.few;simp only [List.length_map] at h1 h2;omega
 have HIL:=Lib.hid hIl
 have HCL:=Lib.hid hCl
 have fin:∀ (wE wD:World),Below w.heap.size w wD→wD.grownBy wE (some g10)→Below w.heap.size w wE:=fun wE wD hb hg=>hb.grown hg (by have:=hb.size;omega) (fun k e=>by cases e;exact HZ2.out.2.1)
 have HFIN:=Lib.hid fin
 clear hq hIl hCl fin
 by_cases k9:m.kind = 9
 ·rw [k9] at hkd
  have HT:=Lib.hid (show takeO ⟨I.map plI,C.map plR,T⟩ many most life id now m seed = (⟨I.map plI,C.map plR,T⟩,tellL ⟨I.map plI,C.map plR,T⟩ m.hash,true,0) by rw [HTK.out,if_pos k9])
  have HDG:=Lib.hid HO82.out.hash
  have hIM:=ROImage_any r rt many most life B v L T vi vb I C m.hash w2 HQ.out HIL.out H32.out
  obtain ⟨O,hO⟩:∃ O,imgAt ⟨I.map plI,C.map plR,T⟩ m.hash = O:=⟨_,rfl⟩
  rw [hO] at hIM
  have HOE:=Lib.hid hO
  have HIM:=Lib.hid hIM
  clear k9 hO hIM
  cases O with
  | none=>
   have HTE:=Lib.hid (show tellL ⟨I.map plI,C.map plR,T⟩ m.hash = mk0 11 m.hash by unfold tellL;rw [HOE.out])
   go_upto_region 9 with (first
    | ((with_reducible refine wpList_plain (o:=⟨some 47,Op.load _ _,_,_,_,_⟩) rfl fun K hK=>?_);(refine wp_load_at (ty:=31) (x:=.tmp 46) rfl rfl HDG.out (hK _ _ ?_)))
    | (go_at_call 24;refine HIM.out.mono ?_;rintro e w3 ⟨u3,rfl,hr3,hb3⟩;have HR3:=Lib.hid hr3;have HU3:=Lib.hid (show RImg.ok u3 by obtain ⟨a,c,h⟩:=hr3.len;rw [h];rfl);have HB3:=Lib.hid (below_next HBW.out hb3);have HO3:=Lib.hid (HO2.out.of_new hb3);have HO83:=Lib.hid (HO82.out.of_new hb3);clear hr3 hb3)
    | ((with_reducible refine wpList_plain (o:=⟨some 16,Op.alloc _,_,_,_,_⟩) rfl fun K hK=>?_);(refine RImg.wp_alloc rfl fun w4 ho4 hb4 hs4=>hK _ _ ?_);have HO4:=Lib.hid ho4;have HB4:=Lib.hid hb4;clear ho4 hb4 hs4)
    | ((with_reducible refine wpList_plain (o:=⟨none,Op.store _ (.tmp 16) (.tmp 49),_,_,_,_⟩) rfl fun K hK=>?_);(refine HO4.out.store (.tmp 16) (.tmp 49) rfl rfl rfl HU3.out fun w5 ho5 hg5 hs5=>hK _ _ ?_);have hb5:=HB4.out.grown hg5 (by have:=HB4.out.size;omega) (fun k e=>by cases e;exact Nat.le_refl _);have HO16:=Lib.hid ho5;have HB5:=Lib.hid (below_next HB3.out hb5);have HO5:=Lib.hid (HO3.out.of_new hb5);have HDG5:=Lib.hid (HO83.out.of_new hb5).hash;have HR5:=Lib.hid (HR3.out.of_new hb5);clear ho5 hg5 hs5 hb5))
   go_wp2_with (first
    | ((with_reducible refine wpList_plain (o:=⟨some 54,Op.load _ _,_,_,_,_⟩) rfl fun K hK=>?_);(refine wp_load_at (ty:=31) (x:=.tmp 53) rfl rfl HDG5.out (hK _ _ ?_)))
    | ((with_reducible refine wpList_plain (o:=⟨some 55,Op.build _ _,_,_,_,_⟩) rfl fun K hK=>?_);(refine wp_build_m1 11 m.hash H32.out rfl rfl rfl (hK _ _ ?_)))
    | ((with_reducible refine wpList_plain (o:=⟨none,Op.store _ (.tmp 10) (.tmp 55),_,_,_,_⟩) rfl fun K hK=>?_);(refine wp_store_msg (.tmp 10) (.tmp 55) g10 (mk0 11 m.hash) msgZ sN sN rfl rfl rfl (msgR_0 _ 11 H32.out) HO5.out fun w6 ho6 hg6 hs6=>hK _ _ ?_);have HO6:=Lib.hid ho6;have HG6:=Lib.hid hg6;clear ho6 hg6 hs6))
   refine bodyPost_ret (results_msg3 rfl _ rfl rfl rfl HO6.out) rfl ?_
   rw [HT.out,HTE.out]
   have hbl:=HFIN.out _ _ HB5.out HG6.out
   exact ⟨sN,rfl,msgR_0 _ _ H32.out,HP.out.of_new hbl,RKept.of_below hbl,fun _=>hbl⟩
  | some xs=>
   have HTE:=Lib.hid (show tellL ⟨I.map plI,C.map plR,T⟩ m.hash = { mk0 10 m.hash with bytes:=(encG xs).getD [] } by unfold tellL;rw [HOE.out])
   go_upto_region 11 with (first
    | ((with_reducible refine wpList_plain (o:=⟨some 47,Op.load _ _,_,_,_,_⟩) rfl fun K hK=>?_);(refine wp_load_at (ty:=31) (x:=.tmp 46) rfl rfl HDG.out (hK _ _ ?_)))
    | (go_at_call 24;refine HIM.out.mono ?_;rintro e w3 ⟨u3,rfl,hr3,hb3⟩;have HR3:=Lib.hid hr3;have HU3:=Lib.hid (show RImg.ok u3 by obtain ⟨a,c,h⟩:=hr3.len;rw [h];rfl);have HB3:=Lib.hid (below_next HBW.out hb3);have HO3:=Lib.hid (HO2.out.of_new hb3);have HO83:=Lib.hid (HO82.out.of_new hb3);clear hr3 hb3)
    | ((with_reducible refine wpList_plain (o:=⟨some 16,Op.alloc _,_,_,_,_⟩) rfl fun K hK=>?_);(refine RImg.wp_alloc rfl fun w4 ho4 hb4 hs4=>hK _ _ ?_);have HO4:=Lib.hid ho4;have HB4:=Lib.hid hb4;clear ho4 hb4 hs4)
    | ((with_reducible refine wpList_plain (o:=⟨none,Op.store _ (.tmp 16) (.tmp 49),_,_,_,_⟩) rfl fun K hK=>?_);(refine HO4.out.store (.tmp 16) (.tmp 49) rfl rfl rfl HU3.out fun w5 ho5 hg5 hs5=>hK _ _ ?_);have hb5:=HB4.out.grown hg5 (by have:=HB4.out.size;omega) (fun k e=>by cases e;exact Nat.le_refl _);have HO16:=Lib.hid ho5;have HB5:=Lib.hid (below_next HB3.out hb5);have HO5:=Lib.hid (HO3.out.of_new hb5);have HDG5:=Lib.hid (HO83.out.of_new hb5).hash;have HR5:=Lib.hid (HR3.out.of_new hb5);clear ho5 hg5 hs5 hb5))
   go_upto_region 12 with (first
    | ((with_reducible refine wpList_plain (o:=⟨some 57,Op.load _ _,_,_,_,_⟩) rfl fun K hK=>?_);(refine HO16.out.at_.wp rfl rfl (hK _ _ ?_)))
    | (go_at_call 54;refine (REncImgO_any u3 xs _ HR5.out).mono ?_;rintro e w7 ⟨v7,rfl,hv7,hb7⟩;obtain ⟨a7,c7,hve⟩:=hv7.bytes.len;subst hve;have HV7:=Lib.hid hv7;have HS57:=Lib.hid HB5.out.size;have HB7:=Lib.hid (below_next HB5.out hb7);have HO7:=Lib.hid (HO5.out.of_new hb7);have HDG7:=Lib.hid (HDG5.out.of_new hb7);have HL5:=Lib.hid HO5.out.lt;clear hv7 hb7))
   obtain ⟨bs,hbs⟩:∃ bs,(encG xs).getD [] = bs:=⟨_,rfl⟩
   rw [hbs] at HV7 HTE ⊢
   clear hbs
   go_wp2_with (first
    | ((with_reducible refine wpList_plain (o:=⟨some 62,Op.load _ _,_,_,_,_⟩) rfl fun K hK=>?_);(refine wp_load_at (ty:=31) (x:=.tmp 61) rfl rfl HDG7.out (hK _ _ ?_)))
    | ((with_reducible refine wpList_plain (o:=⟨some 64,Op.build _ _,_,_,_,_⟩) rfl fun K hK=>?_);(refine wp_build_mB 10 m.hash (.slice a7 bs.length c7) bs H32.out rfl rfl rfl rfl rfl (hK _ _ ?_)))
    | ((with_reducible refine wpList_plain (o:=⟨none,Op.store _ (.tmp 10) (.tmp 64),_,_,_,_⟩) rfl fun K hK=>?_);(refine wp_store_msg (.tmp 10) (.tmp 64) g10 _ msgZ _ sN rfl rfl rfl (msgR_B 10 H32.out HV7.out.bytes) HO7.out fun w6 ho6 hg6 hs6=>hK _ _ ?_);have HO6:=Lib.hid ho6;have HG6:=Lib.hid hg6;clear ho6 hg6 hs6))
   refine bodyPost_ret (results_msg3 rfl _ rfl rfl rfl HO6.out) rfl ?_
   rw [HT.out,HTE.out]
   have hbl:=HFIN.out _ _ HB7.out HG6.out
   exact ⟨_,rfl,MsgR.keptHi (L:=g10 + 1) (msgR_B 10 H32.out HV7.out.bytes) (hi_B fun k hk=>by have:=(World.ownsRow.lt HV7.out k hk).1;have:=HL5.out;omega) HG6.out (by omega),HP.out.of_new hbl,RKept.of_below hbl,fun _=>hbl⟩
 have b9:(m.kind == 9) = false:=beq_eq_false_iff_ne.2 k9
 by_cases k3:m.kind = 3
 ·have HT:=Lib.hid (show takeO ⟨I.map plI,C.map plR,T⟩ many most life id now m seed = (⟨I.map plI,C.map plR,T⟩,giveL ⟨I.map plI,C.map plR,T⟩ m.hash m.piece,true,0) by rw [HTK.out,if_neg k9,if_pos k3])
  rw [k3] at hkd
  have HDG:=Lib.hid HO82.out.hash
  clear k9 b9 k3
  go_upto_region 15 with (first
   | ((with_reducible refine wpList_plain (o:=⟨some 69,Op.load _ _,_,_,_,_⟩) rfl fun K hK=>?_);(refine wp_load_at (ty:=31) (x:=.tmp 68) rfl rfl HDG.out (hK _ _ ?_)))
   | (go_at_call 63;refine (RBlobAt_any r rt many most life B v L T vi vb I C m.hash _ HQ.out HCL.out H32.out).mono ?_;rintro e w3 ⟨i,rfl,hi,hb3⟩;have HI:=Lib.hid hi;have HQ3:=Lib.hid (HQ.out.of_new hb3);have HB3:=Lib.hid (below_next HBW.out hb3);have HO3:=Lib.hid (HO2.out.of_new hb3);have HO83:=Lib.hid (HO82.out.of_new hb3);clear hi hb3))
  clear hkd
  rcases HI.out with ⟨rfl,hno⟩ | ⟨j,x,rfl,hx,hs⟩
  ·have HTE:=Lib.hid (show giveL ⟨I.map plI,C.map plR,T⟩ m.hash m.piece = chokeL m.hash m.piece from giveL_none hno)
   have HDGX:=Lib.hid HO83.out.hash
   have hpc:=HO83.out.piece
   have HOX:=HO3
   have HBX:=HB3
   clear hno
   go_wp2_with (first
    | ((with_reducible refine wpList_plain (o:=⟨some 98,Op.load _ _,_,_,_,_⟩) rfl fun K hK=>?_);(refine wp_load_at (ty:=31) (x:=.tmp 97) rfl rfl HDGX.out (hK _ _ ?_)))
    | ((with_reducible refine wpList_plain (o:=⟨some 101,Op.build _ _,_,_,_,_⟩) rfl fun K hK=>?_);(refine wp_build_m2 5 m.hash m.piece H32.out rfl rfl rfl rfl (hK _ _ ?_)))
    | ((with_reducible refine wpList_plain (o:=⟨none,Op.store _ (.tmp 10) (.tmp 101),_,_,_,_⟩) rfl fun K hK=>?_);(refine wp_store_msg (.tmp 10) (.tmp 101) g10 _ msgZ _ sN rfl rfl rfl (msgR_2 _ 5 m.piece H32.out) HOX.out fun wE hoE hgE hsE=>hK _ _ ?_);have HOEE:=Lib.hid hoE;have HGEE:=Lib.hid hgE;clear hoE hgE hsE))
   refine bodyPost_ret (results_msg3 rfl _ rfl rfl rfl HOEE.out) rfl ?_
   rw [HT.out,HTE.out]
   have hbl:=HFIN.out _ _ HBX.out HGEE.out
   exact ⟨sN,rfl,msgR_2 _ 5 m.piece H32.out,HP.out.of_new hbl,RKept.of_below hbl,fun _=>hbl⟩
  ·have hdig:x.1.1.dig = m.hash:=(contIn_mem hs).2
   have hcok:contOk (plR x):=HK.out.conts _ (contIn_mem hs).1
   have HCO:=Lib.hid (show contOk (x.1.1,x.2) from hcok)
   have HGS:=Lib.hid (giveL_some (S:=⟨I.map plI,C.map plR,T⟩) (i:=m.piece) (show contAt ⟨I.map plI,C.map plR,T⟩ m.hash = some (plR x) from hs))
   have hj:j < C.length:=(List.getElem?_eq_some_iff.1 hx).1
   obtain ⟨b0,off,c0,hv,hbl,hat⟩:=HQ3.out.blbs.row.at_ (by rw [List.length_map];omega)
   rw [List.length_map] at hv
   have hax:=hat j x.1 (by rw [List.getElem?_map,hx];rfl)
   have HAX:=Lib.hid (show RBlob.At w3 b0 (off + j * 67) x.1.1 from RRB_blob hax)
   have hval:w3.cell? ⟨b0,off + j * 67 + 66,none⟩ = some x.1.2:=RRB_val hax
   have HBY:=Lib.hid (HQ3.out.brow x (List.mem_of_getElem? hx)).bytes
   obtain ⟨ua,uc,hu⟩:=HBY.out.len
   have hc3:=HQ3.out.cell3
   rw [hv] at hc3
   rw [hu] at hval HBY
   obtain ⟨n,hn⟩:∃ n,C.length = n:=⟨_,rfl⟩
   rw [hn] at hc3 hj
   have hjj:(j:Int) < (n:Int):=by omega
   have hj0:(0:Int) ≤ (j:Int):=by omega
   have HLT3:=Lib.hid HO3.out.lt
   obtain ⟨gv,hgv⟩:∃ gv,giveR x.1.1 x.2 m.piece = gv:=⟨_,rfl⟩
   obtain ⟨mm,isb⟩:=gv
   have HGV:=Lib.hid hgv
   have HTE:=Lib.hid (show giveL ⟨I.map plI,C.map plR,T⟩ m.hash m.piece = if isb = true then mm else chokeL m.hash m.piece by
    rw [HGS.out]
    have h:=HGV.out
    unfold giveR at h
    show (if (spanZ x.1.1.size x.1.1.piece m.piece).2.2 = 0 then giveM m.hash x.1.1 x.2 m.piece else _) = _
    split
    ·rename_i h0
     rw [if_pos h0] at h
     cases h
     rw [hdig];rfl
    ·rename_i h0
     rw [if_neg h0] at h
     cases h
     rfl)
   clear hv hbl hat hax hx hs hu hn hdig hcok hgv HGS
   go_upto_region 16 with (fail)
   have hcv:=fun w' (h:Grew w3 w')=>Grew.cell h hc3
   have hby:=fun w' (h:Grew w3 w')=>Grew.cell h hval
   have hpc:=fun w' (h:Grew w3 w')=>Grew.cell h HO83.out.piece
   clear hc3 hval
   refine (wpIn_wide (n:=5)).1 ?_
   refine wpIn_region_steps (ro:=none) (C:=Grew w3) [19,20,21,23,24] [0,1,2,3,4,5,6,7,8,9,10,11,12,13,14,15,16,17] 7 (by kernel_rfl) (by kernel_rfl) (Grew.start _) (fun c a d v w h=>by cases d <;> exact h) ?_
   simp only [opsAt,List.flatMap_cons,List.flatMap_nil,List.getElem?_cons_zero,List.getElem?_cons_succ,Option.toList_some,List.cons_append,List.nil_append]
   go_simp
   repeat (first
    | (go_big_quiet_want;(refine RecT.At.quiet (R:=RBlob) (x:=x.1.1) (p:=.tmp 80) (fun w' hw'=>HAX.out.of_new hw') rfl rfl ?_);go_simp;go_big_quiet_on)
    | (go_big_quiet_want;(with_reducible apply quiet_load_at (ty:=31) (x:=.tmp _));rfl;rfl;assumption;go_simp;go_big_quiet_on)
    | (go_big_quiet_want;apply quiet_val;(intro w' hw';go_simp;first | done | rfl);go_simp;go_big_quiet_on)
    | (go_big_quiet_skip))
   refine wpQuiet_nil ?_
   intro w4 hw4
   cases isb with
   | true=>
    refine wpAnyS_two (by kernel_rfl) 18 22 rfl rfl rfl rfl (by kernel_rfl) ?_ ?_
    ·unfold StepS
     refine (wp_enter (f:=98) (args:=#[BlobV x.1.1,.slice ua x.2.length uc,.int .i64 m.piece]) (by go_simp <;> rfl) (RGive_any x.1.1 (.slice ua x.2.length uc) x.2 m.piece w4 HCO.out (HBY.out.of_new hw4) HMO.out.piece.1 HMO.out.piece.2) ?_)
     unfold GivePost
     rw [HGV.out]
     rintro e w5 ⟨s5,rfl,hr5,hi5,hb5⟩
     have hw5:Grew w3 w5:=below_next hw4 hb5
     refine ⟨_,rfl,hw5,?_⟩
     refine wpAnyS_pure (by kernel_rfl) (by kernel_rfl) (fun c a d v w h=>by cases d <;> exact h) 19 rfl (by kernel_rfl) ?_
     apply quiet_val
     ·intro w' hw';go_simp;first | done | rfl
     go_simp
     refine wpAnyS_pure (by kernel_rfl) (by kernel_rfl) (fun c a d v w h=>by cases d <;> exact h) 20 rfl (by kernel_rfl) ?_
     apply quiet_val
     ·intro w' hw';go_simp;first | done | rfl
     go_simp
     refine wpAnyS_pure (by kernel_rfl) (by kernel_rfl) (fun c a d v w h=>by cases d <;> exact h) 21 rfl (by kernel_rfl) ?_
     apply quiet_val
     ·intro w' hw';go_simp;first | done | rfl
     go_simp
     refine wpAnyS_one (by kernel_rfl) 22 rfl rfl (by kernel_rfl) ?_
     unfold StepS
     refine wp_alloc_msg rfl fun w6 hf6 hb6 hs6=>?_
     have hw6:Grew w3 w6:=below_next hw5 hb6
     refine ⟨hw6,?_⟩
     have hr6:=hr5.of_new hb6
     have h21:w3.heap.size ≤ w5.heap.size:=hw5.size
     have hbl7:=hb6
     obtain ⟨g21,hg21⟩:∃ g,w5.heap.size = g:=⟨_,rfl⟩
     have ho6:=hf6.o
     rw [hg21] at ho6 h21 ⊢
     refine wpAnyS_restI (fun _ _=>trivial) [23,24] _ _ _ (by decide) (by kernel_rfl) ?_
     simp only [opsAt,List.flatMap_cons,List.flatMap_nil,List.getElem?_cons_zero,List.getElem?_cons_succ,Option.toList_some,List.cons_append,List.nil_append]
     refine wpListIn_of_wp (ro:=none) rfl (fun c hc=>by cases hc) (wp_store_msg (.tmp 21) (.tmp 93) g21 mm msgZ s5 sN rfl rfl rfl hr6 ho6 ?_)
     intro w7 ho7 hg7 hs7
     have hr7:MsgR w7 mm s5:=hr5.of_new (hb6.grown hg7 (by have:=hb6.size;omega) (fun k e=>by cases e;omega))
     have hi7:Hi w3.heap.size s5:=hi5.mono hw4.size
     have hb7:Below w3.heap.size w3 w7:=hw6.grown hg7 (by have:=hw6.size;omega) (fun k e=>by cases e;exact h21)
     have HO21:=Lib.hid ho7
     have HR7:=Lib.hid hr7
     have HI7:=Lib.hid hi7
     have HBX:=Lib.hid (below_next HB3.out hb7)
     have HOX:=Lib.hid (HO3.out.of_new hb7)
     have HDGX:=Lib.hid (HO83.out.of_new hb7).hash
     clear hw4 hcv hby hpc hbl7
     simp only [Act.put]
     rw [wF_none]
     gi_wp2
     have HTE:=Lib.hid (HTE.out.trans (if_pos (by simp)))
     go_wp2_with (first
      | ((with_reducible refine wpList_plain (o:=⟨some 96,Op.load _ _,_,_,_,_⟩) rfl fun K hK=>?_);(refine wp_load_msg rfl rfl HO21.out (hK _ _ ?_)))
      | ((with_reducible refine wpList_plain (o:=⟨none,Op.store _ (.tmp 10) (.tmp 96),_,_,_,_⟩) rfl fun K hK=>?_);(refine wp_store_msg (.tmp 10) (.tmp 96) g10 mm msgZ s5 sN rfl rfl rfl HR7.out HOX.out fun wE hoE hgE hsE=>hK _ _ ?_);have HOEE:=Lib.hid hoE;have HGEE:=Lib.hid hgE;clear hoE hgE hsE))
     refine bodyPost_ret (results_msg3 rfl _ rfl rfl rfl HOEE.out) rfl ?_
     rw [HT.out,HTE.out]
     have hbl:=HFIN.out _ _ HBX.out HGEE.out
     exact ⟨s5,rfl,HR7.out.keptHi HI7.out HGEE.out HLT3.out,HP.out.of_new hbl,RKept.of_below hbl,fun _=>hbl⟩
    ·unfold StepS
     refine wp_alloc_msg rfl fun w5 hf5 hb5 hs5=>?_
     have hw5:Grew w3 w5:=below_next hw4 hb5
     refine ⟨hw5,?_⟩
     have h21:w3.heap.size ≤ w4.heap.size:=hw4.size
     obtain ⟨g21,hg21⟩:∃ g,w4.heap.size = g:=⟨_,rfl⟩
     have ho5:=hf5.o
     rw [hg21] at ho5 h21 ⊢
     have hlt5:=ho5.lt
     refine wpAnyS_one (by kernel_rfl) 18 rfl rfl (by kernel_rfl) ?_
     unfold StepS
     refine (wp_enter (f:=98) (args:=#[BlobV x.1.1,.slice ua x.2.length uc,.int .i64 m.piece]) (by go_simp <;> rfl) (RGive_any x.1.1 (.slice ua x.2.length uc) x.2 m.piece w5 HCO.out (HBY.out.of_new hw5) HMO.out.piece.1 HMO.out.piece.2) ?_)
     unfold GivePost
     rw [HGV.out]
     rintro e w6 ⟨s5,rfl,hr6,hi5,hb6⟩
     have hw6:Grew w3 w6:=below_next hw5 hb6
     refine ⟨_,rfl,hw6,?_⟩
     have ho6:=ho5.of_new hb6
     have hbl7:=hb6
     refine wpAnyS_pure (by kernel_rfl) (by kernel_rfl) (fun c a d v w h=>by cases d <;> exact h) 19 rfl (by kernel_rfl) ?_
     apply quiet_val
     ·intro w' hw';go_simp;first | done | rfl
     go_simp
     refine wpAnyS_pure (by kernel_rfl) (by kernel_rfl) (fun c a d v w h=>by cases d <;> exact h) 20 rfl (by kernel_rfl) ?_
     apply quiet_val
     ·intro w' hw';go_simp;first | done | rfl
     go_simp
     refine wpAnyS_pure (by kernel_rfl) (by kernel_rfl) (fun c a d v w h=>by cases d <;> exact h) 21 rfl (by kernel_rfl) ?_
     apply quiet_val
     ·intro w' hw';go_simp;first | done | rfl
     go_simp
     refine wpAnyS_restI (fun _ _=>trivial) [23,24] _ _ _ (by decide) (by kernel_rfl) ?_
     simp only [opsAt,List.flatMap_cons,List.flatMap_nil,List.getElem?_cons_zero,List.getElem?_cons_succ,Option.toList_some,List.cons_append,List.nil_append]
     refine wpListIn_of_wp (ro:=none) rfl (fun c hc=>by cases hc) (wp_store_msg (.tmp 21) (.tmp 93) g21 mm msgZ s5 sN rfl rfl rfl hr6 ho6 ?_)
     intro w7 ho7 hg7 hs7
     have hr7:MsgR w7 mm s5:=hr6.keptHi hi5 hg7 hlt5
     have hi7:Hi w3.heap.size s5:=hi5.mono hw5.size
     have hb7:Below w3.heap.size w3 w7:=hw6.grown hg7 (by have:=hw6.size;omega) (fun k e=>by cases e;exact h21)
     have HO21:=Lib.hid ho7
     have HR7:=Lib.hid hr7
     have HI7:=Lib.hid hi7
     have HBX:=Lib.hid (below_next HB3.out hb7)
     have HOX:=Lib.hid (HO3.out.of_new hb7)
     have HDGX:=Lib.hid (HO83.out.of_new hb7).hash
     clear hw4 hcv hby hpc hbl7
     simp only [Act.put]
     rw [wF_none]
     gi_wp2
     have HTE:=Lib.hid (HTE.out.trans (if_pos (by simp)))
     go_wp2_with (first
      | ((with_reducible refine wpList_plain (o:=⟨some 96,Op.load _ _,_,_,_,_⟩) rfl fun K hK=>?_);(refine wp_load_msg rfl rfl HO21.out (hK _ _ ?_)))
      | ((with_reducible refine wpList_plain (o:=⟨none,Op.store _ (.tmp 10) (.tmp 96),_,_,_,_⟩) rfl fun K hK=>?_);(refine wp_store_msg (.tmp 10) (.tmp 96) g10 mm msgZ s5 sN rfl rfl rfl HR7.out HOX.out fun wE hoE hgE hsE=>hK _ _ ?_);have HOEE:=Lib.hid hoE;have HGEE:=Lib.hid hgE;clear hoE hgE hsE))
     refine bodyPost_ret (results_msg3 rfl _ rfl rfl rfl HOEE.out) rfl ?_
     rw [HT.out,HTE.out]
     have hbl:=HFIN.out _ _ HBX.out HGEE.out
     exact ⟨s5,rfl,HR7.out.keptHi HI7.out HGEE.out HLT3.out,HP.out.of_new hbl,RKept.of_below hbl,fun _=>hbl⟩
   | false=>
    refine wpAnyS_two (by kernel_rfl) 18 22 rfl rfl rfl rfl (by kernel_rfl) ?_ ?_
    ·unfold StepS
     refine (wp_enter (f:=98) (args:=#[BlobV x.1.1,.slice ua x.2.length uc,.int .i64 m.piece]) (by go_simp <;> rfl) (RGive_any x.1.1 (.slice ua x.2.length uc) x.2 m.piece w4 HCO.out (HBY.out.of_new hw4) HMO.out.piece.1 HMO.out.piece.2) ?_)
     unfold GivePost
     rw [HGV.out]
     rintro e w5 ⟨s5,rfl,hr5,hi5,hb5⟩
     have hw5:Grew w3 w5:=below_next hw4 hb5
     refine ⟨_,rfl,hw5,?_⟩
     refine wpAnyS_pure (by kernel_rfl) (by kernel_rfl) (fun c a d v w h=>by cases d <;> exact h) 19 rfl (by kernel_rfl) ?_
     apply quiet_val
     ·intro w' hw';go_simp;first | done | rfl
     go_simp
     refine wpAnyS_pure (by kernel_rfl) (by kernel_rfl) (fun c a d v w h=>by cases d <;> exact h) 20 rfl (by kernel_rfl) ?_
     apply quiet_val
     ·intro w' hw';go_simp;first | done | rfl
     go_simp
     refine wpAnyS_pure (by kernel_rfl) (by kernel_rfl) (fun c a d v w h=>by cases d <;> exact h) 21 rfl (by kernel_rfl) ?_
     apply quiet_val
     ·intro w' hw';go_simp;first | done | rfl
     go_simp
     refine wpAnyS_one (by kernel_rfl) 22 rfl rfl (by kernel_rfl) ?_
     unfold StepS
     refine wp_alloc_msg rfl fun w6 hf6 hb6 hs6=>?_
     have hw6:Grew w3 w6:=below_next hw5 hb6
     refine ⟨hw6,?_⟩
     have hr6:=hr5.of_new hb6
     have h21:w3.heap.size ≤ w5.heap.size:=hw5.size
     have hbl7:=hb6
     obtain ⟨g21,hg21⟩:∃ g,w5.heap.size = g:=⟨_,rfl⟩
     have ho6:=hf6.o
     rw [hg21] at ho6 h21 ⊢
     refine wpAnyS_restI (fun _ _=>trivial) [23,24] _ _ _ (by decide) (by kernel_rfl) ?_
     simp only [opsAt,List.flatMap_cons,List.flatMap_nil,List.getElem?_cons_zero,List.getElem?_cons_succ,Option.toList_some,List.cons_append,List.nil_append]
     refine wpListIn_of_wp (ro:=none) rfl (fun c hc=>by cases hc) (wp_store_msg (.tmp 21) (.tmp 93) g21 mm msgZ s5 sN rfl rfl rfl hr6 ho6 ?_)
     intro w7 ho7 hg7 hs7
     have hr7:MsgR w7 mm s5:=hr5.of_new (hb6.grown hg7 (by have:=hb6.size;omega) (fun k e=>by cases e;omega))
     have hi7:Hi w3.heap.size s5:=hi5.mono hw4.size
     have hb7:Below w3.heap.size w3 w7:=hw6.grown hg7 (by have:=hw6.size;omega) (fun k e=>by cases e;exact h21)
     have HO21:=Lib.hid ho7
     have HR7:=Lib.hid hr7
     have HI7:=Lib.hid hi7
     have HBX:=Lib.hid (below_next HB3.out hb7)
     have HOX:=Lib.hid (HO3.out.of_new hb7)
     have HDGX:=Lib.hid (HO83.out.of_new hb7).hash
     clear hw4 hcv hby hpc hbl7
     simp only [Act.put]
     rw [wF_none]
     gi_wp2
     have HTE:=Lib.hid (HTE.out.trans (if_neg (by simp)))
     have hpc:=HO83.out.of_new hb7 |>.piece
     go_wp2_with (first
      | ((with_reducible refine wpList_plain (o:=⟨some 98,Op.load _ _,_,_,_,_⟩) rfl fun K hK=>?_);(refine wp_load_at (ty:=31) (x:=.tmp 97) rfl rfl HDGX.out (hK _ _ ?_)))
      | ((with_reducible refine wpList_plain (o:=⟨some 101,Op.build _ _,_,_,_,_⟩) rfl fun K hK=>?_);(refine wp_build_m2 5 m.hash m.piece H32.out rfl rfl rfl rfl (hK _ _ ?_)))
      | ((with_reducible refine wpList_plain (o:=⟨none,Op.store _ (.tmp 10) (.tmp 101),_,_,_,_⟩) rfl fun K hK=>?_);(refine wp_store_msg (.tmp 10) (.tmp 101) g10 _ msgZ _ sN rfl rfl rfl (msgR_2 _ 5 m.piece H32.out) HOX.out fun wE hoE hgE hsE=>hK _ _ ?_);have HOEE:=Lib.hid hoE;have HGEE:=Lib.hid hgE;clear hoE hgE hsE))
     refine bodyPost_ret (results_msg3 rfl _ rfl rfl rfl HOEE.out) rfl ?_
     rw [HT.out,HTE.out]
     have hbl:=HFIN.out _ _ HBX.out HGEE.out
     exact ⟨sN,rfl,msgR_2 _ 5 m.piece H32.out,HP.out.of_new hbl,RKept.of_below hbl,fun _=>hbl⟩
    ·unfold StepS
     refine wp_alloc_msg rfl fun w5 hf5 hb5 hs5=>?_
     have hw5:Grew w3 w5:=below_next hw4 hb5
     refine ⟨hw5,?_⟩
     have h21:w3.heap.size ≤ w4.heap.size:=hw4.size
     obtain ⟨g21,hg21⟩:∃ g,w4.heap.size = g:=⟨_,rfl⟩
     have ho5:=hf5.o
     rw [hg21] at ho5 h21 ⊢
     have hlt5:=ho5.lt
     refine wpAnyS_one (by kernel_rfl) 18 rfl rfl (by kernel_rfl) ?_
     unfold StepS
     refine (wp_enter (f:=98) (args:=#[BlobV x.1.1,.slice ua x.2.length uc,.int .i64 m.piece]) (by go_simp <;> rfl) (RGive_any x.1.1 (.slice ua x.2.length uc) x.2 m.piece w5 HCO.out (HBY.out.of_new hw5) HMO.out.piece.1 HMO.out.piece.2) ?_)
     unfold GivePost
     rw [HGV.out]
     rintro e w6 ⟨s5,rfl,hr6,hi5,hb6⟩
     have hw6:Grew w3 w6:=below_next hw5 hb6
     refine ⟨_,rfl,hw6,?_⟩
     have ho6:=ho5.of_new hb6
     have hbl7:=hb6
     refine wpAnyS_pure (by kernel_rfl) (by kernel_rfl) (fun c a d v w h=>by cases d <;> exact h) 19 rfl (by kernel_rfl) ?_
     apply quiet_val
     ·intro w' hw';go_simp;first | done | rfl
     go_simp
     refine wpAnyS_pure (by kernel_rfl) (by kernel_rfl) (fun c a d v w h=>by cases d <;> exact h) 20 rfl (by kernel_rfl) ?_
     apply quiet_val
     ·intro w' hw';go_simp;first | done | rfl
     go_simp
     refine wpAnyS_pure (by kernel_rfl) (by kernel_rfl) (fun c a d v w h=>by cases d <;> exact h) 21 rfl (by kernel_rfl) ?_
     apply quiet_val
     ·intro w' hw';go_simp;first | done | rfl
     go_simp
     refine wpAnyS_restI (fun _ _=>trivial) [23,24] _ _ _ (by decide) (by kernel_rfl) ?_
     simp only [opsAt,List.flatMap_cons,List.flatMap_nil,List.getElem?_cons_zero,List.getElem?_cons_succ,Option.toList_some,List.cons_append,List.nil_append]
     refine wpListIn_of_wp (ro:=none) rfl (fun c hc=>by cases hc) (wp_store_msg (.tmp 21) (.tmp 93) g21 mm msgZ s5 sN rfl rfl rfl hr6 ho6 ?_)
     intro w7 ho7 hg7 hs7
     have hr7:MsgR w7 mm s5:=hr6.keptHi hi5 hg7 hlt5
     have hi7:Hi w3.heap.size s5:=hi5.mono hw5.size
     have hb7:Below w3.heap.size w3 w7:=hw6.grown hg7 (by have:=hw6.size;omega) (fun k e=>by cases e;exact h21)
     have HO21:=Lib.hid ho7
     have HR7:=Lib.hid hr7
     have HI7:=Lib.hid hi7
     have HBX:=Lib.hid (below_next HB3.out hb7)
     have HOX:=Lib.hid (HO3.out.of_new hb7)
     have HDGX:=Lib.hid (HO83.out.of_new hb7).hash
     clear hw4 hcv hby hpc hbl7
     simp only [Act.put]
     rw [wF_none]
     gi_wp2
     have HTE:=Lib.hid (HTE.out.trans (if_neg (by simp)))
     have hpc:=HO83.out.of_new hb7 |>.piece
     go_wp2_with (first
      | ((with_reducible refine wpList_plain (o:=⟨some 98,Op.load _ _,_,_,_,_⟩) rfl fun K hK=>?_);(refine wp_load_at (ty:=31) (x:=.tmp 97) rfl rfl HDGX.out (hK _ _ ?_)))
      | ((with_reducible refine wpList_plain (o:=⟨some 101,Op.build _ _,_,_,_,_⟩) rfl fun K hK=>?_);(refine wp_build_m2 5 m.hash m.piece H32.out rfl rfl rfl rfl (hK _ _ ?_)))
      | ((with_reducible refine wpList_plain (o:=⟨none,Op.store _ (.tmp 10) (.tmp 101),_,_,_,_⟩) rfl fun K hK=>?_);(refine wp_store_msg (.tmp 10) (.tmp 101) g10 _ msgZ _ sN rfl rfl rfl (msgR_2 _ 5 m.piece H32.out) HOX.out fun wE hoE hgE hsE=>hK _ _ ?_);have HOEE:=Lib.hid hoE;have HGEE:=Lib.hid hgE;clear hoE hgE hsE))
     refine bodyPost_ret (results_msg3 rfl _ rfl rfl rfl HOEE.out) rfl ?_
     rw [HT.out,HTE.out]
     have hbl:=HFIN.out _ _ HBX.out HGEE.out
     exact ⟨sN,rfl,msgR_2 _ 5 m.piece H32.out,HP.out.of_new hbl,RKept.of_below hbl,fun _=>hbl⟩
 have b3:(m.kind == 3) = false:=beq_eq_false_iff_ne.2 k3
 by_cases k6:m.kind = 6
 ·have HT:=Lib.hid (show takeO ⟨I.map plI,C.map plR,T⟩ many most life id now m seed = (annS ⟨I.map plI,C.map plR,T⟩ many most life m.hash id now m.seed,askS (annS ⟨I.map plI,C.map plR,T⟩ many most life m.hash id now m.seed) m.hash id seed,true,0) by rw [HTK.out,if_neg k9,if_neg k3,if_pos k6])
  have HK66:=Lib.hid k6
  rw [k6] at hkd
  clear k9 b9 k3 b3 k6
  have hdg:DigAt w2 g8 1 m.hash:=HO82.out.hash
  have hc0:=fun w' (h:Grew w2 w')=>Grew.cell h HQ.out.cell0
  have hc1:=fun w' (h:Grew w2 w')=>Grew.cell h HQ.out.cell1
  have hsdc:=fun w' (h:Grew w2 w')=>Grew.cell h HO82.out.seed
  go_upto_region 21 with (fail)
  refine (wpIn_wide (n:=5)).1 ?_
  refine wpIn_region_mix (ro:=none) (C:=Grew w2) [0,1,2,3,4,5,6,7,8,9,10,11,12,13] [] [14] (by kernel_rfl) (by kernel_rfl) (Grew.start _) (fun c a d v w h=>by cases d <;> exact h) ?_
  simp only [opsAt,List.flatMap_cons,List.flatMap_nil,List.getElem?_cons_zero,List.getElem?_cons_succ,Option.toList_some,List.cons_append,List.nil_append]
  go_simp
  repeat (first
   | (go_big_quiet_want;(with_reducible apply quiet_load_at (ty:=31) (x:=.tmp _));rfl;rfl;assumption;go_simp;go_big_quiet_on)
   | (go_big_quiet_want;apply quiet_val;(intro w' hw';go_simp;first | done | rfl);go_simp;go_big_quiet_on)
   | (go_big_quiet_skip))
  refine wpQuiet_nil ?_
  intro w3 hw3
  refine LateL.nil ?_
  refine wpListIn_of_wp (ro:=none) rfl (fun c hc=>by cases hc) (wp_enter (f:=99) (args:=#[.pointer (some ⟨rt,0,none⟩),.agg (m.hash.map B8).toArray,.int .i64 id,.int .i64 now,.int .i64 life,.bool m.seed]) (by go_simp <;> rfl) (RAnnounce_any rt many most B v L T m.hash id now life m.seed w3 (HQ.out.of_new hw3).tab HK.out.tab hm he H32.out) ?_)
  unfold RPost
  rintro e w4 ⟨v4,L4,rfl,hT4,hs4⟩
  refine ⟨_,rfl,?_⟩
  obtain ⟨T4,hT4e⟩:∃ T4,(annT many most T m.hash id now life m.seed).1 = T4:=⟨_,rfl⟩
  have hok4:TabOk many most T4:=by rw [← hT4e];exact HK.out.tab.ann hm.1 he.1 H32.out id now life m.seed
  rw [hT4e] at hT4
  obtain ⟨hq4,hk4⟩:=(HQ.out.of_new hw3).table hT4 hs4
  have ho84:MsgO w4 g8 m s:=(HO82.out.of_new hw3).ref_step (HQ.out.of_new hw3).tab hs4
  have ho104:MsgO w4 g10 msgZ sN:=(HO2.out.of_new hw3).ref_step (HQ.out.of_new hw3).tab hs4
  have HQ4:=Lib.hid hq4
  have HOK4:=Lib.hid hok4
  have HT4E:=Lib.hid hT4e
  have HK4:=Lib.hid ((RKept.of_below (below_next HBW.out hw3)).trans hk4)
  have HO10:=Lib.hid ho104
  have HLT4:=Lib.hid ho104.lt
  have hdg:DigAt w4 g8 1 m.hash:=ho84.hash
  have hc0:=fun w' (h:Grew w4 w')=>Grew.cell h hq4.cell0
  clear hc1 hsdc hw3 hq4 hk4 hs4 hT4 hT4e hok4 ho84 ho104
  simp only [Act.put]
  rw [wF_none]
  gi_wp2
  go_upto_region 22 with (fail)
  refine (wpIn_wide (n:=5)).1 ?_
  refine wpIn_region_mix (ro:=none) (C:=Grew w4) [0,1,2,3,4,5,6,7,8,9] [10] [11,12,13,14] (by kernel_rfl) (by kernel_rfl) (Grew.start _) (fun c a d v w h=>by cases d <;> exact h) ?_
  simp only [opsAt,List.flatMap_cons,List.flatMap_nil,List.getElem?_cons_zero,List.getElem?_cons_succ,Option.toList_some,List.cons_append,List.nil_append]
  go_simp
  repeat (first
   | (go_big_quiet_want;(with_reducible apply quiet_load_at (ty:=31) (x:=.tmp _));rfl;rfl;assumption;go_simp;go_big_quiet_on)
   | (go_big_quiet_want;apply quiet_val;(intro w' hw';go_simp;first | done | rfl);go_simp;go_big_quiet_on)
   | (go_big_quiet_skip))
  refine wpQuiet_nil ?_
  intro w5 hw5
  refine LateL.cons rfl (wp_enter (f:=100) (args:=#[.pointer (some ⟨rt,0,none⟩),.agg (m.hash.map B8).toArray,.int .i64 id,.int .i64 8,.int .u64 (seed:Int)]) (by go_simp <;> rfl) (RAskO_any rt many most B v4 L4 T4 m.hash id 8 seed w5 (HQ4.out.of_new hw5).tab HOK4.out hm he H32.out hsd) ?_)
  rintro e w6 ⟨v6,rfl,hi6,hb6,ho6⟩
  have hw6:Grew w4 w6:=below_next hw5 hb6
  refine ⟨_,rfl,hw6,?_⟩
  refine LateL.nil ?_
  rw [wF_none]
  obtain ⟨l6,hl6⟩:∃ l6,sampleL seed (othersL (peersT m.hash T4) id) 8 = l6:=⟨_,rfl⟩
  have HL6:=Lib.hid hl6
  rw [hl6] at hi6
  obtain ⟨a6,c6,hv6⟩:=hi6.len
  subst hv6
  have HI6:=Lib.hid hi6
  have HOB6:=Lib.hid (fun q hq=>Nat.le_trans hw5.size (ho6 q hq))
  have HO106:=Lib.hid (HO10.out.of_new hw6)
  have HQ6:=Lib.hid (HQ4.out.of_new hw6)
  have HK6:=Lib.hid (HK4.out.new hw6)
  clear hw5 hw6 hi6 ho6 hb6 hdg hc0 hl6
  refine wpListIn_of_wp (ro:=none) rfl (fun c hc=>by cases hc) (wp_build_mI 7 m.hash (.slice a6 l6.length c6) l6 H32.out rfl rfl rfl rfl rfl ?_)
  refine wpListIn_of_wp (ro:=none) rfl (fun c hc=>by cases hc) (wp_store_msg (.tmp 10) (.tmp 130) g10 _ msgZ _ sN rfl rfl rfl (msgR_I 7 H32.out HI6.out) HO106.out ?_)
  intro w9 ho9 hg9 hs9
  have HO9:=Lib.hid ho9
  have HG9:=Lib.hid hg9
  clear ho9 hg9 hs9
  simp only [Act.put]
  rw [wF_none]
  gi_wp2
  go_wp2
  refine bodyPost_ret (results_msg3 rfl _ rfl rfl rfl HO9.out) rfl ?_
  have hask:askS (annS ⟨I.map plI,C.map plR,T⟩ many most life m.hash id now m.seed) m.hash id seed = { mk0 7 m.hash with ids:=l6 }:=by
   unfold askS annS
   rw [← HL6.out,← HT4E.out]
  rw [HT.out,hask]
  refine ⟨{ sN with vi:=.slice a6 l6.length c6 },rfl,MsgR.keptHi (msgR_I 7 H32.out HI6.out) (hi_I HOB6.out) HG9.out HLT4.out,⟨rt,v4,L4,T4,vi,vb,I,C,HQ6.out.kept_msg HO106.out HG9.out,?_⟩,Kept.fresh HK6.out HG9.out HZ2.out.2.1,fun h=>absurd HK66.out h⟩
  unfold annS
  rw [HT4E.out]
 have b6:(m.kind == 6) = false:=beq_eq_false_iff_ne.2 k6
 have HT:=Lib.hid (show takeO ⟨I.map plI,C.map plR,T⟩ many most life id now m seed = (⟨I.map plI,C.map plR,T⟩,msgN,false,0) by rw [HTK.out,if_neg k9,if_neg k3,if_neg k6])
 clear k9 k3 k6
 go_wp2_with (first
  | ((with_reducible refine wpList_plain (o:=⟨some 131,Op.build _ _,_,_,_,_⟩) rfl fun K hK=>?_);(refine wp_val (v:=MsgV msgZ sN) (by unfold execOp;simp only [List.map_toArray,List.map_nil,build_msg,Sem.run_bind,Result.andThen_ok,Sem.run_pure]) (hK _ _ ?_)))
  | ((with_reducible refine wpList_plain (o:=⟨none,Op.store _ (.tmp 10) (.tmp 131),_,_,_,_⟩) rfl fun K hK=>?_);(refine wp_store_msg (.tmp 10) (.tmp 131) g10 msgZ msgZ sN sN rfl rfl rfl (msgR_zero _) HO2.out fun w6 ho6 hg6 hs6=>hK _ _ ?_);have HO6:=Lib.hid ho6;have HG6:=Lib.hid hg6;clear ho6 hg6 hs6))
 refine bodyPost_ret (results_msg3 rfl _ rfl rfl rfl HO6.out) rfl ?_
 rw [HT.out]
 have hbl:=HFIN.out _ _ HBW.out HG6.out
 exact ⟨sN,rfl,msgR_zero _,HP.out.of_new hbl,RKept.of_below hbl,fun _=>hbl⟩
end Go.Proofs.YtnohglkilpnjhaaGreatDoor

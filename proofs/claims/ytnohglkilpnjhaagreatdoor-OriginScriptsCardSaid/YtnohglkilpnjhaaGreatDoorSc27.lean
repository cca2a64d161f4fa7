/- Lemmas that the statement of this claim leans on; their own comments are taken out, for the size of the claim. No condition beyond what each lemma states. -/
import Derived.Test.YtnohglkilpnjhaaGreatDoorSc26
set_option linter.unusedVariables false
set_option linter.unusedSimpArgs false
set_option linter.unusedSectionVars false
namespace Go.Proofs.YtnohglkilpnjhaaGreatDoor
open Go.RowKit
set_option maxRecDepth 100000
set_option maxHeartbeats 3200000 in
theorem OTell_any (o:Nat) (most each life:Int) (S:OrgL) (F:Nat→Prop) (d:List UInt8) (w:World) (hO:OrgP w o most each life S F) (h32:d.length = 32) :
  Calls Tryz.prog 39 #[.pointer (some ⟨o,0,none⟩),.agg (d.map B8).toArray] w (MsgPost w (tellL S d)):=by
 obtain ⟨t,mb,im,bm,E,I,C,hq,rfl,rfl⟩:=hO
 obtain ⟨W,hW⟩:∃ W,w.alloc (.cells (d.map B8).toArray 31) = W:=⟨_,rfl⟩
 have ho:DigO W w.heap.size d:=by rw [← hW];exact digO_new w h32
 have hb:Below w.heap.size w W:=by rw [← hW];exact (Below.refl _ w).alloc (Nat.le_refl _) _
 have hqW:=hq.of_new hb
 obtain ⟨v,xs,is,hi,hv,hz,hl⟩:=hqW.look_img h32
 have HW:=Lib.hid hW
 have HO:=Lib.hid ho
 have HB:=Lib.hid hb
 have HQ:=Lib.hid hqW
 have H32:=Lib.hid h32
 have HI:=Lib.hid hi
 have HV:=Lib.hid hv
 have HL:=Lib.hid hl
 clear hq hW ho hb hqW h32 hi hv hz hl
 go_enter Tryz.func39,Tryz.ntmps39
 go_upto_region 1 with ((with_reducible refine wpList_plain (o:=⟨some 4,Op.alloc _,_,_,_,_⟩) rfl fun K hK=>?_);(refine wp_alloc_msg rfl fun w1 ho1 hb1 hs1=>hK _ _ ?_);rw [HW.out] at ho1 hb1 hs1 ⊢;have HO1:=Lib.hid ho1.o;have HB1:=Lib.hid hb1;clear ho1 hb1 hs1)
 obtain ⟨g3,hg3⟩:∃ g,w.heap.size = g:=⟨_,rfl⟩
 have HG3:=Lib.hid hg3
 rw [hg3] at HO ⊢
 obtain ⟨g4,hg4⟩:∃ g,W.heap.size = g:=⟨_,rfl⟩
 have HG4:=Lib.hid hg4
 rw [hg4] at HO1 ⊢
 clear hg3 hg4
 have hc2:=fun w' (h:Grew w1 w')=>Grew.cell h (HQ.out.of_new HB1.out).cell2
 have hdg:DigAt w1 g3 0 d:=(HO.out.of_new HB1.out).at_
 have hl:=fun w' (h:Grew w1 w')=>HL.out w' (below_next HB1.out h)
 refine (wpIn_wide (n:=5)).1 ?_
 refine wpIn_region_mix2 (ro:=none) (C:=Grew w1) [0,1,2,3,4,5,6] [7,8] [9] [10,11] (by kernel_rfl) (by kernel_rfl) (Grew.start _) (fun c a d v w h=>by cases d <;> exact h) ?_
 simp only [opsAt,List.flatMap_cons,List.flatMap_nil,List.getElem?_cons_zero,List.getElem?_cons_succ,Option.toList_some,List.cons_append,List.nil_append]
 go_simp
 repeat (first
  | (go_big_quiet_want;(with_reducible apply quiet_load_at (ty:=31) (x:=.tmp _));rfl;rfl;assumption;go_simp;go_big_quiet_on)
  | (go_big_quiet_want;apply quiet_val;(intro w' hw';go_simp;first | done | rfl);go_simp;go_big_quiet_on)
  | (go_big_quiet_skip))
 refine wpQuiet_nil ?_
 repeat (first
  | (go_big_quiet_want;apply quiet_val;(intro w' hw';go_simp;first | done | rfl);go_simp;go_big_quiet_on)
  | (go_big_quiet_skip))
 refine wpQuiet_nil ?_
 intro w2 hw2
 refine LateL.cons rfl (RImg.wp_alloc rfl ?_)
 intro w3 ho3 hb3 hs3
 have hw3:Grew w1 w3:=below_next hw2 hb3
 refine ⟨hw3,?_⟩
 refine LateL.nil ?_
 rw [wF_none]
 have hvok:RImg.ok v:=by obtain ⟨a,c,h⟩:=HV.out.row.len;rw [h];rfl
 refine wpListIn_of_wp (ro:=none) rfl (fun c hc=>by cases hc) (ho3.store (x:=v) (.tmp 5) (.tmp 16) rfl rfl rfl hvok ?_)
 intro w4 ho4 hg4 hs4
 have hb4:Below w1.heap.size w1 w4:=hw3.grown hg4 (by have:=hw3.size;omega) (fun k e=>by cases e;exact hw2.size)
 obtain ⟨g5,hg5⟩:∃ g,w2.heap.size = g:=⟨_,rfl⟩
 rw [hg5] at ho4 ⊢
 have HO5:=Lib.hid ho4
 have HB4:=Lib.hid (below_next HB1.out hb4)
 have HM4:=Lib.hid (HO1.out.of_new hb4)
 have HD4:=Lib.hid (HO.out.of_new (below_next HB1.out hb4)).at_
 have HV4:=Lib.hid (HV.out.of_new (below_next HB1.out hb4))
 clear hl hc2 hdg hw2 ho3 hb3 hs3 hw3 hvok ho4 hg4 hs4 hb4 hg5
 simp only [Act.put]
 rw [wF_none]
 gi_wp2
 cases is with
 | false=>
  have HT:=Lib.hid (show tellL ⟨I.map plI,C.map plC,tabOf E⟩ d = mk0 11 d by unfold tellL;rw [HI.out];rfl)
  go_wp2_with (first
   | ((with_reducible refine wpList_plain (o:=⟨some 20,Op.load _ _,_,_,_,_⟩) rfl fun K hK=>?_);(refine wp_load_at (ty:=31) (x:=.tmp 3) rfl rfl HD4.out (hK _ _ ?_)))
   | ((with_reducible refine wpList_plain (o:=⟨some 21,Op.build _ _,_,_,_,_⟩) rfl fun K hK=>?_);(refine wp_build_m1 11 d H32.out rfl rfl rfl (hK _ _ ?_)))
   | ((with_reducible refine wpList_plain (o:=⟨none,Op.store _ (.tmp 4) (.tmp 21),_,_,_,_⟩) rfl fun K hK=>?_);(refine wp_store_msg (.tmp 4) (.tmp 21) g4 (mk0 11 d) msgZ sN sN rfl rfl rfl (msgR_0 _ 11 H32.out) HM4.out fun w6 ho6 hg6 hs6=>hK _ _ ?_);have HO6:=Lib.hid ho6;have HG6:=Lib.hid hg6;clear ho6 hg6 hs6))
  refine bodyPost_ret (results_msg1 rfl _ rfl HO6.out) rfl ?_
  rw [HT.out]
  exact ⟨sN,rfl,msgR_0 _ _ H32.out,hi_sN _,(below_next HB.out HB4.out).grown HG6.out (by have:=HB.out.size;have:=HB4.out.size;omega) (fun k e=>by cases e;have:=HG4.out;have:=HB.out.size;omega)⟩
 | true=>
  have HT:=Lib.hid (show tellL ⟨I.map plI,C.map plC,tabOf E⟩ d = { mk0 10 d with bytes:=(encG xs).getD [] } by unfold tellL;rw [HI.out];rfl)
  go_upto_region 5 with (first
   | ((with_reducible refine wpList_plain (o:=⟨some 23,Op.load _ _,_,_,_,_⟩) rfl fun K hK=>?_);(refine HO5.out.at_.wp rfl rfl (hK _ _ ?_)))
   | (go_at_call 77;refine (EncImgO_any v xs _ HV4.out.row).mono ?_;rintro e w5 ⟨v5,rfl,hv5,hb5⟩;obtain ⟨a5,c5,hve⟩:=hv5.bytes.len;subst hve;have HV5:=Lib.hid hv5;have HB5:=Lib.hid (below_next HB4.out hb5);have HM5:=Lib.hid (HM4.out.of_new hb5);have HD5:=Lib.hid (HD4.out.of_new hb5);clear hv5 hb5))
  obtain ⟨bs,hbs⟩:∃ bs,(encG xs).getD [] = bs:=⟨_,rfl⟩
  rw [hbs] at HV5 HT ⊢
  clear hbs
  go_wp2_with (first
   | ((with_reducible refine wpList_plain (o:=⟨some 27,Op.load _ _,_,_,_,_⟩) rfl fun K hK=>?_);(refine wp_load_at (ty:=31) (x:=.tmp 3) rfl rfl HD5.out (hK _ _ ?_)))
   | ((with_reducible refine wpList_plain (o:=⟨some 29,Op.build _ _,_,_,_,_⟩) rfl fun K hK=>?_);(refine wp_build_mB 10 d (.slice a5 bs.length c5) bs H32.out rfl rfl rfl rfl rfl (hK _ _ ?_)))
   | ((with_reducible refine wpList_plain (o:=⟨none,Op.store _ (.tmp 4) (.tmp 29),_,_,_,_⟩) rfl fun K hK=>?_);(refine wp_store_msg (.tmp 4) (.tmp 29) g4 _ msgZ _ sN rfl rfl rfl (msgR_B 10 H32.out HV5.out.bytes) HM5.out fun w6 ho6 hg6 hs6=>hK _ _ ?_);have HO6:=Lib.hid ho6;have HG6:=Lib.hid hg6;clear ho6 hg6 hs6))
  refine bodyPost_ret (results_msg1 rfl _ rfl HO6.out) rfl ?_
  rw [HT.out]
  refine ⟨_,rfl,msgR_B 10 H32.out (Row.of_kept HV5.out.bytes HG6.out (fun k hk e=>?_)),hi_B (fun k hk=>by have:=(World.ownsRow.lt HV5.out k hk).1;have:=HB.out.size;have:=HB4.out.size;omega),(below_next HB.out HB5.out).grown HG6.out (by have:=HB.out.size;have:=HB5.out.size;omega) (fun k e=>by cases e;have:=HG4.out;have:=HB.out.size;omega)⟩
  have:=(World.ownsRow.lt HV5.out k hk).1
  cases e
  have:=HM4.out.lt
  omega
theorem blob_at {w:World} {g:Nat} {x:ContV} (h:RCont.O w g x):RBlob.At w g 0 x.blob:=RCont_blob h.at_
theorem infoU8':∃ i,Tryz.prog.info? 5 = some i∧i.size = 1:=by
 obtain ⟨i,hi,hz0,hz1,hz2⟩:=info_parts infoU8
 exact ⟨i,hi,hz1⟩
set_option maxHeartbeats 3200000 in
theorem OGive_any (o:Nat) (most each life:Int) (S:OrgL) (F:Nat→Prop) (d:List UInt8) (i:Int) (w:World) (hO:OrgP w o most each life S F) (hk:OrgOk most each S) (h32:d.length = 32) (i1:-9223372036854775808 ≤ i) (i2:i ≤ 9223372036854775807) (hKc:Consts w) :
  Calls Tryz.prog 40 #[.pointer (some ⟨o,0,none⟩),.agg (d.map B8).toArray,.int .i64 i] w (MsgPost w (giveL S d i)):=by
 obtain ⟨t,mb,im,bm,E,I,C,hq,rfl,rfl⟩:=hO
 obtain ⟨W,hW⟩:∃ W,w.alloc (.cells (d.map B8).toArray 31) = W:=⟨_,rfl⟩
 have ho:DigO W w.heap.size d:=by rw [← hW];exact digO_new w h32
 have hb:Below w.heap.size w W:=by rw [← hW];exact (Below.refl _ w).alloc (Nat.le_refl _) _
 have hqW:=hq.of_new hb
 obtain ⟨x,b,is,hi,hv,hz,hl1,hl⟩:=hqW.look_cont h32
 have hcase:(is = true∧contOk (x.blob,b))∨(is = false∧x = ContV.zero):=by
  cases is with
  | true=>exact .inl ⟨rfl,hk.conts _ (contIn_mem hi).1⟩
  | false=>exact .inr ⟨rfl,(hz rfl).1⟩
 have HW:=Lib.hid hW
 have HO:=Lib.hid ho
 have HB:=Lib.hid hb
 have HQ:=Lib.hid hqW
 have H32:=Lib.hid h32
 have HI:=Lib.hid (show contAt ⟨I.map plI,C.map plC,tabOf E⟩ d = _ from hi)
 have HV:=Lib.hid hv
 have HL:=Lib.hid hl
 have HC:=Lib.hid hcase
 have HK:=Lib.hid (fun W' (h:Below w.heap.size w W')=>hKc.of_new h)
 clear hq hW ho hb hqW h32 hi hv hz hl hl1 hcase hk hKc
 go_enter Tryz.func40,Tryz.ntmps40
 go_upto_region 1 with ((with_reducible refine wpList_plain (o:=⟨some 6,Op.alloc _,_,_,_,_⟩) rfl fun K hK=>?_);(refine wp_alloc_msg rfl fun w1 ho1 hb1 hs1=>hK _ _ ?_);rw [HW.out] at ho1 hb1 hs1 ⊢;have HO1:=Lib.hid ho1.o;have HB1:=Lib.hid hb1;clear ho1 hb1 hs1)
 obtain ⟨g3,hg3⟩:∃ g,w.heap.size = g:=⟨_,rfl⟩
 have HG3:=Lib.hid hg3
 rw [hg3] at HO ⊢
 obtain ⟨g6,hg6⟩:∃ g,W.heap.size = g:=⟨_,rfl⟩
 have HG6:=Lib.hid hg6
 rw [hg6] at HO1 ⊢
 clear hg3 hg6
 have hc3:=fun w' (h:Grew w1 w')=>Grew.cell h (HQ.out.of_new HB1.out).cell3
 have hdg:DigAt w1 g3 0 d:=(HO.out.of_new HB1.out).at_
 have hl:=fun w' (h:Grew w1 w')=>HL.out w' (below_next HB1.out h)
 refine (wpIn_wide (n:=5)).1 ?_
 refine wpIn_region_mix (ro:=none) (C:=Grew w1) [0,1,2,3,4,5] [6] [7] (by kernel_rfl) (by kernel_rfl) (Grew.start _) (fun c a d v w h=>by cases d <;> exact h) ?_
 simp only [opsAt,List.flatMap_cons,List.flatMap_nil,List.getElem?_cons_zero,List.getElem?_cons_succ,Option.toList_some,List.cons_append,List.nil_append]
 go_simp
 repeat (first
  | (go_big_quiet_want;(with_reducible apply quiet_load_at (ty:=31) (x:=.tmp _));rfl;rfl;assumption;go_simp;go_big_quiet_on)
  | (go_big_quiet_want;apply quiet_val;(intro w' hw';go_simp;first | done | rfl);go_simp;go_big_quiet_on)
  | (go_big_quiet_skip))
 refine wpQuiet_nil ?_
 intro w2 hw2
 refine LateL.cons rfl (RCont.wp_alloc rfl ?_)
 intro w3 ho3 hb3 hs3
 have hw3:Grew w1 w3:=below_next hw2 hb3
 refine ⟨hw3,?_⟩
 refine LateL.nil ?_
 rw [wF_none]
 have hvok:RCont.ok x:=RCont_ok HV.out
 refine wpListIn_of_wp (ro:=none) rfl (fun c hc=>by cases hc) (ho3.store (x:=x) (.tmp 7) (.tmp 18) rfl rfl rfl hvok ?_)
 intro w4 ho4 hg4 hs4
 have hb4:Below w1.heap.size w1 w4:=hw3.grown hg4 (by have:=hw3.size;omega) (fun k e=>by cases e;exact hw2.size)
 obtain ⟨g7,hg7⟩:∃ g,w2.heap.size = g:=⟨_,rfl⟩
 rw [hg7] at ho4 ⊢
 have HO7:=Lib.hid ho4
 have HXO:=Lib.hid hvok.1
 have hB4:=below_next HB1.out hb4
 have HB4:=Lib.hid hB4
 have HM4:=Lib.hid (HO1.out.of_new hb4)
 have HD4:=Lib.hid (HO.out.of_new hB4).at_
 have HV4:=Lib.hid (HV.out.of_new hB4)
 clear hl hc3 hdg hw2 ho3 hb3 hs3 hw3 hvok ho4 hg4 hs4 hb4 hg7 hB4
 simp only [Act.put]
 rw [wF_none]
 gi_wp2
 obtain ⟨sp,hsp⟩:∃ sp,spanZ x.blob.size x.blob.piece i = sp:=⟨_,rfl⟩
 obtain ⟨A,N,c⟩:=sp
 have HS:=Lib.hid hsp
 go_upto_region 3 with (first
  | ((with_reducible refine wpList_plain (o:=⟨some 21,Op.load _ _,_,_,_,_⟩) rfl fun K hK=>?_);(refine (blob_at HO7.out).wp rfl rfl (hK _ _ ?_)))
  | (go_at_call 68;refine (Span_any x.blob i _ HXO.out i1 i2).mono ?_;rw [HS.out];rintro e w5 ⟨rfl,hb5⟩;have HB5:=Lib.hid (below_next HB4.out hb5);have HM5:=Lib.hid (HM4.out.of_new hb5);have HD5:=Lib.hid (HD4.out.of_new hb5);have HV5:=Lib.hid (HV4.out.of_new hb5);have HO75:=Lib.hid (HO7.out.of_new hb5);clear hb5))
 clear hsp
 by_cases hc:c = 0
 ·subst hc
  have hok:is = true∧contOk (x.blob,b):=by
   rcases HC.out with h | ⟨_,h⟩
   ·exact h
   ·have h1:=HS.out
    subst h
    have h2:=spanZ_zero i
    have h3:spanZ ContV.zero.blob.size ContV.zero.blob.piece i = spanZ 0 0 i:=rfl
    rw [h3] at h1
    rw [h1] at h2
    simp at h2
  obtain ⟨rfl,hok⟩:=hok
  obtain ⟨lo,len,hA,hN,hlen,hn1,hn2,hbl,hi0,hi3⟩:=give_bounds hok (i:=i) (by show (spanZ x.blob.size x.blob.piece i).2.2 = 0;rw [HS.out])
  replace hA:(spanZ x.blob.size x.blob.piece i).1 = (lo:Int):=hA
  replace hN:(spanZ x.blob.size x.blob.piece i).2.1 = (len:Int):=hN
  rw [HS.out] at hA hN
  subst hA
  subst hN
  have HT:=Lib.hid (show giveL ⟨I.map plI,C.map plC,tabOf E⟩ d i = { mk0 4 d with piece:=i,bytes:=(b.drop lo).take len,proof:=(proofE (leavesL b x.blob.piece.toNat) i).1 } by
   rw [giveL_some HI.out,if_pos (by show (spanZ x.blob.size x.blob.piece i).2.2 = 0;rw [HS.out])]
   unfold giveM
   dsimp only
   rw [HS.out]
   simp)
  have HLEN:=Lib.hid hlen
  have hc67:=RCont_leaves HO75.out.at_
  rw [Nat.zero_add] at hc67
  obtain ⟨pf,hpf⟩:∃ pf,proofE (leavesL b x.blob.piece.toNat) i = pf:=⟨_,rfl⟩
  rw [hpf] at HT
  obtain ⟨pr,pe⟩:=pf
  have HPF:=Lib.hid hpf
  obtain ⟨la,lc,hlv⟩:=HV5.out.leaves.digs.len
  have HLV:=Lib.hid HV5.out.leaves.digs
  rw [hlv] at hc67 HLV
  have HBD:=Lib.hid (show 1 ≤ len∧len ≤ 16384∧b.length ≤ 1048576 from ⟨hn1,hn2,hbl⟩)
  have hlo:(lo:Int) ≤ 1048576∧(len:Int) ≤ 1048576:=by replace hlen:lo + len ≤ b.length:=hlen;replace hbl:b.length ≤ 1048576:=hbl;omega
  have HLO:=Lib.hid hlo
  clear hpf hlv hlen hn1 hn2 hbl hi0 hi3 hok hlo
  go_upto_region 6 with (go_at_call 82;refine (Proof_any _ _ i _ HLV.out i1 i2 (HK.out _ (below_next HB.out HB5.out))).mono ?_;unfold ProofPost;rw [HPF.out];rintro e w6 ⟨v6,rfl,ho6,hb6⟩;obtain ⟨pa,pc,hvp⟩:=ho6.digs.len;subst hvp;have HPR:=Lib.hid ho6;have HZ5:=Lib.hid hb6.size;have HB6:=Lib.hid (below_next HB5.out hb6);have HM6:=Lib.hid (HM5.out.of_new hb6);have HD6:=Lib.hid (HD5.out.of_new hb6);have HV6:=Lib.hid (HV5.out.of_new hb6);have HO76:=Lib.hid (HO75.out.of_new hb6);clear ho6 hb6)
  have hc66:=RCont_bytes HO76.out.at_
  rw [Nat.zero_add] at hc66
  obtain ⟨ba,bc,hbv⟩:=HV6.out.bytes.bytes.len
  have HBY:=Lib.hid HV6.out.bytes.bytes
  rw [hbv] at hc66 HBY
  obtain ⟨iu,hiu,hsu⟩:=infoU8'
  obtain ⟨pv,hpv,hpb, -⟩:=Bytes.part (P:=Tryz.prog) (t:=33) (e:=5) HBY.out Tryz.underlying33 hiu hsu (some (.int .i64 (lo:Int))) (some (.int .i64 ((lo + len:Nat):Int))) lo (lo + len) (by omega) HLEN.out (.inr ⟨_,rfl⟩) (.inr ⟨_,rfl⟩)
  rw [show lo + len - lo = len by omega] at hpb
  obtain ⟨va,vc,hve⟩:=hpb.len
  subst hve
  have hwr:IntKind.i64.wrap ((lo:Int) + (len:Int)) = ((lo + len:Nat):Int):=by
   have:=HLO.out
   rw [IntWalk.i64_in _ (by omega)];omega
  rw [show ((lo + len:Nat):Int) = (lo:Int) + (len:Int) by omega] at hpv hwr
  have hdg:DigAt w6 g3 0 d:=HD6.out
  have hc66':=fun w' (h:Grew w6 w')=>Grew.cell h hc66
  obtain ⟨bs,hbs⟩:∃ bs,(b.drop lo).take len = bs:=⟨_,rfl⟩
  rw [hbs] at hpb HT hpv
  have HPB:=Lib.hid hpb
  have HBL:=Lib.hid (show bs.length ≤ 16384 by rw [← hbs,List.length_take];have:=HBD.out;omega)
  clear hbv hiu hsu hpb hbs hc67
  refine (wpIn_wide (n:=5)).1 ?_
  refine wpIn_region_mix (ro:=none) (C:=Grew w6) [0,1,2,3,4,5,6,7,8,10] [9] [11,12] (by kernel_rfl) (by kernel_rfl) (Grew.start _) (fun c a d v w h=>by cases d <;> exact h) ?_
  simp only [opsAt,List.flatMap_cons,List.flatMap_nil,List.getElem?_cons_zero,List.getElem?_cons_succ,Option.toList_some,List.cons_append,List.nil_append]
  go_simp
  repeat (first
   | (go_big_quiet_want;(with_reducible apply quiet_load_at (ty:=31) (x:=.tmp _));rfl;rfl;assumption;go_simp;go_big_quiet_on)
   | (go_big_quiet_want;apply quiet_val;(intro w' hw';go_simp;first | done | rfl);go_simp;go_big_quiet_on)
   | (go_big_quiet_skip))
  refine wpQuiet_nil ?_
  intro w7 hw7
  refine LateL.cons rfl (wp_enter (f:=36) (args:=#[.slice va bs.length vc]) (by go_simp <;> rfl) (Clone_any _ bs w7 (HPB.out.of_new hw7) (by have:=HBL.out;omega)) ?_)
  rintro e w8 ⟨v8,rfl,ho8,hb8⟩
  have hw8:Grew w6 w8:=below_next hw7 hb8
  refine ⟨_,rfl,hw8,?_⟩
  refine LateL.nil ?_
  rw [wF_none]
  obtain ⟨a8,c8,hv8⟩:=ho8.bytes.len
  subst hv8
  have HO8:=Lib.hid ho8
  have HM8:=Lib.hid (HM6.out.of_new hw8)
  have HPR8:=Lib.hid (HPR.out.of_new hw8)
  have HB8:=Lib.hid (below_next HB6.out hw8)
  have HW7:=Lib.hid (Nat.le_trans HB6.out.size hw7.size)
  have HW76:=Lib.hid hw7.size
  have HS5:=Lib.hid HB5.out.size
  clear hw7 hw8 ho8 hb8 hc66' hc66 hdg hwr hpv
  refine wpListIn_of_wp (ro:=none) rfl (fun c hc=>by cases hc) (wp_build_mG 4 d i (.slice a8 bs.length c8) (.slice pa pr.length pc) bs pr H32.out rfl rfl rfl rfl rfl rfl rfl rfl ?_)
  refine wpListIn_of_wp (ro:=none) rfl (fun c hc=>by cases hc) (wp_store_msg (.tmp 6) (.tmp 50) g6 _ msgZ _ sN rfl rfl rfl (msgR_G 4 i H32.out HO8.out.bytes HPR8.out.digs) HM8.out ?_)
  intro w9 ho9 hg9 hs9
  have HO9:=Lib.hid ho9
  have HG9:=Lib.hid hg9
  clear ho9 hg9 hs9
  simp only [Act.put]
  rw [wF_none]
  gi_wp2
  go_wp2
  refine bodyPost_ret (results_msg1 rfl _ rfl HO9.out) rfl ?_
  rw [HT.out]
  have hz1:=HM4.out.lt
  have hz2:=HB4.out.size
  have hz3:=HB.out.size
  have hz4:=HG6.out
  have hz5:=HB8.out.size
  have hz6:=HW7.out
  have hz7:=HS5.out
  have hz8:=HB5.out.size
  refine ⟨_,rfl,msgR_G 4 i H32.out (Row.of_kept HO8.out.bytes HG9.out (fun k hk e=>?_)) ⟨HPR8.out.digs.1,Row.of_kept HPR8.out.digs.2 HG9.out (fun k hk e=>?_)⟩,hi_G (fun k hk=>by have:=(World.ownsRow.lt HO8.out k hk).1;omega) (fun k hk=>by have:=(World.ownsRow.lt HPR8.out.2 k hk).1;omega),(below_next HB.out HB8.out).grown HG9.out (by omega) (fun k e=>by cases e;omega)⟩
  ·have:=(World.ownsRow.lt HO8.out k hk).1
   cases e
   have:=HM6.out.lt
   have:=HW76.out
   omega
  ·have:=(World.ownsRow.lt HPR8.out.2 k hk).1
   cases e
   have:=HM5.out.lt
   omega
 ·have HT:=Lib.hid (show giveL ⟨I.map plI,C.map plC,tabOf E⟩ d i = chokeL d i by
   rcases HC.out with ⟨rfl,_⟩ | ⟨rfl,_⟩
   ·rw [giveL_some HI.out,if_neg (by show ¬ (spanZ x.blob.size x.blob.piece i).2.2 = 0;rw [HS.out];exact hc)]
   ·exact giveL_none HI.out)
  have t1:(c == 0) = false:=beq_eq_false_iff_ne.2 hc
  have t2:(c != 0) = true:=bne_iff_ne.2 hc
  clear hc
  go_wp2_with (first
   | ((with_reducible refine wpList_plain (o:=⟨some 29,Op.load _ _,_,_,_,_⟩) rfl fun K hK=>?_);(refine wp_load_at (ty:=31) (x:=.tmp 4) rfl rfl HD5.out (hK _ _ ?_)))
   | ((with_reducible refine wpList_plain (o:=⟨some 31,Op.build _ _,_,_,_,_⟩) rfl fun K hK=>?_);(refine wp_build_m2 5 d i H32.out rfl rfl rfl rfl (hK _ _ ?_)))
   | ((with_reducible refine wpList_plain (o:=⟨none,Op.store _ (.tmp 6) (.tmp 31),_,_,_,_⟩) rfl fun K hK=>?_);(refine wp_store_msg (.tmp 6) (.tmp 31) g6 _ msgZ _ sN rfl rfl rfl (msgR_2 _ 5 i H32.out) HM5.out fun w6 ho6 hg6 hs6=>hK _ _ ?_);have HO6:=Lib.hid ho6;have HGG:=Lib.hid hg6;clear ho6 hg6 hs6))
  refine bodyPost_ret (results_msg1 rfl _ rfl HO6.out) rfl ?_
  rw [HT.out]
  exact ⟨sN,rfl,msgR_2 _ 5 i H32.out,hi_sN _,(below_next HB.out HB5.out).grown HGG.out (by have:=HB.out.size;have:=HB5.out.size;omega) (fun k e=>by cases e;have:=HG6.out;have:=HB.out.size;omega)⟩
def TakePost (w:World) (o:Nat) (most each life:Int) (F:Nat→Prop) (m:MsgL) (r:OrgL × MsgL × Bool × Int) (e:Ending) (w':World):Prop:=
 ∃ F' s,e = .returned (.tuple #[MsgV r.2.1 s,.bool r.2.2.1,.int .i64 r.2.2.2])∧MsgR w' r.2.1 s∧OrgP w' o most each life r.1 F'∧OStep F F' w w'∧(m.kind ≠ 6→Below w.heap.size w w')∧(m.kind = 6→∃ vi,s = { sN with vi:=vi }∧∀ q,vi.ownBlock = some q→∃ cur,w'.heap[q]? = some (.cells cur 3 (0,0)))
theorem takeOk_iff {id now:Int} {m:MsgL}:takeOk id now m = true↔(1 ≤ id∧id ≤ 65536)∧(0 ≤ now∧now ≤ 1099511627776)∧wrightB m = true:=by
 unfold takeOk
 rw [Bool.and_eq_true,Bool.and_eq_true,decide_eq_true_iff,decide_eq_true_iff]
theorem Kept.fresh {U:Nat→Prop} {A B C:World} {g:Nat} (h:Kept U A B) (hg:B.grownBy C (some g)) (hn:A.heap.size ≤ g):Kept U A C:=by
 have h1:Kept (fun k=>U k∧k < A.heap.size) A B:=h.mono (fun k hk hu=>hu.1)
 have h2:=h1.grown hg (fun r e hx=>by cases e;have:=hx.2;omega)
 exact h2.mono (fun k hk hu=>⟨hu,hk⟩)
theorem Row.same_block {w w':World} {v:Value} {n size:Nat} {cs:List Value} (h:Row w v n size cs) (hs:w.heap.size ≤ w'.heap.size) (hq:∀ q,v.ownBlock = some q→w'.heap[q]? = w.heap[q]?):Row w' v n size cs:=by
 obtain ⟨h1,a,c,rfl,h2,h3,h4,h5⟩:=h
 refine ⟨h1,a,c,rfl,h2,h3,h4,fun h=>?_⟩
 obtain ⟨b,off,rfl,hb,hc⟩:=h5 h
 refine ⟨b,off,rfl,Nat.lt_of_lt_of_le hb hs,fun j hj=>?_⟩
 rw [← hc j hj]
 exact World.cell?_of_block (w:=w) (hq b rfl)
theorem MsgR.num_keep {U:Nat→Prop} {w w':World} {m:MsgL} {vi:Value} (h:MsgR w m { sN with vi:=vi }) (ht:∀ q,vi.ownBlock = some q→∃ cur,w.heap[q]? = some (.cells cur 3 (0,0))) (hk:Kept U w w') (hu:∀ k cur,w.heap[k]? = some (.cells cur 3 (0,0))→U k):MsgR w' m { sN with vi:=vi }:=
 have hq:∀ q,vi.ownBlock = some q→w'.heap[q]? = w.heap[q]?:=fun q e=>by
  obtain ⟨cur,hc⟩:=ht q e
  exact hk.block q (Array.getElem?_eq_some_iff.1 hc).1 (hu q cur hc)
 have hn:∀ q,(Value.slice none 0 0).ownBlock = some q→w'.heap[q]? = w.heap[q]?:=fun q e=>by cases e
 ⟨h.hash,Row.same_block h.ids hk.size hq,Row.same_block h.bytes hk.size hn,⟨h.proof.1,Row.same_block h.proof.2 hk.size hn⟩,Row.same_block h.members hk.size hn⟩
section
variable {w W W2:World} {o:Nat} {most each life:Int} {S:OrgL} {F:Nat→Prop}
end
set_option maxHeartbeats 6400000 in
theorem OTake_any (o:Nat) (most each life:Int) (S:OrgL) (F:Nat→Prop) (id now:Int) (m:MsgL) (s:MsgS) (seed:Nat) (w:World) (hO:OrgP w o most each life S F) (hk:OrgOk most each S) (hm:1 ≤ most∧most ≤ 1000) (he:1 ≤ each∧each ≤ 64) (hM:MsgR w m s) (hmo:m.ok) (hsd:seed < 18446744073709551616) (hKc:Consts w) :
  Calls Tryz.prog 13 #[.pointer (some ⟨o,0,none⟩),.int .i64 id,.int .i64 now,MsgV m s,.int .u64 (seed:Int)] w (TakePost w o most each life F m (takeO S most each life id now m seed)):=by
 obtain ⟨W,hW⟩:∃ W,w.alloc (.cells (msgCells m s).toArray 37) = W:=⟨_,rfl⟩
 have ho:MsgO W w.heap.size m s:=by rw [← hW];exact msg_alloc w hM.hash
 have hb:Below w.heap.size w W:=by rw [← hW];exact (Below.refl _ w).alloc (Nat.le_refl _) _
 have HW:=Lib.hid hW
 have HO:=Lib.hid ho
 have HB:=Lib.hid hb
 have HP:=Lib.hid hO
 have HR:=Lib.hid (hM.of_new hb)
 have HK:=Lib.hid hk
 have HKC:=Lib.hid (hKc.of_new hb)
 have H32:=Lib.hid hM.hash
 have HMO:=Lib.hid hmo
 clear hO hk hM hmo hKc hW ho hb
 show Calls Tryz.prog 13 #[.pointer (some ⟨o,0,none⟩),.int .i64 id,.int .i64 now,.agg (msgCells m s).toArray,.int .u64 (seed:Int)] w _
 rcases htk:takeOk id now m with _ | _
 ·have HT:=Lib.hid (show takeO S most each life id now m seed = (S,msgN,false,1) by unfold takeO;rw [htk];rfl)
  have hor:id < 1∨(¬ id < 1∧65536 < id)∨(¬ id < 1∧¬ 65536 < id∧now < 0)∨(¬ id < 1∧¬ 65536 < id∧¬ now < 0∧1099511627776 < now)∨(¬ id < 1∧¬ 65536 < id∧¬ now < 0∧¬ 1099511627776 < now∧wrightB m = false):=by
   by_cases a1:id < 1
   ·exact .inl a1
   by_cases a2:65536 < id
   ·exact .inr (.inl ⟨a1,a2⟩)
   by_cases a3:now < 0
   ·exact .inr (.inr (.inl ⟨a1,a2,a3⟩))
   by_cases a4:1099511627776 < now
   ·exact .inr (.inr (.inr (.inl ⟨a1,a2,a3,a4⟩)))
   refine .inr (.inr (.inr (.inr ⟨a1,a2,a3,a4,?_⟩)))
   cases hw:wrightB m with
   | false=>rfl
   | true=>rw [takeOk_iff.2 ⟨by omega,by omega,hw⟩] at htk;cases htk
  clear htk
  rcases hor with h1 | ⟨h1,h2⟩ | ⟨h1,h2,h3⟩ | ⟨h1,h2,h3,h4⟩ | ⟨h1,h2,h3,h4,h5⟩
  ·go_enter Tryz.func13,Tryz.ntmps13
   go_upto_region 1 with ((with_reducible refine wpList_plain (o:=⟨some 10,Op.alloc _,_,_,_,_⟩) rfl fun K hK=>?_);(refine wp_alloc_msg rfl fun w1 ho1 hb1 hs1=>hK _ _ ?_);rw [HW.out] at ho1 hb1 hs1 ⊢;have HO1:=Lib.hid ho1.o;have HB1:=Lib.hid hb1;have HO8:=Lib.hid (HO.out.of_new hb1);have HR8:=Lib.hid (HR.out.of_new hb1);clear ho1 hb1 hs1)
   obtain ⟨g8,hg8⟩:∃ g,w.heap.size = g:=⟨_,rfl⟩
   have HG8:=Lib.hid hg8
   rw [hg8] at HO8 HO ⊢
   obtain ⟨g10,hg10⟩:∃ g,W.heap.size = g:=⟨_,rfl⟩
   have HG10:=Lib.hid hg10
   rw [hg10] at HO1 ⊢
   clear hg8 hg10
   go_upto_region 2 with (fail)
   go_wp2_with (first
    | ((with_reducible refine wpList_plain (o:=⟨some 32,Op.build _ _,_,_,_,_⟩) rfl fun K hK=>?_);(refine wp_val (v:=MsgV msgZ sN) (by unfold execOp;simp only [List.map_toArray,List.map_nil,build_msg,Sem.run_bind,Result.andThen_ok,Sem.run_pure]) (hK _ _ ?_)))
    | ((with_reducible refine wpList_plain (o:=⟨none,Op.store _ (.tmp 10) (.tmp 32),_,_,_,_⟩) rfl fun K hK=>?_);(refine wp_store_msg (.tmp 10) (.tmp 32) g10 msgZ msgZ sN sN rfl rfl rfl (msgR_zero _) HO1.out fun w6 ho6 hg6 hs6=>hK _ _ ?_);have HO6:=Lib.hid ho6;have HG6:=Lib.hid hg6;clear ho6 hg6 hs6))
   refine bodyPost_ret (results_msg3 rfl _ rfl rfl rfl HO6.out) rfl ?_
   rw [HT.out]
   have hbl:Below w.heap.size w w6:=(below_next HB.out HB1.out).grown HG6.out (by have:=HB.out.size;have:=HB1.out.size;omega) (fun k e=>by cases e;have:=HG10.out;have:=HB.out.size;omega)
   exact ⟨F,sN,rfl,msgR_zero _,HP.out.of_new hbl,OStep.of_below hbl,fun _=>hbl,fun _=>⟨sN.vi,rfl,fun q h=>by cases h⟩⟩
  ·go_enter Tryz.func13,Tryz.ntmps13
   go_upto_region 1 with ((with_reducible refine wpList_plain (o:=⟨some 10,Op.alloc _,_,_,_,_⟩) rfl fun K hK=>?_);(refine wp_alloc_msg rfl fun w1 ho1 hb1 hs1=>hK _ _ ?_);rw [HW.out] at ho1 hb1 hs1 ⊢;have HO1:=Lib.hid ho1.o;have HB1:=Lib.hid hb1;have HO8:=Lib.hid (HO.out.of_new hb1);have HR8:=Lib.hid (HR.out.of_new hb1);clear ho1 hb1 hs1)
   obtain ⟨g8,hg8⟩:∃ g,w.heap.size = g:=⟨_,rfl⟩
   have HG8:=Lib.hid hg8
   rw [hg8] at HO8 HO ⊢
   obtain ⟨g10,hg10⟩:∃ g,W.heap.size = g:=⟨_,rfl⟩
   have HG10:=Lib.hid hg10
   rw [hg10] at HO1 ⊢
   clear hg8 hg10
   go_upto_region 2 with (fail)
   go_wp2_with (first
    | ((with_reducible refine wpList_plain (o:=⟨some 32,Op.build _ _,_,_,_,_⟩) rfl fun K hK=>?_);(refine wp_val (v:=MsgV msgZ sN) (by unfold execOp;simp only [List.map_toArray,List.map_nil,build_msg,Sem.run_bind,Result.andThen_ok,Sem.run_pure]) (hK _ _ ?_)))
    | ((with_reducible refine wpList_plain (o:=⟨none,Op.store _ (.tmp 10) (.tmp 32),_,_,_,_⟩) rfl fun K hK=>?_);(refine wp_store_msg (.tmp 10) (.tmp 32) g10 msgZ msgZ sN sN rfl rfl rfl (msgR_zero _) HO1.out fun w6 ho6 hg6 hs6=>hK _ _ ?_);have HO6:=Lib.hid ho6;have HG6:=Lib.hid hg6;clear ho6 hg6 hs6))
   refine bodyPost_ret (results_msg3 rfl _ rfl rfl rfl HO6.out) rfl ?_
   rw [HT.out]
   have hbl:Below w.heap.size w w6:=(below_next HB.out HB1.out).grown HG6.out (by have:=HB.out.size;have:=HB1.out.size;omega) (fun k e=>by cases e;have:=HG10.out;have:=HB.out.size;omega)
   exact ⟨F,sN,rfl,msgR_zero _,HP.out.of_new hbl,OStep.of_below hbl,fun _=>hbl,fun _=>⟨sN.vi,rfl,fun q h=>by cases h⟩⟩
  ·go_enter Tryz.func13,Tryz.ntmps13
   go_upto_region 1 with ((with_reducible refine wpList_plain (o:=⟨some 10,Op.alloc _,_,_,_,_⟩) rfl fun K hK=>?_);(refine wp_alloc_msg rfl fun w1 ho1 hb1 hs1=>hK _ _ ?_);rw [HW.out] at ho1 hb1 hs1 ⊢;have HO1:=Lib.hid ho1.o;have HB1:=Lib.hid hb1;have HO8:=Lib.hid (HO.out.of_new hb1);have HR8:=Lib.hid (HR.out.of_new hb1);clear ho1 hb1 hs1)
   obtain ⟨g8,hg8⟩:∃ g,w.heap.size = g:=⟨_,rfl⟩
   have HG8:=Lib.hid hg8
   rw [hg8] at HO8 HO ⊢
   obtain ⟨g10,hg10⟩:∃ g,W.heap.size = g:=⟨_,rfl⟩
   have HG10:=Lib.hid hg10
   rw [hg10] at HO1 ⊢
   clear hg8 hg10
   go_upto_region 2 with (fail)
   go_wp2_with (first
    | ((with_reducible refine wpList_plain (o:=⟨some 32,Op.build _ _,_,_,_,_⟩) rfl fun K hK=>?_);(refine wp_val (v:=MsgV msgZ sN) (by unfold execOp;simp only [List.map_toArray,List.map_nil,build_msg,Sem.run_bind,Result.andThen_ok,Sem.run_pure]) (hK _ _ ?_)))
    | ((with_reducible refine wpList_plain (o:=⟨none,Op.store _ (.tmp 10) (.tmp 32),_,_,_,_⟩) rfl fun K hK=>?_);(refine wp_store_msg (.tmp 10) (.tmp 32) g10 msgZ msgZ sN sN rfl rfl rfl (msgR_zero _) HO1.out fun w6 ho6 hg6 hs6=>hK _ _ ?_);have HO6:=Lib.hid ho6;have HG6:=Lib.hid hg6;clear ho6 hg6 hs6))
   refine bodyPost_ret (results_msg3 rfl _ rfl rfl rfl HO6.out) rfl ?_
   rw [HT.out]
   have hbl:Below w.heap.size w w6:=(below_next HB.out HB1.out).grown HG6.out (by have:=HB.out.size;have:=HB1.out.size;omega) (fun k e=>by cases e;have:=HG10.out;have:=HB.out.size;omega)
   exact ⟨F,sN,rfl,msgR_zero _,HP.out.of_new hbl,OStep.of_below hbl,fun _=>hbl,fun _=>⟨sN.vi,rfl,fun q h=>by cases h⟩⟩
  ·go_enter Tryz.func13,Tryz.ntmps13
   go_upto_region 1 with ((with_reducible refine wpList_plain (o:=⟨some 10,Op.alloc _,_,_,_,_⟩) rfl fun K hK=>?_);(refine wp_alloc_msg rfl fun w1 ho1 hb1 hs1=>hK _ _ ?_);rw [HW.out] at ho1 hb1 hs1 ⊢;have HO1:=Lib.hid ho1.o;have HB1:=Lib.hid hb1;have HO8:=Lib.hid (HO.out.of_new hb1);have HR8:=Lib.hid (HR.out.of_new hb1);clear ho1 hb1 hs1)
   obtain ⟨g8,hg8⟩:∃ g,w.heap.size = g:=⟨_,rfl⟩
   have HG8:=Lib.hid hg8
   rw [hg8] at HO8 HO ⊢
   obtain ⟨g10,hg10⟩:∃ g,W.heap.size = g:=⟨_,rfl⟩
   have HG10:=Lib.hid hg10
   rw [hg10] at HO1 ⊢
   clear hg8 hg10
   go_upto_region 2 with (fail)
   go_wp2_with (first
    | ((with_reducible refine wpList_plain (o:=⟨some 32,Op.build _ _,_,_,_,_⟩) rfl fun K hK=>?_);(refine wp_val (v:=MsgV msgZ sN) (by unfold execOp;simp only [List.map_toArray,List.map_nil,build_msg,Sem.run_bind,Result.andThen_ok,Sem.run_pure]) (hK _ _ ?_)))
    | ((with_reducible refine wpList_plain (o:=⟨none,Op.store _ (.tmp 10) (.tmp 32),_,_,_,_⟩) rfl fun K hK=>?_);(refine wp_store_msg (.tmp 10) (.tmp 32) g10 msgZ msgZ sN sN rfl rfl rfl (msgR_zero _) HO1.out fun w6 ho6 hg6 hs6=>hK _ _ ?_);have HO6:=Lib.hid ho6;have HG6:=Lib.hid hg6;clear ho6 hg6 hs6))
   refine bodyPost_ret (results_msg3 rfl _ rfl rfl rfl HO6.out) rfl ?_
   rw [HT.out]
   have hbl:Below w.heap.size w w6:=(below_next HB.out HB1.out).grown HG6.out (by have:=HB.out.size;have:=HB1.out.size;omega) (fun k e=>by cases e;have:=HG10.out;have:=HB.out.size;omega)
   exact ⟨F,sN,rfl,msgR_zero _,HP.out.of_new hbl,OStep.of_below hbl,fun _=>hbl,fun _=>⟨sN.vi,rfl,fun q h=>by cases h⟩⟩
  ·go_enter Tryz.func13,Tryz.ntmps13
   go_upto_region 1 with ((with_reducible refine wpList_plain (o:=⟨some 10,Op.alloc _,_,_,_,_⟩) rfl fun K hK=>?_);(refine wp_alloc_msg rfl fun w1 ho1 hb1 hs1=>hK _ _ ?_);rw [HW.out] at ho1 hb1 hs1 ⊢;have HO1:=Lib.hid ho1.o;have HB1:=Lib.hid hb1;have HO8:=Lib.hid (HO.out.of_new hb1);have HR8:=Lib.hid (HR.out.of_new hb1);clear ho1 hb1 hs1)
   obtain ⟨g8,hg8⟩:∃ g,w.heap.size = g:=⟨_,rfl⟩
   have HG8:=Lib.hid hg8
   rw [hg8] at HO8 HO ⊢
   obtain ⟨g10,hg10⟩:∃ g,W.heap.size = g:=⟨_,rfl⟩
   have HG10:=Lib.hid hg10
   rw [hg10] at HO1 ⊢
   clear hg8 hg10
   go_upto_region 2 with (first
    | ((with_reducible refine wpList_met (o:=⟨some 28,Op.load _ _,_,_,_,_⟩) ?_ ?_);rfl;intro K hK;refine wp_load_msg rfl rfl HO8.out (hK _ _ ?_))
    | (go_at_call 38;refine (WRight_any m s _ HR8.out).mono ?_;rintro e w2 ⟨rfl,hb2⟩;have HB2:=Lib.hid (below_next HB1.out hb2);have HO2:=Lib.hid (HO1.out.of_new hb2);have HO82:=Lib.hid (HO8.out.of_new hb2);clear hb2))
   go_wp2_with (first
    | ((with_reducible refine wpList_plain (o:=⟨some 32,Op.build _ _,_,_,_,_⟩) rfl fun K hK=>?_);(refine wp_val (v:=MsgV msgZ sN) (by unfold execOp;simp only [List.map_toArray,List.map_nil,build_msg,Sem.run_bind,Result.andThen_ok,Sem.run_pure]) (hK _ _ ?_)))
    | ((with_reducible refine wpList_plain (o:=⟨none,Op.store _ (.tmp 10) (.tmp 32),_,_,_,_⟩) rfl fun K hK=>?_);(refine wp_store_msg (.tmp 10) (.tmp 32) g10 msgZ msgZ sN sN rfl rfl rfl (msgR_zero _) HO2.out fun w6 ho6 hg6 hs6=>hK _ _ ?_);have HO6:=Lib.hid ho6;have HG6:=Lib.hid hg6;clear ho6 hg6 hs6))
   refine bodyPost_ret (results_msg3 rfl _ rfl rfl rfl HO6.out) rfl ?_
   rw [HT.out]
   have hbl:Below w.heap.size w w6:=(below_next HB.out HB2.out).grown HG6.out (by have:=HB.out.size;have:=HB2.out.size;omega) (fun k e=>by cases e;have:=HG10.out;have:=HB.out.size;omega)
   exact ⟨F,sN,rfl,msgR_zero _,HP.out.of_new hbl,OStep.of_below hbl,fun _=>hbl,fun _=>⟨sN.vi,rfl,fun q h=>by cases h⟩⟩
 ·obtain ⟨⟨q1,q2⟩,⟨q3,q4⟩,h5⟩:=takeOk_iff.1 htk
  have h1:¬ id < 1:=by omega
  have h2:¬ 65536 < id:=by omega
  have h3:¬ now < 0:=by omega
  have h4:¬ 1099511627776 < now:=by omega
  have HTK:=Lib.hid (show takeO S most each life id now m seed = _ from by unfold takeO;rw [if_pos htk])
  clear htk
  go_enter Tryz.func13,Tryz.ntmps13
  go_upto_region 1 with ((with_reducible refine wpList_plain (o:=⟨some 10,Op.alloc _,_,_,_,_⟩) rfl fun K hK=>?_);(refine wp_alloc_msg rfl fun w1 ho1 hb1 hs1=>hK _ _ ?_);rw [HW.out] at ho1 hb1 hs1 ⊢;have HO1:=Lib.hid ho1.o;have HB1:=Lib.hid hb1;have HO8:=Lib.hid (HO.out.of_new hb1);have HR8:=Lib.hid (HR.out.of_new hb1);clear ho1 hb1 hs1)
  obtain ⟨g8,hg8⟩:∃ g,w.heap.size = g:=⟨_,rfl⟩
  have HG8:=Lib.hid hg8
  rw [hg8] at HO8 HO ⊢
  obtain ⟨g10,hg10⟩:∃ g,W.heap.size = g:=⟨_,rfl⟩
  have HG10:=Lib.hid hg10
  rw [hg10] at HO1 ⊢
  clear hg8 hg10
  go_upto_region 3 with (first
   | ((with_reducible refine wpList_met (o:=⟨some 28,Op.load _ _,_,_,_,_⟩) ?_ ?_);rfl;intro K hK;refine wp_load_msg rfl rfl HO8.out (hK _ _ ?_))
   | (go_at_call 38;refine (WRight_any m s _ HR8.out).mono ?_;rintro e w2 ⟨rfl,hb2⟩;have HB2:=Lib.hid (below_next HB1.out hb2);have HO2:=Lib.hid (HO1.out.of_new hb2);have HO82:=Lib.hid (HO8.out.of_new hb2);clear hb2))
  have hkd:=HO82.out.kind
  clear h1 h2 h3 h4 h5 q1 q2 q3 q4
  have hB2:=below_next HB.out HB2.out
  have HBW:=Lib.hid hB2
  have HP2:=Lib.hid (HP.out.of_new hB2)
  have HKC2:=Lib.hid (HKC.out.of_new HB2.out)
  have HZ2:=Lib.hid (show w.heap.size ≤ g8∧w.heap.size ≤ g10∧g10 < w2.heap.size from ⟨by have:=HG8.out;omega,by have:=HG10.out;have:=HB.out.size;omega,HO2.out.lt⟩)
  clear hB2
  by_cases k9:m.kind = 9
  ·have HN6:=Lib.hid (show m.kind ≠ 6 by omega)
   rw [k9] at hkd
   have HT:=Lib.hid (show takeO S most each life id now m seed = (S,tellL S m.hash,true,0) by rw [HTK.out,if_pos k9])
   have HDG:=Lib.hid HO82.out.hash
   clear k9
   go_wp2_with (first
    | ((with_reducible refine wpList_plain (o:=⟨some 39,Op.load _ _,_,_,_,_⟩) rfl fun K hK=>?_);(refine wp_load_at (ty:=31) (x:=.tmp 38) rfl rfl HDG.out (hK _ _ ?_)))
    | (go_at_call 39;refine (OTell_any o most each life S F m.hash _ HP2.out H32.out).mono ?_;rintro e w3 ⟨s3,rfl,hr3,hi3,hb3⟩;have HR3:=Lib.hid hr3;have HI3:=Lib.hid hi3;have HB3:=Lib.hid (below_next HBW.out hb3);have HO3:=Lib.hid (HO2.out.of_new hb3);clear hr3 hi3 hb3)
    | ((with_reducible refine wpList_plain (o:=⟨none,Op.store _ (.tmp 10) (.tmp 40),_,_,_,_⟩) rfl fun K hK=>?_);(refine wp_store_msg (.tmp 10) (.tmp 40) g10 (tellL S m.hash) msgZ s3 sN rfl rfl rfl HR3.out HO3.out fun w6 ho6 hg6 hs6=>hK _ _ ?_);have HO6:=Lib.hid ho6;have HG6:=Lib.hid hg6;clear ho6 hg6 hs6))
   refine bodyPost_ret (results_msg3 rfl _ rfl rfl rfl HO6.out) rfl ?_
   rw [HT.out]
   have hbl:Below w.heap.size w w6:=HB3.out.grown HG6.out (by have:=HB3.out.size;omega) (fun k e=>by cases e;exact HZ2.out.2.1)
   exact ⟨F,s3,rfl,HR3.out.keptHi HI3.out HG6.out HZ2.out.2.2,HP.out.of_new hbl,OStep.of_below hbl,fun _=>hbl,fun h=>absurd h HN6.out⟩
  have b9:(m.kind == 9) = false:=beq_eq_false_iff_ne.2 k9
  by_cases k3:m.kind = 3
  ·have HN6:=Lib.hid (show m.kind ≠ 6 by omega)
   have HT:=Lib.hid (show takeO S most each life id now m seed = (S,giveL S m.hash m.piece,true,0) by rw [HTK.out,if_neg k9,if_pos k3])
   rw [k3] at hkd
   have HDG:=Lib.hid HO82.out.hash
   have hpc:=HO82.out.piece
   clear k9 b9 k3
   go_wp2_with (first
    | ((with_reducible refine wpList_plain (o:=⟨some 45,Op.load _ _,_,_,_,_⟩) rfl fun K hK=>?_);(refine wp_load_at (ty:=31) (x:=.tmp 44) rfl rfl HDG.out (hK _ _ ?_)))
    | (go_at_call 40;refine (OGive_any o most each life S F m.hash m.piece _ HP2.out HK.out H32.out HMO.out.piece.1 HMO.out.piece.2 HKC2.out).mono ?_;rintro e w3 ⟨s3,rfl,hr3,hi3,hb3⟩;have HR3:=Lib.hid hr3;have HI3:=Lib.hid hi3;have HB3:=Lib.hid (below_next HBW.out hb3);have HO3:=Lib.hid (HO2.out.of_new hb3);clear hr3 hi3 hb3)
    | ((with_reducible refine wpList_plain (o:=⟨none,Op.store _ (.tmp 10) (.tmp 48),_,_,_,_⟩) rfl fun K hK=>?_);(refine wp_store_msg (.tmp 10) (.tmp 48) g10 (giveL S m.hash m.piece) msgZ s3 sN rfl rfl rfl HR3.out HO3.out fun w6 ho6 hg6 hs6=>hK _ _ ?_);have HO6:=Lib.hid ho6;have HG6:=Lib.hid hg6;clear ho6 hg6 hs6))
   refine bodyPost_ret (results_msg3 rfl _ rfl rfl rfl HO6.out) rfl ?_
   rw [HT.out]
   have hbl:Below w.heap.size w w6:=HB3.out.grown HG6.out (by have:=HB3.out.size;omega) (fun k e=>by cases e;exact HZ2.out.2.1)
   exact ⟨F,s3,rfl,HR3.out.keptHi HI3.out HG6.out HZ2.out.2.2,HP.out.of_new hbl,OStep.of_below hbl,fun _=>hbl,fun h=>absurd h HN6.out⟩
  have b3:(m.kind == 3) = false:=beq_eq_false_iff_ne.2 k3
  by_cases k6:m.kind = 6
  ·have HT:=Lib.hid (show takeO S most each life id now m seed = (annS S most each life m.hash id now m.seed,askS (annS S most each life m.hash id now m.seed) m.hash id seed,true,0) by rw [HTK.out,if_neg k9,if_neg k3,if_pos k6])
   rw [k6] at hkd
   have HK6:=Lib.hid k6
   clear k9 b9 k3 b3 k6
   obtain ⟨t,mb,im,bm,E,I,C,hq,rfl,rfl⟩:=HP2.out
   have HQ:=Lib.hid hq
   have hdg:DigAt w2 g8 1 m.hash:=HO82.out.hash
   have hc0:=fun w' (h:Grew w2 w')=>Grew.cell h hq.cell0
   have hc1:=fun w' (h:Grew w2 w')=>Grew.cell h hq.cell1
   have hsdc:=fun w' (h:Grew w2 w')=>Grew.cell h HO82.out.seed
   clear hq
   go_upto_region 9 with (fail)
   refine (wpIn_wide (n:=5)).1 ?_
   refine wpIn_region_mix (ro:=none) (C:=Grew w2) [0,1,2,3,4,5,6,7,8,9,10,11,12,13] [] [14] (by kernel_rfl) (by kernel_rfl) (Grew.start _) (fun c a d v w h=>by cases d <;> exact h) ?_
   simp only [opsAt,List.flatMap_cons,List.flatMap_nil,List.getElem?_cons_zero,List.getElem?_cons_succ,Option.toList_some,List.cons_append,List.nil_append]
   go_simp
   repeat (first
    | (go_big_quiet_want;(with_reducible apply quiet_load_at (ty:=31) (x:=.tmp _));rfl;rfl;assumption;go_simp;go_big_quiet_on)
    | (go_big_quiet_want;apply quiet_val;(intro w' hw';go_simp;first | done | rfl);go_simp;go_big_quiet_on)
    | (go_big_quiet_skip))
   refine wpQuiet_nil ?_
   intro w3 hw3
   refine LateL.nil ?_
   refine wpListIn_of_wp (ro:=none) rfl (fun c hc=>by cases hc) (wp_enter (f:=41) (args:=#[.pointer (some ⟨t,0,none⟩),.agg (m.hash.map B8).toArray,.int .i64 id,.int .i64 now,.int .i64 life,.bool m.seed]) (by go_simp <;> rfl) (Announce_any t mb most each E m.hash id now life m.seed w3 (HQ.out.of_new hw3).tab HK.out.tab hm he H32.out) ?_)
   unfold AnnPost
   rintro e w4 ⟨E4,hE4,rfl,hT4,hs4⟩
   refine ⟨_,rfl,?_⟩
   obtain ⟨hq4,hst4⟩:=(HQ.out.of_new hw3).table hT4 hs4
   have ho84:MsgO w4 g8 m s:=(HO82.out.of_new hw3).of_block (hs4.kept.block g8 (HO82.out.of_new hw3).lt fun hx=>by
    obtain ⟨q1,q2,q3⟩:=ownE_obj (HQ.out.of_new hw3).tab hx
    rw [(HO82.out.of_new hw3).1] at q3;cases q3)
   have ho104:MsgO w4 g10 msgZ sN:=(HO2.out.of_new hw3).of_block (hs4.kept.block g10 (HO2.out.of_new hw3).lt fun hx=>by
    obtain ⟨q1,q2,q3⟩:=ownE_obj (HQ.out.of_new hw3).tab hx
    rw [(HO2.out.of_new hw3).1] at q3;cases q3)
   have hlt4:g10 < w4.heap.size:=ho104.lt
   have HQ4:=Lib.hid hq4
   have HE4:=Lib.hid hE4
   have HST4:=Lib.hid ((OStep.of_below (below_next HBW.out hw3)).trans hst4)
   have HO10:=Lib.hid ho104
   have HLT4:=Lib.hid hlt4
   have hdg:DigAt w4 g8 1 m.hash:=ho84.hash
   have hc0:=fun w' (h:Grew w4 w')=>Grew.cell h hq4.cell0
   clear hc1 hsdc hw3 hq4 hst4 hs4 hT4 hE4 ho84 ho104 hlt4
   simp only [Act.put]
   rw [wF_none]
   gi_wp2
   go_upto_region 10 with (fail)
   refine (wpIn_wide (n:=5)).1 ?_
   refine wpIn_region_mix (ro:=none) (C:=Grew w4) [0,1,2,3,4,5,6,7,8,9] [10] [11,12,13,14] (by kernel_rfl) (by kernel_rfl) (Grew.start _) (fun c a d v w h=>by cases d <;> exact h) ?_
   simp only [opsAt,List.flatMap_cons,List.flatMap_nil,List.getElem?_cons_zero,List.getElem?_cons_succ,Option.toList_some,List.cons_append,List.nil_append]
   go_simp
   repeat (first
    | (go_big_quiet_want;(with_reducible apply quiet_load_at (ty:=31) (x:=.tmp _));rfl;rfl;assumption;go_simp;go_big_quiet_on)
    | (go_big_quiet_want;apply quiet_val;(intro w' hw';go_simp;first | done | rfl);go_simp;go_big_quiet_on)
    | (go_big_quiet_skip))
   refine wpQuiet_nil ?_
   intro w5 hw5
   refine LateL.cons rfl (wp_enter (f:=42) (args:=#[.pointer (some ⟨t,0,none⟩),.agg (m.hash.map B8).toArray,.int .i64 id,.int .i64 8,.int .u64 (seed:Int)]) (by go_simp <;> rfl) (AskO_any t mb most each E4 m.hash id 8 seed w5 (HQ4.out.of_new hw5).tab (by unfold EntOk;rw [HE4.out];exact HK.out.tab.ann hm.1 he.1 H32.out id now life m.seed) he H32.out hsd) ?_)
   rintro e w6 ⟨v6,rfl,hi6,hb6,ho6⟩
   have hw6:Grew w4 w6:=below_next hw5 hb6
   refine ⟨_,rfl,hw6,?_⟩
   refine LateL.nil ?_
   rw [wF_none]
   rw [HE4.out] at hi6
   obtain ⟨l6,hl6⟩:∃ l6,sampleL seed (othersL (peersT m.hash (annT most each (tabOf E) m.hash id now life m.seed).1) id) 8 = l6:=⟨_,rfl⟩
   have HL6:=Lib.hid hl6
   rw [hl6] at hi6
   obtain ⟨a6,c6,hv6⟩:=hi6.len
   subst hv6
   have HI6:=Lib.hid hi6
   have HOB6:=Lib.hid (fun q hq=>Nat.le_trans hw5.size (ho6 q hq).1)
   have HTY6:=Lib.hid (fun q hq=>(ho6 q hq).2)
   have HO106:=Lib.hid (HO10.out.of_new hw6)
   have HQ6:=Lib.hid (HQ4.out.of_new hw6)
   have HST6:=Lib.hid (HST4.out.new hw6)
   clear hw5 hw6 hi6 ho6 hb6 hdg hc0 hl6
   refine wpListIn_of_wp (ro:=none) rfl (fun c hc=>by cases hc) (wp_build_mI 7 m.hash (.slice a6 l6.length c6) l6 H32.out rfl rfl rfl rfl rfl ?_)
   refine wpListIn_of_wp (ro:=none) rfl (fun c hc=>by cases hc) (wp_store_msg (.tmp 10) (.tmp 77) g10 _ msgZ _ sN rfl rfl rfl (msgR_I 7 H32.out HI6.out) HO106.out ?_)
   intro w9 ho9 hg9 hs9
   have HO9:=Lib.hid ho9
   have HG9:=Lib.hid hg9
   clear ho9 hg9 hs9
   simp only [Act.put]
   rw [wF_none]
   gi_wp2
   go_wp2
   refine bodyPost_ret (results_msg3 rfl _ rfl rfl rfl HO9.out) rfl ?_
   have hask:askS (annS ⟨I.map plI,C.map plC,tabOf E⟩ most each life m.hash id now m.seed) m.hash id seed = { mk0 7 m.hash with ids:=l6 }:=by
    unfold askS annS
    rw [← HL6.out]
   rw [HT.out,hask]
   have hmb:∀ k,FootM mb im bm E4 k→k ≠ g10:=fun k hk e=>by
    subst e
    exact HQ6.out.cells_ne hk HO106.out.1
   have hkk:Kept (fun k=>k ≠ g10) w6 w9:=(Kept.refl _ w6).grown HG9.out fun r e=>by cases e;exact fun h=>h rfl
   refine ⟨FootM mb im bm E4,{ sN with vi:=.slice a6 l6.length c6 },rfl,MsgR.keptHi (msgR_I 7 H32.out HI6.out) (hi_I HOB6.out) HG9.out HLT4.out,⟨t,mb,im,bm,E4,I,C,HQ6.out.kept hkk hmb (fun k cur ty f he ht e=>?_),?_,rfl⟩,⟨HST6.out.kept.fresh HG9.out HZ2.out.2.1,HST6.out.own⟩,fun h=>absurd HK6.out h,fun _=>⟨_,rfl,fun q hq=>?_⟩⟩
   ·subst e
    rw [HO106.out.1] at he
    cases he
    rcases ht with h | h | h | h | h <;> exact absurd h (by decide)
   ·unfold annS
    rw [HE4.out]
   ·obtain ⟨cur,hc⟩:=HTY6.out q hq
    refine ⟨cur,(hkk.block q (Array.getElem?_eq_some_iff.1 hc).1 fun e=>?_).trans hc⟩
    subst e
    rw [HO106.out.1] at hc
    cases hc
  have b6:(m.kind == 6) = false:=beq_eq_false_iff_ne.2 k6
  have HT:=Lib.hid (show takeO S most each life id now m seed = (S,msgN,false,0) by rw [HTK.out,if_neg k9,if_neg k3,if_neg k6])
  clear k9 k3 k6
  go_wp2_with (first
   | ((with_reducible refine wpList_plain (o:=⟨some 78,Op.build _ _,_,_,_,_⟩) rfl fun K hK=>?_);(refine wp_val (v:=MsgV msgZ sN) (by unfold execOp;simp only [List.map_toArray,List.map_nil,build_msg,Sem.run_bind,Result.andThen_ok,Sem.run_pure]) (hK _ _ ?_)))
   | ((with_reducible refine wpList_plain (o:=⟨none,Op.store _ (.tmp 10) (.tmp 78),_,_,_,_⟩) rfl fun K hK=>?_);(refine wp_store_msg (.tmp 10) (.tmp 78) g10 msgZ msgZ sN sN rfl rfl rfl (msgR_zero _) HO2.out fun w6 ho6 hg6 hs6=>hK _ _ ?_);have HO6:=Lib.hid ho6;have HG6:=Lib.hid hg6;clear ho6 hg6 hs6))
  refine bodyPost_ret (results_msg3 rfl _ rfl rfl rfl HO6.out) rfl ?_
  rw [HT.out]
  have hbl:Below w.heap.size w w6:=HBW.out.grown HG6.out (by have:=HBW.out.size;omega) (fun k e=>by cases e;exact HZ2.out.2.1)
  exact ⟨F,sN,rfl,msgR_zero _,HP.out.of_new hbl,OStep.of_below hbl,fun _=>hbl,fun _=>⟨sN.vi,rfl,fun q h=>by cases h⟩⟩
end Go.Proofs.YtnohglkilpnjhaaGreatDoor

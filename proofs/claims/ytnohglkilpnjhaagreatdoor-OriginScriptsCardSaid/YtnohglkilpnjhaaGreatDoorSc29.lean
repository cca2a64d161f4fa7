/- Lemmas that the statement of this claim leans on; their own comments are taken out, for the size of the claim. No condition beyond what each lemma states. -/
import Derived.Test.YtnohglkilpnjhaaGreatDoorSc28
set_option linter.unusedVariables false
set_option linter.unusedSimpArgs false
set_option linter.unusedSectionVars false
namespace Go.Proofs.YtnohglkilpnjhaaGreatDoor
open Go.RowKit
set_option maxRecDepth 100000
theorem build_org (t a b:Nat) (life:Int) (W:World):(Instr.build 91 #[(0,.pointer (some ⟨t,0,none⟩)),(1,.int .i64 life),(2,.map (some a)),(3,.map (some b))]).run Tryz.prog W = .ok (.agg #[.pointer (some ⟨t,0,none⟩),.int .i64 life,.map (some a),.map (some b)]) W:=by kernel_rfl
theorem build_rorg (t:Nat) (life:Int) (W:World):(Instr.build 77 #[(0,.pointer (some ⟨t,0,none⟩)),(1,.int .i64 life)]).run Tryz.prog W = .ok (.agg #[.pointer (some ⟨t,0,none⟩),.int .i64 life,.slice none 0 0,.slice none 0 0]) W:=by kernel_rfl
def orgOk (a b life:Int):Bool:=newOk a b && within life 1 1048576
theorem orgOk_iff {a b life:Int}:orgOk a b life = true↔((1 ≤ a∧a ≤ 1000)∧(1 ≤ b∧b ≤ 64))∧(1 ≤ life∧life ≤ 1048576):=by
 unfold orgOk
 rw [Bool.and_eq_true,newOk_iff]
 unfold within
 rw [decide_eq_true_iff]
theorem orgQ_new {w:World} {t mb:Nat} {most each life:Int} (h:TabP w t most each mb []) :
  OrgQ (((w.alloc (.map #[] 0)).alloc (.map #[] 0)).alloc (.cells #[.pointer (some ⟨t,0,none⟩),.int .i64 life,.map (some w.heap.size),.map (some (w.heap.size + 1))] 91)) (w.heap.size + 2) t mb w.heap.size (w.heap.size + 1) most each life [] [] []:=by
 have h1:Below w.heap.size w (w.alloc (.map #[] 0)):=(Below.refl _ w).alloc (Nat.le_refl _) _
 have hs1:(w.alloc (.map #[] 0)).heap.size = w.heap.size + 1:=by simp
 have h2:Below (w.heap.size + 1) (w.alloc (.map #[] 0)) ((w.alloc (.map #[] 0)).alloc (.map #[] 0)):=by rw [← hs1];exact (Below.refl _ _).alloc (Nat.le_refl _) _
 have hs2:((w.alloc (.map #[] 0)).alloc (.map #[] 0)).heap.size = w.heap.size + 2:=by simp
 have h3:Below (w.heap.size + 2) ((w.alloc (.map #[] 0)).alloc (.map #[] 0)) (((w.alloc (.map #[] 0)).alloc (.map #[] 0)).alloc (.cells #[.pointer (some ⟨t,0,none⟩),.int .i64 life,.map (some w.heap.size),.map (some (w.heap.size + 1))] 91)):=by rw [← hs2];exact (Below.refl _ _).alloc (Nat.le_refl _) _
 have hbl:=(h1.trans (h2.mono (by omega))).trans (h3.mono (by omega))
 refine ⟨?_,h.of_new hbl,?_,(fun x hx=>by cases hx),?_,(fun x hx=>by cases hx),by omega,fun q=>?_,fun q=>?_⟩
 ·rw [← hs2];exact heap_alloc_new _ _
 ·exact ((mapL_made (KT:=KDig) w).of_block (h2.block _ (by omega))).of_block (h3.block _ (by omega))
 ·have:=mapL_made (KT:=KDig) (w.alloc (.map #[] 0))
  rw [hs1] at this
  exact this.of_block (h3.block _ (by omega))
 ·have:=h.own_lt q;omega
 ·have:=h.own_lt q;omega
set_option maxHeartbeats 1600000 in
theorem ONew_ok (a b life:Int) (w:World) (h:orgOk a b life = true):Calls Tryz.prog 11 #[.int .i64 a,.int .i64 b,.int .i64 life] w fun e w'=>∃ o F,e = .returned (.tuple #[.pointer (some ⟨o,0,none⟩),.int .i64 0])∧OrgP w' o a b life OrgL.zero F∧(∀ k,F k→w.heap.size ≤ k)∧Below w.heap.size w w':=by
 unfold orgOk at h
 rw [Bool.and_eq_true] at h
 have HN:=Lib.hid h.1
 have hl:1 ≤ life∧life ≤ 1048576:=of_decide_eq_true h.2
 have l1:¬ life < 1:=by omega
 have l2:¬ (1048576:Int) < life:=by omega
 have hmm:=@run_makeMap Tryz.prog
 have hbo:=build_org
 clear h hl
 go_enter Tryz.func11,Tryz.ntmps11
 go_wp2_with (go_at_call 33;refine (New_ok a b _ HN.out).mono ?_;rintro e w2 ⟨t,mb,rfl,hT2,ht2,hmb2,hb2⟩;have HB2:=Lib.hid hb2;have HT2:=Lib.hid hT2;have HL2:=Lib.hid ht2;have HM2:=Lib.hid hmb2;clear hb2 hT2 ht2 hmb2)
 go_ret2
 have hz:=HB2.out.size
 refine ⟨_,_,rfl,⟨t,mb,_,_,[],[],[],orgQ_new HT2.out,rfl,rfl⟩,fun k hk=>?_,?_⟩
 ·rcases hk with rfl | rfl | hk
  ·omega
  ·omega
  ·rcases hk with rfl | ⟨x,hx,_⟩
   ·exact HM2.out
   ·cases hx
 ·exact ((HB2.out.alloc hz _).alloc (by simp;omega) _).alloc (by simp;omega) _
set_option maxHeartbeats 1600000 in
theorem ONew_bad (a b life:Int) (w:World) (h:orgOk a b life = false):Calls Tryz.prog 11 #[.int .i64 a,.int .i64 b,.int .i64 life] w fun e w'=>e = .returned (.tuple #[.pointer none,.int .i64 1])∧Below w.heap.size w w':=by
 unfold orgOk at h
 rcases hn:newOk a b with _ | _
 ·have HN:=Lib.hid hn
  clear h hn
  go_enter Tryz.func11,Tryz.ntmps11
  go_wp2_with (go_at_call 33;refine (New_bad a b _ HN.out).mono ?_;rintro e w2 ⟨rfl,hb2⟩;have HB2:=Lib.hid hb2;clear hb2)
  go_ret2
  exact ⟨rfl,HB2.out⟩
 ·rw [hn,Bool.true_and] at h
  have HN:=Lib.hid hn
  have hl:¬ (1 ≤ life∧life ≤ 1048576):=of_decide_eq_false h
  clear h hn
  by_cases l1:life < 1
  ·clear hl
   go_enter Tryz.func11,Tryz.ntmps11
   go_wp2_with (go_at_call 33;refine (New_ok a b _ HN.out).mono ?_;rintro e w2 ⟨t,mb,rfl,hT2,ht2,hmb2,hb2⟩;have HB2:=Lib.hid hb2;clear hb2 hT2 ht2 hmb2)
   go_ret2
   exact ⟨rfl,HB2.out⟩
  ·have l2:(1048576:Int) < life:=by omega
   clear hl
   go_enter Tryz.func11,Tryz.ntmps11
   go_wp2_with (go_at_call 33;refine (New_ok a b _ HN.out).mono ?_;rintro e w2 ⟨t,mb,rfl,hT2,ht2,hmb2,hb2⟩;have HB2:=Lib.hid hb2;clear hb2 hT2 ht2 hmb2)
   go_ret2
   exact ⟨rfl,HB2.out⟩
theorem rorgQ_new {w0 w:World} {rt:Nat} {many most life:Int} (h:RTabP w rt many most w0.heap.size (.slice none 0 0) [] []) (hb:w0.heap.size ≤ w.heap.size) :
  ROrgP (w.alloc (.cells #[.pointer (some ⟨rt,0,none⟩),.int .i64 life,.slice none 0 0,.slice none 0 0] 77)) w.heap.size many most life w0.heap.size OrgL.zero:=by
 refine ⟨rt,_,_,_,_,_,[],[],⟨heap_alloc_new _ _,hb,h.of_new ((Below.refl _ w).alloc (Nat.le_refl _) _),RecT.Own.nil _ _,(fun x hx=>by cases hx),RecT.Own.nil _ _,(fun x hx=>by cases hx)⟩,rfl⟩
set_option maxHeartbeats 1600000 in
theorem RONew_ok (a b life:Int) (w:World) (h:orgOk a b life = true):Calls Tryz.prog 22 #[.int .i64 a,.int .i64 b,.int .i64 life] w fun e w'=>∃ r,e = .returned (.tuple #[.pointer (some ⟨r,0,none⟩),.int .i64 0])∧ROrgP w' r a b life w.heap.size OrgL.zero∧Below w.heap.size w w':=by
 unfold orgOk at h
 rw [Bool.and_eq_true] at h
 have HN:=Lib.hid h.1
 have hl:=h.2
 have hbo:=build_rorg
 clear h
 go_enter Tryz.func22,Tryz.ntmps22
 go_wp2_with (first
  | (go_at_call 58;refine (RNew_ok a b _ HN.out).mono ?_;rintro e w2 ⟨rt,rfl,hT2,hb2⟩;have HB2:=Lib.hid hb2;have HT2:=Lib.hid hT2;clear hb2 hT2)
  | (go_at_call 59;refine (RIsLife_any _ _).mono ?_;rintro e w1 ⟨rfl,rfl⟩))
 go_ret2
 exact ⟨_,rfl,rorgQ_new HT2.out HB2.out.size,HB2.out.alloc HB2.out.size _⟩
set_option maxHeartbeats 1600000 in
theorem RONew_bad (a b life:Int) (w:World) (h:orgOk a b life = false):Calls Tryz.prog 22 #[.int .i64 a,.int .i64 b,.int .i64 life] w fun e w'=>e = .returned (.tuple #[.pointer none,.int .i64 1])∧Below w.heap.size w w':=by
 unfold orgOk at h
 rcases hn:newOk a b with _ | _
 ·have HN:=Lib.hid hn
  clear h hn
  go_enter Tryz.func22,Tryz.ntmps22
  go_wp2_with (go_at_call 58;refine (RNew_bad a b _ HN.out).mono ?_;rintro e w2 ⟨rfl,rfl⟩)
  go_ret2
  exact ⟨rfl,Below.refl _ _⟩
 ·rw [hn,Bool.true_and] at h
  have HN:=Lib.hid hn
  clear hn
  go_enter Tryz.func22,Tryz.ntmps22
  go_wp2_with (first
   | (go_at_call 58;refine (RNew_ok a b _ HN.out).mono ?_;rintro e w2 ⟨rt,rfl,hT2,hb2⟩;have HB2:=Lib.hid hb2;clear hb2 hT2)
   | (go_at_call 59;refine (RIsLife_any _ _).mono ?_;rintro e w1 ⟨rfl,rfl⟩))
  go_ret2
  exact ⟨rfl,HB2.out⟩
theorem right_one:mrightB ((([7]:List UInt8).length:Nat):Int) 16 = true:=by decide
theorem pub_one:∃ S nm,pubL OrgL.zero [[7]] 16 = (S,nm,0)∧nm.length = 32∧(imgAt S nm).isSome = true:=by
 have hb:blobsL 16 [[7]] = [(blobE [7] 16).1]:=rfl
 have he:encGE (blobsL 16 [[7]]) = 0:=by
  have h1:imageE (blobsL 16 [[7]]) = 0:=by
   rw [hb]
   refine image_one ?_
   unfold blobE
   rw [if_pos right_one]
   exact right_one
  obtain ⟨h2,_⟩:=encG_some h1 (blobsL_ok 16 [[7]])
  unfold encGE
  rw [if_pos h1]
  unfold encG at h2
  rw [if_pos h1] at h2
  rw [h2];rfl
 refine ⟨⟨[(nameL (blobsL 16 [[7]]),blobsL 16 [[7]])],(contsL 16 [[7]]).foldl addC [],[]⟩,nameL (blobsL 16 [[7]]),?_,nameL_len _,?_⟩
 ·unfold pubL
  rw [if_pos (by unfold layersOk;simp only [List.all_cons,List.all_nil,Bool.and_true];exact right_one),if_pos he,if_neg (by simp [imgAt,OrgL.zero]),if_neg (by simp [OrgL.zero])]
  rfl
 ·simp [imgAt]
theorem take_ask {S:OrgL} {nm:List UInt8} {most each life:Int} (h:(imgAt S nm).isSome = true):∃ bs,takeO S most each life 3 1 (mk0 9 nm) 0 = (S,{ mk0 10 nm with bytes:=bs },true,0):=by
 obtain ⟨xs,hx⟩:=Option.isSome_iff_exists.1 h
 refine ⟨(encG xs).getD [],?_⟩
 have hr:wrightB (mk0 9 nm) = true:=by
  rw [wrightB_eq]
  simp [itemB,hasL,mk0,fitsB,bareB]
 have hok:takeOk 3 1 (mk0 9 nm) = true:=takeOk_iff.2 ⟨by omega,by omega,hr⟩
 unfold takeO
 rw [if_pos hok,if_pos (show (mk0 9 nm).kind = 9 from rfl)]
 have ht:tellL S nm = { mk0 10 nm with bytes:=(encG xs).getD [] }:=by unfold tellL;rw [hx]
 show (S,tellL S nm,true,0) = _
 rw [ht]
theorem parts_one19 {w:World}:PartsV ((w.alloc (.cells #[.int .u8 7] 5)).alloc (.cells #[.slice (some ⟨w.heap.size,0,none⟩) 1 1] 33)) (.slice (some ⟨w.heap.size + 1,0,none⟩) 1 1) [[7]]:=by
 have h1:=heap_alloc_new w (.cells #[.int .u8 7] 5)
 have hs:(w.alloc (.cells #[.int .u8 7] 5)).heap.size = w.heap.size + 1:=by simp
 have h2:=heap_alloc_new (w.alloc (.cells #[.int .u8 7] 5)) (.cells #[.slice (some ⟨w.heap.size,0,none⟩) 1 1] 33)
 rw [hs] at h2
 refine ⟨_,1,rfl,by simp,by unfold maxLen;omega,(fun h=>by cases h),fun _=>⟨w.heap.size + 1,0,rfl,by simp,fun i hi=>?_⟩⟩
 obtain rfl:i = 0:=by simp at hi;omega
 refine ⟨.slice (some ⟨w.heap.size,0,none⟩) 1 1,by simp only [World.cell?,h2];rfl,?_⟩
 have hb:Bytes (w.alloc (.cells #[.int .u8 7] 5)) (.slice (some ⟨w.heap.size,0,none⟩) 1 1) [7]:=by
  refine ⟨rfl,_,1,rfl,by simp,by unfold maxLen;omega,(fun h=>by cases h),fun _=>⟨w.heap.size,0,rfl,by simp,fun j hj=>?_⟩⟩
  obtain rfl:j = 0:=by simp at hj;omega
  simp only [World.cell?,h1];rfl
 exact hb.of_new ((Below.refl _ _).alloc (Nat.le_refl _) _)
theorem mk0_ok {k:Int} {d:List UInt8} (h:inI64 k):(mk0 k d).ok:=⟨h,(by show inI64 0;unfold inI64;omega),(fun n hn=>by cases hn),fun x hx=>by cases hx⟩
set_option maxHeartbeats 3200000 in
theorem oawake_any (w:World) (hKc:Consts w):Calls Tryz.prog 9 #[] w fun e w'=>e = .returned (.bool true)∧Below w.heap.size w w':=by
 obtain ⟨S,nm,hpub,hn32,hsome⟩:=pub_one
 obtain ⟨bs,htake⟩:=take_ask (most:=5) (each:=5) (life:=10) hsome
 have HPUB:=Lib.hid hpub
 have HN32:=Lib.hid hn32
 have HTAKE:=Lib.hid htake
 have HKC:=Lib.hid hKc
 have hokS:OrgOk 5 5 S:=by
  have:=(OrgOk.zero (most:=5) (each:=5) (by omega)).pub [[7]] 16
  rw [hpub] at this
  exact this
 have HOK:=Lib.hid hokS
 have HZ:=Lib.hid (OrgOk.zero (most:=5) (each:=5) (by omega))
 clear hpub hn32 hsome htake hKc hokS
 go_enter Tryz.func9,Tryz.ntmps9
 go_upto_region 4 with (go_at_call 11;refine (ONew_ok 5 5 10 _ (by decide)).mono ?_;rintro e w1 ⟨o,F,rfl,ho1,hf1,hb1⟩;have HO1:=Lib.hid ho1;have HF1:=Lib.hid hf1;have HB1:=Lib.hid hb1;clear ho1 hf1 hb1)
 go_upto_region 5 with (first
  | (go_at_call 12;have hb2:Below w1.heap.size w1 _:=((Below.refl _ w1).alloc (Nat.le_refl _) (.cells #[.int .u8 7] 5)).alloc (by simp) (.cells #[.slice (some ⟨w1.heap.size,0,none⟩) 1 1] 33);refine (OPublish_any o 5 5 10 OrgL.zero F _ [[7]] 16 _ (HO1.out.of_new hb2) HZ.out parts_one19 (by decide) ((HKC.out.of_new HB1.out).of_new hb2)).mono ?_;unfold PubPost;rw [HPUB.out];rintro e w3 ⟨F3,rfl,ho3,hs3⟩;have HO3:=Lib.hid ho3;have HB3:=Lib.hid (hs3.below (below_next HB1.out hb2) (by have:=HB1.out.size;have:=hb2.size;omega) HF1.out);have HF3:=Lib.hid (fun k hk=>(hs3.own k hk).elim (HF1.out k) (fun h=>Nat.le_trans (Nat.le_trans HB1.out.size hb2.size) h));clear hb2 ho3 hs3)
  | ((with_reducible refine wpList_plain (o:=⟨some 3,Op.alloc _,_,_,_,_⟩) rfl fun K hK=>?_);(refine wp_alloc_dig rfl fun w4 ho4 hb4 hs4=>hK _ _ ?_);have HO4:=Lib.hid ho4;have HB4:=Lib.hid hb4;clear ho4 hb4 hs4)
  | ((with_reducible refine wpList_plain (o:=⟨none,Op.store _ (.tmp 3) (.tmp 23),_,_,_,_⟩) rfl fun K hK=>?_);(refine wp_store_digO (.tmp 3) (.tmp 23) w3.heap.size nm dig0 rfl rfl rfl HN32.out HO4.out fun w5 ho5 hg5 hs5=>hK _ _ ?_);have hb5:=HB4.out.grown hg5 (by have:=HB4.out.size;omega) (fun k e=>by cases e;exact Nat.le_refl _);have HDG:=Lib.hid ho5.at_;have HB5:=Lib.hid hb5;clear ho5 hg5 hs5 hb5))
 obtain ⟨g3,hg3⟩:∃ g,w3.heap.size = g:=⟨_,rfl⟩
 rw [hg3] at HDG ⊢
 clear hg3
 have HO5:=Lib.hid (HO3.out.of_new HB5.out)
 have HBW:=Lib.hid (below_next HB3.out HB5.out)
 have hT:=fun W h1 h2=>OTake_any o 5 5 10 S F3 3 1 (mk0 9 nm) sN 0 W h1 HOK.out (by omega) (by omega) (msgR_0 W 9 HN32.out) (mk0_ok (by unfold inI64;omega)) (by omega) h2
 rw [HTAKE.out] at hT
 have HT:=Lib.hid hT
 clear hT
 go_upto_region 6 with (first
  | ((with_reducible refine wpList_plain (o:=⟨some 27,Op.load _ _,_,_,_,_⟩) rfl fun K hK=>?_);(refine wp_load_at (ty:=31) (x:=.tmp 3) rfl rfl HDG.out (hK _ _ ?_)))
  | ((with_reducible refine wpList_plain (o:=⟨some 28,Op.build _ _,_,_,_,_⟩) rfl fun K hK=>?_);(refine wp_build_m1 9 nm HN32.out rfl rfl rfl (hK _ _ ?_)))
  | (go_at_call 13;refine (HT.out _ HO5.out (HKC.out.of_new HBW.out)).mono ?_;unfold TakePost;rintro e w6 ⟨F6,s6,rfl,hr6, -, -,hb6, -⟩;have HR6:=Lib.hid hr6;have HB6:=Lib.hid (below_next HBW.out (hb6 (by show (9:Int) ≠ 6;decide)));clear hr6 hb6)
  | ((with_reducible refine wpList_plain (o:=⟨some 5,Op.alloc _,_,_,_,_⟩) rfl fun K hK=>?_);(refine wp_alloc_msg rfl fun w7 ho7 hb7 hs7=>hK _ _ ?_);have HO7:=Lib.hid ho7.o;have HB7:=Lib.hid hb7;have HR7:=Lib.hid (HR6.out.of_new hb7);clear ho7 hb7 hs7)
  | ((with_reducible refine wpList_plain (o:=⟨none,Op.store _ (.tmp 5) (.tmp 30),_,_,_,_⟩) rfl fun K hK=>?_);(refine wp_store_msg (.tmp 5) (.tmp 30) w6.heap.size _ msgZ s6 sN rfl rfl rfl HR7.out HO7.out fun w8 ho8 hg8 hs8=>hK _ _ ?_);have HO8:=Lib.hid ho8;have HB8:=Lib.hid (below_next HB6.out (HB7.out.grown hg8 (by have:=HB7.out.size;omega) (fun k e=>by cases e;exact Nat.le_refl _)));clear ho8 hg8 hs8))
 have hk:=HO8.out.kind
 rw [show (({ mk0 10 nm with bytes:=bs }:MsgL)).kind = 10 from rfl] at hk
 go_wp2
 go_ret
 exact ⟨rfl,HB8.out⟩
structure S19 where
 act:Int
 n:Int
 frm:Int
 now:Int
 vl:Value
 m:MsgL
 s:MsgS
 seed:Nat
def S19.cells (x:S19):List Value:=[.int .i64 x.act,.int .i64 x.n,.int .i64 x.frm,.int .i64 x.now,x.vl] ++ (msgCells x.m x.s ++ [.int .u64 (x.seed:Int)])
def S19.zero:S19:=⟨0,0,0,0,.slice none 0 0,msgZ,sN,0⟩
structure S19R (w:World) (x:S19) (ls:List (List UInt8)):Prop where
 parts:PartsV w x.vl ls
 msg:MsgR w x.m x.s
 ok:x.m.ok
 act:inI64 x.act
 n:inI64 x.n
 frm:inI64 x.frm
 now:inI64 x.now
 seed:x.seed < 18446744073709551616
theorem S19R.of_new {w w':World} {x:S19} {ls:List (List UInt8)} (h:S19R w x ls) (hb:Below w.heap.size w w'):S19R w' x ls:=⟨h.parts.of_new hb,h.msg.of_new hb,h.ok,h.act,h.n,h.frm,h.now,h.seed⟩
theorem S19.len {x:S19} (h:x.m.hash.length = 32):x.cells.length = 45:=by simp [S19.cells,msgCells_len h]
def StepAt (w:World) (g off:Nat) (x:S19):Prop:=x.m.hash.length = 32∧g < w.heap.size∧∀ j,j < 45→w.cell? ⟨g,off + j,none⟩ = x.cells[j]?
theorem StepAt.of_new {w w':World} {g off:Nat} {x:S19} (h:StepAt w g off x) (hb:Below w.heap.size w w'):StepAt w' g off x:=⟨h.1,Nat.lt_of_lt_of_le h.2.1 hb.size,fun j hj=>(hb.cell (p:=⟨g,off + j,none⟩) h.2.1).trans (h.2.2 j hj)⟩
def StepO (w:World) (g:Nat) (x:S19):Prop:=w.heap[g]? = some (.cells x.cells.toArray 40 (0,0))∧x.m.hash.length = 32
theorem StepO.lt {w:World} {g:Nat} {x:S19} (h:StepO w g x):g < w.heap.size:=(Array.getElem?_eq_some_iff.1 h.1).1
theorem StepO.of_block {w w':World} {g:Nat} {x:S19} (h:StepO w g x) (e:w'.heap[g]? = w.heap[g]?):StepO w' g x:=⟨e.trans h.1,h.2⟩
theorem StepO.of_new {w w':World} {g:Nat} {x:S19} (h:StepO w g x) (hb:Below w.heap.size w w'):StepO w' g x:=h.of_block (hb.block _ h.lt)
theorem StepO.at_ {w:World} {g:Nat} {x:S19} (h:StepO w g x):StepAt w g 0 x:=⟨h.2,h.lt,fun j hj=>by simp only [World.cell?,h.1,Nat.zero_add];simp⟩
theorem info_step:(Tryz.prog.info? 40).map (fun i=>(i.zero,i.size,i.bytes)) = some (some (.agg S19.zero.cells.toArray),45,216):=by kernel_rfl
theorem StepAt.load {w:World} {g off:Nat} {x:S19} (h:StepAt w g off x):(loadVar 40 ⟨g,off,none⟩).run Tryz.prog w = .ok (.agg x.cells.toArray) w:=by
 obtain ⟨i,hi,hz,hsize,hby⟩:=info_parts info_step
 have hl:=run_loadCells_list (P:=Tryz.prog) w ⟨g,off,none⟩ x.cells (fun j v hv=>by
  have hj:j < 45:=by rw [← S19.len h.1];exact (List.getElem?_eq_some_iff.1 hv).1
  have hadd:(⟨g,off,none⟩:Addr).add j = ⟨g,off + j,none⟩:=by unfold Addr.add;split <;> simp_all
  rw [hadd,h.2.2 j hj,hv])
 rw [S19.len h.1] at hl
 have ha:(Go.isAgg 40).run Tryz.prog w = .ok true w:=by
  simp only [Go.isAgg,Sem.run_bind,run_underlying Tryz.underlying40,Result.andThen_ok];rfl
 simp [loadVar,ha,sizeOf,typeInfo,hi,hsize,hl]
theorem StepAt.wp {w:World} {g off:Nat} {x:S19} {o:Oper} {a:Act} {K:Act→World→Prop} {Q:Exit→Act→World→Prop} {p:Operand} (h:StepAt w g off x) (ho:o.op = .load 40 p) (hp:a.eval p = .pointer (some ⟨g,off,none⟩)) (hK:K (a.put o.dst (.agg x.cells.toArray)) w):o.wp Tryz.prog a w K Q:=by
 refine wp_val (v:=.agg x.cells.toArray) ?_ hK
 have:=h.load
 unfold execOp
 simp only [ho,hp,Instr.loadAt,Instr.sureAddr,Sem.run_bind,Sem.run_pure,Result.andThen_ok,this]
section
variable {w:World} {g off:Nat} {x:S19}
theorem StepAt.c (h:StepAt w g off x) (j:Nat) (hj:j < 45) {u:Value} (hu:x.cells[j]? = some u):w.cell? ⟨g,off + j,none⟩ = some u:=(h.2.2 j hj).trans hu
theorem StepAt.act (h:StepAt w g off x):w.cell? ⟨g,off,none⟩ = some (.int .i64 x.act):=h.c 0 (by omega) rfl
theorem StepAt.n (h:StepAt w g off x):w.cell? ⟨g,off + 1,none⟩ = some (.int .i64 x.n):=h.c 1 (by omega) rfl
theorem StepAt.frm (h:StepAt w g off x):w.cell? ⟨g,off + 2,none⟩ = some (.int .i64 x.frm):=h.c 2 (by omega) rfl
theorem StepAt.now (h:StepAt w g off x):w.cell? ⟨g,off + 3,none⟩ = some (.int .i64 x.now):=h.c 3 (by omega) rfl
theorem StepAt.vl (h:StepAt w g off x):w.cell? ⟨g,off + 4,none⟩ = some x.vl:=h.c 4 (by omega) rfl
theorem S19.msg_at {x:S19} (h:x.m.hash.length = 32) {j:Nat} (hj:j < 39):x.cells[5 + j]? = (msgCells x.m x.s)[j]?:=by
 unfold S19.cells
 rw [List.getElem?_append_right (by simp)]
 simp only [List.length_cons,List.length_nil,Nat.zero_add,Nat.add_sub_cancel_left]
 rw [List.getElem?_append_left (by rw [msgCells_len h];exact hj)]
theorem StepAt.msgc (h:StepAt w g off x) {j:Nat} (hj:j < 39):w.cell? ⟨g,off + (5 + j),none⟩ = (msgCells x.m x.s)[j]?:=(h.2.2 (5 + j) (by omega)).trans (S19.msg_at h.1 hj)
theorem StepAt.kind (h:StepAt w g off x):w.cell? ⟨g,off + 5,none⟩ = some (.int .i64 x.m.kind):=(h.msgc (j:=0) (by omega)).trans rfl
theorem StepAt.hash (h:StepAt w g off x):DigAt w g (off + 6) x.m.hash:=⟨h.1,fun j hj=>by
 have h1:=h.msgc (j:=1 + j) (by omega)
 rw [show off + 6 + j = off + (5 + (1 + j)) by omega,h1]
 show (Value.int .i64 x.m.kind :: (x.m.hash.map B8 ++ _))[1 + j]? = _
 rw [Nat.add_comm 1 j,List.getElem?_cons_succ,List.getElem?_append_left (by simp [h.1];exact hj)]⟩
theorem StepAt.tail (h:StepAt w g off x) (j:Nat) (hj:j < 6):w.cell? ⟨g,off + (38 + j),none⟩ = [.int .i64 x.m.piece,x.s.vi,x.s.vb,x.s.vp,x.s.vm,.bool x.m.seed][j]?:=by
 have h1:=h.msgc (j:=33 + j) (by omega)
 rw [show 38 + j = 5 + (33 + j) by omega,h1,msgCells_tail h.1]
theorem StepAt.vi (h:StepAt w g off x):w.cell? ⟨g,off + 39,none⟩ = some x.s.vi:=h.tail 1 (by omega)
theorem StepAt.vb (h:StepAt w g off x):w.cell? ⟨g,off + 40,none⟩ = some x.s.vb:=h.tail 2 (by omega)
theorem StepAt.vp (h:StepAt w g off x):w.cell? ⟨g,off + 41,none⟩ = some x.s.vp:=h.tail 3 (by omega)
theorem StepAt.vm (h:StepAt w g off x):w.cell? ⟨g,off + 42,none⟩ = some x.s.vm:=h.tail 4 (by omega)
theorem StepAt.seed (h:StepAt w g off x):w.cell? ⟨g,off + 44,none⟩ = some (.int .u64 (x.seed:Int)):=by
 refine h.c 44 (by omega) ?_
 unfold S19.cells
 rw [List.getElem?_append_right (by simp)]
 simp only [List.length_cons,List.length_nil,Nat.zero_add]
 rw [List.getElem?_append_right (by rw [msgCells_len h.1];omega),msgCells_len h.1]
 rfl
theorem StepAt.loadMsg (h:StepAt w g off x):(loadVar 37 ⟨g,off + 5,none⟩).run Tryz.prog w = .ok (MsgV x.m x.s) w:=by
 have hl:=run_loadCells_list (P:=Tryz.prog) w ⟨g,off + 5,none⟩ (msgCells x.m x.s) (fun j v hv=>by
  have hj:j < 39:=by rw [← msgCells_len (s:=x.s) h.1];exact (List.getElem?_eq_some_iff.1 hv).1
  have hadd:(⟨g,off + 5,none⟩:Addr).add j = ⟨g,off + (5 + j),none⟩:=by unfold Addr.add;split <;> simp_all [Nat.add_assoc]
  rw [hadd,h.msgc hj,hv])
 rw [msgCells_len h.1] at hl
 have ha:(Go.isAgg 37).run Tryz.prog w = .ok true w:=by
  simp only [Go.isAgg,Sem.run_bind,run_underlying Tryz.underlying37,Result.andThen_ok];rfl
 have hs:=size_msg
 obtain ⟨i,hi,hsz⟩:=Option.map_eq_some_iff.1 hs
 simp [loadVar,ha,sizeOf,typeInfo,hi,hsz,hl,MsgV]
theorem wp_load_stepmsg {o:Oper} {a:Act} {K:Act→World→Prop} {Q:Exit→Act→World→Prop} {p:Operand} (ho:o.op = .load 37 p) (hp:a.eval p = .pointer (some ⟨g,off + 5,none⟩)) (h:StepAt w g off x) (hK:K (a.put o.dst (MsgV x.m x.s)) w):o.wp Tryz.prog a w K Q:=by
 refine wp_val (v:=MsgV x.m x.s) ?_ hK
 have:=h.loadMsg
 unfold execOp
 simp only [ho,hp,Instr.loadAt,Instr.sureAddr,Sem.run_bind,Sem.run_pure,Result.andThen_ok,this]
end
def StepsV (w:World) (v:Value) (l:List (S19 × List (List UInt8))):Prop:=
 ∃ (a:Option Addr) (c:Nat),v = .slice a l.length c∧l.length ≤ c∧c ≤ maxLen∧(∀ p ∈ l,S19R w p.1 p.2) ∧
  (0 < l.length→∃ b off,a = some ⟨b,off,none⟩∧b < w.heap.size∧∀ i p,l[i]? = some p→StepAt w b (off + i * 45) p.1)
theorem StepsV.of_new {w w':World} {v:Value} {l:List (S19 × List (List UInt8))} (h:StepsV w v l) (hb:Below w.heap.size w w'):StepsV w' v l:=by
 obtain ⟨a,c,h1,h2,h3,h4,h5⟩:=h
 refine ⟨a,c,h1,h2,h3,fun p hp=>(h4 p hp).of_new hb,fun h0=>?_⟩
 obtain ⟨b,off,e,hlt,hat⟩:=h5 h0
 exact ⟨b,off,e,Nat.lt_of_lt_of_le hlt hb.size,fun i p hi=>(hat i p hi).of_new hb⟩
theorem StepsV.len {w:World} {v:Value} {l:List (S19 × List (List UInt8))} (h:StepsV w v l):∃ a c,v = .slice a l.length c:=by
 obtain ⟨a,c,h1,_⟩:=h
 exact ⟨a,c,h1⟩
theorem StepsV.le {w:World} {v:Value} {l:List (S19 × List (List UInt8))} (h:StepsV w v l):l.length ≤ 9223372036854775807:=by
 obtain ⟨a,c,h1,h2,h3,_⟩:=h
 unfold maxLen at h3
 omega
def FewSt (l:List (S19 × List (List UInt8))):Prop:=∀ i p,i < 100→l[i]? = some p→p.2.length ≤ 20
def MuchPost (l:List (S19 × List (List UInt8))) (w:World) (e:Ending) (w':World):Prop:=∃ b,e = .returned (.bool b)∧w' = w∧(b = false→FewSt l)
set_option maxHeartbeats 6400000 in
theorem much_any (v:Value) (l:List (S19 × List (List UInt8))) (w:World) (hl:StepsV w v l) :
  Calls Tryz.prog 10 #[v] w (MuchPost l w):=by
 have hle:=hl.le
 obtain ⟨va,vc,hv,_,_,hall,hat⟩:=hl
 subst hv
 have HALL:=Lib.hid hall
 have HAT:=Lib.hid hat
 clear hall hat
 obtain ⟨n,hn⟩:∃ n,l.length = n:=⟨_,rfl⟩
 rw [hn] at hle HAT ⊢
 have HN:=Lib.hid hn
 clear hn
 go_enter Tryz.func10,Tryz.ntmps10
 go_wp2
 go_loopw [3,4,5] (fun nv iv _ W'=>∃ i s:Nat,i ≤ n∧s ≤ 40000∧nv = .int .i64 (s:Int)∧iv = .int .i64 (i:Int)∧(∀ j p,j < i→l[j]? = some p→p.2.length ≤ 20)∧W' = w) (fun _ iv _ _=>n - (intOf iv).toNat)
 case atStart=>exact ⟨0,0,Nat.zero_le _,by omega,rfl,rfl,(fun j p hj=>absurd hj (Nat.not_lt_zero _)),rfl⟩
 case round=>
  obtain ⟨i,s,hi,hs,rfl,rfl,hlow,rfl⟩:=hrel
  have HLOW:=Lib.hid hlow
  clear hlow
  by_cases hlt:i < n
  case neg=>
   have hii:¬ (i:Int) < (n:Int):=by omega
   have hfew:FewSt l:=fun j p hj hp=>HLOW.out j p (by have:=(List.getElem?_eq_some_iff.1 hp).1;rw [HN.out] at this;omega) hp
   have HF:=Lib.hid hfew
   clear hfew
   go_wp2
   go_ret
   exact ⟨_,rfl,rfl,fun _=>HF.out⟩
  have hii:(i:Int) < (n:Int):=by omega
  by_cases h100:i < 100
  case neg=>
   have h1i:¬ (i:Int) < 100:=by omega
   have hfew:FewSt l:=fun j p hj hp=>HLOW.out j p (by omega) hp
   have HF:=Lib.hid hfew
   clear hfew
   go_wp2
   go_ret
   exact ⟨_,rfl,rfl,fun _=>HF.out⟩
  have h1i:(i:Int) < 100:=by omega
  obtain ⟨b,off,rfl,hbl,hst⟩:=HAT.out (by omega)
  obtain ⟨p,hp⟩:∃ p,l[i]? = some p:=⟨_,List.getElem?_eq_getElem (by rw [HN.out];exact hlt)⟩
  have hs19:=HALL.out p (List.mem_of_getElem? hp)
  have hat:=hst i p hp
  obtain ⟨la,lc,hlv⟩:=hs19.parts.len
  obtain ⟨ia,ic,hiv⟩:=hs19.msg.ids.len
  obtain ⟨ba,bc,hbv⟩:=hs19.msg.bytes.len
  obtain ⟨pa,pc,hpv⟩:=hs19.msg.proof.len
  obtain ⟨ma,mc,hmv⟩:=hs19.msg.members.len
  have c4:=hat.vl
  have c39:=hat.vi
  have c40:=hat.vb
  have c41:=hat.vp
  have c42:=hat.vm
  have hpt:=hs19.parts
  rw [hlv] at c4 hpt
  rw [hiv] at c39
  rw [hbv] at c40
  rw [hpv] at c41
  rw [hmv] at c42
  obtain ⟨nI,hnI⟩:∃ k,p.1.m.ids.length = k:=⟨_,rfl⟩
  obtain ⟨nB,hnB⟩:∃ k,p.1.m.bytes.length = k:=⟨_,rfl⟩
  obtain ⟨nP,hnP⟩:∃ k,p.1.m.proof.length = k:=⟨_,rfl⟩
  obtain ⟨nM,hnM⟩:∃ k,p.1.m.members.length = k:=⟨_,rfl⟩
  obtain ⟨nL,hnL⟩:∃ k,p.2.length = k:=⟨_,rfl⟩
  rw [hnI] at c39
  rw [hnB] at c40
  rw [hnP] at c41
  rw [hnM] at c42
  rw [hnL] at c4 hpt
  have HNL:=Lib.hid hnL
  have HP:=Lib.hid hp
  have HPT:=Lib.hid hpt
  clear hs19 hat hlv hiv hbv hpv hmv hnI hnB hnP hnM hnL hp hst hpt
  by_cases t1:(20:Int) < (nL:Int)
  ·go_wp2
   go_ret
   exact ⟨true,rfl,rfl,fun h=>by cases h⟩
  by_cases t2:(20000:Int) < (nB:Int)
  ·go_wp2
   go_ret
   exact ⟨true,rfl,rfl,fun h=>by cases h⟩
  by_cases t3:(200:Int) < (nI:Int)
  ·go_wp2
   go_ret
   exact ⟨true,rfl,rfl,fun h=>by cases h⟩
  by_cases t4:(50:Int) < (nP:Int)
  ·go_wp2
   go_ret
   exact ⟨true,rfl,rfl,fun h=>by cases h⟩
  by_cases t5:(200:Int) < (nM:Int)
  ·go_wp2
   go_ret
   exact ⟨true,rfl,rfl,fun h=>by cases h⟩
  go_wp2
  clear t2 t3 t4 t5 c39 c40 c41 c42
  go_loopw [3,5] (fun nv kv W'=>∃ k s:Nat,k ≤ nL∧s ≤ 40000∧nv = .int .i64 (s:Int)∧kv = .int .i64 (k:Int)∧W' = wr) (fun _ kv _=>nL - (intOf kv).toNat)
  case atStart=>exact ⟨0,s,Nat.zero_le _,hs,rfl,rfl,rfl⟩
  case round=>
   obtain ⟨k,s2,hk,hs2,rfl,rfl,rfl⟩:=hrel
   by_cases hkl:k < nL
   ·have hkk:(k:Int) < (nL:Int):=by omega
    obtain ⟨qb,qoff,qc,hqv,hqb,hqat⟩:=HPT.out.at_ (by rw [HNL.out];omega)
    rw [HNL.out] at hqv hqat
    obtain ⟨rfl,rfl⟩:la = some ⟨qb,qoff,none⟩∧lc = qc:=by cases hqv;exact ⟨rfl,rfl⟩
    obtain ⟨ua,uc,hcell,hub⟩:=hqat k hkl
    obtain ⟨nb,hnb⟩:∃ q,(p.2.getD k []).length = q:=⟨_,rfl⟩
    rw [hnb] at hcell
    clear hqv hqat hub hnb
    by_cases t6:(3000:Int) < (nb:Int)
    ·go_wp2
     go_ret
     exact ⟨true,rfl,rfl,fun h=>by cases h⟩
    by_cases t7:(30000:Int) < (s2:Int)
    ·go_wp2
     go_ret
     exact ⟨true,rfl,rfl,fun h=>by cases h⟩
    go_wp2
    go_roundw
    case rel=>exact ⟨k + 1,s2 + nb,by omega,by omega,by go_num,by go_num,by first | trivial | rfl⟩
    case measure=>simp [intOf];omega
   ·obtain rfl:k = nL:=by omega
    have hkk:¬ (k:Int) < (k:Int):=by omega
    go_wp2
    go_roundw
    case rel=>
     refine ⟨i + 1,s2,by omega,hs2,by go_num,by go_num,fun j q hj hq=>?_,by first | trivial | rfl⟩
     rcases Nat.lt_or_ge j i with h | h
     ·exact HLOW.out j q h hq
     ·obtain rfl:j = i:=by omega
      rw [HP.out] at hq
      cases hq
      rw [HNL.out];omega
    case measure=>simp [intOf];omega
def BlobI (C:List RCntR) (d:List UInt8) (i:Int):Prop:=(i = -1∧contIn (C.map plR) d = none)∨∃ (j:Nat) (x:RCntR),i = j∧C[j]? = some x∧contIn (C.map plR) d = some (plR x)
set_option maxHeartbeats 3200000 in
theorem RBlobAt_any (r rt:Nat) (many most life:Int) (B:Nat) (v:Value) (L:RefL) (T:TabL) (vi vb:Value) (I:List ImgR) (C:List RCntR) (d:List UInt8) (w:World) (hQ:ROrgQ w r rt many most life B v L T vi vb I C) (hc:C.length ≤ 100000) (h32:d.length = 32) :
  Calls Tryz.prog 63 #[.pointer (some ⟨r,0,none⟩),.agg (d.map B8).toArray] w fun e w'=>∃ i,e = .returned (.int .i64 i)∧BlobI C d i∧Below w.heap.size w w':=by
 obtain ⟨W,hW⟩:∃ W,w.alloc (.cells (d.map B8).toArray 31) = W:=⟨_,rfl⟩
 have ho:DigO W w.heap.size d:=by rw [← hW];exact digO_new w h32
 have hb:Below w.heap.size w W:=by rw [← hW];exact (Below.refl _ w).alloc (Nat.le_refl _) _
 have hQW:=hQ.of_new hb
 obtain ⟨a,c,hv⟩:=hQ.blbs.row.len
 subst hv
 rw [List.length_map] at hQW
 obtain ⟨n,hn⟩:∃ n,C.length = n:=⟨_,rfl⟩
 rw [hn] at hQW
 have hle:n ≤ 100000:=by omega
 have HW:=Lib.hid hW
 have HO:=Lib.hid ho
 have HB:=Lib.hid hb
 have HQ:=Lib.hid hQW
 have H32:=Lib.hid h32
 have HN:=Lib.hid hn
 clear hQ h32 hW ho hb hQW hn hc
 go_enter Tryz.func63,Tryz.ntmps63
 go_upto_region 1 with (fail)
 rw [HW.out]
 obtain ⟨g,hg⟩:∃ g,w.heap.size = g:=⟨_,rfl⟩
 have HG:=Lib.hid hg
 rw [hg] at HO ⊢
 clear hg
 go_wp2
 go_loopw [5] (fun iv W'=>∃ i:Nat,i ≤ n∧iv = .int .i64 (i:Int)∧(∀ x ∈ C.take i,x.1.1.dig ≠ d)∧Below W.heap.size W W') (fun iv _=>n - (intOf iv).toNat)
 case atStart=>exact ⟨0,Nat.zero_le _,rfl,(fun x hx=>by cases hx),Below.refl _ _⟩
 case round=>
  obtain ⟨i,hi,rfl,hlow,hbr⟩:=hrel
  have hQr:=HQ.out.of_new hbr
  have hc3:=hQr.cell3
  have hc3':=fun w' (h:Grew wr w')=>Grew.cell h hQr.cell3
  have hdg0:DigAt wr g 0 d:=(HO.out.of_new hbr).at_
  have HLOW:=Lib.hid hlow
  have HBR:=Lib.hid hbr
  clear hlow hbr
  by_cases hlt:i < n
  ·have hii:(i:Int) < (n:Int):=by omega
   obtain ⟨x,hx⟩:∃ x,C[i]? = some x:=⟨_,List.getElem?_eq_getElem (by rw [HN.out];exact hlt)⟩
   obtain ⟨b,off,c',hv,hbl,hat⟩:=hQr.blbs.row.at_ (by rw [List.length_map,HN.out];omega)
   obtain ⟨rfl,rfl⟩:a = some ⟨b,off,none⟩∧c = c':=by cases hv;exact ⟨rfl,rfl⟩
   have hax:=hat i x.1 (by rw [List.getElem?_map,hx];rfl)
   have hdn:DigAt wr b (off + i * 67) x.1.1.dig:=RRB_dig hax
   have hx32:x.1.1.dig.length = 32:=hdn.1
   have HTK:=Lib.hid (take_snoc_at hx)
   have HX:=Lib.hid hx
   have hgd:=guard_dig
   have heql:=run_eql_dig x.1.1.dig d hx32 H32.out
   clear hv hbl hat hax hx hQr
   go_upto_region 4 with (fail)
   refine wp_region_grew (by kernel_rfl) (by kernel_rfl) ?_
   repeat (first
    | (go_big_quiet_want;(with_reducible apply quiet_load_at (ty:=31) (x:=.tmp _));rfl;rfl;assumption;go_simp;go_big_quiet_on)
    | (go_big_quiet_want;apply quiet_val;(intro w' hw';go_simp;first | done | rfl);go_simp;go_big_quiet_on)
    | (go_big_quiet_skip))
   refine wpQuiet_nil ?_
   intro w5 hw5
   have HB5:=Lib.hid (below_next HBR.out hw5)
   clear hw5 hc3 hc3' hdg0 hdn hgd heql hx32
   by_cases he:x.1.1.dig = d
   ·have hfin:BlobI C d (i:Int):=.inr ⟨i,x,rfl,HX.out,by
     rw [contIn_plR,find_first HX.out (fun y hy=>decide_eq_false (HLOW.out y hy)) (decide_eq_true he)];rfl⟩
    have HF:=Lib.hid hfin
    clear hfin
    go_wp2
    go_ret
    exact ⟨_,rfl,HF.out,below_next HB.out HB5.out⟩
   ·have HE:=Lib.hid he
    go_wp2
    go_roundw
    case rel=>
     refine ⟨i + 1,by omega,by go_num,fun z hz=>?_,HB5.out⟩
     rw [HTK.out] at hz
     rcases List.mem_append.1 hz with hz | hz
     ·exact HLOW.out z hz
     ·rw [List.mem_singleton.1 hz];exact HE.out
    case measure=>simp [intOf];omega
  ·obtain rfl:i = n:=by omega
   have hii:¬ (i:Int) < (i:Int):=by omega
   have hfin:BlobI C d (-1):=.inl ⟨rfl,by
    rw [contIn_plR,List.find?_eq_none.2 (fun y hy=>?_)]
    ·rfl
    ·have:=HLOW.out y (by rw [List.take_of_length_le (by rw [HN.out];exact Nat.le_refl _)];exact hy)
     simpa using this⟩
   have HF:=Lib.hid hfin
   clear hfin hQr hc3' hdg0
   go_wp2
   go_ret
   exact ⟨_,rfl,HF.out,below_next HB.out HBR.out⟩
set_option maxHeartbeats 3200000 in
theorem ROImage_any (r rt:Nat) (many most life:Int) (B:Nat) (v:Value) (L:RefL) (T:TabL) (vi vb:Value) (I:List ImgR) (C:List RCntR) (d:List UInt8) (w:World) (hQ:ROrgQ w r rt many most life B v L T vi vb I C) (hc:I.length ≤ 100000) (h32:d.length = 32) :
  Calls Tryz.prog 24 #[.pointer (some ⟨r,0,none⟩),.agg (d.map B8).toArray] w fun e w'=>∃ u,e = .returned (.tuple #[.agg #[u],.bool (imgAt ⟨I.map plI,C.map plR,T⟩ d).isSome])∧RBlob.Row w' u ((imgAt ⟨I.map plI,C.map plR,T⟩ d).getD [])∧Below w.heap.size w w':=by
 obtain ⟨W,hW⟩:∃ W,w.alloc (.cells (d.map B8).toArray 31) = W:=⟨_,rfl⟩
 have ho:DigO W w.heap.size d:=by rw [← hW];exact digO_new w h32
 have hb:Below w.heap.size w W:=by rw [← hW];exact (Below.refl _ w).alloc (Nat.le_refl _) _
 have hQW:=hQ.of_new hb
 obtain ⟨a,c,hv⟩:=hQ.imgs.row.len
 subst hv
 rw [List.length_map] at hQW
 obtain ⟨n,hn⟩:∃ n,I.length = n:=⟨_,rfl⟩
 rw [hn] at hQW
 have hle:n ≤ 100000:=by omega
 have HW:=Lib.hid hW
 have HO:=Lib.hid ho
 have HB:=Lib.hid hb
 have HQ:=Lib.hid hQW
 have H32:=Lib.hid h32
 have HN:=Lib.hid hn
 clear hQ h32 hW ho hb hQW hn hc
 go_enter Tryz.func24,Tryz.ntmps24
 go_upto_region 1 with ((with_reducible refine wpList_plain (o:=⟨some 4,Op.alloc _,_,_,_,_⟩) rfl fun K hK=>?_);(refine RImg.wp_alloc rfl fun w1 ho1 hb1 hs1=>hK _ _ ?_);rw [HW.out] at ho1 hb1 hs1 ⊢;have HO1:=Lib.hid ho1;have HB1:=Lib.hid hb1;clear ho1 hb1 hs1)
 obtain ⟨g,hg⟩:∃ g,w.heap.size = g:=⟨_,rfl⟩
 have HG:=Lib.hid hg
 rw [hg] at HO ⊢
 obtain ⟨g4,hg4⟩:∃ g4,W.heap.size = g4:=⟨_,rfl⟩
 have HG4:=Lib.hid hg4
 rw [hg4] at HO1 ⊢
 clear hg hg4
 go_wp2
 go_loopw [6] (fun iv W'=>∃ i:Nat,i ≤ n∧iv = .int .i64 (i:Int)∧(∀ x ∈ I.take i,x.1 ≠ d)∧Below w1.heap.size w1 W') (fun iv _=>n - (intOf iv).toNat)
 case atStart=>exact ⟨0,Nat.zero_le _,rfl,(fun x hx=>by cases hx),Below.refl _ _⟩
 case round=>
  obtain ⟨i,hi,rfl,hlow,hbr⟩:=hrel
  have hQr:=(HQ.out.of_new HB1.out).of_new hbr
  have hc2:=hQr.cell2
  have hc2':=fun w' (h:Grew wr w')=>Grew.cell h hQr.cell2
  have hdg0:DigAt wr g 0 d:=((HO.out.of_new HB1.out).of_new hbr).at_
  have HLOW:=Lib.hid hlow
  have HBR:=Lib.hid hbr
  have HOR:=Lib.hid (HO1.out.of_new hbr)
  clear hlow hbr
  by_cases hlt:i < n
  ·have hii:(i:Int) < (n:Int):=by omega
   obtain ⟨x,hx⟩:∃ x,I[i]? = some x:=⟨_,List.getElem?_eq_getElem (by rw [HN.out];exact hlt)⟩
   obtain ⟨b,off,c',hv,hbl,hat⟩:=hQr.imgs.row.at_ (by rw [List.length_map,HN.out];omega)
   obtain ⟨rfl,rfl⟩:a = some ⟨b,off,none⟩∧c = c':=by cases hv;exact ⟨rfl,rfl⟩
   have hax:=hat i (plN x) (by rw [List.getElem?_map,hx];rfl)
   have hdn:DigAt wr b (off + i * 33) x.1:=RNamed_dig hax
   have HIM:=Lib.hid (show RImg.At wr b (off + i * 33 + 32) x.2.1 from RNamed_img hax)
   have HROW:=Lib.hid (hQr.irow x (List.mem_of_getElem? hx)).row
   have hx32:x.1.length = 32:=hdn.1
   have HTK:=Lib.hid (take_snoc_at hx)
   have HX:=Lib.hid hx
   have hgd:=guard_dig
   have heql:=run_eql_dig x.1 d hx32 H32.out
   have HQR:=Lib.hid hQr
   clear hv hbl hat hax hx hQr
   go_upto_region 4 with (fail)
   refine wp_region_grew (by kernel_rfl) (by kernel_rfl) ?_
   repeat (first
    | (go_big_quiet_want;(with_reducible apply quiet_load_at (ty:=31) (x:=.tmp _));rfl;rfl;assumption;go_simp;go_big_quiet_on)
    | (go_big_quiet_want;apply quiet_val;(intro w' hw';go_simp;first | done | rfl);go_simp;go_big_quiet_on)
    | (go_big_quiet_skip))
   refine wpQuiet_nil ?_
   intro w5 hw5
   have HB5:=Lib.hid (below_next HBR.out hw5)
   have HIM5:=Lib.hid (HIM.out.of_new hw5)
   have HOR5:=Lib.hid (HOR.out.of_new hw5)
   have HROW5:=Lib.hid (HROW.out.of_new hw5)
   have hc2:=(HQR.out.of_new hw5).cell2
   clear hw5 hc2' hdg0 hdn hgd heql hx32
   by_cases he:x.1 = d
   ·have HF:=Lib.hid (show imgAt ⟨I.map plI,C.map plR,T⟩ d = some x.2.2 by
     rw [imgAt_plI,find_first HX.out (fun y hy=>decide_eq_false (HLOW.out y hy)) (decide_eq_true he)];rfl)
    go_wp2_with (first
     | ((with_reducible refine wpList_plain (o:=⟨some 33,Op.load _ _,_,_,_,_⟩) rfl fun K hK=>?_);(refine HIM5.out.wp rfl rfl (hK _ _ ?_)))
     | ((with_reducible refine wpList_plain (o:=⟨none,Op.store _ (.tmp 4) (.tmp 33),_,_,_,_⟩) rfl fun K hK=>?_);(refine HOR5.out.store (x:=x.2.1) (.tmp 4) (.tmp 33) rfl rfl rfl HIM5.out.1 fun w6 ho6 hg6 hs6=>hK _ _ ?_);have HO6:=Lib.hid ho6;have HG6:=Lib.hid hg6;clear ho6 hg6 hs6))
    refine bodyPost_ret (RecT.results2 rfl _ rfl rfl HO6.out) rfl ?_
    have hw5:Below W.heap.size W w5:=below_next HB1.out HB5.out
    have hz5:=hw5.size
    have hz4:=HG4.out
    rw [HF.out]
    refine ⟨_,rfl,HROW5.out.of_kept HG6.out (fun k hk e=>?_),?_⟩
    ·obtain ⟨cur,hcc⟩:=RecT.Own.block ((HQR.out.irow x (List.mem_of_getElem? HX.out))) hk
     cases e
     have h1:=HOR.out.1
     rw [h1] at hcc
     cases hcc
    ·exact (below_next HB.out hw5).grown HG6.out (by have:=HB.out.size;omega) (fun k e=>by cases e;have:=HB.out.size;omega)
   ·go_wp2
    go_roundw
    case rel=>
     refine ⟨i + 1,by omega,by go_num,fun z hz=>?_,HB5.out⟩
     rw [HTK.out] at hz
     rcases List.mem_append.1 hz with hz | hz
     ·exact HLOW.out z hz
     ·rw [List.mem_singleton.1 hz];exact he
    case measure=>simp [intOf];omega
  ·obtain rfl:i = n:=by omega
   have hii:¬ (i:Int) < (i:Int):=by omega
   have HF:=Lib.hid (show imgAt ⟨I.map plI,C.map plR,T⟩ d = none by
    rw [imgAt_plI,List.find?_eq_none.2 (fun y hy=>?_)]
    ·rfl
    ·have:=HLOW.out y (by rw [List.take_of_length_le (by rw [HN.out];exact Nat.le_refl _)];exact hy)
     simpa using this)
   clear hQr hc2' hdg0
   go_wp2_with (first
    | ((with_reducible refine wpList_plain (o:=⟨some 34,Op.build _ _,_,_,_,_⟩) rfl fun K hK=>?_);(refine wp_val (v:=RImg.V (.slice none 0 0)) (by unfold execOp;simp only [List.map_toArray,List.map_nil,build_img0,Sem.run_bind,Result.andThen_ok,Sem.run_pure];rfl) (hK _ _ ?_)))
    | ((with_reducible refine wpList_plain (o:=⟨none,Op.store _ (.tmp 4) (.tmp 34),_,_,_,_⟩) rfl fun K hK=>?_);(refine HOR.out.store (.tmp 4) (.tmp 34) rfl rfl rfl (show RImg.ok (.slice none 0 0) from rfl) fun wF hOF hgF hsF=>hK _ _ ?_);have HOF:=Lib.hid hOF;have HGF:=Lib.hid hgF;clear hOF hgF hsF))
   refine bodyPost_ret (RecT.results2 rfl _ rfl rfl HOF.out) rfl ?_
   have hw5:Below W.heap.size W wr:=below_next HB1.out HBR.out
   have hz4:=HG4.out
   rw [HF.out]
   refine ⟨_,rfl,RecT.Row.nil _,?_⟩
   exact (below_next HB.out hw5).grown HGF.out (by have:=HB.out.size;have:=hw5.size;omega) (fun k e=>by cases e;have:=HB.out.size;omega)
set_option maxHeartbeats 1600000 in
theorem ROContent_any (r rt:Nat) (many most life:Int) (B:Nat) (v:Value) (L:RefL) (T:TabL) (vi vb:Value) (I:List ImgR) (C:List RCntR) (d:List UInt8) (w:World) (hQ:ROrgQ w r rt many most life B v L T vi vb I C) (hc:C.length ≤ 100000) (h32:d.length = 32) :
  Calls Tryz.prog 26 #[.pointer (some ⟨r,0,none⟩),.agg (d.map B8).toArray] w fun e w'=>∃ u,e = .returned (.tuple #[u,.bool (contIn (C.map plR) d).isSome])∧Bytes w' u (((contIn (C.map plR) d).map (·.2)).getD [])∧Below w.heap.size w w':=by
 obtain ⟨W,hW⟩:∃ W,w.alloc (.cells (d.map B8).toArray 31) = W:=⟨_,rfl⟩
 have ho:DigO W w.heap.size d:=by rw [← hW];exact digO_new w h32
 have hb:Below w.heap.size w W:=by rw [← hW];exact (Below.refl _ w).alloc (Nat.le_refl _) _
 have hQW:=hQ.of_new hb
 have HW:=Lib.hid hW
 have HB:=Lib.hid hb
 have HQ:=Lib.hid hQW
 have HDG:=Lib.hid ho.at_
 have HC:=Lib.hid hc
 have H32:=Lib.hid h32
 clear hQ hW ho hb hQW hc h32
 go_enter Tryz.func26,Tryz.ntmps26
 go_upto_region 1 with (fail)
 rw [HW.out]
 go_upto_region 2 with (first
  | ((with_reducible refine wpList_plain (o:=⟨some 8,Op.load _ _,_,_,_,_⟩) rfl fun K hK=>?_);(refine wp_load_at (ty:=31) (x:=.tmp 3) rfl rfl HDG.out (hK _ _ ?_)))
  | (go_at_call 63;refine (RBlobAt_any r rt many most life B v L T vi vb I C d _ HQ.out HC.out H32.out).mono ?_;rintro e w1 ⟨i,rfl,hi,hb1⟩;have HI:=Lib.hid hi;have HQ1:=Lib.hid (HQ.out.of_new hb1);have HB1:=Lib.hid (below_next HB.out hb1);clear hi hb1))
 rcases HI.out with ⟨rfl,hno⟩ | ⟨j,x,rfl,hx,hs⟩
 ·have HNO:=Lib.hid hno
  clear hno
  go_wp2
  go_ret2
  exact ⟨_,by rw [HNO.out];rfl,by rw [HNO.out];exact Row.of_nil 1,HB1.out⟩
 ·have hj:j < C.length:=(List.getElem?_eq_some_iff.1 hx).1
  obtain ⟨b,off,c',hv,hbl,hat⟩:=HQ1.out.blbs.row.at_ (by rw [List.length_map];omega)
  rw [List.length_map] at hv
  have hc3:=HQ1.out.cell3
  have hax:=hat j x.1 (by rw [List.getElem?_map,hx];rfl)
  have hval:w1.cell? ⟨b,off + j * 67 + 66,none⟩ = some x.1.2:=RRB_val hax
  have HBY:=Lib.hid (HQ1.out.brow x (List.mem_of_getElem? hx)).bytes
  have HS:=Lib.hid hs
  obtain ⟨ua,uc,hu⟩:=HBY.out.len
  rw [hv] at hc3
  rw [hu] at hval
  have hn0:¬ (j:Int) < 0:=by omega
  have HU:=Lib.hid hu
  clear hv hbl hat hax hx hs hu
  go_wp2
  go_ret2
  exact ⟨_,by rw [HS.out];rfl,by rw [HS.out,← HU.out];exact HBY.out,HB1.out⟩
end Go.Proofs.YtnohglkilpnjhaaGreatDoor

/- Lemmas that the statement of this claim leans on; their own comments are taken out, for the size of the claim. No condition beyond what each lemma states. -/
import Derived.Test.YtnohglkilpnjhaaGreatDoorSa24
set_option linter.unusedVariables false
set_option linter.unusedSimpArgs false
set_option linter.unusedSectionVars false
namespace Go.Proofs.YtnohglkilpnjhaaGreatDoor
open Go.RowKit
set_option maxRecDepth 100000
set_option maxHeartbeats 800000 in
theorem SortedK_any (m:Value) (E:EntL) (w W:World) (hm:MapV KDig w m (E.map outE)) (hr:Rising kD (tabOf E)) (hd:∀ x ∈ E,x.1.length = 32) (hl:E.length ≤ 1000000) (hW:W = w.alloc (.cells #[m] 155)) :
  Calls Tryz.prog 144 #[.func (.func 169) #[] #[.pointer (some ⟨w.heap.size,0,none⟩)],.func (.func 141) #[] #[]] W
   fun e w'=>∃ v,e = .returned v∧RDig.Own w' W.heap.size v ((tabOf E).map (·.1))∧Below w.heap.size w w':=by
 have hC:=collectKeys m E w W hm hd hl hW
 have hS:W.heap.size = w.heap.size + 1:=by rw [hW];simp
 have hr2:Rising (fun d:List UInt8=>(natL d:Int)) ((tabOf E).map (·.1)):=Rising.map (f:=kD) (fun _=>rfl) hr
 have hln:((tabOf E).map (·.1)).length = E.length:=by simp [tabOf]
 obtain ⟨D,hD⟩:∃ D,(tabOf E).map (·.1) = D:=⟨_,rfl⟩
 rw [hD] at hC hr2 hln ⊢
 have HC:=Lib.hid hC
 have HR:=Lib.hid hr2
 have HS:=Lib.hid hS
 have HLN:=Lib.hid hln
 clear hC hr hm hW hS hd hr2 hln hD
 go_enter Tryz.func144,Tryz.ntmps144
 go_upto_region 2 with (go_at_call 75;refine HC.out.mono ?_;rintro e w2 ⟨v2,qs,rfl,hp2,ho2,hb2⟩;have HP2:=Lib.hid hp2;have HO2:=Lib.hid ho2;have HB2:=Lib.hid hb2;clear hp2 ho2 hb2)
 obtain ⟨a2,c2,hv⟩:=HO2.out.row.len
 subst hv
 have hlt:=HO2.out.lt
 have HS2:=Lib.hid (SortD_any _ qs w2 _ HO2.out (by rw [HP2.out.length_eq,HLN.out];exact hl))
 have HLT:=Lib.hid hlt
 clear hlt
 go_wp2_with (go_at_call 173;refine HS2.out.mono ?_;rintro e w3 ⟨rfl,l',hp3,hs3,ho3,hg3⟩;have hB3:=HB2.out.grown hg3 (by have:=HB2.out.size;omega) (fun k e=>by have:=(HLT.out k e).1;have:=HS.out;omega);have he3:=rise_sorted HR.out (hp3.trans HP2.out) (hs3.imp (fun {a b} h=>by omega));have HO3:=Lib.hid ho3;have HB3:=Lib.hid hB3;have HE3:=Lib.hid he3;clear ho3 hB3 he3 hp3 hs3 hg3)
 go_ret
 exact ⟨_,rfl,by have:=HO3.out;rwa [HE3.out] at this,HB3.out⟩
set_option maxHeartbeats 1600000 in
theorem Blobs_any (t mb:Nat) (most each:Int) (E:EntL) (w:World) (hT:TabP w t most each mb E) (hE:EntOk most each E) (hm:1 ≤ most∧most ≤ 1000) :
  Calls Tryz.prog 94 #[.pointer (some ⟨t,0,none⟩)] w fun e w'=>∃ v,e = .returned v∧RDig.Own w' w.heap.size v ((tabOf E).map (·.1))∧Below w.heap.size w w':=by
 have hElen:E.length ≤ 1000:=by have:=hE.few;unfold tabOf at this;rw [List.length_map] at this;omega
 obtain ⟨W3,hW3⟩:∃ W3,w.alloc (.cells #[.map (some mb)] 155) = W3:=⟨_,rfl⟩
 have hV:=Keys_any (.map (some mb)) w (.inl ⟨_,rfl⟩)
 rw [hW3] at hV
 have hS:=SortedK_any (.map (some mb)) E w W3 (.inl ⟨_,rfl,hT.map⟩) hE.rise (fun x hx=>hE.dig _ (tabOf_mem hx)) (by omega) hW3.symm
 have hc2:=hT.cell2
 have hs3:w.heap.size ≤ W3.heap.size:=by rw [← hW3];simp
 have HV:=Lib.hid hV
 have HS:=Lib.hid hS
 have HS3:=Lib.hid hs3
 clear hV hS hW3 hT hE hs3
 go_enter Tryz.func94,Tryz.ntmps94
 go_wp2_with (first
  | (go_at_call 137;refine HV.out.mono ?_;rintro e w6 ⟨rfl,rfl⟩)
  | (go_at_call 144;refine HS.out.mono ?_;rintro e w7 ⟨v7,rfl,ho7,hb7⟩;have HO7:=Lib.hid ho7;have HB7:=Lib.hid hb7;clear ho7 hb7))
 go_ret
 exact ⟨_,rfl,HO7.out.mono HS3.out,HB7.out⟩
def ExpPost (w:World) (t mb:Nat) (most each:Int) (E:EntL) (now:Int) (e:Ending) (w':World):Prop:=
 ∃ E',tabOf E' = (expT (tabOf E) now).1∧e = .returned (.tuple #[.int .i64 (expT (tabOf E) now).2.1,.int .i64 (expT (tabOf E) now).2.2])∧TabP w' t most each mb E'∧TabStep mb E E' w w'∧∀ k,ownE mb E' k→ownE mb E k
structure ExpSt (w:World) (t mb:Nat) (most each:Int) (E:EntL) (T':TabL) (W:World) (E':EntL):Prop where
 tab:TabP W t most each mb E'
 is:tabOf E' = T'
 ok:EntOk most each E'
 kept:Kept (fun k=>¬ ownE mb E k) w W
 sub:∀ k,ownE mb E' k→ownE mb E k
theorem ExpSt.new {w:World} {t mb:Nat} {most each:Int} {E:EntL} {T':TabL} {W W':World} {E':EntL} (h:ExpSt w t mb most each E T' W E') (hb:Below W.heap.size W W'):ExpSt w t mb most each E T' W' E':=
 ⟨h.tab.of_new hb,h.is,h.ok,h.kept.below hb,h.sub⟩
theorem ExpSt.leave {w:World} {t mb:Nat} {most each:Int} {E:EntL} {T':TabL} {W W':World} {E1 E2:EntL} {d:List UInt8} {id:Int} (h:ExpSt w t mb most each E T' W E1) (h2:tabOf E2 = (leaveT (tabOf E1) d id).1) (hT:TabP W' t most each mb E2) (hs:TabStep mb E1 E2 W W') (ho:∀ k,ownE mb E2 k→ownE mb E1 k) (hd:d.length = 32) (he:1 ≤ each) :
  ExpSt w t mb most each E (leaveT T' d id).1 W' E2:=
 ⟨hT,by rw [h2,h.is],by unfold EntOk;rw [h2];exact TabOk.leave h.ok he hd id,h.kept.trans (hs.kept.mono fun k _ hk hx=>hk (h.sub k hx)),fun k hk=>h.sub k (ho k hk)⟩
theorem RecT.At.keptE {e:TypeId} {α:Type} {R:RecT e α} {w W:World} {g off:Nat} {x:α} {U:Nat→Prop} (h:R.At w g off x) (hk:Kept U w W) (hu:U g):R.At W g off x:=h.of_block (hk.block _ h.2.1 hu)
set_option maxHeartbeats 6400000 in
theorem Expire_any (t mb:Nat) (most each:Int) (E:EntL) (now:Int) (w:World) (hT:TabP w t most each mb E) (hE:EntOk most each E) (hm:1 ≤ most∧most ≤ 1000) (he:1 ≤ each∧each ≤ 64) :
  Calls Tryz.prog 57 #[.pointer (some ⟨t,0,none⟩),.int .i64 now] w (ExpPost w t mb most each E now):=by
 unfold ExpPost
 rcases hw:within now 0 1099511627776 with _ | _
 ·have hx:expT (tabOf E) now = (tabOf E,0,1):=by
   unfold expT
   rw [if_neg (of_decide_eq_false hw)]
  rw [hx]
  have HT:=Lib.hid hT
  clear hT hE hx
  go_enter Tryz.func57,Tryz.ntmps57
  go_wp2_with (go_at_call 72;refine (within_any _ _ _ _).mono ?_;rintro e w1 ⟨rfl,rfl⟩)
  go_ret2
  exact ⟨E,rfl,rfl,HT.out,TabStep.refl mb E _,fun k hk=>hk⟩
 ·have hnow:0 ≤ now∧now ≤ 1099511627776:=of_decide_eq_true hw
  have hx:expT (tabOf E) now = (liveT now (tabOf E),(goneN now (tabOf E):Int),0):=by
   unfold expT
   rw [if_pos hnow]
  rw [hx]
  obtain ⟨T,hTT⟩:∃ T,tabOf E = T:=⟨_,rfl⟩
  rw [hTT]
  have hTok:TabOk most each T:=by rw [← hTT];exact hE
  have HT:=Lib.hid hT
  have HE:=Lib.hid hE
  have HTT:=Lib.hid hTT
  have HTK:=Lib.hid hTok
  have hown:∀ k,ownE mb E k→k < w.heap.size:=fun k hk=>hT.own_lt hk
  have HOW:=Lib.hid hown
  clear hT hE hx hTT hTok hown
  go_enter Tryz.func57,Tryz.ntmps57
  go_upto_region 5 with (first
   | (go_at_call 72;refine (within_any _ _ _ _).mono ?_;rintro e w ⟨rfl,rfl⟩)
   | (go_at_call 94;refine (Blobs_any t mb most each E _ HT.out HE.out hm).mono ?_;rw [HTT.out];rintro e w2 ⟨v2,rfl,ho2,hb2⟩;obtain ⟨a2,c2,hv⟩:=ho2.row.len;rw [List.length_map] at hv;subst hv;have HO2:=Lib.hid ho2;have HB2:=Lib.hid hb2;clear ho2 hb2))
  have hst2:ExpSt w t mb most each E T w2 E:=⟨HT.out.of_new HB2.out,HTT.out,HE.out,(Kept.refl _ w).below HB2.out,fun k hk=>hk⟩
  have htl:=HTK.out
  obtain ⟨N,hN⟩:∃ N,T.length = N:=⟨_,rfl⟩
  have hN1:N ≤ 1000:=by have:=htl.few;omega
  have hgn2:goneN now T ≤ 64000:=by
   refine Nat.le_trans (gone_le2 now T 64 fun x hx=>by have:=(htl.ps x hx).2.2;omega) ?_
   rw [hN];omega
  have hlen2:(T.map (·.1)).length = N:=by rw [List.length_map,hN]
  have HST2:=Lib.hid hst2
  have HNN:=Lib.hid hN
  have HL2:=Lib.hid hlen2
  have HBG:=Lib.hid (fun k (hk:ownE mb E k)=>Nat.lt_of_lt_of_le (HOW.out k hk) (Nat.le_refl _))
  rw [hN]
  clear hst2 hN hlen2
  go_loopw [6,8,10,17] (fun nv _ _ iv W=>∃ (i:Nat) (E1:EntL),i ≤ N∧iv = .int .i64 (i:Int)∧nv = .int .i64 (goneN now (T.take i):Int)∧ExpSt w t mb most each E (liveT now (T.take i) ++ T.drop i) W E1∧Kept (fun k=>¬ ownE mb E k) w2 W) (fun _ _ _ iv _=>N - (intOf iv).toNat)
  case atStart=>exact ⟨0,E,Nat.zero_le _,rfl,by rw [List.take_zero];rfl,by rw [List.take_zero,List.drop_zero];exact HST2.out,Kept.refl _ _⟩
  case round=>
   obtain ⟨i,E1,hi,rfl,rfl,hst,hk2⟩:=hrel
   by_cases hlt:i < N
   ·obtain ⟨⟨d,P⟩,hx⟩:∃ x,T[i]? = some x:=⟨_,List.getElem?_eq_getElem (by rw [HNN.out];exact hlt)⟩
    have hxm:(d,P) ∈ T:=List.mem_of_getElem? hx
    have hd32:d.length = 32:=htl.dig _ hxm
    obtain ⟨hP1,hP2,hP3⟩:=htl.ps _ hxm
    dsimp only at hP1 hP2 hP3
    have hTs:T = T.take i ++ (d,P) :: T.drop (i + 1):=by
     have h1:T[i]'(by rw [HNN.out];exact hlt) = (d,P):=by rw [List.getElem?_eq_getElem (by rw [HNN.out];exact hlt)] at hx;exact Option.some.inj hx
     rw [← h1,← List.drop_eq_getElem_cons,List.take_append_drop]
    have htk:T.take (i + 1) = T.take i ++ [(d,P)]:=by rw [List.take_add_one,hx];rfl
    have hdr:T.drop i = (d,P) :: T.drop (i + 1):=by
     have h1:T[i]'(by rw [HNN.out];exact hlt) = (d,P):=by rw [List.getElem?_eq_getElem (by rw [HNN.out];exact hlt)] at hx;exact Option.some.inj hx
     rw [← h1,← List.drop_eq_getElem_cons]
    obtain ⟨pb,off,pc,hv,hpl,hat⟩:=HO2.out.row.at_ (by rw [HL2.out];omega)
    have hgo:¬ ownE mb E pb:=fun h=>by
     have h1:=HOW.out _ h
     have h2:=(HO2.out.lt pb (by rw [hv];rfl)).1
     omega
    obtain ⟨rfl,rfl⟩:a2 = some ⟨pb,off,none⟩∧c2 = pc:=by have:=Value.slice.inj hv;exact ⟨this.1,this.2.2⟩
    have hA:=(hat i d (by rw [List.getElem?_map,hx];rfl)).keptE hk2 hgo
    rw [hdr] at hst
    obtain ⟨A,hAe⟩:∃ A,T.take i = A:=⟨_,rfl⟩
    obtain ⟨B,hBe⟩:∃ B,T.drop (i + 1) = B:=⟨_,rfl⟩
    rw [hAe] at htk hst ⊢
    rw [hBe] at hst hTs
    have hms:=midT_start (now:=now) (A:=A) (B:=B) (d:=d) hP2
    have hpe:peersT d (tabOf E1) = P:=by rw [hst.is];exact peersT_mid (by have:=hst.ok.rise;rwa [hst.is] at this)
    rw [← hms.1] at hst
    rw [← hms.2]
    have hii:(i:Int) < (N:Int):=by omega
    have HA:=Lib.hid hA
    have HST:=Lib.hid hst
    have HK2:=Lib.hid hk2
    have HTK:=Lib.hid htk
    have HBE:=Lib.hid hBe
    have HP1:=Lib.hid hP1
    have HP2:=Lib.hid hP2
    have HPE:=Lib.hid hpe
    have HD32:=Lib.hid hd32
    have hgP:goneN now (A ++ [(d,P)]) ≤ 64000:=by rw [← htk];exact Nat.le_trans (goneN_take now T (i + 1)) hgn2
    have HGP:=Lib.hid hgP
    clear hx hxm hP1 hP2 hTs htk hdr hv hpl hat hgo hA hst hk2 hAe hBe hms hpe hd32 hgP
    go_upto_region 8 with (first
     | ((with_reducible refine wpList_plain (o:=⟨some 20,Op.load _ _,_,_,_,_⟩) rfl fun K hK=>?_);(refine HA.out.wp rfl rfl (hK _ _ ?_)))
     | ((with_reducible refine wpList_plain (o:=⟨some 8,Op.alloc _,_,_,_,_⟩) rfl fun K hK=>?_);(refine RDig.wp_alloc rfl fun w4 ho4 hb4 hs4=>hK _ _ ?_);have HO4:=Lib.hid ho4;have HB4:=Lib.hid hb4;clear ho4 hb4 hs4)
     | ((with_reducible refine wpList_plain (o:=⟨none,Op.store _ (.tmp 8) (.tmp 20),_,_,_,_⟩) rfl fun K hK=>?_);(refine HO4.out.store (.tmp 8) (.tmp 20) rfl rfl rfl HD32.out fun w5 ho5 hg5 hs5=>hK _ _ ?_);have HO5:=Lib.hid ho5;have HB5:=Lib.hid (HB4.out.grown hg5 (by have:=HB4.out.size;omega) (fun k e=>by cases e;exact Nat.le_refl _));have HST5:=Lib.hid (HST.out.new HB5.out);have HK5:=Lib.hid (HK2.out.below HB5.out);clear ho5 hg5 hs5)
     | ((with_reducible refine wpList_plain (o:=⟨some 22,Op.load _ _,_,_,_,_⟩) rfl fun K hK=>?_);(refine HO5.out.at_.wp rfl rfl (hK _ _ ?_)))
     | (go_at_call 64;refine (Peers_any t mb most each E1 d _ HST5.out.tab HST5.out.ok he HD32.out).mono ?_;rw [HPE.out];rintro e w6 ⟨v6,rfl,ho6,hb6⟩;obtain ⟨a6,c6,hv⟩:=ho6.row.len;subst hv;have HO6:=Lib.hid ho6;have HB6:=Lib.hid hb6;clear ho6 hb6))
    have hbig:∀ k,w.heap.size ≤ k→¬ ownE mb E k:=fun k hk h=>by have:=HOW.out k h;omega
    have hws:w.heap.size ≤ wr.heap.size:=Nat.le_trans HB2.out.size HK2.out.size
    have hws5:=HB5.out.size
    have HST6:=Lib.hid (HST5.out.new HB6.out)
    have HK6:=Lib.hid (HK5.out.below HB6.out)
    have HD6:=Lib.hid (HO5.out.of_new HB6.out)
    have HBIG:=Lib.hid hbig
    have HWS:=Lib.hid hws
    have HWS5:=Lib.hid hws5
    clear hbig hws hws5
    go_loopw [6,10,25] (fun nv _ kv W=>∃ (k:Nat) (E2:EntL),k ≤ P.length∧kv = .int .i64 (k:Int)∧nv = .int .i64 (midN now A (P.take k):Int)∧ExpSt w t mb most each E (midT now A d (P.take k) (P.drop k) B) W E2∧Kept (fun k=>¬ ownE mb E k) w2 W∧Kept (fun k=>¬ ownE mb E k) w6 W) (fun _ _ kv _=>P.length - (intOf kv).toNat)
    case atStart=>exact ⟨0,E1,Nat.zero_le _,rfl,by rw [List.take_zero],by rw [List.take_zero,List.drop_zero];exact HST6.out,HK6.out,Kept.refl _ _⟩
    case round=>
     rename World=>W7
     obtain ⟨k,E2,hk,rfl,rfl,hst7,hk7,hk67⟩:=hrel
     by_cases hltk:k < P.length
     ·obtain ⟨p,hp⟩:∃ p,P[k]? = some p:=⟨_,List.getElem?_eq_getElem hltk⟩
      have hpe:P[k]'hltk = p:=by rw [List.getElem?_eq_getElem hltk] at hp;exact Option.some.inj hp
      have hdr:P.drop k = p :: P.drop (k + 1):=by rw [← hpe,← List.drop_eq_getElem_cons]
      have htk:P.take (k + 1) = P.take k ++ [p]:=by rw [List.take_add_one,hp];rfl
      have hpo:=HP1.out.ok p (List.mem_of_getElem? hp)
      unfold PeerOk at hpo
      obtain ⟨pb,off,pc,hv,hpl,hat⟩:=HO6.out.row.at_ (by omega)
      obtain ⟨rfl,rfl⟩:a6 = some ⟨pb,off,none⟩∧c6 = pc:=by have:=Value.slice.inj hv;exact ⟨this.1,this.2.2⟩
      have hgo:¬ ownE mb E pb:=HBIG.out pb (by have:=(HO6.out.lt pb rfl).1;have:=HWS.out;have:=HWS5.out;omega)
      have hA:=(hat k p hp).keptE hk67 hgo
      have hD:=HD6.out.of_block (hk67.block _ HD6.out.lt (HBIG.out _ HWS.out))
      rw [hdr] at hst7
      have hPl:(P.length:Int) ≤ 64:=by omega
      have hkk:(k:Int) < (P.length:Int):=by omega
      obtain ⟨mN,hmN⟩:∃ mN,midN now A (P.take k) = mN:=⟨_,rfl⟩
      have hmle:mN ≤ 70000:=by
       rw [← hmN]
       unfold midN
       have q1:=goneN_append now A [(d,P)]
       have q2:=HGP.out
       have q3:(P.take k).length ≤ P.length:=by simp;omega
       omega
      rw [hmN]
      have HMN:=Lib.hid hmN
      have HAP:=Lib.hid hA
      have HDD:=Lib.hid hD
      have HS7:=Lib.hid hst7
      have HK7:=Lib.hid hk7
      have HK67:=Lib.hid hk67
      have HTKP:=Lib.hid htk
      clear hp hpe hdr htk hv hpl hat hgo hA hD hst7 hk7 hk67 hmN
      by_cases htill:p.till ≤ now
      ·go_wp2_with (first
        | ((with_reducible refine wpList_plain (o:=⟨some 28,Op.load _ _,_,_,_,_⟩) rfl fun K hK=>?_);(refine HAP.out.wp rfl rfl (hK _ _ ?_)))
        | ((with_reducible refine wpList_plain (o:=⟨some 10,Op.alloc _,_,_,_,_⟩) rfl fun K hK=>?_);(refine RPeer.wp_alloc rfl fun w8 ho8 hb8 hs8=>hK _ _ ?_);have HO8:=Lib.hid ho8;have HB8:=Lib.hid hb8;clear ho8 hb8 hs8)
        | ((with_reducible refine wpList_plain (o:=⟨none,Op.store _ (.tmp 10) (.tmp 28),_,_,_,_⟩) rfl fun K hK=>?_);(refine HO8.out.store (.tmp 10) (.tmp 28) rfl rfl rfl (RPeer_ok p) fun w9 ho9 hg9 hs9=>hK _ _ ?_);have hc9:=RPeer_till ho9;have hi9:=RPeer_id ho9;have HB9:=Lib.hid (HB8.out.grown hg9 (by have:=HB8.out.size;omega) (fun k e=>by cases e;exact Nat.le_refl _));have HS9:=Lib.hid (HS7.out.new HB9.out);have HD9:=Lib.hid (HDD.out.of_new HB9.out);clear ho9 hg9 hs9)
        | ((with_reducible refine wpList_plain (o:=⟨some 34,Op.load _ _,_,_,_,_⟩) rfl fun K hK=>?_);(refine HD9.out.at_.wp rfl rfl (hK _ _ ?_)))
        | (go_at_call 95;refine (Leave_any t mb most each E2 d p.id _ HS9.out.tab HS9.out.ok hm he HD32.out (by omega)).mono ?_;rintro e w10 ⟨E3,h3,rfl,hT3,hs3,hsub3⟩;have HS10:=Lib.hid (HS9.out.leave h3 hT3 hs3 hsub3 HD32.out he.1);have HK10:=Lib.hid (hs3.kept.mono (V:=fun k=>¬ ownE mb E k) (fun k _ hk hx=>hk (HS9.out.sub k hx)));clear h3 hT3 hs3 hsub3))
       go_roundw
       case rel=>
        have hrise:=HS7.out.ok.rise
        rw [HS7.out.is] at hrise
        have hpr:Rising PeerL.id (liveP now (P.take k) ++ p :: P.drop (k + 1)):=by
         rw [midT_cons] at hrise
         have hx:=HS7.out.ok.ps
         rw [HS7.out.is,midT_cons] at hx
         exact (hx (d,_) (by simp)).1.rise
        obtain ⟨g1,g2⟩:=midT_gone hrise hpr htill
        refine ⟨k + 1,E3,by omega,by go_num,?_,?_,(HK7.out.below HB9.out).trans HK10.out,(HK67.out.below HB9.out).trans HK10.out⟩
        ·rw [HTKP.out,g2,HMN.out];go_num
        ·rw [HTKP.out]
         have h10:=HS10.out
         rw [g1] at h10
         exact h10
       case measure=>simp [intOf];omega
      ·go_wp2_with (first
        | ((with_reducible refine wpList_plain (o:=⟨some 28,Op.load _ _,_,_,_,_⟩) rfl fun K hK=>?_);(refine HAP.out.wp rfl rfl (hK _ _ ?_)))
        | ((with_reducible refine wpList_plain (o:=⟨some 10,Op.alloc _,_,_,_,_⟩) rfl fun K hK=>?_);(refine RPeer.wp_alloc rfl fun w8 ho8 hb8 hs8=>hK _ _ ?_);have HO8:=Lib.hid ho8;have HB8:=Lib.hid hb8;clear ho8 hb8 hs8)
        | ((with_reducible refine wpList_plain (o:=⟨none,Op.store _ (.tmp 10) (.tmp 28),_,_,_,_⟩) rfl fun K hK=>?_);(refine HO8.out.store (.tmp 10) (.tmp 28) rfl rfl rfl (RPeer_ok p) fun w9 ho9 hg9 hs9=>hK _ _ ?_);have hc9:=RPeer_till ho9;have HB9:=Lib.hid (HB8.out.grown hg9 (by have:=HB8.out.size;omega) (fun k e=>by cases e;exact Nat.le_refl _));clear ho9 hg9 hs9))
       go_roundw
       case rel=>
        obtain ⟨g1,g2⟩:=midT_stay (now:=now) (A:=A) (B:=B) (d:=d) (a:=P.take k) (b:=P.drop (k + 1)) (p:=p) (by omega)
        refine ⟨k + 1,E2,by omega,by go_num,?_,?_,HK7.out.below HB9.out,HK67.out.below HB9.out⟩
        ·rw [HTKP.out,g2,HMN.out]
        ·rw [HTKP.out,g1]
         exact HS7.out.new HB9.out
       case measure=>simp [intOf];omega
     ·obtain rfl:k = P.length:=by omega
      have hkk:¬ (P.length:Int) < (P.length:Int):=by omega
      rw [List.take_length,List.drop_length] at hst7
      rw [List.take_length]
      obtain ⟨g1,g2⟩:=midT_end (now:=now) (A:=A) (B:=B) (d:=d) (P:=P)
      rw [g1] at hst7
      rw [g2]
      have HS7:=Lib.hid hst7
      have HK7:=Lib.hid hk7
      clear hst7 hk7 hk67 g1 g2
      go_wp2
      go_roundw
      case rel=>exact ⟨i + 1,E2,by omega,by go_num,by rw [HTK.out],by rw [HTK.out,HBE.out];exact HS7.out,HK7.out⟩
      case measure=>simp [intOf];omega
   ·obtain rfl:i = N:=by omega
    have hii:¬ (i:Int) < (i:Int):=by omega
    rw [← HNN.out,List.take_length,List.drop_length,List.append_nil] at hst
    have HST:=Lib.hid hst
    have hgt:goneN now (T.take i) = goneN now T:=by rw [← HNN.out,List.take_length]
    rw [hgt]
    clear hst hk2 hgt
    go_wp2
    go_ret2
    exact ⟨E1,HST.out.is,rfl,HST.out.tab,⟨HST.out.kept,fun k hk=>.inl (HST.out.sub k hk)⟩,HST.out.sub⟩
theorem OrgQ.few {w:World} {o t mb im bm:Nat} {most each life:Int} {E:EntL} {I:List ImgR} {C:List CntR} (h:OrgQ w o t mb im bm most each life E I C) (hk:OrgOk most each ⟨I.map plI,C.map plC,tabOf E⟩) {d:List UInt8} {is:Bool} {xs:List BlobL}
  (hi:imgAt ⟨I.map plI,C.map plC,tabOf E⟩ d = if is = true then some xs else none) (hz:is = false→xs = []):xs.length ≤ 16:=by
 cases is with
 | false=>rw [hz rfl];simp
 | true=>exact (image_few (hk.imgs _ (imgAt_mem hi)).image).2
set_option maxHeartbeats 1600000 in
theorem OTick_any (o:Nat) (most each life:Int) (S:OrgL) (F:Nat→Prop) (now:Int) (w:World) (hO:OrgP w o most each life S F) (hk:OrgOk most each S) (hm:1 ≤ most∧most ≤ 1000) (he:1 ≤ each∧each ≤ 64) :
  Calls Tryz.prog 21 #[.pointer (some ⟨o,0,none⟩),.int .i64 now] w fun e w'=>∃ F',e = .returned (.int .i64 (tickL S now).2)∧OrgP w' o most each life (tickL S now).1 F'∧OStep F F' w w':=by
 obtain ⟨t,mb,im,bm,E,I,C,hq,rfl,rfl⟩:=hO
 have hc0:=hq.cell0
 have HQ:=Lib.hid hq
 have HK:=Lib.hid hk.tab
 obtain ⟨c1,hc1⟩:∃ c,(expT (tabOf E) now).2.2 = c:=⟨_,rfl⟩
 have HC1:=Lib.hid hc1
 have HM:=Lib.hid hm
 have HE:=Lib.hid he
 clear hq hk hc1 hm he
 go_enter Tryz.func21,Tryz.ntmps21
 go_wp2_with (go_at_call 57;refine (Expire_any t mb most each E now _ HQ.out.tab HK.out HM.out HE.out).mono ?_;unfold ExpPost;rw [HC1.out];rintro e w1 ⟨E1,hE1,rfl,hT1,hs1, -⟩;have HE1:=Lib.hid hE1;have HR:=Lib.hid (HQ.out.table hT1 hs1);clear hE1 hT1 hs1)
 go_ret
 refine ⟨_,ret_int5 HC1.out,⟨t,mb,im,bm,E1,I,C,HR.out.1,?_,rfl⟩,HR.out.2⟩
 show (⟨I.map plI,C.map plC,(expT (tabOf E) now).1⟩:OrgL) = _
 rw [HE1.out]
abbrev nilS:Value:=.slice none 0 0
theorem places_msg:∃ (i:TypeInfo) (fs:Array Field),Tryz.prog.info? 37 = some i∧i.zero = some (.agg (msgCells msgN sN).toArray)∧Tryz.prog.underlying 37 = some (.struct fs) ∧
  fs.toList.mapM (fun f=>(Tryz.prog.info? f.type).map fun i=>(f.offset,i.size)) = some [(0,1),(1,32),(33,1),(34,1),(35,1),(36,1),(37,1),(38,1)]:=by
 have hz:(Tryz.prog.info? 37).map (·.zero) = some (some (.agg (msgCells msgN sN).toArray)):=by kernel_rfl
 obtain ⟨i,hi,hz⟩:=Option.map_eq_some_iff.1 hz
 exact ⟨i,Tryz.prog.fieldsOf 37,hi,hz,by kernel_rfl,by kernel_rfl⟩
theorem msgN_cells:(msgCells msgN sN).toArray = ([] ++ ([Value.int .i64 0] ++ (dig0.map B8 ++ [Value.int .i64 0,nilS,nilS,nilS,nilS,.bool false]))).toArray:=rfl
theorem fill_head (k:Int) (d:List UInt8) (hd:d.length = 32) (rest:List (Nat × Value)) :
  Instr.fill (fun j=>[(0,1),(1,32),(33,1),(34,1),(35,1),(36,1),(37,1),(38,1)][j]?) (msgCells msgN sN).toArray ((0,.int .i64 k) :: (1,.agg (d.map B8).toArray) :: rest) =
   Instr.fill (fun j=>[(0,1),(1,32),(33,1),(34,1),(35,1),(36,1),(37,1),(38,1)][j]?) ((Value.int .i64 k :: d.map B8) ++ [Value.int .i64 0,nilS,nilS,nilS,nilS,.bool false]).toArray rest:=by
 rw [msgN_cells]
 rw [fill_step [] [Value.int .i64 0] [.int .i64 k] (dig0.map B8 ++ [Value.int .i64 0,nilS,nilS,nilS,nilS,.bool false]) (by first | rfl | simp) rfl rfl rfl]
 rw [fill_step [Value.int .i64 k] (dig0.map B8) (d.map B8) [Value.int .i64 0,nilS,nilS,nilS,nilS,.bool false] (by first | rfl | simp) rfl rfl (by simp [hd,dig0])]
 rfl
theorem run_build_m1 (k:Int) (d:List UInt8) (hd:d.length = 32) (w:World) :
  (Instr.build 37 #[(0,.int .i64 k),(1,.agg (d.map B8).toArray)]).run Tryz.prog w = .ok (MsgV (mk0 k d) sN) w:=by
 refine run_build w 37 _ _ ?_
 obtain ⟨i,fs,h1,h2,h3,h4⟩:=places_msg
 unfold Program.built
 rw [h1,h3]
 simp only [h2,h4]
 rw [show (Value.agg (msgCells msgN sN).toArray).cells = (msgCells msgN sN).toArray from rfl]
 erw [fill_head k d hd []]
 rfl
theorem run_build_m2 (k:Int) (d:List UInt8) (p:Int) (hd:d.length = 32) (w:World) :
  (Instr.build 37 #[(0,.int .i64 k),(1,.agg (d.map B8).toArray),(2,.int .i64 p)]).run Tryz.prog w = .ok (MsgV { mk0 k d with piece:=p } sN) w:=by
 refine run_build w 37 _ _ ?_
 obtain ⟨i,fs,h1,h2,h3,h4⟩:=places_msg
 unfold Program.built
 rw [h1,h3]
 simp only [h2,h4]
 rw [show (Value.agg (msgCells msgN sN).toArray).cells = (msgCells msgN sN).toArray from rfl]
 erw [fill_head k d hd [(2,.int .i64 p)]]
 rw [fill_step (Value.int .i64 k :: d.map B8) [.int .i64 0] [.int .i64 p] [nilS,nilS,nilS,nilS,.bool false] (by first | rfl | simp) (by simp [hd]) rfl rfl]
 simp [Instr.fill,MsgV,msgCells,mk0,sN]
theorem run_build_mB (k:Int) (d:List UInt8) (v:Value) (hd:d.length = 32) (hv:v.cells = #[v]) (b:List UInt8) (w:World) :
  (Instr.build 37 #[(0,.int .i64 k),(1,.agg (d.map B8).toArray),(4,v)]).run Tryz.prog w = .ok (MsgV { mk0 k d with bytes:=b } { sN with vb:=v }) w:=by
 refine run_build w 37 _ _ ?_
 obtain ⟨i,fs,h1,h2,h3,h4⟩:=places_msg
 unfold Program.built
 rw [h1,h3]
 simp only [h2,h4]
 rw [show (Value.agg (msgCells msgN sN).toArray).cells = (msgCells msgN sN).toArray from rfl]
 erw [fill_head k d hd [(4,v)]]
 rw [fill_step ((Value.int .i64 k :: d.map B8) ++ [Value.int .i64 0,nilS]) [nilS] [v] [nilS,nilS,.bool false] (by first | rfl | simp) (by simp [hd]) hv rfl]
 simp [Instr.fill,MsgV,msgCells,mk0,sN]
theorem run_build_mI (k:Int) (d:List UInt8) (v:Value) (hd:d.length = 32) (hv:v.cells = #[v]) (l:List Int) (w:World) :
  (Instr.build 37 #[(0,.int .i64 k),(1,.agg (d.map B8).toArray),(3,v)]).run Tryz.prog w = .ok (MsgV { mk0 k d with ids:=l } { sN with vi:=v }) w:=by
 refine run_build w 37 _ _ ?_
 obtain ⟨i,fs,h1,h2,h3,h4⟩:=places_msg
 unfold Program.built
 rw [h1,h3]
 simp only [h2,h4]
 rw [show (Value.agg (msgCells msgN sN).toArray).cells = (msgCells msgN sN).toArray from rfl]
 erw [fill_head k d hd [(3,v)]]
 rw [fill_step ((Value.int .i64 k :: d.map B8) ++ [.int .i64 0]) [nilS] [v] [nilS,nilS,nilS,.bool false] (by first | rfl | simp) (by simp [hd]) hv rfl]
 simp [Instr.fill,MsgV,msgCells,mk0,sN]
theorem run_build_mG (k:Int) (d:List UInt8) (p:Int) (v u:Value) (hd:d.length = 32) (hv:v.cells = #[v]) (hu:u.cells = #[u]) (b:List UInt8) (pr:List (List UInt8)) (w:World) :
  (Instr.build 37 #[(0,.int .i64 k),(1,.agg (d.map B8).toArray),(2,.int .i64 p),(4,v),(5,u)]).run Tryz.prog w = .ok (MsgV { mk0 k d with piece:=p,bytes:=b,proof:=pr } { sN with vb:=v,vp:=u }) w:=by
 refine run_build w 37 _ _ ?_
 obtain ⟨i,fs,h1,h2,h3,h4⟩:=places_msg
 unfold Program.built
 rw [h1,h3]
 simp only [h2,h4]
 rw [show (Value.agg (msgCells msgN sN).toArray).cells = (msgCells msgN sN).toArray from rfl]
 erw [fill_head k d hd [(2,.int .i64 p),(4,v),(5,u)]]
 rw [fill_step (Value.int .i64 k :: d.map B8) [.int .i64 0] [.int .i64 p] [nilS,nilS,nilS,nilS,.bool false] (by first | rfl | simp) (by simp [hd]) rfl rfl]
 rw [fill_step ((Value.int .i64 k :: d.map B8) ++ [.int .i64 p,nilS]) [nilS] [v] [nilS,nilS,.bool false] (by first | rfl | simp) (by simp [hd]) hv rfl]
 rw [fill_step ((Value.int .i64 k :: d.map B8) ++ [.int .i64 p,nilS,v]) [nilS] [u] [nilS,.bool false] (by first | rfl | simp) (by simp [hd]) hu rfl]
 simp [Instr.fill,MsgV,msgCells,mk0,sN]
theorem msgR_0 (w:World) (k:Int) {d:List UInt8} (hd:d.length = 32):MsgR w (mk0 k d) sN:=⟨hd,Row.of_nil 1,Row.of_nil 1,⟨(fun d hd=>by cases hd),Row.of_nil 32⟩,Row.of_nil 4⟩
theorem msgR_2 (w:World) (k p:Int) {d:List UInt8} (hd:d.length = 32):MsgR w { mk0 k d with piece:=p } sN:=⟨hd,Row.of_nil 1,Row.of_nil 1,⟨(fun d hd=>by cases hd),Row.of_nil 32⟩,Row.of_nil 4⟩
theorem msgR_B {w:World} (k:Int) {d b:List UInt8} {v:Value} (hd:d.length = 32) (h:Bytes w v b):MsgR w { mk0 k d with bytes:=b } { sN with vb:=v }:=⟨hd,Row.of_nil 1,h,⟨(fun d hd=>by cases hd),Row.of_nil 32⟩,Row.of_nil 4⟩
theorem msgR_I {w:World} (k:Int) {d:List UInt8} {l:List Int} {v:Value} (hd:d.length = 32) (h:Ints w v l):MsgR w { mk0 k d with ids:=l } { sN with vi:=v }:=⟨hd,h,Row.of_nil 1,⟨(fun d hd=>by cases hd),Row.of_nil 32⟩,Row.of_nil 4⟩
theorem msgR_G {w:World} (k p:Int) {d b:List UInt8} {pr:List (List UInt8)} {v u:Value} (hd:d.length = 32) (h:Bytes w v b) (h2:Digs w u pr):MsgR w { mk0 k d with piece:=p,bytes:=b,proof:=pr } { sN with vb:=v,vp:=u }:=⟨hd,Row.of_nil 1,h,h2,Row.of_nil 4⟩
def MsgPost (w:World) (m:MsgL) (e:Ending) (w':World):Prop:=∃ s,e = .returned (MsgV m s)∧MsgR w' m s∧Hi w.heap.size s∧Below w.heap.size w w'
theorem hi_sN (L:Nat):Hi L sN:=⟨(fun k h=>by cases h),(fun k h=>by cases h),(fun k h=>by cases h),(fun k h=>by cases h)⟩
theorem Hi.mono {L L':Nat} {s:MsgS} (h:Hi L s) (hl:L' ≤ L):Hi L' s:=⟨fun k hk=>Nat.le_trans hl (h.1 k hk),fun k hk=>Nat.le_trans hl (h.2.1 k hk),fun k hk=>Nat.le_trans hl (h.2.2.1 k hk),fun k hk=>Nat.le_trans hl (h.2.2.2 k hk)⟩
theorem hi_B {L:Nat} {v:Value} (h:∀ k,v.ownBlock = some k→L ≤ k):Hi L { sN with vb:=v }:=⟨(fun k h=>by cases h),h,(fun k h=>by cases h),(fun k h=>by cases h)⟩
theorem hi_I {L:Nat} {v:Value} (h:∀ k,v.ownBlock = some k→L ≤ k):Hi L { sN with vi:=v }:=⟨h,(fun k h=>by cases h),(fun k h=>by cases h),(fun k h=>by cases h)⟩
theorem hi_G {L:Nat} {v u:Value} (h:∀ k,v.ownBlock = some k→L ≤ k) (h2:∀ k,u.ownBlock = some k→L ≤ k):Hi L { sN with vb:=v,vp:=u }:=⟨(fun k h=>by cases h),h,h2,(fun k h=>by cases h)⟩
theorem MsgR.keptHi {w w':World} {m:MsgL} {s:MsgS} {L g:Nat} (h:MsgR w m s) (hi:Hi L s) (hg:w.grownBy w' (some g)) (hl:g < L):MsgR w' m s:=
 ⟨h.hash,Row.of_kept h.ids hg (fun k hk e=>by have:=hi.1 k hk;cases e;omega),Row.of_kept h.bytes hg (fun k hk e=>by have:=hi.2.1 k hk;cases e;omega),⟨h.proof.1,Row.of_kept h.proof.2 hg (fun k hk e=>by have:=hi.2.2.1 k hk;cases e;omega)⟩,Row.of_kept h.members hg (fun k hk e=>by have:=hi.2.2.2 k hk;cases e;omega)⟩
theorem results_msg1 {fn:Func} {p:Tmp} (h:fn.results = #[.cell p 37]) (tmps:Array Value) {w:World} {b:Nat} {m:MsgL} {s:MsgS} (hp:tmps.getD p undef = .pointer (some ⟨b,0,none⟩))
  (hx:MsgO w b m s):(results fn tmps).run Tryz.prog w = .ok (MsgV m s) w:=results_cell h tmps hp (run_load_msg hx)
theorem results_msg3 {fn:Func} {p q r:Tmp} (h:fn.results = #[.cell p 37,.tmp q,.tmp r]) (tmps:Array Value) {w:World} {b:Nat} {m:MsgL} {s:MsgS} {u v:Value} (hp:tmps.getD p undef = .pointer (some ⟨b,0,none⟩)) (hq:tmps.getD q undef = u) (hr:tmps.getD r undef = v)
  (hx:MsgO w b m s):(results fn tmps).run Tryz.prog w = .ok (.tuple #[MsgV m s,u,v]) w:=by
 have hp':tmps[p]?.getD undef = .pointer (some ⟨b,0,none⟩):=by simpa using hp
 have hq':tmps[q]?.getD undef = u:=by simpa using hq
 have hr':tmps[r]?.getD undef = v:=by simpa using hr
 simp [results,h,hp',hq',hr',asAddr,run_load_msg hx]
theorem wp_build_mG {w:World} {o:Oper} {a:Act} {K:Act→World→Prop} {Q:Exit→Act→World→Prop} {p0 p1 p2 p3 p4:Operand} (k:Int) (d:List UInt8) (i:Int) (v u:Value) (b:List UInt8) (pr:List (List UInt8)) (hd:d.length = 32) (hv:v.cells = #[v]) (hu:u.cells = #[u])
  (ho:o.op = .build 37 #[(0,p0),(1,p1),(2,p2),(4,p3),(5,p4)]) (h0:a.eval p0 = .int .i64 k) (h1:a.eval p1 = .agg (d.map B8).toArray) (h2:a.eval p2 = .int .i64 i) (h3:a.eval p3 = v) (h4:a.eval p4 = u)
  (hK:K (a.put o.dst (MsgV { mk0 k d with piece:=i,bytes:=b,proof:=pr } { sN with vb:=v,vp:=u })) w):o.wp Tryz.prog a w K Q:=by
 refine wp_val ?_ hK
 have:=run_build_mG k d i v u hd hv hu b pr w
 unfold execOp
 simp only [ho,List.map_toArray,List.map_cons,List.map_nil,h0,h1,h2,h3,h4,Sem.run_bind,this,Result.andThen_ok,Sem.run_pure]
theorem wp_build_mI {w:World} {o:Oper} {a:Act} {K:Act→World→Prop} {Q:Exit→Act→World→Prop} {p0 p1 p2:Operand} (k:Int) (d:List UInt8) (v:Value) (l:List Int) (hd:d.length = 32) (hv:v.cells = #[v])
  (ho:o.op = .build 37 #[(0,p0),(1,p1),(3,p2)]) (h0:a.eval p0 = .int .i64 k) (h1:a.eval p1 = .agg (d.map B8).toArray) (h2:a.eval p2 = v)
  (hK:K (a.put o.dst (MsgV { mk0 k d with ids:=l } { sN with vi:=v })) w):o.wp Tryz.prog a w K Q:=by
 refine wp_val ?_ hK
 have:=run_build_mI k d v hd hv l w
 unfold execOp
 simp only [ho,List.map_toArray,List.map_cons,List.map_nil,h0,h1,h2,Sem.run_bind,this,Result.andThen_ok,Sem.run_pure]
theorem wp_build_m1 {w:World} {o:Oper} {a:Act} {K:Act→World→Prop} {Q:Exit→Act→World→Prop} {p0 p1:Operand} (k:Int) (d:List UInt8) (hd:d.length = 32)
  (ho:o.op = .build 37 #[(0,p0),(1,p1)]) (h0:a.eval p0 = .int .i64 k) (h1:a.eval p1 = .agg (d.map B8).toArray) (hK:K (a.put o.dst (MsgV (mk0 k d) sN)) w):o.wp Tryz.prog a w K Q:=by
 refine wp_val ?_ hK
 have:=run_build_m1 k d hd w
 unfold execOp
 simp only [ho,List.map_toArray,List.map_cons,List.map_nil,h0,h1,Sem.run_bind,this,Result.andThen_ok,Sem.run_pure]
theorem wp_build_m2 {w:World} {o:Oper} {a:Act} {K:Act→World→Prop} {Q:Exit→Act→World→Prop} {p0 p1 p2:Operand} (k:Int) (d:List UInt8) (i:Int) (hd:d.length = 32)
  (ho:o.op = .build 37 #[(0,p0),(1,p1),(2,p2)]) (h0:a.eval p0 = .int .i64 k) (h1:a.eval p1 = .agg (d.map B8).toArray) (h2:a.eval p2 = .int .i64 i) (hK:K (a.put o.dst (MsgV { mk0 k d with piece:=i } sN)) w):o.wp Tryz.prog a w K Q:=by
 refine wp_val ?_ hK
 have:=run_build_m2 k d i hd w
 unfold execOp
 simp only [ho,List.map_toArray,List.map_cons,List.map_nil,h0,h1,h2,Sem.run_bind,this,Result.andThen_ok,Sem.run_pure]
theorem wp_build_mB {w:World} {o:Oper} {a:Act} {K:Act→World→Prop} {Q:Exit→Act→World→Prop} {p0 p1 p2:Operand} (k:Int) (d:List UInt8) (v:Value) (b:List UInt8) (hd:d.length = 32) (hv:v.cells = #[v])
  (ho:o.op = .build 37 #[(0,p0),(1,p1),(4,p2)]) (h0:a.eval p0 = .int .i64 k) (h1:a.eval p1 = .agg (d.map B8).toArray) (h2:a.eval p2 = v) (hK:K (a.put o.dst (MsgV { mk0 k d with bytes:=b } { sN with vb:=v })) w):o.wp Tryz.prog a w K Q:=by
 refine wp_val ?_ hK
 have:=run_build_mB k d v hd hv b w
 unfold execOp
 simp only [ho,List.map_toArray,List.map_cons,List.map_nil,h0,h1,h2,Sem.run_bind,this,Result.andThen_ok,Sem.run_pure]
set_option maxHeartbeats 3200000 in
theorem OTell_any (o:Nat) (most each life:Int) (S:OrgL) (F:Nat→Prop) (d:List UInt8) (w:World) (hO:OrgP w o most each life S F) (h32:d.length = 32) :
  Calls Tryz.prog 39 #[.pointer (some ⟨o,0,none⟩),.agg (d.map B8).toArray] w (MsgPost w (tellL S d)):=by
 obtain ⟨t,mb,im,bm,E,I,C,hq,rfl,rfl⟩:=hO
 obtain ⟨W,hW⟩:∃ W,w.alloc (.cells (d.map B8).toArray 31) = W:=⟨_,rfl⟩
 have ho:DigO W w.heap.size d:=by rw [← hW];exact digO_new w h32
 have hb:Below w.heap.size w W:=by rw [← hW];exact (Below.refl _ w).alloc (Nat.le_refl _) _
 have hqW:=hq.of_new hb
 obtain ⟨v,xs,is,hi,hv,hz,hl⟩:=hqW.look_img h32
 have HW:=Lib.hid hW
 have HO:=Lib.hid ho
 have HB:=Lib.hid hb
 have HQ:=Lib.hid hqW
 have H32:=Lib.hid h32
 have HI:=Lib.hid hi
 have HV:=Lib.hid hv
 have HL:=Lib.hid hl
 clear hq hW ho hb hqW h32 hi hv hz hl
 go_enter Tryz.func39,Tryz.ntmps39
 go_upto_region 1 with ((with_reducible refine wpList_plain (o:=⟨some 4,Op.alloc _,_,_,_,_⟩) rfl fun K hK=>?_);(refine wp_alloc_msg rfl fun w1 ho1 hb1 hs1=>hK _ _ ?_);rw [HW.out] at ho1 hb1 hs1 ⊢;have HO1:=Lib.hid ho1.o;have HB1:=Lib.hid hb1;clear ho1 hb1 hs1)
 obtain ⟨g3,hg3⟩:∃ g,w.heap.size = g:=⟨_,rfl⟩
 have HG3:=Lib.hid hg3
 rw [hg3] at HO ⊢
 obtain ⟨g4,hg4⟩:∃ g,W.heap.size = g:=⟨_,rfl⟩
 have HG4:=Lib.hid hg4
 rw [hg4] at HO1 ⊢
 clear hg3 hg4
 have hc2:=fun w' (h:Grew w1 w')=>Grew.cell h (HQ.out.of_new HB1.out).cell2
 have hdg:DigAt w1 g3 0 d:=(HO.out.of_new HB1.out).at_
 have hl:=fun w' (h:Grew w1 w')=>HL.out w' (below_next HB1.out h)
 refine (wpIn_wide (n:=5)).1 ?_
 refine wpIn_region_mix2 (ro:=none) (C:=Grew w1) [0,1,2,3,4,5,6] [7,8] [9] [10,11] (by kernel_rfl) (by kernel_rfl) (Grew.start _) (fun c a d v w h=>by cases d <;> exact h) ?_
 simp only [opsAt,List.flatMap_cons,List.flatMap_nil,List.getElem?_cons_zero,List.getElem?_cons_succ,Option.toList_some,List.cons_append,List.nil_append]
 go_simp
 repeat (first
  | (go_big_quiet_want;(with_reducible apply quiet_load_at (ty:=31) (x:=.tmp _));rfl;rfl;assumption;go_simp;go_big_quiet_on)
  | (go_big_quiet_want;apply quiet_val;(intro w' hw';go_simp;first | done | rfl);go_simp;go_big_quiet_on)
  | (go_big_quiet_skip))
 refine wpQuiet_nil ?_
 repeat (first
  | (go_big_quiet_want;apply quiet_val;(intro w' hw';go_simp;first | done | rfl);go_simp;go_big_quiet_on)
  | (go_big_quiet_skip))
 refine wpQuiet_nil ?_
 intro w2 hw2
 refine LateL.cons rfl (RImg.wp_alloc rfl ?_)
 intro w3 ho3 hb3 hs3
 have hw3:Grew w1 w3:=below_next hw2 hb3
 refine ⟨hw3,?_⟩
 refine LateL.nil ?_
 rw [wF_none]
 have hvok:RImg.ok v:=by obtain ⟨a,c,h⟩:=HV.out.row.len;rw [h];rfl
 refine wpListIn_of_wp (ro:=none) rfl (fun c hc=>by cases hc) (ho3.store (x:=v) (.tmp 5) (.tmp 16) rfl rfl rfl hvok ?_)
 intro w4 ho4 hg4 hs4
 have hb4:Below w1.heap.size w1 w4:=hw3.grown hg4 (by have:=hw3.size;omega) (fun k e=>by cases e;exact hw2.size)
 obtain ⟨g5,hg5⟩:∃ g,w2.heap.size = g:=⟨_,rfl⟩
 rw [hg5] at ho4 ⊢
 have HO5:=Lib.hid ho4
 have HB4:=Lib.hid (below_next HB1.out hb4)
 have HM4:=Lib.hid (HO1.out.of_new hb4)
 have HD4:=Lib.hid (HO.out.of_new (below_next HB1.out hb4)).at_
 have HV4:=Lib.hid (HV.out.of_new (below_next HB1.out hb4))
 clear hl hc2 hdg hw2 ho3 hb3 hs3 hw3 hvok ho4 hg4 hs4 hb4 hg5
 simp only [Act.put]
 rw [wF_none]
 gi_wp2
 cases is with
 | false=>
  have HT:=Lib.hid (show tellL ⟨I.map plI,C.map plC,tabOf E⟩ d = mk0 11 d by unfold tellL;rw [HI.out];rfl)
  go_wp2_with (first
   | ((with_reducible refine wpList_plain (o:=⟨some 20,Op.load _ _,_,_,_,_⟩) rfl fun K hK=>?_);(refine wp_load_at (ty:=31) (x:=.tmp 3) rfl rfl HD4.out (hK _ _ ?_)))
   | ((with_reducible refine wpList_plain (o:=⟨some 21,Op.build _ _,_,_,_,_⟩) rfl fun K hK=>?_);(refine wp_build_m1 11 d H32.out rfl rfl rfl (hK _ _ ?_)))
   | ((with_reducible refine wpList_plain (o:=⟨none,Op.store _ (.tmp 4) (.tmp 21),_,_,_,_⟩) rfl fun K hK=>?_);(refine wp_store_msg (.tmp 4) (.tmp 21) g4 (mk0 11 d) msgZ sN sN rfl rfl rfl (msgR_0 _ 11 H32.out) HM4.out fun w6 ho6 hg6 hs6=>hK _ _ ?_);have HO6:=Lib.hid ho6;have HG6:=Lib.hid hg6;clear ho6 hg6 hs6))
  refine bodyPost_ret (results_msg1 rfl _ rfl HO6.out) rfl ?_
  rw [HT.out]
  exact ⟨sN,rfl,msgR_0 _ _ H32.out,hi_sN _,(below_next HB.out HB4.out).grown HG6.out (by have:=HB.out.size;have:=HB4.out.size;omega) (fun k e=>by cases e;have:=HG4.out;have:=HB.out.size;omega)⟩
 | true=>
  have HT:=Lib.hid (show tellL ⟨I.map plI,C.map plC,tabOf E⟩ d = { mk0 10 d with bytes:=(encG xs).getD [] } by unfold tellL;rw [HI.out];rfl)
  go_upto_region 5 with (first
   | ((with_reducible refine wpList_plain (o:=⟨some 23,Op.load _ _,_,_,_,_⟩) rfl fun K hK=>?_);(refine HO5.out.at_.wp rfl rfl (hK _ _ ?_)))
   | (go_at_call 77;refine (EncImgO_any v xs _ HV4.out.row).mono ?_;rintro e w5 ⟨v5,rfl,hv5,hb5⟩;obtain ⟨a5,c5,hve⟩:=hv5.bytes.len;subst hve;have HV5:=Lib.hid hv5;have HB5:=Lib.hid (below_next HB4.out hb5);have HM5:=Lib.hid (HM4.out.of_new hb5);have HD5:=Lib.hid (HD4.out.of_new hb5);clear hv5 hb5))
  obtain ⟨bs,hbs⟩:∃ bs,(encG xs).getD [] = bs:=⟨_,rfl⟩
  rw [hbs] at HV5 HT ⊢
  clear hbs
  go_wp2_with (first
   | ((with_reducible refine wpList_plain (o:=⟨some 27,Op.load _ _,_,_,_,_⟩) rfl fun K hK=>?_);(refine wp_load_at (ty:=31) (x:=.tmp 3) rfl rfl HD5.out (hK _ _ ?_)))
   | ((with_reducible refine wpList_plain (o:=⟨some 29,Op.build _ _,_,_,_,_⟩) rfl fun K hK=>?_);(refine wp_build_mB 10 d (.slice a5 bs.length c5) bs H32.out rfl rfl rfl rfl rfl (hK _ _ ?_)))
   | ((with_reducible refine wpList_plain (o:=⟨none,Op.store _ (.tmp 4) (.tmp 29),_,_,_,_⟩) rfl fun K hK=>?_);(refine wp_store_msg (.tmp 4) (.tmp 29) g4 _ msgZ _ sN rfl rfl rfl (msgR_B 10 H32.out HV5.out.bytes) HM5.out fun w6 ho6 hg6 hs6=>hK _ _ ?_);have HO6:=Lib.hid ho6;have HG6:=Lib.hid hg6;clear ho6 hg6 hs6))
  refine bodyPost_ret (results_msg1 rfl _ rfl HO6.out) rfl ?_
  rw [HT.out]
  refine ⟨_,rfl,msgR_B 10 H32.out (Row.of_kept HV5.out.bytes HG6.out (fun k hk e=>?_)),hi_B (fun k hk=>by have:=(World.ownsRow.lt HV5.out k hk).1;have:=HB.out.size;have:=HB4.out.size;omega),(below_next HB.out HB5.out).grown HG6.out (by have:=HB.out.size;have:=HB5.out.size;omega) (fun k e=>by cases e;have:=HG4.out;have:=HB.out.size;omega)⟩
  have:=(World.ownsRow.lt HV5.out k hk).1
  cases e
  have:=HM4.out.lt
  omega
theorem blob_at {w:World} {g:Nat} {x:ContV} (h:RCont.O w g x):RBlob.At w g 0 x.blob:=RCont_blob h.at_
theorem infoU8':∃ i,Tryz.prog.info? 5 = some i∧i.size = 1:=by
 obtain ⟨i,hi,hz0,hz1,hz2⟩:=info_parts infoU8
 exact ⟨i,hi,hz1⟩
set_option maxHeartbeats 3200000 in
theorem OGive_any (o:Nat) (most each life:Int) (S:OrgL) (F:Nat→Prop) (d:List UInt8) (i:Int) (w:World) (hO:OrgP w o most each life S F) (hk:OrgOk most each S) (h32:d.length = 32) (i1:-9223372036854775808 ≤ i) (i2:i ≤ 9223372036854775807) (hKc:Consts w) :
  Calls Tryz.prog 40 #[.pointer (some ⟨o,0,none⟩),.agg (d.map B8).toArray,.int .i64 i] w (MsgPost w (giveL S d i)):=by
 obtain ⟨t,mb,im,bm,E,I,C,hq,rfl,rfl⟩:=hO
 obtain ⟨W,hW⟩:∃ W,w.alloc (.cells (d.map B8).toArray 31) = W:=⟨_,rfl⟩
 have ho:DigO W w.heap.size d:=by rw [← hW];exact digO_new w h32
 have hb:Below w.heap.size w W:=by rw [← hW];exact (Below.refl _ w).alloc (Nat.le_refl _) _
 have hqW:=hq.of_new hb
 obtain ⟨x,b,is,hi,hv,hz,hl1,hl⟩:=hqW.look_cont h32
 have hcase:(is = true∧contOk (x.blob,b))∨(is = false∧x = ContV.zero):=by
  cases is with
  | true=>exact .inl ⟨rfl,hk.conts _ (contIn_mem hi).1⟩
  | false=>exact .inr ⟨rfl,(hz rfl).1⟩
 have HW:=Lib.hid hW
 have HO:=Lib.hid ho
 have HB:=Lib.hid hb
 have HQ:=Lib.hid hqW
 have H32:=Lib.hid h32
 have HI:=Lib.hid (show contAt ⟨I.map plI,C.map plC,tabOf E⟩ d = _ from hi)
 have HV:=Lib.hid hv
 have HL:=Lib.hid hl
 have HC:=Lib.hid hcase
 have HK:=Lib.hid (fun W' (h:Below w.heap.size w W')=>hKc.of_new h)
 clear hq hW ho hb hqW h32 hi hv hz hl hl1 hcase hk hKc
 go_enter Tryz.func40,Tryz.ntmps40
 go_upto_region 1 with ((with_reducible refine wpList_plain (o:=⟨some 6,Op.alloc _,_,_,_,_⟩) rfl fun K hK=>?_);(refine wp_alloc_msg rfl fun w1 ho1 hb1 hs1=>hK _ _ ?_);rw [HW.out] at ho1 hb1 hs1 ⊢;have HO1:=Lib.hid ho1.o;have HB1:=Lib.hid hb1;clear ho1 hb1 hs1)
 obtain ⟨g3,hg3⟩:∃ g,w.heap.size = g:=⟨_,rfl⟩
 have HG3:=Lib.hid hg3
 rw [hg3] at HO ⊢
 obtain ⟨g6,hg6⟩:∃ g,W.heap.size = g:=⟨_,rfl⟩
 have HG6:=Lib.hid hg6
 rw [hg6] at HO1 ⊢
 clear hg3 hg6
 have hc3:=fun w' (h:Grew w1 w')=>Grew.cell h (HQ.out.of_new HB1.out).cell3
 have hdg:DigAt w1 g3 0 d:=(HO.out.of_new HB1.out).at_
 have hl:=fun w' (h:Grew w1 w')=>HL.out w' (below_next HB1.out h)
 refine (wpIn_wide (n:=5)).1 ?_
 refine wpIn_region_mix (ro:=none) (C:=Grew w1) [0,1,2,3,4,5] [6] [7] (by kernel_rfl) (by kernel_rfl) (Grew.start _) (fun c a d v w h=>by cases d <;> exact h) ?_
 simp only [opsAt,List.flatMap_cons,List.flatMap_nil,List.getElem?_cons_zero,List.getElem?_cons_succ,Option.toList_some,List.cons_append,List.nil_append]
 go_simp
 repeat (first
  | (go_big_quiet_want;(with_reducible apply quiet_load_at (ty:=31) (x:=.tmp _));rfl;rfl;assumption;go_simp;go_big_quiet_on)
  | (go_big_quiet_want;apply quiet_val;(intro w' hw';go_simp;first | done | rfl);go_simp;go_big_quiet_on)
  | (go_big_quiet_skip))
 refine wpQuiet_nil ?_
 intro w2 hw2
 refine LateL.cons rfl (RCont.wp_alloc rfl ?_)
 intro w3 ho3 hb3 hs3
 have hw3:Grew w1 w3:=below_next hw2 hb3
 refine ⟨hw3,?_⟩
 refine LateL.nil ?_
 rw [wF_none]
 have hvok:RCont.ok x:=RCont_ok HV.out
 refine wpListIn_of_wp (ro:=none) rfl (fun c hc=>by cases hc) (ho3.store (x:=x) (.tmp 7) (.tmp 18) rfl rfl rfl hvok ?_)
 intro w4 ho4 hg4 hs4
 have hb4:Below w1.heap.size w1 w4:=hw3.grown hg4 (by have:=hw3.size;omega) (fun k e=>by cases e;exact hw2.size)
 obtain ⟨g7,hg7⟩:∃ g,w2.heap.size = g:=⟨_,rfl⟩
 rw [hg7] at ho4 ⊢
 have HO7:=Lib.hid ho4
 have HXO:=Lib.hid hvok.1
 have hB4:=below_next HB1.out hb4
 have HB4:=Lib.hid hB4
 have HM4:=Lib.hid (HO1.out.of_new hb4)
 have HD4:=Lib.hid (HO.out.of_new hB4).at_
 have HV4:=Lib.hid (HV.out.of_new hB4)
 clear hl hc3 hdg hw2 ho3 hb3 hs3 hw3 hvok ho4 hg4 hs4 hb4 hg7 hB4
 simp only [Act.put]
 rw [wF_none]
 gi_wp2
 obtain ⟨sp,hsp⟩:∃ sp,spanZ x.blob.size x.blob.piece i = sp:=⟨_,rfl⟩
 obtain ⟨A,N,c⟩:=sp
 have HS:=Lib.hid hsp
 go_upto_region 3 with (first
  | ((with_reducible refine wpList_plain (o:=⟨some 21,Op.load _ _,_,_,_,_⟩) rfl fun K hK=>?_);(refine (blob_at HO7.out).wp rfl rfl (hK _ _ ?_)))
  | (go_at_call 68;refine (Span_any x.blob i _ HXO.out i1 i2).mono ?_;rw [HS.out];rintro e w5 ⟨rfl,hb5⟩;have HB5:=Lib.hid (below_next HB4.out hb5);have HM5:=Lib.hid (HM4.out.of_new hb5);have HD5:=Lib.hid (HD4.out.of_new hb5);have HV5:=Lib.hid (HV4.out.of_new hb5);have HO75:=Lib.hid (HO7.out.of_new hb5);clear hb5))
 clear hsp
 by_cases hc:c = 0
 ·subst hc
  have hok:is = true∧contOk (x.blob,b):=by
   rcases HC.out with h | ⟨_,h⟩
   ·exact h
   ·have h1:=HS.out
    subst h
    have h2:=spanZ_zero i
    have h3:spanZ ContV.zero.blob.size ContV.zero.blob.piece i = spanZ 0 0 i:=rfl
    rw [h3] at h1
    rw [h1] at h2
    simp at h2
  obtain ⟨rfl,hok⟩:=hok
  obtain ⟨lo,len,hA,hN,hlen,hn1,hn2,hbl,hi0,hi3⟩:=give_bounds hok (i:=i) (by show (spanZ x.blob.size x.blob.piece i).2.2 = 0;rw [HS.out])
  replace hA:(spanZ x.blob.size x.blob.piece i).1 = (lo:Int):=hA
  replace hN:(spanZ x.blob.size x.blob.piece i).2.1 = (len:Int):=hN
  rw [HS.out] at hA hN
  subst hA
  subst hN
  have HT:=Lib.hid (show giveL ⟨I.map plI,C.map plC,tabOf E⟩ d i = { mk0 4 d with piece:=i,bytes:=(b.drop lo).take len,proof:=(proofE (leavesL b x.blob.piece.toNat) i).1 } by
   rw [giveL_some HI.out,if_pos (by show (spanZ x.blob.size x.blob.piece i).2.2 = 0;rw [HS.out])]
   unfold giveM
   dsimp only
   rw [HS.out]
   simp)
  have HLEN:=Lib.hid hlen
  have hc67:=RCont_leaves HO75.out.at_
  rw [Nat.zero_add] at hc67
  obtain ⟨pf,hpf⟩:∃ pf,proofE (leavesL b x.blob.piece.toNat) i = pf:=⟨_,rfl⟩
  rw [hpf] at HT
  obtain ⟨pr,pe⟩:=pf
  have HPF:=Lib.hid hpf
  obtain ⟨la,lc,hlv⟩:=HV5.out.leaves.digs.len
  have HLV:=Lib.hid HV5.out.leaves.digs
  rw [hlv] at hc67 HLV
  have HBD:=Lib.hid (show 1 ≤ len∧len ≤ 16384∧b.length ≤ 1048576 from ⟨hn1,hn2,hbl⟩)
  have hlo:(lo:Int) ≤ 1048576∧(len:Int) ≤ 1048576:=by replace hlen:lo + len ≤ b.length:=hlen;replace hbl:b.length ≤ 1048576:=hbl;omega
  have HLO:=Lib.hid hlo
  clear hpf hlv hlen hn1 hn2 hbl hi0 hi3 hok hlo
  go_upto_region 6 with (go_at_call 82;refine (Proof_any _ _ i _ HLV.out i1 i2 (HK.out _ (below_next HB.out HB5.out))).mono ?_;unfold ProofPost;rw [HPF.out];rintro e w6 ⟨v6,rfl,ho6,hb6⟩;obtain ⟨pa,pc,hvp⟩:=ho6.digs.len;subst hvp;have HPR:=Lib.hid ho6;have HZ5:=Lib.hid hb6.size;have HB6:=Lib.hid (below_next HB5.out hb6);have HM6:=Lib.hid (HM5.out.of_new hb6);have HD6:=Lib.hid (HD5.out.of_new hb6);have HV6:=Lib.hid (HV5.out.of_new hb6);have HO76:=Lib.hid (HO75.out.of_new hb6);clear ho6 hb6)
  have hc66:=RCont_bytes HO76.out.at_
  rw [Nat.zero_add] at hc66
  obtain ⟨ba,bc,hbv⟩:=HV6.out.bytes.bytes.len
  have HBY:=Lib.hid HV6.out.bytes.bytes
  rw [hbv] at hc66 HBY
  obtain ⟨iu,hiu,hsu⟩:=infoU8'
  obtain ⟨pv,hpv,hpb, -⟩:=Bytes.part (P:=Tryz.prog) (t:=33) (e:=5) HBY.out Tryz.underlying33 hiu hsu (some (.int .i64 (lo:Int))) (some (.int .i64 ((lo + len:Nat):Int))) lo (lo + len) (by omega) HLEN.out (.inr ⟨_,rfl⟩) (.inr ⟨_,rfl⟩)
  rw [show lo + len - lo = len by omega] at hpb
  obtain ⟨va,vc,hve⟩:=hpb.len
  subst hve
  have hwr:IntKind.i64.wrap ((lo:Int) + (len:Int)) = ((lo + len:Nat):Int):=by
   have:=HLO.out
   rw [IntWalk.i64_in _ (by omega)];omega
  rw [show ((lo + len:Nat):Int) = (lo:Int) + (len:Int) by omega] at hpv hwr
  have hdg:DigAt w6 g3 0 d:=HD6.out
  have hc66':=fun w' (h:Grew w6 w')=>Grew.cell h hc66
  obtain ⟨bs,hbs⟩:∃ bs,(b.drop lo).take len = bs:=⟨_,rfl⟩
  rw [hbs] at hpb HT hpv
  have HPB:=Lib.hid hpb
  have HBL:=Lib.hid (show bs.length ≤ 16384 by rw [← hbs,List.length_take];have:=HBD.out;omega)
  clear hbv hiu hsu hpb hbs hc67
  refine (wpIn_wide (n:=5)).1 ?_
  refine wpIn_region_mix (ro:=none) (C:=Grew w6) [0,1,2,3,4,5,6,7,8,10] [9] [11,12] (by kernel_rfl) (by kernel_rfl) (Grew.start _) (fun c a d v w h=>by cases d <;> exact h) ?_
  simp only [opsAt,List.flatMap_cons,List.flatMap_nil,List.getElem?_cons_zero,List.getElem?_cons_succ,Option.toList_some,List.cons_append,List.nil_append]
  go_simp
  repeat (first
   | (go_big_quiet_want;(with_reducible apply quiet_load_at (ty:=31) (x:=.tmp _));rfl;rfl;assumption;go_simp;go_big_quiet_on)
   | (go_big_quiet_want;apply quiet_val;(intro w' hw';go_simp;first | done | rfl);go_simp;go_big_quiet_on)
   | (go_big_quiet_skip))
  refine wpQuiet_nil ?_
  intro w7 hw7
  refine LateL.cons rfl (wp_enter (f:=36) (args:=#[.slice va bs.length vc]) (by go_simp <;> rfl) (Clone_any _ bs w7 (HPB.out.of_new hw7) (by have:=HBL.out;omega)) ?_)
  rintro e w8 ⟨v8,rfl,ho8,hb8⟩
  have hw8:Grew w6 w8:=below_next hw7 hb8
  refine ⟨_,rfl,hw8,?_⟩
  refine LateL.nil ?_
  rw [wF_none]
  obtain ⟨a8,c8,hv8⟩:=ho8.bytes.len
  subst hv8
  have HO8:=Lib.hid ho8
  have HM8:=Lib.hid (HM6.out.of_new hw8)
  have HPR8:=Lib.hid (HPR.out.of_new hw8)
  have HB8:=Lib.hid (below_next HB6.out hw8)
  have HW7:=Lib.hid (Nat.le_trans HB6.out.size hw7.size)
  have HW76:=Lib.hid hw7.size
  have HS5:=Lib.hid HB5.out.size
  clear hw7 hw8 ho8 hb8 hc66' hc66 hdg hwr hpv
  refine wpListIn_of_wp (ro:=none) rfl (fun c hc=>by cases hc) (wp_build_mG 4 d i (.slice a8 bs.length c8) (.slice pa pr.length pc) bs pr H32.out rfl rfl rfl rfl rfl rfl rfl rfl ?_)
  refine wpListIn_of_wp (ro:=none) rfl (fun c hc=>by cases hc) (wp_store_msg (.tmp 6) (.tmp 50) g6 _ msgZ _ sN rfl rfl rfl (msgR_G 4 i H32.out HO8.out.bytes HPR8.out.digs) HM8.out ?_)
  intro w9 ho9 hg9 hs9
  have HO9:=Lib.hid ho9
  have HG9:=Lib.hid hg9
  clear ho9 hg9 hs9
  simp only [Act.put]
  rw [wF_none]
  gi_wp2
  go_wp2
  refine bodyPost_ret (results_msg1 rfl _ rfl HO9.out) rfl ?_
  rw [HT.out]
  have hz1:=HM4.out.lt
  have hz2:=HB4.out.size
  have hz3:=HB.out.size
  have hz4:=HG6.out
  have hz5:=HB8.out.size
  have hz6:=HW7.out
  have hz7:=HS5.out
  have hz8:=HB5.out.size
  refine ⟨_,rfl,msgR_G 4 i H32.out (Row.of_kept HO8.out.bytes HG9.out (fun k hk e=>?_)) ⟨HPR8.out.digs.1,Row.of_kept HPR8.out.digs.2 HG9.out (fun k hk e=>?_)⟩,hi_G (fun k hk=>by have:=(World.ownsRow.lt HO8.out k hk).1;omega) (fun k hk=>by have:=(World.ownsRow.lt HPR8.out.2 k hk).1;omega),(below_next HB.out HB8.out).grown HG9.out (by omega) (fun k e=>by cases e;omega)⟩
  ·have:=(World.ownsRow.lt HO8.out k hk).1
   cases e
   have:=HM6.out.lt
   have:=HW76.out
   omega
  ·have:=(World.ownsRow.lt HPR8.out.2 k hk).1
   cases e
   have:=HM5.out.lt
   omega
 ·have HT:=Lib.hid (show giveL ⟨I.map plI,C.map plC,tabOf E⟩ d i = chokeL d i by
   rcases HC.out with ⟨rfl,_⟩ | ⟨rfl,_⟩
   ·rw [giveL_some HI.out,if_neg (by show ¬ (spanZ x.blob.size x.blob.piece i).2.2 = 0;rw [HS.out];exact hc)]
   ·exact giveL_none HI.out)
  have t1:(c == 0) = false:=beq_eq_false_iff_ne.2 hc
  have t2:(c != 0) = true:=bne_iff_ne.2 hc
  clear hc
  go_wp2_with (first
   | ((with_reducible refine wpList_plain (o:=⟨some 29,Op.load _ _,_,_,_,_⟩) rfl fun K hK=>?_);(refine wp_load_at (ty:=31) (x:=.tmp 4) rfl rfl HD5.out (hK _ _ ?_)))
   | ((with_reducible refine wpList_plain (o:=⟨some 31,Op.build _ _,_,_,_,_⟩) rfl fun K hK=>?_);(refine wp_build_m2 5 d i H32.out rfl rfl rfl rfl (hK _ _ ?_)))
   | ((with_reducible refine wpList_plain (o:=⟨none,Op.store _ (.tmp 6) (.tmp 31),_,_,_,_⟩) rfl fun K hK=>?_);(refine wp_store_msg (.tmp 6) (.tmp 31) g6 _ msgZ _ sN rfl rfl rfl (msgR_2 _ 5 i H32.out) HM5.out fun w6 ho6 hg6 hs6=>hK _ _ ?_);have HO6:=Lib.hid ho6;have HGG:=Lib.hid hg6;clear ho6 hg6 hs6))
  refine bodyPost_ret (results_msg1 rfl _ rfl HO6.out) rfl ?_
  rw [HT.out]
  exact ⟨sN,rfl,msgR_2 _ 5 i H32.out,hi_sN _,(below_next HB.out HB5.out).grown HGG.out (by have:=HB.out.size;have:=HB5.out.size;omega) (fun k e=>by cases e;have:=HG6.out;have:=HB.out.size;omega)⟩
end Go.Proofs.YtnohglkilpnjhaaGreatDoor

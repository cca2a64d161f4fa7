/- Lemmas that the statement of this claim leans on; their own comments are taken out, for the size of the claim. No condition beyond what each lemma states. -/
import Derived.Test.YtnohglkilpnjhaaGreatDoorSa19
set_option linter.unusedVariables false
set_option linter.unusedSimpArgs false
set_option linter.unusedSectionVars false
namespace Go.Proofs.YtnohglkilpnjhaaGreatDoor
open Go.RowKit
set_option maxRecDepth 100000
theorem live_step {now:Int} {A:TabL} {d:List UInt8} {P:List PeerL}:liveT now (A ++ [(d,P)]) = if liveP now P = [] then liveT now A else liveT now A ++ [(d,liveP now P)]:=by
 rw [liveT_append]
 show liveT now A ++ (oneT d (liveP now P) ++ []) = _
 unfold oneT
 split <;> simp
theorem liveP_snoc (now:Int) (A:List PeerL) (p:PeerL):liveP now (A ++ [p]) = if p.till ≤ now then liveP now A else liveP now A ++ [p]:=by
 rw [liveP_append]
 by_cases h:p.till ≤ now
 ·rw [if_pos h];simp [liveP];omega
 ·rw [if_neg h];simp [liveP];omega
theorem midN_snoc (now:Int) (A:TabL) (a:List PeerL) (p:PeerL):midN now A (a ++ [p]) = if p.till ≤ now then midN now A a + 1 else midN now A a:=by
 have hl:=liveP_snoc now a p
 have:=liveP_len now a
 unfold midN
 rw [hl]
 split <;> simp <;> omega
set_option maxHeartbeats 6400000 in
theorem RExpire_any (r:Nat) (many most:Int) (B:Nat) (v:Value) (L:RefL) (T:TabL) (now:Int) (w:World) (hR:RTabP w r many most B v L T) (hT:TabOk many most T) (hm:1 ≤ many∧many ≤ 1000) (he:1 ≤ most∧most ≤ 64) :
  Calls Tryz.prog 101 #[.pointer (some ⟨r,0,none⟩),.int .i64 now] w
   (RPost w r many most B v (expT T now).1 (.tuple #[.int .i64 (expT T now).2.1,.int .i64 (expT T now).2.2])):=by
 have HR:=Lib.hid hR
 have HT:=Lib.hid hT
 rcases hw:within now 0 1099511627776 with _ | _
 ·have hx:expT T now = (T,0,1):=by
   unfold expT
   rw [if_neg (of_decide_eq_false hw)]
  rw [hx]
  clear hR hT hx
  go_enter Tryz.func101,Tryz.ntmps101
  go_wp2_with (go_at_call 97;refine (RIsMoment_any _ _).mono ?_;rintro e w1 ⟨rfl,rfl⟩)
  go_ret2
  exact ⟨_,_,rfl,HR.out,Kept.refl _ _⟩
 ·have hnow:0 ≤ now∧now ≤ 1099511627776:=of_decide_eq_true hw
  have hx:expT T now = (liveT now T,(goneN now T:Int),0):=by
   unfold expT
   rw [if_pos hnow]
  rw [hx]
  obtain ⟨va,vc,hv⟩:=hR.own.row.len
  subst hv
  have hLT:=hR.len
  obtain ⟨n,hn⟩:∃ n,T.length = n:=⟨_,rfl⟩
  rw [hLT,hn] at HR ⊢
  have hn1:n ≤ 1000:=by have:=hT.few;omega
  have hgn:goneN now T ≤ 64000:=by
   refine Nat.le_trans (gone_le2 now T 64 fun x hx=>by have:=(hT.ps x hx).2.2;omega) ?_
   rw [hn];omega
  have HN:=Lib.hid hn
  have HLT:=Lib.hid hLT
  have HGN:=Lib.hid hgn
  have HX:=Lib.hid hx
  clear hR hT hLT hn hgn hx
  go_enter Tryz.func101,Tryz.ntmps101
  go_wp2_with (go_at_call 97;refine (RIsMoment_any _ _).mono ?_;rintro e w1 ⟨rfl,rfl⟩)
  rename World=>w0
  go_loopw [7,8,9,10,11] (fun nv av iv _ _ W=>∃ (i:Nat) (La:RefL),i ≤ n∧iv = .int .i64 (i:Int)∧nv = .int .i64 (goneN now (T.take i):Int)∧ROf.Own W w0.heap.size av La∧La.map (·.1) = (liveT now (T.take i)).map (·.1)∧(∀ (j:Nat) (x:List UInt8 × Value) (y:List UInt8 × List PeerL),La[j]? = some x→(liveT now (T.take i))[j]? = some y→RPeer.Own W B x.2 y.2)∧Below w0.heap.size w0 W) (fun _ _ iv _ _ _=>n - (intOf iv).toNat)
  case atStart=>exact ⟨0,[],Nat.zero_le _,rfl,rfl,RecT.Own.nil _ _,rfl,(fun j x y hx=>by simp at hx),Below.refl _ _⟩
  case round=>
   rename World=>w1
   obtain ⟨i,La,hi,rfl,rfl,hown,hkeys,hrows,hb⟩:=hrel
   have hRr:=HR.out.of_new hb
   have c2:=hRr.cell2
   obtain ⟨aa,ac,hv⟩:=hown.row.len
   subst hv
   by_cases hlt:i < n
   ·have hii:(i:Int) < (n:Int):=by omega
    obtain ⟨⟨d,P⟩,hy⟩:∃ y,T[i]? = some y:=⟨_,List.getElem?_eq_getElem (by rw [HN.out];exact hlt)⟩
    obtain ⟨gv,gc,hv, -, -, -, -, -⟩:=hRr.form (by rw [HN.out];omega)
    have hva:va = some ⟨gv,0,none⟩:=(Value.slice.inj hv).1
    subst hva
    clear hv
    obtain ⟨aP,kP,hu,hrow,hcell, -, -, -⟩:=hRr.entry hy
    obtain ⟨x,hx⟩:∃ x,L[i]? = some x:=⟨_,List.getElem?_eq_getElem (by rw [HLT.out,HN.out];exact hlt)⟩
    obtain ⟨b9,off9,c9,hv9, -,hat9⟩:=hRr.own.row.at_ (by rw [HLT.out,HN.out];omega)
    have h9:=(Value.slice.inj hv9).1
    cases h9
    have hdg0:DigAt w1 gv (0 + i * 33) x.1:=ROf_dig (hat9 i x hx)
    rw [hRr.fst hx hy,Nat.zero_add] at hdg0
    have hdg:DigAt w1 gv (i * 33) d:=hdg0
    have hm32:d.length = 32:=HT.out.dig _ (List.mem_of_getElem? hy)
    have hP64:P.length ≤ 64:=by have:=(HT.out.ps _ (List.mem_of_getElem? hy)).2.2;dsimp only at this;omega
    have htk:=take_snoc_at hy
    have hgle:goneN now (T.take (i + 1)) ≤ 64000:=Nat.le_trans (goneN_take now T (i + 1)) HGN.out
    have hgle0:goneN now (T.take i) ≤ 64000:=Nat.le_trans (goneN_take now T i) HGN.out
    have hLal:La.length ≤ 1000:=by
     have h1:=congrArg List.length hkeys
     rw [List.length_map,List.length_map] at h1
     have h2:=liveT_len now (T.take i)
     rw [List.length_take] at h2
     omega
    obtain ⟨A,hA⟩:∃ A,T.take i = A:=⟨_,rfl⟩
    rw [hA] at htk hkeys hrows hgle0 ⊢
    rw [htk,← (midT_end (now:=now) (A:=A) (d:=d) (P:=P) (B:=[])).2] at hgle
    have hmid0:midN now A [] = goneN now A:=by unfold midN;simp [liveP]
    rw [← hmid0]
    have HTK:=Lib.hid htk
    have HKEYS:=Lib.hid hkeys
    have HROWS:=Lib.hid hrows
    have HOWN:=Lib.hid hown
    have HB:=Lib.hid hb
    have HROW:=Lib.hid hrow
    have HDG:=Lib.hid hdg
    have H32:=Lib.hid hm32
    have HC2:=Lib.hid c2
    have HCE:=Lib.hid hcell
    have HLAL:=Lib.hid hLal
    have HGLE:=Lib.hid hgle
    clear hv9 hat9 hdg0 hx hu hrow hA htk hkeys hrows hown hb hdg hm32 hRr hy hmid0 hLal hgle hgle0
    clear hcell
    go_wp2
    clear c2
    go_loopw [7,10,11] (fun nv lv kv W=>∃ k:Nat,k ≤ P.length∧kv = .int .i64 (k:Int)∧nv = .int .i64 (midN now A (P.take k):Int)∧RPeer.Own W w1.heap.size lv (liveP now (P.take k))∧Below w1.heap.size w1 W) (fun _ _ kv _=>P.length - (intOf kv).toNat)
    case atStart=>exact ⟨0,Nat.zero_le _,rfl,rfl,RecT.Own.nil _ _,Below.refl _ _⟩
    case round=>
     rename World=>w2
     obtain ⟨k,hk,rfl,rfl,hol,hb2⟩:=hrel
     have c2:=Grew.cell hb2 HC2.out
     have hcell:=Grew.cell hb2 HCE.out
     obtain ⟨la,lc,hv⟩:=hol.row.len
     subst hv
     by_cases hltk:k < P.length
     ·have hki:(k:Int) < (P.length:Int):=by omega
      obtain ⟨p,hp⟩:∃ p,P[k]? = some p:=⟨_,List.getElem?_eq_getElem hltk⟩
      obtain ⟨pb,poff,c',hv,hbl,hat⟩:=HROW.out.row.at_ (by omega)
      obtain ⟨rfl,rfl⟩:aP = some ⟨pb,poff,none⟩∧kP = c':=by cases hv;exact ⟨rfl,rfl⟩
      have hA2:=(hat k p hp).of_new hb2
      have htl:w2.cell? ⟨pb,poff + k * 3 + 1,none⟩ = some (.int .i64 p.till):=(peer_cells hA2).2.1
      have HTK2:=Lib.hid (take_snoc_at hp)
      have HLS:=Lib.hid (liveP_snoc now (P.take k) p)
      have HMS:=Lib.hid (midN_snoc now A (P.take k) p)
      have hmb:midN now A (P.take k) ≤ 64000 + 64:=by
       have h1:=HGLE.out
       have h2:=liveP_len now P
       unfold midN at h1 ⊢
       have h3:(P.take k).length ≤ 64:=by rw [List.length_take];omega
       omega
      have hll:(liveP now (P.take k)).length ≤ 64:=by have:=liveP_len now (P.take k);rw [List.length_take] at this;omega
      have HA2:=Lib.hid hA2
      have HOL:=Lib.hid hol
      have HB2:=Lib.hid hb2
      obtain ⟨M,hM⟩:∃ M,midN now A (P.take k) = M:=⟨_,rfl⟩
      obtain ⟨LL,hLL⟩:∃ LL,liveP now (P.take k) = LL:=⟨_,rfl⟩
      rw [hM] at HMS hmb ⊢
      rw [hLL] at HLS HOL hll ⊢
      have HLLN:=Lib.hid hll
      clear hv hbl hat hp hA2 hol hb2 hM hLL hll
      by_cases hg:p.till ≤ now
      ·have hms:=HMS.out
       have hls:=HLS.out
       rw [if_pos hg] at hms hls
       have HM2:=Lib.hid hms
       have HL2:=Lib.hid hls
       clear hms hls
       go_wp2
       go_roundw
       case rel=>exact ⟨k + 1,by omega,by go_num,by rw [HTK2.out,HM2.out];go_num,by rw [HTK2.out,HL2.out];exact HOL.out,HB2.out⟩
       case measure=>simp [intOf];omega
      ·have hms:=HMS.out
       have hls:=HLS.out
       rw [if_neg hg] at hms hls
       have HM2:=Lib.hid hms
       have HL2:=Lib.hid hls
       clear hms hls
       go_wp2_with (first
        | ((with_reducible refine wpList_plain (o:=⟨some 65,Op.load _ _,_,_,_,_⟩) rfl fun K hK=>?_);(refine HA2.out.wp rfl rfl (hK _ _ ?_)))
        | ((with_reducible refine wpList_plain (o:=⟨some 66,Op.buildSlice _ _ _,_,_,_,_⟩) rfl fun K hK=>?_);(refine RPeer.wp_build1 Tryz.underlying71 (.tmp 65) (RPeer_ok p) rfl rfl fun w9 ho9 hb9 hs9=>hK _ _ ?_);have HO9:=Lib.hid ho9.row;have HB9:=Lib.hid hb9;clear ho9 hb9 hs9)
        | ((with_reducible refine wpList_plain (o:=⟨some 67,Op.call _,_,_,_,_⟩) rfl fun K hK=>?_);(refine (HOL.out.of_new HB9.out).app Tryz.underlying71 (.tmp 54) (.tmp 66) rfl rfl rfl HO9.out (by have:=HLLN.out;simp;omega) (by have:=HB2.out.size;have:=HB9.out.size;omega) fun v10 w10 ho10 hg10 hu10=>hK _ _ ?_);have HO10:=Lib.hid ho10;have HB10:=Lib.hid ((below_next HB2.out HB9.out).grown hg10 (by have:=HB2.out.size;have:=HB9.out.size;omega) (fun k e=>(HOL.out.lt k e).1));clear ho10 hg10 hu10))
       go_roundw
       case rel=>exact ⟨k + 1,by omega,by go_num,by rw [HTK2.out,HM2.out],by rw [HTK2.out,HL2.out];exact HO10.out,HB10.out⟩
       case measure=>simp [intOf];omega
     ·obtain rfl:k = P.length:=by omega
      have hki:¬ (P.length:Int) < (P.length:Int):=by omega
      rw [List.take_length] at hol ⊢
      have hmg:midN now A P = goneN now (T.take (i + 1)):=by rw [HTK.out];exact (midT_end (now:=now) (A:=A) (d:=d) (P:=P) (B:=[])).2
      have hls:=live_step (now:=now) (A:=A) (d:=d) (P:=P)
      rw [← HTK.out] at hls
      have HMG:=Lib.hid hmg
      have hllb:(liveP now P).length ≤ 64:=by have:=liveP_len now P;omega
      obtain ⟨LL,hLL⟩:∃ LL,liveP now P = LL:=⟨_,rfl⟩
      rw [hLL] at hol hls hllb ⊢
      have HOL:=Lib.hid hol
      have HB2:=Lib.hid hb2
      have HLS:=Lib.hid hls
      have HBA:=Lib.hid (below_next HB.out hb2)
      have HOWN2:=Lib.hid (HOWN.out.of_new hb2)
      have HDG2:=Lib.hid (HDG.out.of_new hb2)
      clear hLL hol hls hb2 hmg
      by_cases h0:LL = []
      ·have hl0:¬ (0:Int) < (LL.length:Int):=by rw [h0];decide
       have hls:=HLS.out
       rw [if_pos h0] at hls
       have HL2:=Lib.hid hls
       clear hls h0
       go_wp2
       go_roundw
       case rel=>exact ⟨i + 1,La,by omega,by go_num,by rw [HMG.out],HOWN2.out,by rw [HL2.out];exact HKEYS.out,by rw [HL2.out];exact fun j x y hx hy=>(HROWS.out j x y hx hy).of_new HB2.out,HBA.out⟩
       case measure=>simp [intOf];omega
      ·have hl0:(0:Int) < (LL.length:Int):=by have:=List.length_pos_iff.2 h0;omega
       have hls:=HLS.out
       rw [if_neg h0] at hls
       have HL2:=Lib.hid hls
       clear hls h0
       go_wp2_with (first
        | ((with_reducible refine wpList_plain (o:=⟨some 79,Op.load _ _,_,_,_,_⟩) rfl fun K hK=>?_);(refine wp_load_at (ty:=31) (x:=.tmp 78) rfl rfl HDG2.out (hK _ _ ?_)))
        | ((with_reducible refine wpList_plain (o:=⟨some 81,Op.build _ _,_,_,_,_⟩) rfl fun K hK=>?_);(refine wp_build_of2 d (.slice la LL.length lc) rfl rfl rfl H32.out rfl (hK _ _ ?_)))
        | ((with_reducible refine wpList_plain (o:=⟨some 82,Op.buildSlice _ _ _,_,_,_,_⟩) rfl fun K hK=>?_);(refine ROf.wp_build1 Tryz.underlying142 (.tmp 81) (x:=(d,.slice la LL.length lc)) ⟨H32.out,rfl⟩ rfl rfl fun w9 ho9 hb9 hs9=>hK _ _ ?_);have HO9:=Lib.hid ho9.row;have HB9:=Lib.hid hb9;clear ho9 hb9 hs9)
        | ((with_reducible refine wpList_plain (o:=⟨some 83,Op.call _,_,_,_,_⟩) rfl fun K hK=>?_);(refine (HOWN2.out.of_new HB9.out).app Tryz.underlying142 (.tmp 71) (.tmp 82) rfl rfl rfl HO9.out (by have:=HLAL.out;simp;omega) (by have:=HBA.out.size;have:=HB9.out.size;omega) fun v10 w10 ho10 hg10 hu10=>hK _ _ ?_);have HO10:=Lib.hid ho10;have HG10:=Lib.hid hg10;have HB10:=Lib.hid ((below_next HBA.out HB9.out).grown hg10 (by have:=HBA.out.size;have:=HB9.out.size;omega) (fun k e=>(HOWN2.out.lt k e).1));clear ho10 hg10 hu10))
       have hrows':∀ (j:Nat) (x:List UInt8 × Value) (y:List UInt8 × List PeerL),(La ++ [(d,Value.slice la LL.length lc)])[j]? = some x→(liveT now A ++ [(d,LL)])[j]? = some y→RPeer.Own w10 B x.2 y.2:=fun j x y hx hy=>by
        have hkl:La.length = (liveT now A).length:=by have:=congrArg List.length HKEYS.out;simpa using this
        have hkeep:∀ {u:Value} {q:List PeerL},RPeer.Own w2 B u q→RPeer.Own w10 B u q:=fun {u q} h=>(h.of_new HB9.out).kept fun k e=>HG10.out.block k ((h.of_new HB9.out).lt k e).2 fun e2=>by
         obtain ⟨cur1,q1⟩:=h.block e
         obtain ⟨cur2,q2⟩:=HOWN2.out.block e2.symm
         rw [q1] at q2;cases q2
        by_cases hj:j < La.length
        ·rw [List.getElem?_append_left hj] at hx
         rw [List.getElem?_append_left (by omega)] at hy
         exact hkeep ((HROWS.out j x y hx hy).of_new HB2.out)
        ·rw [List.getElem?_append_right (by omega)] at hx hy
         rw [← hkl] at hy
         have hj0:j - La.length = 0:=by
          rcases Nat.eq_zero_or_pos (j - La.length) with h | h
          ·exact h
          ·rw [List.getElem?_eq_none (by simp;omega)] at hx;cases hx
         rw [hj0] at hx hy
         cases hx;cases hy
         exact hkeep (HOL.out.mono (by have h1:=HR.out.base;have h2:=HR.out.lt;have h3:=HB.out.size;omega))
       have HROWS':=Lib.hid hrows'
       clear hrows'
       go_roundw
       case rel=>exact ⟨i + 1,La ++ [(d,Value.slice la LL.length lc)],by omega,by go_num,by rw [HMG.out],HO10.out,by rw [HL2.out,List.map_append,List.map_append,HKEYS.out];rfl,by rw [HL2.out];exact HROWS'.out,HB10.out⟩
       case measure=>simp [intOf];omega
   ·obtain rfl:i = n:=by omega
    have hii:¬ (i:Int) < (i:Int):=by omega
    have he:T.take i = T:=List.take_of_length_le (by rw [HN.out];exact Nat.le_refl _)
    rw [he] at hkeys hrows ⊢
    have f2:=hRr.free 2
    have HST:=Lib.hid (RTabP.put HR.out hb hown hkeys hrows rfl)
    have HXX:=HX
    obtain ⟨G,hG⟩:∃ G,goneN now T = G:=⟨_,rfl⟩
    rw [hG]
    have HGG:=Lib.hid hG
    clear he hkeys hrows hown hb hRr hG
    go_wp2
    go_ret2
    exact ⟨_,_,(by rw [HGG.out];rfl),HST.out.1,HST.out.2⟩
def HasV (p:Bool × Bool × Bool × Int × Bool × Bool × Bool):Value:=.tuple #[.bool p.1,.bool p.2.1,.bool p.2.2.1,.int .i64 p.2.2.2.1,.bool p.2.2.2.2.1,.bool p.2.2.2.2.2.1,.bool p.2.2.2.2.2.2]
set_option maxHeartbeats 3200000 in
theorem RHas_any (k:Int) (w:World):Calls Tryz.prog 44 #[.int .i64 k] w fun e w'=>e = .returned (HasV (rhasL k))∧w = w':=by
 rcases (show k = 1∨k = 2∨k = 3∨k = 4∨k = 5∨k = 6∨k = 7∨k = 8∨k = 10∨(k ≠ 1∧k ≠ 2∧k ≠ 3∧k ≠ 4∧k ≠ 5∧k ≠ 6∧k ≠ 7∧k ≠ 8∧k ≠ 10) by omega) with h | h | h | h | h | h | h | h | h | h
 case inr.inr.inr.inr.inr.inr.inr.inr.inr=>
  obtain ⟨h1,h2,h3,h4,h5,h6,h7,h8,h10⟩:=h
  rw [show rhasL k = (true,false,false,0,false,false,false) by simp [rhasL,h1,h2,h3,h4,h5,h6,h7,h8,h10]]
  have t1:(k == 1) = false:=beq_eq_false_iff_ne.2 h1
  have t2:(k == 2) = false:=beq_eq_false_iff_ne.2 h2
  have t3:(k == 3) = false:=beq_eq_false_iff_ne.2 h3
  have t4:(k == 4) = false:=beq_eq_false_iff_ne.2 h4
  have t5:(k == 5) = false:=beq_eq_false_iff_ne.2 h5
  have t6:(k == 6) = false:=beq_eq_false_iff_ne.2 h6
  have t7:(k == 7) = false:=beq_eq_false_iff_ne.2 h7
  have t8:(k == 8) = false:=beq_eq_false_iff_ne.2 h8
  have t10:(k == 10) = false:=beq_eq_false_iff_ne.2 h10
  clear h1 h2 h3 h4 h5 h6 h7 h8 h10
  go_enter Tryz.func44,Tryz.ntmps44
  go_wp2
  refine bodyPost_ret (v:=HasV (true,false,false,0,false,false,false)) (by simp [results,Tryz.results44,go_sem];rfl) rfl ⟨rfl,rfl⟩
 all_goals
  subst h
  go_enter Tryz.func44,Tryz.ntmps44
  go_wp2
  refine bodyPost_ret (v:=HasV (rhasL _)) (by simp [results,Tryz.results44,go_sem];rfl) rfl ⟨rfl,rfl⟩
set_option maxHeartbeats 1600000 in
theorem RMember_any (x:MemL) (w:World) :
  Calls Tryz.prog 88 #[.agg #[.int .i64 x.id,.int .i64 x.inc,.int .i64 x.state,.int .i64 x.since]] w fun e w'=>e = .returned (.bool (memB x))∧Below w.heap.size w w':=by
 have i1:=fun w'=>IsId_any x.id w'
 have he:memB x = (idB x.id && withinB x.inc 0 1073741824 && withinB x.state 1 3):=rfl
 rw [he]
 clear he
 have hb:Below w.heap.size w (w.alloc (.cells #[.int .i64 x.id,.int .i64 x.inc,.int .i64 x.state,.int .i64 x.since] 113)):=(Below.refl _ _).alloc (Nat.le_refl _) _
 obtain ⟨xi,xj,xs,xt⟩:=x
 dsimp only at *
 generalize idB xi = A at *
 cases A
 ·go_enter Tryz.func88,Tryz.ntmps88
  go_wp2_with (first | (go_at_call 87;refine (i1 _).mono ?_;rintro e w2 ⟨rfl,rfl⟩))
  go_ret
  exact ⟨rfl,hb⟩
 unfold withinB
 by_cases h1:0 ≤ xj
 case neg=>
  go_enter Tryz.func88,Tryz.ntmps88
  go_wp2_with (first | (go_at_call 87;refine (i1 _).mono ?_;rintro e w2 ⟨rfl,rfl⟩))
  go_ret
  exact ⟨ret_bool (by simp;omega),hb⟩
 by_cases h2:xj ≤ 1073741824
 case neg=>
  go_enter Tryz.func88,Tryz.ntmps88
  go_wp2_with (first | (go_at_call 87;refine (i1 _).mono ?_;rintro e w2 ⟨rfl,rfl⟩))
  go_ret
  exact ⟨ret_bool (by simp;omega),hb⟩
 by_cases h3:1 ≤ xs
 case neg=>
  go_enter Tryz.func88,Tryz.ntmps88
  go_wp2_with (first | (go_at_call 87;refine (i1 _).mono ?_;rintro e w2 ⟨rfl,rfl⟩))
  go_ret
  exact ⟨ret_bool (by simp;omega),hb⟩
 ·go_enter Tryz.func88,Tryz.ntmps88
  go_wp2_with (first | (go_at_call 87;refine (i1 _).mono ?_;rintro e w2 ⟨rfl,rfl⟩))
  go_ret
  exact ⟨ret_bool (by simp [h1,h2,h3]),hb⟩
set_option maxHeartbeats 6400000 in
theorem WRRight_any (m:MsgL) (s:MsgS) (w:World) (hm:MsgR w m s) :
  Calls Tryz.prog 43 #[MsgV m s] w fun e w'=>e = .returned (.bool (rrightB m))∧Below w.heap.size w w':=by
 obtain ⟨W,hW,ho,hb⟩:=msg_boxed w (s:=s) hm.hash
 have hmW:=hm.of_new hb
 have hi:=hmW.ids
 have hme:=hmW.members
 obtain ⟨ai,ci,hvi⟩:=hi.len
 obtain ⟨ab,cb,hvb⟩:=hm.bytes.len
 obtain ⟨ap,cp,hvp⟩:=hm.proof.len
 obtain ⟨am,cm,hvm⟩:=hme.len
 have li:=hi.le
 have lm:=hme.le
 have lb:=hm.bytes.le
 have e0:=ho.kind
 have eh:=ho.hash
 have e3:=ho.piece
 have e4:=ho.ids
 have e5:=ho.bytes
 have e6:=ho.proof
 have e7:=ho.members
 have e8:=ho.seed
 have hls:=ho.lt
 rw [hvi] at e4 hi
 rw [hvb] at e5
 rw [hvp] at e6
 rw [hvm] at e7 hme
 have h32:=hm.hash
 have hgd:=guard_dig
 have heq:=run_neq_dig m.hash zero32 h32 rfl
 rw [show (List.map B8 zero32).toArray = #[.int .u8 0,.int .u8 0,.int .u8 0,.int .u8 0,.int .u8 0,.int .u8 0,.int .u8 0,.int .u8 0,.int .u8 0,.int .u8 0,.int .u8 0,.int .u8 0,.int .u8 0,.int .u8 0,.int .u8 0,.int .u8 0,.int .u8 0,.int .u8 0,.int .u8 0,.int .u8 0,.int .u8 0,.int .u8 0,.int .u8 0,.int .u8 0,.int .u8 0,.int .u8 0,.int .u8 0,.int .u8 0,.int .u8 0,.int .u8 0,.int .u8 0,.int .u8 0] from rfl] at heq
 have hR:=RHas_any m.kind W
 have hrr:rrightB m = (!rTest1 m && !rTest2 m && !rTest3 m && m.ids.all idB && m.members.all memB0):=rfl
 unfold rTest1 rTest2 rTest3 at hrr
 have HW:=Lib.hid hW
 have HI:=Lib.hid hi
 have HM:=Lib.hid hme
 have HO:=Lib.hid ho
 obtain ⟨V,hV⟩:∃ V,MsgV m s = V:=⟨_,rfl⟩
 rw [show MsgV m s = .agg (msgCells m s).toArray from rfl] at hV ⊢
 obtain ⟨F,hF⟩:∃ F,rhasL m.kind = F:=⟨_,rfl⟩
 rw [hF] at hR hrr
 obtain ⟨R,hRe⟩:∃ R,rrightB m = R:=⟨_,rfl⟩
 rw [hRe] at hrr ⊢
 have HF:=Lib.hid hF
 generalize hz:decide (m.hash = zero32) = z at *
 generalize m.kind = k at *
 generalize m.hash = hsh at *
 generalize m.piece = p at *
 generalize m.seed = sd at *
 generalize hnb:m.bytes.length = nb at *
 generalize hnp:m.proof.length = np at *
 generalize hni:m.ids.length = ni at *
 generalize hnm:m.members.length = nm at *
 have HNI:=Lib.hid hni
 have HNM:=Lib.hid hnm
 have HRR:=Lib.hid hrr
 clear hW hm hmW hvi hvb hvp hvm ho hi hme hV hF hRe hz hnb hnp hni hnm hrr
 go_enter Tryz.func43,Tryz.ntmps43
 go_upto_region 1 with (fail)
 rw [HW.out]
 by_cases c1:k < 1
 ·go_wp2
  go_ret
  exact ⟨ret_bool (by rw [HRR.out];simp [c1]),hb⟩
 by_cases c2:11 < k
 ·go_wp2
  go_ret
  exact ⟨ret_bool (by rw [HRR.out];simp [c2]),hb⟩
 by_cases c3:p < 0
 ·go_wp2
  go_ret
  exact ⟨ret_bool (by rw [HRR.out];simp [c3]),hb⟩
 by_cases c4:1023 < p
 ·go_wp2
  go_ret
  exact ⟨ret_bool (by rw [HRR.out];simp [c4]),hb⟩
 by_cases c5:(64:Int) < ni
 ·go_wp2
  go_ret
  exact ⟨ret_bool (by rw [HRR.out];simp [c5]),hb⟩
 by_cases c6:(10:Int) < np
 ·go_wp2
  go_ret
  exact ⟨ret_bool (by rw [HRR.out];simp [c6]),hb⟩
 by_cases c7:(65:Int) < nm
 ·go_wp2
  go_ret
  exact ⟨ret_bool (by rw [HRR.out];simp [c7]),hb⟩
 go_upto_region 4 with (first | (go_at_call 44;refine hR.mono ?_;rintro e w2 ⟨rfl,rfl⟩;unfold HasV))
 have hdec:R = (!((!F.1 && !z) || (!F.2.1 && !decide (p = 0)) || (!F.2.2.1 && decide (0 < (ni:Int))) || (!F.2.2.2.2.1 && decide (0 < (np:Int))) || (!F.2.2.2.2.2.2 && sd)) && (!(decide (F.2.2.2.1 < (nb:Int)) || (decide (0 < F.2.2.2.1) && decide ((nb:Int) = 0)) || (F.2.2.2.2.2.1 != decide (0 < (nm:Int)))) && m.ids.all idB && m.members.all memB0)):=by
  rw [HRR.out];simp [show ¬ k < 1 by omega,show ¬ 11 < k by omega,show ¬ p < 0 by omega,show ¬ 1023 < p by omega,show ¬ (64:Int) < ni by omega,show ¬ (10:Int) < np by omega,show ¬ (65:Int) < nm by omega,Bool.and_assoc]
 have HRR2:=Lib.hid hdec
 clear hdec HRR hR
 have hF:=HF.out
 have hF8:F = (true,false,false,128,false,false,false)∨F = (true,true,false,0,false,false,false)∨F = (true,true,false,16384,true,false,false)∨F = (true,false,false,0,false,false,true)∨F = (true,false,true,0,false,false,false) ∨
   F = (false,false,false,0,false,true,false)∨F = (true,false,false,4096,false,false,false)∨F = (true,false,false,0,false,false,false):=by
  rw [← hF]
  rcases kinds k with h | h | h | h | h | h | h | h | h | h | h | h
  case inr.inr.inr.inr.inr.inr.inr.inr.inr.inr.inr=>omega
  all_goals (subst h;simp [rhasL])
 have HF8:=Lib.hid hF8
 clear hF hF8 HF
 go_cut [105] (fun v W'=>W' = W∧v = .bool ((!F.1 && !z) || (!F.2.1 && !decide (p = 0)) || (!F.2.2.1 && decide (0 < (ni:Int))) || (!F.2.2.2.2.1 && decide (0 < (np:Int))) || (!F.2.2.2.2.2.2 && sd)))
 case first=>
  clear HRR2
  rcases HF8.out with h | h | h | h | h | h | h | h
  all_goals
   as_aux_lemma=>
    subst h
    dsimp only
    go_wp2_with (first
     | ((with_reducible refine wpList_met (o:=⟨some 65,_,_,_,_,_⟩) ?_ ?_);rfl;intro K hK;refine wp_load_at (ty:=31) (x:=.tmp 64) rfl rfl eh (hK _ _ ?_)))
    all_goals
     go_meet
     refine ⟨rfl,?_⟩
     simp [Nat.pos_iff_ne_zero, *]
 case rest=>
  obtain ⟨rfl,rfl⟩:=hcut
  generalize hT:((!F.1 && !z) || (!F.2.1 && !decide (p = 0)) || (!F.2.2.1 && decide (0 < (ni:Int))) || (!F.2.2.2.2.1 && decide (0 < (np:Int))) || (!F.2.2.2.2.2.2 && sd)) = T at *
  cases T with
  | true=>
   clear hT
   go_wp2
   go_ret
   exact ⟨ret_bool (by rw [HRR2.out];rfl),hb⟩
  | false=>
  clear hT
  go_upto_region 6 with (fail)
  go_cut [128] (fun v W'=>W' = wc∧v = .bool (decide (F.2.2.2.1 < (nb:Int)) || (decide (0 < F.2.2.2.1) && decide ((nb:Int) = 0)) || (F.2.2.2.2.2.1 != decide (0 < (nm:Int)))))
  case first=>
   clear HRR2
   rcases HF8.out with h | h | h | h | h | h | h | h
   all_goals
    as_aux_lemma=>
     subst h
     dsimp only
     go_wp2
     all_goals
      go_meet
      refine ⟨rfl,?_⟩
      simp [Nat.pos_iff_ne_zero,eqz, *]
  case rest=>as_aux_lemma=>
   obtain ⟨rfl,rfl⟩:=hcut
   generalize hT:(decide (F.2.2.2.1 < (nb:Int)) || (decide (0 < F.2.2.2.1) && decide ((nb:Int) = 0)) || (F.2.2.2.2.2.1 != decide (0 < (nm:Int)))) = T at *
   cases T with
   | true=>
    clear hT
    go_wp2
    go_ret
    exact ⟨ret_bool (by rw [HRR2.out];rfl),hb⟩
   | false=>
   clear hT HF8 e0 eh e3 e5 e6 e8 heq
   have HRR3:=Lib.hid (show R = (m.ids.all idB && m.members.all memB0) by rw [HRR2.out];simp)
   clear HRR2
   go_wp2
   go_loop [10,11] (fun iv _=>∃ k:Nat,k ≤ ni∧iv = .int .i64 k∧m.ids.all idB = (m.ids.drop k).all idB) (fun iv _=>ni - (intOf iv).toNat)
   case atStart=>exact ⟨0,by omega,rfl,rfl⟩
   case round=>
    obtain ⟨j,hj,rfl,hmm⟩:=hrel
    by_cases hlt:j < ni
    ·have hlt2:j < m.ids.length:=by have:=HNI.out;omega
     obtain ⟨b,off,c',hv,hbl,hc⟩:=HI.out.cell (by omega)
     obtain ⟨rfl,rfl⟩:ai = some ⟨b,off,none⟩∧ci = c':=by cases hv;exact ⟨rfl,rfl⟩
     replace hc:=hc j hlt2
     rw [drop_int hlt2,List.all_cons] at hmm
     generalize m.ids.getD j 0 = y at *
     have hO:=fun w'=>IsId_any y w'
     generalize idB y = B at *
     have HM2:=Lib.hid hmm
     clear hv hmm hlt2
     cases B with
     | false=>
      go_wp2_with (first | (go_at_call 87;refine (hO _).mono ?_;rintro e w2 ⟨rfl,rfl⟩))
      go_ret
      exact ⟨ret_bool (by rw [HRR3.out,HM2.out];rfl),hb⟩
     | true=>
      go_wp2_with (first | (go_at_call 87;refine (hO _).mono ?_;rintro e w2 ⟨rfl,rfl⟩))
      go_round
      case rel=>exact ⟨j + 1,by omega,by go_num,by rw [HM2.out];rfl⟩
      case measure=>simp [intOf];omega
    ·rw [List.drop_of_length_le (by have:=HNI.out;omega)] at hmm
     have HRR4:=Lib.hid (show R = m.members.all memB0 by rw [HRR3.out,hmm];rfl)
     clear hmm HRR3
     go_wp2
     go_loopw [12,13] (fun iv _ W'=>∃ k:Nat,k ≤ nm∧iv = .int .i64 k∧m.members.all memB0 = (m.members.drop k).all memB0∧Below w.heap.size w W'∧Below wc.heap.size wc W') (fun iv _ _=>nm - (intOf iv).toNat)
     case atStart=>exact ⟨0,by omega,rfl,rfl,hb,Below.refl _ _⟩
     case round=>
      obtain ⟨i,hi,rfl,hmm,hbw,hbc⟩:=hrel
      have e7':=(hbc.cell (p:=⟨w.heap.size,37,none⟩) hls).trans e7
      by_cases hlt:i < nm
      ·have hlt2:i < m.members.length:=by have:=HNM.out;omega
       obtain ⟨b,off,c',hv,hbl,hc⟩:=HM.out.cell (by omega)
       obtain ⟨rfl,rfl⟩:am = some ⟨b,off,none⟩∧cm = c':=by cases hv;exact ⟨rfl,rfl⟩
       replace hc:=(hc i hlt2).of_new hbc
       rw [drop_mem hlt2,List.all_cons] at hmm
       generalize m.members.getD i mem0 = y at *
       have hO:=fun w'=>RMember_any y w'
       have hmb:memB0 y = (memB y && decide (y.since = 0)):=rfl
       rw [hmb] at hmm
       generalize memB y = B at *
       obtain ⟨d0,d1,d2,d3⟩:=hc
       obtain ⟨y0,y1,y2,y3⟩:=y
       dsimp only at *
       have HM2:=Lib.hid hmm
       clear hv hmm hlt2 hmb
       cases B with
       | false=>
        go_wp2_with (first | (go_at_call 88;refine (hO _).mono ?_;rintro e w2 ⟨rfl,hb2⟩))
        go_ret
        exact ⟨ret_bool (by rw [HRR4.out,HM2.out];rfl),below_next hbw hb2⟩
       | true=>
        have d3':=fun w' (h:Below wr.heap.size wr w')=>(Grew.cell h d3)
        have e7'':=fun w' (h:Below wr.heap.size wr w')=>(Grew.cell h e7')
        by_cases hy3:y3 = 0
        ·have t:(y3 != 0) = false:=by simp [hy3]
         have HY:=Lib.hid hy3
         clear hy3
         go_wp2_with (first | (go_at_call 88;refine (hO _).mono ?_;rintro e w2 ⟨rfl,hb2⟩;have f3:=d3' _ hb2;have f7:=e7'' _ hb2))
         go_roundw
         case rel=>exact ⟨i + 1,by omega,by go_num,by rw [HM2.out,HY.out];rfl,below_next hbw hb2,below_next hbc hb2⟩
         case measure=>simp [intOf];omega
        ·have t:(y3 != 0) = true:=by simp [hy3]
         have HY:=Lib.hid hy3
         clear hy3
         go_wp2_with (first | (go_at_call 88;refine (hO _).mono ?_;rintro e w2 ⟨rfl,hb2⟩;have f3:=d3' _ hb2;have f7:=e7'' _ hb2))
         go_ret
         exact ⟨ret_bool (by rw [HRR4.out,HM2.out,decide_eq_false HY.out];rfl),below_next hbw hb2⟩
      ·rw [List.drop_of_length_le (by have:=HNM.out;omega)] at hmm
       have HN:=Lib.hid hmm
       clear hmm
       go_wp2
       go_ret
       exact ⟨ret_bool (by rw [HRR4.out,HN.out];rfl),hbw⟩
end Go.Proofs.YtnohglkilpnjhaaGreatDoor
namespace Go.Proofs.YtnohglkilpnjhaaGreatDoor
open Go.RowKit
section
variable {ro:Option Nat} {m:Nat} {P:Program} {ops:Array Oper} {md:Region.Mode} {C:World→Prop} {D:Nat→Bool} {Q:Exit→Act→World→Prop}
def wpAnyR (ro:Option Nat) (m:Nat) (P:Program) (md:Region.Mode) (ops:Array Oper) (C:World→Prop) (D:Nat→Bool) (Q:Exit→Act→World→Prop):Nat→Array Bool→Act→World→Prop
 | 0,listed,a,w=>Region.ready md ops listed = []∧Q .normal a w
 | fuel + 1,listed,a,w=>
  (Region.ready md ops listed = []→Q .normal a w) ∧
  ∀ i ∈ Region.ready md ops listed,wpOpIn (WF ro) m P ops Q i (fun a' w'=>(D i = false→C w→C w')∧wpAnyR ro m P md ops C D Q fuel (listed.setIfInBounds i true) a' w') a w
theorem wpAnyR_any:∀ (fuel:Nat) (listed:Array Bool) (a:Act) (w:World),wpAnyR ro m P md ops C D Q fuel listed a w→wpAnyIn (WF ro) m P md ops Q fuel listed a w:=by
 intro fuel
 induction fuel with
 | zero=>intro listed a w h;exact h
 | succ fuel ih=>intro listed a w h;exact ⟨h.1,fun i hi=>wpOpIn_mono (fun a' w' h'=>ih _ a' w' h'.2) (h.2 i hi)⟩
theorem wpAnyR_take {i:Nat} {oi:Oper} {v:Value} (hnd:noDefer ops = true) (hi:ops[i]? = some oi) (hsel:∀ (j:Nat) (o:Oper) cs b,ops[j]? = some o→o.op ≠ .select cs b)
  (hQ:∀ c (a:Act) (d:Option Tmp) (v:Value) w,Q (.panic c) (a.put d v) w→Q (.panic c) a w) (hDi:∀ j,D j = true→WaitsT md ops i j) :
  ∀ (fuel:Nat) (listed:Array Bool) (a:Act) (w:World),listed.size = ops.size→ClosedL md ops listed →
   (∀ j oj,ops[j]? = some oj→j ≠ i→listed.getD j true = false→(∀ e ∈ oj.after,Region.binds md e = true→e.on ≠ i)→oi.apart ops oj = true) →
   i ∈ Region.ready md ops listed→StillIn P ops C oi v a→C w →
   wpAnyR ro m P md ops C D Q fuel (listed.setIfInBounds i true) (a.put oi.dst v) w→wpAnyR ro m P md ops C D Q (fuel + 1) listed a w:=by
 intro fuel
 induction fuel with
 | zero=>
  intro listed a w _ _ _ hr hy hC H
  refine ⟨fun h=>(by rw [h] at hr;cases hr),fun j hj=>?_⟩
  by_cases hji:j = i
  ·subst hji;exact hy.wpOpIn hnd hi hC ⟨fun _ h=>h,H⟩
  ·have:=ready_mono hj hji
   rw [H.1] at this
   cases this
 | succ fuel ih=>
  intro listed a w hsz hcl hfree hr hy hC H
  refine ⟨fun h=>(by rw [h] at hr;cases hr),fun j hj=>?_⟩
  by_cases hji:j = i
  ·subst hji;exact hy.wpOpIn hnd hi hC ⟨fun _ h=>h,H⟩
  ·have h1:=H.2 j (ready_mono hj hji)
   obtain ⟨hjun,oj,hoj,hall⟩:=mem_ready.1 hj
   have h0:=(mem_ready.1 hr).1
   have h0f:listed.getD i false = false:=getD_both h0
   have hnot:∀ e ∈ oj.after,Region.binds md e = true→e.on ≠ i:=fun e he hb heq=>by
    have h1:=hall e he hb
    rw [heq,h0f] at h1
    cases h1
   have hDj:D j = false:=by
    cases hd:D j with
    | false=>rfl
    | true=>exact absurd hj (not_ready hcl h0f (hDi j hd)).1
   have h2:=wpOpIn_putS (C:=C) hnd hoj (hfree j oj hoj hji hjun hnot) (fun cs b=>hsel i oi cs b hi) (fun cs b=>hsel j oj cs b hoj) (fun c a w h=>hQ c _ _ _ w h) hy h1
   have hfree':∀ k ok,ops[k]? = some ok→k ≠ i→(listed.setIfInBounds j true).getD k true = false →
     (∀ e ∈ ok.after,Region.binds md e = true→e.on ≠ i)→oi.apart ops ok = true:=fun k ok hk hki hun hno=>by
    refine hfree k ok hk hki ?_ hno
    by_cases hjk:j = k
    ·subst hjk;exact hjun
    ·rw [getD_set_ne true hjk] at hun;exact hun
   refine wpOpIn_mono (fun a' w' h3=>⟨h3.2.1,ih (listed.setIfInBounds j true) a' w' (by simpa using hsz) (hcl.set hj hsz) hfree' (ready_mono hr (Ne.symm hji)) h3.1 (h3.2.1 hDj hC) ?_⟩) h2
   rw [Array.setIfInBounds_comm _ _ hji]
   exact h3.2.2
theorem wpAnyR_takeP {i:Nat} {oi:Oper} {v:Value} (hnd:noDefer ops = true) (hi:ops[i]? = some oi) (hsel:∀ (j:Nat) (o:Oper) cs b,ops[j]? = some o→o.op ≠ .select cs b)
  (hQ:∀ c (a:Act) (d:Option Tmp) (v:Value) w,Q (.panic c) (a.put d v) w→Q (.panic c) a w) :
  ∀ (fuel:Nat) (listed:Array Bool) (a:Act) (w:World),
   (∀ j oj,ops[j]? = some oj→j ≠ i→listed.getD j true = false→(∀ e ∈ oj.after,Region.binds md e = true→e.on ≠ i)→oi.apart ops oj = true) →
   i ∈ Region.ready md ops listed→StillIn P ops (fun _=>True) oi v a →
   wpAnyR ro m P md ops C D Q fuel (listed.setIfInBounds i true) (a.put oi.dst v) w→wpAnyR ro m P md ops C D Q (fuel + 1) listed a w:=by
 intro fuel
 induction fuel with
 | zero=>
  intro listed a w _ hr hy H
  refine ⟨fun h=>(by rw [h] at hr;cases hr),fun j hj=>?_⟩
  by_cases hji:j = i
  ·subst hji;exact hy.wpOpIn hnd hi trivial ⟨fun _ h=>h,H⟩
  ·have:=ready_mono hj hji
   rw [H.1] at this
   cases this
 | succ fuel ih=>
  intro listed a w hfree hr hy H
  refine ⟨fun h=>(by rw [h] at hr;cases hr),fun j hj=>?_⟩
  by_cases hji:j = i
  ·subst hji;exact hy.wpOpIn hnd hi trivial ⟨fun _ h=>h,H⟩
  ·have h1:=H.2 j (ready_mono hj hji)
   obtain ⟨hjun,oj,hoj,hall⟩:=mem_ready.1 hj
   have h0:=(mem_ready.1 hr).1
   have h0f:listed.getD i false = false:=getD_both h0
   have hnot:∀ e ∈ oj.after,Region.binds md e = true→e.on ≠ i:=fun e he hb heq=>by
    have h1:=hall e he hb
    rw [heq,h0f] at h1
    cases h1
   have h2:=wpOpIn_putS (C:=fun _=>True) hnd hoj (hfree j oj hoj hji hjun hnot) (fun cs b=>hsel i oi cs b hi) (fun cs b=>hsel j oj cs b hoj) (fun c a w h=>hQ c _ _ _ w h) hy h1
   have hfree':∀ k ok,ops[k]? = some ok→k ≠ i→(listed.setIfInBounds j true).getD k true = false →
     (∀ e ∈ ok.after,Region.binds md e = true→e.on ≠ i)→oi.apart ops ok = true:=fun k ok hk hki hun hno=>by
    refine hfree k ok hk hki ?_ hno
    by_cases hjk:j = k
    ·subst hjk;exact hjun
    ·rw [getD_set_ne true hjk] at hun;exact hun
   refine wpOpIn_mono (fun a' w' h3=>⟨h3.2.1,ih (listed.setIfInBounds j true) a' w' hfree' (ready_mono hr (Ne.symm hji)) h3.1 ?_⟩) h2
   rw [Array.setIfInBounds_comm _ _ hji]
   exact h3.2.2
theorem wpAnyR_earlyI (hnd:noDefer ops = true) (hsel:Region.noSelect ops = true) (hQ:∀ c (a:Act) (d:Option Tmp) (v:Value) w,Q (.panic c) (a.put d v) w→Q (.panic c) a w) (hD:∀ j,ops.size ≤ j→D j = false) {R:Act→Prop} {g:Nat} (ps:List Nat) :
  ∀ (listed:Array Bool) (a:Act) (w:World),listed.size = ops.size→ClosedL md ops listed→C w→earlyI md ops D ps listed = true →
   wpQuiet P ops C R (opsAt ops.toList ps) a→(∀ a' w,C w→R a'→wpAnyR ro m P md ops C D Q g (listedI ps listed) a' w)→wpAnyR ro m P md ops C D Q (ps.length + g) listed a w:=by
 induction ps with
 | nil=>
  intro listed a w _ _ hC _ h hL
  rw [List.length_nil,Nat.zero_add]
  exact hL a w hC h
 | cons p ps ih=>
  intro listed a w hsz hcl hC hB h hL
  simp only [earlyI,Bool.and_eq_true] at hB
  obtain ⟨⟨⟨⟨hr,hf⟩,he⟩,hw⟩,hB⟩:=hB
  have hr':p ∈ Region.ready md ops listed:=by simpa using hr
  obtain ⟨o,h0⟩:∃ o,ops[p]? = some o:=by
   cases q:ops[p]? with
   | some o=>exact ⟨o,rfl⟩
   | none=>rw [q] at he;cases he
  rw [h0] at he
  rw [opsAt_cons (o:=o) (by simpa using h0)] at h
  have hg:o.guard = none:=by
   have:=he
   unfold earlyOp2 at this
   simp only [Bool.and_eq_true,Option.isNone_iff_eq_none] at this
   exact this.1
  have hq:o.quiet P a C (wpQuiet P ops C R (opsAt ops.toList ps)):=by
   have h':if Region.wanted o (yielded ops a.tmps) then o.quiet P a C (wpQuiet P ops C R (opsAt ops.toList ps)) else wpQuiet P ops C R (opsAt ops.toList ps) (a.put o.dst undef):=h
   rwa [if_pos (by simp [Region.wanted,hg])] at h'
  obtain ⟨v,hv,hK⟩:=hq
  have hDi:∀ j,D j = true→WaitsT md ops p j:=fun j hj=>by
   have hjs:j < ops.size:=by
    rcases Nat.lt_or_ge j ops.size with h | h
    ·exact h
    ·rw [hD j h] at hj;cases hj
   have:=List.all_eq_true.1 hw j (List.mem_range.2 hjs)
   simp only [hj,Bool.not_true,Bool.false_or] at this
   exact waitsB_spec _ _ this
  rw [List.length_cons,show ps.length + 1 + g = (ps.length + g) + 1 by omega]
  refine wpAnyR_take hnd h0 (Region.noSelect_spec hsel) hQ hDi (ps.length + g) listed a w hsz hcl (Region.free_spec h0 hf) hr' (still_of_quiet2 he hv) hC ?_
  exact ih _ _ w (by simpa using hsz) (hcl.set hr' hsz) hC hB hK hL
def freeI (md:Region.Mode) (ops:Array Oper):List Nat→Array Bool→Bool
 | [],_=>true
 | p :: ps,listed=>(Region.ready md ops listed).contains p && Region.free md ops listed p && (match ops[p]? with | some o=>earlyOp2 o | none=>false) && freeI md ops ps (listed.setIfInBounds p true)
theorem wpAnyR_pureI (hnd:noDefer ops = true) (hsel:Region.noSelect ops = true) (hQ:∀ c (a:Act) (d:Option Tmp) (v:Value) w,Q (.panic c) (a.put d v) w→Q (.panic c) a w) {R:Act→Prop} {g:Nat} (ps:List Nat) :
  ∀ (listed:Array Bool) (a:Act) (w:World),C w→freeI md ops ps listed = true →
   wpQuiet P ops (fun _=>True) R (opsAt ops.toList ps) a→(∀ a' w,C w→R a'→wpAnyR ro m P md ops C D Q g (listedI ps listed) a' w)→wpAnyR ro m P md ops C D Q (ps.length + g) listed a w:=by
 induction ps with
 | nil=>
  intro listed a w hC _ h hL
  rw [List.length_nil,Nat.zero_add]
  exact hL a w hC h
 | cons p ps ih=>
  intro listed a w hC hB h hL
  simp only [freeI,Bool.and_eq_true] at hB
  obtain ⟨⟨⟨hr,hf⟩,he⟩,hB⟩:=hB
  have hr':p ∈ Region.ready md ops listed:=by simpa using hr
  obtain ⟨o,h0⟩:∃ o,ops[p]? = some o:=by
   cases q:ops[p]? with
   | some o=>exact ⟨o,rfl⟩
   | none=>rw [q] at he;cases he
  rw [h0] at he
  rw [opsAt_cons (o:=o) (by simpa using h0)] at h
  have hg:o.guard = none:=by
   have:=he
   unfold earlyOp2 at this
   simp only [Bool.and_eq_true,Option.isNone_iff_eq_none] at this
   exact this.1
  have hq:o.quiet P a (fun _=>True) (wpQuiet P ops (fun _=>True) R (opsAt ops.toList ps)):=by
   have h':if Region.wanted o (yielded ops a.tmps) then o.quiet P a (fun _=>True) (wpQuiet P ops (fun _=>True) R (opsAt ops.toList ps)) else wpQuiet P ops (fun _=>True) R (opsAt ops.toList ps) (a.put o.dst undef):=h
   rwa [if_pos (by simp [Region.wanted,hg])] at h'
  obtain ⟨v,hv,hK⟩:=hq
  rw [List.length_cons,show ps.length + 1 + g = (ps.length + g) + 1 by omega]
  refine wpAnyR_takeP hnd h0 (Region.noSelect_spec hsel) hQ (ps.length + g) listed a w (Region.free_spec h0 hf) hr' (still_of_quiet2 he hv) ?_
  exact ih _ _ w hC hB hK hL
theorem wpAnyR_restI:∀ (rests:List Nat) (listed:Array Bool) (a:Act) (w:World),(∀ j ∈ rests,D j = true)→seqI md ops rests listed = true →
  wpListIn (WF ro) m P ops Q (opsAt ops.toList rests) a w→wpAnyR ro m P md ops C D Q rests.length listed a w
 | [],listed,a,w,_,hB,h=>⟨by simpa [seqI] using hB,h⟩
 | p :: ps,listed,a,w,hd,hB,h=>by
  simp only [seqI,Bool.and_eq_true,decide_eq_true_eq] at hB
  obtain ⟨o,h0⟩:=ready_get hB.1
  rw [opsAt_cons (o:=o) (by simpa using h0)] at h
  refine ⟨fun h1=>(by rw [hB.1] at h1;cases h1),fun i hi=>?_⟩
  rw [hB.1] at hi
  obtain rfl:i = p:=by simpa using hi
  have hdi:D i = true:=hd i (by simp)
  have hrec:=fun a' w' h'=>wpAnyR_restI ps (listed.setIfInBounds i true) a' w' (fun j hj=>hd j (by simp [hj])) hB.2 h'
  unfold wpOpIn
  simp only [h0]
  unfold wpListIn at h
  split
  ·rename_i hq
   rw [if_pos hq] at h
   exact Oper.wpIn_mono (fun a' w' h'=>⟨fun e=>(by rw [hdi] at e;cases e),hrec a' w' h'⟩) h
  ·rename_i hq
   rw [if_neg hq] at h
   exact ⟨fun _ _=>trivial,fun e=>(by rw [hdi] at e;cases e),hrec _ w h.2⟩
theorem wpAnyR_lateI (hnd:noDefer ops = true):∀ (mids rests:List Nat) (listed:Array Bool) (a:Act) (w:World),(∀ j ∈ rests,D j = true)→seqI md ops (mids ++ rests) listed = true→C w →
  LateL ro m P ops C Q (opsAt ops.toList mids) (opsAt ops.toList rests) a w→wpAnyR ro m P md ops C D Q (mids.length + rests.length) listed a w
 | [],rests,listed,a,w,hd,hB,hC,h=>by
  rw [List.length_nil,Nat.zero_add]
  exact wpAnyR_restI rests listed a w hd hB h
 | p :: ps,rests,listed,a,w,hd,hB,hC,h=>by
  simp only [List.cons_append,seqI,Bool.and_eq_true,decide_eq_true_eq] at hB
  obtain ⟨o,h0⟩:=ready_get hB.1
  rw [opsAt_cons (o:=o) (by simpa using h0)] at h
  rw [List.length_cons,show ps.length + 1 + rests.length = (ps.length + rests.length) + 1 by omega]
  refine ⟨fun h1=>(by rw [hB.1] at h1;cases h1),fun i hi=>?_⟩
  rw [hB.1] at hi
  obtain rfl:i = p:=by simpa using hi
  have hrec:=fun a' w' hC' h'=>wpAnyR_lateI hnd ps rests (listed.setIfInBounds i true) a' w' hd hB.2 hC' h'
  unfold wpOpIn
  simp only [h0]
  unfold LateL at h
  split
  ·rename_i hq
   rw [if_pos hq] at h
   exact wpIn_of_wp (noDefer_spec hnd h0) (Oper.wp_mono (fun a' w' h'=>⟨fun _ _=>h'.1,hrec a' w' h'.1 h'.2⟩) h)
  ·rename_i hq
   rw [if_neg hq] at h
   exact ⟨fun _ _=>trivial,fun _ h=>h,hrec _ w hC h⟩
def mixRB (l:List Oper) (hs hp ts1 ts2:List Nat):Bool:=
 Region.noSelect l.toArray && noDefer l.toArray && decide (hs.length + (hp.length + (ts1.length + ts2.length)) = l.length) && (ts2.all fun j=>decide (j < l.length)) &&
  earlyI .any l.toArray (fun j=>ts2.contains j) hs (Array.replicate l.length false) && freeI .any l.toArray hp (listedI hs (Array.replicate l.length false)) &&
  seqI .any l.toArray (ts1 ++ ts2) (listedI hp (listedI hs (Array.replicate l.length false)))
theorem wpIn_region_mixR {id:Nat} {a:Act} {w:World} {l:List Oper} (hs hp ts1 ts2:List Nat) (hm:P.follows .mixedOrders = true) (hB:mixRB l hs hp ts1 ts2 = true)
  (hC:C { w with drawn:=w.drawn + 1 }) (hQ:∀ c (a:Act) (d:Option Tmp) (v:Value) w,Q (.panic c) (a.put d v) w→Q (.panic c) a w)
  (h:wpQuiet P l.toArray C (fun a'=>wpQuiet P l.toArray (fun _=>True) (fun a''=>∀ w',C w'→LateL ro m P l.toArray C Q (opsAt l ts1) (opsAt l ts2) a'' w') (opsAt l hp) a') (opsAt l hs) a) :
  (Code.region id l.toArray true).wpIn (WF ro) m P Q a w:=by
 simp only [mixRB,Bool.and_eq_true,decide_eq_true_eq] at hB
 obtain ⟨⟨⟨⟨⟨⟨hsel,hnd⟩,hlen⟩,hlt⟩,hearly⟩,hpure⟩,hseq⟩:=hB
 have hsz:l.toArray.size = l.length:=by simp
 refine wpIn_region_any hm ?_
 rw [hsz,← hlen]
 refine wpAnyR_any (C:=C) (D:=fun j=>ts2.contains j) _ _ _ _ ?_
 refine wpAnyR_earlyI (R:=fun a'=>wpQuiet P l.toArray (fun _=>True) (fun a''=>∀ w',C w'→LateL ro m P l.toArray C Q (opsAt l ts1) (opsAt l ts2) a'' w') (opsAt l hp) a') hnd hsel hQ (fun j hj=>?_) hs (Array.replicate (hs.length + (hp.length + (ts1.length + ts2.length))) false) a _ (by simp [hlen]) (fun j oj _ hl=>(by rw [getD_replicate_false] at hl;cases hl)) hC (by rw [hlen];exact hearly) h (fun a' w' hw' hR=>?_)
 ·cases hc:ts2.contains j with
  | false=>rfl
  | true=>
   have:=List.all_eq_true.1 hlt j (by simpa using hc)
   simp only [decide_eq_true_eq] at this
   omega
 ·refine wpAnyR_pureI (R:=fun a''=>∀ w',C w'→LateL ro m P l.toArray C Q (opsAt l ts1) (opsAt l ts2) a'' w') hnd hsel hQ hp _ a' w' hw' (by rw [hlen];exact hpure) hR (fun a2 w2 hw2 hR2=>?_)
  exact wpAnyR_lateI hnd ts1 ts2 _ a2 w2 (fun j hj=>by simpa using hj) (by rw [hlen];exact hseq) hw2 (hR2 w2 hw2)
end
theorem str_eq (x y:List UInt8):((ByteArray.mk x.toArray) == (ByteArray.mk y.toArray)) = decide (x = y):=by
 have h:((ByteArray.mk x.toArray) == (ByteArray.mk y.toArray)) = (x.toArray == y.toArray):=rfl
 rw [h,Bool.eq_iff_iff]
 simp
end Go.Proofs.YtnohglkilpnjhaaGreatDoor

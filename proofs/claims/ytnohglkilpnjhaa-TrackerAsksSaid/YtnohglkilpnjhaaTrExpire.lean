/- The walk of tracker.Expire. Condition: the table as it lies. -/
import Derived.Test.YtnohglkilpnjhaaTrLeave
import Derived.Test.YtnohglkilpnjhaaGc
import Derived.Test.YtnohglkilpnjhaaTrExpPlain
namespace Go.Proofs.Ytnohglkilpnjhaa
open Go.RowKit
set_option linter.unusedVariables false
set_option linter.unusedSimpArgs false
set_option maxRecDepth 100000

def ExpPost (w : World) (t mb : Nat) (most each : Int) (E : EntL) (now : Int) (e : Ending) (w' : World) : Prop :=
  ∃ E', tabOf E' = (expT (tabOf E) now).1 ∧ e = .returned (.tuple #[.int .i64 (expT (tabOf E) now).2.1, .int .i64 (expT (tabOf E) now).2.2]) ∧ TabP w' t most each mb E' ∧ TabStep mb E E' w w' ∧ ∀ k, ownE mb E' k → ownE mb E k

/-- How memory stands in the midst of Expire: the table, and what is below n0 but its maps is as it was at w. -/
structure ExpSt (w : World) (t mb : Nat) (most each : Int) (E : EntL) (T' : TabL) (W : World) (E' : EntL) : Prop where
  tab : TabP W t most each mb E'
  is : tabOf E' = T'
  ok : EntOk most each E'
  kept : Kept (fun k => ¬ ownE mb E k) w W
  sub : ∀ k, ownE mb E' k → ownE mb E k
theorem ExpSt.new {w : World} {t mb : Nat} {most each : Int} {E : EntL} {T' : TabL} {W W' : World} {E' : EntL} (h : ExpSt w t mb most each E T' W E') (hb : Below W.heap.size W W') : ExpSt w t mb most each E T' W' E' :=
  ⟨h.tab.of_new hb, h.is, h.ok, h.kept.below hb, h.sub⟩
theorem ExpSt.leave {w : World} {t mb : Nat} {most each : Int} {E : EntL} {T' : TabL} {W W' : World} {E1 E2 : EntL} {d : List UInt8} {id : Int} (h : ExpSt w t mb most each E T' W E1) (h2 : tabOf E2 = (leaveT (tabOf E1) d id).1) (hT : TabP W' t most each mb E2) (hs : TabStep mb E1 E2 W W') (ho : ∀ k, ownE mb E2 k → ownE mb E1 k) (hd : d.length = 32) (he : 1 ≤ each) :
    ExpSt w t mb most each E (leaveT T' d id).1 W' E2 :=
  ⟨hT, by rw [h2, h.is], by unfold EntOk; rw [h2]; exact TabOk.leave h.ok he hd id, h.kept.trans (hs.kept.mono fun k _ hk hx => hk (h.sub k hx)), fun k hk => h.sub k (ho k hk)⟩
/-- What lies elsewhere stays. -/
theorem RecT.At.keptE {e : TypeId} {α : Type} {R : RecT e α} {w W : World} {g off : Nat} {x : α} {U : Nat → Prop} (h : R.At w g off x) (hk : Kept U w W) (hu : U g) : R.At W g off x := h.of_block (hk.block _ h.2.1 hu)

set_option maxHeartbeats 6400000 in
theorem Expire_any (t mb : Nat) (most each : Int) (E : EntL) (now : Int) (w : World) (hT : TabP w t most each mb E) (hE : EntOk most each E) (hm : 1 ≤ most ∧ most ≤ 1000) (he : 1 ≤ each ∧ each ≤ 64) :
    Calls Try.prog 14 #[.pointer (some ⟨t, 0, none⟩), .int .i64 now] w (ExpPost w t mb most each E now) := by
  unfold ExpPost
  rcases hw : within now 0 1099511627776 with _ | _
  · have hx : expT (tabOf E) now = (tabOf E, 0, 1) := by
      unfold expT
      rw [if_neg (of_decide_eq_false hw)]
    rw [hx]
    have HT := Lib.hid hT
    clear hT hE hx
    go_enter Try.func14, Try.ntmps14
    go_wp2_with (go_at_call 23; refine (within_any _ _ _ _).mono ?_; rintro e w1 ⟨rfl, rfl⟩)
    go_ret2
    exact ⟨E, rfl, rfl, HT.out, TabStep.refl mb E _, fun k hk => hk⟩
  · have hnow : 0 ≤ now ∧ now ≤ 1099511627776 := of_decide_eq_true hw
    have hx : expT (tabOf E) now = (liveT now (tabOf E), (goneN now (tabOf E) : Int), 0) := by
      unfold expT
      rw [if_pos hnow]
    rw [hx]
    obtain ⟨T, hTT⟩ : ∃ T, tabOf E = T := ⟨_, rfl⟩
    rw [hTT]
    have hTok : TabOk most each T := by rw [← hTT]; exact hE
    have HT := Lib.hid hT
    have HE := Lib.hid hE
    have HTT := Lib.hid hTT
    have HTK := Lib.hid hTok
    have hown : ∀ k, ownE mb E k → k < w.heap.size := fun k hk => hT.own_lt hk
    have HOW := Lib.hid hown
    clear hT hE hx hTT hTok hown
    go_enter Try.func14, Try.ntmps14
    go_upto_region 5 with (first
      | (go_at_call 23; refine (within_any _ _ _ _).mono ?_; rintro e w ⟨rfl, rfl⟩)
      | (go_at_call 20; refine (Blobs_any t mb most each E _ HT.out HE.out hm).mono ?_; rw [HTT.out]; rintro e w2 ⟨v2, rfl, ho2, hb2⟩; obtain ⟨a2, c2, hv⟩ := ho2.row.len; rw [List.length_map] at hv; subst hv; have HO2 := Lib.hid ho2; have HB2 := Lib.hid hb2; clear ho2 hb2))
    have hst2 : ExpSt w t mb most each E T w2 E := ⟨HT.out.of_new HB2.out, HTT.out, HE.out, (Kept.refl _ w).below HB2.out, fun k hk => hk⟩
    have htl := HTK.out
    obtain ⟨N, hN⟩ : ∃ N, T.length = N := ⟨_, rfl⟩
    have hN1 : N ≤ 1000 := by have := htl.few; omega
    have hgn2 : goneN now T ≤ 64000 := by
      refine Nat.le_trans (gone_le2 now T 64 fun x hx => by have := (htl.ps x hx).2.2; omega) ?_
      rw [hN]; omega
    have hlen2 : (T.map (·.1)).length = N := by rw [List.length_map, hN]
    have HST2 := Lib.hid hst2
    have HNN := Lib.hid hN
    have HL2 := Lib.hid hlen2
    have HBG := Lib.hid (fun k (hk : ownE mb E k) => Nat.lt_of_lt_of_le (HOW.out k hk) (Nat.le_refl _))
    rw [hN]
    clear hst2 hN hlen2
    go_loopw [6, 8, 10, 17] (fun nv _ _ iv W => ∃ (i : Nat) (E1 : EntL), i ≤ N ∧ iv = .int .i64 (i : Int) ∧ nv = .int .i64 (goneN now (T.take i) : Int) ∧ ExpSt w t mb most each E (liveT now (T.take i) ++ T.drop i) W E1 ∧ Kept (fun k => ¬ ownE mb E k) w2 W) (fun _ _ _ iv _ => N - (intOf iv).toNat)
    case atStart => exact ⟨0, E, Nat.zero_le _, rfl, by rw [List.take_zero]; rfl, by rw [List.take_zero, List.drop_zero]; exact HST2.out, Kept.refl _ _⟩
    case round =>
      obtain ⟨i, E1, hi, rfl, rfl, hst, hk2⟩ := hrel
      by_cases hlt : i < N
      · obtain ⟨⟨d, P⟩, hx⟩ : ∃ x, T[i]? = some x := ⟨_, List.getElem?_eq_getElem (by rw [HNN.out]; exact hlt)⟩
        have hxm : (d, P) ∈ T := List.mem_of_getElem? hx
        have hd32 : d.length = 32 := htl.dig _ hxm
        obtain ⟨hP1, hP2, hP3⟩ := htl.ps _ hxm
        dsimp only at hP1 hP2 hP3
        have hTs : T = T.take i ++ (d, P) :: T.drop (i + 1) := by
          have h1 : T[i]'(by rw [HNN.out]; exact hlt) = (d, P) := by rw [List.getElem?_eq_getElem (by rw [HNN.out]; exact hlt)] at hx; exact Option.some.inj hx
          rw [← h1, ← List.drop_eq_getElem_cons, List.take_append_drop]
        have htk : T.take (i + 1) = T.take i ++ [(d, P)] := by rw [List.take_add_one, hx]; rfl
        have hdr : T.drop i = (d, P) :: T.drop (i + 1) := by
          have h1 : T[i]'(by rw [HNN.out]; exact hlt) = (d, P) := by rw [List.getElem?_eq_getElem (by rw [HNN.out]; exact hlt)] at hx; exact Option.some.inj hx
          rw [← h1, ← List.drop_eq_getElem_cons]
        obtain ⟨pb, off, pc, hv, hpl, hat⟩ := HO2.out.row.at_ (by rw [HL2.out]; omega)
        have hgo : ¬ ownE mb E pb := fun h => by
          have h1 := HOW.out _ h
          have h2 := (HO2.out.lt pb (by rw [hv]; rfl)).1
          omega
        obtain ⟨rfl, rfl⟩ : a2 = some ⟨pb, off, none⟩ ∧ c2 = pc := by have := Value.slice.inj hv; exact ⟨this.1, this.2.2⟩
        have hA := (hat i d (by rw [List.getElem?_map, hx]; rfl)).keptE hk2 hgo
        rw [hdr] at hst
        obtain ⟨A, hAe⟩ : ∃ A, T.take i = A := ⟨_, rfl⟩
        obtain ⟨B, hBe⟩ : ∃ B, T.drop (i + 1) = B := ⟨_, rfl⟩
        rw [hAe] at htk hst ⊢
        rw [hBe] at hst hTs
        have hms := midT_start (now := now) (A := A) (B := B) (d := d) hP2
        have hpe : peersT d (tabOf E1) = P := by rw [hst.is]; exact peersT_mid (by have := hst.ok.rise; rwa [hst.is] at this)
        rw [← hms.1] at hst
        rw [← hms.2]
        have hii : (i : Int) < (N : Int) := by omega
        have HA := Lib.hid hA
        have HST := Lib.hid hst
        have HK2 := Lib.hid hk2
        have HTK := Lib.hid htk
        have HBE := Lib.hid hBe
        have HP1 := Lib.hid hP1
        have HP2 := Lib.hid hP2
        have HPE := Lib.hid hpe
        have HD32 := Lib.hid hd32
        have hgP : goneN now (A ++ [(d, P)]) ≤ 64000 := by rw [← htk]; exact Nat.le_trans (goneN_take now T (i + 1)) hgn2
        have HGP := Lib.hid hgP
        clear hx hxm hP1 hP2 hTs htk hdr hv hpl hat hgo hA hst hk2 hAe hBe hms hpe hd32 hgP
        go_upto_region 8 with (first
          | ((with_reducible refine wpList_plain (o := ⟨some 20, Op.load _ _, _, _, _, _⟩) rfl fun K hK => ?_); (refine HA.out.wp rfl rfl (hK _ _ ?_)))
          | ((with_reducible refine wpList_plain (o := ⟨some 8, Op.alloc _, _, _, _, _⟩) rfl fun K hK => ?_); (refine RDig.wp_alloc rfl fun w4 ho4 hb4 hs4 => hK _ _ ?_); have HO4 := Lib.hid ho4; have HB4 := Lib.hid hb4; clear ho4 hb4 hs4)
          | ((with_reducible refine wpList_plain (o := ⟨none, Op.store _ (.tmp 8) (.tmp 20), _, _, _, _⟩) rfl fun K hK => ?_); (refine HO4.out.store (.tmp 8) (.tmp 20) rfl rfl rfl HD32.out fun w5 ho5 hg5 hs5 => hK _ _ ?_); have HO5 := Lib.hid ho5; have HB5 := Lib.hid (HB4.out.grown hg5 (by have := HB4.out.size; omega) (fun k e => by cases e; exact Nat.le_refl _)); have HST5 := Lib.hid (HST.out.new HB5.out); have HK5 := Lib.hid (HK2.out.below HB5.out); clear ho5 hg5 hs5)
          | ((with_reducible refine wpList_plain (o := ⟨some 22, Op.load _ _, _, _, _, _⟩) rfl fun K hK => ?_); (refine HO5.out.at_.wp rfl rfl (hK _ _ ?_)))
          | (go_at_call 12; refine (Peers_any t mb most each E1 d _ HST5.out.tab HST5.out.ok he HD32.out).mono ?_; rw [HPE.out]; rintro e w6 ⟨v6, rfl, ho6, hb6⟩; obtain ⟨a6, c6, hv⟩ := ho6.row.len; subst hv; have HO6 := Lib.hid ho6; have HB6 := Lib.hid hb6; clear ho6 hb6))
        have hbig : ∀ k, w.heap.size ≤ k → ¬ ownE mb E k := fun k hk h => by have := HOW.out k h; omega
        have hws : w.heap.size ≤ wr.heap.size := Nat.le_trans HB2.out.size HK2.out.size
        have hws5 := HB5.out.size
        have HST6 := Lib.hid (HST5.out.new HB6.out)
        have HK6 := Lib.hid (HK5.out.below HB6.out)
        have HD6 := Lib.hid (HO5.out.of_new HB6.out)
        have HBIG := Lib.hid hbig
        have HWS := Lib.hid hws
        have HWS5 := Lib.hid hws5
        clear hbig hws hws5
        go_loopw [6, 10, 25] (fun nv _ kv W => ∃ (k : Nat) (E2 : EntL), k ≤ P.length ∧ kv = .int .i64 (k : Int) ∧ nv = .int .i64 (midN now A (P.take k) : Int) ∧ ExpSt w t mb most each E (midT now A d (P.take k) (P.drop k) B) W E2 ∧ Kept (fun k => ¬ ownE mb E k) w2 W ∧ Kept (fun k => ¬ ownE mb E k) w6 W) (fun _ _ kv _ => P.length - (intOf kv).toNat)
        case atStart => exact ⟨0, E1, Nat.zero_le _, rfl, by rw [List.take_zero], by rw [List.take_zero, List.drop_zero]; exact HST6.out, HK6.out, Kept.refl _ _⟩
        case round =>
          rename World => W7
          obtain ⟨k, E2, hk, rfl, rfl, hst7, hk7, hk67⟩ := hrel
          by_cases hltk : k < P.length
          · obtain ⟨p, hp⟩ : ∃ p, P[k]? = some p := ⟨_, List.getElem?_eq_getElem hltk⟩
            have hpe : P[k]'hltk = p := by rw [List.getElem?_eq_getElem hltk] at hp; exact Option.some.inj hp
            have hdr : P.drop k = p :: P.drop (k + 1) := by rw [← hpe, ← List.drop_eq_getElem_cons]
            have htk : P.take (k + 1) = P.take k ++ [p] := by rw [List.take_add_one, hp]; rfl
            have hpo := HP1.out.ok p (List.mem_of_getElem? hp)
            unfold PeerOk at hpo
            obtain ⟨pb, off, pc, hv, hpl, hat⟩ := HO6.out.row.at_ (by omega)
            obtain ⟨rfl, rfl⟩ : a6 = some ⟨pb, off, none⟩ ∧ c6 = pc := by have := Value.slice.inj hv; exact ⟨this.1, this.2.2⟩
            have hgo : ¬ ownE mb E pb := HBIG.out pb (by have := (HO6.out.lt pb rfl).1; have := HWS.out; have := HWS5.out; omega)
            have hA := (hat k p hp).keptE hk67 hgo
            have hD := HD6.out.of_block (hk67.block _ HD6.out.lt (HBIG.out _ HWS.out))
            rw [hdr] at hst7
            have hPl : (P.length : Int) ≤ 64 := by omega
            have hkk : (k : Int) < (P.length : Int) := by omega
            obtain ⟨mN, hmN⟩ : ∃ mN, midN now A (P.take k) = mN := ⟨_, rfl⟩
            have hmle : mN ≤ 70000 := by
              rw [← hmN]
              unfold midN
              have q1 := goneN_append now A [(d, P)]
              have q2 := HGP.out
              have q3 : (P.take k).length ≤ P.length := by simp; omega
              omega
            rw [hmN]
            have HMN := Lib.hid hmN
            have HAP := Lib.hid hA
            have HDD := Lib.hid hD
            have HS7 := Lib.hid hst7
            have HK7 := Lib.hid hk7
            have HK67 := Lib.hid hk67
            have HTKP := Lib.hid htk
            clear hp hpe hdr htk hv hpl hat hgo hA hD hst7 hk7 hk67 hmN
            by_cases htill : p.till ≤ now
            · go_wp2_with (first
                | ((with_reducible refine wpList_plain (o := ⟨some 28, Op.load _ _, _, _, _, _⟩) rfl fun K hK => ?_); (refine HAP.out.wp rfl rfl (hK _ _ ?_)))
                | ((with_reducible refine wpList_plain (o := ⟨some 10, Op.alloc _, _, _, _, _⟩) rfl fun K hK => ?_); (refine RPeer.wp_alloc rfl fun w8 ho8 hb8 hs8 => hK _ _ ?_); have HO8 := Lib.hid ho8; have HB8 := Lib.hid hb8; clear ho8 hb8 hs8)
                | ((with_reducible refine wpList_plain (o := ⟨none, Op.store _ (.tmp 10) (.tmp 28), _, _, _, _⟩) rfl fun K hK => ?_); (refine HO8.out.store (.tmp 10) (.tmp 28) rfl rfl rfl (RPeer_ok p) fun w9 ho9 hg9 hs9 => hK _ _ ?_); have hc9 := RPeer_till ho9; have hi9 := RPeer_id ho9; have HB9 := Lib.hid (HB8.out.grown hg9 (by have := HB8.out.size; omega) (fun k e => by cases e; exact Nat.le_refl _)); have HS9 := Lib.hid (HS7.out.new HB9.out); have HD9 := Lib.hid (HDD.out.of_new HB9.out); clear ho9 hg9 hs9)
                | ((with_reducible refine wpList_plain (o := ⟨some 34, Op.load _ _, _, _, _, _⟩) rfl fun K hK => ?_); (refine HD9.out.at_.wp rfl rfl (hK _ _ ?_)))
                | (go_at_call 13; refine (Leave_any t mb most each E2 d p.id _ HS9.out.tab HS9.out.ok hm he HD32.out (by omega)).mono ?_; rintro e w10 ⟨E3, h3, rfl, hT3, hs3, hsub3⟩; have HS10 := Lib.hid (HS9.out.leave h3 hT3 hs3 hsub3 HD32.out he.1); have HK10 := Lib.hid (hs3.kept.mono (V := fun k => ¬ ownE mb E k) (fun k _ hk hx => hk (HS9.out.sub k hx))); clear h3 hT3 hs3 hsub3))
              go_roundw
              case rel =>
                have hrise := HS7.out.ok.rise
                rw [HS7.out.is] at hrise
                have hpr : Rising PeerL.id (liveP now (P.take k) ++ p :: P.drop (k + 1)) := by
                  rw [midT_cons] at hrise
                  have hx := HS7.out.ok.ps
                  rw [HS7.out.is, midT_cons] at hx
                  exact (hx (d, _) (by simp)).1.rise
                obtain ⟨g1, g2⟩ := midT_gone hrise hpr htill
                refine ⟨k + 1, E3, by omega, by go_num, ?_, ?_, (HK7.out.below HB9.out).trans HK10.out, (HK67.out.below HB9.out).trans HK10.out⟩
                · rw [HTKP.out, g2, HMN.out]; go_num
                · rw [HTKP.out]
                  have h10 := HS10.out
                  rw [g1] at h10
                  exact h10
              case measure => simp [intOf]; omega
            · go_wp2_with (first
                | ((with_reducible refine wpList_plain (o := ⟨some 28, Op.load _ _, _, _, _, _⟩) rfl fun K hK => ?_); (refine HAP.out.wp rfl rfl (hK _ _ ?_)))
                | ((with_reducible refine wpList_plain (o := ⟨some 10, Op.alloc _, _, _, _, _⟩) rfl fun K hK => ?_); (refine RPeer.wp_alloc rfl fun w8 ho8 hb8 hs8 => hK _ _ ?_); have HO8 := Lib.hid ho8; have HB8 := Lib.hid hb8; clear ho8 hb8 hs8)
                | ((with_reducible refine wpList_plain (o := ⟨none, Op.store _ (.tmp 10) (.tmp 28), _, _, _, _⟩) rfl fun K hK => ?_); (refine HO8.out.store (.tmp 10) (.tmp 28) rfl rfl rfl (RPeer_ok p) fun w9 ho9 hg9 hs9 => hK _ _ ?_); have hc9 := RPeer_till ho9; have HB9 := Lib.hid (HB8.out.grown hg9 (by have := HB8.out.size; omega) (fun k e => by cases e; exact Nat.le_refl _)); clear ho9 hg9 hs9))
              go_roundw
              case rel =>
                obtain ⟨g1, g2⟩ := midT_stay (now := now) (A := A) (B := B) (d := d) (a := P.take k) (b := P.drop (k + 1)) (p := p) (by omega)
                refine ⟨k + 1, E2, by omega, by go_num, ?_, ?_, HK7.out.below HB9.out, HK67.out.below HB9.out⟩
                · rw [HTKP.out, g2, HMN.out]
                · rw [HTKP.out, g1]
                  exact HS7.out.new HB9.out
              case measure => simp [intOf]; omega
          · obtain rfl : k = P.length := by omega
            have hkk : ¬ (P.length : Int) < (P.length : Int) := by omega
            rw [List.take_length, List.drop_length] at hst7
            rw [List.take_length]
            obtain ⟨g1, g2⟩ := midT_end (now := now) (A := A) (B := B) (d := d) (P := P)
            rw [g1] at hst7
            rw [g2]
            have HS7 := Lib.hid hst7
            have HK7 := Lib.hid hk7
            clear hst7 hk7 hk67 g1 g2
            go_wp2
            go_roundw
            case rel => exact ⟨i + 1, E2, by omega, by go_num, by rw [HTK.out], by rw [HTK.out, HBE.out]; exact HS7.out, HK7.out⟩
            case measure => simp [intOf]; omega
      · obtain rfl : i = N := by omega
        have hii : ¬ (i : Int) < (i : Int) := by omega
        rw [← HNN.out, List.take_length, List.drop_length, List.append_nil] at hst
        have HST := Lib.hid hst
        have hgt : goneN now (T.take i) = goneN now T := by rw [← HNN.out, List.take_length]
        rw [hgt]
        clear hst hk2 hgt
        go_wp2
        go_ret2
        exact ⟨E1, HST.out.is, rfl, HST.out.tab, ⟨HST.out.kept, fun k hk => .inl (HST.out.sub k hk)⟩, HST.out.sub⟩

end Go.Proofs.Ytnohglkilpnjhaa

/- The walk of the document's answer's Expire. Condition: the table as it lies. -/
import Derived.Test.YtnohglkilpnjhaaTrRSt
import Derived.Test.YtnohglkilpnjhaaTrExpPlain
namespace Go.Proofs.Ytnohglkilpnjhaa
open Go.RowKit
set_option linter.unusedVariables false
set_option linter.unusedSimpArgs false
set_option maxRecDepth 100000

theorem live_step {now : Int} {A : TabL} {d : List UInt8} {P : List PeerL} : liveT now (A ++ [(d, P)]) = if liveP now P = [] then liveT now A else liveT now A ++ [(d, liveP now P)] := by
  rw [liveT_append]
  show liveT now A ++ (oneT d (liveP now P) ++ []) = _
  unfold oneT
  split <;> simp
theorem liveP_snoc (now : Int) (A : List PeerL) (p : PeerL) : liveP now (A ++ [p]) = if p.till ≤ now then liveP now A else liveP now A ++ [p] := by
  rw [liveP_append]
  by_cases h : p.till ≤ now
  · rw [if_pos h]; simp [liveP]; omega
  · rw [if_neg h]; simp [liveP]; omega
theorem midN_snoc (now : Int) (A : TabL) (a : List PeerL) (p : PeerL) : midN now A (a ++ [p]) = if p.till ≤ now then midN now A a + 1 else midN now A a := by
  have hl := liveP_snoc now a p
  have := liveP_len now a
  unfold midN
  rw [hl]
  split <;> simp <;> omega

set_option maxHeartbeats 6400000 in
theorem RExpire_any (r : Nat) (many most : Int) (B : Nat) (v : Value) (L : RefL) (T : TabL) (now : Int) (w : World) (hR : RTabP w r many most B v L T) (hT : TabOk many most T) (hm : 1 ≤ many ∧ many ≤ 1000) (he : 1 ≤ most ∧ most ≤ 64) :
    Calls Try.prog 32 #[.pointer (some ⟨r, 0, none⟩), .int .i64 now] w
      (RPost w r many most B v (expT T now).1 (.tuple #[.int .i64 (expT T now).2.1, .int .i64 (expT T now).2.2])) := by
  have HR := Lib.hid hR
  have HT := Lib.hid hT
  rcases hw : within now 0 1099511627776 with _ | _
  · have hx : expT T now = (T, 0, 1) := by
      unfold expT
      rw [if_neg (of_decide_eq_false hw)]
    rw [hx]
    clear hR hT hx
    go_enter Try.func32, Try.ntmps32
    go_wp2_with (go_at_call 53; refine (RIsMoment_any _ _).mono ?_; rintro e w1 ⟨rfl, rfl⟩)
    go_ret2
    exact ⟨_, _, rfl, HR.out, Kept.refl _ _⟩
  · have hnow : 0 ≤ now ∧ now ≤ 1099511627776 := of_decide_eq_true hw
    have hx : expT T now = (liveT now T, (goneN now T : Int), 0) := by
      unfold expT
      rw [if_pos hnow]
    rw [hx]
    obtain ⟨va, vc, hv⟩ := hR.own.row.len
    subst hv
    have hLT := hR.len
    obtain ⟨n, hn⟩ : ∃ n, T.length = n := ⟨_, rfl⟩
    rw [hLT, hn] at HR ⊢
    have hn1 : n ≤ 1000 := by have := hT.few; omega
    have hgn : goneN now T ≤ 64000 := by
      refine Nat.le_trans (gone_le2 now T 64 fun x hx => by have := (hT.ps x hx).2.2; omega) ?_
      rw [hn]; omega
    have HN := Lib.hid hn
    have HLT := Lib.hid hLT
    have HGN := Lib.hid hgn
    have HX := Lib.hid hx
    clear hR hT hLT hn hgn hx
    go_enter Try.func32, Try.ntmps32
    go_wp2_with (go_at_call 53; refine (RIsMoment_any _ _).mono ?_; rintro e w1 ⟨rfl, rfl⟩)
    rename World => w0
    go_loopw [7, 8, 9, 10, 11] (fun nv av iv _ _ W => ∃ (i : Nat) (La : RefL), i ≤ n ∧ iv = .int .i64 (i : Int) ∧ nv = .int .i64 (goneN now (T.take i) : Int) ∧ ROf.Own W w0.heap.size av La ∧ La.map (·.1) = (liveT now (T.take i)).map (·.1) ∧ (∀ (j : Nat) (x : List UInt8 × Value) (y : List UInt8 × List PeerL), La[j]? = some x → (liveT now (T.take i))[j]? = some y → RPeer.Own W B x.2 y.2) ∧ Below w0.heap.size w0 W) (fun _ _ iv _ _ _ => n - (intOf iv).toNat)
    case atStart => exact ⟨0, [], Nat.zero_le _, rfl, rfl, RecT.Own.nil _ _, rfl, (fun j x y hx => by simp at hx), Below.refl _ _⟩
    case round =>
      rename World => w1
      obtain ⟨i, La, hi, rfl, rfl, hown, hkeys, hrows, hb⟩ := hrel
      have hRr := HR.out.of_new hb
      have c2 := hRr.cell2
      obtain ⟨aa, ac, hv⟩ := hown.row.len
      subst hv
      by_cases hlt : i < n
      · have hii : (i : Int) < (n : Int) := by omega
        obtain ⟨⟨d, P⟩, hy⟩ : ∃ y, T[i]? = some y := ⟨_, List.getElem?_eq_getElem (by rw [HN.out]; exact hlt)⟩
        obtain ⟨gv, gc, hv, -, -, -, -, -⟩ := hRr.form (by rw [HN.out]; omega)
        have hva : va = some ⟨gv, 0, none⟩ := (Value.slice.inj hv).1
        subst hva
        clear hv
        obtain ⟨aP, kP, hu, hrow, hcell, -, -, -⟩ := hRr.entry hy
        obtain ⟨x, hx⟩ : ∃ x, L[i]? = some x := ⟨_, List.getElem?_eq_getElem (by rw [HLT.out, HN.out]; exact hlt)⟩
        obtain ⟨b9, off9, c9, hv9, -, hat9⟩ := hRr.own.row.at_ (by rw [HLT.out, HN.out]; omega)
        have h9 := (Value.slice.inj hv9).1
        cases h9
        have hdg0 : DigAt w1 gv (0 + i * 33) x.1 := ROf_dig (hat9 i x hx)
        rw [hRr.fst hx hy, Nat.zero_add] at hdg0
        have hdg : DigAt w1 gv (i * 33) d := hdg0
        have hm32 : d.length = 32 := HT.out.dig _ (List.mem_of_getElem? hy)
        have hP64 : P.length ≤ 64 := by have := (HT.out.ps _ (List.mem_of_getElem? hy)).2.2; dsimp only at this; omega
        have htk := take_snoc_at hy
        have hgle : goneN now (T.take (i + 1)) ≤ 64000 := Nat.le_trans (goneN_take now T (i + 1)) HGN.out
        have hgle0 : goneN now (T.take i) ≤ 64000 := Nat.le_trans (goneN_take now T i) HGN.out
        have hLal : La.length ≤ 1000 := by
          have h1 := congrArg List.length hkeys
          rw [List.length_map, List.length_map] at h1
          have h2 := liveT_len now (T.take i)
          rw [List.length_take] at h2
          omega
        obtain ⟨A, hA⟩ : ∃ A, T.take i = A := ⟨_, rfl⟩
        rw [hA] at htk hkeys hrows hgle0 ⊢
        rw [htk, ← (midT_end (now := now) (A := A) (d := d) (P := P) (B := [])).2] at hgle
        have hmid0 : midN now A [] = goneN now A := by unfold midN; simp [liveP]
        rw [← hmid0]
        have HTK := Lib.hid htk
        have HKEYS := Lib.hid hkeys
        have HROWS := Lib.hid hrows
        have HOWN := Lib.hid hown
        have HB := Lib.hid hb
        have HROW := Lib.hid hrow
        have HDG := Lib.hid hdg
        have H32 := Lib.hid hm32
        have HC2 := Lib.hid c2
        have HCE := Lib.hid hcell
        have HLAL := Lib.hid hLal
        have HGLE := Lib.hid hgle
        clear hv9 hat9 hdg0 hx hu hrow hA htk hkeys hrows hown hb hdg hm32 hRr hy hmid0 hLal hgle hgle0
        clear hcell
        go_wp2
        clear c2
        go_loopw [7, 10, 11] (fun nv lv kv W => ∃ k : Nat, k ≤ P.length ∧ kv = .int .i64 (k : Int) ∧ nv = .int .i64 (midN now A (P.take k) : Int) ∧ RPeer.Own W w1.heap.size lv (liveP now (P.take k)) ∧ Below w1.heap.size w1 W) (fun _ _ kv _ => P.length - (intOf kv).toNat)
        case atStart => exact ⟨0, Nat.zero_le _, rfl, rfl, RecT.Own.nil _ _, Below.refl _ _⟩
        case round =>
          rename World => w2
          obtain ⟨k, hk, rfl, rfl, hol, hb2⟩ := hrel
          have c2 := Grew.cell hb2 HC2.out
          have hcell := Grew.cell hb2 HCE.out
          obtain ⟨la, lc, hv⟩ := hol.row.len
          subst hv
          by_cases hltk : k < P.length
          · have hki : (k : Int) < (P.length : Int) := by omega
            obtain ⟨p, hp⟩ : ∃ p, P[k]? = some p := ⟨_, List.getElem?_eq_getElem hltk⟩
            obtain ⟨pb, poff, c', hv, hbl, hat⟩ := HROW.out.row.at_ (by omega)
            obtain ⟨rfl, rfl⟩ : aP = some ⟨pb, poff, none⟩ ∧ kP = c' := by cases hv; exact ⟨rfl, rfl⟩
            have hA2 := (hat k p hp).of_new hb2
            have htl : w2.cell? ⟨pb, poff + k * 3 + 1, none⟩ = some (.int .i64 p.till) := (peer_cells hA2).2.1
            have HTK2 := Lib.hid (take_snoc_at hp)
            have HLS := Lib.hid (liveP_snoc now (P.take k) p)
            have HMS := Lib.hid (midN_snoc now A (P.take k) p)
            have hmb : midN now A (P.take k) ≤ 64000 + 64 := by
              have h1 := HGLE.out
              have h2 := liveP_len now P
              unfold midN at h1 ⊢
              have h3 : (P.take k).length ≤ 64 := by rw [List.length_take]; omega
              omega
            have hll : (liveP now (P.take k)).length ≤ 64 := by have := liveP_len now (P.take k); rw [List.length_take] at this; omega
            have HA2 := Lib.hid hA2
            have HOL := Lib.hid hol
            have HB2 := Lib.hid hb2
            obtain ⟨M, hM⟩ : ∃ M, midN now A (P.take k) = M := ⟨_, rfl⟩
            obtain ⟨LL, hLL⟩ : ∃ LL, liveP now (P.take k) = LL := ⟨_, rfl⟩
            rw [hM] at HMS hmb ⊢
            rw [hLL] at HLS HOL hll ⊢
            have HLLN := Lib.hid hll
            clear hv hbl hat hp hA2 hol hb2 hM hLL hll
            by_cases hg : p.till ≤ now
            · have hms := HMS.out
              have hls := HLS.out
              rw [if_pos hg] at hms hls
              have HM2 := Lib.hid hms
              have HL2 := Lib.hid hls
              clear hms hls
              go_wp2
              go_roundw
              case rel => exact ⟨k + 1, by omega, by go_num, by rw [HTK2.out, HM2.out]; go_num, by rw [HTK2.out, HL2.out]; exact HOL.out, HB2.out⟩
              case measure => simp [intOf]; omega
            · have hms := HMS.out
              have hls := HLS.out
              rw [if_neg hg] at hms hls
              have HM2 := Lib.hid hms
              have HL2 := Lib.hid hls
              clear hms hls
              go_wp2_with (first
                | ((with_reducible refine wpList_plain (o := ⟨some 65, Op.load _ _, _, _, _, _⟩) rfl fun K hK => ?_); (refine HA2.out.wp rfl rfl (hK _ _ ?_)))
                | ((with_reducible refine wpList_plain (o := ⟨some 66, Op.buildSlice _ _ _, _, _, _, _⟩) rfl fun K hK => ?_); (refine RPeer.wp_build1 Try.underlying31 (.tmp 65) (RPeer_ok p) rfl rfl fun w9 ho9 hb9 hs9 => hK _ _ ?_); have HO9 := Lib.hid ho9.row; have HB9 := Lib.hid hb9; clear ho9 hb9 hs9)
                | ((with_reducible refine wpList_plain (o := ⟨some 67, Op.call _, _, _, _, _⟩) rfl fun K hK => ?_); (refine (HOL.out.of_new HB9.out).app Try.underlying31 (.tmp 54) (.tmp 66) rfl rfl rfl HO9.out (by have := HLLN.out; simp; omega) (by have := HB2.out.size; have := HB9.out.size; omega) fun v10 w10 ho10 hg10 hu10 => hK _ _ ?_); have HO10 := Lib.hid ho10; have HB10 := Lib.hid ((below_next HB2.out HB9.out).grown hg10 (by have := HB2.out.size; have := HB9.out.size; omega) (fun k e => (HOL.out.lt k e).1)); clear ho10 hg10 hu10))
              go_roundw
              case rel => exact ⟨k + 1, by omega, by go_num, by rw [HTK2.out, HM2.out], by rw [HTK2.out, HL2.out]; exact HO10.out, HB10.out⟩
              case measure => simp [intOf]; omega
          · obtain rfl : k = P.length := by omega
            have hki : ¬ (P.length : Int) < (P.length : Int) := by omega
            rw [List.take_length] at hol ⊢
            have hmg : midN now A P = goneN now (T.take (i + 1)) := by rw [HTK.out]; exact (midT_end (now := now) (A := A) (d := d) (P := P) (B := [])).2
            have hls := live_step (now := now) (A := A) (d := d) (P := P)
            rw [← HTK.out] at hls
            have HMG := Lib.hid hmg
            have hllb : (liveP now P).length ≤ 64 := by have := liveP_len now P; omega
            obtain ⟨LL, hLL⟩ : ∃ LL, liveP now P = LL := ⟨_, rfl⟩
            rw [hLL] at hol hls hllb ⊢
            have HOL := Lib.hid hol
            have HB2 := Lib.hid hb2
            have HLS := Lib.hid hls
            have HBA := Lib.hid (below_next HB.out hb2)
            have HOWN2 := Lib.hid (HOWN.out.of_new hb2)
            have HDG2 := Lib.hid (HDG.out.of_new hb2)
            clear hLL hol hls hb2 hmg
            by_cases h0 : LL = []
            · have hl0 : ¬ (0 : Int) < (LL.length : Int) := by rw [h0]; decide
              have hls := HLS.out
              rw [if_pos h0] at hls
              have HL2 := Lib.hid hls
              clear hls h0
              go_wp2
              go_roundw
              case rel => exact ⟨i + 1, La, by omega, by go_num, by rw [HMG.out], HOWN2.out, by rw [HL2.out]; exact HKEYS.out, by rw [HL2.out]; exact fun j x y hx hy => (HROWS.out j x y hx hy).of_new HB2.out, HBA.out⟩
              case measure => simp [intOf]; omega
            · have hl0 : (0 : Int) < (LL.length : Int) := by have := List.length_pos_iff.2 h0; omega
              have hls := HLS.out
              rw [if_neg h0] at hls
              have HL2 := Lib.hid hls
              clear hls h0
              go_wp2_with (first
                | ((with_reducible refine wpList_plain (o := ⟨some 79, Op.load _ _, _, _, _, _⟩) rfl fun K hK => ?_); (refine wp_load_at (ty := 30) (x := .tmp 78) rfl rfl HDG2.out (hK _ _ ?_)))
                | ((with_reducible refine wpList_plain (o := ⟨some 81, Op.build _ _, _, _, _, _⟩) rfl fun K hK => ?_); (refine wp_build_of2 d (.slice la LL.length lc) rfl rfl rfl H32.out rfl (hK _ _ ?_)))
                | ((with_reducible refine wpList_plain (o := ⟨some 82, Op.buildSlice _ _ _, _, _, _, _⟩) rfl fun K hK => ?_); (refine ROf.wp_build1 Try.underlying55 (.tmp 81) (x := (d, .slice la LL.length lc)) ⟨H32.out, rfl⟩ rfl rfl fun w9 ho9 hb9 hs9 => hK _ _ ?_); have HO9 := Lib.hid ho9.row; have HB9 := Lib.hid hb9; clear ho9 hb9 hs9)
                | ((with_reducible refine wpList_plain (o := ⟨some 83, Op.call _, _, _, _, _⟩) rfl fun K hK => ?_); (refine (HOWN2.out.of_new HB9.out).app Try.underlying55 (.tmp 71) (.tmp 82) rfl rfl rfl HO9.out (by have := HLAL.out; simp; omega) (by have := HBA.out.size; have := HB9.out.size; omega) fun v10 w10 ho10 hg10 hu10 => hK _ _ ?_); have HO10 := Lib.hid ho10; have HG10 := Lib.hid hg10; have HB10 := Lib.hid ((below_next HBA.out HB9.out).grown hg10 (by have := HBA.out.size; have := HB9.out.size; omega) (fun k e => (HOWN2.out.lt k e).1)); clear ho10 hg10 hu10))
              have hrows' : ∀ (j : Nat) (x : List UInt8 × Value) (y : List UInt8 × List PeerL), (La ++ [(d, Value.slice la LL.length lc)])[j]? = some x → (liveT now A ++ [(d, LL)])[j]? = some y → RPeer.Own w10 B x.2 y.2 := fun j x y hx hy => by
                have hkl : La.length = (liveT now A).length := by have := congrArg List.length HKEYS.out; simpa using this
                have hkeep : ∀ {u : Value} {q : List PeerL}, RPeer.Own w2 B u q → RPeer.Own w10 B u q := fun {u q} h => (h.of_new HB9.out).kept fun k e => HG10.out.block k ((h.of_new HB9.out).lt k e).2 fun e2 => by
                  obtain ⟨cur1, q1⟩ := h.block e
                  obtain ⟨cur2, q2⟩ := HOWN2.out.block e2.symm
                  rw [q1] at q2; cases q2
                by_cases hj : j < La.length
                · rw [List.getElem?_append_left hj] at hx
                  rw [List.getElem?_append_left (by omega)] at hy
                  exact hkeep ((HROWS.out j x y hx hy).of_new HB2.out)
                · rw [List.getElem?_append_right (by omega)] at hx hy
                  rw [← hkl] at hy
                  have hj0 : j - La.length = 0 := by
                    rcases Nat.eq_zero_or_pos (j - La.length) with h | h
                    · exact h
                    · rw [List.getElem?_eq_none (by simp; omega)] at hx; cases hx
                  rw [hj0] at hx hy
                  cases hx; cases hy
                  exact hkeep (HOL.out.mono (by have h1 := HR.out.base; have h2 := HR.out.lt; have h3 := HB.out.size; omega))
              have HROWS' := Lib.hid hrows'
              clear hrows'
              go_roundw
              case rel => exact ⟨i + 1, La ++ [(d, Value.slice la LL.length lc)], by omega, by go_num, by rw [HMG.out], HO10.out, by rw [HL2.out, List.map_append, List.map_append, HKEYS.out]; rfl, by rw [HL2.out]; exact HROWS'.out, HB10.out⟩
              case measure => simp [intOf]; omega
      · obtain rfl : i = n := by omega
        have hii : ¬ (i : Int) < (i : Int) := by omega
        have he : T.take i = T := List.take_of_length_le (by rw [HN.out]; exact Nat.le_refl _)
        rw [he] at hkeys hrows ⊢
        have f2 := hRr.free 2
        have HST := Lib.hid (RTabP.put HR.out hb hown hkeys hrows rfl)
        have HXX := HX
        obtain ⟨G, hG⟩ : ∃ G, goneN now T = G := ⟨_, rfl⟩
        rw [hG]
        have HGG := Lib.hid hG
        clear he hkeys hrows hown hb hRr hG
        go_wp2
        go_ret2
        exact ⟨_, _, (by rw [HGG.out]; rfl), HST.out.1, HST.out.2⟩

end Go.Proofs.Ytnohglkilpnjhaa

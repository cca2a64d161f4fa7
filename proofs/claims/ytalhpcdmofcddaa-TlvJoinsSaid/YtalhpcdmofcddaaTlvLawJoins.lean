/- The walk of the law TlvJoins: it answers true. No condition. -/
import Derived.Test.YtalhpcdmofcddaaTlvSame
import Derived.Test.YtalhpcdmofcddaaTlvBackPlain
import Derived.Test.YtalhpcdmofcddaaTlvLawEncodes
namespace Go.Proofs.Ytalhpcdmofcddaa
open Go.RowKit
set_option linter.unusedVariables false
set_option linter.unusedSimpArgs false

/-- A slice of items, its cells at a glance. -/
theorem Items.split {w : World} {v : Value} {l : List It} (h : Items w v l) : ∃ l' : List ItV, l'.map (·.1) = l ∧ Row w v l'.length 2 (flatI l') ∧ ∀ x ∈ l', Bytes w x.2 x.1.2 := by
  obtain ⟨a, c, rfl, h2, h3, h4, h5⟩ := h
  by_cases h0 : 0 < l.length
  · obtain ⟨b, off, rfl, hb, hc⟩ := h5 h0
    have hu : ∀ i, ∃ u, i < l.length → w.cell? ⟨b, off + i * 2 + 1, none⟩ = some u ∧ Bytes w u (l.getD i (0, [])).2 := fun i => by
      by_cases hi : i < l.length
      · obtain ⟨_, u, q⟩ := hc i hi
        exact ⟨u, fun _ => q⟩
      · exact ⟨undef, fun q => absurd q hi⟩
    obtain ⟨us, hus⟩ := Classical.axiomOfChoice hu
    obtain ⟨l', hl'⟩ : ∃ l' : List ItV, l' = (List.range l.length).map fun i => (l.getD i (0, []), us i) := ⟨_, rfl⟩
    have hlen : l'.length = l.length := by rw [hl']; simp
    have hget : ∀ i, i < l.length → l'.getD i ((0, []), undef) = (l.getD i (0, []), us i) := fun i hi => by
      rw [hl']; simp [List.getD, hi]
    refine ⟨l', ?_, ?_, ?_⟩
    · rw [hl', List.map_map]
      apply List.ext_getElem
      · simp
      · intro i q1 q2
        have : i < l.length := by simpa using q1
        simp [List.getD, this]
    · refine ⟨flatI_len l', _, c, by rw [hlen], by rw [hlen]; exact h2, h3, (fun h => by cases h), fun _ => ⟨b, off, rfl, hb, fun j hj => ?_⟩⟩
      have hj2 : j / 2 < l'.length := by omega
      obtain ⟨f1, f2⟩ := flatI_at hj2
      rw [hget _ (by omega)] at f1 f2
      obtain ⟨q1, _⟩ := hc (j / 2) (by omega)
      have q2 := (hus (j / 2) (by omega)).1
      rcases Nat.mod_two_eq_zero_or_one j with hm | hm
      · rw [show j = j / 2 * 2 by omega, f1, q1]
      · rw [show j = j / 2 * 2 + 1 by omega, f2, ← q2, Nat.add_assoc]
    · intro x hx
      rw [hl'] at hx
      obtain ⟨i, hi, rfl⟩ := List.mem_map.1 hx
      exact (hus i (by simpa using hi)).2
  · obtain rfl : l = [] := List.eq_nil_of_length_eq_zero (by omega)
    exact ⟨[], rfl, ⟨rfl, a, c, rfl, h2, h3, h4, fun h => by simp at h⟩, fun x hx => by cases hx⟩
theorem Items.join {w : World} {v : Value} {l : List ItV} (h : Row w v l.length 2 (flatI l)) (hb : ∀ x ∈ l, Bytes w x.2 x.1.2) : Items w v (l.map (·.1)) := by
  obtain ⟨h1, a, c, rfl, h2, h3, h4, h5⟩ := h
  refine ⟨a, c, by simp, by simpa using h2, h3, h4, fun h0 => ?_⟩
  have h0' : 0 < l.length := by simpa using h0
  obtain ⟨b, off, rfl, hb', hc⟩ := h5 (by omega)
  refine ⟨b, off, rfl, hb', fun i hi => ?_⟩
  have hi' : i < l.length := by simpa using hi
  obtain ⟨f1, f2⟩ := flatI_at hi'
  have e : (l.map (·.1)).getD i (0, []) = (l.getD i ((0, []), undef)).1 := by simp [List.getD, hi']
  rw [e]
  refine ⟨(hc _ (by omega)).trans f1, _, (by rw [Nat.add_assoc]; exact (hc _ (by omega)).trans f2), ?_⟩
  have hm : l.getD i ((0, []), undef) ∈ l := by
    rw [List.getD_eq_getElem?_getD, List.getElem?_eq_getElem hi']; exact List.getElem_mem hi'
  exact hb _ hm
theorem flatI_append (a b : List ItV) : flatI (a ++ b) = flatI a ++ flatI b := by simp [flatI]

/-- 'append(s, x...)' of items, s the call's own, x any slice of items that is not nil. -/
theorem wp_appRows {w : World} {o : Oper} {a : Act} {K : Act → World → Prop} {Q : Exit → Act → World → Prop} (s y : Operand)
    (ho : o.op = .call { callee := .builtin .append, args := #[s, y], argTypes := #[22, 22] }) (base n : Nat) (cs : List Value)
    (v : Value) (hs : a.eval s = v) (hown : w.ownsRow base 46 2 v n cs) (ad : Addr) (c k : Nat) (l : List ItV) (hk : l.length = k) (hy : a.eval y = .slice (some ad) k c) (hrow : Row w (.slice (some ad) k c) k 2 (flatI l)) (hb : ∀ x ∈ l, ∃ W, Bytes W x.2 x.1.2)
    (hlen : n + k ≤ 1099511627776) (hbase : base ≤ w.heap.size)
    (h : ∀ v' w', w'.ownsRow base 46 2 v' (n + k) (cs ++ flatI l) → w.grownBy w' v.ownBlock → (∀ k, v'.ownBlock = some k → v.ownBlock = some k ∨ w.heap.size ≤ k) → K (a.put o.dst v') w') : o.wp Try.prog a w K Q := by
  subst hk
  obtain ⟨i, hi, hz, hsize, hby⟩ := info_parts infoItem
  obtain ⟨hl, ad', c', hv', hc1, hc2, hc3, hc4⟩ := hrow
  cases hv'
  obtain ⟨v', w', h1, h2, h3, _, h5⟩ := run_append_own_at (P := Try.prog) w base 22 o.type 46 i _ 2 32 Try.underlying22 hi hz hsize hby (by simp [Value.cells]) (by decide) v n cs hown ad l.length c (flatI l) hl
    (fun j u hj => by
      have hjl : j < l.length * 2 := by
        rcases Nat.lt_or_ge j (l.length * 2) with h | h
        · exact h
        · rw [List.getElem?_eq_none (by omega)] at hj; cases hj
      obtain ⟨b, off, hab, _, hcell⟩ := hc4 (by omega)
      cases hab
      have hplain : (⟨b, off, none⟩ : Addr).add j = ⟨b, off + j, none⟩ := by unfold Addr.add; split <;> simp_all
      rw [hplain, hcell j (by omega), hj])
    (fun u hu => by
      obtain ⟨x, hx, hux⟩ := List.mem_flatMap.1 hu
      obtain ⟨W, hW⟩ := hb x hx
      obtain ⟨a', c', he⟩ := hW.len
      simp at hux
      rcases hux with rfl | rfl
      · rfl
      · rw [he]; rfl) (by unfold maxLen; omega) (by omega) hbase
  unfold Oper.wp execOp
  simp only [ho, resolve, invoke, builtin, Sem.run_bind, Sem.run_pure, Result.andThen_ok, List.map_toArray, List.map_cons, List.map_nil, hs, hy, h1]
  refine h v' w' h2 h3 fun k hk => ?_
  rcases h5 with h5 | h5
  · exact .inl (by rw [← h5]; exact hk)
  · rw [h5] at hk; cases hk; exact .inr (Nat.le_refl _)

/-- A guarded operation that is met, at the head of a list. -/
theorem wpList_met {P : Program} {ops : Array Oper} {rest : List Oper} {o : Oper} {a : Act} {w : World} {Q : Exit → Act → World → Prop} (hw : Region.wanted o (yielded ops a.tmps) = true)
    (h : ∀ K : Act → World → Prop, (∀ a w, wpList P ops Q rest a w → K a w) → o.wp P a w K Q) : wpList P ops Q (o :: rest) a w :=
  wpList_step fun K hK => by rw [if_pos hw]; exact h K hK

theorem fewL_len {l : List It} (h : fewL l = true) : l.length ≤ 100 := by
  unfold fewL at h
  split at h
  · cases h
  · omega

set_option maxRecDepth 100000 in
set_option maxHeartbeats 3200000 in
theorem TlvJoins_walk (v : Value) (l : List It) (u : Value) (m : List It) (w : World) (hl : Items w v l) (hr : ∀ x ∈ l, -9223372036854775808 ≤ x.1 ∧ x.1 ≤ 9223372036854775807) (hm : Items w u m) (hr2 : ∀ x ∈ m, -9223372036854775808 ≤ x.1 ∧ x.1 ≤ 9223372036854775807) :
    Calls Try.prog 9 #[v, u] w fun e w' => e = .returned (.bool true) ∧ Below w.heap.size w w' := by
  clear hr hr2
  obtain ⟨i0, hi, hz0, hz1, hz2⟩ := info_parts infoU8
  obtain ⟨a, c, hv⟩ := hl.len
  have hll := hl.le
  have HL := Lib.hid hl
  clear hl
  subst hv
  obtain ⟨b, d, hv⟩ := hm.len
  have hml := hm.le
  have HM := Lib.hid hm
  clear hm
  subst hv
  go_enter Try.func9, Try.ntmps9
  go_wp2_with fail
  refine (awake_any _).mono ?_
  rintro e w1 ⟨rfl, hb⟩
  go_wp2_with fail
  refine (few_any _ l _ (HL.out.of_new hb)).mono ?_
  rintro e w1' ⟨rfl, rfl⟩
  go_wp2_with fail
  refine (few_any _ m _ (HM.out.of_new hb)).mono ?_
  rintro e w1'' ⟨rfl, rfl⟩
  cases hf : fewL l with
  | false =>
    go_wp2
    go_ret
    exact ⟨rfl, hb⟩
  | true =>
  cases hf2 : fewL m with
  | false =>
    go_wp2
    go_ret
    exact ⟨rfl, hb⟩
  | true =>
  have hl1 := fewL_len hf
  have hm1 := fewL_len hf2
  clear hf hf2
  by_cases hz : l.length = 0
  · have t0 : ((l.length : Int) == 0) = true := beq_iff_eq.2 (by omega)
    go_wp2
    go_ret
    exact ⟨rfl, hb⟩
  have t0 : ((l.length : Int) == 0) = false := beq_eq_false_iff_ne.2 (by omega)
  by_cases hz2' : m.length = 0
  · have t1 : ((m.length : Int) == 0) = true := beq_iff_eq.2 (by omega)
    go_wp2
    go_ret
    exact ⟨rfl, hb⟩
  have t1 : ((m.length : Int) == 0) = false := beq_eq_false_iff_ne.2 (by omega)
  go_wp2_with fail
  refine (Encode_any _ l _ (HL.out.of_new hb)).mono ?_
  intro e w2 he
  obtain ⟨hb2, v2, rfl, ho2, a2, c2, hs2⟩ := enc_slice he
  have hbA := below_next hb hb2
  subst hs2
  clear he
  rcases hra : encL l with _ | x
  · clear hra
    go_wp2_with fail
    refine (Encode_any _ m _ (HM.out.of_new hbA)).mono ?_
    intro e w3 he
    obtain ⟨hb3, v3, rfl, ho3, a3, c3, hs3⟩ := enc_slice he
    have hbB := below_next hbA hb3
    subst hs3
    clear he ho3
    cases encL m
    all_goals
      go_wp2
      go_ret
      exact ⟨rfl, hbB⟩
  rw [hra] at ho2
  simp only [Option.getD_some, Option.isSome_some, if_true] at ho2 ⊢
  have HRA := Lib.hid hra
  clear hra
  go_wp2_with fail
  refine (Encode_any _ m _ (HM.out.of_new hbA)).mono ?_
  intro e w3 he
  obtain ⟨hb3, v3, rfl, ho3, a3, c3, hs3⟩ := enc_slice he
  have hbB := below_next hbA hb3
  subst hs3
  clear he
  rcases hrb : encL m with _ | y
  · clear hrb
    go_wp2
    go_ret
    exact ⟨rfl, hbB⟩
  rw [hrb] at ho3
  simp only [Option.getD_some, Option.isSome_some, if_true] at ho3 ⊢
  have hx1 := encL_le HRA.out
  have hy1 := encL_le hrb
  have HRB := Lib.hid hrb
  clear hrb
  by_cases hsum : 65536 < x.length + y.length
  · have s1 : IntKind.i64.wrap ((x.length : Int) + (y.length : Int)) = (x.length : Int) + (y.length : Int) := IntWalk.i64_in _ (by omega)
    have s2 : (65536 : Int) < (x.length : Int) + (y.length : Int) := by omega
    go_wp2
    go_ret
    exact ⟨rfl, hbB⟩
  have s2 : ¬ (65536 : Int) < (x.length : Int) + (y.length : Int) := by omega
  have HX := Lib.hid (ho2.bytes.of_new hb3)
  have HY := Lib.hid ho3.bytes
  have hO0 : Own8 (w3.alloc (.cells #[] 5)) w3.heap.size 5 (.slice (some ⟨w3.heap.size, 0, none⟩) 0 0) [] := World.ownsRow_made w3 #[] 0 (Nat.le_refl _) (by unfold maxLen; omega) rfl
  have HO := Lib.hid hO0
  clear ho2 ho3 hb2 hb3 hO0
  go_wp2_with (at_builtin; go_loud (refine wpList_app8 rfl (.tmp 66) (.tmp 67) 25 rfl w3.heap.size 5 i0 Try.underlying25 hi hz0 hz1 hz2 _ [] rfl HO.out _ x rfl (HX.out.of_alloc _) ?_ ?_ ?_))
  all_goals first | (intro v4 w4 ho4 hg4 hu4) | omega | (simp; omega) | simp
  have hbn : Below w3.heap.size w3 w4 := ((Below.refl _ w3).alloc (Nat.le_refl _) _).grown hg4 (by simp) (fun j hj => (HO.out.lt j hj).1)
  have hs4 := hbn.size
  obtain ⟨a4, c4, hv⟩ := ho4.bytes.len
  subst hv
  have HO4 := Lib.hid ho4
  have HBN := Lib.hid hbn
  clear ho4 hg4 hbn
  go_wp2_with (at_builtin; go_loud (refine wpList_app8 rfl (.tmp 68) (.tmp 69) 25 rfl w3.heap.size 5 i0 Try.underlying25 hi hz0 hz1 hz2 _ x rfl HO4.out _ y rfl (HY.out.of_new HBN.out) ?_ ?_ ?_))
  all_goals first | (intro v5 w5 ho5 hg5 hu5) | omega | (simp; omega) | exact hs4 | simp
  have hbn5 : Below w3.heap.size w3 w5 := HBN.out.grown hg5 hs4 (fun j hj => (HO4.out.lt j hj).1)
  obtain ⟨xy, hxy⟩ : ∃ q, x ++ y = q := ⟨_, rfl⟩
  rw [hxy] at ho5
  obtain ⟨a5, c5, hv⟩ := ho5.bytes.len
  subst hv
  have hbC := below_next hbB hbn5
  have HO5 := Lib.hid ho5.bytes
  clear ho5 hg5 hbn5 HO HX HY HO4 HBN hs4
  -- the first of b, the last of a
  obtain ⟨z, r, hzr⟩ : ∃ z r, m = z :: r := by
    cases m with
    | nil => exact absurd rfl hz2'
    | cons z r => exact ⟨z, r, rfl⟩
  have hjoin := decL_join HRA.out HRB.out (by omega) z r hzr
  have hla : lastN l 0 = (l.getD (l.length - 1) (0, [])).1 := lastN_getD (by omega) 0
  have hfb : m.getD 0 (0, []) = z := by rw [hzr]; rfl
  obtain ⟨lm, hlm⟩ : ∃ q, l ++ m = q := ⟨_, rfl⟩
  rw [hla, hxy, hlm] at hjoin
  obtain ⟨lb, loff, lc, hv, hbl, hc⟩ := HL.out.cell (by omega)
  obtain ⟨rfl, rfl⟩ : a = some ⟨lb, loff, none⟩ ∧ c = lc := by cases hv; exact ⟨rfl, rfl⟩
  obtain ⟨mb, moff, mc, hv2, hbm, hc2⟩ := HM.out.cell (by omega)
  obtain ⟨rfl, rfl⟩ : b = some ⟨mb, moff, none⟩ ∧ d = mc := by cases hv2; exact ⟨rfl, rfl⟩
  have x1 := (hc (l.length - 1) (by omega)).1
  have y1 := (hc2 0 (by omega)).1
  rw [hfb] at y1
  obtain ⟨p, hp⟩ : ∃ p, (l.getD (l.length - 1) (0, [])).1 = p := ⟨_, rfl⟩
  rw [hp] at x1 hjoin
  obtain ⟨n, hn⟩ : ∃ n : Nat, l.length - 1 = n := ⟨_, rfl⟩
  rw [hn] at x1
  have hn1 : (l.length : Int) - 1 = (n : Int) := by omega
  have hj1 : (n : Int) < (l.length : Int) := by omega
  have hj2 : (0 : Int) < (m.length : Int) := by omega
  have hjw : IntKind.i64.wrap ((l.length : Int) - 1) = (n : Int) := by rw [hn1]; exact IntWalk.i64_in _ (by omega)
  rw [Nat.zero_mul, Nat.add_zero] at y1
  have HLM : Hid (l.length + m.length ≤ 200 ∧ 0 < l.length ∧ 0 < m.length) := Lib.hid (by omega)
  clear hn hz hz2' hl1 hm1 hx1 hy1 hsum hxy s2
  have HJ := Lib.hid hjoin
  clear hjoin hla hfb hzr hp hc hc2 hv hv2
  go_wp2_with fail
  refine (Decode_any _ xy _ HO5.out).mono ?_
  rintro e w6 ⟨v6, rfl, hi6, hb6⟩
  have hbD := below_next hbC hb6
  have x1' := (hbD.cell (p := ⟨lb, loff + n * 2, none⟩) hbl).trans x1
  have y1' := (hbD.cell (p := ⟨mb, moff, none⟩) hbm).trans y1
  clear hbC hb6 x1 y1 HO5 hbA hbB hb
  rw [HJ.out] at hi6 ⊢
  obtain ⟨zn, zb⟩ := z
  dsimp only at *
  by_cases hlt : p < zn
  · rw [if_pos hlt] at hi6 ⊢
    simp only [Option.getD_some, Option.isSome_some, if_true] at hi6 ⊢
    obtain ⟨a6, c6, h6⟩ := hi6.len
    subst h6
    have hd1 : decide (p < zn) = true := decide_eq_true hlt
    go_wp2
    go_quiet (fail)
    have hbE : Below w.heap.size w (w6.drewN nq) := hbD.trans (below_drewn _)
    have hi7 := hi6.of_new (below_drewn nq)
    generalize w6.drewN nq = w7 at *
    obtain ⟨la, hla, hrowa, hba⟩ := HL.out.split
    obtain ⟨lb', hlb', hrowb, hbb⟩ := HM.out.split
    have hka : la.length = l.length := by rw [← hla, List.length_map]
    have hkb : lb'.length = m.length := by rw [← hlb', List.length_map]
    rw [hka] at hrowa
    rw [hkb] at hrowb
    have HO7 := Lib.hid (World.ownsRow_made (base := w7.heap.size) (e := 46) (size := 2) w7 #[] 0 (Nat.le_refl _) (by unfold maxLen; omega) rfl)
    have HRA := Lib.hid ((hrowa.of_new hbE).of_alloc (.cells #[] 46))
    have HRB := Lib.hid (hrowb.of_new hbE)
    have hsum : l.length + m.length ≤ 200 := HLM.out.1
    have hq0 : ((0 : Int) == 0) = true := rfl
    have HI7 := Lib.hid hi7
    clear hrowa hrowb hi6 hi7 hbD x1' y1'
    go_wp2_with ((with_reducible refine wpList_met (o := ⟨some 96, _, _, _, _, _⟩) ?_ ?_); rfl; intro K hK; refine wp_appRows (.tmp 94) (.tmp 95) rfl w7.heap.size 0 [] _ rfl HO7.out _ _ l.length la hka rfl HRA.out (fun x hx => ⟨w, hba x hx⟩) (by omega) (by simp) fun v8 w8 ho8 hg8 hu8 => hK _ _ ?_; obtain ⟨a8, c8, hv8⟩ := (Row.of_owns ho8).shape; subst hv8; rw [Nat.zero_add, List.nil_append] at ho8; rw [Nat.zero_add]; have hb8 : Below w7.heap.size w7 w8 := ((Below.refl _ w7).alloc (Nat.le_refl _) _).grown hg8 (by simp) (fun j hj => (HO7.out.lt j hj).1); have hs8 := hb8.size; have HO8 := Lib.hid ho8; have HRB8 := Lib.hid (HRB.out.of_new hb8); have HB8 := Lib.hid hb8; clear ho8 hg8 hu8 hb8; go_wp2_with ((with_reducible refine wpList_met (o := ⟨some 98, _, _, _, _, _⟩) ?_ ?_); rfl; intro K hK; refine wp_appRows (.tmp 96) (.tmp 97) rfl w7.heap.size l.length (flatI la) _ rfl HO8.out _ _ m.length lb' hkb rfl HRB8.out (fun x hx => ⟨w, hbb x hx⟩) (by omega) hs8 fun v9 w9 ho9 hg9 hu9 => hK _ _ ?_; obtain ⟨a9, c9, hv9⟩ := (Row.of_owns ho9).shape; subst hv9))
    have hb9 : Below w7.heap.size w7 w9 := HB8.out.grown hg9 hs8 (fun j hj => (HO8.out.lt j hj).1)
    have hbF := below_next hbE hb9
    have hr9 := Row.of_owns ho9
    rw [← flatI_append] at hr9
    have hk9 : l.length + m.length = (la ++ lb').length := by rw [List.length_append, hka, hkb]
    rw [hk9] at hr9
    have hi9 := Items.join hr9 (fun x hx => by
      rcases List.mem_append.1 hx with hx | hx
      · exact (hba x hx).of_new hbF
      · exact (hbb x hx).of_new hbF)
    rw [List.map_append, hla, hlb', ← hk9, hlm] at hi9
    have hi6 := HI7.out.of_new hb9
    clear ho9 hg9 hu9 hr9 HO7 HRA HRB hk9 hka hkb hla hlb' hba hbb hlm
    go_wp2_with fail
    refine (Same_any _ _ lm lm _ hi6 hi9).mono ?_
    rintro e w10 ⟨rfl, hb10⟩
    rw [decide_eq_true rfl]
    go_wp2
    go_ret
    exact ⟨rfl, below_next hbF hb10⟩
  · rw [if_neg hlt] at hi6 ⊢
    simp only [Option.getD_none] at hi6 ⊢
    obtain ⟨a6, c6, h6⟩ := hi6.len
    subst h6
    have hd1 : decide (p < zn) = false := decide_eq_false hlt
    go_wp2
    go_quiet (fail)
    go_wp2
    go_ret
    exact ⟨rfl, hbD.trans (below_drewn _)⟩

end Go.Proofs.Ytalhpcdmofcddaa

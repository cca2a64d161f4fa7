/- The walk of the law MerkleDepths: it answers true. Condition: the table of constants as the program lays it. -/
import Derived.Test.YtnilkdfhnmkekaaDoorMrkAwake
namespace Go.Proofs.YtnilkdfhnmkekaaDoor
open Go.RowKit
set_option linter.unusedVariables false

theorem walkP_lo (f n i k : Nat) (hf : n ≤ f) (h : 2 ^ k < n) : k < (walkP f n i).length := by
  induction k generalizing f n i with
  | zero =>
    cases f with
    | zero => simp at h; omega
    | succ f => simp only [walkP]; rw [if_neg (by simp at h; omega)]; simp
  | succ k ih =>
    cases f with
    | zero => have := Nat.pow_pos (n := k + 1) (show 0 < 2 by omega); omega
    | succ f =>
      simp only [walkP]
      have hp : 0 < 2 ^ k := Nat.pow_pos (by omega)
      rw [Nat.pow_succ] at h
      rw [if_neg (by omega)]
      have := ih f ((n + 1) / 2) (i / 2) (by omega) (by omega)
      simp; omega
theorem walkP_zero (f n : Nat) : ∀ p ∈ walkP f n 0, p.2 = 0 ∧ 1 < p.1 := by
  induction f generalizing n with
  | zero => intro p hp; simp [walkP] at hp
  | succ f ih =>
    intro p hp
    simp only [walkP] at hp
    split at hp
    · simp at hp
    · rcases List.mem_cons.1 hp with rfl | hp
      · exact ⟨rfl, by simp; omega⟩
      · exact ih _ p hp
/-- A proof's length: no more than the halvings; for the first leaf just as many. -/
theorem depth_most (n i m : Nat) (hn : n ≤ 1024) (h1 : n ≤ 2 ^ m) (h2 : m = 0 ∨ 2 ^ (m - 1) < n) : cntP (walkN n i) ≤ m ∧ (i = 0 → cntP (walkN n i) = m) := by
  have hl : (walkN n i).length = m := by
    have a := walkP_len 1024 n i m h1
    unfold walkN
    rcases h2 with rfl | h2
    · omega
    · by_cases hm : m = 0
      · omega
      · have := walkP_lo 1024 n i (m - 1) hn h2
        omega
  have hc := cntP_le (walkN n i)
  refine ⟨by omega, ?_⟩
  rintro rfl
  rw [← hl]
  unfold cntP
  rw [List.countP_eq_length]
  intro p hp
  obtain ⟨q1, q2⟩ := walkP_zero 1024 n p hp
  have : besideZ p.1 p.2 = 1 := by rw [q1]; unfold besideZ; simp; omega
  simp [this]

set_option maxRecDepth 100000 in
set_option maxHeartbeats 1600000 in
theorem MerkleDepths_walk (n i : Int) (w : World) (n1 : -9223372036854775808 ≤ n) (n2 : n ≤ 9223372036854775807) (i1 : -9223372036854775808 ≤ i) (i2 : i ≤ 9223372036854775807) (hK : Consts w) :
    Calls Tryd.prog 5 #[.int .i64 n, .int .i64 i] w fun e w' => e = .returned (.bool true) ∧ Below w.heap.size w w' := by
  by_cases hr : 1 ≤ n ∧ n ≤ 1024 ∧ 0 ≤ i ∧ i < n
  case neg =>
    have h0 : depthZ n i = 0 := by
      unfold depthZ
      rw [if_neg]
      intro h
      have : n ≥ 1 ∧ n ≤ 1024 ∧ i ≥ 0 ∧ i < n := by simpa [rightB] using h
      omega
    have hD := fun w => Depth_any n i w
    rw [h0] at hD
    by_cases c1 : n < 1
    all_goals by_cases c2 : 1024 < n
    all_goals by_cases c3 : i < 0
    all_goals by_cases c4 : n ≤ i
    all_goals first | (exfalso; omega) | skip
    all_goals clear hr h0
    all_goals go_enter Tryd.func5, Tryd.ntmps5
    all_goals go_wp2_with fail
    all_goals refine (awake_any w hK).mono ?_
    all_goals rintro e w2 ⟨rfl, hb2⟩
    all_goals go_wp2_with fail
    all_goals refine (hD w2).mono ?_
    all_goals rintro e w3 ⟨rfl, hb3⟩
    all_goals go_wp2
    all_goals go_ret
    all_goals exact ⟨rfl, below_next hb2 hb3⟩
  case pos =>
    obtain ⟨a1, a2, a3, a4⟩ := hr
    obtain ⟨N, rfl⟩ : ∃ N : Nat, n = (N : Int) := ⟨n.toNat, by omega⟩
    obtain ⟨j, rfl⟩ : ∃ j : Nat, i = (j : Int) := ⟨i.toNat, by omega⟩
    have h0 : depthZ N j = cntP (walkN N j) := by
      unfold depthZ
      rw [if_pos (by simp [rightB]; omega)]
      simp
    have hM := fun m => depth_most N j m (by omega)
    generalize hd : cntP (walkN N j) = D at *
    have hD := fun w => Depth_any N j w
    rw [h0] at hD
    have c1 : ¬ (N : Int) < 1 := by omega
    have c2 : ¬ (1024 : Int) < N := by omega
    have c3 : ¬ (j : Int) < 0 := by omega
    have c4 : ¬ (N : Int) ≤ j := by omega
    clear h0 hd
    have HM := Lib.hid hM
    clear hM
    go_enter Tryd.func5, Tryd.ntmps5
    go_wp2_with fail
    refine (awake_any w hK).mono ?_
    rintro e w2 ⟨rfl, hb2⟩
    go_wp2_with fail
    refine (hD w2).mono ?_
    rintro e w3 ⟨rfl, hb3⟩
    clear hD
    go_wp2
    go_loop [7, 8] (fun mv kv => ∃ m k : Nat, mv = .int .i64 (m : Int) ∧ kv = .int .i64 (k : Int) ∧ k = 2 ^ m ∧ (m = 0 ∨ 2 ^ (m - 1) < N) ∧ m ≤ k) (fun _ kv => N - (intOf kv).toNat)
    case atStart => exact ⟨0, 1, rfl, rfl, rfl, .inl rfl, by omega⟩
    case round =>
      obtain ⟨m, k, rfl, rfl, hk, hm, hmk⟩ := hrel
      have hp : 0 < k := by rw [hk]; exact Nat.pow_pos (by omega)
      by_cases hlt : k < N
      · have t3 : (k : Int) < (N : Int) := by omega
        have HK := Lib.hid hk
        clear hk hm
        go_wp2
        go_round
        case rel => exact ⟨m + 1, 2 * k, by go_num, by go_num, by rw [Nat.pow_succ, HK.out]; omega, .inr (by simp only [Nat.add_sub_cancel]; rw [← HK.out]; exact hlt), by omega⟩
        case measure => simp [intOf]; omega
      · have t3 : ¬ (k : Int) < (N : Int) := by omega
        obtain ⟨g1, g2⟩ := HM.out m (by rw [← hk]; omega) hm
        clear HM
        by_cases hj : j = 0
        · have hDm := g2 hj
          have t4 : ((j : Int) != 0) = false := by simp; omega
          have t5 : (D : Int) ≤ m := by omega
          have t6 : ((D : Int) == (m : Int)) = true := by simp; omega
          by_cases hN : N = 1
          · have t7 : ((N : Int) == 1) = true := by simp; omega
            have t8 : ((D : Int) == 0) = true := by
              have : m = 0 := by
                rcases hm with h | h
                · exact h
                · have := Nat.pow_pos (n := m - 1) (show 0 < 2 by omega); omega
              simp; omega
            clear hk hm g2 hj hDm hN
            go_wp2
            go_ret
            exact ⟨rfl, below_next hb2 hb3⟩
          · have t7 : ((N : Int) == 1) = false := by simp; omega
            clear hk hm g2 hj hDm hN
            go_wp2
            go_ret
            exact ⟨rfl, below_next hb2 hb3⟩
        · have t4 : ((j : Int) != 0) = true := by simp; omega
          have t5 : (D : Int) ≤ m := by omega
          clear hk hm g2 hj
          go_wp2
          go_ret
          exact ⟨rfl, below_next hb2 hb3⟩

end Go.Proofs.YtnilkdfhnmkekaaDoor

/- The walk of the document's answer's Depth. No condition. -/
import Derived.Test.YtnilkdfhnmkekaaDoorMrkDepth
namespace Go.Proofs.YtnilkdfhnmkekaaDoor
open Go.RowKit
set_option linter.unusedVariables false
set_option linter.unusedSimpArgs false

theorem cntP_cons (x : Nat × Nat) (l : List (Nat × Nat)) : cntP (x :: l) = (if 0 ≤ besideZ x.1 x.2 then 1 else 0) + cntP l := by
  unfold cntP
  rw [List.countP_cons]
  simp only [decide_eq_true_eq]
  omega

def RDepthI (D : Nat) (nv iv mv : Value) : Prop := ∃ a b c : Nat, nv = .int .i64 (a : Int) ∧ iv = .int .i64 (b : Int) ∧ mv = .int .i64 (c : Int) ∧ b < a ∧ a ≤ 1024 ∧ c ≤ 1024 ∧ D = c + cntP (walkN a b) ∧ c + a ≤ 1024

set_option maxRecDepth 100000 in
set_option maxHeartbeats 3200000 in
theorem RDepth_any (n i : Int) (w : World) (n1 : -9223372036854775808 ≤ n) (n2 : n ≤ 9223372036854775807) (i1 : -9223372036854775808 ≤ i) (i2 : i ≤ 9223372036854775807) :
    Calls Tryd.prog 23 #[.int .i64 n, .int .i64 i] w fun e w' => e = .returned (.int .i64 (depthZ n i : Int)) ∧ Below w.heap.size w w' := by
  by_cases hr : 1 ≤ n ∧ n ≤ 1024 ∧ 0 ≤ i ∧ i < n
  case neg =>
    have h0 : depthZ n i = 0 := by
      unfold depthZ
      rw [if_neg]
      intro h
      have : n ≥ 1 ∧ n ≤ 1024 ∧ i ≥ 0 ∧ i < n := by simpa [rightB] using h
      omega
    have H0 := Lib.hid h0
    by_cases c1 : n < 1
    all_goals by_cases c2 : 1024 < n
    all_goals by_cases c3 : i < 0
    all_goals by_cases c4 : n ≤ i
    all_goals first | (exfalso; omega) | skip
    all_goals clear hr h0
    all_goals go_enter Tryd.func23, Tryd.ntmps23
    all_goals go_wp2
    all_goals go_ret
    all_goals exact ⟨by rw [H0.out]; rfl, Below.refl _ _⟩
  case pos =>
    obtain ⟨a1, a2, a3, a4⟩ := hr
    obtain ⟨N, rfl⟩ : ∃ N : Nat, n = (N : Int) := ⟨n.toNat, by omega⟩
    obtain ⟨j, rfl⟩ : ∃ j : Nat, i = (j : Int) := ⟨i.toNat, by omega⟩
    have h0 : depthZ N j = cntP (walkN N j) := by
      unfold depthZ
      rw [if_pos (by simp [rightB]; omega)]
      simp
    generalize hd : depthZ N j = D at *
    have c1 : ¬ (N : Int) < 1 := by omega
    have c2 : ¬ (1024 : Int) < N := by omega
    have c3 : ¬ (j : Int) < 0 := by omega
    have c4 : ¬ (N : Int) ≤ j := by omega
    have H0 := Lib.hid h0
    clear h0 hd
    go_enter Tryd.func23, Tryd.ntmps23
    go_wp2
    go_loop [0, 1, 5] (RDepthI D) (fun nv _ _ => (intOf nv).toNat)
    case atStart => exact ⟨N, j, 0, rfl, rfl, rfl, by omega, by omega, by omega, by rw [H0.out]; omega, by omega⟩
    case round =>
      obtain ⟨a, b, c, rfl, rfl, rfl, hb, ha, hc, hD, hca⟩ := hrel
      clear c1 c2 c3 c4 a1 a2 a3 a4
      by_cases hlt : 1 < a
      · have t1 : (1 : Int) < a := by omega
        have hstep := walkN_step (i := b) hlt ha
        rw [hstep, cntP_cons] at hD
        have hbz : besideZ a b = if b % 2 = 1 then (b : Int) - 1 else if b + 1 < a then (b : Int) + 1 else -1 := rfl
        dsimp only at hD
        rw [hbz] at hD
        have g1 : ((a : Int) + 1) / 2 = (((a + 1) / 2 : Nat) : Int) := by simp
        have g2 : (b : Int) / 2 = ((b / 2 : Nat) : Int) := by simp
        by_cases h2 : b % 2 = 1
        · rw [if_pos h2, if_pos (by omega)] at hD
          have t2 : (b : Int) % 2 = 1 := by omega
          have HD := Lib.hid hD
          clear hD hstep hbz g1 g2
          go_wp2
          exact ⟨⟨(a + 1) / 2, b / 2, c + 1, by simp, by simp, by simp, by omega, by omega, by omega, by have := HD.out; omega, by omega⟩, by simp [intOf]; omega⟩
        · rw [if_neg h2] at hD
          have t2 : (b : Int) % 2 = 0 := by omega
          by_cases h3 : b + 1 < a
          · rw [if_pos h3, if_pos (by omega)] at hD
            have t3 : (b : Int) + 1 < a := by omega
            have HD := Lib.hid hD
            clear hD hstep hbz g1 g2
            go_wp2
            exact ⟨⟨(a + 1) / 2, b / 2, c + 1, by simp, by simp, by simp, by omega, by omega, by omega, by have := HD.out; omega, by omega⟩, by simp [intOf]; omega⟩
          · rw [if_neg h3, if_neg (by omega)] at hD
            have t3 : ¬ (b : Int) + 1 < a := by omega
            have HD := Lib.hid hD
            clear hD hstep hbz g1 g2
            go_wp2
            exact ⟨⟨(a + 1) / 2, b / 2, c, by simp, by simp, by simp, by omega, by omega, by omega, by have := HD.out; omega, by omega⟩, by simp [intOf]; omega⟩
      · have t1 : ¬ (1 : Int) < a := by omega
        rw [walkN_end (by omega)] at hD
        have HD := Lib.hid hD
        clear hD
        go_wp2
        go_ret
        exact ⟨by rw [HD.out]; rfl, Below.refl _ _⟩

end Go.Proofs.YtnilkdfhnmkekaaDoor

/- The walks of merkle.beside, right, places. Conditions: a place in a row. -/
import Derived.Test.YtnomekfemadpeaaDoorMrkPlaces
namespace Go.Proofs.YtnomekfemadpeaaDoor
open Go.RowKit Go.Shelf
set_option linter.unusedVariables false
set_option linter.unusedSimpArgs false

/-- The place beside one in a row of so many. -/
def besideZ (n i : Nat) : Int := if i % 2 = 1 then (i : Int) - 1 else if i + 1 < n then (i : Int) + 1 else -1

def rightB (n i : Int) : Bool := decide (n ≥ 1 ∧ n ≤ 1024 ∧ i ≥ 0 ∧ i < n)

theorem xor_ones : (List.range 1024).all (fun i => bits .xor .i64 ((i : Nat) : Int) 1 == if i % 2 = 1 then (i : Int) - 1 else (i : Int) + 1) = true := by decide +kernel
theorem xor_one (i : Nat) (h : i < 1024) : bits .xor .i64 (i : Int) 1 = if i % 2 = 1 then (i : Int) - 1 else (i : Int) + 1 := by
  have := List.all_eq_true.1 xor_ones i (List.mem_range.2 h)
  simpa using this

set_option maxRecDepth 100000 in
set_option maxHeartbeats 800000 in
theorem beside_any (n i : Nat) (w : World) (hi : i < n) (hn : n ≤ 1024) :
    Calls Tryd.prog 73 #[.int .i64 (n : Int), .int .i64 (i : Int)] w fun e w' => e = .returned (.int .i64 (besideZ n i)) ∧ w' = w := by
  have hx := xor_one i (by omega)
  unfold besideZ
  by_cases h1 : i % 2 = 1
  · rw [if_pos h1] at hx ⊢
    have hlt : (i : Int) - 1 < (n : Int) := by omega
    go_enter Tryd.func73, Tryd.ntmps73
    go_wp2
    go_ret
    exact ⟨rfl, rfl⟩
  · rw [if_neg h1] at hx ⊢
    by_cases h2 : i + 1 < n
    · rw [if_pos h2]
      have hlt : (i : Int) + 1 < (n : Int) := by omega
      go_enter Tryd.func73, Tryd.ntmps73
      go_wp2
      go_ret
      exact ⟨rfl, rfl⟩
    · rw [if_neg h2]
      have hlt : ¬ ((i : Int) + 1 < (n : Int)) := by omega
      go_enter Tryd.func73, Tryd.ntmps73
      go_wp2
      go_ret
      exact ⟨rfl, rfl⟩

set_option maxRecDepth 100000 in
set_option maxHeartbeats 800000 in
theorem right_any (n i : Int) (w : World) :
    Calls Tryd.prog 70 #[.int .i64 n, .int .i64 i] w fun e w' => e = .returned (.bool (rightB n i)) ∧ w' = w := by
  unfold rightB
  by_cases h1 : n ≥ 1 <;> by_cases h2 : n ≤ 1024 <;> by_cases h3 : i ≥ 0 <;> by_cases h4 : i < n
  all_goals
    go_enter Tryd.func70, Tryd.ntmps70
    go_wp2
    go_ret
    try exact ⟨by simp [h1, h2, h3, h4], rfl⟩

set_option maxRecDepth 100000 in
set_option maxHeartbeats 800000 in
theorem places_any (n i : Int) (w : World) :
    Calls Tryd.prog 72 #[.int .i64 n, .int .i64 i] w fun e w' => e = .returned (.func (.func 92) #[] #[.pointer (some ⟨w.heap.size, 0, none⟩), .pointer (some ⟨w.heap.size + 1, 0, none⟩)]) ∧
      w' = (w.alloc (.cells #[.int .i64 n] 3)).alloc (.cells #[.int .i64 i] 3) := by
  go_enter Tryd.func72, Tryd.ntmps72
  go_wp2
  go_ret
  exact ⟨rfl, rfl⟩

end Go.Proofs.YtnomekfemadpeaaDoor

/- The walk of the document's answer's New. No condition. -/
import Derived.Test.YtnohglkilpnjhaaTrRSt
namespace Go.Proofs.Ytnohglkilpnjhaa
open Go.RowKit
set_option linter.unusedVariables false
set_option linter.unusedSimpArgs false
set_option maxRecDepth 100000

theorem build_rtab (a b : Int) (W : World) : (Instr.build 57 #[(0, .int .i64 a), (1, .int .i64 b)]).run Try.prog W = .ok (.agg #[.int .i64 a, .int .i64 b, .slice none 0 0]) W := by kernel_rfl
/-- A new table. -/
theorem rtabP_new (w : World) (a b : Int) : RTabP (w.alloc (.cells #[.int .i64 a, .int .i64 b, .slice none 0 0] 57)) w.heap.size a b w.heap.size (.slice none 0 0) [] [] :=
  ⟨heap_alloc_new w _, Nat.le_refl _, RecT.Own.nil _ _, rfl, fun i x y hx => by simp at hx⟩
set_option maxHeartbeats 800000 in
theorem RNew_ok (a b : Int) (w : World) (h : newOk a b = true) : Calls Try.prog 15 #[.int .i64 a, .int .i64 b] w fun e w' => ∃ r, e = .returned (.tuple #[.pointer (some ⟨r, 0, none⟩), .int .i64 0]) ∧ RTabP w' r a b w.heap.size (.slice none 0 0) [] [] ∧ Below w.heap.size w w' := by
  obtain ⟨h1, h2⟩ := newOk_iff.1 h
  have hb := build_rtab a b
  have t1 : ¬ a < 1 := by omega
  have t2 : ¬ (1000 : Int) < a := by omega
  have t3 : ¬ b < 1 := by omega
  have t4 : ¬ (64 : Int) < b := by omega
  have HN := Lib.hid (rtabP_new w a b)
  have HB := Lib.hid ((Below.refl w.heap.size w).alloc (Nat.le_refl _) (.cells #[.int .i64 a, .int .i64 b, .slice none 0 0] 57))
  clear h h1 h2
  go_enter Try.func15, Try.ntmps15
  go_wp2
  go_ret2
  exact ⟨_, rfl, HN.out, HB.out⟩
set_option maxHeartbeats 800000 in
theorem RNew_bad (a b : Int) (w : World) (h : newOk a b = false) : Calls Try.prog 15 #[.int .i64 a, .int .i64 b] w fun e w' => e = .returned (.tuple #[.pointer none, .int .i64 1]) ∧ w' = w := by
  have hor : a < 1 ∨ (¬ a < 1 ∧ 1000 < a) ∨ (¬ a < 1 ∧ ¬ 1000 < a ∧ b < 1) ∨ (¬ a < 1 ∧ ¬ 1000 < a ∧ ¬ b < 1 ∧ 64 < b) := by
    have hn : ¬ ((1 ≤ a ∧ a ≤ 1000) ∧ (1 ≤ b ∧ b ≤ 64)) := fun q => by rw [newOk_iff.2 q] at h; cases h
    omega
  clear h
  rcases hor with h1 | ⟨h1, h2⟩ | ⟨h1, h2, h3⟩ | ⟨h1, h2, h3, h4⟩
  all_goals
    go_enter Try.func15, Try.ntmps15
    go_wp2
    go_ret2
    exact ⟨rfl, rfl⟩

end Go.Proofs.Ytnohglkilpnjhaa

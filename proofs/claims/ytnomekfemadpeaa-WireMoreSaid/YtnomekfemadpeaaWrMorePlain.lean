/- A message with something that its kind has not may not be; in plain Lean. No condition. -/
import Derived.Test.YtnomekfemadpeaaWrApartPlain
namespace Go.Proofs.Ytnomekfemadpeaa
set_option linter.unusedVariables false
set_option linter.unusedSimpArgs false

theorem not_right {m : MsgL} {i : Int} (h1 : 1 ≤ i) (h2 : i ≤ 8) (h : itemB m i = false) : rightB m = false := by
  rcases hr : rightB m with _ | _
  · rfl
  · rw [item_of hr h1 h2] at h; cases h
theorem more_kind {m : MsgL} {k : Int} (h : k = 0 ∨ k = 12) : rightB { m with kind := k } = false :=
  not_right (i := 1) (by omega) (by omega) (by unfold itemB; dsimp only; rw [hasL_none (by omega)]; rfl)
/-- Which kinds have an item. -/
theorem has3 (k : Int) : 3 ∈ hasL k ↔ k = 4 ∨ k = 2 ∨ k = 3 ∨ k = 5 := by
  rcases kinds k with h | h | h | h | h | h | h | h | h | h | h | h
  case inr.inr.inr.inr.inr.inr.inr.inr.inr.inr.inr => rw [hasL_none h]; simp; omega
  all_goals (subst h; simp [hasL])
theorem has4 (k : Int) : 4 ∈ hasL k ↔ k = 7 := by
  rcases kinds k with h | h | h | h | h | h | h | h | h | h | h | h
  case inr.inr.inr.inr.inr.inr.inr.inr.inr.inr.inr => rw [hasL_none h]; simp; omega
  all_goals (subst h; simp [hasL])
theorem has5 (k : Int) : 5 ∈ hasL k ↔ k = 1 ∨ k = 4 ∨ k = 10 := by
  rcases kinds k with h | h | h | h | h | h | h | h | h | h | h | h
  case inr.inr.inr.inr.inr.inr.inr.inr.inr.inr.inr => rw [hasL_none h]; simp; omega
  all_goals (subst h; simp [hasL])
theorem has7 (k : Int) : 7 ∈ hasL k ↔ k = 8 := by
  rcases kinds k with h | h | h | h | h | h | h | h | h | h | h | h
  case inr.inr.inr.inr.inr.inr.inr.inr.inr.inr.inr => rw [hasL_none h]; simp; omega
  all_goals (subst h; simp [hasL])
theorem more_piece1 {m : MsgL} (h : m.kind = 4 ∨ m.kind = 2 ∨ m.kind = 3 ∨ m.kind = 5) : rightB { m with piece := 1024 } = false :=
  not_right (i := 3) (by omega) (by omega) (by unfold itemB; dsimp only; rw [if_pos ((has3 _).2 h)]; simp [fitsB, withinB])
theorem more_piece2 {m : MsgL} (h : ¬ (m.kind = 4 ∨ m.kind = 2 ∨ m.kind = 3 ∨ m.kind = 5)) : rightB { m with piece := 1 } = false :=
  not_right (i := 3) (by omega) (by omega) (by unfold itemB; dsimp only; rw [if_neg (fun e => h ((has3 _).1 e))]; simp [bareB])
theorem more_ids1 {m : MsgL} (h : m.kind = 7) : rightB { m with ids := [0] } = false :=
  not_right (i := 4) (by omega) (by omega) (by unfold itemB; dsimp only; rw [if_pos ((has4 _).2 h)]; simp [fitsB, idB, withinB])
theorem more_ids2 {m : MsgL} (h : ¬ m.kind = 7) : rightB { m with ids := [1] } = false :=
  not_right (i := 4) (by omega) (by omega) (by unfold itemB; dsimp only; rw [if_neg (fun e => h ((has4 _).1 e))]; simp [bareB])
theorem more_mem1 {m : MsgL} (h : m.kind = 8) : rightB { m with members := [] } = false :=
  not_right (i := 7) (by omega) (by omega) (by unfold itemB; dsimp only; rw [if_pos ((has7 _).2 h)]; simp [fitsB, withinB])
theorem more_mem2 {m : MsgL} (h : ¬ m.kind = 8) : rightB { m with members := [⟨1, 0, 1, 0⟩] } = false :=
  not_right (i := 7) (by omega) (by omega) (by unfold itemB; dsimp only; rw [if_neg (fun e => h ((has7 _).1 e))]; simp [bareB])
theorem more_bytes1 {m : MsgL} (h : m.kind = 1 ∨ m.kind = 4 ∨ m.kind = 10) : rightB { m with bytes := [] } = false :=
  not_right (i := 5) (by omega) (by omega) (by unfold itemB; dsimp only; rw [if_pos ((has5 _).2 h)]; simp [fitsB, withinB])
theorem more_bytes2 {m : MsgL} (h : ¬ (m.kind = 1 ∨ m.kind = 4 ∨ m.kind = 10)) : rightB { m with bytes := [1] } = false :=
  not_right (i := 5) (by omega) (by omega) (by unfold itemB; dsimp only; rw [if_neg (fun e => h ((has5 _).1 e))]; simp [bareB])

end Go.Proofs.Ytnomekfemadpeaa

/- The steps of the laws on tables (starlinglaw11.Step), as values. No condition. -/
import Derived.Test.YtnohglkilpnjhaaGb
namespace Go.Proofs.Ytnohglkilpnjhaa
open Go.RowKit
set_option linter.unusedVariables false
set_option linter.unusedSimpArgs false
set_option maxRecDepth 100000

structure StepL where
  act : Int
  dig : List UInt8
  id : Int
  now : Int
  life : Int
  seed : Bool
def StepL.cells (x : StepL) : List Value := .int .i64 x.act :: (x.dig.map B8 ++ [.int .i64 x.id, .int .i64 x.now, .int .i64 x.life, .bool x.seed])
def StepL.ok (x : StepL) : Prop := x.dig.length = 32 ∧ inI64 x.act ∧ inI64 x.id ∧ inI64 x.now ∧ inI64 x.life
def StepL.zero : StepL := ⟨0, dig0, 0, 0, 0, false⟩
theorem inI64_zero : inI64 0 := ⟨by decide, by decide⟩

def RStep : RecT 40 StepL where
  n := 37
  bytes := 72
  zero := StepL.zero
  cells := StepL.cells
  ok := StepL.ok
  pos := by decide
  small := by decide
  few := by decide
  zok := ⟨rfl, inI64_zero, inI64_zero, inI64_zero, inI64_zero⟩
  len := fun {x} h => by simp [StepL.cells, h.1]
  one := fun {x} h v hv => by
    unfold StepL.cells at hv
    rcases List.mem_cons.1 hv with rfl | hv
    · rfl
    · rcases List.mem_append.1 hv with hv | hv
      · obtain ⟨b, _, rfl⟩ := List.mem_map.1 hv
        rfl
      · simp at hv
        rcases hv with rfl | rfl | rfl | rfl <;> rfl
  agg := ⟨_, Try.underlying40, rfl⟩
  info := by kernel_rfl
section
variable {w : World} {g off : Nat} {x : StepL}
theorem RStep_tail {x : StepL} (h : x.dig.length = 32) (j : Nat) : x.cells[33 + j]? = [Value.int .i64 x.id, .int .i64 x.now, .int .i64 x.life, .bool x.seed][j]? := by
  unfold StepL.cells
  rw [show 33 + j = (32 + j) + 1 by omega, List.getElem?_cons_succ, List.getElem?_append_right (by simp [h]), List.length_map, h]
  congr 1; omega
theorem RStep_do (h : RStep.At w g off x) : w.cell? ⟨g, off, none⟩ = some (.int .i64 x.act) := h.2.2 0 (by decide)
theorem RStep_dig (h : RStep.At w g off x) : DigAt w g (off + 1) x.dig := ⟨h.1.1, fun j hj => by
  have := h.2.2 (1 + j) (by show 1 + j < 37; omega)
  rw [← Nat.add_assoc] at this
  rw [this]
  show x.cells[1 + j]? = _
  unfold StepL.cells
  rw [Nat.add_comm 1 j, List.getElem?_cons_succ, List.getElem?_append_left (by simp [h.1.1]; omega)]⟩
theorem RStep_id (h : RStep.At w g off x) : w.cell? ⟨g, off + 33, none⟩ = some (.int .i64 x.id) := (h.2.2 33 (by decide)).trans (RStep_tail h.1.1 0)
theorem RStep_now (h : RStep.At w g off x) : w.cell? ⟨g, off + 34, none⟩ = some (.int .i64 x.now) := (h.2.2 34 (by decide)).trans (RStep_tail h.1.1 1)
theorem RStep_life (h : RStep.At w g off x) : w.cell? ⟨g, off + 35, none⟩ = some (.int .i64 x.life) := (h.2.2 35 (by decide)).trans (RStep_tail h.1.1 2)
theorem RStep_seed (h : RStep.At w g off x) : w.cell? ⟨g, off + 36, none⟩ = some (.bool x.seed) := (h.2.2 36 (by decide)).trans (RStep_tail h.1.1 3)
end
theorem RStepO_do {w g x} (h : RStep.O w g x) : w.cell? ⟨g, 0, none⟩ = some (.int .i64 x.act) := RStep_do h.at_
theorem RStepO_id {w g x} (h : RStep.O w g x) : w.cell? ⟨g, 33, none⟩ = some (.int .i64 x.id) := RStep_id h.at_
theorem RStepO_now {w g x} (h : RStep.O w g x) : w.cell? ⟨g, 34, none⟩ = some (.int .i64 x.now) := RStep_now h.at_
theorem RStepO_life {w g x} (h : RStep.O w g x) : w.cell? ⟨g, 35, none⟩ = some (.int .i64 x.life) := RStep_life h.at_
theorem RStepO_seed {w g x} (h : RStep.O w g x) : w.cell? ⟨g, 36, none⟩ = some (.bool x.seed) := RStep_seed h.at_
theorem RStepO_dig {w g x} (h : RStep.O w g x) : DigAt w g 1 x.dig := RStep_dig h.at_

end Go.Proofs.Ytnohglkilpnjhaa

/- A guarded operation that is met, at the head of a list of operations. No condition. -/
import Derived.Test.YtjmjaailmlnkjaaDoorGa
namespace Go.Proofs.YtjmjaailmlnkjaaDoor
open Go.RowKit
set_option linter.unusedVariables false

/-- A guarded operation that is met, at the head of a list. -/
theorem wpList_met {P : Program} {ops : Array Oper} {rest : List Oper} {o : Oper} {a : Act} {w : World} {Q : Exit → Act → World → Prop} (hw : Region.wanted o (yielded ops a.tmps) = true)
    (h : ∀ K : Act → World → Prop, (∀ a w, wpList P ops Q rest a w → K a w) → o.wp P a w K Q) : wpList P ops Q (o :: rest) a w :=
  wpList_step fun K hK => by rw [if_pos hw]; exact h K hK

end Go.Proofs.YtjmjaailmlnkjaaDoor

/- '==' of structs, field by field: a general law. No condition. -/
import Derived.Test.YtnohglkilpnjhaaBase
import Derived.Laws.StructEq
namespace Go.Proofs.Ytnohglkilpnjhaa
open Go.RowKit
set_option linter.unusedVariables false

theorem eqFields_all {P : Program} {w : World} {d : Nat} {xs ys : Array Value} (g : Nat → Bool) : ∀ fs : List Field,
    (∀ f ∈ fs, f.name ≠ "_" ∧ ∃ a b, (part f.type xs f.offset).run P w = .ok a w ∧ (part f.type ys f.offset).run P w = .ok b w ∧ (Op.equalIn d f.type a b).run P w = .ok (g f.offset) w) →
    (Op.eqFields d xs ys fs).run P w = .ok (fs.all fun f => g f.offset) w
  | [], _ => by simp [Op.eqFields, Sem.run_pure]
  | f :: fs, h => by
    obtain ⟨hn, a, b, h1, h2, h3⟩ := h f (.head _)
    have ih := eqFields_all g fs (fun f' hf => h f' (.tail _ hf))
    simp only [Op.eqFields, hn, ne_eq, not_false_eq_true, if_true, Sem.run_bind, h1, h2, h3, Result.andThen_ok, List.all_cons]
    cases g f.offset
    · simp [Sem.run_pure]
    · simpa using ih

end Go.Proofs.Ytnohglkilpnjhaa

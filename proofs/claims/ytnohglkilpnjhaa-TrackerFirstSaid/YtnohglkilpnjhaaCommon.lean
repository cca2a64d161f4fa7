/- Words and laws that the walks of several chapters use: a block of one cell, the worlds that have grown out of one, an operation that calls or that yields a value. No condition. -/
import Derived.Test.YtnohglkilpnjhaaBase
import Derived.Test.YtnohglkilpnjhaaProg
import Derived.Test.YtnohglkilpnjhaaRegion
import Derived.OneCell
namespace Go.Proofs.Ytnohglkilpnjhaa
open Go.RowKit
set_option linter.unusedVariables false
set_option linter.unusedSimpArgs false

theorem infoU8 : (Try.prog.info? 5).map (fun i => (i.zero, i.size, i.bytes)) = some (some (.int .u8 0), 1, 1) := by kernel_rfl
/-- A slice value's length, as a measure. -/
def lenV : Value → Nat
  | .slice _ n _ => n
  | _ => 0

/-- The worlds that have grown out of one. -/
def Grew (W w : World) : Prop := Below W.heap.size W w
theorem Grew.start (W : World) : Grew W { W with drawn := W.drawn + 1 } := (Below.refl _ _).drew

/-- A block of one cell (a captured variable): what it holds. -/
def One (w : World) (b : Nat) (v : Value) (t : TypeId) : Prop := w.heap[b]? = some (.cells #[v] t (0, 0))
theorem One.cell {w : World} {b : Nat} {v : Value} {t : TypeId} (h : One w b v t) : w.cell? ⟨b, 0, none⟩ = some v := cell_of_one h
theorem One.free {w : World} {b : Nat} {v : Value} {t : TypeId} (h : One w b v t) : w.frozen? ⟨b, 0, none⟩ = false := free_of_one h
theorem One.lt {w : World} {b : Nat} {v : Value} {t : TypeId} (h : One w b v t) : b < w.heap.size := lt_of_block h
theorem One.set {w : World} {b : Nat} {v : Value} {t : TypeId} (h : One w b v t) (u : Value) : One (w.setCell ⟨b, 0, none⟩ u) b u t := one_setCell h
theorem One.of_block {w w' : World} {b : Nat} {v : Value} {t : TypeId} (h : One w b v t) (e : w'.heap[b]? = w.heap[b]?) : One w' b v t := e.trans h
theorem One.of_new {w w' : World} {b : Nat} {v : Value} {t : TypeId} (h : One w b v t) (hb : Below w.heap.size w w') : One w' b v t := h.of_block (hb.block _ h.lt)
theorem One.other {w : World} {b : Nat} {v : Value} {t : TypeId} (h : One w b v t) {p : Addr} (hp : p.block ≠ b) (u : Value) : One (w.setCell p u) b v t := h.of_block (Below.heap_setCell _ _ _ _ (Ne.symm hp))
theorem One.grown {w w' : World} {b : Nat} {v : Value} {t : TypeId} {row : Option Nat} (h : One w b v t) (hg : w.grownBy w' row) (hr : some b ≠ row) : One w' b v t := h.of_block (hg.block _ h.lt hr)
theorem below_next' {B : Nat} {w w1 w2 : World} (h : Below B w w1) (h2 : Below w1.heap.size w1 w2) (hB : B ≤ w1.heap.size := by omega) : Below B w w2 := h.trans (h2.mono hB)

theorem wp_enter {P : Program} {o : Oper} {a : Act} {w : World} {K : Act → World → Prop} {Q : Exit → Act → World → Prop} {f : FuncId} {args : Array Value} {R : Ending → World → Prop} (h : (execOp a.eval o).run P w = .ok (.enter f args) w) (hc : Calls P f args w R)
    (hR : ∀ e w', R e w' → ∃ v, e = .returned v ∧ K (a.put o.dst v) w') : o.wp P a w K Q := by
  unfold Oper.wp
  rw [h]
  refine hc.mono fun e w' he => ?_
  obtain ⟨v, rfl, hK⟩ := hR e w' he
  exact hK
theorem wp_val {P : Program} {o : Oper} {a : Act} {w : World} {K : Act → World → Prop} {Q : Exit → Act → World → Prop} {v : Value} (h : (execOp a.eval o).run P w = .ok (.value v) w) (hK : K (a.put o.dst v) w) : o.wp P a w K Q := by
  unfold Oper.wp
  rw [h]
  exact hK

end Go.Proofs.Ytnohglkilpnjhaa

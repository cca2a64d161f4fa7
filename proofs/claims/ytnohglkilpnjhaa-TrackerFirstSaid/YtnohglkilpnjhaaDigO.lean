/- A block that holds a whole hash: laid as nothing, stored, handed back. No condition. -/
import Derived.Test.YtnohglkilpnjhaaAtIn
namespace Go.Proofs.Ytnohglkilpnjhaa
open Go.RowKit
set_option linter.unusedVariables false
set_option linter.unusedSimpArgs false
set_option maxRecDepth 100000

def dig0 : List UInt8 := List.replicate 32 0
/-- The block g holds the hash d. -/
def DigO (w : World) (g : Nat) (d : List UInt8) : Prop := Octs w g 30 d ∧ d.length = 32
theorem DigO.lt {w : World} {g : Nat} {d : List UInt8} (h : DigO w g d) : g < w.heap.size := (Array.getElem?_eq_some_iff.1 h.1).1
theorem DigO.of_block {w w' : World} {g : Nat} {d : List UInt8} (h : DigO w g d) (e : w'.heap[g]? = w.heap[g]?) : DigO w' g d := ⟨h.1.of_block e, h.2⟩
theorem DigO.of_new {w w' : World} {g : Nat} {d : List UInt8} (h : DigO w g d) (hb : Below w.heap.size w w') : DigO w' g d := h.of_block (hb.block _ h.lt)
theorem DigO.at_ {w : World} {g : Nat} {d : List UInt8} (h : DigO w g d) : DigAt w g 0 d := h.1.digAt h.2
theorem DigO.cell {w : World} {g : Nat} {d : List UInt8} (h : DigO w g d) {j : Nat} (hj : j < 32) : w.cell? ⟨g, j, none⟩ = some (B8 (d.getD j 0)) := h.1.cell (by rw [h.2]; exact hj)
theorem DigO.free {w : World} {g : Nat} {d : List UInt8} (h : DigO w g d) (j : Nat) : w.frozen? ⟨g, j, none⟩ = false := h.1.free j
theorem DigO.set {w : World} {g : Nat} {d : List UInt8} (h : DigO w g d) (j : Nat) (x : UInt8) : DigO (w.setCell ⟨g, j, none⟩ (B8 x)) g (d.set j x) := ⟨h.1.set j x, by simp [h.2]⟩
theorem dig_zero (w : World) : (zeroValue 30).run Try.prog w = .ok (.agg (dig0.map B8).toArray) w := by kernel_rfl
theorem digO_new (w : World) {d : List UInt8} (h : d.length = 32) : DigO (w.alloc (.cells (d.map B8).toArray 30)) w.heap.size d := ⟨heap_alloc_new w _, h⟩
theorem wp_alloc_dig {w : World} {o : Oper} {a : Act} {K : Act → World → Prop} {Q : Exit → Act → World → Prop} (ho : o.op = .alloc 30)
    (h : ∀ w', DigO w' w.heap.size dig0 → Below w.heap.size w w' → w'.heap.size = w.heap.size + 1 → K (a.put o.dst (.pointer (some ⟨w.heap.size, 0, none⟩))) w') : o.wp Try.prog a w K Q := by
  unfold Oper.wp execOp
  have := h _ (digO_new w (d := dig0) rfl) ((Below.refl _ w).alloc (Nat.le_refl _) _) (by simp)
  have hz := dig_zero w
  simp only [ho, Instr.alloc, Sem.run_bind, hz, Result.andThen_ok, Sem.run_pure, newVar, newRow]
  exact this
theorem wp_store_digO {w : World} {op : Oper} {a : Act} {K : Act → World → Prop} {Q : Exit → Act → World → Prop} (p q : Operand) (g : Nat) (d d0 : List UInt8) (ho : op.op = .store 30 p q)
    (hp : a.eval p = .pointer (some ⟨g, 0, none⟩)) (hq : a.eval q = .agg (d.map B8).toArray) (hd : d.length = 32) (hg : DigO w g d0)
    (h : ∀ w', DigO w' g d → w.grownBy w' (some g) → w'.heap.size = w.heap.size → K (a.put op.dst undef) w') : op.wp Try.prog a w K Q := by
  have hrun := run_storeVar_row (P := Try.prog) w g 30 30 _ (d.map B8).toArray hg.1 (by rw [info_dig]; simp [hd]) (by simp [hd, hg.2]) (octs_one d)
  unfold Oper.wp execOp
  simp only [ho, hp, hq, Instr.storeAt, Instr.sureAddr, Sem.run_bind, Sem.run_pure, Result.andThen_ok, hrun]
  exact h _ ⟨setRow_heap _ _ _ _ _ _ hg.1, hd⟩ ⟨rfl, rfl, rfl, by simp [World.setRow], fun k hk hne => Go.setRow_other w g k _ (fun e => hne (by rw [e]))⟩ (by simp [World.setRow])
theorem run_load_digO {w : World} {g : Nat} {d : List UInt8} (h : DigO w g d) : (loadVar 30 ⟨g, 0, none⟩).run Try.prog w = .ok (.agg (d.map B8).toArray) w :=
  run_loadVar_row (P := Try.prog) w g 30 30 (d.map B8).toArray (0, 0) _ h.1 Try.underlying30 rfl (by rw [info_dig]; simp [h.2])
theorem results_dig {fn : Func} {p : Tmp} (h : fn.results = #[.cell p 30]) (tmps : Array Value) {w : World} {b : Nat} {d : List UInt8} (hp : tmps.getD p undef = .pointer (some ⟨b, 0, none⟩))
    (hx : DigO w b d) : (results fn tmps).run Try.prog w = .ok (.agg (d.map B8).toArray) w := results_cell h tmps hp (run_load_digO hx)
theorem results_dig_tmp {fn : Func} {p q : Tmp} (h : fn.results = #[.cell p 30, .tmp q]) (tmps : Array Value) {w : World} {b : Nat} {d : List UInt8} {u : Value} (hp : tmps.getD p undef = .pointer (some ⟨b, 0, none⟩)) (hq : tmps.getD q undef = u)
    (hx : DigO w b d) : (results fn tmps).run Try.prog w = .ok (.tuple #[.agg (d.map B8).toArray, u]) w := by
  have hp' : tmps[p]?.getD undef = .pointer (some ⟨b, 0, none⟩) := by simpa using hp
  have hq' : tmps[q]?.getD undef = u := by simpa using hq
  simp [results, h, hp', hq', asAddr, run_load_digO hx]
/-- A hash filled place by place. -/
def filled (l : List UInt8) (k : Nat) : List UInt8 := l.take k ++ List.replicate (32 - k) 0
theorem filled_zero (l : List UInt8) : filled l 0 = dig0 := by simp [filled, dig0]
theorem filled_len {l : List UInt8} (h : l.length = 32) {k : Nat} (hk : k ≤ 32) : (filled l k).length = 32 := by simp [filled]; omega
theorem filled_all {l : List UInt8} (h : l.length = 32) : filled l 32 = l := by simp [filled, ← h]
theorem filled_step {l : List UInt8} (h : l.length = 32) {k : Nat} (hk : k < 32) : (filled l k).set k (l.getD k 0) = filled l (k + 1) := by
  unfold filled
  rw [List.set_append_right _ _ (by simp; omega), show k - (l.take k).length = 0 by simp; omega, show 32 - k = (32 - (k + 1)) + 1 by omega, List.replicate_succ, List.set_cons_zero, List.take_add_one, List.getElem?_eq_getElem (by omega), List.append_assoc]
  simp [List.getD, List.getElem?_eq_getElem (show k < l.length by omega)]

end Go.Proofs.Ytnohglkilpnjhaa

/- From the reading of a law's argument to what the walks ask of it: slices of hashes, pairs of hashes, pairs of numbers. No condition. -/
import Derived.Test.YtnohglkilpnjhaaLawCard
import Derived.Test.YtnohglkilpnjhaaGa
namespace Go.Proofs.Ytnohglkilpnjhaa
open Go.ChangeShapes Go.WideShapes Go.ChangeAt Go.RowKit Go.Deep
set_option linter.unusedVariables false
set_option linter.unusedSectionVars false

section
variable {H : Type} {enc : TypeId × Value → H} {P : Program} {W : World} {base : Nat} {spare : Nat → Bool} {held : Bool}

theorem flatD_getElem {l : List (List UInt8)} (h : Dig32 l) {j : Nat} (hj : j < l.length * 32) : (flatD l)[j]? = ((l.getD (j / 32) []).map B8)[j % 32]? := by
  have := flatD_at h (i := j / 32) (j := j % 32) (by omega) (by omega)
  rwa [show j / 32 * 32 + j % 32 = j by omega] at this

theorem open_digests {t e f : TypeId} {v : Value} {d : DataW H} {p : List MemPlace} (ht : P.underlying t = some (.slice e)) (he : P.underlying e = some (.array 32 f)) (hf : P.underlying f = some (.int .u8)) (hce : P.cellsOf e = 32) (hcf : P.cellsOf f = 1)
    (hv : Value.okWide P W .any base t v) (h : DataW.Trod enc P W 0 spare held t v d p) : ∃ l, Digs W v l := by
  obtain ⟨a0, len0, cap0, rfl⟩ := okWide_slice ht hv
  obtain ⟨fuel, hfu⟩ := h
  rcases open_slice ht hfu with ⟨hcs, _⟩ | ⟨a, len, cap, m, n, D, Pl, hcs, _, hl, hm, hmm, _, hx⟩
  · simp [Value.cells] at hcs
    obtain ⟨rfl, rfl, rfl⟩ := hcs
    exact ⟨[], fun _ h => by simp at h, Row.of_nil 32⟩
  · simp [Value.cells] at hcs
    obtain ⟨rfl, rfl, rfl⟩ := hcs
    have hlm : len0 ≤ m := by rw [hmm]; split <;> omega
    have one : ∀ i, i < len0 → ∃ y : List UInt8, y.length = 32 ∧ ∀ j, j < 32 → W.cell? ((a.add (i * 32)).add j) = (y.map B8)[j]? := by
      intro i hi
      obtain ⟨cs', hc, ht'⟩ := hx i (by omega)
      rw [hce] at hc
      obtain ⟨_, hcl, hat⟩ := World.cells?_some hc
      obtain ⟨l, rfl, hb⟩ := octs_of_trod he hf hcf hce ht'
      refine ⟨l, hb, fun j hj => ?_⟩
      have := hat j hj
      simpa using this
    obtain ⟨Y, hY⟩ := choose_lt (n := len0) (p := fun i (y : List UInt8) => y.length = 32 ∧ ∀ j, j < 32 → W.cell? ((a.add (i * 32)).add j) = (y.map B8)[j]?) one
    have h32 : Dig32 ((List.range len0).map Y) := fun d hd => by
      obtain ⟨i, hi, rfl⟩ := List.mem_map.1 hd
      exact (hY i (List.mem_range.1 hi)).1
    have hlen : ((List.range len0).map Y).length = len0 := by simp
    refine ⟨(List.range len0).map Y, h32, by rw [flatD_len h32], some a, cap0, by rw [hlen], by rw [hlen]; exact hl, hm, (fun h => by cases h), fun h0 => ?_⟩
    rw [hlen] at h0 ⊢
    have h0' : 0 < len0 := by omega
    have c0 := (hY 0 h0').2 0 (by omega)
    have e0 : (a.add (0 * 32)).add 0 = a := rfl
    rw [e0, List.getElem?_eq_getElem (by simp [(hY 0 h0').1])] at c0
    obtain ⟨b, off, rfl⟩ := addr_none c0
    refine ⟨b, off, rfl, World.block_lt_of_cell? _ _ c0, fun j hj => ?_⟩
    have h2 := (hY (j / 32) (by omega)).2 (j % 32) (by omega)
    rw [addr_add, addr_add, Nat.add_assoc, show j / 32 * 32 + j % 32 = j by omega] at h2
    rw [h2, flatD_getElem h32 (by rw [hlen]; exact hj)]
    simp [List.getD, show j / 32 < len0 by omega]

/-- A pair of hashes by value. -/
theorem open_two {t e f : TypeId} {v : Value} {d : DataW H} {p : List MemPlace} (ht : P.underlying t = some (.array 2 e)) (he : P.underlying e = some (.array 32 f)) (hf : P.underlying f = some (.int .u8)) (hcf : P.cellsOf f = 1) (hce : P.cellsOf e = 32) (hct : P.cellsOf t = 64)
    (hv : Value.okWide P W .any base t v) (h : DataW.Trod enc P W 0 spare held t v d p) : ∃ l m : List UInt8, v = .agg ((l ++ m).map B8).toArray ∧ l.length = 32 ∧ m.length = 32 := by
  simp only [Value.okWide, ht] at hv
  obtain ⟨cs, rfl, _, _⟩ := hv
  obtain ⟨fuel, hfu⟩ := h
  obtain ⟨xs, m, h1, h2, hl, hxl, hx⟩ := DataW.trod_array ht hfu
  have a0 := hx 0 (by omega)
  have a1 := hx 1 (by omega)
  rw [List.getElem?_eq_getElem (by omega)] at a0 a1
  obtain ⟨l0, e0, n0⟩ := octs_of_trod he hf hcf hce a0
  obtain ⟨l1, e1, n1⟩ := octs_of_trod he hf hcf hce a1
  refine ⟨l0, l1, ?_, n0, n1⟩
  rw [hce] at e0 e1
  simp only [Value.cells] at e0 e1 hl
  congr 1
  rw [← Array.toArray_toList (xs := cs), List.map_append, ← e0, ← e1]
  congr 1
  simp only [Nat.zero_mul, List.drop_zero, Nat.one_mul]
  rw [List.take_of_length_le (l := cs.toList.drop 32) (by simp at hl ⊢; omega), List.take_append_drop]

/-- A pair of numbers by value. -/
theorem open_twoint {t e : TypeId} {v : Value} {d : DataW H} {p : List MemPlace} (ht : P.underlying t = some (.array 2 e)) (he : P.underlying e = some (.int .i64)) (hce : P.cellsOf e = 1) (hct : P.cellsOf t = 2)
    (hv : Value.okWide P W .any base t v) (h : DataW.Trod enc P W 0 spare held t v d p) : ∃ a b : Int, v = .agg #[.int .i64 a, .int .i64 b] ∧ (-9223372036854775808 ≤ a ∧ a ≤ 9223372036854775807) ∧ -9223372036854775808 ≤ b ∧ b ≤ 9223372036854775807 := by
  simp only [Value.okWide, ht] at hv
  obtain ⟨cs, rfl, _, _⟩ := hv
  obtain ⟨fuel, hfu⟩ := h
  obtain ⟨xs, m, h1, h2, hl, hxl, hx⟩ := DataW.trod_array ht hfu
  have a0 := hx 0 (by omega)
  have a1 := hx 1 (by omega)
  rw [List.getElem?_eq_getElem (by omega)] at a0 a1
  obtain ⟨q0, e0, _, w0⟩ := DataW.trod_int he a0
  obtain ⟨q1, e1, _, w1⟩ := DataW.trod_int he a1
  refine ⟨q0, q1, ?_, bd_i64 w0, bd_i64 w1⟩
  rw [hce] at e0 e1
  simp only [Value.cells] at e0 e1 hl
  congr 1
  rw [← Array.toArray_toList (xs := cs)]
  congr 1
  simp only [Nat.zero_mul, List.drop_zero, Nat.one_mul] at e0 e1
  rw [← List.take_append_drop 1 cs.toList, e0, ← List.take_of_length_le (i := 1) (l := cs.toList.drop 1) (by simp at hl ⊢; omega), e1]
  rfl

end
end Go.Proofs.Ytnohglkilpnjhaa

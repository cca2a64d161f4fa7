/- From the reading of a law's argument to what the walks ask of it: slices of numbers. No condition. -/
import Derived.Test.YtjmjaailmlnkjaaDoorInts
import Derived.Test.YtjmjaailmlnkjaaDoorGb
import Derived.ProofKit
import Derived.OpenShut
import Derived.ChangeOld
import Derived.Deep.Slices
import Derived.Deep.Fields
namespace Go.Proofs.YtjmjaailmlnkjaaDoor
open Go.ChangeShapes Go.WideShapes Go.ChangeAt Go.RowKit Go.Deep
set_option linter.unusedVariables false
set_option linter.unusedSectionVars false
set_option maxRecDepth 100000

section
variable {H : Type} {enc : TypeId × Value → H} {P : Program} {W : World} {base : Nat} {spare : Nat → Bool} {held : Bool}

theorem addr_none12 {w : World} {x : Addr} {u : Value} (h : w.cell? x = some u) : ∃ b off, x = ⟨b, off, none⟩ := by
  obtain ⟨b, off, s⟩ := x
  have := World.cell?_spot h
  simp only at this
  exact ⟨b, off, by rw [this]⟩
theorem addr_add12 (b off j : Nat) : (⟨b, off, none⟩ : Addr).add j = ⟨b, off + j, none⟩ := by
  unfold Addr.add; split <;> simp_all
/-- A slice of numbers. -/
theorem ints_of_trod12 {t e : TypeId} {fuel : Nat} {cs : List Value} {x : DataW H × List MemPlace} (ht : P.underlying t = some (.slice e)) (he : P.underlying e = some (.int .i64)) (hc : P.cellsOf e = 1)
    (h : DataW.trod enc P W base spare held fuel t cs = some x) : ∃ v l, cs = [v] ∧ Ints W v l ∧ ∀ n ∈ l, inI64 n := by
  rcases open_ints ht he hc h with ⟨rfl, _⟩ | ⟨a, len, cap, zs, rfl, _, hl, hm, hz, _, hcell, hwz⟩
  · exact ⟨_, [], rfl, Row.of_nil 1, fun n h => by cases h⟩
  · have hlz : len ≤ zs.length := by rw [hz]; split <;> omega
    refine ⟨_, zs.take len, rfl, ?_, fun n hn => bd_i64 (hwz n (List.mem_of_mem_take hn))⟩
    have hlen : (zs.take len).length = len := by simp; omega
    unfold Ints
    rw [hlen]
    refine ⟨by simp; omega, some a, cap, rfl, hl, hm, (fun h => by cases h), fun hne => ?_⟩
    have h0 := hcell 0 (by omega)
    have e0 : a.add 0 = a := rfl
    rw [e0] at h0
    obtain ⟨b, off, rfl⟩ := addr_none12 h0
    refine ⟨b, off, rfl, World.block_lt_of_cell? _ _ h0, fun j hj => ?_⟩
    have hj' : j < zs.length := by omega
    have := hcell j hj'
    rw [addr_add12] at this
    rw [this]
    simp [List.getElem?_map, show j < len by omega, List.getElem?_eq_getElem hj', List.getD, I64]

theorem open_intsl {t e : TypeId} {v : Value} {d : DataW H} {p : List MemPlace} (ht : P.underlying t = some (.slice e)) (he : P.underlying e = some (.int .i64)) (hc : P.cellsOf e = 1)
    (hv : Value.okWide P W .any base t v) (h : DataW.Trod enc P W 0 spare held t v d p) : ∃ l, Ints W v l ∧ ∀ n ∈ l, inI64 n := by
  obtain ⟨a, len, cap, rfl⟩ := okWide_slice ht hv
  obtain ⟨fuel, hf⟩ := h
  obtain ⟨u, l, hu, hl, hw⟩ := ints_of_trod12 ht he hc hf
  simp [Value.cells] at hu
  exact ⟨l, by rw [hu]; exact hl, hw⟩

end
end Go.Proofs.YtjmjaailmlnkjaaDoor

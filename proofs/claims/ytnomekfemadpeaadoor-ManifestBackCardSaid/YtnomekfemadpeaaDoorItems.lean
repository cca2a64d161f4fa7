/- Slices of api.Item that read as lists of numbers and bytes. No condition. -/
import Derived.Test.YtnomekfemadpeaaDoorGa
namespace Go.Proofs.YtnomekfemadpeaaDoor
open Go.RowKit
set_option linter.unusedVariables false

/-- An item: its number, its bytes. -/
abbrev It := Int × List UInt8

/-- The slice value v reads as the items l. -/
def Items (w : World) (v : Value) (l : List It) : Prop :=
  ∃ (a : Option Addr) (c : Nat), v = .slice a l.length c ∧ l.length ≤ c ∧ c ≤ maxLen ∧ (a = none → c = 0) ∧
    (0 < l.length → ∃ b off, a = some ⟨b, off, none⟩ ∧ b < w.heap.size ∧ ∀ i, i < l.length → w.cell? ⟨b, off + i * 2, none⟩ = some (.int .i64 (l.getD i (0, [])).1) ∧
      ∃ u, w.cell? ⟨b, off + i * 2 + 1, none⟩ = some u ∧ Bytes w u (l.getD i (0, [])).2)

theorem Items.len {w : World} {v : Value} {l : List It} (h : Items w v l) : ∃ a c, v = .slice a l.length c := by
  obtain ⟨a, c, rfl, _⟩ := h
  exact ⟨a, c, rfl⟩

theorem Items.le {w : World} {v : Value} {l : List It} (h : Items w v l) : l.length ≤ 9223372036854775807 := by
  obtain ⟨a, c, rfl, h1, h2, _⟩ := h
  unfold maxLen at h2; omega

theorem Items.of_new {w w' : World} {v : Value} {l : List It} (h : Items w v l) (hg : Below w.heap.size w w') : Items w' v l := by
  obtain ⟨a, c, rfl, h2, h3, h4, h5⟩ := h
  refine ⟨a, c, rfl, h2, h3, h4, fun h => ?_⟩
  obtain ⟨b, off, rfl, hb, hc⟩ := h5 h
  refine ⟨b, off, rfl, Nat.lt_of_lt_of_le hb hg.size, fun i hi => ?_⟩
  obtain ⟨h6, u, h7, h8⟩ := hc i hi
  exact ⟨(hg.cell (p := ⟨b, off + i * 2, none⟩) hb).trans h6, u, (hg.cell (p := ⟨b, off + i * 2 + 1, none⟩) hb).trans h7, h8.of_new hg⟩

theorem Items.cell {w : World} {v : Value} {l : List It} (h : Items w v l) (h0 : 0 < l.length) : ∃ b off c, v = .slice (some ⟨b, off, none⟩) l.length c ∧ b < w.heap.size ∧
    ∀ i, i < l.length → w.cell? ⟨b, off + i * 2, none⟩ = some (.int .i64 (l.getD i (0, [])).1) ∧ ∃ u, w.cell? ⟨b, off + i * 2 + 1, none⟩ = some u ∧ Bytes w u (l.getD i (0, [])).2 := by
  obtain ⟨a, c, rfl, h2, h3, h4, h5⟩ := h
  obtain ⟨b, off, rfl, hb, hc⟩ := h5 h0
  exact ⟨b, off, c, rfl, hb, hc⟩

theorem drop_at_it {l : List It} {k : Nat} (h : k < l.length) : l.drop k = l.getD k (0, []) :: l.drop (k + 1) := by
  rw [List.drop_eq_getElem_cons h]; simp [List.getD, List.getElem?_eq_getElem h]

end Go.Proofs.YtnomekfemadpeaaDoor

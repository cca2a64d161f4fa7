/- From the reading of a law's argument to what the walks ask of it: what tells of a blob. No condition. -/
import Derived.Test.YtnomekfemadpeaaDoorGa
import Derived.Test.YtnomekfemadpeaaDoorGc
namespace Go.Proofs.YtnomekfemadpeaaDoor
open Go.ChangeShapes Go.WideShapes Go.ChangeAt Go.RowKit Go.Deep
set_option linter.unusedVariables false
set_option linter.unusedSectionVars false
set_option maxRecDepth 100000

section
variable {H : Type} {enc : TypeId × Value → H} {W : World} {base : Nat} {spare : Nat → Bool} {held : Bool}

theorem blob_of_trod {fuel : Nat} {cs : List Value} {y : DataW H × List MemPlace} (h : DataW.trod enc Tryd.prog W 0 spare held fuel 27 cs = some y) :
    ∃ x : BlobL, cs = x.cells ∧ x.ok ∧ (-9223372036854775808 ≤ x.size ∧ x.size ≤ 9223372036854775807) ∧ (-9223372036854775808 ≤ x.piece ∧ x.piece ≤ 9223372036854775807) := by
  obtain ⟨i, fs, _, _, ht, _⟩ := places_blob
  have hfs : fs = Tryd.prog.fieldsOf 27 := by unfold Program.fieldsOf; rw [ht]
  obtain ⟨xs, n, _, rfl, hl, hlen, hf⟩ := DataW.trod_struct ht h
  have hcl : Tryd.prog.cellsOf 27 = 66 := by kernel_rfl
  have hcd : Tryd.prog.cellsOf 25 = 32 := by kernel_rfl
  have hci : Tryd.prog.cellsOf 3 = 1 := by kernel_rfl
  have hcb : Tryd.prog.cellsOf 5 = 1 := by kernel_rfl
  have hff := fields_blob
  rw [← hfs] at hff
  have fld : ∀ (j : Nat) (q : String × TypeId × Nat), (fs.toList.map (fun f => (f.name, f.type, f.offset)))[j]? = some q → ∃ z, DataW.trod enc Tryd.prog W 0 spare held n q.2.1 ((cs.drop q.2.2).take (Tryd.prog.cellsOf q.2.1)) = some z := fun j q hq => by
    rw [List.getElem?_map] at hq
    obtain ⟨f, hfj, rfl⟩ := Option.map_eq_some_iff.1 hq
    have h1 := hf j f (by simpa using hfj)
    have hj : j < xs.length := by
      have := (List.getElem?_eq_some_iff.1 hfj).1
      simp at this; omega
    exact ⟨xs[j], by rw [h1, List.getElem?_eq_getElem hj]⟩
  rw [hff] at fld
  obtain ⟨z0, f0⟩ := fld 0 _ rfl
  obtain ⟨z1, f1⟩ := fld 1 _ rfl
  obtain ⟨z2, f2⟩ := fld 2 _ rfl
  obtain ⟨z3, f3⟩ := fld 3 _ rfl
  dsimp only at f0 f1 f2 f3
  obtain ⟨l0, e0, n0⟩ := octs_of_trod Tryd.underlying25 Tryd.underlying5 hcb hcd f0
  obtain ⟨l3, e3, n3⟩ := octs_of_trod Tryd.underlying25 Tryd.underlying5 hcb hcd f3
  obtain ⟨q1, e1, _, w1⟩ := DataW.trod_int Tryd.underlying3 f1
  obtain ⟨q2, e2, _, w2⟩ := DataW.trod_int Tryd.underlying3 f2
  rw [hcd] at e0 e3
  rw [hci] at e1 e2
  rw [hcl] at hl
  refine ⟨⟨l0, q1, q2, l3⟩, ?_, ⟨n0, n3⟩, bd_i64 w1, bd_i64 w2⟩
  unfold BlobL.cells
  dsimp only
  rw [← e0, ← e3]
  have h34 : (cs.drop 34).take 32 = cs.drop 34 := List.take_of_length_le (by simp; omega)
  have hd : ∀ k, cs.drop k = (cs.drop k).take 1 ++ cs.drop (k + 1) := fun k => by have := List.take_append_drop 1 (cs.drop k); rw [List.drop_drop] at this; exact this.symm
  have h32 : cs.drop 32 = .int .i64 q1 :: .int .i64 q2 :: cs.drop 34 := by rw [hd 32, e1, hd 33, e2]; rfl
  rw [h34, ← h32, List.drop_zero, List.take_append_drop]

/-- What tells of a blob, by value. -/
theorem open_blob {v : Value} {d : DataW H} {p : List MemPlace} (hv : Value.okWide Tryd.prog W .any base 27 v) (h : DataW.Trod enc Tryd.prog W 0 spare held 27 v d p) :
    ∃ x : BlobL, v = BlobV x ∧ x.ok ∧ (-9223372036854775808 ≤ x.size ∧ x.size ≤ 9223372036854775807) ∧ (-9223372036854775808 ≤ x.piece ∧ x.piece ≤ 9223372036854775807) := by
  simp only [Value.okWide, Tryd.underlying27] at hv
  obtain ⟨cs, rfl, _, _⟩ := hv
  obtain ⟨fuel, hf⟩ := h
  obtain ⟨x, hx, h1, h2, h3⟩ := blob_of_trod hf
  refine ⟨x, ?_, h1, h2, h3⟩
  unfold BlobV
  rw [← hx]
  simp [Value.cells]

end
end Go.Proofs.YtnomekfemadpeaaDoor

/- From the reading of a law's argument to what the walks ask of it: an image by value. No condition. -/
import Derived.Test.YtnomekfemadpeaaDoorOpenBlob
import Derived.Test.YtnomekfemadpeaaDoorOpenDigs
import Derived.Test.YtnomekfemadpeaaDoorMfImage
namespace Go.Proofs.YtnomekfemadpeaaDoor
open Go.ChangeShapes Go.WideShapes Go.ChangeAt Go.RowKit Go.Deep
set_option linter.unusedVariables false
set_option linter.unusedSectionVars false
set_option maxRecDepth 100000

section
variable {H : Type} {enc : TypeId × Value → H} {W : World} {base : Nat} {spare : Nat → Bool} {held : Bool}

theorem fields_img : (Tryd.prog.fieldsOf 52).toList.map (fun f => (f.name, f.type, f.offset)) = [("Layers", 50, 0)] := by kernel_rfl

theorem flatR_getElem {l : List BlobL} (h : ∀ x ∈ l, RBlob.ok x) {j : Nat} (hj : j < l.length * 66) : (RBlob.flat l)[j]? = ((l.getD (j / 66) BlobL.zero).cells)[j % 66]? := by
  have hlt : j / 66 < l.length := by omega
  have := RecT.flat_at (R := RBlob) h (i := j / 66) (j := j % 66) (x := l.getD (j / 66) BlobL.zero) (by simp [List.getD, hlt]) (by show j % 66 < 66; omega)
  have e : j / 66 * RBlob.n + j % 66 = j := by show j / 66 * 66 + j % 66 = j; omega
  rw [e] at this
  exact this

/-- A slice of blobs. -/
theorem row_of_trod {fuel : Nat} {cs : List Value} {y : DataW H × List MemPlace} (h : DataW.trod enc Tryd.prog W 0 spare held fuel 50 cs = some y) : ∃ u l, cs = [u] ∧ RBlob.Row W u l := by
  rcases open_slice Tryd.underlying50 h with ⟨hcs, _⟩ | ⟨a, len, cap, m, n, D, Pl, hcs, _, hl, hm, hmm, _, hx⟩
  · exact ⟨_, [], hcs, RecT.Row.nil _⟩
  · subst hcs
    haveI : Inhabited BlobL := ⟨BlobL.zero⟩
    have hce : Tryd.prog.cellsOf 27 = 66 := by kernel_rfl
    have hlm : len ≤ m := by rw [hmm]; split <;> omega
    have one : ∀ i, i < len → ∃ y : BlobL, y.ok ∧ ∀ j, j < 66 → W.cell? ((a.add (i * 66)).add j) = y.cells[j]? := by
      intro i hi
      obtain ⟨cs', hc, ht'⟩ := hx i (by omega)
      rw [hce] at hc
      obtain ⟨_, hcl, hat⟩ := World.cells?_some hc
      obtain ⟨x, hxe, hok, _, _⟩ := blob_of_trod ht'
      refine ⟨x, hok, fun j hj => ?_⟩
      have := hat j hj
      rw [hxe] at this
      simpa using this
    obtain ⟨Y, hY⟩ := choose_lt (n := len) (p := fun i (y : BlobL) => y.ok ∧ ∀ j, j < 66 → W.cell? ((a.add (i * 66)).add j) = y.cells[j]?) one
    have hokl : ∀ d ∈ (List.range len).map Y, RBlob.ok d := fun d hd => by
      obtain ⟨i, hi, rfl⟩ := List.mem_map.1 hd
      exact (hY i (List.mem_range.1 hi)).1
    have hlen : ((List.range len).map Y).length = len := by simp
    refine ⟨_, (List.range len).map Y, rfl, hokl, by rw [RecT.flat_len RBlob hokl], some a, cap, by rw [hlen], by rw [hlen]; exact hl, hm, (fun h => by cases h), fun h0 => ?_⟩
    rw [hlen] at h0 ⊢
    have hn66 : RBlob.n = 66 := rfl
    rw [hn66] at h0 ⊢
    have h0' : 0 < len := by omega
    have c0 := (hY 0 h0').2 0 (by omega)
    have e0 : (a.add (0 * 66)).add 0 = a := rfl
    rw [e0, List.getElem?_eq_getElem (by rw [BlobL.cells_len (hY 0 h0').1]; omega)] at c0
    obtain ⟨b, off, rfl⟩ := addr_none c0
    refine ⟨b, off, rfl, World.block_lt_of_cell? _ _ c0, fun j hj => ?_⟩
    have h2 := (hY (j / 66) (by omega)).2 (j % 66) (by omega)
    rw [addr_add, addr_add, Nat.add_assoc, show j / 66 * 66 + j % 66 = j by omega] at h2
    rw [h2, flatR_getElem hokl (by rw [hlen]; exact hj)]
    simp [List.getD, show j / 66 < len by omega]

/-- An image by value. -/
theorem open_image {v : Value} {d : DataW H} {p : List MemPlace} (hv : Value.okWide Tryd.prog W .any base 52 v) (h : DataW.Trod enc Tryd.prog W 0 spare held 52 v d p) :
    ∃ (u : Value) (l : List BlobL), v = .agg #[u] ∧ RBlob.Row W u l := by
  obtain ⟨fs, ht⟩ : ∃ fs, Tryd.prog.underlying 52 = some (.struct fs) := ⟨_, Tryd.underlying52⟩
  simp only [Value.okWide, ht] at hv
  obtain ⟨cs, rfl, _, _⟩ := hv
  obtain ⟨fuel, hf⟩ := h
  have hfs : fs = Tryd.prog.fieldsOf 52 := by unfold Program.fieldsOf; rw [ht]
  obtain ⟨xs, n, _, _, hl, hlen, hf⟩ := DataW.trod_struct ht hf
  have hcl : Tryd.prog.cellsOf 52 = 1 := by kernel_rfl
  have hcb : Tryd.prog.cellsOf 50 = 1 := by kernel_rfl
  have hff := fields_img
  rw [← hfs] at hff
  have hfj : (fs.toList.map (fun f => (f.name, f.type, f.offset)))[0]? = some ("Layers", 50, 0) := by rw [hff]; rfl
  rw [List.getElem?_map] at hfj
  obtain ⟨f, hfj, he⟩ := Option.map_eq_some_iff.1 hfj
  have h1 := hf 0 f (by simpa using hfj)
  have hj : 0 < xs.length := by
    have := (List.getElem?_eq_some_iff.1 hfj).1
    simp at this; omega
  simp only [Prod.mk.injEq] at he
  rw [List.getElem?_eq_getElem hj, he.2.1, he.2.2, hcb, List.drop_zero] at h1
  rw [hcl] at hl
  have hcs1 : cs.toList.take 1 = cs.toList := List.take_of_length_le (by simp at hl ⊢; omega)
  simp only [Value.cells] at h1
  rw [hcs1] at h1
  obtain ⟨u, l, hu, hr⟩ := row_of_trod h1
  exact ⟨u, l, by rw [← Array.toArray_toList (xs := cs), hu], hr⟩

end
end Go.Proofs.YtnomekfemadpeaaDoor

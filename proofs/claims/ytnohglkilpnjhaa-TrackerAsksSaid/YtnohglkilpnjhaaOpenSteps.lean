/- From the reading of a law's argument to what the walks ask of it: slices of steps. No condition. -/
import Derived.Test.YtnohglkilpnjhaaOpenDigs
import Derived.Test.YtnohglkilpnjhaaTrStep
namespace Go.Proofs.Ytnohglkilpnjhaa
open Go.ChangeShapes Go.WideShapes Go.ChangeAt Go.RowKit Go.Deep
set_option linter.unusedVariables false
set_option linter.unusedSectionVars false
set_option maxRecDepth 100000

section
variable {H : Type} {enc : TypeId × Value → H} {P : Program} {W : World} {base : Nat} {spare : Nat → Bool} {held : Bool}

theorem fields_step : (Try.prog.fieldsOf 40).toList.map (fun f => (f.name, f.type, f.offset)) = [("Do", 3, 0), ("D", 30, 1), ("Id", 3, 33), ("Now", 3, 34), ("Life", 3, 35), ("Seed", 4, 36)] := by kernel_rfl
theorem struct_fields11 {T : TypeId} {fs : Array Field} {fuel : Nat} {cs : List Value} {y : DataW H × List MemPlace} (ht : Try.prog.underlying T = some (.struct fs)) (h : DataW.trod enc Try.prog W 0 spare held fuel T cs = some y) :
    ∃ n, cs.length = Try.prog.cellsOf T ∧ ∀ (j : Nat) (q : String × TypeId × Nat), (fs.toList.map (fun f => (f.name, f.type, f.offset)))[j]? = some q → ∃ z, DataW.trod enc Try.prog W 0 spare held n q.2.1 ((cs.drop q.2.2).take (Try.prog.cellsOf q.2.1)) = some z := by
  obtain ⟨xs, n, _, rfl, hl, hlen, hf⟩ := DataW.trod_struct ht h
  refine ⟨n, hl, fun j q hq => ?_⟩
  rw [List.getElem?_map] at hq
  obtain ⟨f, hfj, rfl⟩ := Option.map_eq_some_iff.1 hq
  have h1 := hf j f (by simpa using hfj)
  have hj : j < xs.length := by
    have := (List.getElem?_eq_some_iff.1 hfj).1
    simp at this; omega
  exact ⟨xs[j], by rw [h1, List.getElem?_eq_getElem hj]⟩
theorem struct_step : ∃ fs, Try.prog.underlying 40 = some (.struct fs) ∧ fs.toList.map (fun f => (f.name, f.type, f.offset)) = [("Do", 3, 0), ("D", 30, 1), ("Id", 3, 33), ("Now", 3, 34), ("Life", 3, 35), ("Seed", 4, 36)] :=
  ⟨Try.prog.fieldsOf 40, by kernel_rfl, fields_step⟩
theorem step_of_trod {fuel : Nat} {cs : List Value} {y : DataW H × List MemPlace} (h : DataW.trod enc Try.prog W 0 spare held fuel 40 cs = some y) : ∃ x : StepL, cs = x.cells ∧ x.ok := by
  obtain ⟨fs, ht, hff⟩ := struct_step
  obtain ⟨n, hl, fld⟩ := struct_fields11 ht h
  have hcl : Try.prog.cellsOf 40 = 37 := by kernel_rfl
  have hci : Try.prog.cellsOf 3 = 1 := by kernel_rfl
  have hcd : Try.prog.cellsOf 30 = 32 := by kernel_rfl
  have hcb : Try.prog.cellsOf 5 = 1 := by kernel_rfl
  have hs5 : Try.prog.cellsOf 4 = 1 := by kernel_rfl
  rw [hff] at fld
  rw [hcl] at hl
  obtain ⟨z0, f0⟩ := fld 0 _ rfl
  obtain ⟨z1, f1⟩ := fld 1 _ rfl
  obtain ⟨z2, f2⟩ := fld 2 _ rfl
  obtain ⟨z3, f3⟩ := fld 3 _ rfl
  obtain ⟨z4, f4⟩ := fld 4 _ rfl
  obtain ⟨z5, f5⟩ := fld 5 _ rfl
  dsimp only at f0 f1 f2 f3 f4 f5
  rw [hci] at f0 f2 f3 f4
  rw [hs5] at f5
  obtain ⟨q0, e0, _, w0⟩ := DataW.trod_int Try.underlying3 f0
  obtain ⟨l1, e1, n1⟩ := octs_of_trod Try.underlying30 Try.underlying5 hcb hcd f1
  obtain ⟨q2, e2, _, w2⟩ := DataW.trod_int Try.underlying3 f2
  obtain ⟨q3, e3, _, w3⟩ := DataW.trod_int Try.underlying3 f3
  obtain ⟨q4, e4, _, w4⟩ := DataW.trod_int Try.underlying3 f4
  obtain ⟨q5, e5, _⟩ := DataW.trod_bool Try.underlying4 f5
  rw [hcd] at e1
  refine ⟨⟨q0, l1, q2, q3, q4, q5⟩, ?_, n1, bd_i64 w0, bd_i64 w2, bd_i64 w3, bd_i64 w4⟩
  unfold StepL.cells
  dsimp only
  have hd : ∀ k, cs.drop k = (cs.drop k).take 1 ++ cs.drop (k + 1) := fun k => by have := List.take_append_drop 1 (cs.drop k); rw [List.drop_drop] at this; exact this.symm
  have h37 : cs.drop 37 = [] := List.drop_of_length_le (by omega)
  have h33 : cs.drop 33 = [.int .i64 q2, .int .i64 q3, .int .i64 q4, .bool q5] := by
    rw [hd 33, e2, hd 34, e3, hd 35, e4, hd 36, e5, h37]; rfl
  have h1 : cs.drop 1 = l1.map B8 ++ cs.drop 33 := by
    have := List.take_append_drop 32 (cs.drop 1)
    rw [List.drop_drop, e1] at this
    exact this.symm
  have h0 : cs = cs.drop 0 := rfl
  rw [h0, hd 0, e0, h1, h33]; rfl
theorem open_steps {v : Value} {d : DataW H} {p : List MemPlace} (hv : Value.okWide Try.prog W .any base 37 v) (h : DataW.Trod enc Try.prog W 0 spare held 37 v d p) :
    ∃ l, RStep.Row W v l := by
  obtain ⟨a0, l0, c0, rfl⟩ := okWide_slice Try.underlying37 hv
  obtain ⟨fuel, hfu⟩ := h
  have hce : Try.prog.cellsOf 40 = 37 := by kernel_rfl
  rcases open_slice Try.underlying37 hfu with ⟨hcs, _⟩ | ⟨a, len0, cap0, m, n, D, Pl, hcs, _, hl, hm, hmm, _, hx⟩
  · simp [Value.cells] at hcs
    obtain ⟨rfl, rfl, rfl⟩ := hcs
    exact ⟨[], RecT.Row.nil _⟩
  · simp [Value.cells] at hcs
    obtain ⟨rfl, rfl, rfl⟩ := hcs
    have hlm : l0 ≤ m := by rw [hmm]; split <;> omega
    have one : ∀ i, i < l0 → ∃ y : StepL, y.ok ∧ ∀ j, j < 37 → W.cell? ((a.add (i * 37)).add j) = y.cells[j]? := by
      intro i hi
      obtain ⟨cs', hc, ht'⟩ := hx i (by omega)
      rw [hce] at hc
      obtain ⟨_, hcl, hat⟩ := World.cells?_some hc
      obtain ⟨y, rfl, hy⟩ := step_of_trod ht'
      exact ⟨y, hy, fun j hj => hat j hj⟩
    haveI : Inhabited StepL := ⟨StepL.zero⟩
    obtain ⟨Y, hY⟩ := choose_lt (n := l0) (p := fun i (y : StepL) => y.ok ∧ ∀ j, j < 37 → W.cell? ((a.add (i * 37)).add j) = y.cells[j]?) one
    have hlen : ((List.range l0).map Y).length = l0 := by simp
    have hok : ∀ y ∈ (List.range l0).map Y, RStep.ok y := fun y hy => by
      obtain ⟨i, hi, rfl⟩ := List.mem_map.1 hy
      exact (hY i (List.mem_range.1 hi)).1
    refine ⟨(List.range l0).map Y, hok, RStep.flat_len hok, some a, c0, by rw [hlen], by rw [hlen]; exact hl, hm, (fun h => by cases h), fun h0 => ?_⟩
    rw [hlen] at h0 ⊢
    have h0' : 0 < l0 := by
      rcases Nat.eq_zero_or_pos l0 with h | h
      · rw [h] at h0; simp at h0
      · exact h
    have e00 := (hY 0 h0').2 0 (by omega)
    have e0 : (a.add (0 * 37)).add 0 = a := rfl
    rw [e0] at e00
    obtain ⟨b, off, rfl⟩ := addr_none (u := .int .i64 (Y 0).act) (e00.trans rfl)
    refine ⟨b, off, rfl, World.block_lt_of_cell? _ _ (e00.trans rfl : _ = some (.int .i64 (Y 0).act)), fun j hj => ?_⟩
    have hj' : j < l0 * 37 := hj
    have h2 := (hY (j / 37) (by omega)).2 (j % 37) (by omega)
    rw [addr_add, addr_add, Nat.add_assoc, show j / 37 * 37 + j % 37 = j by omega] at h2
    rw [h2]
    have h3 := RStep.flat_at (l := (List.range l0).map Y) hok (i := j / 37) (j := j % 37) (x := Y (j / 37)) (by simp [show j / 37 < l0 by omega]) (show j % 37 < 37 by omega)
    have h4 : j / 37 * RStep.n + j % 37 = j := by show j / 37 * 37 + j % 37 = j; omega
    rw [h4] at h3
    exact h3.symm
end

end Go.Proofs.Ytnohglkilpnjhaa

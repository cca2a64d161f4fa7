/- Texts of this claim, one behind the other: each begins with a comment that says what it proves and asks. -/
import Derived.Test.YtnohglkilpnjhaaGreatDoorNa24
/- From the reading of a law's argument to what the walks ask of it: slices of steps of an origin, and three numbers. No condition. -/
namespace Go.Proofs.YtnohglkilpnjhaaGreatDoor
open Go.ChangeShapes Go.WideShapes Go.ChangeAt Go.RowKit Go.Deep
set_option linter.unusedVariables false
set_option linter.unusedSectionVars false
set_option linter.unusedSimpArgs false
set_option maxRecDepth 100000

section
variable {H : Type} {enc : TypeId × Value → H} {P : Program} {W : World} {base : Nat} {spare : Nat → Bool} {held : Bool}

/-- A slice of slices of bytes, its cells. -/
theorem parts_of_trod {t e f : TypeId} {fuel : Nat} {cs : List Value} {x : DataW H × List MemPlace} (ht : P.underlying t = some (.slice e)) (he : P.underlying e = some (.slice f)) (hf : P.underlying f = some (.int .u8)) (hce : P.cellsOf e = 1) (hcf : P.cellsOf f = 1)
    (hfu : DataW.trod enc P W 0 spare held fuel t cs = some x) : ∃ v ps, cs = [v] ∧ PartsV W v ps := by
  rcases open_slice ht hfu with ⟨rfl, _⟩ | ⟨a, len0, cap0, m, n, D, Pl, rfl, _, hl, hm, hmm, _, hx⟩
  · exact ⟨_, [], rfl, none, 0, rfl, Nat.le_refl _, by unfold maxLen; omega, fun _ => rfl, fun h => by simp at h⟩
  · have hlm : len0 ≤ m := by rw [hmm]; split <;> omega
    have one : ∀ i, i < len0 → ∃ y : Value × List UInt8, W.cell? (a.add i) = some y.1 ∧ Bytes W y.1 y.2 := by
      intro i hi
      obtain ⟨cs', hc, ht'⟩ := hx i (by omega)
      rw [hce, Nat.mul_one] at hc
      obtain ⟨_, hcl, hat⟩ := World.cells?_some hc
      obtain ⟨u, l, rfl, hb⟩ := bytes_of_trod he hf hcf ht'
      refine ⟨(u, l), ?_, hb⟩
      have := hat 0 (by omega)
      rw [show (a.add i).add 0 = a.add i from rfl] at this
      simpa using this
    obtain ⟨Y, hY⟩ := choose_lt (n := len0) (p := fun i (y : Value × List UInt8) => W.cell? (a.add i) = some y.1 ∧ Bytes W y.1 y.2) one
    refine ⟨_, (List.range len0).map (fun i => (Y i).2), rfl, some a, cap0, by simp, by simpa using hl, hm, (fun h => by cases h), fun h0 => ?_⟩
    have h0' : 0 < len0 := by simpa using h0
    have c0 := (hY 0 h0').1
    have e0 : a.add 0 = a := rfl
    rw [e0] at c0
    obtain ⟨b, off, rfl⟩ := addr_none c0
    refine ⟨b, off, rfl, World.block_lt_of_cell? _ _ c0, fun i hi => ?_⟩
    have hi' : i < len0 := by simpa using hi
    obtain ⟨g1, g2⟩ := hY i hi'
    rw [addr_add] at g1
    have e : ((List.range len0).map (fun i => (Y i).2)).getD i [] = (Y i).2 := by simp [List.getD, hi']
    rw [e]
    exact ⟨(Y i).1, g1, g2⟩

end

section
variable {H : Type} {enc : TypeId × Value → H} {W : World} {base : Nat} {spare : Nat → Bool} {held : Bool}

theorem fields_step19 : (Tryz.prog.fieldsOf 40).toList.map (fun f => (f.name, f.type, f.offset)) =
    [("Do", 3, 0), ("N", 3, 1), ("From", 3, 2), ("Now", 3, 3), ("L", 29, 4), ("M", 37, 5), ("Seed", 38, 44)] := by kernel_rfl
theorem struct_step19 : ∃ fs, Tryz.prog.underlying 40 = some (.struct fs) ∧ fs.toList.map (fun f => (f.name, f.type, f.offset)) =
    [("Do", 3, 0), ("N", 3, 1), ("From", 3, 2), ("Now", 3, 3), ("L", 29, 4), ("M", 37, 5), ("Seed", 38, 44)] :=
  ⟨Tryz.prog.fieldsOf 40, by kernel_rfl, fields_step19⟩
theorem step19_of_trod {fuel : Nat} {cs : List Value} {y : DataW H × List MemPlace} (h : DataW.trod enc Tryz.prog W 0 spare held fuel 40 cs = some y) : ∃ p : S19 × List (List UInt8), cs = p.1.cells ∧ S19R W p.1 p.2 := by
  obtain ⟨fs, ht, hff⟩ := struct_step19
  obtain ⟨n, hl, fld⟩ := struct_fields ht h
  have hcl : Tryz.prog.cellsOf 40 = 45 := by kernel_rfl
  have hci : Tryz.prog.cellsOf 3 = 1 := by kernel_rfl
  have hcu : Tryz.prog.cellsOf 38 = 1 := by kernel_rfl
  have hcb : Tryz.prog.cellsOf 5 = 1 := by kernel_rfl
  have hcm : Tryz.prog.cellsOf 37 = 39 := by kernel_rfl
  have hs1 : Tryz.prog.cellsOf 29 = 1 := by kernel_rfl
  have hs2 : Tryz.prog.cellsOf 33 = 1 := by kernel_rfl
  rw [hff] at fld
  rw [hcl] at hl
  obtain ⟨z0, f0⟩ := fld 0 _ rfl
  obtain ⟨z1, f1⟩ := fld 1 _ rfl
  obtain ⟨z2, f2⟩ := fld 2 _ rfl
  obtain ⟨z3, f3⟩ := fld 3 _ rfl
  obtain ⟨z4, f4⟩ := fld 4 _ rfl
  obtain ⟨z5, f5⟩ := fld 5 _ rfl
  obtain ⟨z6, f6⟩ := fld 6 _ rfl
  dsimp only at f0 f1 f2 f3 f4 f5 f6
  rw [hci] at f0 f1 f2 f3
  rw [hs1] at f4
  rw [hcm] at f5
  rw [hcu] at f6
  obtain ⟨q0, e0, _, w0⟩ := DataW.trod_int Tryz.underlying3 f0
  obtain ⟨q1, e1, _, w1⟩ := DataW.trod_int Tryz.underlying3 f1
  obtain ⟨q2, e2, _, w2⟩ := DataW.trod_int Tryz.underlying3 f2
  obtain ⟨q3, e3, _, w3⟩ := DataW.trod_int Tryz.underlying3 f3
  obtain ⟨v4, ls, e4, r4⟩ := parts_of_trod Tryz.underlying29 Tryz.underlying33 Tryz.underlying5 hs2 hcb f4
  obtain ⟨m, s, e5, r5, o5⟩ := msg_of_trod f5
  obtain ⟨q6, e6, _, w6⟩ := DataW.trod_int Tryz.underlying38 f6
  obtain ⟨sd, rfl, hsd⟩ := bd_u64 w6
  refine ⟨(⟨q0, q1, q2, q3, v4, m, s, sd⟩, ls), ?_, r4, r5, o5, bd_i64 w0, bd_i64 w1, bd_i64 w2, bd_i64 w3, hsd⟩
  unfold S19.cells
  dsimp only
  have hd : ∀ k, cs.drop k = (cs.drop k).take 1 ++ cs.drop (k + 1) := fun k => by have := List.take_append_drop 1 (cs.drop k); rw [List.drop_drop] at this; exact this.symm
  have h45 : cs.drop 45 = [] := List.drop_of_length_le (by omega)
  have h44 : cs.drop 44 = [.int .u64 (sd : Int)] := by rw [hd 44, e6, h45]; rfl
  have h5 : cs.drop 5 = msgCells m s ++ cs.drop 44 := by
    have := List.take_append_drop 39 (cs.drop 5)
    rw [List.drop_drop, e5] at this
    exact this.symm
  have h0 : cs = cs.drop 0 := rfl
  rw [h0, hd 0, e0, hd 1, e1, hd 2, e2, hd 3, e3, hd 4, e4, h5, h44]; rfl
theorem open_steps19 {v : Value} {d : DataW H} {p : List MemPlace} (hv : Value.okWide Tryz.prog W .any base 22 v) (h : DataW.Trod enc Tryz.prog W 0 spare held 22 v d p) :
    ∃ l, StepsV W v l := by
  obtain ⟨a0, l0, c0, rfl⟩ := okWide_slice Tryz.underlying22 hv
  obtain ⟨fuel, hfu⟩ := h
  have hce : Tryz.prog.cellsOf 40 = 45 := by kernel_rfl
  rcases open_slice Tryz.underlying22 hfu with ⟨hcs, _⟩ | ⟨a, len0, cap0, m, n, D, Pl, hcs, _, hl, hm, hmm, _, hx⟩
  · simp [Value.cells] at hcs
    obtain ⟨rfl, rfl, rfl⟩ := hcs
    exact ⟨[], none, 0, rfl, Nat.le_refl _, by unfold maxLen; omega, (fun p hp => by cases hp), fun h => by simp at h⟩
  · simp [Value.cells] at hcs
    obtain ⟨rfl, rfl, rfl⟩ := hcs
    have hlm : l0 ≤ m := by rw [hmm]; split <;> omega
    have one : ∀ i, i < l0 → ∃ y : S19 × List (List UInt8), S19R W y.1 y.2 ∧ ∀ j, j < 45 → W.cell? ((a.add (i * 45)).add j) = y.1.cells[j]? := by
      intro i hi
      obtain ⟨cs', hc, ht'⟩ := hx i (by omega)
      rw [hce] at hc
      obtain ⟨_, hcl, hat⟩ := World.cells?_some hc
      obtain ⟨y, rfl, hy⟩ := step19_of_trod ht'
      exact ⟨y, hy, fun j hj => hat j hj⟩
    haveI : Inhabited S19 := ⟨S19.zero⟩
    obtain ⟨Y, hY⟩ := choose_lt (n := l0) (p := fun i (y : S19 × List (List UInt8)) => S19R W y.1 y.2 ∧ ∀ j, j < 45 → W.cell? ((a.add (i * 45)).add j) = y.1.cells[j]?) one
    have hlen : ((List.range l0).map Y).length = l0 := by simp
    refine ⟨(List.range l0).map Y, some a, c0, by rw [hlen], by rw [hlen]; exact hl, hm, (fun p hp => ?_), fun h0 => ?_⟩
    · obtain ⟨i, hi, rfl⟩ := List.mem_map.1 hp
      exact (hY i (List.mem_range.1 hi)).1
    rw [hlen] at h0
    have e00 := (hY 0 h0).2 0 (by omega)
    have e0 : (a.add (0 * 45)).add 0 = a := rfl
    rw [e0] at e00
    obtain ⟨b, off, rfl⟩ := addr_none (u := .int .i64 (Y 0).1.act) (e00.trans rfl)
    refine ⟨b, off, rfl, World.block_lt_of_cell? _ _ (e00.trans rfl : _ = some (.int .i64 (Y 0).1.act)), fun i p hp => ?_⟩
    have hi : i < l0 := by have := (List.getElem?_eq_some_iff.1 hp).1; omega
    obtain rfl : Y i = p := by simpa [hi] using hp
    refine ⟨(hY i hi).1.msg.hash, World.block_lt_of_cell? _ _ (e00.trans rfl : _ = some (.int .i64 (Y 0).1.act)), fun j hj => ?_⟩
    have h2 := (hY i hi).2 j hj
    rwa [addr_add, addr_add] at h2
end

end Go.Proofs.YtnohglkilpnjhaaGreatDoor

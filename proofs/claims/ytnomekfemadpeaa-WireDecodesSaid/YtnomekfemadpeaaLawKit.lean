/- From the reading of a law's argument to what the walks ask of it: slices of bytes, of items. No condition. -/
import Derived.Test.YtnomekfemadpeaaGa
import Derived.ProofKit
import Derived.OpenShut
import Derived.ChangeOld
import Derived.Deep.Slices
import Derived.Deep.Fields
namespace Go.Proofs.Ytnomekfemadpeaa
open Go.ChangeShapes Go.WideShapes Go.ChangeAt Go.RowKit Go.Deep
set_option linter.unusedVariables false
set_option linter.unusedSectionVars false

section
variable {H : Type} {enc : TypeId × Value → H} {P : Program} {W : World} {base : Nat} {spare : Nat → Bool} {held : Bool}

theorem addr_none {w : World} {x : Addr} {u : Value} (h : w.cell? x = some u) : ∃ b off, x = ⟨b, off, none⟩ := by
  obtain ⟨b, off, s⟩ := x
  have := World.cell?_spot h
  simp only at this
  exact ⟨b, off, by rw [this]⟩

theorem addr_add (b off j : Nat) : (⟨b, off, none⟩ : Addr).add j = ⟨b, off + j, none⟩ := by
  unfold Addr.add; split <;> simp_all

theorem b8_of_wf {n : Int} (h : (Lit.int .u8 n).wf = true) : Value.int .u8 n = B8 (UInt8.ofNat n.toNat) := by
  simp [Lit.wf, IntKind.min, IntKind.max, IntKind.signed, IntKind.bits] at h
  unfold B8; congr 1; simp; omega

/-- A slice of bytes. -/
theorem bytes_of_trod {t e : TypeId} {fuel : Nat} {cs : List Value} {x : DataW H × List MemPlace} (ht : P.underlying t = some (.slice e)) (he : P.underlying e = some (.int .u8)) (hc : P.cellsOf e = 1)
    (h : DataW.trod enc P W base spare held fuel t cs = some x) : ∃ v l, cs = [v] ∧ Bytes W v l := by
  rcases open_ints ht he hc h with ⟨rfl, _⟩ | ⟨a, len, cap, zs, rfl, _, hl, hm, hz, _, hcell, hwz⟩
  · exact ⟨_, [], rfl, Bytes.of_nil⟩
  · have hlz : len ≤ zs.length := by rw [hz]; split <;> omega
    refine ⟨_, (zs.take len).map (fun n => UInt8.ofNat n.toNat), rfl, ?_⟩
    have hlen : ((zs.take len).map (fun n => UInt8.ofNat n.toNat)).length = len := by simp; omega
    unfold Bytes
    rw [hlen]
    refine ⟨by simp; omega, some a, cap, rfl, hl, hm, (fun h => by cases h), fun hne => ?_⟩
    have h0 := hcell 0 (by omega)
    have e0 : a.add 0 = a := rfl
    rw [e0] at h0
    obtain ⟨b, off, rfl⟩ := addr_none h0
    refine ⟨b, off, rfl, World.block_lt_of_cell? _ _ h0, fun j hj => ?_⟩
    have hj' : j < zs.length := by omega
    have := hcell j hj'
    rw [addr_add] at this
    rw [this, b8_of_wf (hwz _ (by rw [List.getD_eq_getElem?_getD, List.getElem?_eq_getElem hj']; exact List.getElem_mem hj'))]
    simp [List.getElem?_map, show j < len by omega, List.getElem?_eq_getElem hj', List.getD]

theorem open_bytes {t e : TypeId} {v : Value} {d : DataW H} {p : List MemPlace} (ht : P.underlying t = some (.slice e)) (he : P.underlying e = some (.int .u8)) (hc : P.cellsOf e = 1)
    (hv : Value.okWide P W .any base t v) (h : DataW.Trod enc P W 0 spare held t v d p) : ∃ l, Bytes W v l := by
  obtain ⟨a, len, cap, rfl⟩ := okWide_slice ht hv
  obtain ⟨fuel, hf⟩ := h
  obtain ⟨u, l, hu, hl⟩ := bytes_of_trod ht he hc hf
  simp [Value.cells] at hu
  exact ⟨l, by rw [hu]; exact hl⟩

/-- A slice of items. -/
theorem open_items {t e : TypeId} {f0 f1 : Field} {eb : TypeId} {v : Value} {d : DataW H} {p : List MemPlace} (ht : P.underlying t = some (.slice e)) (he : P.underlying e = some (.struct #[f0, f1])) (hone : oneCellFields P #[f0, f1] = true) (hC : P.cellsOf e = 2)
    (hf0 : P.underlying f0.type = some (.int .i64)) (hf1 : P.underlying f1.type = some (.slice eb)) (heb : P.underlying eb = some (.int .u8)) (hcb : P.cellsOf eb = 1)
    (hv : Value.okWide P W .any base t v) (h : DataW.Trod enc P W 0 spare held t v d p) :
    ∃ l, Items W v l ∧ ∀ x ∈ l, -9223372036854775808 ≤ x.1 ∧ x.1 ≤ 9223372036854775807 := by
  obtain ⟨a0, len0, cap0, rfl⟩ := okWide_slice ht hv
  obtain ⟨fuel, hf⟩ := h
  rcases open_slice ht hf with ⟨hcs, _⟩ | ⟨a, len, cap, m, n, D, Pl, hcs, _, hl, hm, hmm, _, hx⟩
  · simp [Value.cells] at hcs
    obtain ⟨rfl, rfl, rfl⟩ := hcs
    exact ⟨[], ⟨none, 0, rfl, Nat.le_refl _, by unfold maxLen; omega, fun _ => rfl, fun h => by simp at h⟩, by simp⟩
  · simp [Value.cells] at hcs
    obtain ⟨rfl, rfl, rfl⟩ := hcs
    have hlm : len0 ≤ m := by rw [hmm]; split <;> omega
    have one : ∀ i, i < len0 → ∃ (y : Int × List UInt8) (u : Value), W.cell? (a.add (i * 2)) = some (.int .i64 y.1) ∧ W.cell? (a.add (i * 2 + 1)) = some u ∧ Bytes W u y.2 ∧ -9223372036854775808 ≤ y.1 ∧ y.1 ≤ 9223372036854775807 := by
      intro i hi
      obtain ⟨cs', hc, ht'⟩ := hx i (by omega)
      rw [hC] at hc
      obtain ⟨_, hcl, hat⟩ := World.cells?_some hc
      obtain ⟨ys, n', _, _, _, hyl, hff⟩ := DataW.trod_struct he ht'
      match cs', hcl with
      | [c0, c1], _ =>
        obtain ⟨o0, k0⟩ := hone_of hone 0 f0 rfl
        obtain ⟨o1, k1⟩ := hone_of hone 1 f1 rfl
        have g0 := hff 0 f0 rfl
        have g1 := hff 1 f1 rfl
        rw [o0, k0] at g0
        rw [o1, k1] at g1
        match ys, hyl with
        | [y0, y1], _ =>
          simp only [List.drop_zero, List.take_succ_cons, List.take_zero, List.drop_succ_cons, List.getElem?_cons_zero, List.getElem?_cons_succ] at g0 g1
          obtain ⟨q, hq, _, hw⟩ := DataW.trod_int hf0 g0
          obtain ⟨u, bl, hu, hbl⟩ := bytes_of_trod hf1 heb hcb g1
          cases hq
          cases hu
          have b := hw
          simp [Lit.wf, IntKind.min, IntKind.max, IntKind.signed, IntKind.bits] at b
          refine ⟨(q, bl), c1, ?_, ?_, hbl, b.1, by omega⟩
          · have := hat 0 (by omega)
            rw [show (a.add (i * 2)).add 0 = a.add (i * 2) from rfl] at this
            simpa using this
          · have := hat 1 (by omega)
            rw [Go.Deep.add_add] at this
            simpa using this
    obtain ⟨Y, hY⟩ := choose_lt (n := len0) (p := fun i (z : (Int × List UInt8) × Value) => W.cell? (a.add (i * 2)) = some (.int .i64 z.1.1) ∧ W.cell? (a.add (i * 2 + 1)) = some z.2 ∧ Bytes W z.2 z.1.2 ∧ -9223372036854775808 ≤ z.1.1 ∧ z.1.1 ≤ 9223372036854775807)
      (fun i hi => by obtain ⟨y, u, h⟩ := one i hi; exact ⟨(y, u), h⟩)
    refine ⟨(List.range len0).map (fun i => (Y i).1), ⟨some a, cap0, by simp, by simpa using hl, hm, (fun h => by cases h), fun h0 => ?_⟩, ?_⟩
    · have h0' : 0 < len0 := by simpa using h0
      obtain ⟨c0, _⟩ := hY 0 h0'
      have e0 : a.add (0 * 2) = a := rfl
      rw [e0] at c0
      obtain ⟨b, off, rfl⟩ := addr_none c0
      refine ⟨b, off, rfl, World.block_lt_of_cell? _ _ c0, fun i hi => ?_⟩
      have hi' : i < len0 := by simpa using hi
      obtain ⟨g1, g2, g3, _⟩ := hY i hi'
      rw [addr_add] at g1 g2
      have e : ((List.range len0).map (fun i => (Y i).1)).getD i (0, []) = (Y i).1 := by simp [List.getD, hi']
      rw [e]
      exact ⟨g1, (Y i).2, by rw [Nat.add_assoc]; exact g2, g3⟩
    · intro x hx'
      obtain ⟨i, hi, rfl⟩ := List.mem_map.1 hx'
      have := hY i (List.mem_range.1 hi)
      exact this.2.2.2

theorem bd_u64 {n : Int} (h : (Lit.int .u64 n).wf = true) : ∃ m : Nat, n = m ∧ m < 18446744073709551616 := by
  simp [Lit.wf, IntKind.min, IntKind.max, IntKind.signed, IntKind.bits] at h
  exact ⟨n.toNat, by omega, by omega⟩
theorem bd_i64 {n : Int} (h : (Lit.int .i64 n).wf = true) : -9223372036854775808 ≤ n ∧ n ≤ 9223372036854775807 := by
  simp [Lit.wf, IntKind.min, IntKind.max, IntKind.signed, IntKind.bits] at h
  omega

end
end Go.Proofs.Ytnomekfemadpeaa

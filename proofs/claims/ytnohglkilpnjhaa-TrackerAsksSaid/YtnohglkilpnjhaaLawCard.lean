/- From the reading of a law's argument to what the walks ask of it: slices of bytes, hashes by value, slices of slices of bytes. No condition. -/
import Derived.Test.YtnohglkilpnjhaaGa
import Derived.ProofKit
import Derived.OpenShut
import Derived.ChangeOld
import Derived.Deep.Slices
import Derived.Deep.Fields
namespace Go.Proofs.Ytnohglkilpnjhaa
open Go.ChangeShapes Go.WideShapes Go.ChangeAt Go.RowKit Go.Deep
set_option linter.unusedVariables false
set_option linter.unusedSectionVars false

/-- The slice value v reads as the lists of bytes ps. -/
def PartsV (w : World) (v : Value) (ps : List (List UInt8)) : Prop :=
  ∃ (a : Option Addr) (c : Nat), v = .slice a ps.length c ∧ ps.length ≤ c ∧ c ≤ maxLen ∧ (a = none → c = 0) ∧
    (0 < ps.length → ∃ b off, a = some ⟨b, off, none⟩ ∧ b < w.heap.size ∧ ∀ i, i < ps.length → ∃ u, w.cell? ⟨b, off + i, none⟩ = some u ∧ Bytes w u (ps.getD i []))

theorem PartsV.of_new {w w' : World} {v : Value} {ps : List (List UInt8)} (h : PartsV w v ps) (hg : Below w.heap.size w w') : PartsV w' v ps := by
  obtain ⟨a, c, rfl, h1, h2, h3, h4⟩ := h
  refine ⟨a, c, rfl, h1, h2, h3, fun h0 => ?_⟩
  obtain ⟨b, off, rfl, hb, hc⟩ := h4 h0
  refine ⟨b, off, rfl, Nat.lt_of_lt_of_le hb hg.size, fun i hi => ?_⟩
  obtain ⟨u, hu, hub⟩ := hc i hi
  exact ⟨u, by rw [hg.cell (p := ⟨b, off + i, none⟩) hb, hu], hub.of_new hg⟩

theorem PartsV.len {w : World} {v : Value} {ps : List (List UInt8)} (h : PartsV w v ps) : ∃ a c, v = .slice a ps.length c := by
  obtain ⟨a, c, rfl, _⟩ := h
  exact ⟨a, c, rfl⟩
theorem PartsV.le {w : World} {v : Value} {ps : List (List UInt8)} (h : PartsV w v ps) : ps.length ≤ 9223372036854775807 := by
  obtain ⟨a, c, rfl, h1, h2, _⟩ := h
  unfold maxLen at h2; omega

section
variable {H : Type} {enc : TypeId × Value → H} {P : Program} {W : World} {base : Nat} {spare : Nat → Bool} {held : Bool}

theorem addr_none {w : World} {x : Addr} {u : Value} (h : w.cell? x = some u) : ∃ b off, x = ⟨b, off, none⟩ := by
  obtain ⟨b, off, s⟩ := x
  have := World.cell?_spot h
  simp only at this
  exact ⟨b, off, by rw [this]⟩

theorem addr_add (b off j : Nat) : (⟨b, off, none⟩ : Addr).add j = ⟨b, off + j, none⟩ := by
  unfold Addr.add; split <;> simp_all

theorem b8_of_wf {n : Int} (h : (Lit.int .u8 n).wf = true) : Value.int .u8 n = B8 (UInt8.ofNat n.toNat) := by
  simp [Lit.wf, IntKind.min, IntKind.max, IntKind.signed, IntKind.bits] at h
  unfold B8; congr 1; simp; omega

/-- A slice of bytes. -/
theorem bytes_of_trod {t e : TypeId} {fuel : Nat} {cs : List Value} {x : DataW H × List MemPlace} (ht : P.underlying t = some (.slice e)) (he : P.underlying e = some (.int .u8)) (hc : P.cellsOf e = 1)
    (h : DataW.trod enc P W base spare held fuel t cs = some x) : ∃ v l, cs = [v] ∧ Bytes W v l := by
  rcases open_ints ht he hc h with ⟨rfl, _⟩ | ⟨a, len, cap, zs, rfl, _, hl, hm, hz, _, hcell, hwz⟩
  · exact ⟨_, [], rfl, Bytes.of_nil⟩
  · have hlz : len ≤ zs.length := by rw [hz]; split <;> omega
    refine ⟨_, (zs.take len).map (fun n => UInt8.ofNat n.toNat), rfl, ?_⟩
    have hlen : ((zs.take len).map (fun n => UInt8.ofNat n.toNat)).length = len := by simp; omega
    unfold Bytes
    rw [hlen]
    refine ⟨by simp; omega, some a, cap, rfl, hl, hm, (fun h => by cases h), fun hne => ?_⟩
    have h0 := hcell 0 (by omega)
    have e0 : a.add 0 = a := rfl
    rw [e0] at h0
    obtain ⟨b, off, rfl⟩ := addr_none h0
    refine ⟨b, off, rfl, World.block_lt_of_cell? _ _ h0, fun j hj => ?_⟩
    have hj' : j < zs.length := by omega
    have := hcell j hj'
    rw [addr_add] at this
    rw [this, b8_of_wf (hwz _ (by rw [List.getD_eq_getElem?_getD, List.getElem?_eq_getElem hj']; exact List.getElem_mem hj'))]
    simp [List.getElem?_map, show j < len by omega, List.getElem?_eq_getElem hj', List.getD]

theorem open_bytes {t e : TypeId} {v : Value} {d : DataW H} {p : List MemPlace} (ht : P.underlying t = some (.slice e)) (he : P.underlying e = some (.int .u8)) (hc : P.cellsOf e = 1)
    (hv : Value.okWide P W .any base t v) (h : DataW.Trod enc P W 0 spare held t v d p) : ∃ l, Bytes W v l := by
  obtain ⟨a, len, cap, rfl⟩ := okWide_slice ht hv
  obtain ⟨fuel, hf⟩ := h
  obtain ⟨u, l, hu, hl⟩ := bytes_of_trod ht he hc hf
  simp [Value.cells] at hu
  exact ⟨l, by rw [hu]; exact hl⟩

/-- An array of bytes by value. -/
theorem octs_of_trod {t e : TypeId} {n fuel : Nat} {cs : List Value} {x : DataW H × List MemPlace} (ht : P.underlying t = some (.array n e)) (he : P.underlying e = some (.int .u8)) (hce : P.cellsOf e = 1) (hct : P.cellsOf t = n)
    (h : DataW.trod enc P W base spare held fuel t cs = some x) : ∃ l : List UInt8, cs = l.map B8 ∧ l.length = n := by
  obtain ⟨xs, m, rfl, rfl, hl, hxl, hf⟩ := DataW.trod_array ht h
  have one : ∀ i, i < n → ∃ y : UInt8, cs[i]? = some (B8 y) := by
    intro i hi
    have := hf i hi
    rw [List.getElem?_eq_getElem (by omega)] at this
    obtain ⟨q, hq, _, hw⟩ := DataW.trod_int he this
    refine ⟨UInt8.ofNat q.toNat, ?_⟩
    rw [← b8_of_wf hw]
    rw [hce, Nat.mul_one] at hq
    have := congrArg (·[0]?) hq
    simpa [List.getElem?_take, List.getElem?_drop] using this
  obtain ⟨Y, hY⟩ := choose_lt (n := n) (p := fun i (y : UInt8) => cs[i]? = some (B8 y)) one
  refine ⟨(List.range n).map Y, ?_, by simp⟩
  apply List.ext_getElem?
  intro i
  by_cases hi : i < n
  · rw [hY i hi]; simp [hi]
  · rw [List.getElem?_eq_none (by omega), List.getElem?_eq_none (by simp; omega)]

theorem open_octs {t e : TypeId} {n : Nat} {v : Value} {d : DataW H} {p : List MemPlace} (ht : P.underlying t = some (.array n e)) (he : P.underlying e = some (.int .u8)) (hce : P.cellsOf e = 1) (hct : P.cellsOf t = n)
    (hv : Value.okWide P W .any base t v) (h : DataW.Trod enc P W 0 spare held t v d p) : ∃ l : List UInt8, v = .agg (l.map B8).toArray ∧ l.length = n := by
  simp only [Value.okWide, ht] at hv
  obtain ⟨cs, rfl, _, _⟩ := hv
  obtain ⟨fuel, hf⟩ := h
  obtain ⟨l, hl, hn⟩ := octs_of_trod ht he hce hct hf
  refine ⟨l, ?_, hn⟩
  rw [← hl]
  simp [Value.cells]

/-- A slice of slices of bytes. -/
theorem open_parts {t e f : TypeId} {v : Value} {d : DataW H} {p : List MemPlace} (ht : P.underlying t = some (.slice e)) (he : P.underlying e = some (.slice f)) (hf : P.underlying f = some (.int .u8)) (hce : P.cellsOf e = 1) (hcf : P.cellsOf f = 1)
    (hv : Value.okWide P W .any base t v) (h : DataW.Trod enc P W 0 spare held t v d p) : ∃ ps, PartsV W v ps := by
  obtain ⟨a0, len0, cap0, rfl⟩ := okWide_slice ht hv
  obtain ⟨fuel, hfu⟩ := h
  rcases open_slice ht hfu with ⟨hcs, _⟩ | ⟨a, len, cap, m, n, D, Pl, hcs, _, hl, hm, hmm, _, hx⟩
  · simp [Value.cells] at hcs
    obtain ⟨rfl, rfl, rfl⟩ := hcs
    exact ⟨[], none, 0, rfl, Nat.le_refl _, by unfold maxLen; omega, fun _ => rfl, fun h => by simp at h⟩
  · simp [Value.cells] at hcs
    obtain ⟨rfl, rfl, rfl⟩ := hcs
    have hlm : len0 ≤ m := by rw [hmm]; split <;> omega
    have one : ∀ i, i < len0 → ∃ y : Value × List UInt8, W.cell? (a.add i) = some y.1 ∧ Bytes W y.1 y.2 := by
      intro i hi
      obtain ⟨cs', hc, ht'⟩ := hx i (by omega)
      rw [hce, Nat.mul_one] at hc
      obtain ⟨_, hcl, hat⟩ := World.cells?_some hc
      obtain ⟨u, l, rfl, hb⟩ := bytes_of_trod he hf hcf ht'
      refine ⟨(u, l), ?_, hb⟩
      have := hat 0 (by omega)
      rw [show (a.add i).add 0 = a.add i from rfl] at this
      simpa using this
    obtain ⟨Y, hY⟩ := choose_lt (n := len0) (p := fun i (y : Value × List UInt8) => W.cell? (a.add i) = some y.1 ∧ Bytes W y.1 y.2) one
    refine ⟨(List.range len0).map (fun i => (Y i).2), some a, cap0, by simp, by simpa using hl, hm, (fun h => by cases h), fun h0 => ?_⟩
    have h0' : 0 < len0 := by simpa using h0
    have c0 := (hY 0 h0').1
    have e0 : a.add 0 = a := rfl
    rw [e0] at c0
    obtain ⟨b, off, rfl⟩ := addr_none c0
    refine ⟨b, off, rfl, World.block_lt_of_cell? _ _ c0, fun i hi => ?_⟩
    have hi' : i < len0 := by simpa using hi
    obtain ⟨g1, g2⟩ := hY i hi'
    rw [addr_add] at g1
    have e : ((List.range len0).map (fun i => (Y i).2)).getD i [] = (Y i).2 := by simp [List.getD, hi']
    rw [e]
    exact ⟨(Y i).1, g1, g2⟩

theorem bd_u64 {n : Int} (h : (Lit.int .u64 n).wf = true) : ∃ m : Nat, n = m ∧ m < 18446744073709551616 := by
  simp [Lit.wf, IntKind.min, IntKind.max, IntKind.signed, IntKind.bits] at h
  exact ⟨n.toNat, by omega, by omega⟩
theorem bd_u8 {n : Int} (h : (Lit.int .u8 n).wf = true) : ∃ m : UInt8, n = (m.toNat : Int) := by
  simp [Lit.wf, IntKind.min, IntKind.max, IntKind.signed, IntKind.bits] at h
  exact ⟨UInt8.ofNat n.toNat, by simp; omega⟩
theorem bd_i64 {n : Int} (h : (Lit.int .i64 n).wf = true) : -9223372036854775808 ≤ n ∧ n ≤ 9223372036854775807 := by
  simp [Lit.wf, IntKind.min, IntKind.max, IntKind.signed, IntKind.bits] at h
  omega

end
end Go.Proofs.Ytnohglkilpnjhaa

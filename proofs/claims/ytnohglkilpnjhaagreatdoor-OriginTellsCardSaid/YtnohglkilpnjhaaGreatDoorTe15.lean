/- Texts of this claim, one behind the other: each begins with a comment that says what it proves and asks. -/
import Derived.Test.YtnohglkilpnjhaaGreatDoorTe14
import Derived.Test.YtnohglkilpnjhaaGreatDoorRows
import Derived.Lib.LaidTab
import Derived.ProofKit
import Derived.OpenShut
import Derived.ChangeOld
import Derived.Deep.Slices
import Derived.Deep.Fields
/- The table of the hash's constants, as a row lists it: from the row's condition to what the walks ask; a world for the witness. No condition. -/
namespace Go.Proofs.YtnohglkilpnjhaaGreatDoor
open Go.RowKit
set_option linter.unusedVariables false

def shaZ : List Int := [1116352408, 1899447441, 3049323471, 3921009573, 961987163, 1508970993, 2453635748, 2870763221, 3624381080, 310598401, 607225278, 1426881987, 1925078388, 2162078206, 2614888103, 3248222580, 3835390401, 4022224774, 264347078, 604807628, 770255983, 1249150122, 1555081692, 1996064986, 2554220882, 2821834349, 2952996808, 3210313671, 3336571891, 3584528711, 113926993, 338241895, 666307205, 773529912, 1294757372, 1396182291, 1695183700, 1986661051, 2177026350, 2456956037, 2730485921, 2820302411, 3259730800, 3345764771, 3516065817, 3600352804, 4094571909, 275423344, 430227734, 506948616, 659060556, 883997877, 958139571, 1322822218, 1537002063, 1747873779, 1955562222, 2024104815, 2227730452, 2361852424, 2428436474, 2756734187, 3204031479, 3329325298]
theorem gK : Tryz.prog.globalNamed "starling/digest.constants" = some 0 := by kernel_rfl
theorem gKType : (Tryz.prog.globals[0]?).map (·.type) = some 199 := by kernel_rfl
theorem cellsK : Tryz.prog.cellsOf 199 = 64 := by kernel_rfl
theorem cellsK1 : Tryz.prog.cellsOf 151 = 1 := by kernel_rfl
theorem shaZ_at : ∀ j : Fin 64, shaZ.getD j.val 0 = w32 (shaK.getD j.val 0) := by decide

theorem consts_of {W : World} (h : laidMetH Tryz.prog [("starling/digest.constants", Rows.laid_starling_digest_constants)] W) : Consts W := by
  have ht : Lib.TabIs Tryz.prog W "starling/digest.constants" .u32 shaZ := Lib.tabIs_of_head (rest := []) gK gKType Tryz.underlying199 Tryz.underlying151 cellsK1 cellsK h
  intro j hj
  have := ht.cell gK j hj
  rw [this]
  unfold W32
  rw [← shaZ_at ⟨j, hj⟩]

/-- A world for the witness: the settled one, the table holding what its initialiser lays. -/
noncomputable def laidWorld (os : Os) : World :=
  { World.holding Tryz.prog os ⟨#[], #[], []⟩ with heap := (World.holding Tryz.prog os ⟨#[], #[], []⟩).heap.modify 0 fun
      | .cells _ t frozen => .cells #[.int .u32 1116352408, .int .u32 1899447441, .int .u32 3049323471, .int .u32 3921009573, .int .u32 961987163, .int .u32 1508970993, .int .u32 2453635748, .int .u32 2870763221, .int .u32 3624381080, .int .u32 310598401, .int .u32 607225278, .int .u32 1426881987, .int .u32 1925078388, .int .u32 2162078206, .int .u32 2614888103, .int .u32 3248222580, .int .u32 3835390401, .int .u32 4022224774, .int .u32 264347078, .int .u32 604807628, .int .u32 770255983, .int .u32 1249150122, .int .u32 1555081692, .int .u32 1996064986, .int .u32 2554220882, .int .u32 2821834349, .int .u32 2952996808, .int .u32 3210313671, .int .u32 3336571891, .int .u32 3584528711, .int .u32 113926993, .int .u32 338241895, .int .u32 666307205, .int .u32 773529912, .int .u32 1294757372, .int .u32 1396182291, .int .u32 1695183700, .int .u32 1986661051, .int .u32 2177026350, .int .u32 2456956037, .int .u32 2730485921, .int .u32 2820302411, .int .u32 3259730800, .int .u32 3345764771, .int .u32 3516065817, .int .u32 3600352804, .int .u32 4094571909, .int .u32 275423344, .int .u32 430227734, .int .u32 506948616, .int .u32 659060556, .int .u32 883997877, .int .u32 958139571, .int .u32 1322822218, .int .u32 1537002063, .int .u32 1747873779, .int .u32 1955562222, .int .u32 2024104815, .int .u32 2227730452, .int .u32 2361852424, .int .u32 2428436474, .int .u32 2756734187, .int .u32 3204031479, .int .u32 3329325298] t frozen
      | o => o }

end Go.Proofs.YtnohglkilpnjhaaGreatDoor

/- From the reading of a law's argument to what the walks ask of it: slices of hashes, pairs of hashes, pairs of numbers. No condition. -/
namespace Go.Proofs.YtnohglkilpnjhaaGreatDoor
open Go.ChangeShapes Go.WideShapes Go.ChangeAt Go.RowKit Go.Deep
set_option linter.unusedVariables false
set_option linter.unusedSectionVars false

section
variable {H : Type} {enc : TypeId × Value → H} {P : Program} {W : World} {base : Nat} {spare : Nat → Bool} {held : Bool}

/-- A pair of numbers by value. -/
theorem open_twoint {t e : TypeId} {v : Value} {d : DataW H} {p : List MemPlace} (ht : P.underlying t = some (.array 2 e)) (he : P.underlying e = some (.int .i64)) (hce : P.cellsOf e = 1) (hct : P.cellsOf t = 2)
    (hv : Value.okWide P W .any base t v) (h : DataW.Trod enc P W 0 spare held t v d p) : ∃ a b : Int, v = .agg #[.int .i64 a, .int .i64 b] ∧ (-9223372036854775808 ≤ a ∧ a ≤ 9223372036854775807) ∧ -9223372036854775808 ≤ b ∧ b ≤ 9223372036854775807 := by
  simp only [Value.okWide, ht] at hv
  obtain ⟨cs, rfl, _, _⟩ := hv
  obtain ⟨fuel, hfu⟩ := h
  obtain ⟨xs, m, h1, h2, hl, hxl, hx⟩ := DataW.trod_array ht hfu
  have a0 := hx 0 (by omega)
  have a1 := hx 1 (by omega)
  rw [List.getElem?_eq_getElem (by omega)] at a0 a1
  obtain ⟨q0, e0, _, w0⟩ := DataW.trod_int he a0
  obtain ⟨q1, e1, _, w1⟩ := DataW.trod_int he a1
  refine ⟨q0, q1, ?_, bd_i64 w0, bd_i64 w1⟩
  rw [hce] at e0 e1
  simp only [Value.cells] at e0 e1 hl
  congr 1
  rw [← Array.toArray_toList (xs := cs)]
  congr 1
  simp only [Nat.zero_mul, List.drop_zero, Nat.one_mul] at e0 e1
  rw [← List.take_append_drop 1 cs.toList, e0, ← List.take_of_length_le (i := 1) (l := cs.toList.drop 1) (by simp at hl ⊢; omega), e1]
  rfl

end
end Go.Proofs.YtnohglkilpnjhaaGreatDoor

/- From the reading of a law's argument to what the walks ask of it: slices of numbers. No condition. -/
namespace Go.Proofs.YtnohglkilpnjhaaGreatDoor
open Go.ChangeShapes Go.WideShapes Go.ChangeAt Go.RowKit Go.Deep
set_option linter.unusedVariables false
set_option linter.unusedSectionVars false
set_option maxRecDepth 100000

section
variable {H : Type} {enc : TypeId × Value → H} {P : Program} {W : World} {base : Nat} {spare : Nat → Bool} {held : Bool}

theorem addr_none12 {w : World} {x : Addr} {u : Value} (h : w.cell? x = some u) : ∃ b off, x = ⟨b, off, none⟩ := by
  obtain ⟨b, off, s⟩ := x
  have := World.cell?_spot h
  simp only at this
  exact ⟨b, off, by rw [this]⟩
theorem addr_add12 (b off j : Nat) : (⟨b, off, none⟩ : Addr).add j = ⟨b, off + j, none⟩ := by
  unfold Addr.add; split <;> simp_all
/-- A slice of numbers. -/
theorem ints_of_trod12 {t e : TypeId} {fuel : Nat} {cs : List Value} {x : DataW H × List MemPlace} (ht : P.underlying t = some (.slice e)) (he : P.underlying e = some (.int .i64)) (hc : P.cellsOf e = 1)
    (h : DataW.trod enc P W base spare held fuel t cs = some x) : ∃ v l, cs = [v] ∧ Ints W v l ∧ ∀ n ∈ l, inI64 n := by
  rcases open_ints ht he hc h with ⟨rfl, _⟩ | ⟨a, len, cap, zs, rfl, _, hl, hm, hz, _, hcell, hwz⟩
  · exact ⟨_, [], rfl, Row.of_nil 1, fun n h => by cases h⟩
  · have hlz : len ≤ zs.length := by rw [hz]; split <;> omega
    refine ⟨_, zs.take len, rfl, ?_, fun n hn => bd_i64 (hwz n (List.mem_of_mem_take hn))⟩
    have hlen : (zs.take len).length = len := by simp; omega
    unfold Ints
    rw [hlen]
    refine ⟨by simp; omega, some a, cap, rfl, hl, hm, (fun h => by cases h), fun hne => ?_⟩
    have h0 := hcell 0 (by omega)
    have e0 : a.add 0 = a := rfl
    rw [e0] at h0
    obtain ⟨b, off, rfl⟩ := addr_none12 h0
    refine ⟨b, off, rfl, World.block_lt_of_cell? _ _ h0, fun j hj => ?_⟩
    have hj' : j < zs.length := by omega
    have := hcell j hj'
    rw [addr_add12] at this
    rw [this]
    simp [List.getElem?_map, show j < len by omega, List.getElem?_eq_getElem hj', List.getD, I64]

theorem open_intsl {t e : TypeId} {v : Value} {d : DataW H} {p : List MemPlace} (ht : P.underlying t = some (.slice e)) (he : P.underlying e = some (.int .i64)) (hc : P.cellsOf e = 1)
    (hv : Value.okWide P W .any base t v) (h : DataW.Trod enc P W 0 spare held t v d p) : ∃ l, Ints W v l ∧ ∀ n ∈ l, inI64 n := by
  obtain ⟨a, len, cap, rfl⟩ := okWide_slice ht hv
  obtain ⟨fuel, hf⟩ := h
  obtain ⟨u, l, hu, hl, hw⟩ := ints_of_trod12 ht he hc hf
  simp [Value.cells] at hu
  exact ⟨l, by rw [hu]; exact hl, hw⟩

end
end Go.Proofs.YtnohglkilpnjhaaGreatDoor

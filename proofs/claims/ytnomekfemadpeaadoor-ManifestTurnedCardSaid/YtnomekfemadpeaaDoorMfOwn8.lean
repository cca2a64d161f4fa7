/- A slice of bytes of the call's own: an empty one, one byte laid, a byte that bits make. No condition. -/
import Derived.Test.YtnomekfemadpeaaDoorMfAwake
import Derived.Laws.OwnMore
namespace Go.Proofs.YtnomekfemadpeaaDoor
open Go.RowKit
set_option linter.unusedVariables false

theorem own8_empty (w : World) : Own8 (w.alloc (.cells #[] 5)) w.heap.size 5 (.slice (some ⟨w.heap.size, 0, none⟩) 0 0) [] := World.ownsRow_made w #[] 0 (Nat.le_refl _) (by unfold maxLen; omega) rfl
theorem Own8.block {w : World} {base e : Nat} {v : Value} {l : List UInt8} (h : Own8 w base e v l) (h0 : 0 < l.length) : ∃ g cap, v = .slice (some ⟨g, 0, none⟩) l.length cap ∧ base ≤ g ∧ g < w.heap.size := by
  rcases h.2 with ⟨_, h1⟩ | ⟨g, cap, cur, hv, hb, hg, _⟩
  · omega
  · exact ⟨g, cap, hv, hb, (Array.getElem?_eq_some_iff.1 hg).1⟩
theorem Own8.cellAt {w : World} {base e g n cap : Nat} {l : List UInt8} (h : Own8 w base e (.slice (some ⟨g, 0, none⟩) n cap) l) (hn : n = l.length) {p : Nat} (hp : p < l.length) : w.cell? ⟨g, p, none⟩ = some (B8 (l.getD p 0)) := by
  subst hn
  rw [World.ownsRow.cellAt h p (by omega), List.getElem?_map, List.getElem?_eq_getElem hp]
  simp [List.getD, List.getElem?_eq_getElem hp]
theorem Own8.frozenAt {w : World} {base e g n cap : Nat} {l : List UInt8} (h : Own8 w base e (.slice (some ⟨g, 0, none⟩) n cap) l) (hn : n = l.length) (p : Nat) : w.frozen? ⟨g, p, none⟩ = false := by
  subst hn
  exact World.ownsRow.frozenAt h p
theorem Own8.set {w : World} {base e g n cap : Nat} {l : List UInt8} (h : Own8 w base e (.slice (some ⟨g, 0, none⟩) n cap) l) (hn : n = l.length) (p : Nat) (z : UInt8) :
    Own8 (w.setCell ⟨g, p, none⟩ (B8 z)) base e (.slice (some ⟨g, 0, none⟩) n cap) (l.set p z) ∧ w.grownBy (w.setCell ⟨g, p, none⟩ (B8 z)) (some g) := by
  subst hn
  obtain ⟨h1, h2⟩ := World.ownsRow.stored h p (B8 z)
  refine ⟨?_, h2⟩
  unfold Own8
  rw [List.length_set, List.map_set]
  exact h1
theorem wrap_B8 (n : Int) : ∃ z : UInt8, Value.int .u8 (IntKind.u8.wrap n) = B8 z :=
  ⟨UInt8.ofNat (n % 256).toNat, by unfold B8; congr 1; rw [IntKind.wrap_u8']; simp; omega⟩
theorem xor_B8 (a c : Int) : ∃ z : UInt8, Value.int .u8 (bits BinOp.xor IntKind.u8 a c) = B8 z := wrap_B8 _

end Go.Proofs.YtnomekfemadpeaaDoor

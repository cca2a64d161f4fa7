/- The rows above leaves, in plain Lean. No condition. -/
import Derived.Test.YtnomekfemadpeaaDoorDigs
import Derived.Test.YtnomekfemadpeaaDoorMrkNode
namespace Go.Proofs.YtnomekfemadpeaaDoor
open Go.RowKit
set_option linter.unusedVariables false
set_option linter.unusedSimpArgs false

/-- The row above one. -/
def aboveL : List (List UInt8) → List (List UInt8)
  | a :: b :: t => nodeL a b :: aboveL t
  | l => l

theorem aboveL_len : ∀ l : List (List UInt8), (aboveL l).length = (l.length + 1) / 2
  | [] => by simp [aboveL]
  | [_] => by simp [aboveL]
  | a :: b :: t => by
    have := aboveL_len t
    simp only [aboveL, List.length_cons]
    omega
theorem aboveL_32 : ∀ l : List (List UInt8), Dig32 l → Dig32 (aboveL l)
  | [], _ => fun _ h => by simp [aboveL] at h
  | [a], h => h
  | a :: b :: t, h => fun d hd => by
    simp only [aboveL, List.mem_cons] at hd
    rcases hd with rfl | hd
    · exact nodeL_len _ _
    · exact aboveL_32 t (fun d hd => h d (by simp [hd])) d hd
theorem aboveL_at : ∀ (l : List (List UInt8)) (k : Nat), 2 * k + 1 < l.length → (aboveL l).getD k [] = nodeL (l.getD (2 * k) []) (l.getD (2 * k + 1) [])
  | [], _, h => by simp at h
  | [_], _, h => by simp at h
  | a :: b :: t, 0, _ => by simp [aboveL]
  | a :: b :: t, k + 1, h => by
    simp only [List.length_cons] at h
    have := aboveL_at t k (by omega)
    simp only [aboveL, List.getD_cons_succ]
    rw [this, show 2 * (k + 1) = 2 * k + 1 + 1 by omega]
    simp only [List.getD_cons_succ]
theorem aboveL_last : ∀ (l : List (List UInt8)), l.length % 2 = 1 → (aboveL l).getD (l.length / 2) [] = l.getD (l.length - 1) []
  | [], h => by simp at h
  | [_], _ => by simp [aboveL]
  | a :: b :: t, h => by
    simp only [List.length_cons] at h
    have := aboveL_last t (by omega)
    simp only [aboveL, List.length_cons]
    rw [show (t.length + 1 + 1) / 2 = t.length / 2 + 1 by omega, List.getD_cons_succ, this, show t.length + 1 + 1 - 1 = (t.length - 1) + 1 + 1 by omega, List.getD_cons_succ, List.getD_cons_succ]

/-- The rows from one on, up to the root's. -/
def rowsP : Nat → List (List UInt8) → List (List (List UInt8))
  | 0, l => [l]
  | f + 1, l => if l.length ≤ 1 then [l] else l :: rowsP f (aboveL l)
def rowsL (l : List (List UInt8)) : List (List (List UInt8)) := rowsP l.length l
theorem rowsP_more (f g : Nat) (l : List (List UInt8)) (hf : l.length ≤ f) (hg : l.length ≤ g) : rowsP f l = rowsP g l := by
  induction f generalizing g l with
  | zero =>
    cases g with
    | zero => rfl
    | succ g => simp only [rowsP]; rw [if_pos (by omega)]
  | succ f ih =>
    cases g with
    | zero => simp only [rowsP]; rw [if_pos (by omega)]
    | succ g =>
      simp only [rowsP]
      split
      · rfl
      · rw [ih g _ (by rw [aboveL_len]; omega) (by rw [aboveL_len]; omega)]
theorem rowsL_step {l : List (List UInt8)} (h : 1 < l.length) : rowsL l = l :: rowsL (aboveL l) := by
  unfold rowsL
  obtain ⟨k, hk⟩ : ∃ k, l.length = k + 1 := ⟨l.length - 1, by omega⟩
  rw [hk, rowsP, if_neg (by omega), rowsP_more k _ _ (by rw [aboveL_len]; omega) (Nat.le_refl _)]
theorem rowsL_end {l : List (List UInt8)} (h : l.length ≤ 1) : rowsL l = [l] := by
  unfold rowsL
  match l, h with
  | [], _ => rfl
  | [_], _ => rfl

/-- The row while the one above is laid into it. -/
def contL (l : List (List UInt8)) (k : Nat) : List (List UInt8) := (aboveL l).take k ++ l.drop k

theorem contL_len {l : List (List UInt8)} {k : Nat} (h : k ≤ l.length / 2) : (contL l k).length = l.length := by
  unfold contL
  rw [List.length_append, List.length_take, List.length_drop, aboveL_len]
  omega
theorem contL_at {l : List (List UInt8)} {k i : Nat} (h : k ≤ l.length / 2) (hi : k ≤ i) : (contL l k).getD i [] = l.getD i [] := by
  unfold contL
  have e : ((aboveL l).take k).length = k := by rw [List.length_take, aboveL_len]; omega
  rw [List.getD_eq_getElem?_getD, List.getElem?_append_right (by omega), e, List.getElem?_drop, show k + (i - k) = i by omega, List.getD_eq_getElem?_getD]
theorem contL_set {l : List (List UInt8)} {k : Nat} (h : k < (l.length + 1) / 2) (hk : k ≤ l.length / 2) : (contL l k).set k ((aboveL l).getD k []) = (aboveL l).take (k + 1) ++ l.drop (k + 1) := by
  unfold contL
  have e : ((aboveL l).take k).length = k := by rw [List.length_take, aboveL_len]; omega
  rw [List.set_append_right _ _ (by omega), e, Nat.sub_self, List.drop_eq_getElem_cons (show k < l.length by omega), List.set_cons_zero]
  have hk2 : k < (aboveL l).length := by rw [aboveL_len]; omega
  rw [List.getD_eq_getElem?_getD, List.getElem?_eq_getElem hk2, Option.getD_some, ← List.take_append_getElem hk2, List.append_assoc]
  rfl

end Go.Proofs.YtnomekfemadpeaaDoor

/- The items that bytes are, in plain Lean. No condition. -/
import Derived.Test.YtnomekfemadpeaaDoorTlvLaws
import Derived.Test.YtnomekfemadpeaaDoorItems
namespace Go.Proofs.YtnomekfemadpeaaDoor
set_option linter.unusedVariables false

/-- The first item of bytes, and what is behind it. -/
def oneI : List UInt8 → Option (It × List UInt8)
  | [] => none
  | x :: r => match cutL 0 0 r with
    | none => none
    | some (n, m) => if (r.drop m).length < n then none else some ((((x.toNat : Nat) : Int), (r.drop m).take n), (r.drop m).drop n)

/-- The items that bytes begin with; where what is left is none, one of the number 0. -/
def itemsP : Nat → List UInt8 → List It
  | 0, _ => []
  | f + 1, b => if b = [] then [] else match oneI b with
    | none => [(0, [])]
    | some (x, r) => x :: itemsP f r
def itemsL (b : List UInt8) : List It := itemsP b.length b

theorem oneI_len {b r : List UInt8} {x : It} (h : oneI b = some (x, r)) : r.length < b.length ∧ x.2.length ≤ b.length := by
  cases b with
  | nil => simp [oneI] at h
  | cons y t =>
    simp only [oneI] at h
    split at h
    · cases h
    · rename_i n m hc
      split at h
      · cases h
      · simp only [Option.some.injEq, Prod.mk.injEq] at h
        obtain ⟨rfl, rfl⟩ := h
        simp only [List.length_drop, List.length_cons, List.length_take]
        omega
theorem itemsP_more (f g : Nat) (b : List UInt8) (hf : b.length ≤ f) (hg : b.length ≤ g) : itemsP f b = itemsP g b := by
  induction f generalizing g b with
  | zero =>
    have : b = [] := List.eq_nil_of_length_eq_zero (by omega)
    subst this
    cases g <;> simp [itemsP]
  | succ f ih =>
    cases g with
    | zero =>
      have : b = [] := List.eq_nil_of_length_eq_zero (by omega)
      subst this
      simp [itemsP]
    | succ g =>
      simp only [itemsP]
      split
      · rfl
      · split
        · rfl
        · rename_i x r h
          have := (oneI_len h).1
          rw [ih g r (by omega) (by omega)]
theorem itemsL_nil : itemsL [] = [] := rfl
theorem itemsL_bad {b : List UInt8} (h0 : b ≠ []) (h : oneI b = none) : itemsL b = [(0, [])] := by
  unfold itemsL
  obtain ⟨k, hk⟩ : ∃ k, b.length = k + 1 := ⟨b.length - 1, by have := List.length_pos_iff.2 h0; omega⟩
  rw [hk]
  simp only [itemsP, h0, if_false, h]
theorem itemsL_step {b r : List UInt8} {x : It} (h : oneI b = some (x, r)) : itemsL b = x :: itemsL r := by
  have h0 : b ≠ [] := by rintro rfl; simp [oneI] at h
  unfold itemsL
  obtain ⟨k, hk⟩ : ∃ k, b.length = k + 1 := ⟨b.length - 1, by have := List.length_pos_iff.2 h0; omega⟩
  rw [hk]
  simp only [itemsP, h0, if_false, h]
  rw [itemsP_more k r.length r (by have := (oneI_len h).1; omega) (Nat.le_refl _)]
theorem itemsL_len (b : List UInt8) : (itemsL b).length ≤ b.length := by
  obtain ⟨n, hn⟩ : ∃ n, b.length ≤ n := ⟨_, Nat.le_refl _⟩
  induction n generalizing b with
  | zero =>
    have : b = [] := List.eq_nil_of_length_eq_zero (by omega)
    subst this; simp [itemsL_nil]
  | succ n ih =>
    by_cases h0 : b = []
    · subst h0; simp [itemsL_nil]
    · have := List.length_pos_iff.2 h0
      cases h : oneI b with
      | none => rw [itemsL_bad h0 h]; simp; omega
      | some p =>
        obtain ⟨x, r⟩ := p
        have h1 := (oneI_len h).1
        rw [itemsL_step h]
        have := ih r (by omega)
        simp; omega

/-- Are the numbers in order? -/
def checkF : List It → Int → Option (List It)
  | [], _ => some []
  | x :: xs, last => if x.1 ≤ last ∨ 63 < x.1 then none else (checkF xs x.1).map (x :: ·)
def decL (b : List UInt8) : Option (List It) := if 65536 < b.length then none else checkF (itemsL b) 0

/-- The last number. -/
def lastN : List It → Int → Int
  | [], last => last
  | x :: xs, _ => lastN xs x.1
theorem lastN_snoc : ∀ (l : List It) (last : Int) (x : It), lastN (l ++ [x]) last = x.1
  | [], _, _ => rfl
  | y :: l, last, x => lastN_snoc l y.1 x
theorem checkF_some : ∀ (l : List It) (last : Int) (m : List It), checkF l last = some m → m = l
  | [], last, m, h => by simp only [checkF, Option.some.injEq] at h; exact h.symm
  | y :: l, last, m, h => by
    simp only [checkF] at h
    split at h
    · cases h
    · cases hc : checkF l y.1 with
      | none => rw [hc] at h; cases h
      | some q =>
        rw [hc] at h
        simp only [Option.map_some, Option.some.injEq] at h
        rw [← h, checkF_some l y.1 q hc]
theorem checkF_append : ∀ (l : List It) (last : Int) (r : List It), checkF l last = some l → checkF (l ++ r) last = (checkF r (lastN l last)).map (l ++ ·)
  | [], last, r, h => by simp [lastN]
  | y :: l, last, r, h => by
    simp only [checkF] at h
    split at h
    · cases h
    · rename_i hy
      cases hc : checkF l y.1 with
      | none => rw [hc] at h; cases h
      | some q =>
        rw [checkF_some l y.1 q hc] at hc
        simp only [List.cons_append, checkF, if_neg hy, lastN, checkF_append l y.1 r hc]
        cases checkF r (lastN l y.1) <;> simp
theorem checkF_snoc {l : List It} {last : Int} {x : It} (h : checkF l last = some l) : checkF (l ++ [x]) last = if x.1 ≤ lastN l last ∨ 63 < x.1 then none else some (l ++ [x]) := by
  rw [checkF_append l last [x] h]
  simp only [checkF]
  split <;> simp
theorem lastN_ok {l : List It} {last : Int} (h : checkF l last = some l) (h0 : 0 ≤ last) (h1 : last ≤ 63) : 0 ≤ lastN l last ∧ lastN l last ≤ 63 := by
  induction l generalizing last with
  | nil => exact ⟨h0, h1⟩
  | cons y l ih =>
    simp only [checkF] at h
    split at h
    · cases h
    · rename_i hy
      cases hc : checkF l y.1 with
      | none => rw [hc] at h; cases h
      | some q =>
        obtain rfl := checkF_some l y.1 q hc
        exact ih hc (by omega) (by omega)
theorem checkF_none_append : ∀ (l r : List It) (last : Int), checkF l last = none → checkF (l ++ r) last = none
  | [], r, last, h => by simp [checkF] at h
  | y :: l, r, last, h => by
    simp only [checkF] at h
    simp only [List.cons_append, checkF]
    split
    · rfl
    · rename_i hy
      rw [if_neg hy] at h
      cases hc : checkF l y.1 with
      | none => rw [checkF_none_append l r y.1 hc]; rfl
      | some q => rw [hc] at h; cases h

end Go.Proofs.YtnomekfemadpeaaDoor

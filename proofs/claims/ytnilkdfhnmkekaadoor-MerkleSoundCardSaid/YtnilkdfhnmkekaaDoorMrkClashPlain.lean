/- Where a leaf leads to the root, in plain Lean: the proof of a leaf leads there; what leads there is the leaf, or two unlike pairs have one Node. No condition. -/
import Derived.Test.YtnilkdfhnmkekaaDoorMrkCheck
import Derived.Test.YtnilkdfhnmkekaaDoorMrkLawProofs
namespace Go.Proofs.YtnilkdfhnmkekaaDoor
set_option linter.unusedVariables false

theorem upP_cons' (n i : Nat) (r : List (Nat × Nat)) (x : List UInt8) (p : List (List UInt8)) : upP ((n, i) :: r) x p = if besideZ n i < 0 then upP r x p else if i % 2 = 1 then upP r (nodeL (p.getD 0 []) x) p.tail else upP r (nodeL x (p.getD 0 [])) p.tail := rfl

/-- The place of a row above where a leaf's Node stands. -/
theorem above_odd {l : List (List UInt8)} {i : Nat} (h : i < l.length) (ho : i % 2 = 1) : (aboveL l).getD (i / 2) [] = nodeL (l.getD (i - 1) []) (l.getD i []) := by
  rw [aboveL_at l (i / 2) (by omega), show 2 * (i / 2) = i - 1 by omega, show i - 1 + 1 = i by omega]
theorem above_even {l : List (List UInt8)} {i : Nat} (h : i + 1 < l.length) (ho : ¬ i % 2 = 1) : (aboveL l).getD (i / 2) [] = nodeL (l.getD i []) (l.getD (i + 1) []) := by
  rw [aboveL_at l (i / 2) (by omega), show 2 * (i / 2) = i by omega]
theorem above_end {l : List (List UInt8)} {i : Nat} (h : i < l.length) (ho : ¬ i % 2 = 1) (he : ¬ i + 1 < l.length) : (aboveL l).getD (i / 2) [] = l.getD i [] := by
  have := aboveL_last l (by omega)
  rw [show l.length / 2 = i / 2 by omega, show l.length - 1 = i by omega] at this
  exact this
theorem besideZ_odd {n i : Nat} (h : i < n) (ho : i % 2 = 1) : besideZ n i = ((i - 1 : Nat) : Int) := by unfold besideZ; rw [if_pos ho]; omega
theorem besideZ_even {n i : Nat} (h : i + 1 < n) (ho : ¬ i % 2 = 1) : besideZ n i = ((i + 1 : Nat) : Int) := by unfold besideZ; rw [if_neg ho, if_pos h]; omega
theorem besideZ_end {n i : Nat} (h : ¬ i + 1 < n) (ho : ¬ i % 2 = 1) : besideZ n i = -1 := by unfold besideZ; rw [if_neg ho, if_neg h]

/-- The proof of a leaf leads to the root. -/
theorem leads (n : Nat) : ∀ (l : List (List UInt8)) (i : Nat), l.length ≤ n → i < l.length → l.length ≤ 1024 → (upP (walkN l.length i) (l.getD i []) (proofL l i)).1 = rootL l := by
  induction n with
  | zero => intro l i h1 h2; omega
  | succ n ih =>
    intro l i h1 h2 h3
    by_cases h : 1 < l.length
    · have h4 := ih (aboveL l) (i / 2) (by rw [aboveL_len]; omega) (by rw [aboveL_len]; omega) (by rw [aboveL_len]; omega)
      rw [aboveL_len] at h4
      rw [walkN_step h h3, upP_cons', proofL_step h, rootL_step h, ← h4]
      unfold stepP
      by_cases ho : i % 2 = 1
      · rw [besideZ_odd h2 ho, if_neg (by omega), if_pos ho, if_pos (by omega), above_odd h2 ho]
        simp only [Int.toNat_natCast, List.singleton_append, List.getD_cons_zero, List.tail_cons]
      · by_cases he : i + 1 < l.length
        · rw [besideZ_even he ho, if_neg (by omega), if_neg ho, if_pos (by omega), above_even he ho]
          simp only [Int.toNat_natCast, List.singleton_append, List.getD_cons_zero, List.tail_cons]
        · rw [besideZ_end he ho, if_pos (by omega), if_neg (by omega), above_end h2 ho he]
          rfl
    · rw [walkN_end (by omega), rootL_one (by omega)]
      obtain rfl : i = 0 := by omega
      rfl

/-- What Clash tells. -/
def clashP : Nat → List (List UInt8) → Nat → List UInt8 → List (List UInt8) → Bool
  | 0, _, _, _, _ => false
  | f + 1, l, i, x, r =>
    if l.length ≤ 1 then false
    else if i % 2 = 1 then
      (if (¬ (r.getD 0 [] = l.getD (i - 1) [] ∧ x = l.getD i [])) ∧ nodeL (r.getD 0 []) x = nodeL (l.getD (i - 1) []) (l.getD i []) then true else clashP f (aboveL l) (i / 2) (nodeL (r.getD 0 []) x) r.tail)
    else if i + 1 < l.length then
      (if (¬ (x = l.getD i [] ∧ r.getD 0 [] = l.getD (i + 1) [])) ∧ nodeL x (r.getD 0 []) = nodeL (l.getD i []) (l.getD (i + 1) []) then true else clashP f (aboveL l) (i / 2) (nodeL x (r.getD 0 [])) r.tail)
    else clashP f (aboveL l) (i / 2) x r
def clashL (l : List (List UInt8)) (i : Nat) (x : List UInt8) (r : List (List UInt8)) : Bool := clashP l.length l i x r
theorem clashP_more (f g : Nat) (l : List (List UInt8)) (i : Nat) (x : List UInt8) (r : List (List UInt8)) (hf : l.length ≤ f) (hg : l.length ≤ g) : clashP f l i x r = clashP g l i x r := by
  induction f generalizing g l i x r with
  | zero =>
    cases g with
    | zero => rfl
    | succ g => simp only [clashP]; rw [if_pos (by omega)]
  | succ f ih =>
    cases g with
    | zero => simp only [clashP]; rw [if_pos (by omega)]
    | succ g =>
      simp only [clashP]
      have hi : ∀ y q, 1 < l.length → clashP f (aboveL l) (i / 2) y q = clashP g (aboveL l) (i / 2) y q := fun y q h => ih g _ _ _ _ (by rw [aboveL_len]; omega) (by rw [aboveL_len]; omega)
      split
      · rfl
      · rename_i h
        simp only [hi _ _ (show 1 < l.length by omega)]
theorem clashL_step {l : List (List UInt8)} (h : 1 < l.length) (i : Nat) (x : List UInt8) (r : List (List UInt8)) : clashL l i x r =
    if i % 2 = 1 then
      (if (¬ (r.getD 0 [] = l.getD (i - 1) [] ∧ x = l.getD i [])) ∧ nodeL (r.getD 0 []) x = nodeL (l.getD (i - 1) []) (l.getD i []) then true else clashL (aboveL l) (i / 2) (nodeL (r.getD 0 []) x) r.tail)
    else if i + 1 < l.length then
      (if (¬ (x = l.getD i [] ∧ r.getD 0 [] = l.getD (i + 1) [])) ∧ nodeL x (r.getD 0 []) = nodeL (l.getD i []) (l.getD (i + 1) []) then true else clashL (aboveL l) (i / 2) (nodeL x (r.getD 0 [])) r.tail)
    else clashL (aboveL l) (i / 2) x r := by
  unfold clashL
  obtain ⟨k, hk⟩ : ∃ k, l.length = k + 1 := ⟨l.length - 1, by omega⟩
  rw [hk, clashP, if_neg (by omega), hk]
  simp only [clashP_more k (aboveL l).length (aboveL l) _ _ _ (by rw [aboveL_len]; omega) (Nat.le_refl _)]
theorem clashL_end {l : List (List UInt8)} (h : l.length ≤ 1) (i : Nat) (x : List UInt8) (r : List (List UInt8)) : clashL l i x r = false := by
  unfold clashL
  match l, h with
  | [], _ => rfl
  | [a], _ => rfl

/-- What leads to the root is the leaf that stands there, or Clash finds two unlike pairs. -/
theorem sound (n : Nat) : ∀ (l : List (List UInt8)) (i : Nat) (x : List UInt8) (r : List (List UInt8)), l.length ≤ n → i < l.length → l.length ≤ 1024 → (upP (walkN l.length i) x r).1 = rootL l → x = l.getD i [] ∨ clashL l i x r = true := by
  induction n with
  | zero => intro l i x r h1 h2; omega
  | succ n ih =>
    intro l i x r h1 h2 h3 hu
    by_cases h : 1 < l.length
    · have h4 := fun y q => ih (aboveL l) (i / 2) y q (by rw [aboveL_len]; omega) (by rw [aboveL_len]; omega) (by rw [aboveL_len]; omega)
      rw [aboveL_len] at h4
      rw [walkN_step h h3, upP_cons', rootL_step h] at hu
      rw [clashL_step h]
      by_cases ho : i % 2 = 1
      · rw [besideZ_odd h2 ho, if_neg (by omega), if_pos ho] at hu
        rw [if_pos ho]
        have h5 := h4 _ _ hu
        rw [above_odd h2 ho] at h5
        by_cases hp : r.getD 0 [] = l.getD (i - 1) [] ∧ x = l.getD i []
        · exact .inl hp.2
        · rcases h5 with h5 | h5
          · right; rw [if_pos ⟨hp, h5⟩]
          · right; split
            · rfl
            · exact h5
      · by_cases he : i + 1 < l.length
        · rw [besideZ_even he ho, if_neg (by omega), if_neg ho] at hu
          rw [if_neg ho, if_pos he]
          have h5 := h4 _ _ hu
          rw [above_even he ho] at h5
          by_cases hp : x = l.getD i [] ∧ r.getD 0 [] = l.getD (i + 1) []
          · exact .inl hp.1
          · rcases h5 with h5 | h5
            · right; rw [if_pos ⟨hp, h5⟩]
            · right; split
              · rfl
              · exact h5
        · rw [besideZ_end he ho, if_pos (by omega)] at hu
          rw [if_neg ho, if_neg he]
          have h5 := h4 _ _ hu
          rw [above_end h2 ho he] at h5
          exact h5
    · rw [walkN_end (by omega), rootL_one (by omega)] at hu
      obtain rfl : i = 0 := by omega
      exact .inl hu

end Go.Proofs.YtnilkdfhnmkekaaDoor

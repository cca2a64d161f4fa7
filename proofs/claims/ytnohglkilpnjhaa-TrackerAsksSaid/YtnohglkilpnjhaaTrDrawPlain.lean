/- Numbers that look like chance, and a list in another order, in plain Lean. No condition. -/
import Derived.Test.YtnohglkilpnjhaaGa
namespace Go.Proofs.Ytnohglkilpnjhaa
set_option linter.unusedVariables false
set_option linter.unusedSimpArgs false

def mix1 (z : Nat) : Nat := ((z ^^^ (z / 1073741824)) * 13787848793156543929) % 18446744073709551616
def mix2 (z : Nat) : Nat := ((z ^^^ (z / 134217728)) * 10723151780598845931) % 18446744073709551616
def mix3 (z : Nat) : Nat := z ^^^ (z / 2147483648)
def mixN (z : Nat) : Nat := mix3 (mix2 (mix1 z))
def nextN (s : Nat) : Nat := (s + 11400714819323198485) % 18446744073709551616
def belowN (s n : Nat) : Nat := mixN (nextN s) * n / 18446744073709551616
def swapL (l : List Int) (i k : Nat) : List Int := (l.set i (l.getD k 0)).set k (l.getD i 0)
/-- Places i, i - 1 .. 1 each get the number of a place not behind them. -/
def shufF : Nat → Nat → List Int → List Int
  | 0, _, l => l
  | i + 1, s, l => shufF i (nextN s) (swapL l (i + 1) (belowN s (i + 2)))
def shufL (s : Nat) (l : List Int) : List Int := shufF (l.length - 1) s l
def sampleL (s : Nat) (l : List Int) (k : Int) : List Int := (shufL s l).take (max 0 (min k l.length)).toNat

theorem mix_lt (z : Nat) : mixN z < 18446744073709551616 := by
  unfold mixN
  generalize mix1 z = a
  have h : mix2 a < 18446744073709551616 := Nat.mod_lt _ (by decide)
  generalize mix2 a = b at *
  exact Nat.xor_lt_two_pow (n := 64) h (by omega)
theorem next_lt (s : Nat) : nextN s < 18446744073709551616 := Nat.mod_lt _ (by decide)
theorem below_lt (s n : Nat) (h : 0 < n) : belowN s n < n := by
  unfold belowN
  have := mix_lt (nextN s)
  refine (Nat.div_lt_iff_lt_mul (by decide)).2 ?_
  rw [Nat.mul_comm n]
  exact Nat.mul_lt_mul_of_pos_right this h
theorem swapL_len (l : List Int) (i k : Nat) : (swapL l i k).length = l.length := by simp [swapL]
theorem shufF_len : ∀ (i s : Nat) (l : List Int), (shufF i s l).length = l.length
  | 0, _, _ => rfl
  | i + 1, s, l => by rw [shufF, shufF_len, swapL_len]
theorem swapL_perm (l : List Int) {i k : Nat} (hi : i < l.length) (hk : k < l.length) : (swapL l i k).Perm l := by
  unfold swapL
  rw [List.perm_iff_count]
  intro a
  have e1 : l.getD k 0 = l[k] := by simp [List.getD, hk]
  have e2 : l.getD i 0 = l[i] := by simp [List.getD, hi]
  rw [e1, e2]
  rw [List.count_set (by simpa using hk), List.count_set hi, List.getElem_set]
  have c1 : (l[i] == a) = true → 0 < List.count a l := fun h => List.count_pos_iff.2 (by rw [← beq_iff_eq.1 h]; exact List.getElem_mem _)
  have c2 : (l[k] == a) = true → 0 < List.count a l := fun h => List.count_pos_iff.2 (by rw [← beq_iff_eq.1 h]; exact List.getElem_mem _)
  by_cases hik : i = k
  · subst hik
    simp only [if_true]
    by_cases h1 : (l[i] == a) = true
    · have := c1 h1
      simp only [h1, if_true]; omega
    · simp only [h1]; simp
  · rw [if_neg hik]
    by_cases h1 : (l[i] == a) = true <;> by_cases h2 : (l[k] == a) = true
    · have := c1 h1
      simp only [h1, h2, if_true]; omega
    · have := c1 h1
      simp only [h1, h2, if_true]; simp <;> omega
    · have := c2 h2
      simp only [h1, h2, if_true]; simp <;> omega
    · simp only [h1, h2]; simp
theorem shufF_perm : ∀ (i s : Nat) (l : List Int), i < l.length ∨ i = 0 → (shufF i s l).Perm l
  | 0, _, l, _ => List.Perm.refl _
  | i + 1, s, l, h => by
    have hi : i + 1 < l.length := by omega
    have hb := below_lt s (i + 2) (by omega)
    rw [shufF]
    exact (shufF_perm i _ _ (.inl (by rw [swapL_len]; omega))).trans (swapL_perm l hi (by omega))
theorem shufL_perm (s : Nat) (l : List Int) : (shufL s l).Perm l := shufF_perm _ _ _ (by omega)

end Go.Proofs.Ytnohglkilpnjhaa

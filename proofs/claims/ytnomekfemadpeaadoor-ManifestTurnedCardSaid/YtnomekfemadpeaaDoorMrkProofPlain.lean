/- What leads from a leaf to the root, in plain Lean. No condition. -/
import Derived.Test.YtnomekfemadpeaaDoorMrkRowsPlain
import Derived.Test.YtnomekfemadpeaaDoorMrkDepth
namespace Go.Proofs.YtnomekfemadpeaaDoor
set_option linter.unusedVariables false

/-- What a row gives to a proof. -/
def stepP (row : List (List UInt8)) (i : Nat) : List (List UInt8) := if 0 ≤ besideZ row.length i then [row.getD (besideZ row.length i).toNat []] else []
def proofR : List (List (List UInt8)) → Nat → List (List UInt8)
  | [], _ => []
  | r :: rs, i => stepP r i ++ proofR rs (i / 2)
def proofL (l : List (List UInt8)) (i : Nat) : List (List UInt8) := proofR (rowsL l) i

theorem proofR_snoc (rs : List (List (List UInt8))) (x : List (List UInt8)) (i : Nat) : proofR (rs ++ [x]) i = proofR rs i ++ stepP x (i / 2 ^ rs.length) := by
  induction rs generalizing i with
  | nil => simp [proofR]
  | cons r rs ih =>
    simp only [List.cons_append, proofR, ih, List.append_assoc, List.length_cons]
    rw [Nat.div_div_eq_div_mul, Nat.pow_succ, Nat.mul_comm 2]
theorem stepP_len (row : List (List UInt8)) (i : Nat) : (stepP row i).length ≤ 1 := by unfold stepP; split <;> simp
theorem proofR_len (rs : List (List (List UInt8))) (i : Nat) : (proofR rs i).length ≤ rs.length := by
  induction rs generalizing i with
  | nil => simp [proofR]
  | cons r rs ih =>
    have := ih (i / 2)
    have := stepP_len r i
    simp only [proofR, List.length_append, List.length_cons]
    omega
theorem stepP_one (l : List (List UInt8)) (h : l.length ≤ 1) (i : Nat) (hi : i < l.length) : stepP l i = [] := by
  unfold stepP besideZ
  rw [if_neg]
  have : i = 0 := by omega
  subst this
  simp; omega
theorem proofL_step {l : List (List UInt8)} (h : 1 < l.length) (i : Nat) : proofL l i = stepP l i ++ proofL (aboveL l) (i / 2) := by
  unfold proofL
  rw [rowsL_step h]
  rfl
theorem proofL_end {l : List (List UInt8)} (h : l.length ≤ 1) (i : Nat) (hi : i < l.length) : proofL l i = [] := by
  unfold proofL
  rw [rowsL_end h]
  simp [proofR, stepP_one l h i hi]
theorem rowsP_len (f : Nat) (l : List (List UInt8)) (k : Nat) (h : l.length ≤ 2 ^ k) : (rowsP f l).length ≤ k + 1 := by
  induction f generalizing l k with
  | zero => simp [rowsP]
  | succ f ih =>
    simp only [rowsP]
    split
    · simp
    · cases k with
      | zero => simp at h; omega
      | succ k =>
        have := ih (aboveL l) k (by rw [aboveL_len]; rw [Nat.pow_succ] at h; omega)
        simp; omega
theorem rowsL_len (l : List (List UInt8)) (k : Nat) (h : l.length ≤ 2 ^ k) : (rowsL l).length ≤ k + 1 := rowsP_len _ _ _ h

/-- Where a leaf stands in the rows. -/
theorem rows_at (n : Nat) : ∀ (l : List (List UInt8)) (i : Nat), l.length ≤ n → i < l.length → Dig32 l → ∀ pre x, pre ++ [x] <+: rowsL l → i / 2 ^ pre.length < x.length ∧ x.length ≤ l.length ∧ Dig32 x := by
  induction n with
  | zero => intro l i h1 h2; omega
  | succ n ih =>
    intro l i h1 h2 h32 pre x hp
    by_cases h : 1 < l.length
    · rw [rowsL_step h] at hp
      cases pre with
      | nil =>
        obtain ⟨t, ht⟩ := hp
        simp at ht
        rw [ht.1]
        exact ⟨by simpa using h2, Nat.le_refl _, h32⟩
      | cons r pre =>
        obtain ⟨t, ht⟩ := hp
        simp only [List.cons_append, List.cons.injEq] at ht
        have := ih (aboveL l) (i / 2) (by rw [aboveL_len]; omega) (by rw [aboveL_len]; omega) (aboveL_32 l h32) pre x ⟨t, ht.2⟩
        rw [aboveL_len] at this
        simp only [List.length_cons]
        rw [Nat.pow_succ, Nat.mul_comm, ← Nat.div_div_eq_div_mul]
        exact ⟨this.1, by omega, this.2.2⟩
    · rw [rowsL_end (by omega)] at hp
      obtain ⟨t, ht⟩ := hp
      cases pre with
      | nil =>
        simp at ht
        rw [ht.1]
        exact ⟨by simpa using h2, Nat.le_refl _, h32⟩
      | cons r pre => simp at ht
theorem rows_32 {l : List (List UInt8)} (h : Dig32 l) : ∀ r ∈ rowsL l, Dig32 r := by
  unfold rowsL
  generalize l.length = f
  induction f generalizing l with
  | zero => intro r hr; simp only [rowsP, List.mem_singleton] at hr; rw [hr]; exact h
  | succ f ih =>
    intro r hr
    simp only [rowsP] at hr
    split at hr
    · simp only [List.mem_singleton] at hr; rw [hr]; exact h
    · rcases List.mem_cons.1 hr with rfl | hr
      · exact h
      · exact ih (aboveL_32 l h) r hr

/-- What merkle.Proof tells, with its error. -/
def proofE (l : List (List UInt8)) (i : Int) : List (List UInt8) × Int := if 0 ≤ i ∧ i < l.length ∧ l.length ≤ 1024 then (proofL l i.toNat, 0) else ([], 1)

end Go.Proofs.YtnomekfemadpeaaDoor

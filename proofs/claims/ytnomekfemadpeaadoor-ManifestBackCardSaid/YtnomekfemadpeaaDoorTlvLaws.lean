/- Plain laws on numbers as bytes: what was written is read as it was, and what was read was written so. No program in sight. No condition. -/
import Derived.Test.YtnomekfemadpeaaDoorTlvSpec
namespace Go.Proofs.YtnomekfemadpeaaDoor
set_option linter.unusedVariables false

theorem ofNat_toNat {c : Nat} (h : c < 256) : (UInt8.ofNat c).toNat = c := by simp; omega

theorem cutL_uint (r : List UInt8) : ∀ (f n k acc : Nat), n < 128 ^ (f + 1) → (k = 0 ∨ 0 < n) → k ≤ 9 → n * 128 ^ k < 18446744073709551616 → cutL k acc (uint n ++ r) = some (acc + n * 128 ^ k, k + (uint n).length) := by
  intro f
  induction f with
  | zero =>
    intro n k acc hn hk hk9 hlt
    have hn' : n < 128 := by simpa using hn
    rw [uint_small hn', List.singleton_append, cutL, ofNat_toNat (by omega), if_neg, if_pos hn', if_pos (by omega)]
    · simp
    · rintro (rfl | ⟨rfl, h1⟩)
      · omega
      · omega
  | succ f ih =>
    intro n k acc hn hk hk9 hlt
    by_cases hn' : n < 128
    · rw [uint_small hn', List.singleton_append, cutL, ofNat_toNat (by omega), if_neg, if_pos hn', if_pos (by omega)]
      · simp
      · rintro (rfl | ⟨rfl, h1⟩)
        · omega
        · omega
    · have hk8 : k ≤ 8 := by
        rcases Nat.lt_or_ge k 9 with h | h
        · omega
        · obtain rfl : k = 9 := by omega
          omega
      have hpk : n * 128 ^ k = (n % 128) * 128 ^ k + (n / 128) * 128 ^ (k + 1) := by
        have h1 : n = n % 128 + n / 128 * 128 := by omega
        rw [Nat.pow_succ, Nat.mul_comm (128 ^ k) 128, ← Nat.mul_assoc, ← Nat.add_mul]
        rw [← h1]
      rw [uint_big (by omega), List.cons_append, cutL, ofNat_toNat (by omega), if_neg (by omega), if_neg (by omega), show (n % 128 + 128) % 128 = n % 128 from by omega,
        ih (n / 128) (k + 1) _ (by rw [Nat.pow_succ] at hn; omega) (by omega) (by omega) (by omega)]
      simp only [List.length_cons]
      congr 2
      · omega
      · omega

theorem cutL_uint0 (n : Nat) (r : List UInt8) (h : n < 18446744073709551616) : cutL 0 0 (uint n ++ r) = some (n, (uint n).length) := by
  have := cutL_uint r 9 n 0 0 (by omega) (.inl rfl) (by omega) (by simpa using h)
  simpa using this

theorem toU_uint {n : Nat} (h : n < 18446744073709551616) : toU (uint n) = some n := by
  have := cutL_uint0 n [] h
  rw [List.append_nil] at this
  unfold toU
  rw [this]
  simp

theorem zag_zig {k : Int} : zag (zig k) = k := by
  unfold zig zag
  split
  · split <;> omega
  · split <;> omega

/-- What is read was written so. -/
theorem cutL_back (l : List UInt8) : ∀ {k acc n m : Nat}, k ≤ 9 → cutL k acc l = some (n, m) → ∃ q, n = acc + q * 128 ^ k ∧ (0 < k → 0 < q) ∧ m = k + (uint q).length ∧ l.take (m - k) = uint q := by
  induction l with
  | nil => intro k acc n m _ h; simp [cutL] at h
  | cons c r ih =>
    intro k acc n m hk h
    have hc := c.toNat_lt
    rw [cutL] at h
    split at h
    · cases h
    · rename_i h1
      split at h
      · rename_i h2
        split at h
        · rename_i h3
          cases h
          refine ⟨c.toNat, rfl, by omega, ?_, ?_⟩
          · rw [uint_small h2]; simp
          · rw [uint_small h2, show k + 1 - k = 1 from by omega]; simp
        · cases h
      · rename_i h2
        by_cases h9 : k = 9
        · exact absurd h9 (by rintro rfl; omega)
        · obtain ⟨q, rfl, hq0, rfl, hq⟩ := ih (by omega) h
          have hq1 : 0 < q := hq0 (by omega)
          have hd : (c.toNat % 128 + q * 128) / 128 = q := by omega
          have hm : (c.toNat % 128 + q * 128) % 128 + 128 = c.toNat := by omega
          have hu : uint (c.toNat % 128 + q * 128) = c :: uint q := by
            rw [uint_big (by omega), hd, hm]; simp
          refine ⟨c.toNat % 128 + q * 128, ?_, by omega, ?_, ?_⟩
          · rw [Nat.pow_succ, Nat.add_mul, Nat.add_assoc, Nat.mul_assoc, Nat.mul_comm 128 (128 ^ k)]
          · rw [hu]; simp; omega
          · rw [hu, show k + 1 + (uint q).length - k = (uint q).length + 1 from by omega, List.take_succ_cons]
            rw [show k + 1 + (uint q).length - (k + 1) = (uint q).length from by omega] at hq
            rw [hq]

theorem cutL_take {l : List UInt8} {n m : Nat} (h : cutL 0 0 l = some (n, m)) : l.take m = uint n ∧ m = (uint n).length := by
  obtain ⟨q, h1, _, h2, h3⟩ := cutL_back l (by omega) h
  have : n = q := by simpa using h1
  subst this
  exact ⟨by simpa using h3, by simpa using h2⟩

theorem uint_mono (f : Nat) : ∀ a b, a ≤ b → b < 128 ^ (f + 1) → (uint a).length ≤ (uint b).length := by
  induction f with
  | zero =>
    intro a b h hb
    have hb' : b < 128 := by simpa using hb
    rw [uint_small hb', uint_small (by omega)]; simp
  | succ f ih =>
    intro a b h hb
    by_cases ha : a < 128
    · rw [uint_small ha]; have := uint_pos b; simp; omega
    · rw [uint_big (n := a) (by omega), uint_big (n := b) (by omega)]
      have := ih (a / 128) (b / 128) (by omega) (by rw [Nat.pow_succ _ (f + 1)] at hb; omega)
      simp only [List.length_cons]; omega

theorem uint_one (n : Nat) : (uint n).length = 1 ↔ n < 128 := by
  constructor
  · intro h
    rcases Nat.lt_or_ge n 128 with h1 | h1
    · exact h1
    · rw [uint_big h1] at h
      have := uint_pos (n / 128)
      simp only [List.length_cons] at h; omega
  · intro h; rw [uint_small h]; rfl

end Go.Proofs.YtnomekfemadpeaaDoor

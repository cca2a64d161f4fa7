/- Settled texts of this seat, one behind the other: each begins with a comment that says what it proves and asks. -/
import Derived.Laws.BitsAllLaws
import Derived.Laws.Bits64
import Derived.WalkKit
import Derived.WalkLawsBesides
import Derived.WalkSpells
import Derived.Lib.Hide
import Derived.Laws.AppendOwnNone
import Derived.Deep.AppendLies
/- Plain functions on lists of bytes: what package tlv computes. No program in sight. No condition. -/
namespace Go.Proofs.Ytnomekfemadpeaa
set_option linter.unusedVariables false

/-- A number as bytes. -/
def uint (n : Nat) : List UInt8 := if n < 128 then [UInt8.ofNat n] else UInt8.ofNat (n % 128 + 128) :: uint (n / 128)
termination_by n
decreasing_by omega

theorem uint_small {n : Nat} (h : n < 128) : uint n = [UInt8.ofNat n] := by rw [uint, if_pos h]
theorem uint_big {n : Nat} (h : 128 ≤ n) : uint n = UInt8.ofNat (n % 128 + 128) :: uint (n / 128) := by rw [uint, if_neg (by omega)]

theorem uint_pos (n : Nat) : 0 < (uint n).length := by
  rw [uint]; split <;> simp

theorem uint_len (f : Nat) : ∀ n, n < 128 ^ (f + 1) → (uint n).length ≤ f + 1 := by
  induction f with
  | zero => intro n h; rw [uint_small (by simpa using h)]; simp
  | succ f ih =>
    intro n h
    by_cases hn : n < 128
    · rw [uint_small hn]; simp
    · rw [uint_big (by omega)]
      have := ih (n / 128) (by rw [Nat.pow_succ] at h; omega)
      simp; omega

theorem uint_len10 {n : Nat} (h : n < 18446744073709551616) : (uint n).length ≤ 10 := uint_len 9 n (by omega)

/-- A number with a sign as one without. -/
def zig (k : Int) : Nat := if 0 ≤ k then (2 * k).toNat else (-2 * k - 1).toNat

theorem zig_lt {k : Int} (h : -9223372036854775808 ≤ k ∧ k ≤ 9223372036854775807) : zig k < 18446744073709551616 := by
  unfold zig; split <;> omega

theorem or128_u8 (c : Nat) (hc : c < 256) : (bits BinOp.or IntKind.u8 (c : Int) 128) = ((c % 128 + 128 : Nat) : Int) := by
  rw [show (128 : Int) = ((128 : Nat) : Int) from rfl, u8_or_nat _ _ hc (by decide)]
  congr 1
  have : ∀ c : Fin 256, c.val ||| 128 = c.val % 128 + 128 := by decide +kernel
  exact this ⟨c, hc⟩

theorem andNot128_u8 (c : Nat) (hc : c < 256) : (bits BinOp.andNot IntKind.u8 (c : Int) 128) = ((c % 128 : Nat) : Int) := by
  rw [show (128 : Int) = ((128 : Nat) : Int) from rfl, u8_andNot_nat _ _ hc (by decide)]
  congr 1
  have : ∀ c : Fin 256, c.val &&& (255 - 128) = c.val % 128 := by decide +kernel
  exact this ⟨c, hc⟩

/-- The number that bytes begin with, and how many bytes it has, from the k-th byte on, the first ones being worth acc. -/
def cutL (k acc : Nat) : List UInt8 → Option (Nat × Nat)
  | [] => none
  | c :: r => if k = 10 ∨ (k = 9 ∧ 1 < c.toNat) then none
    else if c.toNat < 128 then (if k = 0 ∨ 0 < c.toNat then some (acc + c.toNat * 128 ^ k, k + 1) else none)
    else cutL (k + 1) (acc + (c.toNat % 128) * 128 ^ k) r

theorem drop_at {l : List UInt8} {k : Nat} (h : k < l.length) : l.drop k = l.getD k 0 :: l.drop (k + 1) := by
  rw [List.drop_eq_getElem_cons h]; simp [List.getD, List.getElem?_eq_getElem h]

theorem pow9 {k : Nat} (h : k ≤ 9) : 128 ^ k ≤ 9223372036854775808 := by
  have := Nat.pow_le_pow_right (n := 128) (by decide) h
  exact this

theorem cut_sum (k acc c : Nat) (hk : k < 9) (ha : acc < 128 ^ k) (hc : c < 256) :
    bits BinOp.or IntKind.u64 (acc : Int) (IntKind.u64.wrap (IntKind.u64.wrap (bits BinOp.andNot IntKind.u8 (c : Int) 128) * 2 ^ (7 * k))) = ((acc + c % 128 * 128 ^ k : Nat) : Int) := by
  have hp := pow9 (show k + 1 ≤ 9 by omega)
  have e7 : (2 : Nat) ^ (7 * k) = 128 ^ k := by rw [Nat.pow_mul]
  have hlt : c % 128 * 128 ^ k < 128 ^ (k + 1) := by
    rw [Nat.pow_succ, Nat.mul_comm (128 ^ k)]
    exact Nat.mul_lt_mul_of_pos_right (by omega) (Nat.pow_pos (by decide))
  have hlt2 : acc < 128 ^ (k + 1) := Nat.lt_of_lt_of_le ha (Nat.pow_le_pow_right (by decide) (by omega))
  have e2 : IntKind.u64.wrap ((c % 128 : Nat) : Int) = ((c % 128 : Nat) : Int) := by simp [IntKind.wrap, IntKind.bits, IntKind.signed]; omega
  have e3 : ((c % 128 : Nat) : Int) * 2 ^ (7 * k) = ((c % 128 * 128 ^ k : Nat) : Int) := by rw [← e7]; simp
  have e4 : IntKind.u64.wrap ((c % 128 * 128 ^ k : Nat) : Int) = ((c % 128 * 128 ^ k : Nat) : Int) := by
    generalize c % 128 * 128 ^ k = z at *
    simp [IntKind.wrap, IntKind.bits, IntKind.signed]; omega
  rw [andNot128_u8 c hc, e2, e3, e4, u64_or_nat _ _ (by omega) (by omega)]
  congr 1
  rw [Nat.or_comm, nat_join (7 * k) _ _ (by rw [e7]; exact Nat.mul_mod_left _ _) (by rw [e7]; exact ha), Nat.add_comm]

theorem cut_sum0 (acc c : Nat) (ha : acc < 128 ^ 0) (hc : c < 128) :
    bits BinOp.or IntKind.u64 (acc : Int) (IntKind.u64.wrap (IntKind.u64.wrap (bits BinOp.andNot IntKind.u8 (c : Int) 128))) = ((acc + c * 128 ^ 0 : Nat) : Int) := by
  have h0 : acc = 0 := by simpa using ha
  subst h0
  have e2 : IntKind.u64.wrap ((c % 128 : Nat) : Int) = ((c : Nat) : Int) := by simp [IntKind.wrap, IntKind.bits, IntKind.signed]; omega
  have e3 : IntKind.u64.wrap ((c : Nat) : Int) = ((c : Nat) : Int) := by simp [IntKind.wrap, IntKind.bits, IntKind.signed]; omega
  rw [andNot128_u8 c (by omega), e2, e3, u64_or_nat _ _ (by omega) (by omega)]
  simp

theorem cut_sum9 (acc c : Nat) (ha : acc < 9223372036854775808) (hc : c ≤ 1) :
    bits BinOp.or IntKind.u64 (acc : Int) (IntKind.u64.wrap (IntKind.u64.wrap (bits BinOp.andNot IntKind.u8 (c : Int) 128) * 9223372036854775808)) = ((acc + c * 9223372036854775808 : Nat) : Int) := by
  have e2 : IntKind.u64.wrap ((c % 128 : Nat) : Int) = ((c : Nat) : Int) := by simp [IntKind.wrap, IntKind.bits, IntKind.signed]; omega
  have e3 : IntKind.u64.wrap ((c : Int) * 9223372036854775808) = ((c * 9223372036854775808 : Nat) : Int) := by simp [IntKind.wrap, IntKind.bits, IntKind.signed]; omega
  rw [andNot128_u8 c (by omega), e2, e3, u64_or_nat _ _ (by omega) (by omega)]
  congr 1
  rw [Nat.or_comm, nat_join 63 _ _ (by omega) (by omega), Nat.add_comm]

theorem cutL_ten (acc : Nat) (l : List UInt8) : cutL 10 acc l = none := by
  cases l with
  | nil => rfl
  | cons c r => rw [cutL, if_pos (.inl rfl)]

theorem cutL_lt {l : List UInt8} : ∀ {k acc n m : Nat}, k ≤ 9 → acc < 128 ^ k → cutL k acc l = some (n, m) → n < 18446744073709551616 ∧ k < m ∧ m ≤ k + l.length := by
  induction l with
  | nil => intro k acc n m _ _ h; simp [cutL] at h
  | cons c r ih =>
    intro k acc n m hk ha h
    have hp := pow9 hk
    rw [cutL] at h
    split at h
    · simp at h
    · rename_i h1
      split at h
      · split at h
        · simp only [Option.some.injEq, Prod.mk.injEq] at h
          obtain ⟨rfl, rfl⟩ := h
          refine ⟨?_, by omega, by simp⟩
          by_cases h9 : k = 9
          · subst h9
            have hc : c.toNat ≤ 1 := by omega
            have : c.toNat * 128 ^ 9 ≤ 1 * 128 ^ 9 := Nat.mul_le_mul_right _ hc
            omega
          · have hp := pow9 (show k + 1 ≤ 9 by omega)
            have : c.toNat * 128 ^ k ≤ 127 * 128 ^ k := Nat.mul_le_mul_right _ (by omega)
            rw [Nat.pow_succ] at hp
            omega
        · simp at h
      · by_cases h9 : k = 9
        · exact absurd h9 (by rintro rfl; omega)
        · have ha' : acc + c.toNat % 128 * 128 ^ k < 128 ^ (k + 1) := by
            have : c.toNat % 128 * 128 ^ k ≤ 127 * 128 ^ k := Nat.mul_le_mul_right _ (by omega)
            rw [Nat.pow_succ]; omega
          obtain ⟨q1, q2, q3⟩ := ih (by omega) ha' h
          exact ⟨q1, by omega, by simp; omega⟩

theorem zig_nn {n : Int} (h : 0 ≤ n) : 2 * n = (zig n : Nat) := by unfold zig; rw [if_pos h]; omega
theorem zig_ng {n : Int} (h : n < 0) : 2 * (-1 - n) + 1 = (zig n : Nat) := by unfold zig; rw [if_neg (by omega)]; omega

theorem xor_ones64 (a : Nat) (h : a < 18446744073709551616) : a ^^^ 18446744073709551615 = 18446744073709551615 - a := by
  have h1 : (BitVec.ofNat 64 a ^^^ BitVec.allOnes 64).toNat = (~~~(BitVec.ofNat 64 a)).toNat := by rw [BitVec.xor_allOnes]
  rw [BitVec.toNat_xor, BitVec.toNat_not, BitVec.toNat_allOnes, BitVec.toNat_ofNat] at h1
  have e : a % 2 ^ 64 = a := Nat.mod_eq_of_lt (by omega)
  rw [e] at h1
  exact h1

theorem zig_pos {n : Int} (h0 : 0 ≤ n) (h2 : n ≤ 9223372036854775807) : bits BinOp.xor IntKind.u64 (n * 2) (n / 9223372036854775808) = (zig n : Nat) := by
  have e : n / 9223372036854775808 = ((0 : Nat) : Int) := by omega
  have e2 : n * 2 = ((zig n : Nat) : Int) := by unfold zig; rw [if_pos h0]; omega
  have hz : zig n < 18446744073709551616 := zig_lt ⟨by omega, h2⟩
  rw [e, e2, u64_xor_nat _ _ hz (by omega), Nat.xor_zero]

theorem zig_neg {n : Int} (h1 : -9223372036854775808 ≤ n) (h0 : n < 0) :
    bits BinOp.xor IntKind.u64 (IntKind.u64.wrap (IntKind.u64.wrap n * 2)) (IntKind.u64.wrap (n / 9223372036854775808)) = (zig n : Nat) := by
  have e : n / 9223372036854775808 = -1 := by omega
  have w1 : IntKind.u64.wrap n = n + 18446744073709551616 := by simp [IntKind.wrap, IntKind.bits, IntKind.signed]; omega
  have w2 : IntKind.u64.wrap (-1) = ((18446744073709551615 : Nat) : Int) := by simp [IntKind.wrap, IntKind.bits, IntKind.signed]
  have w3 : IntKind.u64.wrap ((n + 18446744073709551616) * 2) = (((2 * n + 18446744073709551616).toNat : Nat) : Int) := by simp [IntKind.wrap, IntKind.bits, IntKind.signed]; omega
  rw [e, w1, w2, w3, u64_xor_nat _ _ (by omega) (by omega), xor_ones64 _ (by omega)]
  congr 1
  unfold zig
  rw [if_neg (by omega)]
  omega

/-- The number that bytes are. -/
def toU (l : List UInt8) : Option Nat := match cutL 0 0 l with
  | some (n, m) => if m = l.length then some n else none
  | none => none

theorem toU_lt {l : List UInt8} {n : Nat} (h : toU l = some n) : n < 18446744073709551616 := by
  unfold toU at h
  split at h
  · rename_i x m hc
    split at h
    · cases h; exact (cutL_lt (by omega) (by simp) hc).1
    · cases h
  · cases h

/-- A number with a sign again. -/
def zag (n : Nat) : Int := if n % 2 = 0 then (n : Int) / 2 else -1 - (n : Int) / 2

theorem ofInt64_toNat (a : Int) : ((BitVec.ofInt 64 a).toNat : Int) = a % 18446744073709551616 := by
  rw [BitVec.toNat_ofInt]; simp; omega
theorem xor_i64_zero (a : Int) (h0 : -9223372036854775808 ≤ a) (h1 : a ≤ 9223372036854775807) : bits BinOp.xor IntKind.i64 a 0 = a := by
  have e : bits BinOp.xor IntKind.i64 a 0 = IntKind.i64.wrap (((BitVec.ofInt 64 a) ^^^ (BitVec.ofInt 64 0)).toNat : Int) := rfl
  rw [e, show BitVec.ofInt 64 0 = 0#64 from rfl, BitVec.xor_zero, ofInt64_toNat, IntKind.wrap_i64]
  omega
theorem xor_i64_ones (a : Int) (h0 : -9223372036854775808 ≤ a) (h1 : a ≤ 9223372036854775807) : bits BinOp.xor IntKind.i64 a (-1) = -1 - a := by
  have e : bits BinOp.xor IntKind.i64 a (-1) = IntKind.i64.wrap (((BitVec.ofInt 64 a) ^^^ (BitVec.ofInt 64 (-1))).toNat : Int) := rfl
  rw [e, show BitVec.ofInt 64 (-1) = BitVec.allOnes 64 from rfl, BitVec.xor_allOnes, BitVec.toNat_not, IntKind.wrap_i64]
  have := ofInt64_toNat a
  have := (BitVec.ofInt 64 a).isLt
  omega
theorem zag_bits (n : Nat) (hn : n < 18446744073709551616) : bits BinOp.xor IntKind.i64 ((n : Int) / 2) (RowKit.wrap64 (-RowKit.wrap64 (bits BinOp.and IntKind.u64 (n : Int) 1))) = zag n := by
  have e : bits BinOp.and IntKind.u64 (n : Int) 1 = ((n % 2 : Nat) : Int) := by
    rw [show (1 : Int) = ((1 : Nat) : Int) from rfl, u64_and_nat _ _ hn (by decide), nat_mask1]
  rw [e, zag]
  rcases Nat.mod_two_eq_zero_or_one n with h | h
  · rw [h, if_pos rfl, show RowKit.wrap64 (-RowKit.wrap64 ((0 : Nat) : Int)) = 0 from by simp [RowKit.wrap64]]
    have := xor_i64_zero ((n : Int) / 2) (by omega) (by omega)
    exact this
  · rw [h, if_neg (by decide), show RowKit.wrap64 (-RowKit.wrap64 ((1 : Nat) : Int)) = -1 from by simp [RowKit.wrap64]]
    have := xor_i64_ones ((n : Int) / 2) (by omega) (by omega)
    exact this

/-- A record of items, behind what there is already. -/
def encF : List (Int × List UInt8) → Int → List UInt8 → Option (List UInt8)
  | [], _, out => some out
  | x :: r, last, out => if x.1 ≤ last ∨ 63 < x.1 ∨ 65536 - (out.length : Int) < x.2.length then none
    else if 65536 < (out ++ [UInt8.ofNat x.1.toNat] ++ uint x.2.length ++ x.2).length then none
    else encF r x.1 (out ++ [UInt8.ofNat x.1.toNat] ++ uint x.2.length ++ x.2)

/-- A record of items. -/
def encL (l : List (Int × List UInt8)) : Option (List UInt8) := encF l 0 []

/-- The reference's. -/
def rencF : List (Int × List UInt8) → Int → List UInt8 → Option (List UInt8)
  | [], _, out => some out
  | x :: r, last, out => if x.1 ≤ last ∨ 63 < x.1 ∨ 65536 < x.2.length then none
    else if 65536 < (out ++ [UInt8.ofNat x.1.toNat] ++ uint x.2.length ++ x.2).length then none
    else rencF r x.1 (out ++ [UInt8.ofNat x.1.toNat] ++ uint x.2.length ++ x.2)

def rencL (l : List (Int × List UInt8)) : Option (List UInt8) := if 63 < l.length then none else rencF l 0 []

theorem rencF_eq (l : List (Int × List UInt8)) : ∀ (last : Int) (out : List UInt8), out.length ≤ 65536 → rencF l last out = encF l last out := by
  induction l with
  | nil => intro last out _; rfl
  | cons x r ih =>
    intro last out ho
    rw [rencF, encF]
    by_cases h1 : x.1 ≤ last ∨ 63 < x.1 ∨ 65536 < x.2.length
    · rw [if_pos h1, if_pos (by omega)]
    · rw [if_neg h1]
      by_cases h2 : 65536 < (out ++ [UInt8.ofNat x.1.toNat] ++ uint x.2.length ++ x.2).length
      · rw [if_pos h2]
        split
        · rfl
        · rfl
      · rw [if_neg h2]
        have h3 : (out ++ [UInt8.ofNat x.1.toNat] ++ uint x.2.length ++ x.2).length = out.length + 1 + (uint x.2.length).length + x.2.length := by simp; omega
        rw [if_neg (by omega), if_neg h2]
        exact ih _ _ (by omega)

theorem encF_many (l : List (Int × List UInt8)) : ∀ (last : Int) (out : List UInt8), 63 < last + l.length → 0 ≤ last → last ≤ 63 → encF l last out = none := by
  induction l with
  | nil => intro last out h h0 h1; simp at h; omega
  | cons x r ih =>
    intro last out h h0 h1
    rw [encF]
    split
    · rfl
    · split
      · rfl
      · refine ih _ _ ?_ (by omega) (by omega)
        simp at h; omega

theorem rencL_eq (l : List (Int × List UInt8)) : rencL l = encL l := by
  unfold rencL encL
  split
  · rw [encF_many l 0 [] (by omega) (by omega) (by omega)]
  · exact rencF_eq l 0 [] (by simp)

theorem encF_le (l : List (Int × List UInt8)) : ∀ (last : Int) (out c : List UInt8), out.length ≤ 65536 → encF l last out = some c → c.length ≤ 65536 := by
  induction l with
  | nil => intro last out c ho h; simp [encF] at h; subst h; exact ho
  | cons x r ih =>
    intro last out c ho h
    rw [encF] at h
    split at h
    · cases h
    · split at h
      · cases h
      · exact ih _ _ _ (by omega) h

end Go.Proofs.Ytnomekfemadpeaa

/- Plain laws on numbers as bytes: what was written is read as it was, and what was read was written so. No program in sight. No condition. -/
namespace Go.Proofs.Ytnomekfemadpeaa
set_option linter.unusedVariables false

theorem ofNat_toNat {c : Nat} (h : c < 256) : (UInt8.ofNat c).toNat = c := by simp; omega

theorem cutL_uint (r : List UInt8) : ∀ (f n k acc : Nat), n < 128 ^ (f + 1) → (k = 0 ∨ 0 < n) → k ≤ 9 → n * 128 ^ k < 18446744073709551616 → cutL k acc (uint n ++ r) = some (acc + n * 128 ^ k, k + (uint n).length) := by
  intro f
  induction f with
  | zero =>
    intro n k acc hn hk hk9 hlt
    have hn' : n < 128 := by simpa using hn
    rw [uint_small hn', List.singleton_append, cutL, ofNat_toNat (by omega), if_neg, if_pos hn', if_pos (by omega)]
    · simp
    · rintro (rfl | ⟨rfl, h1⟩)
      · omega
      · omega
  | succ f ih =>
    intro n k acc hn hk hk9 hlt
    by_cases hn' : n < 128
    · rw [uint_small hn', List.singleton_append, cutL, ofNat_toNat (by omega), if_neg, if_pos hn', if_pos (by omega)]
      · simp
      · rintro (rfl | ⟨rfl, h1⟩)
        · omega
        · omega
    · have hk8 : k ≤ 8 := by
        rcases Nat.lt_or_ge k 9 with h | h
        · omega
        · obtain rfl : k = 9 := by omega
          omega
      have hpk : n * 128 ^ k = (n % 128) * 128 ^ k + (n / 128) * 128 ^ (k + 1) := by
        have h1 : n = n % 128 + n / 128 * 128 := by omega
        rw [Nat.pow_succ, Nat.mul_comm (128 ^ k) 128, ← Nat.mul_assoc, ← Nat.add_mul]
        rw [← h1]
      rw [uint_big (by omega), List.cons_append, cutL, ofNat_toNat (by omega), if_neg (by omega), if_neg (by omega), show (n % 128 + 128) % 128 = n % 128 from by omega,
        ih (n / 128) (k + 1) _ (by rw [Nat.pow_succ] at hn; omega) (by omega) (by omega) (by omega)]
      simp only [List.length_cons]
      congr 2
      · omega
      · omega

theorem cutL_uint0 (n : Nat) (r : List UInt8) (h : n < 18446744073709551616) : cutL 0 0 (uint n ++ r) = some (n, (uint n).length) := by
  have := cutL_uint r 9 n 0 0 (by omega) (.inl rfl) (by omega) (by simpa using h)
  simpa using this

theorem toU_uint {n : Nat} (h : n < 18446744073709551616) : toU (uint n) = some n := by
  have := cutL_uint0 n [] h
  rw [List.append_nil] at this
  unfold toU
  rw [this]
  simp

theorem zag_zig {k : Int} : zag (zig k) = k := by
  unfold zig zag
  split
  · split <;> omega
  · split <;> omega

/-- What is read was written so. -/
theorem cutL_back (l : List UInt8) : ∀ {k acc n m : Nat}, k ≤ 9 → cutL k acc l = some (n, m) → ∃ q, n = acc + q * 128 ^ k ∧ (0 < k → 0 < q) ∧ m = k + (uint q).length ∧ l.take (m - k) = uint q := by
  induction l with
  | nil => intro k acc n m _ h; simp [cutL] at h
  | cons c r ih =>
    intro k acc n m hk h
    have hc := c.toNat_lt
    rw [cutL] at h
    split at h
    · cases h
    · rename_i h1
      split at h
      · rename_i h2
        split at h
        · rename_i h3
          cases h
          refine ⟨c.toNat, rfl, by omega, ?_, ?_⟩
          · rw [uint_small h2]; simp
          · rw [uint_small h2, show k + 1 - k = 1 from by omega]; simp
        · cases h
      · rename_i h2
        by_cases h9 : k = 9
        · exact absurd h9 (by rintro rfl; omega)
        · obtain ⟨q, rfl, hq0, rfl, hq⟩ := ih (by omega) h
          have hq1 : 0 < q := hq0 (by omega)
          have hd : (c.toNat % 128 + q * 128) / 128 = q := by omega
          have hm : (c.toNat % 128 + q * 128) % 128 + 128 = c.toNat := by omega
          have hu : uint (c.toNat % 128 + q * 128) = c :: uint q := by
            rw [uint_big (by omega), hd, hm]; simp
          refine ⟨c.toNat % 128 + q * 128, ?_, by omega, ?_, ?_⟩
          · rw [Nat.pow_succ, Nat.add_mul, Nat.add_assoc, Nat.mul_assoc, Nat.mul_comm 128 (128 ^ k)]
          · rw [hu]; simp; omega
          · rw [hu, show k + 1 + (uint q).length - k = (uint q).length + 1 from by omega, List.take_succ_cons]
            rw [show k + 1 + (uint q).length - (k + 1) = (uint q).length from by omega] at hq
            rw [hq]

theorem cutL_take {l : List UInt8} {n m : Nat} (h : cutL 0 0 l = some (n, m)) : l.take m = uint n ∧ m = (uint n).length := by
  obtain ⟨q, h1, _, h2, h3⟩ := cutL_back l (by omega) h
  have : n = q := by simpa using h1
  subst this
  exact ⟨by simpa using h3, by simpa using h2⟩

theorem uint_mono (f : Nat) : ∀ a b, a ≤ b → b < 128 ^ (f + 1) → (uint a).length ≤ (uint b).length := by
  induction f with
  | zero =>
    intro a b h hb
    have hb' : b < 128 := by simpa using hb
    rw [uint_small hb', uint_small (by omega)]; simp
  | succ f ih =>
    intro a b h hb
    by_cases ha : a < 128
    · rw [uint_small ha]; have := uint_pos b; simp; omega
    · rw [uint_big (n := a) (by omega), uint_big (n := b) (by omega)]
      have := ih (a / 128) (b / 128) (by omega) (by rw [Nat.pow_succ _ (f + 1)] at hb; omega)
      simp only [List.length_cons]; omega

theorem uint_one (n : Nat) : (uint n).length = 1 ↔ n < 128 := by
  constructor
  · intro h
    rcases Nat.lt_or_ge n 128 with h1 | h1
    · exact h1
    · rw [uint_big h1] at h
      have := uint_pos (n / 128)
      simp only [List.length_cons] at h; omega
  · intro h; rw [uint_small h]; rfl

end Go.Proofs.Ytnomekfemadpeaa

/- Numbers that bytes are, one behind the other; in plain Lean. No condition. -/
namespace Go.Proofs.Ytnomekfemadpeaa
set_option linter.unusedVariables false

/-- The number that bytes begin with, of six bytes at most, and how many it has. -/
def numStep (b : List UInt8) : Option (Nat × Nat) := match cutL 0 0 b with
  | some (n, m) => if m ≤ 6 then some (n, m) else none
  | none => none
def numsF : Nat → List UInt8 → List Int
  | 0, _ => []
  | f + 1, b => if b = [] then [] else match numStep b with
    | none => [-1]
    | some (n, m) => (n : Int) :: numsF f (b.drop m)
/-- The numbers that bytes are; where there is none, -1, and no more. -/
def numsL (b : List UInt8) : List Int := numsF b.length b

theorem uint_lt (f : Nat) : ∀ n, (uint n).length ≤ f → n < 128 ^ f := by
  induction f with
  | zero => intro n h; have := uint_pos n; omega
  | succ f ih =>
    intro n h
    by_cases hn : n < 128
    · have := Nat.pow_le_pow_right (n := 128) (by decide) (show 1 ≤ f + 1 by omega)
      omega
    · rw [uint_big (by omega)] at h
      have := ih (n / 128) (by simpa using h)
      rw [Nat.pow_succ]; omega
theorem numStep_some {b : List UInt8} {n m : Nat} (h : numStep b = some (n, m)) : cutL 0 0 b = some (n, m) ∧ 1 ≤ m ∧ m ≤ 6 ∧ m ≤ b.length ∧ n < 4398046511104 ∧ b = uint n ++ b.drop m := by
  unfold numStep at h
  split at h
  · rename_i n' m' hc
    split at h
    · rename_i h6
      cases h
      obtain ⟨h1, h2⟩ := cutL_take hc
      obtain ⟨_, h3, h4⟩ := cutL_lt (by omega) (by simp) hc
      have h5 := uint_lt 6 n (by omega)
      refine ⟨hc, by omega, h6, by omega, by omega, ?_⟩
      rw [← h1, List.take_append_drop]
    · cases h
  · cases h
theorem toU_take {b : List UInt8} {k : Nat} (hk : k ≤ b.length) {n : Nat} : toU (b.take k) = some n ↔ cutL 0 0 b = some (n, k) := by
  constructor
  · intro h
    have hl := toU_lt h
    unfold toU at h
    split at h
    · rename_i x m hc
      split at h
      · rename_i hm
        cases h
        obtain ⟨h1, h2⟩ := cutL_take hc
        have hkl : (b.take k).length = k := by simp; omega
        rw [hkl] at hm
        subst hm
        rw [List.take_take, Nat.min_self] at h1
        have e : b = uint n ++ b.drop m := by rw [← h1, List.take_append_drop]
        have := cutL_uint0 n (b.drop m) hl
        rw [← e, ← h2] at this
        exact this
      · cases h
    · cases h
  · intro h
    obtain ⟨h1, h2⟩ := cutL_take h
    rw [h1]
    exact toU_uint (cutL_lt (by omega) (by simp) h).1
theorem numsF_nil (f : Nat) : numsF f [] = [] := by cases f <;> simp [numsF]
theorem numsF_more : ∀ (f g : Nat) (b : List UInt8), b.length ≤ f → b.length ≤ g → numsF f b = numsF g b
  | 0, g, b, hf, _ => by rw [List.length_eq_zero_iff.1 (Nat.le_zero.1 hf), numsF_nil, numsF_nil]
  | f + 1, 0, b, _, hg => by rw [List.length_eq_zero_iff.1 (Nat.le_zero.1 hg), numsF_nil, numsF_nil]
  | f + 1, g + 1, b, hf, hg => by
    simp only [numsF]
    split
    · rfl
    · cases hs : numStep b with
      | none => rfl
      | some p =>
        obtain ⟨n, m⟩ := p
        obtain ⟨_, h1, _, h2, _⟩ := numStep_some hs
        simp only
        rw [numsF_more f g (b.drop m) (by simp; omega) (by simp; omega)]
theorem numsL_nil : numsL [] = [] := rfl
theorem numsL_bad {b : List UInt8} (h : b ≠ []) (hs : numStep b = none) : numsL b = [-1] := by
  have : 0 < b.length := List.length_pos_iff.2 h
  obtain ⟨f, hf⟩ : ∃ f, b.length = f + 1 := ⟨b.length - 1, by omega⟩
  unfold numsL
  rw [hf, numsF, if_neg h, hs]
theorem numsL_step {b : List UInt8} {n m : Nat} (hs : numStep b = some (n, m)) : numsL b = (n : Int) :: numsL (b.drop m) := by
  obtain ⟨_, h1, _, h2, _⟩ := numStep_some hs
  have h : b ≠ [] := fun e => by rw [e] at h2; simp at h2; omega
  obtain ⟨f, hf⟩ : ∃ f, b.length = f + 1 := ⟨b.length - 1, by omega⟩
  unfold numsL
  rw [hf, numsF, if_neg h, hs]
  simp only
  rw [numsF_more f _ (b.drop m) (by simp; omega) (Nat.le_refl _)]
theorem numsL_len : ∀ (f : Nat) (b : List UInt8), b.length ≤ f → (numsL b).length ≤ b.length
  | 0, b, h => by rw [List.length_eq_zero_iff.1 (Nat.le_zero.1 h)]; simp [numsL_nil]
  | f + 1, b, h => by
    by_cases hb : b = []
    · rw [hb]; simp [numsL_nil]
    have hp : 0 < b.length := List.length_pos_iff.2 hb
    cases hs : numStep b with
    | none => rw [numsL_bad hb hs]; simp only [List.length_cons, List.length_nil]; omega
    | some p =>
      obtain ⟨n, m⟩ := p
      obtain ⟨_, h1, _, h2, _⟩ := numStep_some hs
      rw [numsL_step hs]
      have := numsL_len f (b.drop m) (by simp; omega)
      simp at this ⊢; omega
/-- None of the first bytes, up to six, is one number: there is none. -/
theorem numStep_none {b : List UInt8} (h : ∀ k, 1 ≤ k → k ≤ 6 → k ≤ b.length → toU (b.take k) = none) : numStep b = none := by
  cases hs : numStep b with
  | none => rfl
  | some p =>
    obtain ⟨n, m⟩ := p
    obtain ⟨h0, h1, h2, h3, _⟩ := numStep_some hs
    have := h m h1 h2 h3
    rw [(toU_take h3).2 h0] at this
    cases this
theorem numStep_found {b : List UInt8} {n k : Nat} (h6 : k ≤ 6) (hk : k ≤ b.length) (h : toU (b.take k) = some n) : numStep b = some (n, k) := by
  have := (toU_take hk).1 h
  unfold numStep
  rw [this]
  simp [h6]

end Go.Proofs.Ytnomekfemadpeaa

/- What package wire computes, in plain Lean: which items a kind has, whether a message may be, its items' bytes; the document's answer computes the same. No program in sight. No condition. -/
namespace Go.Proofs.Ytnomekfemadpeaa
set_option linter.unusedVariables false

/-- A peer as it is heard of. -/
structure MemL where
  id : Int
  inc : Int
  state : Int
  since : Int
deriving DecidableEq

/-- A message. -/
structure MsgL where
  kind : Int
  hash : List UInt8
  piece : Int
  ids : List Int
  bytes : List UInt8
  proof : List (List UInt8)
  members : List MemL
  seed : Bool
deriving DecidableEq

def zero32 : List UInt8 := List.replicate 32 0

/-- Which items a kind has. -/
def hasL (k : Int) : List Int :=
  if k = 1 then [1, 2, 5] else if k = 10 then [1, 2, 5] else if k = 2 then [1, 2, 3] else if k = 3 then [1, 2, 3] else if k = 5 then [1, 2, 3] else if k = 4 then [1, 2, 3, 5, 6] else if k = 6 then [1, 2, 8] else if k = 7 then [1, 2, 4]
  else if k = 8 then [1, 7] else if k = 9 then [1, 2] else if k = 11 then [1, 2] else []
def mostL (k : Int) : Int := if k = 1 then 128 else if k = 4 then 16384 else if k = 10 then 4096 else 0
def withinB (n lo hi : Int) : Bool := decide (lo ≤ n) && decide (n ≤ hi)
def idB (n : Int) : Bool := withinB n 1 65536
def memB (x : MemL) : Bool := idB x.id && withinB x.inc 0 1073741824 && withinB x.state 1 3
def memB0 (x : MemL) : Bool := memB x && decide (x.since = 0)

/-- Whether a message has nothing of an item. -/
def bareB (m : MsgL) (i : Int) : Bool :=
  if i = 1 then false else if i = 2 then decide (m.hash = zero32) else if i = 3 then decide (m.piece = 0) else if i = 4 then decide (m.ids.length = 0) else if i = 5 then decide (m.bytes.length = 0) else if i = 6 then decide (m.proof.length = 0)
  else if i = 7 then decide (m.members.length = 0) else !m.seed
/-- Whether what a message has of an item may be. -/
def fitsB (m : MsgL) (i : Int) : Bool :=
  if i = 3 then withinB m.piece 0 1023 else if i = 4 then decide (m.ids.length ≤ 64) && m.ids.all idB else if i = 5 then withinB m.bytes.length 1 (mostL m.kind) else if i = 6 then decide (m.proof.length ≤ 10)
  else if i = 7 then withinB m.members.length 1 65 && m.members.all memB0 else true
def itemB (m : MsgL) (i : Int) : Bool := if i ∈ hasL m.kind then fitsB m i else bareB m i
/-- Whether a message may be: its items from the i-th on. -/
def rightF (m : MsgL) : Nat → Int → Bool
  | 0, _ => true
  | f + 1, i => itemB m i && rightF m f (i + 1)
def rightB (m : MsgL) : Bool := rightF m 8 1

/-- A number of 64 bits without its sign. -/
def u64L (n : Int) : Nat := (n % 18446744073709551616).toNat
theorem u64L_lt (n : Int) : u64L n < 18446744073709551616 := by unfold u64L; omega
theorem u64L_nn {n : Int} (h : 0 ≤ n) (h2 : n < 18446744073709551616) : (u64L n : Int) = n := by unfold u64L; omega
/-- Numbers as bytes, one behind the other. -/
def uintsL (l : List Int) : List UInt8 := l.flatMap fun n => uint (u64L n)
theorem uintsL_snoc (l : List Int) (n : Int) : uintsL (l ++ [n]) = uintsL l ++ uint (u64L n) := by simp [uintsL]
theorem uintsL_one (n : Int) : uintsL [n] = uint (u64L n) := by simp [uintsL]
def memU (x : MemL) : List UInt8 := uintsL [x.id, x.inc, x.state]
def bodyL (m : MsgL) (i : Int) : List UInt8 :=
  if i = 1 then uintsL [m.kind] else if i = 2 then m.hash else if i = 3 then uintsL [m.piece] else if i = 4 then uintsL m.ids else if i = 5 then m.bytes else if i = 6 then m.proof.flatten
  else if i = 7 then m.members.flatMap memU else if i = 8 then uintsL [if m.seed then 1 else 0] else []
/-- A message as bytes. -/
def itemsM (m : MsgL) : List (Int × List UInt8) := (hasL m.kind).map fun i => (i, bodyL m i)
def encM (m : MsgL) : Option (List UInt8) := if rightB m = true then encL (itemsM m) else none

/-! ### The document's answer's -/

def rhasL (k : Int) : Bool × Bool × Bool × Int × Bool × Bool × Bool :=
  if k = 1 then (true, false, false, 128, false, false, false) else if k = 2 then (true, true, false, 0, false, false, false) else if k = 3 then (true, true, false, 0, false, false, false) else if k = 5 then (true, true, false, 0, false, false, false)
  else if k = 4 then (true, true, false, 16384, true, false, false) else if k = 6 then (true, false, false, 0, false, false, true) else if k = 7 then (true, false, true, 0, false, false, false) else if k = 8 then (false, false, false, 0, false, true, false)
  else if k = 10 then (true, false, false, 4096, false, false, false) else (true, false, false, 0, false, false, false)

/-- The eleven kinds, or none of them. -/
theorem kinds (k : Int) : k = 1 ∨ k = 2 ∨ k = 3 ∨ k = 4 ∨ k = 5 ∨ k = 6 ∨ k = 7 ∨ k = 8 ∨ k = 9 ∨ k = 10 ∨ k = 11 ∨ (k < 1 ∨ 11 < k) := by omega
theorem hasL_none {k : Int} (h : k < 1 ∨ 11 < k) : hasL k = [] := by
  unfold hasL
  simp [show ¬ k = 1 by omega, show ¬ k = 2 by omega, show ¬ k = 3 by omega, show ¬ k = 4 by omega, show ¬ k = 5 by omega, show ¬ k = 6 by omega, show ¬ k = 7 by omega, show ¬ k = 8 by omega, show ¬ k = 9 by omega, show ¬ k = 10 by omega, show ¬ k = 11 by omega]
theorem rightB_eq (m : MsgL) : rightB m = (itemB m 1 && (itemB m 2 && (itemB m 3 && (itemB m 4 && (itemB m 5 && (itemB m 6 && (itemB m 7 && itemB m 8))))))) := by
  simp [rightB, rightF]

/-- The reference's Right, its four tests. -/
def rTest1 (m : MsgL) : Bool := decide (m.kind < 1) || decide (11 < m.kind) || decide (m.piece < 0) || decide (1023 < m.piece) || decide (64 < (m.ids.length : Int)) || decide (10 < (m.proof.length : Int)) || decide (65 < (m.members.length : Int))
def rTest2 (m : MsgL) : Bool :=
  (!(rhasL m.kind).1 && !decide (m.hash = zero32)) || (!(rhasL m.kind).2.1 && !decide (m.piece = 0)) || (!(rhasL m.kind).2.2.1 && decide (0 < (m.ids.length : Int))) || (!(rhasL m.kind).2.2.2.2.1 && decide (0 < (m.proof.length : Int))) || (!(rhasL m.kind).2.2.2.2.2.2 && m.seed)
def rTest3 (m : MsgL) : Bool :=
  decide ((rhasL m.kind).2.2.2.1 < (m.bytes.length : Int)) || (decide (0 < (rhasL m.kind).2.2.2.1) && decide ((m.bytes.length : Int) = 0)) || ((rhasL m.kind).2.2.2.2.2.1 != decide (0 < (m.members.length : Int)))
def rrightB (m : MsgL) : Bool := !rTest1 m && !rTest2 m && !rTest3 m && m.ids.all idB && m.members.all memB0

set_option maxHeartbeats 1600000 in
theorem rrightB_eq (m : MsgL) : rrightB m = rightB m := by
  rw [rightB_eq]
  obtain ⟨kind, hash, piece, ids, bytes, proof, members, seed⟩ := m
  unfold rrightB rTest1 rTest2 rTest3
  rw [Bool.eq_iff_iff]
  rcases kinds kind with h | h | h | h | h | h | h | h | h | h | h | h
  case inr.inr.inr.inr.inr.inr.inr.inr.inr.inr.inr =>
    have e : itemB ⟨kind, hash, piece, ids, bytes, proof, members, seed⟩ 1 = false := by simp [itemB, hasL_none h, bareB]
    rw [e]
    simp only [Bool.false_and, Bool.false_eq_true, iff_false]
    intro hc
    simp only [Bool.and_eq_true, Bool.not_eq_true', Bool.or_eq_false_iff, decide_eq_false_iff_not] at hc
    omega
  all_goals
    subst h
    have hI : ids.length = 0 → ids.all idB = true := fun h => by rw [List.length_eq_zero_iff.1 h]; rfl
    have hM : members.length = 0 → members.all memB0 = true := fun h => by rw [List.length_eq_zero_iff.1 h]; rfl
    simp only [itemB, hasL, rhasL, fitsB, bareB, mostL, withinB]
    generalize ids.all idB = I at *
    generalize members.all memB0 = M at *
    generalize ids.length = a at *
    generalize members.length = b at *
    generalize bytes.length = c at *
    generalize proof.length = d at *
    generalize decide (hash = zero32) = z
    cases I <;> cases M <;> cases seed <;> cases z <;> simp at hI hM ⊢ <;> omega

/-- The items that the reference puts together. -/
def ritemsM (m : MsgL) : List (Int × List UInt8) :=
  [(1, uint (u64L m.kind))] ++ (if (rhasL m.kind).1 then [(2, m.hash)] else []) ++ (if (rhasL m.kind).2.1 then [(3, uint (u64L m.piece))] else []) ++ (if (rhasL m.kind).2.2.1 then [(4, uintsL m.ids)] else [])
  ++ (if 0 < (rhasL m.kind).2.2.2.1 then [(5, m.bytes)] else []) ++ (if (rhasL m.kind).2.2.2.2.1 then [(6, m.proof.flatten)] else []) ++ (if (rhasL m.kind).2.2.2.2.2.1 then [(7, m.members.flatMap memU)] else [])
  ++ (if (rhasL m.kind).2.2.2.2.2.2 then [(8, uint (u64L (if m.seed then 1 else 0)))] else [])
theorem right_kind {m : MsgL} (h : rightB m = true) : 1 ≤ m.kind ∧ m.kind ≤ 11 := by
  rw [rightB_eq] at h
  refine Classical.byContradiction fun hc => ?_
  have hn := hasL_none (k := m.kind) (by omega)
  simp [itemB, hn, bareB] at h
theorem ritemsM_eq {m : MsgL} (h : rightB m = true) : ritemsM m = itemsM m := by
  have hk := right_kind h
  clear h
  obtain ⟨kind, hash, piece, ids, bytes, proof, members, seed⟩ := m
  dsimp only at hk
  rcases kinds kind with h | h | h | h | h | h | h | h | h | h | h | h
  case inr.inr.inr.inr.inr.inr.inr.inr.inr.inr.inr => omega
  all_goals
    subst h
    simp [ritemsM, itemsM, hasL, rhasL, bodyL, uintsL_one]
def rencM (m : MsgL) : Option (List UInt8) := if rrightB m = true then rencL (ritemsM m) else none
theorem rencM_eq (m : MsgL) : rencM m = encM m := by
  unfold rencM encM
  rw [rrightB_eq]
  by_cases h : rightB m = true
  · rw [if_pos h, if_pos h, ritemsM_eq h, rencL_eq]
  · rw [if_neg h, if_neg h]

end Go.Proofs.Ytnomekfemadpeaa

/- Plain words and laws that the walks of this seat use: slices that read as lists of cells or of bytes, appends to a slice of the call's own, slicing, and a conversion to a string. No condition. -/
namespace Go.Proofs.Ytnomekfemadpeaa
open Go.RowKit
set_option linter.unusedVariables false
set_option linter.unusedSimpArgs false

theorem ret_bool {a b : Bool} (h : a = b) : Ending.returned (.bool a) = .returned (.bool b) := by rw [h]
theorem ret_int {k : IntKind} {a b : Int} (h : a = b) : Ending.returned (.int k a) = .returned (.int k b) := by rw [h]

theorem below_next {w w1 w2 : World} (h : Below w.heap.size w w1) (h2 : Below w1.heap.size w1 w2) : Below w.heap.size w w2 := h.trans (h2.mono h.size)

theorem below_drewn {B : Nat} {w : World} (n : Nat) : Below B w (w.drewN n) := ⟨rfl, rfl, rfl, Nat.le_refl _, fun _ _ => rfl⟩

/-- A byte as a value. -/
def B8 (b : UInt8) : Value := .int .u8 (b.toNat : Int)

/-- The slice value v has n elements of 'size' cells each, and its cells read as cs. -/
def Row (w : World) (v : Value) (n size : Nat) (cs : List Value) : Prop :=
  cs.length = n * size ∧ ∃ (a : Option Addr) (c : Nat), v = .slice a n c ∧ n ≤ c ∧ c ≤ maxLen ∧ (a = none → c = 0) ∧
    (n * size ≠ 0 → ∃ b off, a = some ⟨b, off, none⟩ ∧ b < w.heap.size ∧ ∀ j, j < n * size → w.cell? ⟨b, off + j, none⟩ = cs[j]?)

/-- The slice value v reads as the bytes l. -/
def Bytes (w : World) (v : Value) (l : List UInt8) : Prop := Row w v l.length 1 (l.map B8)

theorem Row.of_owns {w : World} {base e size n : Nat} {v : Value} {cs : List Value} (h : w.ownsRow base e size v n cs) : Row w v n size cs := by
  obtain ⟨h1, h2⟩ := h
  refine ⟨h1, ?_⟩
  rcases h2 with ⟨rfl, rfl⟩ | ⟨g, cap, cur, rfl, hb, hh, hn, hm, hs, ht⟩
  · exact ⟨none, 0, rfl, Nat.le_refl _, by unfold maxLen; omega, fun _ => rfl, fun h => absurd (Nat.zero_mul _) h⟩
  · refine ⟨_, cap, rfl, hn, hm, (fun h => by cases h), fun _ => ⟨g, 0, rfl, (Array.getElem?_eq_some_iff.1 hh).1, fun j hj => ?_⟩⟩
    simp only [World.cell?, hh]
    simp only [Option.isSome_none, Bool.false_eq_true, if_false, Nat.zero_add, ← ht]
    rw [List.getElem?_take, if_pos hj]
    simp

theorem Row.of_kept {w w' : World} {row : Option Nat} {v : Value} {n size : Nat} {cs : List Value} (h : Row w v n size cs) (hg : w.grownBy w' row) (hne : ∀ k, v.ownBlock = some k → some k ≠ row) : Row w' v n size cs := by
  obtain ⟨h1, a, c, rfl, h2, h3, h4, h5⟩ := h
  refine ⟨h1, a, c, rfl, h2, h3, h4, fun h => ?_⟩
  obtain ⟨b, off, rfl, hb, hc⟩ := h5 h
  refine ⟨b, off, rfl, Nat.lt_of_lt_of_le hb hg.size, fun j hj => ?_⟩
  rw [← hc j hj]
  exact World.cell?_of_block (w := w) (hg.block b hb (hne b rfl))

theorem Row.of_below {w w' : World} {B : Nat} {v : Value} {n size : Nat} {cs : List Value} (h : Row w v n size cs) (hg : Below B w w') (hne : ∀ k, v.ownBlock = some k → k < B) : Row w' v n size cs := by
  obtain ⟨h1, a, c, rfl, h2, h3, h4, h5⟩ := h
  refine ⟨h1, a, c, rfl, h2, h3, h4, fun h => ?_⟩
  obtain ⟨b, off, rfl, hb, hc⟩ := h5 h
  refine ⟨b, off, rfl, Nat.lt_of_lt_of_le hb hg.size, fun j hj => ?_⟩
  rw [← hc j hj]
  exact hg.cell (p := ⟨b, off + j, none⟩) (hne b rfl)

theorem Row.of_new {w w' : World} {v : Value} {n size : Nat} {cs : List Value} (h : Row w v n size cs) (hg : Below w.heap.size w w') : Row w' v n size cs := by
  obtain ⟨h1, a, c, rfl, h2, h3, h4, h5⟩ := h
  refine ⟨h1, a, c, rfl, h2, h3, h4, fun h => ?_⟩
  obtain ⟨b, off, rfl, hb, hc⟩ := h5 h
  refine ⟨b, off, rfl, Nat.lt_of_lt_of_le hb hg.size, fun j hj => ?_⟩
  rw [← hc j hj]
  exact hg.cell (p := ⟨b, off + j, none⟩) hb

theorem Row.of_alloc {w : World} {v : Value} {n size : Nat} {cs : List Value} (h : Row w v n size cs) (o : Obj) : Row (w.alloc o) v n size cs :=
  h.of_new ((Below.refl _ _).alloc (Nat.le_refl _) o)

theorem Row.of_nil {w : World} (size : Nat) : Row w (.slice none 0 0) 0 size [] :=
  ⟨by simp, none, 0, rfl, Nat.le_refl _, by unfold maxLen; omega, fun _ => rfl, fun h => by simp at h⟩

theorem Row.shape {w : World} {v : Value} {n size : Nat} {cs : List Value} (h : Row w v n size cs) : ∃ a c, v = .slice a n c := by
  obtain ⟨_, a, c, rfl, _⟩ := h
  exact ⟨a, c, rfl⟩

/-- A part of a slice. -/
theorem Row.part {w : World} {a : Option Addr} {n c size : Nat} {cs : List Value} (h : Row w (.slice a n c) n size cs) (lo hi : Nat) (h1 : lo ≤ hi) (h2 : hi ≤ n) :
    Row w (.slice (if c = lo then a else a.map (·.add (lo * size))) (hi - lo) (c - lo)) (hi - lo) size ((cs.drop (lo * size)).take ((hi - lo) * size)) := by
  obtain ⟨hl, a', c', hv, hn, hm, hnil, hc⟩ := h
  cases hv
  have hmul : (hi - lo) * size + lo * size ≤ n * size := by
    rw [← Nat.add_mul]; exact Nat.mul_le_mul_right _ (by omega)
  refine ⟨by simp [List.length_take, List.length_drop, hl]; omega, _, _, rfl, by omega, by omega, ?_, ?_⟩
  · intro h
    split at h
    · have := hnil h; omega
    · have : a = Option.none := by simpa using h
      have := hnil this; omega
  · intro hne
    have hne' : n * size ≠ 0 := by omega
    obtain ⟨b, off, rfl, hb, hcell⟩ := hc hne'
    have hlo : c ≠ lo := by
      intro e
      have : hi - lo = 0 := by omega
      rw [this] at hne; simp at hne
    refine ⟨b, off + lo * size, ?_, hb, fun j hj => ?_⟩
    · rw [if_neg hlo]
      simp only [Option.map_some, Addr.add]
      split
      · rename_i h0; simp [h0]
      · rfl
    · rw [Nat.add_assoc, hcell (lo * size + j) (by omega), List.getElem?_take, if_pos hj, List.getElem?_drop]

theorem ownBlock_part (a : Option Addr) (c lo size n m : Nat) : (Value.slice (if c = lo then a else a.map (·.add (lo * size))) m (c - lo)).ownBlock = (Value.slice a n c).ownBlock := by
  split
  · cases a <;> rfl
  · cases a
    · rfl
    · simp only [Option.map_some, Value.ownBlock, Addr.add]
      split <;> rfl

/-- .. as the operation has it. -/
theorem Row.run_part {P : Program} {w : World} {v : Value} {n size : Nat} {cs : List Value} {t e : TypeId} {i : TypeInfo} (h : Row w v n size cs) (ht : P.underlying t = some (.slice e)) (hi0 : P.info? e = some i) (hsz : i.size = size)
    (low high : Option Value) (lo hi : Nat) (h1 : lo ≤ hi) (h2 : hi ≤ n) (hlow : (low = Option.none ∧ lo = 0) ∨ ∃ k, low = some (.int k (lo : Int))) (hhigh : (high = Option.none ∧ hi = n) ∨ ∃ k, high = some (.int k (hi : Int))) :
    ∃ v', (∀ W : World, (Instr.slice t v low high Option.none).run P W = .ok v' W) ∧ Row w v' (hi - lo) size ((cs.drop (lo * size)).take ((hi - lo) * size)) ∧ v'.ownBlock = v.ownBlock := by
  obtain ⟨a, c, rfl⟩ := h.shape
  refine ⟨_, fun W => ?_, h.part lo hi h1 h2, ownBlock_part a c lo size n (hi - lo)⟩
  have hc : n ≤ c := by
    obtain ⟨_, a', c', hv, hn, _⟩ := h
    cases hv; exact hn
  have hb : (Instr.sliceBounds true n c low high Option.none).run P W = .ok (lo, hi, c) W := by
    rcases hlow with ⟨rfl, rfl⟩ | ⟨k, rfl⟩ <;> rcases hhigh with ⟨rfl, rfl⟩ | ⟨k', rfl⟩ <;>
      simp [Instr.sliceBounds, run_sliceBound, Sem.run_bind, Sem.run_pure, show hi ≤ c by omega, h1, h2]
    all_goals first | omega | skip
  simp [Instr.slice, run_underlying ht, hb, sizeOf, typeInfo, hi0, hsz]


/-! ### Bytes -/

theorem Bytes.len {w : World} {v : Value} {l : List UInt8} (h : Bytes w v l) : ∃ a c, v = .slice a l.length c := h.shape
theorem Row.le {w : World} {v : Value} {n size : Nat} {cs : List Value} (h : Row w v n size cs) : n ≤ 9223372036854775807 := by
  obtain ⟨_, a, c, rfl, h1, h2, _⟩ := h
  unfold maxLen at h2; omega
theorem Bytes.le {w : World} {v : Value} {l : List UInt8} (h : Bytes w v l) : l.length ≤ 9223372036854775807 := Row.le h
theorem Bytes.of_new {w w' : World} {v : Value} {l : List UInt8} (h : Bytes w v l) (hg : Below w.heap.size w w') : Bytes w' v l := Row.of_new h hg
theorem Bytes.of_alloc {w : World} {v : Value} {l : List UInt8} (h : Bytes w v l) (o : Obj) : Bytes (w.alloc o) v l := Row.of_alloc h o
theorem Bytes.of_nil {w : World} : Bytes w (.slice none 0 0) [] := Row.of_nil 1

/-- The bytes of a slice, one by one. -/
theorem Bytes.cell {w : World} {v : Value} {l : List UInt8} (h : Bytes w v l) (h0 : 0 < l.length) : ∃ b off c, v = .slice (some ⟨b, off, none⟩) l.length c ∧ b < w.heap.size ∧ ∀ j, j < l.length → w.cell? ⟨b, off + j, none⟩ = some (B8 (l.getD j 0)) := by
  obtain ⟨_, a, c, rfl, _, _, _, h5⟩ := h
  obtain ⟨b, off, rfl, hb, hc⟩ := h5 (by omega)
  refine ⟨b, off, c, rfl, hb, fun j hj => ?_⟩
  rw [hc j (by omega)]
  simp [List.getElem?_map, List.getElem?_eq_getElem hj, List.getD]

theorem Bytes.part {P : Program} {w : World} {v : Value} {l : List UInt8} {t e : TypeId} {i : TypeInfo} (h : Bytes w v l) (ht : P.underlying t = some (.slice e)) (hi0 : P.info? e = some i) (hsz : i.size = 1)
    (low high : Option Value) (lo hi : Nat) (h1 : lo ≤ hi) (h2 : hi ≤ l.length) (hlow : (low = Option.none ∧ lo = 0) ∨ ∃ k, low = some (.int k (lo : Int))) (hhigh : (high = Option.none ∧ hi = l.length) ∨ ∃ k, high = some (.int k (hi : Int))) :
    ∃ v', (∀ W : World, (Instr.slice t v low high Option.none).run P W = .ok v' W) ∧ Bytes w v' ((l.drop lo).take (hi - lo)) ∧ v'.ownBlock = v.ownBlock := by
  obtain ⟨v', hr, hrow, hob⟩ := Row.run_part h ht hi0 hsz low high lo hi h1 h2 hlow hhigh
  refine ⟨v', hr, ?_, hob⟩
  have e : ((l.drop lo).take (hi - lo)).length = hi - lo := by simp; omega
  unfold Bytes
  rw [e]
  simpa [List.map_take, List.map_drop] using hrow

theorem Bytes.string {P : Program} {w : World} {v : Value} {l : List UInt8} {t e d : TypeId} (h : Bytes w v l) (ht : P.underlying t = some (.slice e)) (he : P.underlying e = some (.int .u8)) (hd : P.underlying d = some .string) :
    (convert t d v).run P w = .ok (.string ⟨l.toArray⟩) w := by
  by_cases h0 : 0 < l.length
  · obtain ⟨b, off, c, rfl, hb, hc⟩ := h.cell h0
    have := run_convert_bytes_arg w t e ht he b off l.length c (l.map fun x => (x.toNat : Int)) (by simp) (fun i hi => by
      rw [hc i hi]; simp [B8, List.getD, List.getElem?_eq_getElem hi]) d hd
    rw [this]
    have e : (l.map fun x => (x.toNat : Int)).map (fun n => UInt8.ofNat n.toNat) = l := by
      rw [List.map_map]
      have : ((fun n : Int => UInt8.ofNat n.toNat) ∘ fun x : UInt8 => (x.toNat : Int)) = id := by
        funext x; simp
      rw [this, List.map_id]
    simp only [strOfNums, e]
  · have hn : l = [] := List.eq_nil_of_length_eq_zero (by omega)
    subst hn
    obtain ⟨_, a, c, rfl, _, _, h4, _⟩ := h
    cases a with
    | none => rw [run_convert_bytes_nil w t e ht he _ _ d hd]; rfl
    | some a =>
      rw [run_convert_bytes_string w t d e _ _ c ht he hd]
      simp [Conv.bytesToString, loadCells, Sem.run_bind, Sem.run_pure]
      rfl

/-! ### A slice of bytes of the call's own -/

/-- The slice v of bytes is the call's own (its block lies at 'base' or later) and holds l. -/
def Own8 (w : World) (base e : Nat) (v : Value) (l : List UInt8) : Prop := w.ownsRow base e 1 v l.length (l.map B8)

theorem Own8.nil (w : World) (base e : Nat) : Own8 w base e (.slice none 0 0) [] := World.ownsRow_nil _ _ _ _
theorem Own8.bytes {w : World} {base e : Nat} {v : Value} {l : List UInt8} (h : Own8 w base e v l) : Bytes w v l := Row.of_owns h
theorem Own8.alloc {w : World} {base e : Nat} {v : Value} {l : List UInt8} (h : Own8 w base e v l) (o : Obj) : Own8 (w.alloc o) base e v l := World.ownsRow.alloc h o
theorem grownBy.cell_of {w w' : World} {row : Option Nat} {p : Addr} {u : Value} (hg : w.grownBy w' row) (h : w.cell? p = some u) (hne : ∀ k, row = some k → k ≠ p.block) : w'.cell? p = some u :=
  hg.cell h (fun e => hne p.block e.symm rfl)
theorem Own8.lt {w : World} {base e : Nat} {v : Value} {l : List UInt8} (h : Own8 w base e v l) : ∀ k, v.ownBlock = some k → base ≤ k ∧ k < w.heap.size := World.ownsRow.lt h
theorem Own8.mono {w : World} {base base' e : Nat} {v : Value} {l : List UInt8} (h : Own8 w base e v l) (hb : base' ≤ base) : Own8 w base' e v l :=
  ⟨h.1, h.2.imp id (fun ⟨g, cap, cur, a, b, c⟩ => ⟨g, cap, cur, a, Nat.le_trans hb b, c⟩)⟩
theorem Own8.kept {w w' : World} {base e : Nat} {v : Value} {l : List UInt8} {row : Option Nat} (h : Own8 w base e v l) (hg : w.grownBy w' row) (hne : v.ownBlock = Option.none ∨ v.ownBlock ≠ row) : Own8 w' base e v l := World.ownsRow.kept h hg hne
theorem Own8.new {w w' : World} {base e : Nat} {v : Value} {l : List UInt8} (h : Own8 w base e v l) (hg : Below w.heap.size w w') : Own8 w' base e v l :=
  World.ownsRow.kept (row := none) h ⟨hg.os, hg.tape, hg.output, hg.size, fun k hk _ => hg.block k hk⟩ (by
    by_cases h : v.ownBlock = Option.none
    · exact .inl h
    · exact .inr h)

/-- 'append(s, x...)' of bytes, s the call's own, x any slice of bytes: the run. -/
theorem run_app8 {P : Program} {w : World} (base e t ty : Nat) (i : TypeInfo) (ht : P.underlying t = some (.slice e)) (hi : P.info? e = some i) (hz : i.zero = some (.int .u8 0)) (hsize : i.size = 1) (hby : i.bytes = 1)
    (v : Value) (l : List UInt8) (hown : Own8 w base e v l) (u : Value) (m : List UInt8) (hm : Bytes w u m) (hlen : l.length + m.length ≤ 140737488355328) (hbase : base ≤ w.heap.size) :
    ∃ v' w', (Builtin.append_ #[t, t] ty #[v, u]).run P w = .ok v' w' ∧ Own8 w' base e v' (l ++ m) ∧ w.grownBy w' v.ownBlock ∧ (∀ k, v'.ownBlock = some k → v.ownBlock = some k ∨ w.heap.size ≤ k) := by
  obtain ⟨hl, ad, c, rfl, hc1, hc2, hc3, hc4⟩ := hm
  cases ad with
  | none =>
    have hc0 := hc3 rfl
    have hm0 : m = [] := List.eq_nil_of_length_eq_zero (by omega)
    subst hm0
    subst hc0
    refine ⟨v, w, run_append_owned_none (P := P) (w := w) base t ty e i 1 ht hi v l.length (l.map B8) hown, by simpa using hown, World.grownBy.refl _ _, fun k hk => .inl hk⟩
  | some ad =>
    obtain ⟨v', w', h1, h2, h3, _, h5⟩ := run_append_own_at (P := P) w base t ty e i _ 1 1 ht hi hz hsize hby rfl (by decide) v l.length (l.map B8) hown ad m.length c (m.map B8) (by simp)
      (fun j u hj => by
        have hjl : j < m.length := by
          rcases Nat.lt_or_ge j m.length with h | h
          · exact h
          · simp [List.getElem?_eq_none (show (m.map B8).length ≤ j by simpa using h)] at hj
        obtain ⟨b, off, hab, _, hcell⟩ := hc4 (by omega)
        cases hab
        have hplain : (⟨b, off, none⟩ : Addr).add j = ⟨b, off + j, none⟩ := by unfold Addr.add; split <;> simp_all
        rw [hplain, hcell j (by omega), hj])
      (fun u hu => by
        obtain ⟨b, _, rfl⟩ := List.mem_map.1 hu
        rfl) (by unfold maxLen; omega) (by omega) hbase
    refine ⟨v', w', h1, ?_, h3, ?_⟩
    · unfold Own8
      simpa using h2
    · intro k hk
      rcases h5 with h5 | h5
      · exact .inl (by rw [← h5]; exact hk)
      · rw [h5] at hk; cases hk; exact .inr (Nat.le_refl _)

/-- .. as an operation. -/
theorem wp_app8 {P : Program} {w : World} {o : Oper} {a : Act} {K : Act → World → Prop} {Q : Exit → Act → World → Prop} (s x : Operand) (t : TypeId)
    (ho : o.op = .call { callee := .builtin .append, args := #[s, x], argTypes := #[t, t] })
    (base e : Nat) (i : TypeInfo) (ht : P.underlying t = some (.slice e)) (hi : P.info? e = some i) (hz : i.zero = some (.int .u8 0)) (hsize : i.size = 1) (hby : i.bytes = 1)
    (v : Value) (l : List UInt8) (hs : a.eval s = v) (hown : Own8 w base e v l) (u : Value) (m : List UInt8) (hx : a.eval x = u) (hm : Bytes w u m)
    (hlen : l.length + m.length ≤ 140737488355328) (hbase : base ≤ w.heap.size)
    (h : ∀ v' w', Own8 w' base e v' (l ++ m) → w.grownBy w' v.ownBlock → (∀ k, v'.ownBlock = some k → v.ownBlock = some k ∨ w.heap.size ≤ k) → K (a.put o.dst v') w') : o.wp P a w K Q := by
  obtain ⟨v', w', hr, h2, h3, h4⟩ := run_app8 base e t o.type i ht hi hz hsize hby v l hown u m hm hlen hbase
  unfold Oper.wp execOp
  simp only [ho, resolve, invoke, builtin, Sem.run_bind, Sem.run_pure, Result.andThen_ok, List.map_toArray, List.map_cons, List.map_nil, hs, hx, hr]
  exact h v' w' h2 h3 h4

/-- .. at the head of a list of operations. -/
theorem wpList_app8 {P : Program} {w : World} {ops : Array Oper} {rest : List Oper} {o : Oper} {a : Act} {Q : Exit → Act → World → Prop} (hgd : o.guard = Option.none) (s x : Operand) (t : TypeId)
    (ho : o.op = .call { callee := .builtin .append, args := #[s, x], argTypes := #[t, t] })
    (base e : Nat) (i : TypeInfo) (ht : P.underlying t = some (.slice e)) (hi : P.info? e = some i) (hz : i.zero = some (.int .u8 0)) (hsize : i.size = 1) (hby : i.bytes = 1)
    (v : Value) (l : List UInt8) (hs : a.eval s = v) (hown : Own8 w base e v l) (u : Value) (m : List UInt8) (hx : a.eval x = u) (hm : Bytes w u m)
    (hlen : l.length + m.length ≤ 140737488355328) (hbase : base ≤ w.heap.size)
    (h : ∀ v' w', Own8 w' base e v' (l ++ m) → w.grownBy w' v.ownBlock → (∀ k, v'.ownBlock = some k → v.ownBlock = some k ∨ w.heap.size ≤ k) → wpList P ops Q rest (a.put o.dst v') w') : wpList P ops Q (o :: rest) a w :=
  wpList_plain hgd fun _ hK => wp_app8 s x t ho base e i ht hi hz hsize hby v l hs hown u m hx hm hlen hbase fun v' w' h2 h3 h4 => hK _ _ (h v' w' h2 h3 h4)

/-- .. in a region that draws its order. -/
theorem step_app8 {P : Program} {w : World} {ops : Array Oper} {o : Oper} {a : Act} {K : Act → World → Prop} {Q : Exit → Act → World → Prop} {E : Prop} (hgd : o.guard = Option.none) (s x : Operand) (t : TypeId)
    (ho : o.op = .call { callee := .builtin .append, args := #[s, x], argTypes := #[t, t] })
    (base e : Nat) (i : TypeInfo) (ht : P.underlying t = some (.slice e)) (hi : P.info? e = some i) (hz : i.zero = some (.int .u8 0)) (hsize : i.size = 1) (hby : i.bytes = 1)
    (v : Value) (l : List UInt8) (hs : a.eval s = v) (hown : Own8 w base e v l) (u : Value) (m : List UInt8) (hx : a.eval x = u) (hm : Bytes w u m)
    (hlen : l.length + m.length ≤ 140737488355328) (hbase : base ≤ w.heap.size)
    (h : ∀ v' w', Own8 w' base e v' (l ++ m) → w.grownBy w' v.ownBlock → (∀ k, v'.ownBlock = some k → v.ownBlock = some k ∨ w.heap.size ≤ k) → K (a.put o.dst v') w') : if Region.wanted o (yielded ops a.tmps) = true then Oper.wp P o a w K Q else E := by
  rw [if_pos (by simp [Region.wanted, hgd])]
  exact wp_app8 s x t ho base e i ht hi hz hsize hby v l hs hown u m hx hm hlen hbase h

/-- One byte that was laid in a new block. -/
theorem Bytes.one (w : World) (b : UInt8) (e : TypeId) : Bytes (w.alloc (.cells #[B8 b] e)) (.slice (some ⟨w.heap.size, 0, none⟩) 1 1) [b] := by
  refine ⟨rfl, _, 1, rfl, Nat.le_refl _, by unfold maxLen; omega, (fun h => by cases h), fun _ => ⟨_, 0, rfl, by simp, fun j hj => ?_⟩⟩
  have : j = 0 := by simpa using hj
  subst this
  simp [go_sem]

end Go.Proofs.Ytnomekfemadpeaa

/- Slices of api.Item that read as lists of numbers and bytes. No condition. -/
namespace Go.Proofs.Ytnomekfemadpeaa
open Go.RowKit
set_option linter.unusedVariables false

/-- An item: its number, its bytes. -/
abbrev It := Int × List UInt8

/-- The slice value v reads as the items l. -/
def Items (w : World) (v : Value) (l : List It) : Prop :=
  ∃ (a : Option Addr) (c : Nat), v = .slice a l.length c ∧ l.length ≤ c ∧ c ≤ maxLen ∧ (a = none → c = 0) ∧
    (0 < l.length → ∃ b off, a = some ⟨b, off, none⟩ ∧ b < w.heap.size ∧ ∀ i, i < l.length → w.cell? ⟨b, off + i * 2, none⟩ = some (.int .i64 (l.getD i (0, [])).1) ∧
      ∃ u, w.cell? ⟨b, off + i * 2 + 1, none⟩ = some u ∧ Bytes w u (l.getD i (0, [])).2)

theorem Items.len {w : World} {v : Value} {l : List It} (h : Items w v l) : ∃ a c, v = .slice a l.length c := by
  obtain ⟨a, c, rfl, _⟩ := h
  exact ⟨a, c, rfl⟩

theorem Items.le {w : World} {v : Value} {l : List It} (h : Items w v l) : l.length ≤ 9223372036854775807 := by
  obtain ⟨a, c, rfl, h1, h2, _⟩ := h
  unfold maxLen at h2; omega

theorem Items.of_new {w w' : World} {v : Value} {l : List It} (h : Items w v l) (hg : Below w.heap.size w w') : Items w' v l := by
  obtain ⟨a, c, rfl, h2, h3, h4, h5⟩ := h
  refine ⟨a, c, rfl, h2, h3, h4, fun h => ?_⟩
  obtain ⟨b, off, rfl, hb, hc⟩ := h5 h
  refine ⟨b, off, rfl, Nat.lt_of_lt_of_le hb hg.size, fun i hi => ?_⟩
  obtain ⟨h6, u, h7, h8⟩ := hc i hi
  exact ⟨(hg.cell (p := ⟨b, off + i * 2, none⟩) hb).trans h6, u, (hg.cell (p := ⟨b, off + i * 2 + 1, none⟩) hb).trans h7, h8.of_new hg⟩

theorem Items.cell {w : World} {v : Value} {l : List It} (h : Items w v l) (h0 : 0 < l.length) : ∃ b off c, v = .slice (some ⟨b, off, none⟩) l.length c ∧ b < w.heap.size ∧
    ∀ i, i < l.length → w.cell? ⟨b, off + i * 2, none⟩ = some (.int .i64 (l.getD i (0, [])).1) ∧ ∃ u, w.cell? ⟨b, off + i * 2 + 1, none⟩ = some u ∧ Bytes w u (l.getD i (0, [])).2 := by
  obtain ⟨a, c, rfl, h2, h3, h4, h5⟩ := h
  obtain ⟨b, off, rfl, hb, hc⟩ := h5 h0
  exact ⟨b, off, c, rfl, hb, hc⟩

theorem drop_at_it {l : List It} {k : Nat} (h : k < l.length) : l.drop k = l.getD k (0, []) :: l.drop (k + 1) := by
  rw [List.drop_eq_getElem_cons h]; simp [List.getD, List.getElem?_eq_getElem h]

end Go.Proofs.Ytnomekfemadpeaa

/- The items that bytes are, in plain Lean. No condition. -/
namespace Go.Proofs.Ytnomekfemadpeaa
set_option linter.unusedVariables false

/-- The first item of bytes, and what is behind it. -/
def oneI : List UInt8 → Option (It × List UInt8)
  | [] => none
  | x :: r => match cutL 0 0 r with
    | none => none
    | some (n, m) => if (r.drop m).length < n then none else some ((((x.toNat : Nat) : Int), (r.drop m).take n), (r.drop m).drop n)

/-- The items that bytes begin with; where what is left is none, one of the number 0. -/
def itemsP : Nat → List UInt8 → List It
  | 0, _ => []
  | f + 1, b => if b = [] then [] else match oneI b with
    | none => [(0, [])]
    | some (x, r) => x :: itemsP f r
def itemsL (b : List UInt8) : List It := itemsP b.length b

theorem oneI_len {b r : List UInt8} {x : It} (h : oneI b = some (x, r)) : r.length < b.length ∧ x.2.length ≤ b.length := by
  cases b with
  | nil => simp [oneI] at h
  | cons y t =>
    simp only [oneI] at h
    split at h
    · cases h
    · rename_i n m hc
      split at h
      · cases h
      · simp only [Option.some.injEq, Prod.mk.injEq] at h
        obtain ⟨rfl, rfl⟩ := h
        simp only [List.length_drop, List.length_cons, List.length_take]
        omega
theorem itemsP_more (f g : Nat) (b : List UInt8) (hf : b.length ≤ f) (hg : b.length ≤ g) : itemsP f b = itemsP g b := by
  induction f generalizing g b with
  | zero =>
    have : b = [] := List.eq_nil_of_length_eq_zero (by omega)
    subst this
    cases g <;> simp [itemsP]
  | succ f ih =>
    cases g with
    | zero =>
      have : b = [] := List.eq_nil_of_length_eq_zero (by omega)
      subst this
      simp [itemsP]
    | succ g =>
      simp only [itemsP]
      split
      · rfl
      · split
        · rfl
        · rename_i x r h
          have := (oneI_len h).1
          rw [ih g r (by omega) (by omega)]
theorem itemsL_nil : itemsL [] = [] := rfl
theorem itemsL_bad {b : List UInt8} (h0 : b ≠ []) (h : oneI b = none) : itemsL b = [(0, [])] := by
  unfold itemsL
  obtain ⟨k, hk⟩ : ∃ k, b.length = k + 1 := ⟨b.length - 1, by have := List.length_pos_iff.2 h0; omega⟩
  rw [hk]
  simp only [itemsP, h0, if_false, h]
theorem itemsL_step {b r : List UInt8} {x : It} (h : oneI b = some (x, r)) : itemsL b = x :: itemsL r := by
  have h0 : b ≠ [] := by rintro rfl; simp [oneI] at h
  unfold itemsL
  obtain ⟨k, hk⟩ : ∃ k, b.length = k + 1 := ⟨b.length - 1, by have := List.length_pos_iff.2 h0; omega⟩
  rw [hk]
  simp only [itemsP, h0, if_false, h]
  rw [itemsP_more k r.length r (by have := (oneI_len h).1; omega) (Nat.le_refl _)]
theorem itemsL_len (b : List UInt8) : (itemsL b).length ≤ b.length := by
  obtain ⟨n, hn⟩ : ∃ n, b.length ≤ n := ⟨_, Nat.le_refl _⟩
  induction n generalizing b with
  | zero =>
    have : b = [] := List.eq_nil_of_length_eq_zero (by omega)
    subst this; simp [itemsL_nil]
  | succ n ih =>
    by_cases h0 : b = []
    · subst h0; simp [itemsL_nil]
    · have := List.length_pos_iff.2 h0
      cases h : oneI b with
      | none => rw [itemsL_bad h0 h]; simp; omega
      | some p =>
        obtain ⟨x, r⟩ := p
        have h1 := (oneI_len h).1
        rw [itemsL_step h]
        have := ih r (by omega)
        simp; omega

/-- Are the numbers in order? -/
def checkF : List It → Int → Option (List It)
  | [], _ => some []
  | x :: xs, last => if x.1 ≤ last ∨ 63 < x.1 then none else (checkF xs x.1).map (x :: ·)
def decL (b : List UInt8) : Option (List It) := if 65536 < b.length then none else checkF (itemsL b) 0

/-- The last number. -/
def lastN : List It → Int → Int
  | [], last => last
  | x :: xs, _ => lastN xs x.1
theorem lastN_snoc : ∀ (l : List It) (last : Int) (x : It), lastN (l ++ [x]) last = x.1
  | [], _, _ => rfl
  | y :: l, last, x => lastN_snoc l y.1 x
theorem checkF_some : ∀ (l : List It) (last : Int) (m : List It), checkF l last = some m → m = l
  | [], last, m, h => by simp only [checkF, Option.some.injEq] at h; exact h.symm
  | y :: l, last, m, h => by
    simp only [checkF] at h
    split at h
    · cases h
    · cases hc : checkF l y.1 with
      | none => rw [hc] at h; cases h
      | some q =>
        rw [hc] at h
        simp only [Option.map_some, Option.some.injEq] at h
        rw [← h, checkF_some l y.1 q hc]
theorem checkF_append : ∀ (l : List It) (last : Int) (r : List It), checkF l last = some l → checkF (l ++ r) last = (checkF r (lastN l last)).map (l ++ ·)
  | [], last, r, h => by simp [lastN]
  | y :: l, last, r, h => by
    simp only [checkF] at h
    split at h
    · cases h
    · rename_i hy
      cases hc : checkF l y.1 with
      | none => rw [hc] at h; cases h
      | some q =>
        rw [checkF_some l y.1 q hc] at hc
        simp only [List.cons_append, checkF, if_neg hy, lastN, checkF_append l y.1 r hc]
        cases checkF r (lastN l y.1) <;> simp
theorem checkF_snoc {l : List It} {last : Int} {x : It} (h : checkF l last = some l) : checkF (l ++ [x]) last = if x.1 ≤ lastN l last ∨ 63 < x.1 then none else some (l ++ [x]) := by
  rw [checkF_append l last [x] h]
  simp only [checkF]
  split <;> simp
theorem lastN_ok {l : List It} {last : Int} (h : checkF l last = some l) (h0 : 0 ≤ last) (h1 : last ≤ 63) : 0 ≤ lastN l last ∧ lastN l last ≤ 63 := by
  induction l generalizing last with
  | nil => exact ⟨h0, h1⟩
  | cons y l ih =>
    simp only [checkF] at h
    split at h
    · cases h
    · rename_i hy
      cases hc : checkF l y.1 with
      | none => rw [hc] at h; cases h
      | some q =>
        obtain rfl := checkF_some l y.1 q hc
        exact ih hc (by omega) (by omega)
theorem checkF_none_append : ∀ (l r : List It) (last : Int), checkF l last = none → checkF (l ++ r) last = none
  | [], r, last, h => by simp [checkF] at h
  | y :: l, r, last, h => by
    simp only [checkF] at h
    simp only [List.cons_append, checkF]
    split
    · rfl
    · rename_i hy
      rw [if_neg hy] at h
      cases hc : checkF l y.1 with
      | none => rw [checkF_none_append l r y.1 hc]; rfl
      | some q => rw [hc] at h; cases h

end Go.Proofs.Ytnomekfemadpeaa

/- Plain laws on records: what was encoded is decoded as it was, what was decoded is encoded so again, and two records one behind the other. No program in sight. No condition. -/
namespace Go.Proofs.Ytnomekfemadpeaa
set_option linter.unusedVariables false

/-- An item as bytes. -/
def itB (x : It) : List UInt8 := UInt8.ofNat x.1.toNat :: (uint x.2.length ++ x.2)
def flatB (l : List It) : List UInt8 := l.flatMap itB
theorem flatB_cons (x : It) (l : List It) : flatB (x :: l) = itB x ++ flatB l := by simp [flatB]
theorem flatB_append (a b : List It) : flatB (a ++ b) = flatB a ++ flatB b := by simp [flatB]

theorem encF_parts : ∀ (l : List It) (last : Int) (out c : List UInt8), out.length ≤ 65536 → encF l last out = some c → c = out ++ flatB l ∧ checkF l last = some l ∧ c.length ≤ 65536
  | [], last, out, c, ho, h => by
    simp only [encF, Option.some.injEq] at h
    subst h
    exact ⟨by simp [flatB], rfl, ho⟩
  | x :: r, last, out, c, ho, h => by
    rw [encF] at h
    split at h
    · cases h
    · rename_i h1
      split at h
      · cases h
      · rename_i h2
        obtain ⟨q1, q2, q3⟩ := encF_parts r x.1 _ c (by omega) h
        refine ⟨?_, ?_, q3⟩
        · rw [q1, flatB_cons]; simp [itB]
        · simp only [checkF]
          rw [if_neg (by omega), q2]; rfl
theorem encF_of : ∀ (l : List It) (last : Int) (out : List UInt8), checkF l last = some l → (out ++ flatB l).length ≤ 65536 → encF l last out = some (out ++ flatB l)
  | [], last, out, _, _ => by simp [encF, flatB]
  | x :: r, last, out, h, hl => by
    simp only [checkF] at h
    split at h
    · cases h
    · rename_i h1
      have hc : checkF r x.1 = some r := by
        cases hc : checkF r x.1 with
        | none => rw [hc] at h; cases h
        | some q => rw [checkF_some r x.1 q hc]
      rw [flatB_cons, itB] at hl
      simp only [List.length_append, List.length_cons] at hl
      rw [encF, if_neg (by omega), if_neg (by simp only [List.length_append, List.length_cons, List.length_nil]; omega), encF_of r x.1 _ hc (by simp only [List.length_append, List.length_cons, List.length_nil]; omega)]
      rw [flatB_cons, itB]; simp
theorem checkF_all : ∀ (l : List It) (last : Int), checkF l last = some l → ∀ x ∈ l, last < x.1 ∧ x.1 ≤ 63
  | [], _, _, x, hx => by cases hx
  | y :: l, last, h, x, hx => by
    simp only [checkF] at h
    split at h
    · cases h
    · rename_i h1
      cases hc : checkF l y.1 with
      | none => rw [hc] at h; cases h
      | some q =>
        rw [checkF_some l y.1 q hc] at hc
        cases hx with
        | head => omega
        | tail _ hx => have := checkF_all l y.1 hc x hx; omega
theorem flatB_mem_len : ∀ (l : List It) (x : It), x ∈ l → x.2.length ≤ (flatB l).length
  | [], x, h => by cases h
  | y :: l, x, h => by
    rw [flatB_cons, List.length_append]
    cases h with
    | head => simp only [itB, List.length_cons, List.length_append]; omega
    | tail _ h => have := flatB_mem_len l x h; omega
theorem oneI_itB (x : It) (r : List UInt8) (h0 : 0 ≤ x.1) (h1 : x.1 ≤ 63) (h2 : x.2.length < 18446744073709551616) : oneI (itB x ++ r) = some (x, r) := by
  unfold itB
  simp only [List.cons_append, oneI, List.append_assoc]
  rw [cutL_uint0 _ _ h2]
  have e1 : (List.drop (uint x.2.length).length (uint x.2.length ++ (x.2 ++ r))) = x.2 ++ r := by simp
  simp only [e1]
  have e2 : ((UInt8.ofNat x.1.toNat).toNat : Int) = x.1 := by simp; omega
  rw [if_neg (by simp), e2]
  simp
theorem itemsL_flat : ∀ (l : List It) (r : List UInt8), (∀ x ∈ l, 0 ≤ x.1 ∧ x.1 ≤ 63 ∧ x.2.length < 18446744073709551616) → itemsL (flatB l ++ r) = l ++ itemsL r
  | [], r, _ => by simp [flatB]
  | x :: l, r, h => by
    obtain ⟨h0, h1, h2⟩ := h x (.head _)
    rw [flatB_cons, List.append_assoc, itemsL_step (oneI_itB x _ h0 h1 h2), itemsL_flat l r (fun y hy => h y (.tail _ hy)), List.cons_append]
theorem itemsL_flat0 {l : List It} {last : Int} (h : checkF l last = some l) (h0 : 0 ≤ last) (hl : (flatB l).length ≤ 65536) : itemsL (flatB l) = l := by
  have := itemsL_flat l [] (fun x hx => by have q1 := checkF_all l last h x hx; have q2 := flatB_mem_len l x hx; omega)
  simpa [itemsL_nil] using this

/-- What was encoded is decoded as it was. -/
theorem decL_encL {l : List It} {c : List UInt8} (h : encL l = some c) : decL c = some l := by
  obtain ⟨h1, h2, h3⟩ := encF_parts l 0 [] c (by simp) h
  rw [List.nil_append] at h1
  subst h1
  unfold decL
  rw [if_neg (by omega), itemsL_flat0 h2 (by omega) h3, h2]

theorem oneI_back {b r : List UInt8} {x : It} (h : oneI b = some (x, r)) : b = itB x ++ r := by
  cases b with
  | nil => simp [oneI] at h
  | cons y t =>
    simp only [oneI] at h
    split at h
    · cases h
    · rename_i n m hc
      split at h
      · cases h
      · rename_i hlt
        simp only [Option.some.injEq, Prod.mk.injEq] at h
        obtain ⟨rfl, rfl⟩ := h
        obtain ⟨q1, q2⟩ := cutL_take hc
        have hlen : ((t.drop m).take n).length = n := by rw [List.length_take]; omega
        unfold itB
        simp only [hlen, List.cons_append, List.append_assoc, List.take_append_drop]
        rw [← q1, List.take_append_drop]
        congr 1
        simp
theorem check_back (n : Nat) : ∀ (b : List UInt8) (last : Int) (l : List It), b.length ≤ n → 0 ≤ last → checkF (itemsL b) last = some l → b = flatB l := by
  induction n with
  | zero =>
    intro b last l hb h0 h
    obtain rfl : b = [] := List.eq_nil_of_length_eq_zero (by omega)
    rw [itemsL_nil] at h
    simp only [checkF, Option.some.injEq] at h
    subst h; rfl
  | succ n ih =>
    intro b last l hb h0 h
    by_cases hne : b = []
    · subst hne
      rw [itemsL_nil] at h
      simp only [checkF, Option.some.injEq] at h
      subst h; rfl
    · cases ho : oneI b with
      | none =>
        rw [itemsL_bad hne ho] at h
        simp only [checkF] at h
        rw [if_pos (by omega)] at h
        cases h
      | some p =>
        obtain ⟨x, r⟩ := p
        rw [itemsL_step ho] at h
        simp only [checkF] at h
        split at h
        · cases h
        · rename_i h1
          cases hc : checkF (itemsL r) x.1 with
          | none => rw [hc] at h; cases h
          | some q =>
            rw [hc] at h
            simp only [Option.map_some, Option.some.injEq] at h
            subst h
            have := (oneI_len ho).1
            rw [oneI_back ho, flatB_cons, ← ih r x.1 q (by omega) (by omega) hc]

/-- What was decoded is encoded so again. -/
theorem encL_decL {b : List UInt8} {l : List It} (h : decL b = some l) : encL l = some b := by
  unfold decL at h
  split at h
  · cases h
  · rename_i hb
    have e := check_back b.length b 0 l (Nat.le_refl _) (by omega) h
    have hl := checkF_some _ _ _ h
    rw [← hl] at h
    have := encF_of l 0 [] h (by rw [List.nil_append, ← e]; omega)
    rw [List.nil_append, ← e] at this
    exact this

theorem encL_le {l : List It} {c : List UInt8} (h : encL l = some c) : c.length ≤ 65536 := (encF_parts l 0 [] c (by simp) h).2.2

/-- Two records, one behind the other. -/
theorem decL_join {a b : List It} {x y : List UInt8} (ha : encL a = some x) (hb : encL b = some y) (hl : x.length + y.length ≤ 65536) (z : It) (r : List It) (hr : b = z :: r) :
    decL (x ++ y) = if lastN a 0 < z.1 then some (a ++ b) else none := by
  obtain ⟨a1, a2, a3⟩ := encF_parts a 0 [] x (by simp) ha
  obtain ⟨b1, b2, b3⟩ := encF_parts b 0 [] y (by simp) hb
  rw [List.nil_append] at a1 b1
  have hi : itemsL (x ++ y) = a ++ b := by
    rw [a1, b1, itemsL_flat a (flatB b) (fun x hx => by have q1 := checkF_all a 0 a2 x hx; have q2 := flatB_mem_len a x hx; rw [← a1] at q2; omega), itemsL_flat0 b2 (by omega) (by rw [← b1]; omega)]
  unfold decL
  rw [if_neg (by rw [List.length_append]; omega), hi, checkF_append a 0 b a2]
  have hk := lastN_ok a2 (by omega) (by omega)
  subst hr
  simp only [checkF] at b2 ⊢
  split at b2
  · cases b2
  · rename_i h1
    cases hc : checkF r z.1 with
    | none => rw [hc] at b2; cases b2
    | some q =>
      rw [checkF_some r z.1 q hc]
      by_cases hlt : lastN a 0 < z.1
      · rw [if_neg (by omega), if_pos hlt]; rfl
      · rw [if_pos (by omega), if_neg hlt]; rfl
theorem lastN_getD {a : List It} (h : 0 < a.length) (last : Int) : lastN a last = (a.getD (a.length - 1) (0, [])).1 := by
  induction a generalizing last with
  | nil => simp at h
  | cons y l ih =>
    cases l with
    | nil => rfl
    | cons u t =>
      rw [lastN, ih (by simp)]
      simp [List.getD]

end Go.Proofs.Ytnomekfemadpeaa

/- Messages that may be, and have the same items, are the same; in plain Lean. No condition. -/
namespace Go.Proofs.Ytnomekfemadpeaa
set_option linter.unusedVariables false
set_option linter.unusedSimpArgs false

theorem uint_split {a b : Nat} {r s : List UInt8} (ha : a < 18446744073709551616) (hb : b < 18446744073709551616) (h : uint a ++ r = uint b ++ s) : a = b ∧ r = s := by
  have h1 := cutL_uint0 a r ha
  rw [h, cutL_uint0 b s hb] at h1
  simp only [Option.some.injEq, Prod.mk.injEq] at h1
  have : a = b := h1.1.symm
  subst this
  exact ⟨rfl, List.append_cancel_left h⟩
theorem uintsL_inj : ∀ {l m : List Int}, uintsL l = uintsL m → l.map u64L = m.map u64L
  | [], [], _ => rfl
  | [], y :: m, h => by
    have h1 : (uintsL (y :: m)).length = 0 := by rw [← h]; rfl
    have := uint_pos (u64L y)
    simp [uintsL] at h1
    rw [h1.1] at this; simp at this
  | x :: l, [], h => by
    have h1 : (uintsL (x :: l)).length = 0 := by rw [h]; rfl
    have := uint_pos (u64L x)
    simp [uintsL] at h1
    rw [h1.1] at this; simp at this
  | x :: l, y :: m, h => by
    have h' : uint (u64L x) ++ uintsL l = uint (u64L y) ++ uintsL m := h
    obtain ⟨e1, e2⟩ := uint_split (u64L_lt x) (u64L_lt y) h'
    rw [List.map_cons, List.map_cons, e1, uintsL_inj e2]
theorem u64L_inj {a b : Int} (ha : 0 ≤ a) (ha2 : a ≤ 9223372036854775807) (hb : 0 ≤ b) (hb2 : b ≤ 9223372036854775807) (h : u64L a = u64L b) : a = b := by
  unfold u64L at h; omega
theorem ids_inj : ∀ {l m : List Int}, l.all idB = true → m.all idB = true → l.map u64L = m.map u64L → l = m
  | [], [], _, _, _ => rfl
  | [], y :: m, _, _, h => by simp at h
  | x :: l, [], _, _, h => by simp at h
  | x :: l, y :: m, h1, h2, h => by
    simp only [List.all_cons, Bool.and_eq_true, List.map_cons, List.cons.injEq, idB, withinB, decide_eq_true_eq] at h1 h2 h
    rw [u64L_inj (by omega) (by omega) (by omega) (by omega) h.1, ids_inj h1.2 h2.2 h.2]
theorem flat_inj : ∀ {l m : List (List UInt8)}, (∀ d ∈ l, d.length = 32) → (∀ d ∈ m, d.length = 32) → l.flatten = m.flatten → l = m
  | [], [], _, _, _ => rfl
  | [], y :: m, _, h2, h => by
    have := h2 y (.head _)
    have h3 := congrArg List.length h
    simp only [List.flatten_cons, List.length_append, List.flatten_nil, List.length_nil] at h3; omega
  | x :: l, [], h1, _, h => by
    have := h1 x (.head _)
    have h3 := congrArg List.length h
    simp only [List.flatten_cons, List.length_append, List.flatten_nil, List.length_nil] at h3; omega
  | x :: l, y :: m, h1, h2, h => by
    simp only [List.flatten_cons] at h
    obtain ⟨e1, e2⟩ := List.append_inj h (by rw [h1 x (.head _), h2 y (.head _)])
    rw [e1, flat_inj (fun d hd => h1 d (.tail _ hd)) (fun d hd => h2 d (.tail _ hd)) e2]
theorem memU_eq (x : MemL) (r : List UInt8) : memU x ++ r = uint (u64L x.id) ++ (uint (u64L x.inc) ++ (uint (u64L x.state) ++ r)) := by simp [memU, uintsL]
theorem mems_inj : ∀ {l m : List MemL}, l.all memB0 = true → m.all memB0 = true → l.flatMap memU = m.flatMap memU → l = m
  | [], [], _, _, _ => rfl
  | [], y :: m, _, _, h => by
    have h3 := congrArg List.length h
    rw [List.flatMap_cons, memU_eq] at h3
    have := uint_pos (u64L y.id)
    simp only [List.length_append, List.flatMap_nil, List.length_nil] at h3; omega
  | x :: l, [], _, _, h => by
    have h3 := congrArg List.length h
    rw [List.flatMap_cons, memU_eq] at h3
    have := uint_pos (u64L x.id)
    simp only [List.length_append, List.flatMap_nil, List.length_nil] at h3; omega
  | x :: l, y :: m, h1, h2, h => by
    rw [List.flatMap_cons, List.flatMap_cons, memU_eq, memU_eq] at h
    obtain ⟨e1, h⟩ := uint_split (u64L_lt _) (u64L_lt _) h
    obtain ⟨e2, h⟩ := uint_split (u64L_lt _) (u64L_lt _) h
    obtain ⟨e3, h⟩ := uint_split (u64L_lt _) (u64L_lt _) h
    simp only [List.all_cons, Bool.and_eq_true, memB0, memB, idB, withinB, decide_eq_true_eq] at h1 h2
    have i1 := u64L_inj (by omega) (by omega) (by omega) (by omega) e1
    have i2 := u64L_inj (by omega) (by omega) (by omega) (by omega) e2
    have i3 := u64L_inj (by omega) (by omega) (by omega) (by omega) e3
    have : x = y := by
      obtain ⟨a, b, c, d⟩ := x
      obtain ⟨a', b', c', d'⟩ := y
      simp only [MemL.mk.injEq]
      dsimp only at i1 i2 i3 h1 h2
      exact ⟨i1, i2, i3, by omega⟩
    rw [this, mems_inj h1.2 h2.2 h]

theorem item_of {m : MsgL} (h : rightB m = true) {i : Int} (h1 : 1 ≤ i) (h2 : i ≤ 8) : itemB m i = true := by
  rw [rightB_eq] at h
  simp only [Bool.and_eq_true] at h
  obtain ⟨a1, a2, a3, a4, a5, a6, a7, a8⟩ := h
  rcases (show i = 1 ∨ i = 2 ∨ i = 3 ∨ i = 4 ∨ i = 5 ∨ i = 6 ∨ i = 7 ∨ i = 8 by omega) with rfl | rfl | rfl | rfl | rfl | rfl | rfl | rfl <;> assumption
theorem has_one {k : Int} (h1 : 1 ≤ k) (h2 : k ≤ 11) : 1 ∈ hasL k := by
  rcases kinds k with h | h | h | h | h | h | h | h | h | h | h | h
  case inr.inr.inr.inr.inr.inr.inr.inr.inr.inr.inr => omega
  all_goals (subst h; simp [hasL])
theorem has_head {k : Int} (h1 : 1 ≤ k) (h2 : k ≤ 11) : ∃ r, hasL k = 1 :: r := by
  rcases kinds k with h | h | h | h | h | h | h | h | h | h | h | h
  case inr.inr.inr.inr.inr.inr.inr.inr.inr.inr.inr => omega
  all_goals (subst h; exact ⟨_, rfl⟩)

/-- Right messages of the same items are the same. -/
theorem items_inj {a b : MsgL} (ha : rightB a = true) (hb : rightB b = true) (pa : ∀ d ∈ a.proof, d.length = 32) (pb : ∀ d ∈ b.proof, d.length = 32) (h : itemsM a = itemsM b) : a = b := by
  have ka := right_kind ha
  have kb := right_kind hb
  have hk : a.kind = b.kind := by
    obtain ⟨r, er⟩ := has_head ka.1 ka.2
    obtain ⟨r', er'⟩ := has_head kb.1 kb.2
    unfold itemsM at h
    rw [er, er'] at h
    simp only [List.map_cons, List.cons.injEq, Prod.mk.injEq, true_and] at h
    have h1 := uintsL_inj (l := [a.kind]) (m := [b.kind]) h.1
    simp only [List.map_cons, List.map_nil, List.cons.injEq, and_true] at h1
    exact u64L_inj (by omega) (by omega) (by omega) (by omega) h1
  have hbody : ∀ i ∈ hasL a.kind, bodyL a i = bodyL b i := by
    unfold itemsM at h
    rw [← hk] at h
    intro i hi
    have := List.map_inj_left.1 h i hi
    simpa using this
  have hit : ∀ i : Int, 1 ≤ i → i ≤ 8 → (i ∈ hasL a.kind ∧ fitsB a i = true ∧ fitsB b i = true ∧ bodyL a i = bodyL b i) ∨ (bareB a i = true ∧ bareB b i = true) := by
    intro i h1 h2
    have ia := item_of ha h1 h2
    have ib := item_of hb h1 h2
    unfold itemB at ia ib
    rw [← hk] at ib
    by_cases hm : i ∈ hasL a.kind
    · rw [if_pos hm] at ia ib
      exact .inl ⟨hm, ia, ib, hbody i hm⟩
    · rw [if_neg hm] at ia ib
      exact .inr ⟨ia, ib⟩
  have e2 : a.hash = b.hash := by
    rcases hit 2 (by omega) (by omega) with ⟨_, _, _, h⟩ | ⟨h1, h2⟩
    · simpa [bodyL] using h
    · simp [bareB] at h1 h2; rw [h1, h2]
  have e3 : a.piece = b.piece := by
    rcases hit 3 (by omega) (by omega) with ⟨_, f1, f2, h⟩ | ⟨h1, h2⟩
    · simp [fitsB, withinB] at f1 f2
      have h1 := uintsL_inj (l := [a.piece]) (m := [b.piece]) (by simpa [bodyL] using h)
      simp only [List.map_cons, List.map_nil, List.cons.injEq, and_true] at h1
      exact u64L_inj (by omega) (by omega) (by omega) (by omega) h1
    · simp [bareB] at h1 h2; rw [h1, h2]
  have e4 : a.ids = b.ids := by
    rcases hit 4 (by omega) (by omega) with ⟨_, f1, f2, h⟩ | ⟨h1, h2⟩
    · simp only [fitsB, Int.reduceEq, if_false, if_true, Bool.and_eq_true] at f1 f2
      exact ids_inj f1.2 f2.2 (uintsL_inj (by simpa [bodyL] using h))
    · simp [bareB] at h1 h2; rw [h1, h2]
  have e5 : a.bytes = b.bytes := by
    rcases hit 5 (by omega) (by omega) with ⟨_, f1, f2, h⟩ | ⟨h1, h2⟩
    · simpa [bodyL] using h
    · simp [bareB] at h1 h2; rw [h1, h2]
  have e6 : a.proof = b.proof := by
    rcases hit 6 (by omega) (by omega) with ⟨_, f1, f2, h⟩ | ⟨h1, h2⟩
    · exact flat_inj pa pb (by simpa [bodyL] using h)
    · simp [bareB] at h1 h2; rw [h1, h2]
  have e7 : a.members = b.members := by
    rcases hit 7 (by omega) (by omega) with ⟨_, f1, f2, h⟩ | ⟨h1, h2⟩
    · simp only [fitsB, Int.reduceEq, if_false, if_true, Bool.and_eq_true] at f1 f2
      exact mems_inj f1.2 f2.2 (by simpa [bodyL] using h)
    · simp [bareB] at h1 h2; rw [h1, h2]
  have e8 : a.seed = b.seed := by
    rcases hit 8 (by omega) (by omega) with ⟨_, f1, f2, h⟩ | ⟨h1, h2⟩
    · have h1 := uintsL_inj (l := [if a.seed then 1 else 0]) (m := [if b.seed then 1 else 0]) (by simpa [bodyL] using h)
      cases ha8 : a.seed <;> cases hb8 : b.seed <;> simp [ha8, hb8, u64L] at h1 ⊢
    · simp [bareB] at h1 h2; rw [h1, h2]
  cases a
  cases b
  simp only [MsgL.mk.injEq]
  exact ⟨hk, e2, e3, e4, e5, e6, e7, e8⟩

/-- .. and of the same bytes. -/
theorem encM_inj {a b : MsgL} {x y : List UInt8} (ha : encM a = some x) (hb : encM b = some y) (pa : ∀ d ∈ a.proof, d.length = 32) (pb : ∀ d ∈ b.proof, d.length = 32) : x = y ↔ a = b := by
  unfold encM at ha hb
  split at ha
  case isFalse => cases ha
  split at hb
  case isFalse => cases hb
  rename_i h1 h2
  constructor
  · intro e
    subst e
    have d1 := decL_encL ha
    rw [decL_encL hb] at d1
    exact items_inj h1 h2 pa pb (Option.some.inj d1).symm
  · intro e
    subst e
    rw [ha] at hb
    exact Option.some.inj hb

end Go.Proofs.Ytnomekfemadpeaa

/- Bytes as one number, as hashes; numbers as members; in plain Lean. No condition. -/
namespace Go.Proofs.Ytnomekfemadpeaa
set_option linter.unusedVariables false

/-- What wire.one answers. -/
def oneO : List Int → Option Int
  | [n] => if 0 ≤ n then some n else none
  | _ => none
def oneL (b : List UInt8) : Option Int := oneO (numsL b)

/-- Bytes as hashes. -/
def digsF : Nat → List UInt8 → List (List UInt8)
  | 0, _ => []
  | f + 1, b => if b.length < 32 then [] else b.take 32 :: digsF f (b.drop 32)
def digsB (b : List UInt8) : List (List UInt8) := digsF b.length b
theorem digsF_more : ∀ (f g : Nat) (b : List UInt8), b.length ≤ f → b.length ≤ g → digsF f b = digsF g b
  | 0, 0, b, _, _ => rfl
  | 0, g + 1, b, hf, _ => by simp only [digsF]; rw [if_pos (by omega)]
  | f + 1, 0, b, _, hg => by simp only [digsF]; rw [if_pos (by omega)]
  | f + 1, g + 1, b, hf, hg => by
    simp only [digsF]
    split
    · rfl
    · rw [digsF_more f g (b.drop 32) (by simp; omega) (by simp; omega)]
theorem digsB_step {b : List UInt8} (h : 32 ≤ b.length) : digsB b = b.take 32 :: digsB (b.drop 32) := by
  obtain ⟨f, hf⟩ : ∃ f, b.length = f + 1 := ⟨b.length - 1, by omega⟩
  have e : digsB b = digsF (f + 1) b := by rw [digsB, hf]
  rw [e]
  simp only [digsF]
  rw [if_neg (by omega), digsF_more f (b.drop 32).length (b.drop 32) (by simp; omega) (Nat.le_refl _)]
  rfl
theorem digsB_small {b : List UInt8} (h : b.length < 32) : digsB b = [] := by
  rcases hb : b.length with _ | f
  · rw [digsB, hb]; rfl
  · rw [digsB, hb]; simp only [digsF]; rw [if_pos h]

/-- Numbers as members, three each. -/
def memsB : List Int → List MemL
  | i :: n :: t :: r => ⟨i, n, t, 0⟩ :: memsB r
  | _ => []
theorem memsB_small {l : List Int} (h : l.length < 3) : memsB l = [] := by
  match l, h with
  | [], _ => rfl
  | [_], _ => rfl
  | [_, _], _ => rfl
theorem three_of {l : List Int} (h : 3 ≤ l.length) : ∃ a b c r, l = a :: b :: c :: r ∧ r.length = l.length - 3 := by
  match l, h with
  | a :: b :: c :: r, _ => exact ⟨a, b, c, r, rfl, by simp⟩

end Go.Proofs.Ytnomekfemadpeaa

/- What wire.Decode computes, in plain Lean: it answers just the messages whose bytes these are. No condition. -/
namespace Go.Proofs.Ytnomekfemadpeaa
set_option linter.unusedVariables false
set_option linter.unusedSimpArgs false

/-! ### Numbers -/

theorem numStep_uint {n : Nat} (h : n < 4398046511104) (r : List UInt8) : numStep (uint n ++ r) = some (n, (uint n).length) := by
  unfold numStep
  rw [cutL_uint0 n r (by omega)]
  have := uint_len 5 n (by omega)
  simp only
  rw [if_pos (by omega)]
theorem numsL_uints : ∀ (l : List Int), (∀ n ∈ l, 0 ≤ n ∧ n < 4398046511104) → numsL (uintsL l) = l
  | [], _ => rfl
  | n :: l, h => by
    have hn := h n (by simp)
    have hu : (u64L n : Int) = n := u64L_nn hn.1 (by omega)
    have e : uintsL (n :: l) = uint (u64L n) ++ uintsL l := by simp [uintsL]
    rw [e, numsL_step (numStep_uint (by omega) _), List.drop_left, numsL_uints l (fun m hm => h m (by simp [hm])), hu]
theorem uintsL_nums : ∀ (f : Nat) (b : List UInt8), b.length ≤ f → (∀ n ∈ numsL b, 0 ≤ n) → uintsL (numsL b) = b
  | 0, b, h, _ => by rw [List.length_eq_zero_iff.1 (Nat.le_zero.1 h)]; rfl
  | f + 1, b, h, hn => by
    by_cases hb : b = []
    · rw [hb]; rfl
    cases hs : numStep b with
    | none => rw [numsL_bad hb hs] at hn; have := hn (-1) (by simp); omega
    | some p =>
      obtain ⟨n, m⟩ := p
      obtain ⟨_, h1, _, h2, h3, h4⟩ := numStep_some hs
      rw [numsL_step hs] at hn ⊢
      have e : uintsL ((n : Int) :: numsL (b.drop m)) = uint (u64L n) ++ uintsL (numsL (b.drop m)) := by simp [uintsL]
      have hu : u64L (n : Int) = n := by have := u64L_nn (n := (n : Int)) (by omega) (by omega); omega
      rw [e, uintsL_nums f (b.drop m) (by simp; omega) (fun k hk => hn k (by simp [hk])), hu, ← h4]
theorem nums_lt : ∀ (f : Nat) (b : List UInt8), b.length ≤ f → ∀ n ∈ numsL b, n < 4398046511104
  | 0, b, h, n, hn => by rw [List.length_eq_zero_iff.1 (Nat.le_zero.1 h)] at hn; cases hn
  | f + 1, b, h, n, hn => by
    by_cases hb : b = []
    · rw [hb] at hn; cases hn
    cases hs : numStep b with
    | none => rw [numsL_bad hb hs] at hn; simp at hn; omega
    | some p =>
      obtain ⟨k, m⟩ := p
      obtain ⟨_, h1, _, h2, h3, h4⟩ := numStep_some hs
      rw [numsL_step hs] at hn
      rcases List.mem_cons.1 hn with e | hn
      · omega
      · exact nums_lt f (b.drop m) (by simp; omega) n hn
theorem oneL_some {b : List UInt8} {n : Int} : oneL b = some n ↔ numsL b = [n] ∧ 0 ≤ n := by
  unfold oneL
  match hL : numsL b with
  | [] => simp [oneO]
  | [k] =>
    simp only [oneO]
    constructor
    · intro h
      split at h
      · cases h; exact ⟨rfl, by assumption⟩
      · cases h
    · rintro ⟨h1, h2⟩
      cases h1
      rw [if_pos h2]
  | _ :: _ :: _ => simp [oneO]
theorem oneL_back {b : List UInt8} {n : Int} (h : oneL b = some n) : uintsL [n] = b ∧ 0 ≤ n ∧ n < 4398046511104 := by
  obtain ⟨h1, h2⟩ := oneL_some.1 h
  refine ⟨?_, h2, nums_lt _ b (Nat.le_refl _) n (by rw [h1]; simp)⟩
  rw [← h1]
  exact uintsL_nums _ b (Nat.le_refl _) (fun k hk => by rw [h1] at hk; simp at hk; omega)
theorem oneL_uint {n : Int} (h0 : 0 ≤ n) (h1 : n < 4398046511104) : oneL (uintsL [n]) = some n :=
  oneL_some.2 ⟨numsL_uints [n] (fun k hk => by simp at hk; omega), h0⟩

/-! ### Hashes and members -/

theorem digsB_flat : ∀ (l : List (List UInt8)), (∀ d ∈ l, d.length = 32) → digsB l.flatten = l
  | [], _ => digsB_small (by simp)
  | d :: l, h => by
    have hd := h d (by simp)
    rw [List.flatten_cons, digsB_step (by simp; omega), List.take_left' hd, List.drop_left' hd, digsB_flat l (fun x hx => h x (by simp [hx]))]
theorem flat_digsB : ∀ (f : Nat) (b : List UInt8), b.length ≤ f → b.length % 32 = 0 → (digsB b).flatten = b ∧ ∀ d ∈ digsB b, d.length = 32
  | 0, b, h, _ => by
    obtain rfl : b = [] := List.length_eq_zero_iff.1 (Nat.le_zero.1 h)
    rw [digsB_small (by simp)]
    exact ⟨rfl, fun d hd => by cases hd⟩
  | f + 1, b, h, h32 => by
    by_cases hs : b.length < 32
    · obtain rfl : b = [] := List.length_eq_zero_iff.1 (by omega)
      rw [digsB_small (by simp)]
      exact ⟨rfl, fun d hd => by cases hd⟩
    · have ih := flat_digsB f (b.drop 32) (by simp; omega) (by simp; omega)
      rw [digsB_step (by omega)]
      refine ⟨by rw [List.flatten_cons, ih.1, List.take_append_drop], fun d hd => ?_⟩
      rcases List.mem_cons.1 hd with rfl | hd
      · simp; omega
      · exact ih.2 d hd
theorem memsB_uints : ∀ (l : List MemL), l.all memB0 = true → memsB (numsL (l.flatMap memU)) = l ∧ (numsL (l.flatMap memU)).length = 3 * l.length
  | l, h => by
    have e : l.flatMap memU = uintsL (l.flatMap fun x => [x.id, x.inc, x.state]) := by
      unfold memU uintsL
      rw [List.flatMap_assoc]
    have hb : ∀ n ∈ l.flatMap (fun x => [x.id, x.inc, x.state]), 0 ≤ n ∧ n < 4398046511104 := fun n hn => by
      obtain ⟨x, hx, hn⟩ := List.mem_flatMap.1 hn
      have := List.all_eq_true.1 h x hx
      simp [memB0, memB, idB, withinB] at this
      simp at hn
      omega
    rw [e, numsL_uints _ hb]
    clear e hb
    induction l with
    | nil => exact ⟨rfl, rfl⟩
    | cons x l ih =>
      have hx := h
      simp only [List.all_cons, Bool.and_eq_true] at hx
      obtain ⟨i1, i2⟩ := ih hx.2
      have h0 : x.since = 0 := by have := hx.1; simp [memB0] at this; exact this.2
      simp only [List.flatMap_cons, List.cons_append, List.nil_append, memsB, i1, List.length_cons, i2]
      refine ⟨?_, by omega⟩
      rw [← h0]
theorem uints_memsB : ∀ (l : List Int), l.length % 3 = 0 → (memsB l).flatMap memU = uintsL l
  | [], _ => rfl
  | [_], h => by simp at h
  | [_, _], h => by simp at h
  | a :: b :: c :: l, h => by
    have ih := uints_memsB l (by simp at h; omega)
    simp only [memsB, List.flatMap_cons, ih]
    simp [memU, uintsL]
theorem memsB_pos : ∀ (l : List Int), l.length % 3 = 0 → (memsB l).all memB0 = true → ∀ n ∈ l, 0 ≤ n
  | [], _, _, n, hn => by cases hn
  | [_], h, _, n, hn => by simp at h
  | [_, _], h, _, n, hn => by simp at h
  | a :: b :: c :: l, h, ha, n, hn => by
    simp only [memsB, List.all_cons, Bool.and_eq_true] at ha
    have ih := memsB_pos l (by simp at h; omega) ha.2 n
    have h1 := ha.1
    simp [memB0, memB, idB, withinB] at h1
    simp only [List.mem_cons] at hn
    rcases hn with rfl | rfl | rfl | hn
    · omega
    · omega
    · omega
    · exact ih hn

/-! ### Decode -/

/-- An item's bytes put into a message. -/
def putL (m : MsgL) (i : Int) (b : List UInt8) : Option MsgL :=
  if i = 2 then (if b.length = 32 then some { m with hash := b } else none)
  else if i = 3 then (if (oneL b).isSome then some { m with piece := (oneL b).getD 0 } else none)
  else if i = 4 then some { m with ids := numsL b }
  else if i = 5 then some { m with bytes := b }
  else if i = 6 then (if b.length % 32 = 0 then some { m with proof := digsB b } else none)
  else if i = 7 then (if (numsL b).length % 3 = 0 then some { m with members := memsB (numsL b) } else none)
  else (if ((oneL b).isSome && decide ((oneL b).getD 0 ≤ 1)) = true then some { m with seed := (oneL b).getD 0 == 1 } else none)
def putsL : List Int → List It → MsgL → Option MsgL
  | [], [], m => some m
  | i :: is, x :: xs, m => if x.1 = i then (putL m i x.2).bind (putsL is xs) else none
  | _, _, _ => none
def msgZ : MsgL := ⟨0, zero32, 0, [], [], [], [], false⟩
def rightO (m : MsgL) : Option MsgL := if rightB m = true then some m else none
def decI : List It → Option MsgL
  | [] => none
  | x :: xs => if x.1 = 1 then (oneL x.2).bind fun k => if (hasL k).length = xs.length + 1 then (putsL (hasL k).tail xs { msgZ with kind := k }).bind rightO else none else none
/-- What Decode answers. -/
def decP (b : List UInt8) : Option MsgL := (decL b).bind decI

theorem rightO_some {m m' : MsgL} : rightO m = some m' ↔ m = m' ∧ rightB m = true := by
  unfold rightO
  split
  · simp [*]
  · simp [*]
theorem putsL_cons {i : Int} {is : List Int} {x : It} {xs : List It} {m m' : MsgL} : putsL (i :: is) (x :: xs) m = some m' ↔ x.1 = i ∧ ∃ m1, putL m i x.2 = some m1 ∧ putsL is xs m1 = some m' := by
  simp only [putsL]
  split
  · simp [*, Option.bind_eq_some_iff]
  · simp [*]
theorem putsL_nil {m m' : MsgL} : putsL [] [] m = some m' ↔ m = m' := by simp [putsL]
theorem len_one {α : Type} {l : List α} (h : l.length = 1) : ∃ a, l = [a] := List.length_eq_one_iff.1 h
theorem len_two {α : Type} {l : List α} (h : l.length = 2) : ∃ a b, l = [a, b] := by
  match l, h with
  | [a, b], _ => exact ⟨a, b, rfl⟩
theorem len_four {α : Type} {l : List α} (h : l.length = 4) : ∃ a b c d, l = [a, b, c, d] := by
  match l, h with
  | [a, b, c, d], _ => exact ⟨a, b, c, d, rfl⟩

theorem put2 {m m' : MsgL} {b : List UInt8} : putL m 2 b = some m' ↔ b.length = 32 ∧ { m with hash := b } = m' := by simp [putL]
theorem put3 {m m' : MsgL} {b : List UInt8} : putL m 3 b = some m' ↔ ∃ n, oneL b = some n ∧ { m with piece := n } = m' := by
  simp only [putL]
  cases oneL b <;> simp
theorem put4 {m m' : MsgL} {b : List UInt8} : putL m 4 b = some m' ↔ { m with ids := numsL b } = m' := by simp [putL]
theorem put5 {m m' : MsgL} {b : List UInt8} : putL m 5 b = some m' ↔ { m with bytes := b } = m' := by simp [putL]
theorem put6 {m m' : MsgL} {b : List UInt8} : putL m 6 b = some m' ↔ b.length % 32 = 0 ∧ { m with proof := digsB b } = m' := by simp [putL]
theorem put7 {m m' : MsgL} {b : List UInt8} : putL m 7 b = some m' ↔ (numsL b).length % 3 = 0 ∧ { m with members := memsB (numsL b) } = m' := by simp [putL]
theorem put8 {m m' : MsgL} {b : List UInt8} : putL m 8 b = some m' ↔ ∃ n, oneL b = some n ∧ n ≤ 1 ∧ { m with seed := n == 1 } = m' := by
  simp only [putL]
  cases oneL b <;> simp
theorem seed_back {b : List UInt8} {n : Int} (h : oneL b = some n) (h1 : n ≤ 1) : uintsL [if (n == 1) = true then 1 else 0] = b := by
  obtain ⟨e, h0, _⟩ := oneL_back h
  rw [← e]
  rcases (by omega : n = 0 ∨ n = 1) with rfl | rfl <;> rfl

/-- What was decoded is encoded as it stood there. -/
theorem decI_back {l : List It} {m : MsgL} (h : decI l = some m) : rightB m = true ∧ itemsM m = l ∧ m.hash.length = 32 ∧ ∀ d ∈ m.proof, d.length = 32 := by
  cases l with
  | nil => cases h
  | cons x xs =>
    simp only [decI] at h
    split at h
    case isFalse => cases h
    rename_i h1
    obtain ⟨k, hk, h⟩ := Option.bind_eq_some_iff.1 h
    split at h
    case isFalse => cases h
    rename_i hl
    obtain ⟨mm, hp, hro⟩ := Option.bind_eq_some_iff.1 h
    obtain ⟨hme, hr⟩ := rightO_some.1 hro
    subst hme
    clear hro
    obtain ⟨hk1, _, _⟩ := oneL_back hk
    refine ⟨hr, ?_⟩
    have hx : x = (1, uintsL [k]) := by rw [hk1, ← h1]
    clear h hk h1 hk1
    rcases kinds k with h | h | h | h | h | h | h | h | h | h | h | h
    case inr.inr.inr.inr.inr.inr.inr.inr.inr.inr.inr => rw [hasL_none h] at hl; simp at hl
    all_goals subst h
    case inl =>
      obtain ⟨a, b, rfl⟩ := len_two (l := xs) (by simpa [hasL] using hl.symm)
      simp only [hasL, if_true, if_false, List.tail_cons, putsL_cons, putsL_nil, put2, put3, put4, put5, put6, put7, put8] at hp
      obtain ⟨a1, m1, ⟨a2, rfl⟩, b1, m2, rfl, rfl⟩ := hp
      obtain ⟨_, ba⟩ := a
      obtain ⟨_, bb⟩ := b
      dsimp only at *
      subst a1
      subst b1
      exact ⟨by rw [hx]; rfl, a2, by simp [msgZ]⟩
    case inr.inr.inr.inr.inr.inr.inr.inr.inr.inl =>
      obtain ⟨a, b, rfl⟩ := len_two (l := xs) (by simpa [hasL] using hl.symm)
      simp only [hasL, show ¬ ((10 : Int) = 1) by decide, if_true, if_false, List.tail_cons, putsL_cons, putsL_nil, put2, put3, put4, put5, put6, put7, put8] at hp
      obtain ⟨a1, m1, ⟨a2, rfl⟩, b1, m2, rfl, rfl⟩ := hp
      obtain ⟨_, ba⟩ := a
      obtain ⟨_, bb⟩ := b
      dsimp only at *
      subst a1
      subst b1
      exact ⟨by rw [hx]; rfl, a2, by simp [msgZ]⟩
    case inr.inl =>
      obtain ⟨a, b, rfl⟩ := len_two (l := xs) (by simpa [hasL] using hl.symm)
      rw [show (hasL 2).tail = [2, 3] from rfl] at hp
      simp only [putsL_cons, putsL_nil, put2, put3, put4, put5, put6, put7, put8] at hp
      obtain ⟨a1, m1, ⟨a2, rfl⟩, b1, m2, ⟨n, b2, rfl⟩, rfl⟩ := hp
      obtain ⟨_, ba⟩ := a
      obtain ⟨_, bb⟩ := b
      dsimp only at *
      subst a1
      subst b1
      exact ⟨by rw [hx]; rw [← (oneL_back b2).1]; rfl, a2, by simp [msgZ]⟩
    case inr.inr.inl =>
      obtain ⟨a, b, rfl⟩ := len_two (l := xs) (by simpa [hasL] using hl.symm)
      rw [show (hasL 3).tail = [2, 3] from rfl] at hp
      simp only [putsL_cons, putsL_nil, put2, put3, put4, put5, put6, put7, put8] at hp
      obtain ⟨a1, m1, ⟨a2, rfl⟩, b1, m2, ⟨n, b2, rfl⟩, rfl⟩ := hp
      obtain ⟨_, ba⟩ := a
      obtain ⟨_, bb⟩ := b
      dsimp only at *
      subst a1
      subst b1
      exact ⟨by rw [hx]; rw [← (oneL_back b2).1]; rfl, a2, by simp [msgZ]⟩
    case inr.inr.inr.inr.inl =>
      obtain ⟨a, b, rfl⟩ := len_two (l := xs) (by simpa [hasL] using hl.symm)
      rw [show (hasL 5).tail = [2, 3] from rfl] at hp
      simp only [putsL_cons, putsL_nil, put2, put3, put4, put5, put6, put7, put8] at hp
      obtain ⟨a1, m1, ⟨a2, rfl⟩, b1, m2, ⟨n, b2, rfl⟩, rfl⟩ := hp
      obtain ⟨_, ba⟩ := a
      obtain ⟨_, bb⟩ := b
      dsimp only at *
      subst a1
      subst b1
      exact ⟨by rw [hx]; rw [← (oneL_back b2).1]; rfl, a2, by simp [msgZ]⟩
    case inr.inr.inr.inl =>
      obtain ⟨a, b, c, d, rfl⟩ := len_four (l := xs) (by simpa [hasL] using hl.symm)
      rw [show (hasL 4).tail = [2, 3, 5, 6] from rfl] at hp
      simp only [putsL_cons, putsL_nil, put2, put3, put4, put5, put6, put7, put8] at hp
      obtain ⟨a1, m1, ⟨a2, rfl⟩, b1, m2, ⟨n, b2, rfl⟩, c1, m3, rfl, d1, m4, ⟨d2, rfl⟩, rfl⟩ := hp
      obtain ⟨e1, e2⟩ := flat_digsB _ d.2 (Nat.le_refl _) d2
      obtain ⟨_, ba⟩ := a
      obtain ⟨_, bb⟩ := b
      obtain ⟨_, bc⟩ := c
      obtain ⟨_, bd⟩ := d
      dsimp only at *
      subst a1
      subst b1
      subst c1
      subst d1
      exact ⟨by rw [hx]; rw [← (oneL_back b2).1]; show [_, _, _, _, ((6 : Int), (digsB bd).flatten)] = _; rw [e1]; rfl, a2, e2⟩
    case inr.inr.inr.inr.inr.inl =>
      obtain ⟨a, b, rfl⟩ := len_two (l := xs) (by simpa [hasL] using hl.symm)
      rw [show (hasL 6).tail = [2, 8] from rfl] at hp
      simp only [putsL_cons, putsL_nil, put2, put3, put4, put5, put6, put7, put8] at hp
      obtain ⟨a1, m1, ⟨a2, rfl⟩, b1, m2, ⟨n, b2, b3, rfl⟩, rfl⟩ := hp
      have e := seed_back b2 b3
      obtain ⟨_, ba⟩ := a
      obtain ⟨_, bb⟩ := b
      dsimp only at *
      subst a1
      subst b1
      exact ⟨by rw [hx]; show [_, _, ((8 : Int), uintsL [if (n == 1) = true then 1 else 0])] = _; rw [e]; rfl, a2, by simp [msgZ]⟩
    case inr.inr.inr.inr.inr.inr.inl =>
      obtain ⟨a, b, rfl⟩ := len_two (l := xs) (by simpa [hasL] using hl.symm)
      rw [show (hasL 7).tail = [2, 4] from rfl] at hp
      simp only [putsL_cons, putsL_nil, put2, put3, put4, put5, put6, put7, put8] at hp
      obtain ⟨a1, m1, ⟨a2, rfl⟩, b1, m2, rfl, rfl⟩ := hp
      have hf := item_of hr (i := 4) (by omega) (by omega)
      simp [itemB, hasL, fitsB] at hf
      have e := uintsL_nums _ b.2 (Nat.le_refl _) (fun n hn => by have := hf.2 n hn; simp [idB, withinB] at this; omega)
      obtain ⟨_, ba⟩ := a
      obtain ⟨_, bb⟩ := b
      dsimp only at *
      subst a1
      subst b1
      exact ⟨by rw [hx]; show [_, _, ((4 : Int), uintsL (numsL bb))] = _; rw [e]; rfl, a2, by simp [msgZ]⟩
    case inr.inr.inr.inr.inr.inr.inr.inl =>
      obtain ⟨a, rfl⟩ := len_one (l := xs) (by simpa [hasL] using hl.symm)
      rw [show (hasL 8).tail = [7] from rfl] at hp
      simp only [putsL_cons, putsL_nil, put2, put3, put4, put5, put6, put7, put8] at hp
      obtain ⟨a1, m1, ⟨a2, rfl⟩, rfl⟩ := hp
      have hf := item_of hr (i := 7) (by omega) (by omega)
      have hf2 : (memsB (numsL a.2)).all memB0 = true := by
        simp only [itemB, fitsB] at hf
        rw [if_pos (by simp [hasL])] at hf
        simp only [show ¬ ((7 : Int) = 3) by decide, show ¬ ((7 : Int) = 4) by decide, show ¬ ((7 : Int) = 5) by decide, show ¬ ((7 : Int) = 6) by decide, if_false, if_true, Bool.and_eq_true] at hf
        exact hf.2
      have e := uintsL_nums _ a.2 (Nat.le_refl _) (memsB_pos _ a2 hf2)
      obtain ⟨_, ba⟩ := a
      dsimp only at *
      subst a1
      exact ⟨by rw [hx]; show [_, ((7 : Int), (memsB (numsL ba)).flatMap memU)] = _; rw [uints_memsB _ a2, e]; rfl, by simp [msgZ, zero32], by simp [msgZ]⟩
    case inr.inr.inr.inr.inr.inr.inr.inr.inl =>
      obtain ⟨a, rfl⟩ := len_one (l := xs) (by simpa [hasL] using hl.symm)
      rw [show (hasL 9).tail = [2] from rfl] at hp
      simp only [putsL_cons, putsL_nil, put2, put3, put4, put5, put6, put7, put8] at hp
      obtain ⟨a1, m1, ⟨a2, rfl⟩, rfl⟩ := hp
      obtain ⟨_, ba⟩ := a
      dsimp only at *
      subst a1
      exact ⟨by rw [hx]; rfl, a2, by simp [msgZ]⟩
    case inr.inr.inr.inr.inr.inr.inr.inr.inr.inr.inl =>
      obtain ⟨a, rfl⟩ := len_one (l := xs) (by simpa [hasL] using hl.symm)
      rw [show (hasL 11).tail = [2] from rfl] at hp
      simp only [putsL_cons, putsL_nil, put2, put3, put4, put5, put6, put7, put8] at hp
      obtain ⟨a1, m1, ⟨a2, rfl⟩, rfl⟩ := hp
      obtain ⟨_, ba⟩ := a
      dsimp only at *
      subst a1
      exact ⟨by rw [hx]; rfl, a2, by simp [msgZ]⟩

/-- What was encoded is decoded as it was. -/
theorem decI_items {m : MsgL} (hr : rightB m = true) (hh : m.hash.length = 32) (hp : ∀ d ∈ m.proof, d.length = 32) : decI (itemsM m) = some m := by
  have hk := right_kind hr
  have i2 := item_of hr (i := 2) (by omega) (by omega)
  have i3 := item_of hr (i := 3) (by omega) (by omega)
  have i4 := item_of hr (i := 4) (by omega) (by omega)
  have i5 := item_of hr (i := 5) (by omega) (by omega)
  have i6 := item_of hr (i := 6) (by omega) (by omega)
  have i7 := item_of hr (i := 7) (by omega) (by omega)
  have i8 := item_of hr (i := 8) (by omega) (by omega)
  obtain ⟨kind, hash, piece, ids, bytes, proof, members, seed⟩ := m
  dsimp only at hk hh hp
  have hone := oneL_uint (n := kind) (by omega) (by omega)
  rcases kinds kind with h | h | h | h | h | h | h | h | h | h | h | h
  case inr.inr.inr.inr.inr.inr.inr.inr.inr.inr.inr => omega
  all_goals
    subst h
    simp only [itemB, hasL, bareB, fitsB, withinB, mostL] at i2 i3 i4 i5 i6 i7 i8
    simp at i2 i3 i4 i5 i6 i7 i8
  case inl =>
    subst i3 i4 i6 i7 i8
    simp only [itemsM, decI, show hasL 1 = [1, 2, 5] from rfl, List.map_cons, List.map_nil, if_true]
    rw [show bodyL _ 1 = uintsL [1] from rfl, hone]
    simp only [Option.bind_some, List.length_cons, List.length_nil, if_true, List.tail_cons, show hasL 1 = [1, 2, 5] from rfl]
    rw [Option.bind_eq_some_iff]
    refine ⟨_, putsL_cons.2 ⟨rfl, _, put2.2 ⟨hh, rfl⟩, putsL_cons.2 ⟨rfl, _, put5.2 rfl, putsL_nil.2 rfl⟩⟩, rightO_some.2 ⟨rfl, ?_⟩⟩
    exact hr
  case inr.inr.inr.inr.inr.inr.inr.inr.inr.inl =>
    subst i3 i4 i6 i7 i8
    simp only [itemsM, decI, show hasL 10 = [1, 2, 5] from rfl, List.map_cons, List.map_nil, if_true]
    rw [show bodyL _ 1 = uintsL [10] from rfl, hone]
    simp only [Option.bind_some, List.length_cons, List.length_nil, if_true, List.tail_cons, show hasL 10 = [1, 2, 5] from rfl]
    rw [Option.bind_eq_some_iff]
    refine ⟨_, putsL_cons.2 ⟨rfl, _, put2.2 ⟨hh, rfl⟩, putsL_cons.2 ⟨rfl, _, put5.2 rfl, putsL_nil.2 rfl⟩⟩, rightO_some.2 ⟨rfl, ?_⟩⟩
    exact hr
  case inr.inl =>
    subst i4 i5 i6 i7 i8
    simp only [itemsM, decI, show hasL 2 = [1, 2, 3] from rfl, List.map_cons, List.map_nil, if_true]
    rw [show bodyL _ 1 = uintsL [2] from rfl, hone]
    simp only [Option.bind_some, List.length_cons, List.length_nil, if_true, List.tail_cons, show hasL 2 = [1, 2, 3] from rfl]
    rw [Option.bind_eq_some_iff]
    refine ⟨_, putsL_cons.2 ⟨rfl, _, put2.2 ⟨hh, rfl⟩, putsL_cons.2 ⟨rfl, _, put3.2 ⟨piece, oneL_uint (n := piece) i3.1 (by omega), rfl⟩, putsL_nil.2 rfl⟩⟩, rightO_some.2 ⟨rfl, ?_⟩⟩
    exact hr
  case inr.inr.inl =>
    subst i4 i5 i6 i7 i8
    simp only [itemsM, decI, show hasL 3 = [1, 2, 3] from rfl, List.map_cons, List.map_nil, if_true]
    rw [show bodyL _ 1 = uintsL [3] from rfl, hone]
    simp only [Option.bind_some, List.length_cons, List.length_nil, if_true, List.tail_cons, show hasL 3 = [1, 2, 3] from rfl]
    rw [Option.bind_eq_some_iff]
    refine ⟨_, putsL_cons.2 ⟨rfl, _, put2.2 ⟨hh, rfl⟩, putsL_cons.2 ⟨rfl, _, put3.2 ⟨piece, oneL_uint (n := piece) i3.1 (by omega), rfl⟩, putsL_nil.2 rfl⟩⟩, rightO_some.2 ⟨rfl, ?_⟩⟩
    exact hr
  case inr.inr.inr.inr.inl =>
    subst i4 i5 i6 i7 i8
    simp only [itemsM, decI, show hasL 5 = [1, 2, 3] from rfl, List.map_cons, List.map_nil, if_true]
    rw [show bodyL _ 1 = uintsL [5] from rfl, hone]
    simp only [Option.bind_some, List.length_cons, List.length_nil, if_true, List.tail_cons, show hasL 5 = [1, 2, 3] from rfl]
    rw [Option.bind_eq_some_iff]
    refine ⟨_, putsL_cons.2 ⟨rfl, _, put2.2 ⟨hh, rfl⟩, putsL_cons.2 ⟨rfl, _, put3.2 ⟨piece, oneL_uint (n := piece) i3.1 (by omega), rfl⟩, putsL_nil.2 rfl⟩⟩, rightO_some.2 ⟨rfl, ?_⟩⟩
    exact hr
  case inr.inr.inr.inl =>
    subst i4 i7 i8
    simp only [itemsM, decI, show hasL 4 = [1, 2, 3, 5, 6] from rfl, List.map_cons, List.map_nil, if_true]
    rw [show bodyL _ 1 = uintsL [4] from rfl, hone]
    simp only [Option.bind_some, List.length_cons, List.length_nil, if_true, List.tail_cons, show hasL 4 = [1, 2, 3, 5, 6] from rfl]
    rw [Option.bind_eq_some_iff]
    have hfl : ∀ l : List (List UInt8), (∀ d ∈ l, d.length = 32) → l.flatten.length % 32 = 0 := fun l => by
      induction l with
      | nil => intro _; rfl
      | cons d l ih => intro h; rw [List.flatten_cons, List.length_append, h d (by simp)]; have := ih (fun x hx => h x (by simp [hx])); omega
    refine ⟨_, putsL_cons.2 ⟨rfl, _, put2.2 ⟨hh, rfl⟩, putsL_cons.2 ⟨rfl, _, put3.2 ⟨piece, oneL_uint (n := piece) i3.1 (by omega), rfl⟩, putsL_cons.2 ⟨rfl, _, put5.2 rfl, putsL_cons.2 ⟨rfl, _, put6.2 ⟨hfl _ hp, rfl⟩, putsL_nil.2 rfl⟩⟩⟩⟩, rightO_some.2 ⟨?_, ?_⟩⟩
    · show (MsgL.mk _ _ _ _ _ (digsB proof.flatten) _ _) = _
      rw [digsB_flat _ hp]
      rfl
    · show rightB (MsgL.mk _ _ _ _ _ (digsB proof.flatten) _ _) = _
      rw [digsB_flat _ hp]
      exact hr
  case inr.inr.inr.inr.inr.inl =>
    subst i3 i4 i5 i6 i7
    simp only [itemsM, decI, show hasL 6 = [1, 2, 8] from rfl, List.map_cons, List.map_nil, if_true]
    rw [show bodyL _ 1 = uintsL [6] from rfl, hone]
    simp only [Option.bind_some, List.length_cons, List.length_nil, if_true, List.tail_cons, show hasL 6 = [1, 2, 8] from rfl]
    rw [Option.bind_eq_some_iff]
    cases seed
    · refine ⟨_, putsL_cons.2 ⟨rfl, _, put2.2 ⟨hh, rfl⟩, putsL_cons.2 ⟨rfl, _, put8.2 ⟨0, oneL_uint (n := 0) (by omega) (by omega), by omega, rfl⟩, putsL_nil.2 rfl⟩⟩, rightO_some.2 ⟨rfl, ?_⟩⟩
      exact hr
    · refine ⟨_, putsL_cons.2 ⟨rfl, _, put2.2 ⟨hh, rfl⟩, putsL_cons.2 ⟨rfl, _, put8.2 ⟨1, oneL_uint (n := 1) (by omega) (by omega), by omega, rfl⟩, putsL_nil.2 rfl⟩⟩, rightO_some.2 ⟨rfl, ?_⟩⟩
      exact hr
  case inr.inr.inr.inr.inr.inr.inl =>
    subst i3 i5 i6 i7 i8
    simp only [itemsM, decI, show hasL 7 = [1, 2, 4] from rfl, List.map_cons, List.map_nil, if_true]
    rw [show bodyL _ 1 = uintsL [7] from rfl, hone]
    simp only [Option.bind_some, List.length_cons, List.length_nil, if_true, List.tail_cons, show hasL 7 = [1, 2, 4] from rfl]
    rw [Option.bind_eq_some_iff]
    have hn := numsL_uints ids (fun n hn => by have := i4.2 n hn; simp [idB, withinB] at this; omega)
    refine ⟨_, putsL_cons.2 ⟨rfl, _, put2.2 ⟨hh, rfl⟩, putsL_cons.2 ⟨rfl, _, put4.2 rfl, putsL_nil.2 rfl⟩⟩, rightO_some.2 ⟨?_, ?_⟩⟩
    · show (MsgL.mk _ _ _ (numsL (uintsL ids)) _ _ _ _) = _
      rw [hn]
      rfl
    · show rightB (MsgL.mk _ _ _ (numsL (uintsL ids)) _ _ _ _) = _
      rw [hn]
      exact hr
  case inr.inr.inr.inr.inr.inr.inr.inl =>
    subst i2 i3 i4 i5 i6 i8
    simp only [itemsM, decI, show hasL 8 = [1, 7] from rfl, List.map_cons, List.map_nil, if_true]
    rw [show bodyL _ 1 = uintsL [8] from rfl, hone]
    simp only [Option.bind_some, List.length_cons, List.length_nil, if_true, List.tail_cons, show hasL 8 = [1, 7] from rfl]
    rw [Option.bind_eq_some_iff]
    obtain ⟨n1, n2⟩ := memsB_uints members (List.all_eq_true.2 i7.2)
    refine ⟨_, putsL_cons.2 ⟨rfl, _, put7.2 ⟨by show (numsL (members.flatMap memU)).length % 3 = 0; omega, rfl⟩, putsL_nil.2 rfl⟩, rightO_some.2 ⟨?_, ?_⟩⟩
    · show (MsgL.mk _ _ _ _ _ _ (memsB (numsL (members.flatMap memU))) _) = _
      rw [n1]
      rfl
    · show rightB (MsgL.mk _ _ _ _ _ _ (memsB (numsL (members.flatMap memU))) _) = _
      rw [n1]
      exact hr
  case inr.inr.inr.inr.inr.inr.inr.inr.inl =>
    subst i3 i4 i5 i6 i7 i8
    simp only [itemsM, decI, show hasL 9 = [1, 2] from rfl, List.map_cons, List.map_nil, if_true]
    rw [show bodyL _ 1 = uintsL [9] from rfl, hone]
    simp only [Option.bind_some, List.length_cons, List.length_nil, if_true, List.tail_cons, show hasL 9 = [1, 2] from rfl]
    rw [Option.bind_eq_some_iff]
    refine ⟨_, putsL_cons.2 ⟨rfl, _, put2.2 ⟨hh, rfl⟩, putsL_nil.2 rfl⟩, rightO_some.2 ⟨rfl, ?_⟩⟩
    exact hr
  case inr.inr.inr.inr.inr.inr.inr.inr.inr.inr.inl =>
    subst i3 i4 i5 i6 i7 i8
    simp only [itemsM, decI, show hasL 11 = [1, 2] from rfl, List.map_cons, List.map_nil, if_true]
    rw [show bodyL _ 1 = uintsL [11] from rfl, hone]
    simp only [Option.bind_some, List.length_cons, List.length_nil, if_true, List.tail_cons, show hasL 11 = [1, 2] from rfl]
    rw [Option.bind_eq_some_iff]
    refine ⟨_, putsL_cons.2 ⟨rfl, _, put2.2 ⟨hh, rfl⟩, putsL_nil.2 rfl⟩, rightO_some.2 ⟨rfl, ?_⟩⟩
    exact hr

/-- What Decode answers is just the message whose bytes these are. -/
theorem decP_iff {b : List UInt8} {m : MsgL} : decP b = some m ↔ encM m = some b ∧ m.hash.length = 32 ∧ ∀ d ∈ m.proof, d.length = 32 := by
  constructor
  · intro h
    obtain ⟨l, hl, h⟩ := Option.bind_eq_some_iff.1 h
    obtain ⟨h1, h2, h3⟩ := decI_back h
    refine ⟨?_, h3⟩
    unfold encM
    rw [if_pos h1, h2]
    exact encL_decL hl
  · rintro ⟨h, hh, hp⟩
    unfold encM at h
    split at h
    · rename_i hr
      unfold decP
      rw [decL_encL h]
      exact decI_items hr hh hp
    · cases h

end Go.Proofs.Ytnomekfemadpeaa

/- What the document's answer's Decode computes, in plain Lean: the same as wire.Decode. No condition. -/
namespace Go.Proofs.Ytnomekfemadpeaa
set_option linter.unusedVariables false
set_option linter.unusedSimpArgs false

/-- The reference's numbers: all of them are numbers, and no more than so many. -/
def rnumsL (b : List UInt8) (most : Nat) : Option (List Int) := if (numsL b).all (fun n => decide (0 ≤ n)) = true ∧ (numsL b).length ≤ most then some (numsL b) else none
theorem rnums_bad {b : List UInt8} {most : Nat} {pre : List Int} {rest : List UInt8} (h : numsL b = pre ++ numsL rest) (hr : rest ≠ []) (hs : numStep rest = none) : rnumsL b most = none := by
  unfold rnumsL
  rw [h, numsL_bad hr hs, if_neg]
  simp
theorem rnums_many {b : List UInt8} {most : Nat} {pre : List Int} {rest : List UInt8} {x m : Nat} (h : numsL b = pre ++ numsL rest) (hs : numStep rest = some (x, m)) (hm : most ≤ pre.length) : rnumsL b most = none := by
  unfold rnumsL
  rw [h, numsL_step hs, if_neg]
  simp; omega
theorem rnums_all {b : List UInt8} {most : Nat} {pre : List Int} (h : numsL b = pre ++ numsL []) (hp : ∀ n ∈ pre, 0 ≤ n) (hm : pre.length ≤ most) : rnumsL b most = some pre := by
  unfold rnumsL
  rw [h, numsL_nil, List.append_nil, if_pos ⟨by simpa using hp, hm⟩]

theorem rnums_uints {l : List Int} {most : Nat} (h : ∀ n ∈ l, 0 ≤ n ∧ n < 4398046511104) (hl : l.length ≤ most) : rnumsL (uintsL l) most = some l := by
  unfold rnumsL
  rw [numsL_uints l h, if_pos ⟨by simpa using fun n hn => (h n hn).1, hl⟩]

/-- One number. -/
def roneL (b : List UInt8) : Option Int := if ((rnumsL b 1).isSome && decide (((rnumsL b 1).getD []).length = 1)) = true then some (((rnumsL b 1).getD []).getD 0 0) else none
def rputL (m : MsgL) (i : Int) (b : List UInt8) : Option MsgL :=
  if i = 1 then (roneL b).map fun n => { m with kind := n }
  else if i = 2 then (if b.length = 32 then some { m with hash := b } else none)
  else if i = 3 then (roneL b).map fun n => { m with piece := n }
  else if i = 4 then (rnumsL b 64).map fun l => { m with ids := l }
  else if i = 5 then some { m with bytes := b }
  else if i = 6 then (if b.length % 32 = 0 then some { m with proof := m.proof ++ digsB b } else none)
  else if i = 7 then (rnumsL b 195).bind fun l => if l.length % 3 = 0 then some { m with members := m.members ++ memsB l } else none
  else if i = 8 then (roneL b).map fun n : Int => { m with seed := n == 1 }
  else some m
def rputsL : List It → MsgL → Bool → MsgL × Bool
  | [], m, f => (m, f)
  | x :: xs, m, f => match rputL m x.1 x.2 with
    | some m1 => rputsL xs m1 f
    | none => rputsL xs m false
def rdecP (b : List UInt8) : Option MsgL := (decL b).bind fun l => if (rputsL l msgZ true).2 = true ∧ encM (rputsL l msgZ true).1 = some b then some (rputsL l msgZ true).1 else none

theorem rputs_some {x : It} {xs : List It} {m m1 : MsgL} {f : Bool} (h : rputL m x.1 x.2 = some m1) : rputsL (x :: xs) m f = rputsL xs m1 f := by simp only [rputsL, h]
theorem rputs_none {x : It} {xs : List It} {m : MsgL} {f : Bool} (h : rputL m x.1 x.2 = none) : rputsL (x :: xs) m f = rputsL xs m false := by simp only [rputsL, h]
/-- A message whose hashes are hashes. -/
def MsgL.fine (m : MsgL) : Prop := m.hash.length = 32 ∧ ∀ d ∈ m.proof, d.length = 32
theorem rput_fine {m m1 : MsgL} {i : Int} {b : List UInt8} (h : rputL m i b = some m1) (hm : m.fine) : m1.fine := by
  unfold rputL at h
  split at h
  · obtain ⟨n, _, rfl⟩ := Option.map_eq_some_iff.1 h; exact hm
  split at h
  · split at h
    · rename_i h32; cases h; exact ⟨h32, hm.2⟩
    · cases h
  split at h
  · obtain ⟨n, _, rfl⟩ := Option.map_eq_some_iff.1 h; exact hm
  split at h
  · obtain ⟨n, _, rfl⟩ := Option.map_eq_some_iff.1 h; exact hm
  split at h
  · cases h; exact hm
  split at h
  · split at h
    · rename_i h32
      cases h
      refine ⟨hm.1, fun d hd => ?_⟩
      rcases List.mem_append.1 hd with hd | hd
      · exact hm.2 d hd
      · exact (flat_digsB _ b (Nat.le_refl _) h32).2 d hd
    · cases h
  split at h
  · obtain ⟨n, _, h⟩ := Option.bind_eq_some_iff.1 h
    split at h
    · cases h; exact hm
    · cases h
  split at h
  · obtain ⟨n, _, rfl⟩ := Option.map_eq_some_iff.1 h; exact hm
  · cases h; exact hm
theorem rputs_fine : ∀ (l : List It) (m : MsgL) (f : Bool), m.fine → (rputsL l m f).1.fine
  | [], m, f, h => h
  | x :: xs, m, f, h => by
    cases hp : rputL m x.1 x.2 with
    | none => rw [rputs_none hp]; exact rputs_fine xs m false h
    | some m1 => rw [rputs_some hp]; exact rputs_fine xs m1 f (rput_fine hp h)

theorem roneL_uint {n : Int} (h0 : 0 ≤ n) (h1 : n < 4398046511104) : roneL (uintsL [n]) = some n := by
  unfold roneL
  rw [rnums_uints (fun k hk => by simp at hk; omega) (by simp)]
  rfl
theorem rput1 {m : MsgL} {n : Int} (h0 : 0 ≤ n) (h1 : n < 4398046511104) : rputL m 1 (uintsL [n]) = some { m with kind := n } := by simp [rputL, roneL_uint h0 h1]
theorem rput2 {m : MsgL} {b : List UInt8} (h : b.length = 32) : rputL m 2 b = some { m with hash := b } := by simp [rputL, h]
theorem rput3 {m : MsgL} {n : Int} (h0 : 0 ≤ n) (h1 : n < 4398046511104) : rputL m 3 (uintsL [n]) = some { m with piece := n } := by simp [rputL, roneL_uint h0 h1]
theorem rput4 {m : MsgL} {l : List Int} (h : ∀ n ∈ l, 0 ≤ n ∧ n < 4398046511104) (hl : l.length ≤ 64) : rputL m 4 (uintsL l) = some { m with ids := l } := by simp [rputL, rnums_uints h hl]
theorem rput5 {m : MsgL} {b : List UInt8} : rputL m 5 b = some { m with bytes := b } := by simp [rputL]
theorem flat_mod : ∀ l : List (List UInt8), (∀ d ∈ l, d.length = 32) → l.flatten.length % 32 = 0 := fun l => by
  induction l with
  | nil => intro _; rfl
  | cons d l ih => intro h; rw [List.flatten_cons, List.length_append, h d (by simp)]; have := ih (fun x hx => h x (by simp [hx])); omega
theorem rput6 {m : MsgL} {l : List (List UInt8)} (h : ∀ d ∈ l, d.length = 32) : rputL m 6 l.flatten = some { m with proof := m.proof ++ l } := by simp only [rputL, show ¬ ((6 : Int) = 1) by decide, show ¬ ((6 : Int) = 2) by decide, show ¬ ((6 : Int) = 3) by decide, show ¬ ((6 : Int) = 4) by decide, show ¬ ((6 : Int) = 5) by decide, if_false, if_true, flat_mod l h, digsB_flat l h]
theorem rput7 {m : MsgL} {l : List MemL} (h : l.all memB0 = true) (hl : l.length ≤ 65) : rputL m 7 (l.flatMap memU) = some { m with members := m.members ++ l } := by
  obtain ⟨h1, h2⟩ := memsB_uints l h
  have h3 : rnumsL (l.flatMap memU) 195 = some (numsL (l.flatMap memU)) := by
    unfold rnumsL
    rw [if_pos]
    refine ⟨?_, by omega⟩
    simp only [List.all_eq_true, decide_eq_true_eq]
    exact memsB_pos _ (by omega) (by rw [h1]; exact h)
  simp only [rputL, show ¬ ((7 : Int) = 1) by decide, show ¬ ((7 : Int) = 2) by decide, show ¬ ((7 : Int) = 3) by decide, show ¬ ((7 : Int) = 4) by decide, show ¬ ((7 : Int) = 5) by decide, show ¬ ((7 : Int) = 6) by decide, if_false, if_true, h3, Option.bind_some, h1]
  rw [if_pos (by omega)]
theorem rput8 {m : MsgL} {n : Int} (h0 : 0 ≤ n) (h1 : n < 4398046511104) : rputL m 8 (uintsL [n]) = some { m with seed := n == 1 } := by simp [rputL, roneL_uint h0 h1]

/-- A message's items put together are it. -/
theorem rputs_items {m : MsgL} (hr : rightB m = true) (hm : m.fine) : rputsL (itemsM m) msgZ true = (m, true) := by
  have hk := right_kind hr
  have i2 := item_of hr (i := 2) (by omega) (by omega)
  have i3 := item_of hr (i := 3) (by omega) (by omega)
  have i4 := item_of hr (i := 4) (by omega) (by omega)
  have i5 := item_of hr (i := 5) (by omega) (by omega)
  have i6 := item_of hr (i := 6) (by omega) (by omega)
  have i7 := item_of hr (i := 7) (by omega) (by omega)
  have i8 := item_of hr (i := 8) (by omega) (by omega)
  obtain ⟨hh, hp⟩ := hm
  obtain ⟨kind, hash, piece, ids, bytes, proof, members, seed⟩ := m
  dsimp only at hk hh hp
  have h1 := rput1 (m := msgZ) (n := kind) (by omega) (by omega)
  rcases kinds kind with h | h | h | h | h | h | h | h | h | h | h | h
  case inr.inr.inr.inr.inr.inr.inr.inr.inr.inr.inr => omega
  all_goals
    subst h
    simp only [itemB, hasL, bareB, fitsB, withinB, mostL] at i2 i3 i4 i5 i6 i7 i8
    simp at i2 i3 i4 i5 i6 i7 i8
    simp only [itemsM]
  case inl =>
    subst i3 i4 i6 i7 i8
    rw [show hasL 1 = [1, 2, 5] from rfl]
    simp only [List.map_cons, List.map_nil]
    rw [show bodyL _ 1 = uintsL [1] from rfl, rputs_some h1]
    rw [rputs_some (rput2 hh)]
    rw [rputs_some rput5]
    rfl
  case inr.inl =>
    subst i4 i5 i6 i7 i8
    rw [show hasL 2 = [1, 2, 3] from rfl]
    simp only [List.map_cons, List.map_nil]
    rw [show bodyL _ 1 = uintsL [2] from rfl, rputs_some h1]
    rw [rputs_some (rput2 hh)]
    rw [rputs_some (rput3 (n := piece) i3.1 (by omega))]
    rfl
  case inr.inr.inl =>
    subst i4 i5 i6 i7 i8
    rw [show hasL 3 = [1, 2, 3] from rfl]
    simp only [List.map_cons, List.map_nil]
    rw [show bodyL _ 1 = uintsL [3] from rfl, rputs_some h1]
    rw [rputs_some (rput2 hh)]
    rw [rputs_some (rput3 (n := piece) i3.1 (by omega))]
    rfl
  case inr.inr.inr.inl =>
    subst i4 i7 i8
    rw [show hasL 4 = [1, 2, 3, 5, 6] from rfl]
    simp only [List.map_cons, List.map_nil]
    rw [show bodyL _ 1 = uintsL [4] from rfl, rputs_some h1]
    rw [rputs_some (rput2 hh)]
    rw [rputs_some (rput3 (n := piece) i3.1 (by omega))]
    rw [rputs_some rput5]
    rw [rputs_some (rput6 (l := proof) hp)]
    rfl
  case inr.inr.inr.inr.inl =>
    subst i4 i5 i6 i7 i8
    rw [show hasL 5 = [1, 2, 3] from rfl]
    simp only [List.map_cons, List.map_nil]
    rw [show bodyL _ 1 = uintsL [5] from rfl, rputs_some h1]
    rw [rputs_some (rput2 hh)]
    rw [rputs_some (rput3 (n := piece) i3.1 (by omega))]
    rfl
  case inr.inr.inr.inr.inr.inl =>
    subst i3 i4 i5 i6 i7
    rw [show hasL 6 = [1, 2, 8] from rfl]
    simp only [List.map_cons, List.map_nil]
    rw [show bodyL _ 1 = uintsL [6] from rfl, rputs_some h1]
    rw [rputs_some (rput2 hh)]
    cases seed
    · rw [rputs_some (rput8 (n := 0) (by omega) (by omega))]
      rfl
    · rw [rputs_some (rput8 (n := 1) (by omega) (by omega))]
      rfl
  case inr.inr.inr.inr.inr.inr.inl =>
    subst i3 i5 i6 i7 i8
    rw [show hasL 7 = [1, 2, 4] from rfl]
    simp only [List.map_cons, List.map_nil]
    rw [show bodyL _ 1 = uintsL [7] from rfl, rputs_some h1]
    rw [rputs_some (rput2 hh)]
    rw [rputs_some (rput4 (l := ids) (fun n hn => by have := i4.2 n hn; simp [idB, withinB] at this; omega) i4.1)]
    rfl
  case inr.inr.inr.inr.inr.inr.inr.inl =>
    subst i2 i3 i4 i5 i6 i8
    rw [show hasL 8 = [1, 7] from rfl]
    simp only [List.map_cons, List.map_nil]
    rw [show bodyL _ 1 = uintsL [8] from rfl, rputs_some h1]
    rw [rputs_some (rput7 (l := members) (List.all_eq_true.2 i7.2) (by omega))]
    rfl
  case inr.inr.inr.inr.inr.inr.inr.inr.inl =>
    subst i3 i4 i5 i6 i7 i8
    rw [show hasL 9 = [1, 2] from rfl]
    simp only [List.map_cons, List.map_nil]
    rw [show bodyL _ 1 = uintsL [9] from rfl, rputs_some h1]
    rw [rputs_some (rput2 hh)]
    rfl
  case inr.inr.inr.inr.inr.inr.inr.inr.inr.inl =>
    subst i3 i4 i6 i7 i8
    rw [show hasL 10 = [1, 2, 5] from rfl]
    simp only [List.map_cons, List.map_nil]
    rw [show bodyL _ 1 = uintsL [10] from rfl, rputs_some h1]
    rw [rputs_some (rput2 hh)]
    rw [rputs_some rput5]
    rfl
  case inr.inr.inr.inr.inr.inr.inr.inr.inr.inr.inl =>
    subst i3 i4 i5 i6 i7 i8
    rw [show hasL 11 = [1, 2] from rfl]
    simp only [List.map_cons, List.map_nil]
    rw [show bodyL _ 1 = uintsL [11] from rfl, rputs_some h1]
    rw [rputs_some (rput2 hh)]
    rfl

theorem rdecP_eq (b : List UInt8) : rdecP b = decP b := by
  refine Option.ext fun m => ?_
  constructor
  · intro h
    obtain ⟨l, hl, h⟩ := Option.bind_eq_some_iff.1 h
    split at h
    · rename_i hc
      cases h
      obtain ⟨f1, f2⟩ := rputs_fine l msgZ true ⟨rfl, fun d hd => by cases hd⟩
      exact decP_iff.2 ⟨hc.2, f1, f2⟩
    · cases h
  · intro h
    obtain ⟨h1, h2, h3⟩ := decP_iff.1 h
    have h1' := h1
    unfold encM at h1'
    split at h1'
    · rename_i hr
      unfold rdecP
      rw [decL_encL h1', Option.bind_some, rputs_items hr ⟨h2, h3⟩, if_pos ⟨rfl, h1⟩]
    · cases h1'

end Go.Proofs.Ytnomekfemadpeaa

/- How many bytes a message has; in plain Lean. No condition. -/
namespace Go.Proofs.Ytnomekfemadpeaa
set_option linter.unusedVariables false
set_option linter.unusedSimpArgs false

theorem itB_le (x : It) (h : x.2.length ≤ 65536) : (itB x).length ≤ 4 + x.2.length := by
  have := uint_len 2 x.2.length (by omega)
  simp [itB]; omega
theorem uints_le (l : List Int) : (uintsL l).length ≤ 10 * l.length := by
  induction l with
  | nil => simp [uintsL]
  | cons n l ih =>
    have e : uintsL (n :: l) = uint (u64L n) ++ uintsL l := by simp [uintsL]
    have := uint_len10 (u64L_lt n)
    rw [e, List.length_append, List.length_cons]; omega
theorem flat32 : ∀ l : List (List UInt8), (∀ d ∈ l, d.length = 32) → l.flatten.length = 32 * l.length
  | [], _ => rfl
  | d :: l, h => by rw [List.flatten_cons, List.length_append, h d (by simp), flat32 l (fun x hx => h x (by simp [hx])), List.length_cons]; omega
theorem mems_le (l : List MemL) : (l.flatMap memU).length ≤ 30 * l.length := by
  induction l with
  | nil => simp
  | cons x l ih =>
    have := uints_le [x.id, x.inc, x.state]
    rw [List.flatMap_cons, List.length_append, List.length_cons]
    unfold memU at *
    simp only [List.length_cons, List.length_nil] at this
    omega
theorem encM_le {m : MsgL} {c : List UInt8} (h : encM m = some c) (hh : m.hash.length = 32) (hp : ∀ d ∈ m.proof, d.length = 32) : c.length ≤ 20000 := by
  unfold encM at h
  split at h
  case isFalse => cases h
  rename_i hr
  have hc : c = flatB (itemsM m) := by have := (encF_parts _ 0 [] c (by simp) h).1; simpa using this
  subst hc
  have hk := right_kind hr
  have i3 := item_of hr (i := 3) (by omega) (by omega)
  have i4 := item_of hr (i := 4) (by omega) (by omega)
  have i5 := item_of hr (i := 5) (by omega) (by omega)
  have i6 := item_of hr (i := 6) (by omega) (by omega)
  have i7 := item_of hr (i := 7) (by omega) (by omega)
  clear h hr
  obtain ⟨kind, hash, piece, ids, bytes, proof, members, seed⟩ := m
  dsimp only at hk hh hp
  have l1 := uints_le [kind]
  have l3 := uints_le [piece]
  have l4 := uints_le ids
  have l6 := flat32 proof hp
  have l7 := mems_le members
  have l8 := uints_le [if seed = true then 1 else 0]
  simp only [List.length_cons, List.length_nil] at l1 l3 l8
  rcases kinds kind with h | h | h | h | h | h | h | h | h | h | h | h
  case inr.inr.inr.inr.inr.inr.inr.inr.inr.inr.inr => omega
  all_goals
    subst h
    simp only [itemB, hasL, bareB, fitsB, withinB, mostL] at i3 i4 i5 i6 i7
    simp at i3 i4 i5 i6 i7
  case inl =>
    have b1 : (itB ((1 : Int), uintsL [1])).length ≤ 4 + (uintsL [1]).length := itB_le (1, uintsL [1]) (by dsimp only; omega)
    have b2 : (itB ((2 : Int), hash)).length ≤ 4 + (hash).length := itB_le (2, hash) (by dsimp only; omega)
    have b5 : (itB ((5 : Int), bytes)).length ≤ 4 + (bytes).length := itB_le (5, bytes) (by dsimp only; omega)
    show (flatB [((1 : Int), uintsL [1]), ((2 : Int), hash), ((5 : Int), bytes)]).length ≤ 20000
    simp only [flatB, List.flatMap_cons, List.flatMap_nil, List.length_append, List.length_nil]
    omega
  case inr.inl =>
    have b1 : (itB ((1 : Int), uintsL [2])).length ≤ 4 + (uintsL [2]).length := itB_le (1, uintsL [2]) (by dsimp only; omega)
    have b2 : (itB ((2 : Int), hash)).length ≤ 4 + (hash).length := itB_le (2, hash) (by dsimp only; omega)
    have b3 : (itB ((3 : Int), uintsL [piece])).length ≤ 4 + (uintsL [piece]).length := itB_le (3, uintsL [piece]) (by dsimp only; omega)
    show (flatB [((1 : Int), uintsL [2]), ((2 : Int), hash), ((3 : Int), uintsL [piece])]).length ≤ 20000
    simp only [flatB, List.flatMap_cons, List.flatMap_nil, List.length_append, List.length_nil]
    omega
  case inr.inr.inl =>
    have b1 : (itB ((1 : Int), uintsL [3])).length ≤ 4 + (uintsL [3]).length := itB_le (1, uintsL [3]) (by dsimp only; omega)
    have b2 : (itB ((2 : Int), hash)).length ≤ 4 + (hash).length := itB_le (2, hash) (by dsimp only; omega)
    have b3 : (itB ((3 : Int), uintsL [piece])).length ≤ 4 + (uintsL [piece]).length := itB_le (3, uintsL [piece]) (by dsimp only; omega)
    show (flatB [((1 : Int), uintsL [3]), ((2 : Int), hash), ((3 : Int), uintsL [piece])]).length ≤ 20000
    simp only [flatB, List.flatMap_cons, List.flatMap_nil, List.length_append, List.length_nil]
    omega
  case inr.inr.inr.inl =>
    have b1 : (itB ((1 : Int), uintsL [4])).length ≤ 4 + (uintsL [4]).length := itB_le (1, uintsL [4]) (by dsimp only; omega)
    have b2 : (itB ((2 : Int), hash)).length ≤ 4 + (hash).length := itB_le (2, hash) (by dsimp only; omega)
    have b3 : (itB ((3 : Int), uintsL [piece])).length ≤ 4 + (uintsL [piece]).length := itB_le (3, uintsL [piece]) (by dsimp only; omega)
    have b5 : (itB ((5 : Int), bytes)).length ≤ 4 + (bytes).length := itB_le (5, bytes) (by dsimp only; omega)
    have b6 : (itB ((6 : Int), proof.flatten)).length ≤ 4 + (proof.flatten).length := itB_le (6, proof.flatten) (by dsimp only; omega)
    show (flatB [((1 : Int), uintsL [4]), ((2 : Int), hash), ((3 : Int), uintsL [piece]), ((5 : Int), bytes), ((6 : Int), proof.flatten)]).length ≤ 20000
    simp only [flatB, List.flatMap_cons, List.flatMap_nil, List.length_append, List.length_nil]
    omega
  case inr.inr.inr.inr.inl =>
    have b1 : (itB ((1 : Int), uintsL [5])).length ≤ 4 + (uintsL [5]).length := itB_le (1, uintsL [5]) (by dsimp only; omega)
    have b2 : (itB ((2 : Int), hash)).length ≤ 4 + (hash).length := itB_le (2, hash) (by dsimp only; omega)
    have b3 : (itB ((3 : Int), uintsL [piece])).length ≤ 4 + (uintsL [piece]).length := itB_le (3, uintsL [piece]) (by dsimp only; omega)
    show (flatB [((1 : Int), uintsL [5]), ((2 : Int), hash), ((3 : Int), uintsL [piece])]).length ≤ 20000
    simp only [flatB, List.flatMap_cons, List.flatMap_nil, List.length_append, List.length_nil]
    omega
  case inr.inr.inr.inr.inr.inl =>
    have b1 : (itB ((1 : Int), uintsL [6])).length ≤ 4 + (uintsL [6]).length := itB_le (1, uintsL [6]) (by dsimp only; omega)
    have b2 : (itB ((2 : Int), hash)).length ≤ 4 + (hash).length := itB_le (2, hash) (by dsimp only; omega)
    have b8 : (itB ((8 : Int), uintsL [if seed = true then 1 else 0])).length ≤ 4 + (uintsL [if seed = true then 1 else 0]).length := itB_le (8, uintsL [if seed = true then 1 else 0]) (by dsimp only; omega)
    show (flatB [((1 : Int), uintsL [6]), ((2 : Int), hash), ((8 : Int), uintsL [if seed = true then 1 else 0])]).length ≤ 20000
    simp only [flatB, List.flatMap_cons, List.flatMap_nil, List.length_append, List.length_nil]
    omega
  case inr.inr.inr.inr.inr.inr.inl =>
    have b1 : (itB ((1 : Int), uintsL [7])).length ≤ 4 + (uintsL [7]).length := itB_le (1, uintsL [7]) (by dsimp only; omega)
    have b2 : (itB ((2 : Int), hash)).length ≤ 4 + (hash).length := itB_le (2, hash) (by dsimp only; omega)
    have b4 : (itB ((4 : Int), uintsL ids)).length ≤ 4 + (uintsL ids).length := itB_le (4, uintsL ids) (by dsimp only; omega)
    show (flatB [((1 : Int), uintsL [7]), ((2 : Int), hash), ((4 : Int), uintsL ids)]).length ≤ 20000
    simp only [flatB, List.flatMap_cons, List.flatMap_nil, List.length_append, List.length_nil]
    omega
  case inr.inr.inr.inr.inr.inr.inr.inl =>
    have b1 : (itB ((1 : Int), uintsL [8])).length ≤ 4 + (uintsL [8]).length := itB_le (1, uintsL [8]) (by dsimp only; omega)
    have b7 : (itB ((7 : Int), members.flatMap memU)).length ≤ 4 + (members.flatMap memU).length := itB_le (7, members.flatMap memU) (by dsimp only; omega)
    show (flatB [((1 : Int), uintsL [8]), ((7 : Int), members.flatMap memU)]).length ≤ 20000
    simp only [flatB, List.flatMap_cons, List.flatMap_nil, List.length_append, List.length_nil]
    omega
  case inr.inr.inr.inr.inr.inr.inr.inr.inl =>
    have b1 : (itB ((1 : Int), uintsL [9])).length ≤ 4 + (uintsL [9]).length := itB_le (1, uintsL [9]) (by dsimp only; omega)
    have b2 : (itB ((2 : Int), hash)).length ≤ 4 + (hash).length := itB_le (2, hash) (by dsimp only; omega)
    show (flatB [((1 : Int), uintsL [9]), ((2 : Int), hash)]).length ≤ 20000
    simp only [flatB, List.flatMap_cons, List.flatMap_nil, List.length_append, List.length_nil]
    omega
  case inr.inr.inr.inr.inr.inr.inr.inr.inr.inl =>
    have b1 : (itB ((1 : Int), uintsL [10])).length ≤ 4 + (uintsL [10]).length := itB_le (1, uintsL [10]) (by dsimp only; omega)
    have b2 : (itB ((2 : Int), hash)).length ≤ 4 + (hash).length := itB_le (2, hash) (by dsimp only; omega)
    have b5 : (itB ((5 : Int), bytes)).length ≤ 4 + (bytes).length := itB_le (5, bytes) (by dsimp only; omega)
    show (flatB [((1 : Int), uintsL [10]), ((2 : Int), hash), ((5 : Int), bytes)]).length ≤ 20000
    simp only [flatB, List.flatMap_cons, List.flatMap_nil, List.length_append, List.length_nil]
    omega
  case inr.inr.inr.inr.inr.inr.inr.inr.inr.inr.inl =>
    have b1 : (itB ((1 : Int), uintsL [11])).length ≤ 4 + (uintsL [11]).length := itB_le (1, uintsL [11]) (by dsimp only; omega)
    have b2 : (itB ((2 : Int), hash)).length ≤ 4 + (hash).length := itB_le (2, hash) (by dsimp only; omega)
    show (flatB [((1 : Int), uintsL [11]), ((2 : Int), hash)]).length ≤ 20000
    simp only [flatB, List.flatMap_cons, List.flatMap_nil, List.length_append, List.length_nil]
    omega

end Go.Proofs.Ytnomekfemadpeaa

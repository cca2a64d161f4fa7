/- Plain functions on lists of bytes: what package tlv computes. No program in sight. No condition. -/
import Derived.Laws.BitsAllLaws
import Derived.Laws.Bits64
import Derived.WalkKit
namespace Go.Proofs.YtnomekfemadpeaaDoor
set_option linter.unusedVariables false

/-- A number as bytes. -/
def uint (n : Nat) : List UInt8 := if n < 128 then [UInt8.ofNat n] else UInt8.ofNat (n % 128 + 128) :: uint (n / 128)
termination_by n
decreasing_by omega

theorem uint_small {n : Nat} (h : n < 128) : uint n = [UInt8.ofNat n] := by rw [uint, if_pos h]
theorem uint_big {n : Nat} (h : 128 ≤ n) : uint n = UInt8.ofNat (n % 128 + 128) :: uint (n / 128) := by rw [uint, if_neg (by omega)]

theorem uint_pos (n : Nat) : 0 < (uint n).length := by
  rw [uint]; split <;> simp

theorem uint_len (f : Nat) : ∀ n, n < 128 ^ (f + 1) → (uint n).length ≤ f + 1 := by
  induction f with
  | zero => intro n h; rw [uint_small (by simpa using h)]; simp
  | succ f ih =>
    intro n h
    by_cases hn : n < 128
    · rw [uint_small hn]; simp
    · rw [uint_big (by omega)]
      have := ih (n / 128) (by rw [Nat.pow_succ] at h; omega)
      simp; omega

theorem uint_len10 {n : Nat} (h : n < 18446744073709551616) : (uint n).length ≤ 10 := uint_len 9 n (by omega)

/-- A number with a sign as one without. -/
def zig (k : Int) : Nat := if 0 ≤ k then (2 * k).toNat else (-2 * k - 1).toNat

theorem zig_lt {k : Int} (h : -9223372036854775808 ≤ k ∧ k ≤ 9223372036854775807) : zig k < 18446744073709551616 := by
  unfold zig; split <;> omega

theorem or128_u8 (c : Nat) (hc : c < 256) : (bits BinOp.or IntKind.u8 (c : Int) 128) = ((c % 128 + 128 : Nat) : Int) := by
  rw [show (128 : Int) = ((128 : Nat) : Int) from rfl, u8_or_nat _ _ hc (by decide)]
  congr 1
  have : ∀ c : Fin 256, c.val ||| 128 = c.val % 128 + 128 := by decide +kernel
  exact this ⟨c, hc⟩

theorem andNot128_u8 (c : Nat) (hc : c < 256) : (bits BinOp.andNot IntKind.u8 (c : Int) 128) = ((c % 128 : Nat) : Int) := by
  rw [show (128 : Int) = ((128 : Nat) : Int) from rfl, u8_andNot_nat _ _ hc (by decide)]
  congr 1
  have : ∀ c : Fin 256, c.val &&& (255 - 128) = c.val % 128 := by decide +kernel
  exact this ⟨c, hc⟩

/-- The number that bytes begin with, and how many bytes it has, from the k-th byte on, the first ones being worth acc. -/
def cutL (k acc : Nat) : List UInt8 → Option (Nat × Nat)
  | [] => none
  | c :: r => if k = 10 ∨ (k = 9 ∧ 1 < c.toNat) then none
    else if c.toNat < 128 then (if k = 0 ∨ 0 < c.toNat then some (acc + c.toNat * 128 ^ k, k + 1) else none)
    else cutL (k + 1) (acc + (c.toNat % 128) * 128 ^ k) r

theorem drop_at {l : List UInt8} {k : Nat} (h : k < l.length) : l.drop k = l.getD k 0 :: l.drop (k + 1) := by
  rw [List.drop_eq_getElem_cons h]; simp [List.getD, List.getElem?_eq_getElem h]

theorem pow9 {k : Nat} (h : k ≤ 9) : 128 ^ k ≤ 9223372036854775808 := by
  have := Nat.pow_le_pow_right (n := 128) (by decide) h
  exact this

theorem cut_sum (k acc c : Nat) (hk : k < 9) (ha : acc < 128 ^ k) (hc : c < 256) :
    bits BinOp.or IntKind.u64 (acc : Int) (IntKind.u64.wrap (IntKind.u64.wrap (bits BinOp.andNot IntKind.u8 (c : Int) 128) * 2 ^ (7 * k))) = ((acc + c % 128 * 128 ^ k : Nat) : Int) := by
  have hp := pow9 (show k + 1 ≤ 9 by omega)
  have e7 : (2 : Nat) ^ (7 * k) = 128 ^ k := by rw [Nat.pow_mul]
  have hlt : c % 128 * 128 ^ k < 128 ^ (k + 1) := by
    rw [Nat.pow_succ, Nat.mul_comm (128 ^ k)]
    exact Nat.mul_lt_mul_of_pos_right (by omega) (Nat.pow_pos (by decide))
  have hlt2 : acc < 128 ^ (k + 1) := Nat.lt_of_lt_of_le ha (Nat.pow_le_pow_right (by decide) (by omega))
  have e2 : IntKind.u64.wrap ((c % 128 : Nat) : Int) = ((c % 128 : Nat) : Int) := by simp [IntKind.wrap, IntKind.bits, IntKind.signed]; omega
  have e3 : ((c % 128 : Nat) : Int) * 2 ^ (7 * k) = ((c % 128 * 128 ^ k : Nat) : Int) := by rw [← e7]; simp
  have e4 : IntKind.u64.wrap ((c % 128 * 128 ^ k : Nat) : Int) = ((c % 128 * 128 ^ k : Nat) : Int) := by
    generalize c % 128 * 128 ^ k = z at *
    simp [IntKind.wrap, IntKind.bits, IntKind.signed]; omega
  rw [andNot128_u8 c hc, e2, e3, e4, u64_or_nat _ _ (by omega) (by omega)]
  congr 1
  rw [Nat.or_comm, nat_join (7 * k) _ _ (by rw [e7]; exact Nat.mul_mod_left _ _) (by rw [e7]; exact ha), Nat.add_comm]

theorem cut_sum0 (acc c : Nat) (ha : acc < 128 ^ 0) (hc : c < 128) :
    bits BinOp.or IntKind.u64 (acc : Int) (IntKind.u64.wrap (IntKind.u64.wrap (bits BinOp.andNot IntKind.u8 (c : Int) 128))) = ((acc + c * 128 ^ 0 : Nat) : Int) := by
  have h0 : acc = 0 := by simpa using ha
  subst h0
  have e2 : IntKind.u64.wrap ((c % 128 : Nat) : Int) = ((c : Nat) : Int) := by simp [IntKind.wrap, IntKind.bits, IntKind.signed]; omega
  have e3 : IntKind.u64.wrap ((c : Nat) : Int) = ((c : Nat) : Int) := by simp [IntKind.wrap, IntKind.bits, IntKind.signed]; omega
  rw [andNot128_u8 c (by omega), e2, e3, u64_or_nat _ _ (by omega) (by omega)]
  simp

theorem cut_sum9 (acc c : Nat) (ha : acc < 9223372036854775808) (hc : c ≤ 1) :
    bits BinOp.or IntKind.u64 (acc : Int) (IntKind.u64.wrap (IntKind.u64.wrap (bits BinOp.andNot IntKind.u8 (c : Int) 128) * 9223372036854775808)) = ((acc + c * 9223372036854775808 : Nat) : Int) := by
  have e2 : IntKind.u64.wrap ((c % 128 : Nat) : Int) = ((c : Nat) : Int) := by simp [IntKind.wrap, IntKind.bits, IntKind.signed]; omega
  have e3 : IntKind.u64.wrap ((c : Int) * 9223372036854775808) = ((c * 9223372036854775808 : Nat) : Int) := by simp [IntKind.wrap, IntKind.bits, IntKind.signed]; omega
  rw [andNot128_u8 c (by omega), e2, e3, u64_or_nat _ _ (by omega) (by omega)]
  congr 1
  rw [Nat.or_comm, nat_join 63 _ _ (by omega) (by omega), Nat.add_comm]

theorem cutL_ten (acc : Nat) (l : List UInt8) : cutL 10 acc l = none := by
  cases l with
  | nil => rfl
  | cons c r => rw [cutL, if_pos (.inl rfl)]

theorem cutL_lt {l : List UInt8} : ∀ {k acc n m : Nat}, k ≤ 9 → acc < 128 ^ k → cutL k acc l = some (n, m) → n < 18446744073709551616 ∧ k < m ∧ m ≤ k + l.length := by
  induction l with
  | nil => intro k acc n m _ _ h; simp [cutL] at h
  | cons c r ih =>
    intro k acc n m hk ha h
    have hp := pow9 hk
    rw [cutL] at h
    split at h
    · simp at h
    · rename_i h1
      split at h
      · split at h
        · simp only [Option.some.injEq, Prod.mk.injEq] at h
          obtain ⟨rfl, rfl⟩ := h
          refine ⟨?_, by omega, by simp⟩
          by_cases h9 : k = 9
          · subst h9
            have hc : c.toNat ≤ 1 := by omega
            have : c.toNat * 128 ^ 9 ≤ 1 * 128 ^ 9 := Nat.mul_le_mul_right _ hc
            omega
          · have hp := pow9 (show k + 1 ≤ 9 by omega)
            have : c.toNat * 128 ^ k ≤ 127 * 128 ^ k := Nat.mul_le_mul_right _ (by omega)
            rw [Nat.pow_succ] at hp
            omega
        · simp at h
      · by_cases h9 : k = 9
        · exact absurd h9 (by rintro rfl; omega)
        · have ha' : acc + c.toNat % 128 * 128 ^ k < 128 ^ (k + 1) := by
            have : c.toNat % 128 * 128 ^ k ≤ 127 * 128 ^ k := Nat.mul_le_mul_right _ (by omega)
            rw [Nat.pow_succ]; omega
          obtain ⟨q1, q2, q3⟩ := ih (by omega) ha' h
          exact ⟨q1, by omega, by simp; omega⟩

theorem zig_nn {n : Int} (h : 0 ≤ n) : 2 * n = (zig n : Nat) := by unfold zig; rw [if_pos h]; omega
theorem zig_ng {n : Int} (h : n < 0) : 2 * (-1 - n) + 1 = (zig n : Nat) := by unfold zig; rw [if_neg (by omega)]; omega

theorem xor_ones64 (a : Nat) (h : a < 18446744073709551616) : a ^^^ 18446744073709551615 = 18446744073709551615 - a := by
  have h1 : (BitVec.ofNat 64 a ^^^ BitVec.allOnes 64).toNat = (~~~(BitVec.ofNat 64 a)).toNat := by rw [BitVec.xor_allOnes]
  rw [BitVec.toNat_xor, BitVec.toNat_not, BitVec.toNat_allOnes, BitVec.toNat_ofNat] at h1
  have e : a % 2 ^ 64 = a := Nat.mod_eq_of_lt (by omega)
  rw [e] at h1
  exact h1

theorem zig_pos {n : Int} (h0 : 0 ≤ n) (h2 : n ≤ 9223372036854775807) : bits BinOp.xor IntKind.u64 (n * 2) (n / 9223372036854775808) = (zig n : Nat) := by
  have e : n / 9223372036854775808 = ((0 : Nat) : Int) := by omega
  have e2 : n * 2 = ((zig n : Nat) : Int) := by unfold zig; rw [if_pos h0]; omega
  have hz : zig n < 18446744073709551616 := zig_lt ⟨by omega, h2⟩
  rw [e, e2, u64_xor_nat _ _ hz (by omega), Nat.xor_zero]

theorem zig_neg {n : Int} (h1 : -9223372036854775808 ≤ n) (h0 : n < 0) :
    bits BinOp.xor IntKind.u64 (IntKind.u64.wrap (IntKind.u64.wrap n * 2)) (IntKind.u64.wrap (n / 9223372036854775808)) = (zig n : Nat) := by
  have e : n / 9223372036854775808 = -1 := by omega
  have w1 : IntKind.u64.wrap n = n + 18446744073709551616 := by simp [IntKind.wrap, IntKind.bits, IntKind.signed]; omega
  have w2 : IntKind.u64.wrap (-1) = ((18446744073709551615 : Nat) : Int) := by simp [IntKind.wrap, IntKind.bits, IntKind.signed]
  have w3 : IntKind.u64.wrap ((n + 18446744073709551616) * 2) = (((2 * n + 18446744073709551616).toNat : Nat) : Int) := by simp [IntKind.wrap, IntKind.bits, IntKind.signed]; omega
  rw [e, w1, w2, w3, u64_xor_nat _ _ (by omega) (by omega), xor_ones64 _ (by omega)]
  congr 1
  unfold zig
  rw [if_neg (by omega)]
  omega

/-- The number that bytes are. -/
def toU (l : List UInt8) : Option Nat := match cutL 0 0 l with
  | some (n, m) => if m = l.length then some n else none
  | none => none

theorem toU_lt {l : List UInt8} {n : Nat} (h : toU l = some n) : n < 18446744073709551616 := by
  unfold toU at h
  split at h
  · rename_i x m hc
    split at h
    · cases h; exact (cutL_lt (by omega) (by simp) hc).1
    · cases h
  · cases h

/-- A number with a sign again. -/
def zag (n : Nat) : Int := if n % 2 = 0 then (n : Int) / 2 else -1 - (n : Int) / 2

theorem ofInt64_toNat (a : Int) : ((BitVec.ofInt 64 a).toNat : Int) = a % 18446744073709551616 := by
  rw [BitVec.toNat_ofInt]; simp; omega
theorem xor_i64_zero (a : Int) (h0 : -9223372036854775808 ≤ a) (h1 : a ≤ 9223372036854775807) : bits BinOp.xor IntKind.i64 a 0 = a := by
  have e : bits BinOp.xor IntKind.i64 a 0 = IntKind.i64.wrap (((BitVec.ofInt 64 a) ^^^ (BitVec.ofInt 64 0)).toNat : Int) := rfl
  rw [e, show BitVec.ofInt 64 0 = 0#64 from rfl, BitVec.xor_zero, ofInt64_toNat, IntKind.wrap_i64]
  omega
theorem xor_i64_ones (a : Int) (h0 : -9223372036854775808 ≤ a) (h1 : a ≤ 9223372036854775807) : bits BinOp.xor IntKind.i64 a (-1) = -1 - a := by
  have e : bits BinOp.xor IntKind.i64 a (-1) = IntKind.i64.wrap (((BitVec.ofInt 64 a) ^^^ (BitVec.ofInt 64 (-1))).toNat : Int) := rfl
  rw [e, show BitVec.ofInt 64 (-1) = BitVec.allOnes 64 from rfl, BitVec.xor_allOnes, BitVec.toNat_not, IntKind.wrap_i64]
  have := ofInt64_toNat a
  have := (BitVec.ofInt 64 a).isLt
  omega
theorem zag_bits (n : Nat) (hn : n < 18446744073709551616) : bits BinOp.xor IntKind.i64 ((n : Int) / 2) (RowKit.wrap64 (-RowKit.wrap64 (bits BinOp.and IntKind.u64 (n : Int) 1))) = zag n := by
  have e : bits BinOp.and IntKind.u64 (n : Int) 1 = ((n % 2 : Nat) : Int) := by
    rw [show (1 : Int) = ((1 : Nat) : Int) from rfl, u64_and_nat _ _ hn (by decide), nat_mask1]
  rw [e, zag]
  rcases Nat.mod_two_eq_zero_or_one n with h | h
  · rw [h, if_pos rfl, show RowKit.wrap64 (-RowKit.wrap64 ((0 : Nat) : Int)) = 0 from by simp [RowKit.wrap64]]
    have := xor_i64_zero ((n : Int) / 2) (by omega) (by omega)
    exact this
  · rw [h, if_neg (by decide), show RowKit.wrap64 (-RowKit.wrap64 ((1 : Nat) : Int)) = -1 from by simp [RowKit.wrap64]]
    have := xor_i64_ones ((n : Int) / 2) (by omega) (by omega)
    exact this

/-- A record of items, behind what there is already. -/
def encF : List (Int × List UInt8) → Int → List UInt8 → Option (List UInt8)
  | [], _, out => some out
  | x :: r, last, out => if x.1 ≤ last ∨ 63 < x.1 ∨ 65536 - (out.length : Int) < x.2.length then none
    else if 65536 < (out ++ [UInt8.ofNat x.1.toNat] ++ uint x.2.length ++ x.2).length then none
    else encF r x.1 (out ++ [UInt8.ofNat x.1.toNat] ++ uint x.2.length ++ x.2)

/-- A record of items. -/
def encL (l : List (Int × List UInt8)) : Option (List UInt8) := encF l 0 []

/-- The reference's. -/
def rencF : List (Int × List UInt8) → Int → List UInt8 → Option (List UInt8)
  | [], _, out => some out
  | x :: r, last, out => if x.1 ≤ last ∨ 63 < x.1 ∨ 65536 < x.2.length then none
    else if 65536 < (out ++ [UInt8.ofNat x.1.toNat] ++ uint x.2.length ++ x.2).length then none
    else rencF r x.1 (out ++ [UInt8.ofNat x.1.toNat] ++ uint x.2.length ++ x.2)

def rencL (l : List (Int × List UInt8)) : Option (List UInt8) := if 63 < l.length then none else rencF l 0 []

theorem rencF_eq (l : List (Int × List UInt8)) : ∀ (last : Int) (out : List UInt8), out.length ≤ 65536 → rencF l last out = encF l last out := by
  induction l with
  | nil => intro last out _; rfl
  | cons x r ih =>
    intro last out ho
    rw [rencF, encF]
    by_cases h1 : x.1 ≤ last ∨ 63 < x.1 ∨ 65536 < x.2.length
    · rw [if_pos h1, if_pos (by omega)]
    · rw [if_neg h1]
      by_cases h2 : 65536 < (out ++ [UInt8.ofNat x.1.toNat] ++ uint x.2.length ++ x.2).length
      · rw [if_pos h2]
        split
        · rfl
        · rfl
      · rw [if_neg h2]
        have h3 : (out ++ [UInt8.ofNat x.1.toNat] ++ uint x.2.length ++ x.2).length = out.length + 1 + (uint x.2.length).length + x.2.length := by simp; omega
        rw [if_neg (by omega), if_neg h2]
        exact ih _ _ (by omega)

theorem encF_many (l : List (Int × List UInt8)) : ∀ (last : Int) (out : List UInt8), 63 < last + l.length → 0 ≤ last → last ≤ 63 → encF l last out = none := by
  induction l with
  | nil => intro last out h h0 h1; simp at h; omega
  | cons x r ih =>
    intro last out h h0 h1
    rw [encF]
    split
    · rfl
    · split
      · rfl
      · refine ih _ _ ?_ (by omega) (by omega)
        simp at h; omega

theorem rencL_eq (l : List (Int × List UInt8)) : rencL l = encL l := by
  unfold rencL encL
  split
  · rw [encF_many l 0 [] (by omega) (by omega) (by omega)]
  · exact rencF_eq l 0 [] (by simp)

theorem encF_le (l : List (Int × List UInt8)) : ∀ (last : Int) (out c : List UInt8), out.length ≤ 65536 → encF l last out = some c → c.length ≤ 65536 := by
  induction l with
  | nil => intro last out c ho h; simp [encF] at h; subst h; exact ho
  | cons x r ih =>
    intro last out c ho h
    rw [encF] at h
    split at h
    · cases h
    · split at h
      · cases h
      · exact ih _ _ _ (by omega) h

end Go.Proofs.YtnomekfemadpeaaDoor

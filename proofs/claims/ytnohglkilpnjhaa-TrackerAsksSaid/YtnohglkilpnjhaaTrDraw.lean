/- The walks of package draw's Next and Below. No condition. -/
import Derived.Test.YtnohglkilpnjhaaTrDrawPlain
import Derived.Test.YtnohglkilpnjhaaGb
import Derived.Lib.Mul64
import Derived.Laws.Bits64b
namespace Go.Proofs.Ytnohglkilpnjhaa
open Go.RowKit
set_option linter.unusedVariables false
set_option linter.unusedSimpArgs false
set_option maxRecDepth 100000

/-- A source's block. -/
def SrcO (w : World) (g s : Nat) : Prop := One w g (.int .u64 (s : Int)) 112 ∧ s < 18446744073709551616

/-- The steps of the mix, as a walk meets them. -/
theorem mix_facts (S : Nat) (hS : S < 18446744073709551616) : ∃ X M Y N : Nat, bits .xor .u64 (S : Int) ((S : Int) / 1073741824) = (X : Int) ∧ IntKind.u64.wrap ((X : Int) * 13787848793156543929) = (M : Int) ∧ bits .xor .u64 (M : Int) ((M : Int) / 134217728) = (Y : Int) ∧
    IntKind.u64.wrap ((Y : Int) * 10723151780598845931) = (N : Int) ∧ bits .xor .u64 (N : Int) ((N : Int) / 2147483648) = (mixN S : Int) := by
  have hM : mix1 S < 18446744073709551616 := Nat.mod_lt _ (by decide)
  have hN : mix2 (mix1 S) < 18446744073709551616 := Nat.mod_lt _ (by decide)
  refine ⟨S ^^^ (S / 1073741824), mix1 S, mix1 S ^^^ (mix1 S / 134217728), mix2 (mix1 S), ?_, ?_, ?_, ?_, ?_⟩
  · rw [← bits_xor_u64_nat S (S / 1073741824) hS (by omega)]; congr 1
  · rw [IntKind.wrap_u64]; unfold mix1; omega
  · rw [← bits_xor_u64_nat (mix1 S) (mix1 S / 134217728) hM (by omega)]; congr 1
  · rw [IntKind.wrap_u64]; unfold mix2; omega
  · have := bits_xor_u64_nat (mix2 (mix1 S)) (mix2 (mix1 S) / 2147483648) hN (by omega)
    unfold mixN mix3
    rw [← this]; congr 1

set_option maxHeartbeats 1600000 in
theorem Next_any (g s : Nat) (w : World) (hs : SrcO w g s) :
    Calls Try.prog 95 #[.pointer (some ⟨g, 0, none⟩)] w fun e w' => e = .returned (.int .u64 (mixN (nextN s) : Nat)) ∧ SrcO w' g (nextN s) ∧ w.grownBy w' (some g) ∧ w'.heap.size = w.heap.size := by
  obtain ⟨ho, hlt⟩ := hs
  have hc := ho.cell
  have hf := ho.free
  go_enter Try.func95, Try.ntmps95
  go_upto_region 2 with (fail)
  generalize hW : World.setCell w _ _ = W1
  obtain ⟨h1, hg, hz⟩ : SrcO W1 g (nextN s) ∧ w.grownBy W1 (some g) ∧ W1.heap.size = w.heap.size := by
    subst hW
    have e : ∀ x : Int, x = ((nextN s : Nat) : Int) → SrcO (w.setCell ⟨g, 0, none⟩ (.int .u64 x)) g (nextN s) := fun x hx => by rw [hx]; exact ⟨ho.set _, next_lt s⟩
    refine ⟨e _ ?_, ⟨rfl, rfl, rfl, by simp, fun k hk hne => Below.heap_setCell _ _ _ _ (fun q => hne (by rw [q]))⟩, by simp⟩
    rw [IntKind.wrap_u64]
    unfold nextN
    omega
  clear hW hc hf ho
  have hc1 := h1.1.cell
  obtain ⟨S, hSe⟩ : ∃ S, nextN s = S := ⟨_, rfl⟩
  rw [hSe] at h1 hc1
  obtain ⟨X, M, Y, N, x1, m1, x2, m2, x3⟩ := mix_facts S h1.2
  obtain ⟨Z, hZ⟩ : ∃ Z, mixN S = Z := ⟨_, rfl⟩
  rw [hZ] at x3
  have HSE := Lib.hid hSe
  have HMX := Lib.hid hZ
  have H1 := Lib.hid h1
  have HG := Lib.hid hg
  have HZ := Lib.hid hz
  clear hZ h1 hg hz hSe
  go_wp2
  go_ret
  exact ⟨by rw [HSE.out, HMX.out]; rfl, by rw [HSE.out]; exact H1.out, HG.out, HZ.out⟩

theorem maskN11 (a : Nat) (ha : a < 18446744073709551616) : bits .and .u64 (a : Int) 4294967295 = ((a % 4294967296 : Nat) : Int) := by
  have h := bits_and_u64_nat a 4294967295 ha (by omega)
  have e : a &&& 4294967295 = a % 4294967296 := Nat.and_two_pow_sub_one_eq_mod a 32
  rw [e] at h
  exact h
theorem divN11 (a : Nat) : (a : Int) / 4294967296 = ((a / 4294967296 : Nat) : Int) := by omega
theorem modN11 (a : Nat) : (a : Int) % 4294967296 = ((a % 4294967296 : Nat) : Int) := by omega
theorem tdivN11 (a : Nat) : (a : Int).tdiv 4294967296 = ((a / 4294967296 : Nat) : Int) := by rw [Int.tdiv_eq_ediv_of_nonneg (by omega)]; omega
theorem tmodN11 (a : Nat) : (a : Int).tmod 4294967296 = ((a % 4294967296 : Nat) : Int) := by rw [Int.tmod_eq_emod_of_nonneg (by omega)]; omega
theorem mulN11 (a b : Nat) : (a : Int) * (b : Int) = ((a * b : Nat) : Int) := (Int.natCast_mul a b).symm
theorem addN11 (a b : Nat) : (a : Int) + (b : Int) = ((a + b : Nat) : Int) := (Int.natCast_add a b).symm
theorem wrapN11 (a : Nat) (ha : a < 18446744073709551616) : IntKind.u64.wrap (a : Int) = (a : Int) := by rw [IntKind.wrap_u64]; omega
theorem wrapM11 (a : Nat) : IntKind.u64.wrap (a : Int) = ((a % 18446744073709551616 : Nat) : Int) := by rw [IntKind.wrap_u64]; omega

set_option maxHeartbeats 1600000 in
theorem Mul64_any (x y : Nat) (hx : x < 18446744073709551616) (hy : y < 18446744073709551616) (w : World) :
    Calls Try.prog 94 #[.int .u64 x, .int .u64 y] w fun e w' => e = .returned (.tuple #[.int .u64 ((x * y / 18446744073709551616 : Nat) : Int), .int .u64 ((x * y % 18446744073709551616 : Nat) : Int)]) ∧ w' = w := by
  obtain ⟨bd, bt, bw, hhi⟩ := Lib.mul64_hi x y hx hy
  have ba := Lib.half_mul_le (a := x / 4294967296) (b := y / 4294967296) (by omega) (by omega)
  have bb := Lib.half_mul_le (a := x / 4294967296) (b := y % 4294967296) (by omega) (by omega)
  have bc := Lib.half_mul_le (a := x % 4294967296) (b := y / 4294967296) (by omega) (by omega)
  have ba' : x / 4294967296 * (y / 4294967296) < 18446744073709551616 := by omega
  have bb' : x / 4294967296 * (y % 4294967296) < 18446744073709551616 := by omega
  have bc' : x % 4294967296 * (y / 4294967296) < 18446744073709551616 := by omega
  have bh1 : x / 4294967296 * (y / 4294967296) + (x / 4294967296 * (y % 4294967296) + x % 4294967296 * (y % 4294967296) / 4294967296) / 4294967296 < 18446744073709551616 := by omega
  have bh : x / 4294967296 * (y / 4294967296) + (x / 4294967296 * (y % 4294967296) + x % 4294967296 * (y % 4294967296) / 4294967296) / 4294967296 + ((x / 4294967296 * (y % 4294967296) + x % 4294967296 * (y % 4294967296) / 4294967296) % 4294967296 + x % 4294967296 * (y / 4294967296)) / 4294967296 < 18446744073709551616 := by omega
  go_enter Try.func94, Try.ntmps94
  go_wp2
  simp only [maskN11 x hx, maskN11 y hy, divN11, mulN11, addN11, wrapN11 _ bd, wrapN11 _ bb', wrapN11 _ bt, maskN11 _ bt, wrapN11 _ bc', wrapN11 _ bw, wrapN11 _ ba', wrapN11 _ bh1, wrapN11 _ bh, wrapM11 (x * y)]
  rw [hhi]
  go_ret2
  exact ⟨rfl, rfl⟩

set_option maxHeartbeats 1600000 in
theorem Below_any (g s n : Nat) (w : World) (hs : SrcO w g s) (hn : n < 18446744073709551616) :
    Calls Try.prog 74 #[.pointer (some ⟨g, 0, none⟩), .int .u64 (n : Int)] w fun e w' => e = .returned (.int .u64 (belowN s n : Nat)) ∧ SrcO w' g (nextN s) ∧ w.grownBy w' (some g) ∧ w'.heap.size = w.heap.size := by
  have hN := Next_any g s w hs
  have hM := fun w' => Mul64_any (mixN (nextN s)) n (mix_lt _) hn w'
  have hb : mixN (nextN s) * n / 18446744073709551616 = belowN s n := rfl
  rw [hb] at hM
  obtain ⟨B, hB⟩ : ∃ B, belowN s n = B := ⟨_, rfl⟩
  rw [hB] at hM
  obtain ⟨X, hX⟩ : ∃ X, mixN (nextN s) = X := ⟨_, rfl⟩
  rw [hX] at hM hN
  have HN := Lib.hid hN
  have HM := Lib.hid hM
  have HB := Lib.hid hB
  clear hN hM hb hB hX
  go_enter Try.func74, Try.ntmps74
  go_wp2_with (first
    | (go_at_call 95; refine HN.out.mono ?_; rintro e w1 ⟨rfl, h1, hg1, hz1⟩; have H1 := Lib.hid h1; have HG1 := Lib.hid hg1; have HZ1 := Lib.hid hz1; clear h1 hg1 hz1)
    | (go_at_call 94; refine (HM.out _).mono ?_; rintro e w2 ⟨rfl, rfl⟩))
  go_ret
  exact ⟨by rw [HB.out]; rfl, H1.out, HG1.out, HZ1.out⟩

end Go.Proofs.Ytnohglkilpnjhaa

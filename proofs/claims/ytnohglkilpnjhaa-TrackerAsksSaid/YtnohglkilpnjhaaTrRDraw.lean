/- The walks of the document's answer's Mix, Next and Below. No condition. -/
import Derived.Test.YtnohglkilpnjhaaTrDraw
namespace Go.Proofs.Ytnohglkilpnjhaa
open Go.RowKit
set_option linter.unusedVariables false
set_option linter.unusedSimpArgs false
set_option maxRecDepth 100000

def RSrcO (w : World) (g s : Nat) : Prop := One w g (.int .u64 (s : Int)) 106 ∧ s < 18446744073709551616
set_option maxHeartbeats 1600000 in
theorem Mix_any (S : Nat) (w : World) (hS : S < 18446744073709551616) :
    Calls Try.prog 106 #[.int .u64 (S : Int)] w fun e w' => e = .returned (.int .u64 (mixN S : Nat)) ∧ w' = w := by
  obtain ⟨X, M, Y, N, x1, m1, x2, m2, x3⟩ := mix_facts S hS
  obtain ⟨Z, hZ⟩ : ∃ Z, mixN S = Z := ⟨_, rfl⟩
  rw [hZ] at x3 ⊢
  clear hZ
  go_enter Try.func106, Try.ntmps106
  go_wp2
  go_ret
  exact ⟨rfl, rfl⟩

set_option maxHeartbeats 1600000 in
theorem RNext_any (g s : Nat) (w : World) (hs : RSrcO w g s) :
    Calls Try.prog 101 #[.pointer (some ⟨g, 0, none⟩)] w fun e w' => e = .returned (.int .u64 (mixN (nextN s) : Nat)) ∧ RSrcO w' g (nextN s) ∧ w.grownBy w' (some g) ∧ w'.heap.size = w.heap.size := by
  obtain ⟨ho, hlt⟩ := hs
  have hc := ho.cell
  have hf := ho.free
  go_enter Try.func101, Try.ntmps101
  go_upto_region 2 with (fail)
  generalize hW : World.setCell w _ _ = W1
  obtain ⟨h1, hg, hz⟩ : RSrcO W1 g (nextN s) ∧ w.grownBy W1 (some g) ∧ W1.heap.size = w.heap.size := by
    subst hW
    have e : ∀ x : Int, x = ((nextN s : Nat) : Int) → RSrcO (w.setCell ⟨g, 0, none⟩ (.int .u64 x)) g (nextN s) := fun x hx => by rw [hx]; exact ⟨ho.set _, next_lt s⟩
    refine ⟨e _ ?_, ⟨rfl, rfl, rfl, by simp, fun k hk hne => Below.heap_setCell _ _ _ _ (fun q => hne (by rw [q]))⟩, by simp⟩
    rw [IntKind.wrap_u64]
    unfold nextN
    omega
  clear hW hc hf ho
  have hc1 := h1.1.cell
  obtain ⟨S, hSe⟩ : ∃ S, nextN s = S := ⟨_, rfl⟩
  rw [hSe] at h1 hc1
  have hM := Mix_any S W1 h1.2
  have HSE := Lib.hid hSe
  have HM := Lib.hid hM
  have H1 := Lib.hid h1
  have HG := Lib.hid hg
  have HZ := Lib.hid hz
  clear h1 hg hz hM hSe
  go_wp2_with (go_at_call 106; refine HM.out.mono ?_; rintro e w' ⟨rfl, rfl⟩)
  go_ret
  exact ⟨by rw [HSE.out]; rfl, by rw [HSE.out]; exact H1.out, HG.out, HZ.out⟩

set_option maxHeartbeats 1600000 in
theorem RBelow_any (g s n : Nat) (w : World) (hs : RSrcO w g s) (hn : n < 18446744073709551616) :
    Calls Try.prog 85 #[.pointer (some ⟨g, 0, none⟩), .int .u64 (n : Int)] w fun e w' => e = .returned (.int .u64 (belowN s n : Nat)) ∧ RSrcO w' g (nextN s) ∧ w.grownBy w' (some g) ∧ w'.heap.size = w.heap.size := by
  have hN := RNext_any g s w hs
  obtain ⟨bd, bt, bw, hhi⟩ := Lib.mul64_hi (mixN (nextN s)) n (mix_lt _) hn
  have hxl := mix_lt (nextN s)
  have hb : mixN (nextN s) * n / 18446744073709551616 = belowN s n := rfl
  rw [hb] at hhi
  obtain ⟨B, hB⟩ : ∃ B, belowN s n = B := ⟨_, rfl⟩
  rw [hB] at hhi
  obtain ⟨x, hX⟩ : ∃ X, mixN (nextN s) = X := ⟨_, rfl⟩
  rw [hX] at hhi hN bd bt bw hxl
  have HN := Lib.hid hN
  have HB := Lib.hid hB
  clear hN hb hB hX
  have ba := Lib.half_mul_le (a := x / 4294967296) (b := n / 4294967296) (by omega) (by omega)
  have bb := Lib.half_mul_le (a := x / 4294967296) (b := n % 4294967296) (by omega) (by omega)
  have bc := Lib.half_mul_le (a := x % 4294967296) (b := n / 4294967296) (by omega) (by omega)
  go_enter Try.func85, Try.ntmps85
  go_wp2_with (go_at_call 101; refine HN.out.mono ?_; rintro e w1 ⟨rfl, h1, hg1, hz1⟩; have H1 := Lib.hid h1; have HG1 := Lib.hid hg1; have HZ1 := Lib.hid hz1; clear h1 hg1 hz1)
  have ba' : x / 4294967296 * (n / 4294967296) < 18446744073709551616 := by omega
  have bb' : x / 4294967296 * (n % 4294967296) < 18446744073709551616 := by omega
  have bc' : x % 4294967296 * (n / 4294967296) < 18446744073709551616 := by omega
  have bq1 : x % 4294967296 * (n % 4294967296) / 4294967296 < 18446744073709551616 := by omega
  have bw' : x % 4294967296 * (n / 4294967296) + (x / 4294967296 * (n % 4294967296) + x % 4294967296 * (n % 4294967296) / 4294967296) % 4294967296 < 18446744073709551616 := by omega
  have bq2 : (x / 4294967296 * (n % 4294967296) + x % 4294967296 * (n % 4294967296) / 4294967296) / 4294967296 < 18446744073709551616 := by omega
  have bq3 : (x % 4294967296 * (n / 4294967296) + (x / 4294967296 * (n % 4294967296) + x % 4294967296 * (n % 4294967296) / 4294967296) % 4294967296) / 4294967296 < 18446744073709551616 := by omega
  have bh1 : x / 4294967296 * (n / 4294967296) + (x / 4294967296 * (n % 4294967296) + x % 4294967296 * (n % 4294967296) / 4294967296) / 4294967296 < 18446744073709551616 := by omega
  have bh : x / 4294967296 * (n / 4294967296) + (x / 4294967296 * (n % 4294967296) + x % 4294967296 * (n % 4294967296) / 4294967296) / 4294967296 + (x % 4294967296 * (n / 4294967296) + (x / 4294967296 * (n % 4294967296) + x % 4294967296 * (n % 4294967296) / 4294967296) % 4294967296) / 4294967296 < 18446744073709551616 := by omega
  have hh2 : x / 4294967296 * (n / 4294967296) + (x / 4294967296 * (n % 4294967296) + x % 4294967296 * (n % 4294967296) / 4294967296) / 4294967296 + (x % 4294967296 * (n / 4294967296) + (x / 4294967296 * (n % 4294967296) + x % 4294967296 * (n % 4294967296) / 4294967296) % 4294967296) / 4294967296 = B := by omega
  simp only [tdivN11, tmodN11, divN11, modN11, mulN11, addN11, wrapN11 _ bd, wrapN11 _ bq1, wrapN11 _ bb', wrapN11 _ bt, wrapN11 _ bc', wrapN11 _ bw', wrapN11 _ bq2, wrapN11 _ bq3, wrapN11 _ ba', wrapN11 _ bh1, wrapN11 _ bh]
  rw [hh2]
  go_ret
  exact ⟨by rw [HB.out]; rfl, H1.out, HG1.out, HZ1.out⟩

end Go.Proofs.Ytnohglkilpnjhaa

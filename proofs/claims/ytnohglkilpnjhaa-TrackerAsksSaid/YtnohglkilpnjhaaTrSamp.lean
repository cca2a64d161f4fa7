/- The walks of package draw's Sample and New, and of the document's answer's Sample. No condition. -/
import Derived.Test.YtnohglkilpnjhaaTrShuf
namespace Go.Proofs.Ytnohglkilpnjhaa
open Go.RowKit
set_option linter.unusedVariables false
set_option linter.unusedSimpArgs false
set_option maxRecDepth 100000

theorem Ints.first {w : World} {v : Value} {l : List Int} (h : Ints w v l) (N : Nat) (h2 : N ≤ l.length) :
    ∃ v', (∀ W : World, (Instr.slice 22 v .none (some (.int .i64 (N : Int))) Option.none).run Try.prog W = .ok v' W) ∧ Ints w v' (l.take N) := by
  obtain ⟨i, hi0, hz, hsize, hby⟩ := info_parts infoInt
  obtain ⟨v', hr, hrow, hob⟩ := Row.run_part h Try.underlying22 hi0 hsize .none (some (.int .i64 (N : Int))) 0 N (Nat.zero_le _) h2 (.inl ⟨rfl, rfl⟩) (.inr ⟨_, rfl⟩)
  refine ⟨v', hr, ?_⟩
  have e : (l.take N).length = N := by simp; omega
  unfold Ints
  rw [e]
  simpa [List.map_take] using hrow

theorem samp_num (k : Int) (n : Nat) : ∃ N : Nat, max 0 (min k (n : Int)) = (N : Int) ∧ (max 0 (min k (n : Int))).toNat = N ∧ N ≤ n := ⟨(max 0 (min k (n : Int))).toNat, by omega, rfl, by omega⟩

set_option maxHeartbeats 1600000 in
theorem Sample_any (g s : Nat) (v : Value) (l : List Int) (k : Int) (w : World) (hs : SrcO w g s) (hl : Ints w v l) (hlen : l.length ≤ 1000000) :
    Calls Try.prog 40 #[.pointer (some ⟨g, 0, none⟩), v, .int .i64 k] w fun e w' => ∃ v', e = .returned v' ∧ Ints w' v' (sampleL s l k) ∧ Kept (fun k => k ≠ g) w w' := by
  obtain ⟨N, hN, hN2, hNl⟩ := samp_num k l.length
  have hsl : (shufL s l).length = l.length := (shufL_perm s l).length_eq
  obtain ⟨S, hS⟩ : ∃ S, shufL s l = S := ⟨_, rfl⟩
  have hsam : sampleL s l k = S.take N := by unfold sampleL; rw [hS, hN2]
  rw [hsam]
  rw [hS] at hsl
  rw [← hsl] at hN hNl
  have HSS := Lib.hid hS
  have HNL := Lib.hid hNl
  have hsh := Shuffle_any g s v l w hs hl hlen
  rw [hS] at hsh
  have HSH := Lib.hid hsh
  clear hS hNl hsam hN2 hs hl hsl hsh
  go_enter Try.func40, Try.ntmps40
  go_upto_region 2 with (go_at_call 65; refine HSH.out.mono ?_; rintro e w1 ⟨v1, rfl, ho1, hb1⟩; have HO1 := Lib.hid ho1; have HB1 := Lib.hid hb1; clear ho1 hb1)
  obtain ⟨a1, c1, hv⟩ := HO1.out.ints.len
  obtain ⟨v2, hr2, hi2⟩ := HO1.out.ints.first N HNL.out
  subst hv
  have HI2 := Lib.hid hi2
  clear hi2
  have hcase : (N = 0 ∧ (k ≤ 0 ∨ S.length = 0)) ∨ (k = (N : Int) ∧ 0 < N ∧ N ≤ S.length) ∨ (N = S.length ∧ 0 < S.length ∧ (S.length : Int) < k) := by omega
  clear hN
  rcases hcase with ⟨rfl, h⟩ | ⟨rfl, h0, h1⟩ | ⟨rfl, h0, h1⟩
  · rw [show ((0 : Nat) : Int) = 0 from rfl] at hr2
    rcases h with h | h
    · have h1 : ¬ (S.length : Int) < k := by omega
      have h2 : ¬ 0 < k := by omega
      go_wp2
      go_ret
      exact ⟨_, rfl, HI2.out, HB1.out⟩
    · rw [h] at hr2 ⊢
      by_cases h2 : 0 < k
      · go_wp2
        go_ret
        exact ⟨_, rfl, HI2.out, HB1.out⟩
      · go_wp2
        go_ret
        exact ⟨_, rfl, HI2.out, HB1.out⟩
  · have h2 : ¬ S.length < N := by omega
    go_wp2
    go_ret
    exact ⟨_, rfl, HI2.out, HB1.out⟩
  · go_wp2
    go_ret
    exact ⟨_, rfl, HI2.out, HB1.out⟩

theorem DNew_any (s : Nat) (w : World) (hs : s < 18446744073709551616) :
    Calls Try.prog 39 #[.int .u64 (s : Int)] w fun e w' => ∃ g, e = .returned (.pointer (some ⟨g, 0, none⟩)) ∧ SrcO w' g s ∧ w.heap.size ≤ g ∧ Below w.heap.size w w' := by
  have hb : ∀ (x : Int) (w : World), (Instr.build 112 #[(0, .int .u64 x)]).run Try.prog w = .ok (.agg #[.int .u64 x]) w := fun x w => by kernel_rfl
  go_enter Try.func39, Try.ntmps39
  go_wp2
  go_ret
  refine ⟨_, rfl, ⟨?_, hs⟩, Nat.le_refl _, (Below.refl _ w).alloc (Nat.le_refl _) _⟩
  exact heap_alloc_new w _

end Go.Proofs.Ytnohglkilpnjhaa

/- The walks of the document's answer's Sample. No condition. -/
import Derived.Test.YtnohglkilpnjhaaTrRShuf
import Derived.Test.YtnohglkilpnjhaaTrSamp
namespace Go.Proofs.Ytnohglkilpnjhaa
open Go.RowKit
set_option linter.unusedVariables false
set_option linter.unusedSimpArgs false
set_option maxRecDepth 100000

set_option maxHeartbeats 1600000 in
theorem RSample_any (g s : Nat) (v : Value) (l : List Int) (k : Int) (w : World) (hs : RSrcO w g s) (hl : Ints w v l) (hlen : l.length ≤ 1000000) :
    Calls Try.prog 60 #[.pointer (some ⟨g, 0, none⟩), v, .int .i64 k] w fun e w' => ∃ v', e = .returned v' ∧ Ints w' v' (sampleL s l k) ∧ Kept (fun k => k ≠ g) w w' := by
  obtain ⟨N, hN, hN2, hNl⟩ := samp_num k l.length
  have hsl : (shufL s l).length = l.length := (shufL_perm s l).length_eq
  obtain ⟨S, hS⟩ : ∃ S, shufL s l = S := ⟨_, rfl⟩
  have hsam : sampleL s l k = S.take N := by unfold sampleL; rw [hS, hN2]
  rw [hsam]
  rw [hS] at hsl
  rw [← hsl] at hN hNl
  have HSS := Lib.hid hS
  have HNL := Lib.hid hNl
  have hsh := RShuffle_any g s v l w hs hl hlen
  rw [hS] at hsh
  have HSH := Lib.hid hsh
  clear hS hNl hsam hN2 hs hl hsl hsh
  go_enter Try.func60, Try.ntmps60
  go_upto_region 2 with (go_at_call 70; refine HSH.out.mono ?_; rintro e w1 ⟨v1, rfl, ho1, hb1⟩; have HO1 := Lib.hid ho1; have HB1 := Lib.hid hb1; clear ho1 hb1)
  obtain ⟨a1, c1, hv⟩ := HO1.out.ints.len
  obtain ⟨v2, hr2, hi2⟩ := HO1.out.ints.first N HNL.out
  subst hv
  have HI2 := Lib.hid hi2
  clear hi2
  have hcase : (N = 0 ∧ (k ≤ 0 ∨ S.length = 0)) ∨ (k = (N : Int) ∧ 0 < N ∧ N ≤ S.length) ∨ (N = S.length ∧ 0 < S.length ∧ (S.length : Int) < k) := by omega
  clear hN
  rcases hcase with ⟨rfl, h⟩ | ⟨rfl, h0, h1⟩ | ⟨rfl, h0, h1⟩
  · rw [show ((0 : Nat) : Int) = 0 from rfl] at hr2
    rcases h with h | h
    · have h1 : ¬ (S.length : Int) < k := by omega
      have h2 : ¬ 0 < k := by omega
      go_wp2
      go_ret
      exact ⟨_, rfl, HI2.out, HB1.out⟩
    · rw [h] at hr2 ⊢
      by_cases h2 : 0 < k
      · go_wp2
        go_ret
        exact ⟨_, rfl, HI2.out, HB1.out⟩
      · go_wp2
        go_ret
        exact ⟨_, rfl, HI2.out, HB1.out⟩
  · have h2 : ¬ S.length < N := by omega
    go_wp2
    go_ret
    exact ⟨_, rfl, HI2.out, HB1.out⟩
  · go_wp2
    go_ret
    exact ⟨_, rfl, HI2.out, HB1.out⟩

end Go.Proofs.Ytnohglkilpnjhaa

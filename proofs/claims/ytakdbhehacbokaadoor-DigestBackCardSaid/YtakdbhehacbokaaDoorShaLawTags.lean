/- The walk of the law DigestTags: it answers true. Condition: the table of constants as the program lays it. -/
import Derived.Test.YtakdbhehacbokaaDoorShaParts
import Derived.Test.YtakdbhehacbokaaDoorShaLawSums
namespace Go.Proofs.YtakdbhehacbokaaDoor
open Go.RowKit
set_option linter.unusedVariables false

theorem fewB_bounds {ps : List (List UInt8)} (h : fewB ps = true) : ps.length ≤ 40 ∧ ∀ p ∈ ps, p.length ≤ 2000 := by
  unfold fewB at h
  simp only [Bool.and_eq_true, decide_eq_true_eq, List.all_eq_true] at h
  exact h
theorem few_large {ps : List (List UInt8)} (h : ∀ p ∈ ps, p.length ≤ 2000) : ∀ p ∈ ps, p.length ≤ 1048576 := fun p hp => Nat.le_trans (h p hp) (by decide)

set_option maxRecDepth 100000 in
set_option maxHeartbeats 800000 in
theorem DigestTags_walk (tag : UInt8) (v : Value) (ps : List (List UInt8)) (w : World) (hp : PartsV w v ps) (hK : Consts w) :
    Calls Tryd.prog 5 #[.int .u8 (tag.toNat : Int), v] w fun e w' => e = .returned (.bool true) ∧ Below w.heap.size w w' := by
  obtain ⟨va, vc, hv⟩ := hp.len
  subst hv
  have HP := Lib.hid hp
  clear hp
  have heq := run_eql_dig_same (sumL (partsL tag ps)) (sumL_len _)
  have hgd := guard_dig
  go_enter Tryd.func5, Tryd.ntmps5
  go_wp2_with fail
  refine (awake_any w hK).mono ?_
  rintro e w1 ⟨rfl, hb1⟩
  go_wp2_with fail
  refine (few_any _ ps _ (HP.out.of_new hb1)).mono ?_
  rintro e w2 ⟨rfl, rfl⟩
  rcases hf : fewB ps with _ | _
  · go_wp2
    go_ret
    exact ⟨rfl, hb1⟩
  · obtain ⟨h40, hm⟩ := fewB_bounds hf
    have HM := Lib.hid (few_large hm)
    have HB := Lib.hid hb1
    clear hm hf
    go_wp2_with fail
    refine (Tagged_any tag _ ps _ (HP.out.of_new HB.out) h40 HM.out (hK.of_new HB.out)).mono ?_
    rintro e w3 ⟨rfl, hb3⟩
    have HB2 := Lib.hid (below_next HB.out hb3)
    clear hb3
    go_wp2_with fail
    refine (RTagged_any tag _ ps _ (HP.out.of_new HB2.out) h40 HM.out).mono ?_
    rintro e w4 ⟨rfl, hb4⟩
    have HB3 := Lib.hid (below_next HB2.out hb4)
    clear hb4
    go_wp2
    go_ret
    exact ⟨rfl, HB3.out⟩

end Go.Proofs.YtakdbhehacbokaaDoor

/- The walk of the law DigestSums: it answers true. Condition: the table of constants as the program lays it. -/
import Derived.Test.YtakdbhehacbokaaDoorShaAwake
import Derived.Test.YtakdbhehacbokaaDoorShaRefSum
import Derived.Test.YtakdbhehacbokaaDoorEql
namespace Go.Proofs.YtakdbhehacbokaaDoor
open Go.RowKit
set_option linter.unusedVariables false

theorem guard_dig : Tryd.prog.eqGuardType Tryd.prog.depth 25 = false := by kernel_rfl
/-- Two hashes compared. -/
theorem run_eql_dig (xs ys : List UInt8) (hx : xs.length = 32) (hy : ys.length = 32) (w : World) : (binOp .eql 25 (.agg (xs.map B8).toArray) (.agg (ys.map B8).toArray)).run Tryd.prog w = .ok (.bool (decide (xs = ys))) w :=
  run_eql_octs 25 5 xs ys (by omega) (by rw [hx]; exact Tryd.underlying25) Tryd.underlying5 (by kernel_rfl) (by kernel_rfl)
theorem run_neq_dig (xs ys : List UInt8) (hx : xs.length = 32) (hy : ys.length = 32) (w : World) : (binOp .neq 25 (.agg (xs.map B8).toArray) (.agg (ys.map B8).toArray)).run Tryd.prog w = .ok (.bool (!decide (xs = ys))) w :=
  run_neq_octs 25 5 xs ys (by omega) (by rw [hx]; exact Tryd.underlying25) Tryd.underlying5 (by kernel_rfl) (by kernel_rfl)
theorem run_eql_dig_same (xs : List UInt8) (hx : xs.length = 32) (w : World) : (binOp .eql 25 (.agg (xs.map B8).toArray) (.agg (xs.map B8).toArray)).run Tryd.prog w = .ok (.bool true) w := by
  rw [run_eql_dig xs xs hx hx]; simp

set_option maxRecDepth 100000 in
set_option maxHeartbeats 800000 in
theorem DigestSums_walk (v : Value) (l : List UInt8) (w : World) (hl : Bytes w v l) (hK : Consts w) :
    Calls Tryd.prog 3 #[v] w fun e w' => e = .returned (.bool true) ∧ Below w.heap.size w w' := by
  obtain ⟨a, cp, hv⟩ := hl.len
  subst hv
  have HL := Lib.hid hl
  have hle := hl.le
  clear hl
  go_enter Tryd.func3, Tryd.ntmps3
  go_wp2_with fail
  refine (awake_any w hK).mono ?_
  rintro e w1 ⟨rfl, hb1⟩
  by_cases hs : l.length ≤ 100000
  · have hs' : ¬ (100000 : Int) < (l.length : Int) := by omega
    have heq := run_eql_dig_same (sumL l) (sumL_len l)
    have hgd := guard_dig
    go_wp2_with fail
    refine (Sum_any _ l _ (HL.out.of_new hb1) (by omega) (hK.of_new hb1)).mono ?_
    rintro e w2 ⟨rfl, hb2⟩
    have hbA := below_next hb1 hb2
    clear hb1 hb2
    go_wp2_with fail
    refine (RSum_any _ l _ (HL.out.of_new hbA) (by omega)).mono ?_
    rintro e w3 ⟨rfl, hb3⟩
    have hbB := below_next hbA hb3
    clear hbA hb3
    go_wp2
    go_ret
    exact ⟨rfl, hbB⟩
  · have hs' : (100000 : Int) < (l.length : Int) := by omega
    go_wp2
    go_ret
    exact ⟨rfl, hb1⟩

end Go.Proofs.YtakdbhehacbokaaDoor

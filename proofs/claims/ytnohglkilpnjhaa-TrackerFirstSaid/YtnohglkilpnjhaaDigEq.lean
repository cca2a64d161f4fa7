/- Hashes compared; a part of a slice of hashes. No condition. -/
import Derived.Test.YtnohglkilpnjhaaAtIn
import Derived.Test.YtnohglkilpnjhaaEql
namespace Go.Proofs.Ytnohglkilpnjhaa
open Go.RowKit
set_option linter.unusedVariables false
set_option maxRecDepth 100000

theorem guard_dig : Try.prog.eqGuardType Try.prog.depth 30 = false := by kernel_rfl

/-- Two hashes compared. -/
theorem run_eql_dig (xs ys : List UInt8) (hx : xs.length = 32) (hy : ys.length = 32) (w : World) : (binOp .eql 30 (.agg (xs.map B8).toArray) (.agg (ys.map B8).toArray)).run Try.prog w = .ok (.bool (decide (xs = ys))) w :=
  run_eql_octs 30 5 xs ys (by omega) (by rw [hx]; exact Try.underlying30) Try.underlying5 (by kernel_rfl) (by kernel_rfl)
theorem run_neq_dig (xs ys : List UInt8) (hx : xs.length = 32) (hy : ys.length = 32) (w : World) : (binOp .neq 30 (.agg (xs.map B8).toArray) (.agg (ys.map B8).toArray)).run Try.prog w = .ok (.bool (!decide (xs = ys))) w :=
  run_neq_octs 30 5 xs ys (by omega) (by rw [hx]; exact Try.underlying30) Try.underlying5 (by kernel_rfl) (by kernel_rfl)
theorem run_eql_dig_same (xs : List UInt8) (hx : xs.length = 32) (w : World) : (binOp .eql 30 (.agg (xs.map B8).toArray) (.agg (xs.map B8).toArray)).run Try.prog w = .ok (.bool true) w := by
  rw [run_eql_dig xs xs hx hx]; simp

theorem Digs.part {w : World} {v : Value} {l : List (List UInt8)} (h : Digs w v l) (low high : Option Value) (lo hi : Nat) (h1 : lo ≤ hi) (h2 : hi ≤ l.length) (hlow : (low = Option.none ∧ lo = 0) ∨ ∃ k, low = some (.int k (lo : Int))) (hhigh : (high = Option.none ∧ hi = l.length) ∨ ∃ k, high = some (.int k (hi : Int))) :
    ∃ v', (∀ W : World, (Instr.slice 52 v low high Option.none).run Try.prog W = .ok v' W) ∧ Digs w v' ((l.drop lo).take (hi - lo)) ∧ v'.ownBlock = v.ownBlock := by
  obtain ⟨i, hi0, hz, hsize, hby⟩ := info_parts infoDig
  obtain ⟨v', hr, hrow, hob⟩ := Row.run_part h.2 Try.underlying52 hi0 hsize low high lo hi h1 h2 hlow hhigh
  refine ⟨v', hr, ⟨fun d hd => h.1 d (List.mem_of_mem_drop (List.mem_of_mem_take hd)), ?_⟩, hob⟩
  have e : ((l.drop lo).take (hi - lo)).length = hi - lo := by simp; omega
  have e2 : flatD ((l.drop lo).take (hi - lo)) = ((flatD l).drop (lo * 32)).take ((hi - lo) * 32) := by
    rw [flatD_take (fun d hd => h.1 d (List.mem_of_mem_drop hd)), flatD_drop h.1]
  rw [e, e2]
  exact hrow

end Go.Proofs.Ytnohglkilpnjhaa

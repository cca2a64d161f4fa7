/- Hashes compared; a part of a slice of hashes; two hashes in two blocks, or in one: what the walks of chapter 04 and above use. No condition. -/
import Derived.Test.YtnomekfemadpeaaDoorMrkRefRoot
import Derived.Test.YtnomekfemadpeaaDoorMrkProofPlain
import Derived.Test.YtnomekfemadpeaaDoorAtIn
import Derived.Test.YtnomekfemadpeaaDoorEql
namespace Go.Proofs.YtnomekfemadpeaaDoor
open Go.RowKit
set_option linter.unusedVariables false
set_option maxRecDepth 100000
set_option linter.unusedSimpArgs false

theorem guard_dig : Tryd.prog.eqGuardType Tryd.prog.depth 25 = false := by kernel_rfl

/-- Two hashes compared. -/
theorem run_eql_dig (xs ys : List UInt8) (hx : xs.length = 32) (hy : ys.length = 32) (w : World) : (binOp .eql 25 (.agg (xs.map B8).toArray) (.agg (ys.map B8).toArray)).run Tryd.prog w = .ok (.bool (decide (xs = ys))) w :=
  run_eql_octs 25 5 xs ys (by omega) (by rw [hx]; exact Tryd.underlying25) Tryd.underlying5 (by kernel_rfl) (by kernel_rfl)
theorem run_neq_dig (xs ys : List UInt8) (hx : xs.length = 32) (hy : ys.length = 32) (w : World) : (binOp .neq 25 (.agg (xs.map B8).toArray) (.agg (ys.map B8).toArray)).run Tryd.prog w = .ok (.bool (!decide (xs = ys))) w :=
  run_neq_octs 25 5 xs ys (by omega) (by rw [hx]; exact Tryd.underlying25) Tryd.underlying5 (by kernel_rfl) (by kernel_rfl)
theorem run_eql_dig_same (xs : List UInt8) (hx : xs.length = 32) (w : World) : (binOp .eql 25 (.agg (xs.map B8).toArray) (.agg (xs.map B8).toArray)).run Tryd.prog w = .ok (.bool true) w := by
  rw [run_eql_dig xs xs hx hx]; simp

/-- What Proof hands back. -/
def ProofPost (w : World) (p : List (List UInt8) × Int) (e : Ending) (w' : World) : Prop :=
  ∃ v, e = .returned (.tuple #[v, .int .i64 p.2]) ∧ OwnD w' w.heap.size v p.1 ∧ Below w.heap.size w w'

theorem Digs.part {w : World} {v : Value} {l : List (List UInt8)} (h : Digs w v l) (low high : Option Value) (lo hi : Nat) (h1 : lo ≤ hi) (h2 : hi ≤ l.length) (hlow : (low = Option.none ∧ lo = 0) ∨ ∃ k, low = some (.int k (lo : Int))) (hhigh : (high = Option.none ∧ hi = l.length) ∨ ∃ k, high = some (.int k (hi : Int))) :
    ∃ v', (∀ W : World, (Instr.slice 31 v low high Option.none).run Tryd.prog W = .ok v' W) ∧ Digs w v' ((l.drop lo).take (hi - lo)) ∧ v'.ownBlock = v.ownBlock := by
  obtain ⟨i, hi0, hz, hsize, hby⟩ := info_parts infoDig
  obtain ⟨v', hr, hrow, hob⟩ := Row.run_part h.2 Tryd.underlying31 hi0 hsize low high lo hi h1 h2 hlow hhigh
  refine ⟨v', hr, ⟨fun d hd => h.1 d (List.mem_of_mem_drop (List.mem_of_mem_take hd)), ?_⟩, hob⟩
  have e : ((l.drop lo).take (hi - lo)).length = hi - lo := by simp; omega
  have e2 : flatD ((l.drop lo).take (hi - lo)) = ((flatD l).drop (lo * 32)).take ((hi - lo) * 32) := by
    rw [flatD_take (fun d hd => h.1 d (List.mem_of_mem_drop hd)), flatD_drop h.1]
  rw [e, e2]
  exact hrow

theorem boxes_two (w : World) (x y : List UInt8) (hx : x.length = 32) (hy : y.length = 32) : DigAt ((w.alloc (.cells (x.map B8).toArray 25)).alloc (.cells (y.map B8).toArray 25)) w.heap.size 0 x ∧ DigAt ((w.alloc (.cells (x.map B8).toArray 25)).alloc (.cells (y.map B8).toArray 25)) (w.heap.size + 1) 0 y ∧ Below w.heap.size w ((w.alloc (.cells (x.map B8).toArray 25)).alloc (.cells (y.map B8).toArray 25)) := by
  refine ⟨Octs.digAt (t := 25) ((Below.heap_alloc _ _ _ (by simp)).trans (heap_alloc_new w _)) hx, Octs.digAt (t := 25) ?_ hy, ((Below.refl _ w).alloc (Nat.le_refl _) _).alloc (by simp) _⟩
  have := heap_alloc_new (w.alloc (.cells (x.map B8).toArray 25)) (.cells (y.map B8).toArray 25)
  rwa [World.size_alloc] at this

theorem pair_at {w : World} {g t : Nat} {x y : List UInt8} (h : w.heap[g]? = some (.cells ((x ++ y).map B8).toArray t (0, 0))) (hx : x.length = 32) (hy : y.length = 32) : DigAt w g 0 x ∧ DigAt w g 32 y := by
  refine ⟨⟨hx, fun j hj => ?_⟩, hy, fun j hj => ?_⟩
  · simp only [World.cell?, h, Nat.zero_add]
    simp [List.getElem?_append_left (show j < (x.map B8).length by simp [hx, hj])]
  · simp only [World.cell?, h]
    simp [List.getElem?_append_right (show (x.map B8).length ≤ 32 + j by simp [hx]), hx]


theorem rootL_len {l : List (List UInt8)} (h : Dig32 l) : (rootL l).length = 32 := by
  obtain ⟨n, hn⟩ : ∃ n, l.length ≤ n := ⟨_, Nat.le_refl _⟩
  induction n generalizing l with
  | zero => rw [rootL_none (by omega)]; exact noneL_len
  | succ n ih =>
    by_cases h0 : l.length = 0
    · rw [rootL_none h0]; exact noneL_len
    by_cases h1 : l.length = 1
    · rw [rootL_one h1]; exact h.getD (by omega)
    · rw [rootL_step (by omega)]
      exact ih (aboveL_32 l h) (by rw [aboveL_len]; omega)


end Go.Proofs.YtnomekfemadpeaaDoor

/- '==' and '!=' of peers. No condition. -/
import Derived.Test.YtnohglkilpnjhaaTrVal
import Derived.Test.YtnohglkilpnjhaaEqFields
namespace Go.Proofs.Ytnohglkilpnjhaa
open Go.RowKit
set_option linter.unusedVariables false
set_option linter.unusedSimpArgs false
set_option maxRecDepth 100000

theorem fields_peer : (Try.prog.fieldsOf 35).toList.map (fun f => (f.name, f.type, f.offset)) = [("Id", 3, 0), ("Until", 3, 1), ("Seed", 4, 2)] := by kernel_rfl
theorem run_equalIn_peer (d : Nat) (x y : PeerL) (w : World) : (Op.equalIn (d + 3) 35 (RPeer.V x) (RPeer.V y)).run Try.prog w = .ok (decide (x = y)) w := by
  show (Op.equalIn (d + 3) 35 (.agg #[.int .i64 x.id, .int .i64 x.till, .bool x.seed]) (.agg #[.int .i64 y.id, .int .i64 y.till, .bool y.seed])).run Try.prog w = _
  rw [run_equalIn_struct w (d + 2) 35 _ _ (by kernel_rfl) (by kernel_rfl)]
  have hai : (isAgg 3).run Try.prog w = .ok false w := by kernel_rfl
  have hab : (isAgg 4).run Try.prog w = .ok false w := by kernel_rfl
  have hi : ∀ a b : Int, (Op.equalIn (d + 2) 3 (.int .i64 a) (.int .i64 b)).run Try.prog w = .ok (a == b) w := fun a b => run_equalIn_int w (d + 1) 3 .i64 .i64 a b Try.underlying3
  have hbb : ∀ a b : Bool, (Op.equalIn (d + 2) 4 (.bool a) (.bool b)).run Try.prog w = .ok (a == b) w := fun a b => run_equalIn_bool w (d + 1) 4 a b Try.underlying4
  obtain ⟨g, hg⟩ : ∃ g : Nat → Bool, g = fun k => if k = 0 then x.id == y.id else if k = 1 then x.till == y.till else x.seed == y.seed := ⟨_, rfl⟩
  have hf := fields_peer
  generalize (Try.prog.fieldsOf 35).toList = fs at hf
  rw [eqFields_all g fs (fun f hfm => by
    have hm : (f.name, f.type, f.offset) ∈ fs.map (fun f => (f.name, f.type, f.offset)) := List.mem_map.2 ⟨f, hfm, rfl⟩
    rw [hf] at hm
    simp only [List.mem_cons, Prod.mk.injEq, List.not_mem_nil, or_false] at hm
    rcases hm with ⟨h1, h2, h3⟩ | ⟨h1, h2, h3⟩ | ⟨h1, h2, h3⟩
    · rw [h1, h2, h3, hg]; exact ⟨by decide, .int .i64 x.id, .int .i64 y.id, by simp [part, Sem.run_bind, hai, Sem.run_pure], by simp [part, Sem.run_bind, hai, Sem.run_pure], hi _ _⟩
    · rw [h1, h2, h3, hg]; exact ⟨by decide, .int .i64 x.till, .int .i64 y.till, by simp [part, Sem.run_bind, hai, Sem.run_pure], by simp [part, Sem.run_bind, hai, Sem.run_pure], hi _ _⟩
    · rw [h1, h2, h3, hg]; exact ⟨by decide, .bool x.seed, .bool y.seed, by simp [part, Sem.run_bind, hab, Sem.run_pure], by simp [part, Sem.run_bind, hab, Sem.run_pure], hbb _ _⟩)]
  have e : (fs.all fun f => g f.offset) = (fs.map (fun f => (f.name, f.type, f.offset))).all (fun q => g q.2.2) := by rw [List.all_map]; rfl
  rw [e, hf, hg]
  congr 1
  obtain ⟨a, b, c⟩ := x
  obtain ⟨a', b', c'⟩ := y
  rw [Bool.eq_iff_iff]
  simp
theorem run_eql_peer (x y : PeerL) (w : World) : (binOp .eql 35 (RPeer.V x) (RPeer.V y)).run Try.prog w = .ok (.bool (decide (x = y))) w := by
  have := run_equalIn_peer 9997 x y w
  show (binOp .eql 35 (.agg (RPeer.cells x).toArray) (.agg (RPeer.cells y).toArray)).run Try.prog w = _
  rw [run_eql_struct]
  exact congrArg (fun r => Result.andThen r fun b w' => .ok (Value.bool b) w') this
theorem run_neq_peer (x y : PeerL) (w : World) : (binOp .neq 35 (RPeer.V x) (RPeer.V y)).run Try.prog w = .ok (.bool (!decide (x = y))) w := by
  have := run_equalIn_peer 9997 x y w
  show (binOp .neq 35 (.agg (RPeer.cells x).toArray) (.agg (RPeer.cells y).toArray)).run Try.prog w = _
  rw [run_neq_struct]
  exact congrArg (fun r => Result.andThen r fun b w' => .ok (Value.bool (!b)) w') this
theorem guard_peer : Try.prog.eqGuardType Try.prog.depth 35 = false := by kernel_rfl
theorem run_guard_peer (op : BinOp) (x y : Operand) (a b : PeerL) (w : World) : (eqGuard op 35 x y (RPeer.V a) (RPeer.V b)).run Try.prog w = .ok () w := run_eqGuard_agg (P := Try.prog) w op 35 x y (RPeer.cells a).toArray (RPeer.cells b).toArray guard_peer

end Go.Proofs.Ytnohglkilpnjhaa

/- Laws of Go's '==' between two arrays. Condition: each place's parts are compared in the world as it is. -/
import Derived.Test.YtnohglkilpnjhaaBase
import Derived.Laws.StructEq
namespace Go.Proofs.Ytnohglkilpnjhaa
open Go.RowKit
set_option linter.unusedVariables false

theorem run_forIn_all {P : Program} {w : World} (g : Nat → (ForInStep (Option Bool × Unit) → Sem (ForInStep (Option Bool × Unit))) → Sem (ForInStep (Option Bool × Unit))) (f : Nat → Bool) (l : List Nat)
    (h : ∀ i ∈ l, (g i pure).run P w = .ok (if f i then .yield (none, ()) else .done (some false, ())) w) :
    (forIn (m := Sem) l ((none, ()) : Option Bool × Unit) (fun i _ => g i pure)).run P w = .ok (if l.all f then (none, ()) else (some false, ())) w := by
  induction l with
  | nil => rfl
  | cons i l ih =>
    have hi := h i (by simp)
    simp only [List.forIn_cons, Sem.run_bind, hi, Result.andThen_ok]
    cases hfi : f i
    · simp [hfi, Sem.run_pure]
    · simp only [if_true, List.all_cons, hfi, Bool.true_and]
      exact ih (fun j hj => h j (by simp [hj]))

theorem run_equalIn_array {P : Program} {w : World} (d : Nat) (t e : TypeId) (n sz : Nat) (xs ys : Array Value) (f : Nat → Bool) (ht : P.underlying t = some (.array n e)) (hsz : (sizeOf e).run P w = .ok sz w)
    (hf : ∀ i, i < n → ∃ a b, (part e xs (i * sz)).run P w = .ok a w ∧ (part e ys (i * sz)).run P w = .ok b w ∧ (Op.equalIn d e a b).run P w = .ok (f i) w) :
    (Op.equalIn (d + 1) t (.agg xs) (.agg ys)).run P w = .ok ((List.range n).all f) w := by
  simp only [Op.equalIn, Sem.run_bind, run_underlying ht, Result.andThen_ok, hsz]
  simp only [Std.Legacy.Range.forIn_eq_forIn_range', Std.Legacy.Range.size, Nat.sub_zero, Nat.add_one_sub_one, Nat.div_one, ← List.range_eq_range']
  have := run_forIn_all (P := P) (w := w) (fun i _ => do
      let a ← part e xs (i * sz)
      let b ← part e ys (i * sz)
      let r ← Op.equalIn d e a b
      if (!r) = true then pure (ForInStep.done (some false, ())) else pure (ForInStep.yield (none, ()))) f (List.range n) (fun i hi => by
    obtain ⟨a, b, h1, h2, h3⟩ := hf i (List.mem_range.1 hi)
    simp only [Sem.run_bind, h1, h2, h3, Result.andThen_ok]
    cases f i <;> simp [Sem.run_pure])
  rw [this]
  simp only [Result.andThen_ok]
  cases (List.range n).all f <;> rfl

theorem all_eq_beq (xs ys : List UInt8) (h : xs.length = ys.length) : (List.range xs.length).all (fun i => xs.getD i 0 == ys.getD i 0) = decide (xs = ys) := by
  rw [Bool.eq_iff_iff]
  simp only [List.all_eq_true, List.mem_range, beq_iff_eq, decide_eq_true_eq]
  constructor
  · intro hh
    apply List.ext_getElem h
    intro i h1 h2
    have := hh i h1
    simpa [List.getD_eq_getElem?_getD, List.getElem?_eq_getElem h1, List.getElem?_eq_getElem h2] using this
  · rintro rfl i _; rfl

/-- Two arrays of bytes. -/
theorem run_equalIn_octs {P : Program} {w : World} (d : Nat) (t e : TypeId) (xs ys : List UInt8) (h : xs.length = ys.length) (ht : P.underlying t = some (.array xs.length e)) (he : P.underlying e = some (.int .u8)) (hsz : (sizeOf e).run P w = .ok 1 w) (hag : (isAgg e).run P w = .ok false w) :
    (Op.equalIn (d + 2) t (.agg (xs.map B8).toArray) (.agg (ys.map B8).toArray)).run P w = .ok (decide (xs = ys)) w := by
  rw [← all_eq_beq xs ys h]
  have hp : ∀ (l : List UInt8) i, i < l.length → (part e (l.map B8).toArray (i * 1)).run P w = .ok (B8 (l.getD i 0)) w := fun l i hi => by
    simp only [part, Sem.run_bind, hag, Result.andThen_ok, Bool.false_eq_true, if_false, Nat.mul_one]
    simp [List.getElem?_eq_getElem hi, Sem.run_pure, List.getD_eq_getElem?_getD]
  refine run_equalIn_array (d + 1) t e xs.length 1 _ _ _ ht hsz (fun i hi => ⟨_, _, hp xs i hi, hp ys i (by omega), ?_⟩)
  unfold B8
  rw [run_equalIn_int w d e .u8 .u8 _ _ he]
  congr 1
  rw [Bool.eq_iff_iff]
  simp only [beq_iff_eq]
  constructor
  · intro q; exact UInt8.toNat_inj.1 (by omega)
  · intro q; rw [q]

/-- Two hashes. -/
theorem run_eql_octs {P : Program} {w : World} (t e : TypeId) (xs ys : List UInt8) (h : xs.length = ys.length) (ht : P.underlying t = some (.array xs.length e)) (he : P.underlying e = some (.int .u8)) (hsz : (sizeOf e).run P w = .ok 1 w) (hag : (isAgg e).run P w = .ok false w) :
    (binOp .eql t (.agg (xs.map B8).toArray) (.agg (ys.map B8).toArray)).run P w = .ok (.bool (decide (xs = ys))) w := by
  rw [run_eql_struct, run_equalIn_octs 9998 t e xs ys h ht he hsz hag]; rfl
theorem run_neq_octs {P : Program} {w : World} (t e : TypeId) (xs ys : List UInt8) (h : xs.length = ys.length) (ht : P.underlying t = some (.array xs.length e)) (he : P.underlying e = some (.int .u8)) (hsz : (sizeOf e).run P w = .ok 1 w) (hag : (isAgg e).run P w = .ok false w) :
    (binOp .neq t (.agg (xs.map B8).toArray) (.agg (ys.map B8).toArray)).run P w = .ok (.bool (!decide (xs = ys))) w := by
  rw [run_neq_struct, run_equalIn_octs 9998 t e xs ys h ht he hsz hag]; rfl

end Go.Proofs.Ytnohglkilpnjhaa

/- Operations on hashes, told of one operation, and of a list in a round. No condition. -/
import Derived.Test.YtnohglkilpnjhaaAt
import Derived.Test.YtnohglkilpnjhaaRegionIn
import Derived.OneCell
namespace Go.Proofs.Ytnohglkilpnjhaa
open Go.RowKit
set_option linter.unusedVariables false
set_option maxRecDepth 100000
set_option linter.unusedSimpArgs false

theorem wp_load_at {w : World} {op : Oper} {a : Act} {K : Act → World → Prop} {Q : Exit → Act → World → Prop} {ty : TypeId} {x : Operand} {g off : Nat} {d : List UInt8} (ho : op.op = .load 30 x)
    (hx : a.eval x = .pointer (some ⟨g, off, none⟩)) (hd : DigAt w g off d) (h : K (a.put op.dst (.agg (d.map B8).toArray)) w) : op.wp Try.prog a w K Q := by
  have := run_load_dig w g off d hd.1 hd.2
  unfold Oper.wp execOp
  simp only [ho, hx, Instr.loadAt, Instr.sureAddr, Sem.run_bind, Sem.run_pure, Result.andThen_ok, this]
  exact h

theorem wp_buildDigs {w : World} {op : Oper} {a : Act} {K : Act → World → Prop} {Q : Exit → Act → World → Prop} (n : Nat) (parts : Array (Nat × Operand)) (ds : List (List UInt8)) (ho : op.op = .buildSlice 52 n parts)
    (hn : n = ds.length) (h0 : 0 < ds.length) (h1 : ds.length ≤ 1000) (h32 : Dig32 ds) (hp : (parts.map fun (i, x) => (i, a.eval x)).toList = ((ds.map fun d => Value.agg (d.map B8).toArray).zipIdx 0).map fun x => (x.2, x.1))
    (h : ∀ w', OwnD w' w.heap.size (.slice (some ⟨w.heap.size, 0, none⟩) n n) ds → Below w.heap.size w w' → w'.heap.size = w.heap.size + 1 → K (a.put op.dst (.slice (some ⟨w.heap.size, 0, none⟩) n n)) w') : op.wp Try.prog a w K Q := by
  obtain ⟨i, hi, hz, hsize, hby⟩ := info_parts infoDig
  subst hn
  refine wp_buildSlice 52 30 ds.length parts ho (flatD ds).toArray i _ Try.underlying52 hi hz (by rw [hsize]; omega) (by rw [hsize]; omega) ?_ (h _ (digs_laid w ds h32 (by unfold maxLen; omega)) ((Below.refl _ w).alloc (Nat.le_refl _) _) (by simp))
  rw [hp, hsize]
  rw [Great.fill_whole (by omega) _ _ (fun v hv => by
    obtain ⟨d, hd, rfl⟩ := List.mem_map.1 hv
    simp [Value.cells, h32 d hd]) (by simp)]
  congr 1
  simp [flatD, List.flatMap_map, Value.cells]

theorem wp_appD {w : World} {o : Oper} {a : Act} {K : Act → World → Prop} {Q : Exit → Act → World → Prop} (s x : Operand)
    (ho : o.op = .call { callee := .builtin .append, args := #[s, x], argTypes := #[52, 52] }) (base : Nat)
    (v : Value) (l : List (List UInt8)) (hs : a.eval s = v) (hown : OwnD w base v l) (u : Value) (m : List (List UInt8)) (hx : a.eval x = u) (hm : Digs w u m)
    (hlen : l.length + m.length ≤ 1099511627776) (hbase : base ≤ w.heap.size)
    (h : ∀ v' w', OwnD w' base v' (l ++ m) → w.grownBy w' v.ownBlock → (∀ k, v'.ownBlock = some k → v.ownBlock = some k ∨ w.heap.size ≤ k) → K (a.put o.dst v') w') : o.wp Try.prog a w K Q := by
  obtain ⟨v', w', hr, h2, h3, h4⟩ := run_appD base 52 o.type Try.underlying52 v l hown u m hm hlen hbase
  unfold Oper.wp execOp
  simp only [ho, resolve, invoke, builtin, Sem.run_bind, Sem.run_pure, Result.andThen_ok, List.map_toArray, List.map_cons, List.map_nil, hs, hx, hr]
  exact h v' w' h2 h3 h4

theorem OwnD.kept {w w' : World} {base : Nat} {v : Value} {l : List (List UInt8)} {U : Nat → Prop} (h : OwnD w base v l) (hk : ∀ k, v.ownBlock = some k → w'.heap[k]? = w.heap[k]?) : OwnD w' base v l := by
  refine ⟨h.1, h.2.1, ?_⟩
  rcases h.2.2 with h | ⟨g, cap, cur, hv, hb, hh, hr⟩
  · exact .inl h
  · exact .inr ⟨g, cap, cur, hv, hb, (hk g (by rw [hv]; rfl)).trans hh, hr⟩

theorem OwnD.grown {w w' : World} {base : Nat} {v : Value} {l : List (List UInt8)} {row : Option Nat} (h : OwnD w base v l) (hg : w.grownBy w' row) (hr : ∀ k, v.ownBlock = some k → some k ≠ row) : OwnD w' base v l :=
  h.kept (U := fun _ => True) (fun k hk => hg.block _ (h.lt k hk).2 (hr k hk))

end Go.Proofs.Ytnohglkilpnjhaa

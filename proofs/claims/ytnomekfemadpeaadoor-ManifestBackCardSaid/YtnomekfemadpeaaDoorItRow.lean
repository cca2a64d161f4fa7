/- Rows of items (api.Item): their cells; an append of an item whose bytes lie anywhere but in the row. No condition. -/
import Derived.Test.YtnomekfemadpeaaDoorItems
import Derived.Test.YtnomekfemadpeaaDoorGa
import Derived.Maps.AppendAt
import Derived.Great.BuildSlice
namespace Go.Proofs.YtnomekfemadpeaaDoor
open Go.RowKit
set_option linter.unusedVariables false
set_option linter.unusedSimpArgs false

/-- An item and the value of its bytes. -/
abbrev ItV := It × Value

def flatI (l : List ItV) : List Value := l.flatMap fun x => [.int .i64 x.1.1, x.2]
theorem flatI_len (l : List ItV) : (flatI l).length = l.length * 2 := by
  induction l with
  | nil => rfl
  | cons x l ih => simp only [flatI, List.flatMap_cons, List.length_append, List.length_cons, List.length_nil] at *; omega
theorem flatI_snoc (l : List ItV) (x : ItV) : flatI (l ++ [x]) = flatI l ++ [.int .i64 x.1.1, x.2] := by simp [flatI]
theorem flatI_at {l : List ItV} {i : Nat} (hi : i < l.length) : (flatI l)[i * 2]? = some (.int .i64 (l.getD i ((0, []), undef)).1.1) ∧ (flatI l)[i * 2 + 1]? = some (l.getD i ((0, []), undef)).2 := by
  induction l generalizing i with
  | nil => simp at hi
  | cons x l ih =>
    cases i with
    | zero => simp [flatI]
    | succ i =>
      simp only [List.length_cons] at hi
      have := ih (i := i) (by omega)
      simp only [flatI, List.flatMap_cons, List.getD_cons_succ] at this ⊢
      rw [List.getElem?_append_right (by simp; omega), List.getElem?_append_right (by simp; omega)]
      simp only [List.length_cons, List.length_nil]
      rw [show (i + 1) * 2 - (0 + 1 + 1) = i * 2 by omega, show (i + 1) * 2 + 1 - (0 + 1 + 1) = i * 2 + 1 by omega]
      exact this

theorem infoItem : (Tryd.prog.info? 79).map (fun i => (i.zero, i.size, i.bytes)) = some (some (.agg #[.int .i64 0, .slice none 0 0]), 2, 32) := by kernel_rfl

/-- The slice v of items is the call's own; the items' bytes lie elsewhere. -/
def OwnIt (w : World) (base : Nat) (v : Value) (l : List ItV) : Prop := w.ownsRow base 79 2 v l.length (flatI l) ∧ ∀ x ∈ l, Bytes w x.2 x.1.2 ∧ ∀ k, x.2.ownBlock = some k → k < w.heap.size ∧ v.ownBlock ≠ some k
theorem OwnIt.nil (w : World) (base : Nat) : OwnIt w base (.slice none 0 0) [] := ⟨World.ownsRow_nil _ _ _ _, fun _ h => by cases h⟩
theorem OwnIt.lt {w : World} {base : Nat} {v : Value} {l : List ItV} (h : OwnIt w base v l) : ∀ k, v.ownBlock = some k → base ≤ k ∧ k < w.heap.size := World.ownsRow.lt h.1
theorem OwnIt.len {w : World} {base : Nat} {v : Value} {l : List ItV} (h : OwnIt w base v l) : ∃ a c, v = .slice a l.length c := by
  rcases h.1.2 with ⟨h1, h2⟩ | ⟨g, cap, cur, rfl, _⟩
  · rw [h1, show l.length = 0 by omega]; exact ⟨_, _, rfl⟩
  · exact ⟨_, _, rfl⟩
theorem OwnIt.items {w : World} {base : Nat} {v : Value} {l : List ItV} (h : OwnIt w base v l) : Items w v (l.map (·.1)) := by
  obtain ⟨h1, a, c, rfl, h2, h3, h4, h5⟩ := Row.of_owns h.1
  refine ⟨a, c, by simp, by simpa using h2, h3, h4, fun h0 => ?_⟩
  have h0' : 0 < l.length := by simpa using h0
  obtain ⟨b, off, rfl, hb, hc⟩ := h5 (by omega)
  refine ⟨b, off, rfl, hb, fun i hi => ?_⟩
  have hi' : i < l.length := by simpa using hi
  obtain ⟨f1, f2⟩ := flatI_at hi'
  have e : (l.map (·.1)).getD i (0, []) = (l.getD i ((0, []), undef)).1 := by simp [List.getD, hi']
  rw [e]
  refine ⟨(hc _ (by omega)).trans f1, _, (by rw [Nat.add_assoc]; exact (hc _ (by omega)).trans f2), ?_⟩
  have hm : l.getD i ((0, []), undef) ∈ l := by
    rw [List.getD_eq_getElem?_getD, List.getElem?_eq_getElem hi']; exact List.getElem_mem hi'
  exact (h.2 _ hm).1
theorem OwnIt.of_new {w w' : World} {base : Nat} {v : Value} {l : List ItV} (h : OwnIt w base v l) (hb : Below w.heap.size w w') : OwnIt w' base v l := by
  refine ⟨⟨h.1.1, ?_⟩, fun x hx => ⟨(h.2 x hx).1.of_new hb, fun k hk => ⟨Nat.lt_of_lt_of_le ((h.2 x hx).2 k hk).1 hb.size, ((h.2 x hx).2 k hk).2⟩⟩⟩
  rcases h.1.2 with h2 | ⟨g, cap, cur, hv, hbs, hh, hr⟩
  · exact .inl h2
  · exact .inr ⟨g, cap, cur, hv, hbs, (hb.block g (Array.getElem?_eq_some_iff.1 hh).1).trans hh, hr⟩

/-- 'append(out, x)' of an item, out the call's own. -/
theorem run_appIt {w : World} (base ty : Nat) (v : Value) (l : List ItV) (x : ItV) (hown : OwnIt w base v l) (hx : Bytes w x.2 x.1.2) (hxk : ∀ k, x.2.ownBlock = some k → k < w.heap.size ∧ v.ownBlock ≠ some k) (g : Nat)
    (hg : w.heap[g]? = some (.cells #[.int .i64 x.1.1, x.2] 79 (0, 0))) (hlen : l.length + 1 ≤ 1099511627776) (hbase : base ≤ w.heap.size) :
    ∃ v' w', (Builtin.append_ #[74, 74] ty #[v, .slice (some ⟨g, 0, none⟩) 1 1]).run Tryd.prog w = .ok v' w' ∧ OwnIt w' base v' (l ++ [x]) ∧ w.grownBy w' v.ownBlock ∧ (∀ k, v'.ownBlock = some k → v.ownBlock = some k ∨ w.heap.size ≤ k) := by
  obtain ⟨i, hi, hz, hsize, hby⟩ := info_parts infoItem
  obtain ⟨v', w', h1, h2, h3, _, h5⟩ := run_append_own_at (P := Tryd.prog) w base 74 ty 79 i _ 2 32 Tryd.underlying74 hi hz hsize hby (by simp [Value.cells]) (by decide) v l.length (flatI l) hown.1 ⟨g, 0, none⟩ 1 1 [.int .i64 x.1.1, x.2] (by simp)
    (fun j u hj => by
      have hjl : j < 2 := by
        rcases Nat.lt_or_ge j 2 with h | h
        · exact h
        · rw [List.getElem?_eq_none (by simpa using h)] at hj; cases hj
      have hadd : (⟨g, 0, none⟩ : Addr).add j = ⟨g, j, none⟩ := by unfold Addr.add; split <;> simp_all
      rw [hadd]
      simp only [World.cell?, hg]
      match j, hjl with
      | 0, _ => simpa using hj
      | 1, _ => simpa using hj)
    (fun u hu => by
      obtain ⟨a, c, he⟩ := hx.len
      simp at hu
      rcases hu with rfl | rfl
      · rfl
      · rw [he]; rfl) (by unfold maxLen; omega) (by omega) hbase
  have hnew : ∀ k, v'.ownBlock = some k → v.ownBlock = some k ∨ w.heap.size ≤ k := by
    intro k hk
    rcases h5 with h5 | h5
    · exact .inl (by rw [← h5]; exact hk)
    · rw [h5] at hk; cases hk; exact .inr (Nat.le_refl _)
  have one : ∀ y : ItV, Bytes w y.2 y.1.2 → (∀ k, y.2.ownBlock = some k → k < w.heap.size ∧ v.ownBlock ≠ some k) → Bytes w' y.2 y.1.2 ∧ ∀ k, y.2.ownBlock = some k → k < w'.heap.size ∧ v'.ownBlock ≠ some k := fun y hy hyk =>
    ⟨Row.of_kept hy h3 (fun k hk e => (hyk k hk).2 e.symm), fun k hk => ⟨Nat.lt_of_lt_of_le (hyk k hk).1 h3.size, fun e => by
      rcases hnew k e with h | h
      · exact (hyk k hk).2 h
      · have := (hyk k hk).1; omega⟩⟩
  refine ⟨v', w', h1, ⟨?_, ?_⟩, h3, hnew⟩
  · rw [flatI_snoc, List.length_append]; exact h2
  · intro y hy
    rcases List.mem_append.1 hy with hy | hy
    · exact one y (hown.2 y hy).1 (hown.2 y hy).2
    · have : y = x := by simpa using hy
      subst this
      exact one y hx hxk

theorem wp_appIt {w : World} {o : Oper} {a : Act} {K : Act → World → Prop} {Q : Exit → Act → World → Prop} (s y : Operand)
    (ho : o.op = .call { callee := .builtin .append, args := #[s, y], argTypes := #[74, 74] }) (base : Nat)
    (v : Value) (l : List ItV) (x : ItV) (g : Nat) (hs : a.eval s = v) (hown : OwnIt w base v l) (hy : a.eval y = .slice (some ⟨g, 0, none⟩) 1 1) (hx : Bytes w x.2 x.1.2) (hxk : ∀ k, x.2.ownBlock = some k → k < w.heap.size ∧ v.ownBlock ≠ some k)
    (hg : w.heap[g]? = some (.cells #[.int .i64 x.1.1, x.2] 79 (0, 0)))
    (hlen : l.length + 1 ≤ 1099511627776) (hbase : base ≤ w.heap.size)
    (h : ∀ v' w', OwnIt w' base v' (l ++ [x]) → w.grownBy w' v.ownBlock → (∀ k, v'.ownBlock = some k → v.ownBlock = some k ∨ w.heap.size ≤ k) → K (a.put o.dst v') w') : o.wp Tryd.prog a w K Q := by
  obtain ⟨v', w', hr, h2, h3, h4⟩ := run_appIt base o.type v l x hown hx hxk g hg hlen hbase
  unfold Oper.wp execOp
  simp only [ho, resolve, invoke, builtin, Sem.run_bind, Sem.run_pure, Result.andThen_ok, List.map_toArray, List.map_cons, List.map_nil, hs, hy, hr]
  exact h v' w' h2 h3 h4
theorem wpList_appIt {w : World} {ops : Array Oper} {rest : List Oper} {o : Oper} {a : Act} {Q : Exit → Act → World → Prop} (hgd : o.guard = none) (s y : Operand)
    (ho : o.op = .call { callee := .builtin .append, args := #[s, y], argTypes := #[74, 74] }) (base : Nat)
    (v : Value) (l : List ItV) (x : ItV) (g : Nat) (hs : a.eval s = v) (hown : OwnIt w base v l) (hy : a.eval y = .slice (some ⟨g, 0, none⟩) 1 1) (hx : Bytes w x.2 x.1.2) (hxk : ∀ k, x.2.ownBlock = some k → k < w.heap.size ∧ v.ownBlock ≠ some k)
    (hg : w.heap[g]? = some (.cells #[.int .i64 x.1.1, x.2] 79 (0, 0)))
    (hlen : l.length + 1 ≤ 1099511627776) (hbase : base ≤ w.heap.size)
    (h : ∀ v' w', OwnIt w' base v' (l ++ [x]) → w.grownBy w' v.ownBlock → (∀ k, v'.ownBlock = some k → v.ownBlock = some k ∨ w.heap.size ≤ k) → wpList Tryd.prog ops Q rest (a.put o.dst v') w') : wpList Tryd.prog ops Q (o :: rest) a w :=
  wpList_plain hgd fun K hK => wp_appIt s y ho base v l x g hs hown hy hx hxk hg hlen hbase fun v' w' h1 h2 h3 => hK _ _ (h v' w' h1 h2 h3)

end Go.Proofs.YtnomekfemadpeaaDoor

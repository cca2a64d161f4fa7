/- The walk of tlv.Decode. Condition: none beyond the argument's reading. -/
import Derived.Test.YtnomekfemadpeaaDoorTlvItems
import Derived.Test.YtnomekfemadpeaaDoorItRow
import Derived.Test.YtnomekfemadpeaaDoorSeqVar
import Derived.Maps.AppendAt
import Derived.Great.BuildSlice
namespace Go.Proofs.YtnomekfemadpeaaDoor
open Go.RowKit Go.Shelf
attribute [local go_sem] Oper.semAt_some
set_option linter.unusedVariables false
set_option linter.unusedSimpArgs false

/-- The slice v of items is the call's own, and so are the items' bytes. -/
def OwnI (w : World) (base : Nat) (v : Value) (l : List ItV) : Prop := w.ownsRow base 79 2 v l.length (flatI l) ∧ ∀ x ∈ l, Own8 w base 5 x.2 x.1.2
theorem OwnI.nil (w : World) (base : Nat) : OwnI w base (.slice none 0 0) [] := ⟨World.ownsRow_nil _ _ _ _, fun _ h => by cases h⟩
theorem OwnI.lt {w : World} {base : Nat} {v : Value} {l : List ItV} (h : OwnI w base v l) : ∀ k, v.ownBlock = some k → base ≤ k ∧ k < w.heap.size := World.ownsRow.lt h.1
theorem OwnI.len {w : World} {base : Nat} {v : Value} {l : List ItV} (h : OwnI w base v l) : ∃ a c, v = .slice a l.length c := by
  rcases h.1.2 with ⟨h1, h2⟩ | ⟨g, cap, cur, rfl, _⟩
  · rw [h1, show l.length = 0 by omega]; exact ⟨_, _, rfl⟩
  · exact ⟨_, _, rfl⟩
theorem OwnI.items {w : World} {base : Nat} {v : Value} {l : List ItV} (h : OwnI w base v l) : Items w v (l.map (·.1)) := by
  obtain ⟨h1, a, c, rfl, h2, h3, h4, h5⟩ := Row.of_owns h.1
  refine ⟨a, c, by simp, by simpa using h2, h3, h4, fun h0 => ?_⟩
  have h0' : 0 < l.length := by simpa using h0
  obtain ⟨b, off, rfl, hb, hc⟩ := h5 (by omega)
  refine ⟨b, off, rfl, hb, fun i hi => ?_⟩
  have hi' : i < l.length := by simpa using hi
  obtain ⟨f1, f2⟩ := flatI_at hi'
  have e : (l.map (·.1)).getD i (0, []) = (l.getD i ((0, []), undef)).1 := by simp [List.getD, hi']
  rw [e]
  refine ⟨(hc _ (by omega)).trans f1, _, (by rw [Nat.add_assoc]; exact (hc _ (by omega)).trans f2), ?_⟩
  have hm : l.getD i ((0, []), undef) ∈ l := by
    rw [List.getD_eq_getElem?_getD, List.getElem?_eq_getElem hi']; exact List.getElem_mem hi'
  exact (h.2 _ hm).bytes
theorem Own8.blk {w w' : World} {base e : Nat} {v : Value} {l : List UInt8} (h : Own8 w base e v l) (hk : ∀ k, v.ownBlock = some k → w'.heap[k]? = w.heap[k]?) : Own8 w' base e v l := by
  refine ⟨h.1, ?_⟩
  rcases h.2 with h | ⟨g, cap, cur, hv, hb, hh, hr⟩
  · exact .inl h
  · exact .inr ⟨g, cap, cur, hv, hb, (hk g (by rw [hv]; rfl)).trans hh, hr⟩
/-- It stays, while only other blocks are written. -/
theorem OwnI.keep {w w' : World} {base : Nat} {v : Value} {l : List ItV} (h : OwnI w base v l) (hk : ∀ k, base ≤ k → k < w.heap.size → w'.heap[k]? = w.heap[k]?) : OwnI w' base v l := by
  refine ⟨⟨h.1.1, ?_⟩, fun x hx => (h.2 x hx).blk fun k hk2 => hk k ((h.2 x hx).lt k hk2).1 ((h.2 x hx).lt k hk2).2⟩
  rcases h.1.2 with h2 | ⟨g, cap, cur, hv, hb, hh, hr⟩
  · exact .inl h2
  · exact .inr ⟨g, cap, cur, hv, hb, (hk g hb (Array.getElem?_eq_some_iff.1 hh).1).trans hh, hr⟩


/-- 'append(out, x)' of an item, out the call's own. -/
theorem run_appI {w : World} (base ty : Nat) (v : Value) (l : List ItV) (x : ItV) (hown : OwnI w base v l) (hx : Own8 w base 5 x.2 x.1.2) (g : Nat) (hg : w.heap[g]? = some (.cells #[.int .i64 x.1.1, x.2] 79 (0, 0))) (hlen : l.length + 1 ≤ 1099511627776) (hbase : base ≤ w.heap.size) :
    ∃ v' w', (Builtin.append_ #[74, 74] ty #[v, .slice (some ⟨g, 0, none⟩) 1 1]).run Tryd.prog w = .ok v' w' ∧ OwnI w' base v' (l ++ [x]) ∧ w.grownBy w' v.ownBlock ∧ (∀ k, v'.ownBlock = some k → v.ownBlock = some k ∨ w.heap.size ≤ k) := by
  obtain ⟨i, hi, hz, hsize, hby⟩ := info_parts infoItem
  obtain ⟨v', w', h1, h2, h3, _, h5⟩ := run_append_own_at (P := Tryd.prog) w base 74 ty 79 i _ 2 32 Tryd.underlying74 hi hz hsize hby (by simp [Value.cells]) (by decide) v l.length (flatI l) hown.1 ⟨g, 0, none⟩ 1 1 [.int .i64 x.1.1, x.2] (by simp)
    (fun j u hj => by
      have hjl : j < 2 := by
        rcases Nat.lt_or_ge j 2 with h | h
        · exact h
        · rw [List.getElem?_eq_none (by simpa using h)] at hj; cases hj
      have hadd : (⟨g, 0, none⟩ : Addr).add j = ⟨g, j, none⟩ := by unfold Addr.add; split <;> simp_all
      rw [hadd]
      simp only [World.cell?, hg]
      match j, hjl with
      | 0, _ => simpa using hj
      | 1, _ => simpa using hj)
    (fun u hu => by
      obtain ⟨a, c, he⟩ := hx.bytes.len
      simp at hu
      rcases hu with rfl | rfl
      · rfl
      · rw [he]; rfl) (by unfold maxLen; omega) (by omega) hbase
  refine ⟨v', w', h1, ⟨?_, ?_⟩, h3, ?_⟩
  · rw [flatI_snoc, List.length_append]; exact h2
  · have diff : ∀ (y : ItV), Own8 w base 5 y.2 y.1.2 → Own8 w' base 5 y.2 y.1.2 := fun y hy => hy.blk fun k hk => h3.block k (hy.lt k hk).2 (fun e => by
      have hy2 : ∃ cur, w.heap[k]? = some (.cells cur 5 (0, 0)) := by
        rcases hy.2 with ⟨h, _⟩ | ⟨g2, cap, cur, hv, hb, hh, hr⟩
        · rw [h] at hk; cases hk
        · rw [hv] at hk; cases hk; exact ⟨cur, hh⟩
      have ho2 : ∃ cur, w.heap[k]? = some (.cells cur 79 (0, 0)) := by
        rcases hown.1.2 with ⟨h, _⟩ | ⟨g2, cap, cur, hv, hb, hh, hr⟩
        · rw [h] at e; cases e
        · rw [hv] at e; cases e; exact ⟨cur, hh⟩
      obtain ⟨c1, q1⟩ := hy2
      obtain ⟨c2, q2⟩ := ho2
      rw [q1] at q2
      simp at q2)
    intro y hy
    rcases List.mem_append.1 hy with hy | hy
    · exact diff y (hown.2 y hy)
    · have : y = x := by simpa using hy
      subst this
      exact diff y hx
  · intro k hk
    rcases h5 with h5 | h5
    · exact .inl (by rw [← h5]; exact hk)
    · rw [h5] at hk; cases hk; exact .inr (Nat.le_refl _)

theorem wp_appI {w : World} {o : Oper} {a : Act} {K : Act → World → Prop} {Q : Exit → Act → World → Prop} (s y : Operand)
    (ho : o.op = .call { callee := .builtin .append, args := #[s, y], argTypes := #[74, 74] }) (base : Nat)
    (v : Value) (l : List ItV) (x : ItV) (g : Nat) (hs : a.eval s = v) (hown : OwnI w base v l) (hy : a.eval y = .slice (some ⟨g, 0, none⟩) 1 1) (hx : Own8 w base 5 x.2 x.1.2) (hg : w.heap[g]? = some (.cells #[.int .i64 x.1.1, x.2] 79 (0, 0)))
    (hlen : l.length + 1 ≤ 1099511627776) (hbase : base ≤ w.heap.size)
    (h : ∀ v' w', OwnI w' base v' (l ++ [x]) → w.grownBy w' v.ownBlock → (∀ k, v'.ownBlock = some k → v.ownBlock = some k ∨ w.heap.size ≤ k) → K (a.put o.dst v') w') : o.wp Tryd.prog a w K Q := by
  obtain ⟨v', w', hr, h2, h3, h4⟩ := run_appI base o.type v l x hown hx g hg hlen hbase
  unfold Oper.wp execOp
  simp only [ho, resolve, invoke, builtin, Sem.run_bind, Sem.run_pure, Result.andThen_ok, List.map_toArray, List.map_cons, List.map_nil, hs, hy, hr]
  exact h v' w' h2 h3 h4

theorem results_cell2 {P : Program} {fn : Func} {p q : Tmp} {t1 t2 : TypeId} (h : fn.results = #[.cell p t1, .cell q t2]) (tmps : Array Value) (w : World) (b c : Nat) (v u : Value) (hp : tmps.getD p undef = .pointer (some ⟨b, 0, none⟩)) (hq : tmps.getD q undef = .pointer (some ⟨c, 0, none⟩))
    (h1 : w.cell? ⟨b, 0, none⟩ = some v) (h2 : w.cell? ⟨c, 0, none⟩ = some u) (a1 : (isAgg t1).run P w = .ok false w) (a2 : (isAgg t2).run P w = .ok false w) : (results fn tmps).run P w = .ok (.tuple #[v, u]) w := by
  have hp' : tmps[p]?.getD undef = .pointer (some ⟨b, 0, none⟩) := by simpa using hp
  have hq' : tmps[q]?.getD undef = .pointer (some ⟨c, 0, none⟩) := by simpa using hq
  have l1 : (loadVar t1 ⟨b, 0, none⟩).run P w = .ok v w := by simp [loadVar, Sem.run_bind, a1, go_sem, h1]
  have l2 : (loadVar t2 ⟨c, 0, none⟩).run P w = .ok u w := by simp [loadVar, Sem.run_bind, a2, go_sem, h2]
  simp [results, h, hp', hq', asAddr, l1, l2]

/-- What Decode hands back. -/
def DecPost (w : World) (r : Option (List It)) (e : Ending) (w' : World) : Prop :=
  ∃ v, e = .returned (.tuple #[v, .int .i64 (if r.isSome then 0 else 2)]) ∧ Items w' v (r.getD []) ∧ Below w.heap.size w w'

/-- .. the items in blocks of the call's own. -/
def DecPostO (w : World) (r : Option (List It)) (e : Ending) (w' : World) : Prop :=
  ∃ v pre base, e = .returned (.tuple #[v, .int .i64 (if r.isSome then 0 else 2)]) ∧ OwnI w' base v pre ∧ pre.map (·.1) = r.getD [] ∧ Below w.heap.size w w' ∧ w.heap.size ≤ base
theorem DecPostO.post {w : World} {r : Option (List It)} {e : Ending} {w' : World} (h : DecPostO w r e w') : DecPost w r e w' := by
  obtain ⟨v, pre, base, h1, h2, h3, h4, _⟩ := h
  exact ⟨v, h1, h3 ▸ h2.items, h4⟩

/-- What holds ahead of each round. -/
def DecI (w : World) (b : List UInt8) (pre : List ItV) (W : World) : Prop :=
  ∃ (ov : Value), One W (w.heap.size + 2) ov 74 ∧ One W (w.heap.size + 3) (.int .i64 (lastN (pre.map (·.1)) 0)) 3 ∧ One W w.heap.size (.slice none 0 0) 74 ∧ One W (w.heap.size + 1) (.int .i64 0) 28 ∧
    OwnI W (w.heap.size + 7) ov pre ∧ checkF (pre.map (·.1)) 0 = some (pre.map (·.1)) ∧ Below w.heap.size w W ∧ w.heap.size + 5 ≤ W.heap.size
/-- .. and how a round may leave. -/
def DecX (w : World) (b : List UInt8) (c : Code) (pre : List ItV) (W : World) : Prop :=
  c = .ret ∧ One W w.heap.size (.slice none 0 0) 74 ∧ One W (w.heap.size + 1) (.int .i64 2) 28 ∧ checkF (itemsL b) 0 = none ∧ Below w.heap.size w W ∧ w.heap.size + 5 ≤ W.heap.size

theorem DecI.keep {w : World} {b : List UInt8} {pre : List ItV} {A B : World} (h : DecI w b pre A) (hk : Kept (fun k => k ≠ w.heap.size + 4 ∧ k ≠ w.heap.size + 6) A B) : DecI w b pre B := by
  obtain ⟨ov, h1, h2, h3, h4, h5, h6, h7, h8⟩ := h
  exact ⟨ov, h1.of_block (hk.block _ h1.lt (by omega)), h2.of_block (hk.block _ h2.lt (by omega)), h3.of_block (hk.block _ h3.lt (by omega)), h4.of_block (hk.block _ h4.lt (by omega)),
    h5.keep (fun k h1 h2 => hk.block k h2 (by omega)), h6, hk.to_below h7 (by omega) (fun k hk2 => by omega), Nat.le_trans h8 hk.size⟩
theorem DecX.keep {w : World} {b : List UInt8} {c : Code} {pre : List ItV} {A B : World} (h : DecX w b c pre A) (hk : Kept (fun k => k ≠ w.heap.size + 4 ∧ k ≠ w.heap.size + 6) A B) : DecX w b c pre B := by
  obtain ⟨h0, h1, h2, h3, h7, h8⟩ := h
  exact ⟨h0, h1.of_block (hk.block _ h1.lt (by omega)), h2.of_block (hk.block _ h2.lt (by omega)), h3, hk.to_below h7 (by omega) (fun k hk2 => by omega), Nat.le_trans h8 hk.size⟩

/-- A round's variable: the item. -/
def DecG (w : World) (tm : Value → Value → Array Value) (x : ItV) (a : Act) (W : World) : Prop :=
  ∃ g, w.heap.size + 7 ≤ g ∧ W.heap[g]? = some (.cells #[.int .i64 x.1.1, x.2] 79 (0, 0)) ∧ a = { tmps := tm (.pointer (some ⟨g, 0, none⟩)) (.agg #[.int .i64 x.1.1, x.2]), defers := [] }

set_option maxRecDepth 100000 in
set_option maxHeartbeats 3200000 in
theorem Decode_own (v : Value) (b : List UInt8) (w : World) (hl : Bytes w v b) :
    Calls Tryd.prog 55 #[v] w (DecPostO w (decL b)) := by
  have hle := hl.le
  obtain ⟨va, vc, hv⟩ := hl.len
  subst hv
  by_cases hbig : 65536 < b.length
  · have t0 : (65536 : Int) < (b.length : Int) := by omega
    have hd : decL b = none := by unfold decL; rw [if_pos hbig]
    have HD := Lib.hid hd
    clear hd hbig
    go_enter Tryd.func55, Tryd.ntmps55
    go_wp2
    generalize hW1 : (w.alloc _).alloc _ = W1
    obtain ⟨o1, o2, hb⟩ : One W1 w.heap.size (.slice none 0 0) 74 ∧ One W1 (w.heap.size + 1) (.int .i64 2) 28 ∧ Below w.heap.size w W1 := by
      subst hW1
      refine ⟨(Below.heap_alloc _ _ _ (by simp)).trans (heap_alloc_new _ _), ?_, ((Below.refl _ w).alloc (Nat.le_refl _) _).alloc (by simp) _⟩
      have := heap_alloc_new (w.alloc (.cells #[.slice none 0 0] 74)) (.cells #[.int .i64 2] 28)
      rwa [World.size_alloc] at this
    clear hW1
    refine bodyPost_ret (results_cell2 rfl _ _ w.heap.size (w.heap.size + 1) _ _ rfl rfl o1.cell o2.cell (by kernel_rfl) (by kernel_rfl)) rfl ?_
    rw [HD.out]
    exact ⟨_, [], w.heap.size, rfl, OwnI.nil W1 _, rfl, hb, Nat.le_refl _⟩
  have t0 : ¬ (65536 : Int) < (b.length : Int) := by omega
  have hd : decL b = checkF (itemsL b) 0 := by unfold decL; rw [if_neg hbig]
  have HD := Lib.hid hd
  clear hd
  refine (callsIn_wide (n := 3)).1 ?_
  refine callsIn_of_wp_marks Tryd.func55 rfl trivial ?_ rfl
  simp only [Tryd.ntmps55, List.size_toArray, List.length_cons, List.length_nil, Nat.reduceAdd, Nat.reduceSub, Array.replicate_succ, Array.replicate_zero, List.push_toArray, List.append_toArray, List.nil_append, List.cons_append]
  gi_wp2_with (refine ⟨trivial, ?_⟩; gi_at_call 77; refine (callsIn_wide.2 (items_any _ _ _ _)).mono ?_; rintro e w' ⟨rfl, rfl⟩)
  generalize hW0 : (((( w.alloc _).alloc _).alloc _).alloc _).alloc _ = W0
  obtain ⟨hsz, hB0, o1, o2, o3, o4, o5⟩ : W0.heap.size = w.heap.size + 5 ∧ Below w.heap.size w W0 ∧ One W0 w.heap.size (.slice none 0 0) 74 ∧ One W0 (w.heap.size + 1) (.int .i64 0) 28 ∧ One W0 (w.heap.size + 2) (.slice none 0 0) 74 ∧
      One W0 (w.heap.size + 3) (.int .i64 0) 3 ∧ One W0 (w.heap.size + 4) (.slice va b.length vc) 22 := by
    subst hW0
    have nw : ∀ (A : World) (o : Obj) (k : Nat), A.heap.size = k → (A.alloc o).heap[k]? = some o := fun A o k h => h ▸ heap_alloc_new A o
    have od : ∀ (A : World) (o : Obj) (k : Nat) (q : Obj), k < A.heap.size → A.heap[k]? = some q → (A.alloc o).heap[k]? = some q := fun A o k q h e => (Below.heap_alloc _ _ _ h).trans e
    refine ⟨by simp, (((((Below.refl _ w).alloc (Nat.le_refl _) _).alloc (by simp) _).alloc (by simp; omega) _).alloc (by simp; omega) _).alloc (by simp; omega) _, ?_, ?_, ?_, ?_, ?_⟩
    · exact od _ _ _ _ (by simp <;> omega) (od _ _ _ _ (by simp <;> omega) (od _ _ _ _ (by simp <;> omega) (od _ _ _ _ (by simp) (nw _ _ _ rfl))))
    · exact od _ _ _ _ (by simp <;> omega) (od _ _ _ _ (by simp <;> omega) (od _ _ _ _ (by simp) (nw _ _ _ (by simp))))
    · exact od _ _ _ _ (by simp <;> omega) (od _ _ _ _ (by simp) (nw _ _ _ (by simp)))
    · exact od _ _ _ _ (by simp) (nw _ _ _ (by simp))
    · exact nw _ _ _ (by simp)
  clear hW0
  refine wpIn_rangeFunc_var (F := Fence.wide) (n := 3) rfl (by omega) (gf := 93) (lb := #[.pointer (some ⟨w.heap.size + 4, 0, none⟩)]) rfl trivial
    (enters_of Tryd.func93 (by kernel_rfl) rfl)
    (encs := encI) (It := fun pre x W' => (pre ++ [x]).map (·.1) <+: itemsL b ∧ Own8 W' (w.heap.size + 7) 5 x.2 x.1.2) (O := fun k => k = w.heap.size + 4) (U := fun k => k = w.heap.size + 4 ∨ k < w.heap.size)
    (S := fun xs => xs.map (·.1) = itemsL b) (Sp := fun _ => True) (N := (itemsL b).length)
    (fun W1 hb1 hs1 => by
      have e1 := o5.of_block (hb1.block _ (by omega))
      have := items_seq 2 (by omega) (w.heap.size + 4) w.heap.size _ b (by omega) W1 w rfl (hB0.trans (hb1.mono (by omega))) (by omega) e1 hl
      rw [hs1, hsz] at this
      exact this)
    (by omega) (by omega) (by omega) (fun _ => rfl)
    (DecI w b) (DecX w b)
    (fun s A B hs hk => hs.keep (hk.mono fun k _ h => ⟨h.1, by rw [hsz]; exact h.2⟩))
    (fun c s A B hs hk => hs.keep (hk.mono fun k _ h => ⟨h.1, by rw [hsz]; exact h.2⟩))
    (fun pre x A B hs hk => ⟨hs.1, hs.2.blk fun k hk2 => hk.block k (hs.2.lt k hk2).2 (by have := (hs.2.lt k hk2).1; omega)⟩)
    ⟨_, o3, o4, o1, o2, OwnI.nil _ _, rfl, hB0, by omega⟩
    (DecG w fun p y => #[.slice va b.length vc, undef, .pointer (some ⟨w.heap.size, 0, none⟩), .pointer (some ⟨w.heap.size + 1, 0, none⟩), .pointer (some ⟨w.heap.size + 1 + 1, 0, none⟩), .pointer (some ⟨w.heap.size + 1 + 1 + 1, 0, none⟩), p, .slice va b.length vc, .int .i64 (b.length : Int), .bool false, .slice va b.length vc,
      .func (.func 93) #[] #[.pointer (some ⟨w.heap.size + 1 + 1 + 1 + 1, 0, none⟩)], y, undef, undef, undef, undef, undef, undef, undef, undef, undef, undef, undef, undef, undef, undef, undef, undef])
    (fun x a A B hg hk => by
      obtain ⟨g, h1, h2, h3⟩ := hg
      exact ⟨g, h1, (hk.block g (Array.getElem?_eq_some_iff.1 h2).1 (by omega)).trans h2, h3⟩)
    ?assign ?body ?done ?stop
  case assign =>
    rintro l pre ⟨⟨k, d⟩, u⟩ W K _ ⟨_, hx8⟩ hs2 hK
    obtain ⟨ua, uc, hv⟩ := hx8.bytes.len
    dsimp only at hv
    subst hv
    gi_wp2
    refine hK _ _ ((Below.refl _ W).alloc (Nat.le_refl _) _) ⟨W.heap.size, by omega, heap_alloc_new _ _, rfl⟩
  case body =>
    rintro l pre ⟨⟨k, d⟩, u⟩ a' W ⟨ov, h1, h2, h3, h4, h5, h6, h7, h8⟩ ⟨hpre, hx8⟩ ⟨g, hg1, hg2, rfl⟩ hlen hW2
    obtain ⟨ua, uc, hv⟩ := hx8.bytes.len
    dsimp only at hv hx8 hg2
    subst hv
    obtain ⟨oa, oc, hv⟩ := h5.len
    subst hv
    have c1 : W.cell? ⟨g, 0, none⟩ = some (.int .i64 k) := by simp [World.cell?, hg2]
    have c2 : W.cell? ⟨g, 1, none⟩ = some (.slice ua d.length uc) := by simp [World.cell?, hg2]
    have c3 := h2.cell
    have f3 := h2.free
    have c4 := h1.cell
    have f4 := h1.free
    have c5 := h3.cell
    have f5 := h3.free
    have c6 := h4.cell
    have f6 := h4.free
    have hsn := checkF_snoc (x := (k, d)) h6
    have hlk := lastN_ok h6 (by omega) (by omega)
    have hls := lastN_snoc (pre.map (·.1)) 0 (k, d)
    have hmap : (pre ++ [((k, d), Value.slice ua d.length uc)]).map (·.1) = pre.map (·.1) ++ [(k, d)] := by simp
    rw [← hmap] at hsn hls
    have hll : pre.length ≤ 65536 := by have q1 := hpre.length_le; have q2 := itemsL_len b; rw [List.length_map, List.length_append] at q1; omega
    have hsetc : ∀ q, q ≠ w.heap.size + 3 → (W.setCell ⟨w.heap.size + 1 + 1 + 1, 0, none⟩ (.int .i64 k)).heap[q]? = W.heap[q]? := fun q hq => Below.heap_setCell _ _ _ _ (by show q ≠ w.heap.size + 1 + 1 + 1; omega)
    have hssz : (W.setCell ⟨w.heap.size + 1 + 1 + 1, 0, none⟩ (.int .i64 k)).heap.size = W.heap.size := by simp [World.setCell]
    have HS := Lib.hid hsn
    have HLS := Lib.hid hls
    have HSZ := Lib.hid hsz
    dsimp only at hsn
    clear hsn hls hmap hsz
    generalize hla : lastN (pre.map (·.1)) 0 = last at *
    have HLA := Lib.hid hla
    clear hla
    by_cases hbad : k ≤ last ∨ 63 < k
    · have hnone : checkF (itemsL b) 0 = none := by
        obtain ⟨t, ht⟩ := hpre
        rw [← ht]
        refine checkF_none_append _ _ _ ?_
        rw [HS.out, if_pos hbad]
      have HN := Lib.hid hnone
      clear hnone
      by_cases hb1 : k ≤ last
      · clear hbad
        gi_wp2
        refine ⟨((Kept.refl _ W).setCell (p := ⟨w.heap.size, 0, none⟩) (fun h => by have := HSZ.out; dsimp only at h; omega) _).setCell (p := ⟨w.heap.size + 1, 0, none⟩) (fun h => by have := HSZ.out; dsimp only at h; omega) _, rfl, (h3.set _).other (by show w.heap.size + 1 ≠ w.heap.size; omega) _, (h4.other (by show w.heap.size ≠ w.heap.size + 1; omega) _).set _, HN.out, (h7.setCell (p := ⟨w.heap.size, 0, none⟩) (Nat.le_refl _) _).setCell (p := ⟨w.heap.size + 1, 0, none⟩) (by show w.heap.size ≤ w.heap.size + 1; omega) _, by simp only [World.size_setCell]; exact h8⟩
      · have hb2 : 63 < k := hbad.resolve_left hb1
        clear hbad
        gi_wp2
        refine ⟨((Kept.refl _ W).setCell (p := ⟨w.heap.size, 0, none⟩) (fun h => by have := HSZ.out; dsimp only at h; omega) _).setCell (p := ⟨w.heap.size + 1, 0, none⟩) (fun h => by have := HSZ.out; dsimp only at h; omega) _, rfl, (h3.set _).other (by show w.heap.size + 1 ≠ w.heap.size; omega) _, (h4.other (by show w.heap.size ≠ w.heap.size + 1; omega) _).set _, HN.out, (h7.setCell (p := ⟨w.heap.size, 0, none⟩) (Nat.le_refl _) _).setCell (p := ⟨w.heap.size + 1, 0, none⟩) (by show w.heap.size ≤ w.heap.size + 1; omega) _, by simp only [World.size_setCell]; exact h8⟩
    · have hb1 : ¬ k ≤ last := fun h => hbad (.inl h)
      have hb2 : ¬ 63 < k := fun h => hbad (.inr h)
      have hok := HS.out
      rw [if_neg hbad] at hok
      have HOK := Lib.hid hok
      clear hok hbad
      obtain ⟨Y, hY⟩ : ∃ Y, (W.setCell ⟨w.heap.size + 1 + 1 + 1, 0, none⟩ (.int .i64 k)).alloc (.cells #[.int .i64 k, .slice ua d.length uc] 79) = Y := ⟨_, rfl⟩
      have hYo : ∀ q, q ≠ w.heap.size + 3 → q < W.heap.size → Y.heap[q]? = W.heap[q]? := fun q e1 e2 => by rw [← hY]; exact (Below.heap_alloc _ _ _ (by rw [hssz]; exact e2)).trans (hsetc q e1)
      have hYs : Y.heap.size = W.heap.size + 1 := by rw [← hY]; simp [World.setCell]
      have hYn : Y.heap[W.heap.size]? = some (.cells #[.int .i64 k, .slice ua d.length uc] 79 (0, 0)) := by
        have e := heap_alloc_new (W.setCell ⟨w.heap.size + 1 + 1 + 1, 0, none⟩ (.int .i64 k)) (.cells #[.int .i64 k, .slice ua d.length uc] 79)
        rw [hssz, hY] at e
        exact e
      have hY3 : One Y (w.heap.size + 3) (.int .i64 k) 3 := by
        rw [← hY]
        exact (Below.heap_alloc _ _ _ (by rw [hssz]; exact h2.lt)).trans (h2.set _)
      have hYB : Below w.heap.size w Y := by rw [← hY]; exact (h7.setCell (p := ⟨w.heap.size + 1 + 1 + 1, 0, none⟩) (by show w.heap.size ≤ w.heap.size + 1 + 1 + 1; omega) _).alloc (by rw [hssz]; omega) _
      have hYk : Kept (fun q => q ≠ w.heap.size + 3) W Y := by rw [← hY]; exact ((Kept.refl _ W).setCell (p := ⟨w.heap.size + 1 + 1 + 1, 0, none⟩) (fun h => h rfl) _).alloc _
      have y5 : OwnI Y (w.heap.size + 7) (.slice oa pre.length oc) pre := h5.keep fun q e1 e2 => hYo q (by omega) e2
      have y8 : Own8 Y (w.heap.size + 7) 5 (.slice ua d.length uc) d := hx8.blk fun q e1 => hYo q (by have := (hx8.lt q e1).1; omega) (hx8.lt q e1).2
      have y1 := h1.of_block (hYo _ (by omega) h1.lt)
      have y3 := h3.of_block (hYo _ (by omega) h3.lt)
      have y4 := h4.of_block (hYo _ (by omega) h4.lt)
      have hbase : w.heap.size + 7 ≤ Y.heap.size := by rw [hYs]; have := HSZ.out; omega
      have hWs := HSZ.out
      have HY := Lib.hid hY
      have HYS := Lib.hid hYs
      have HYO := Lib.hid hYo
      have HYN := Lib.hid hYn
      have HWS := Lib.hid hWs
      clear hY hYs hYo hYn hssz hsetc hWs hx8 hg2 h5
      gi_wp2_with ((with_reducible refine wpListIn_round (o := ⟨some 27, Op.call _, _, _, _, _⟩) ?_ ?_ ?_); rfl; (intro c hc; cases hc); rw [HY.out]; refine wp_appI (.tmp 24) (.tmp 26) rfl (w.heap.size + 7) _ pre ((k, d), .slice ua d.length uc) W.heap.size rfl y5 rfl y8 HYN.out (by omega) hbase ?_; intro v8 w8 ho8 hg8 hv8; obtain ⟨na, nc, hn8⟩ := ho8.len; subst hn8; have z1 := y1.grown hg8 (fun e => by have := (y5.lt _ e.symm).1; omega); have zc := z1.cell; have zf := z1.free)
      have e8 : w.heap.size ≤ w8.heap.size := Nat.le_trans hYB.size hg8.size
      have z3 := y3.grown hg8 (fun e => by have := (y5.lt _ e.symm).1; omega)
      have z4 := y4.grown hg8 (fun e => by have := (y5.lt _ e.symm).1; omega)
      have z2 := hY3.grown hg8 (fun e => by have := (y5.lt _ e.symm).1; omega)
      have hS := HSZ.out
      have ho9 : OwnI w8 (w.heap.size + 7) (.slice na (pre.length + 1) nc) (pre ++ [((k, d), .slice ua d.length uc)]) := by rw [List.length_append] at ho8; exact ho8
      refine ⟨((hYk.mono fun q _ h => ?_).grown hg8 (fun r e => ?_)).setCell (p := ⟨w.heap.size + 1 + 1, 0, none⟩) (fun h => ?_) _, _, z1.set _, ?_, z3.other (by show w.heap.size + 1 + 1 ≠ w.heap.size; omega) _, z4.other (by show w.heap.size + 1 + 1 ≠ w.heap.size + 1; omega) _, ho9.keep (fun q e1 e2 => Below.heap_setCell _ ⟨w.heap.size + 1 + 1, 0, none⟩ _ _ (by show q ≠ w.heap.size + 1 + 1; omega)), HOK.out, ((hYB.grown hg8 hYB.size (fun r e => ?_)).setCell (p := ⟨w.heap.size + 1 + 1, 0, none⟩) (by show w.heap.size ≤ w.heap.size + 1 + 1; omega) _), ?_⟩
      · omega
      · have := (y5.lt r e).1; omega
      · dsimp only at h; omega
      · rw [HLS.out]; exact z2.other (by show w.heap.size + 1 + 1 ≠ w.heap.size + 3; omega) _
      · have := (y5.lt r e).1; omega
      · simp only [World.size_setCell]; have := hg8.size; omega
  case done =>
    rintro xs W hxs ⟨ov, h1, h2, h3, h4, h5, h6, h7, h8⟩ hW2 hD
    obtain ⟨oa, oc, hv⟩ := h5.len
    subst hv
    have c4 := h1.cell
    have f4 := h1.free
    have c5 := h3.cell
    have f5 := h3.free
    have c6 := h4.cell
    have f6 := h4.free
    have HX := Lib.hid hxs
    clear hxs
    have HS0 := Lib.hid hsz
    clear hsz
    gi_wp2
    have hsz := HS0.out
    generalize hWx : (W.setCell ⟨w.heap.size, 0, none⟩ _).setCell _ _ = Wx
    obtain ⟨g1, g2, g5, g7, gs, gD⟩ : One Wx w.heap.size (.slice oa xs.length oc) 74 ∧ One Wx (w.heap.size + 1) (.int .i64 0) 28 ∧ OwnI Wx (w.heap.size + 7) (.slice oa xs.length oc) xs ∧ Below w.heap.size w Wx ∧ Wx.heap.size = W.heap.size ∧ Wx.heap[W0.heap.size]? = some (.deferred (some [])) := by
      subst hWx
      refine ⟨(h3.set _).other (by show w.heap.size + 1 ≠ w.heap.size; omega) _, (h4.other (by show w.heap.size ≠ w.heap.size + 1; omega) _).set _, h5.keep fun q e1 e2 => ?_, (h7.setCell (p := ⟨w.heap.size, 0, none⟩) (Nat.le_refl _) _).setCell (p := ⟨w.heap.size + 1, 0, none⟩) (by show w.heap.size ≤ w.heap.size + 1; omega) _, by simp only [World.size_setCell], ?_⟩
      · exact (Below.heap_setCell _ ⟨w.heap.size + 1, 0, none⟩ _ _ (by show q ≠ w.heap.size + 1; omega)).trans (Below.heap_setCell _ ⟨w.heap.size, 0, none⟩ _ _ (by show q ≠ w.heap.size; omega))
      · exact ((Below.heap_setCell _ ⟨w.heap.size + 1, 0, none⟩ _ _ (by show W0.heap.size ≠ w.heap.size + 1; omega)).trans (Below.heap_setCell _ ⟨w.heap.size, 0, none⟩ _ _ (by show W0.heap.size ≠ w.heap.size; omega))).trans hD
    refine ⟨by simp, .inl ⟨_, _, rfl, run_takeDeferred gD, ?_⟩⟩
    have q1 := g1.of_block (w' := Wx.putObj W0.heap.size (.deferred none)) (World.putObj_heap_other (by omega))
    have q2 := g2.of_block (w' := Wx.putObj W0.heap.size (.deferred none)) (World.putObj_heap_other (by omega))
    refine ⟨_, results_cell2 rfl _ _ w.heap.size (w.heap.size + 1) _ _ rfl rfl q1.cell q2.cell (by kernel_rfl) (by kernel_rfl), ?_⟩
    have hI := g5.keep (w' := Wx.putObj W0.heap.size (.deferred none)) fun q e1 e2 => World.putObj_heap_other (by omega)
    rw [HD.out, ← HX.out, h6]
    exact ⟨_, xs, w.heap.size + 7, by simp, hI, rfl, g7.grown (grownBy_putObj' _ _ _) g7.size (fun k e => by cases e; omega), by omega⟩
  case stop =>
    rintro c pre W _ ⟨rfl, h1, h2, h3, h7, h8⟩ hW2 hD
    gi_wp2
    refine ⟨by simp, .inl ⟨_, _, rfl, run_takeDeferred hD, ?_⟩⟩
    have g1 := h1.of_block (w' := W.putObj W0.heap.size (.deferred none)) (World.putObj_heap_other (by omega))
    have g2 := h2.of_block (w' := W.putObj W0.heap.size (.deferred none)) (World.putObj_heap_other (by omega))
    refine ⟨_, results_cell2 rfl _ _ w.heap.size (w.heap.size + 1) _ _ rfl rfl g1.cell g2.cell (by kernel_rfl) (by kernel_rfl), ?_⟩
    rw [HD.out, h3]
    exact ⟨_, [], w.heap.size, rfl, OwnI.nil _ _, rfl, h7.grown (grownBy_putObj' _ _ _) h7.size (fun k e => by cases e; omega), Nat.le_refl _⟩

theorem Decode_any (v : Value) (b : List UInt8) (w : World) (hl : Bytes w v b) :
    Calls Tryd.prog 55 #[v] w (DecPost w (decL b)) := (Decode_own v b w hl).mono fun _ _ h => h.post

end Go.Proofs.YtnomekfemadpeaaDoor

/- Members in a slice of the call's own. No condition. -/
import Derived.Test.YtnomekfemadpeaaWrCollI
namespace Go.Proofs.Ytnomekfemadpeaa
open Go.RowKit Go.Shelf
set_option linter.unusedVariables false
set_option linter.unusedSimpArgs false
set_option maxRecDepth 100000

theorem infoMem : (Try.prog.info? 37).map (fun i => (i.zero, i.size, i.bytes)) = some (some (.agg #[.int .i64 0, .int .i64 0, .int .i64 0, .int .i64 0]), 4, 32) := by kernel_rfl

/-- The slice v of members is the call's own (its block lies at 'base' or later) and holds l. -/
def OwnM (w : World) (base : Nat) (v : Value) (l : List MemL) : Prop := w.ownsRow base 37 4 v l.length (flatM l)
theorem OwnM.nil (w : World) (base : Nat) : OwnM w base (.slice none 0 0) [] := World.ownsRow_nil _ _ _ _
theorem OwnM.mems {w : World} {base : Nat} {v : Value} {l : List MemL} (h : OwnM w base v l) : Mems w v l := Row.of_owns h
theorem OwnM.lt {w : World} {base : Nat} {v : Value} {l : List MemL} (h : OwnM w base v l) : ∀ k, v.ownBlock = some k → base ≤ k ∧ k < w.heap.size := World.ownsRow.lt h
theorem OwnM.mono {w : World} {base base' : Nat} {v : Value} {l : List MemL} (h : OwnM w base v l) (hb : base' ≤ base) : OwnM w base' v l :=
  ⟨h.1, h.2.imp id (fun ⟨g, cap, cur, a, b, c⟩ => ⟨g, cap, cur, a, Nat.le_trans hb b, c⟩)⟩
theorem OwnM.kept {w w' : World} {base : Nat} {v : Value} {l : List MemL} (h : OwnM w base v l) (hk : ∀ k, v.ownBlock = some k → w'.heap[k]? = w.heap[k]?) : OwnM w' base v l := by
  refine ⟨h.1, ?_⟩
  rcases h.2 with h | ⟨g, cap, cur, hv, hb, hh, hr⟩
  · exact .inl h
  · exact .inr ⟨g, cap, cur, hv, hb, (hk g (by rw [hv]; rfl)).trans hh, hr⟩
theorem OwnM.of_new {w w' : World} {base : Nat} {v : Value} {l : List MemL} (h : OwnM w base v l) (hb : Below w.heap.size w w') : OwnM w' base v l :=
  h.kept fun k hk => hb.block _ (h.lt k hk).2

/-- 'append(s, x...)' of members, s the call's own: the run. -/
theorem run_appM {w : World} (base ty : Nat) (v : Value) (l : List MemL) (hown : OwnM w base v l) (u : Value) (m : List MemL) (hm : Mems w u m) (hlen : l.length + m.length ≤ 1099511627776) (hbase : base ≤ w.heap.size) :
    ∃ v' w', (Builtin.append_ #[27, 27] ty #[v, u]).run Try.prog w = .ok v' w' ∧ OwnM w' base v' (l ++ m) ∧ w.grownBy w' v.ownBlock ∧ (∀ k, v'.ownBlock = some k → v.ownBlock = some k ∨ w.heap.size ≤ k) := by
  obtain ⟨i, hi, hz, hsize, hby⟩ := info_parts infoMem
  obtain ⟨hl, ad, c, rfl, hc1, hc2, hc3, hc4⟩ := hm
  cases ad with
  | none =>
    have hc0 := hc3 rfl
    have hm0 : m = [] := List.eq_nil_of_length_eq_zero (by omega)
    subst hm0
    subst hc0
    refine ⟨v, w, run_append_owned_none (P := Try.prog) (w := w) base 27 ty 37 i 4 Try.underlying27 hi v l.length (flatM l) hown, by simpa using hown, World.grownBy.refl _ _, fun k hk => .inl hk⟩
  | some ad =>
    obtain ⟨v', w', h1, h2, h3, _, h5⟩ := run_append_own_at (P := Try.prog) w base 27 ty 37 i _ 4 32 Try.underlying27 hi hz hsize hby rfl (by decide) v l.length (flatM l) hown ad m.length c (flatM m) (flatM_len m)
      (fun j u hj => by
        have hjl : j < m.length * 4 := by
          rcases Nat.lt_or_ge j (m.length * 4) with h | h
          · exact h
          · rw [List.getElem?_eq_none (by rw [flatM_len]; exact h)] at hj; cases hj
        obtain ⟨b, off, hab, _, hcell⟩ := hc4 (by omega)
        cases hab
        have hplain : (⟨b, off, none⟩ : Addr).add j = ⟨b, off + j, none⟩ := by unfold Addr.add; split <;> simp_all
        rw [hplain, hcell j (by omega), hj])
      (fun u hu => by
        obtain ⟨b, _, hb⟩ := List.mem_flatMap.1 hu
        simp only [MemL.cells, List.mem_cons, List.not_mem_nil, or_false] at hb
        rcases hb with rfl | rfl | rfl | rfl <;> rfl) (by unfold maxLen; omega) (by omega) hbase
    refine ⟨v', w', h1, ?_, h3, ?_⟩
    · unfold OwnM
      rw [show flatM (l ++ m) = flatM l ++ flatM m by simp [flatM], List.length_append]
      exact h2
    · intro k hk
      rcases h5 with h5 | h5
      · exact .inl (by rw [← h5]; exact hk)
      · rw [h5] at hk; cases hk; exact .inr (Nat.le_refl _)
theorem wp_appM {w : World} {o : Oper} {a : Act} {K : Act → World → Prop} {Q : Exit → Act → World → Prop} (s x : Operand)
    (ho : o.op = .call { callee := .builtin .append, args := #[s, x], argTypes := #[27, 27] }) (base : Nat)
    (v : Value) (l : List MemL) (hs : a.eval s = v) (hown : OwnM w base v l) (u : Value) (m : List MemL) (hx : a.eval x = u) (hm : Mems w u m)
    (hlen : l.length + m.length ≤ 1099511627776) (hbase : base ≤ w.heap.size)
    (h : ∀ v' w', OwnM w' base v' (l ++ m) → w.grownBy w' v.ownBlock → (∀ k, v'.ownBlock = some k → v.ownBlock = some k ∨ w.heap.size ≤ k) → K (a.put o.dst v') w') : o.wp Try.prog a w K Q := by
  obtain ⟨v', w', hr, h2, h3, h4⟩ := run_appM base o.type v l hown u m hm hlen hbase
  unfold Oper.wp execOp
  simp only [ho, resolve, invoke, builtin, Sem.run_bind, Sem.run_pure, Result.andThen_ok, List.map_toArray, List.map_cons, List.map_nil, hs, hx, hr]
  exact h v' w' h2 h3 h4

/-- One member in a block just made. -/
theorem one_mems (w : World) (x : MemL) (t : TypeId) : Mems (w.alloc (.cells #[.int .i64 x.id, .int .i64 x.inc, .int .i64 x.state, .int .i64 x.since] t)) (.slice (some ⟨w.heap.size, 0, none⟩) 1 1) [x] := by
  refine ⟨rfl, some ⟨w.heap.size, 0, none⟩, 1, rfl, Nat.le_refl _, by unfold maxLen; omega, fun h => (nomatch h), fun _ => ⟨_, 0, rfl, by simp, fun j hj => ?_⟩⟩
  simp only [World.cell?, heap_alloc_new, Nat.zero_add]
  simp [flatM, MemL.cells]

end Go.Proofs.Ytnomekfemadpeaa

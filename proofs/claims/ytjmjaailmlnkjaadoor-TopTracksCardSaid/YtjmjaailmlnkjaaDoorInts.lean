/- Slices of numbers; those of the call's own. No condition. -/
import Derived.Test.YtjmjaailmlnkjaaDoorGa
namespace Go.Proofs.YtjmjaailmlnkjaaDoor
open Go.RowKit
set_option linter.unusedVariables false
set_option linter.unusedSimpArgs false
set_option maxRecDepth 100000

def I64 (n : Int) : Value := .int .i64 n
def inI64 (n : Int) : Prop := -9223372036854775808 ≤ n ∧ n ≤ 9223372036854775807

/-- The slice value v reads as the numbers l. -/
def Ints (w : World) (v : Value) (l : List Int) : Prop := Row w v l.length 1 (l.map I64)
theorem Ints.len {w : World} {v : Value} {l : List Int} (h : Ints w v l) : ∃ a c, v = .slice a l.length c := h.shape
theorem Ints.le {w : World} {v : Value} {l : List Int} (h : Ints w v l) : l.length ≤ 9223372036854775807 := Row.le h
theorem Ints.of_new {w w' : World} {v : Value} {l : List Int} (h : Ints w v l) (hg : Below w.heap.size w w') : Ints w' v l := Row.of_new h hg
theorem Ints.cell {w : World} {v : Value} {l : List Int} (h : Ints w v l) (h0 : 0 < l.length) : ∃ b off c, v = .slice (some ⟨b, off, none⟩) l.length c ∧ b < w.heap.size ∧ ∀ j, j < l.length → w.cell? ⟨b, off + j, none⟩ = some (.int .i64 (l.getD j 0)) := by
  obtain ⟨_, a, c, rfl, _, _, _, h5⟩ := h
  obtain ⟨b, off, rfl, hb, hc⟩ := h5 (by omega)
  refine ⟨b, off, c, rfl, hb, fun j hj => ?_⟩
  rw [hc j (by omega)]
  simp [List.getElem?_map, List.getElem?_eq_getElem hj, List.getD, I64]

theorem infoInt : (Tryd.prog.info? 3).map (fun i => (i.zero, i.size, i.bytes)) = some (some (.int .i64 0), 1, 8) := by kernel_rfl

/-- The slice v of numbers is the call's own (its block lies at 'base' or later) and holds l. -/
def OwnN (w : World) (base : Nat) (v : Value) (l : List Int) : Prop := w.ownsRow base 3 1 v l.length (l.map I64)
theorem OwnN.nil (w : World) (base : Nat) : OwnN w base (.slice none 0 0) [] := World.ownsRow_nil _ _ _ _
theorem OwnN.ints {w : World} {base : Nat} {v : Value} {l : List Int} (h : OwnN w base v l) : Ints w v l := Row.of_owns h
theorem OwnN.lt {w : World} {base : Nat} {v : Value} {l : List Int} (h : OwnN w base v l) : ∀ k, v.ownBlock = some k → base ≤ k ∧ k < w.heap.size := World.ownsRow.lt h
theorem OwnN.mono {w : World} {base base' : Nat} {v : Value} {l : List Int} (h : OwnN w base v l) (hb : base' ≤ base) : OwnN w base' v l :=
  ⟨h.1, h.2.imp id (fun ⟨g, cap, cur, a, b, c⟩ => ⟨g, cap, cur, a, Nat.le_trans hb b, c⟩)⟩
theorem OwnN.kept {w w' : World} {base : Nat} {v : Value} {l : List Int} (h : OwnN w base v l) (hk : ∀ k, v.ownBlock = some k → w'.heap[k]? = w.heap[k]?) : OwnN w' base v l := by
  refine ⟨h.1, ?_⟩
  rcases h.2 with h | ⟨g, cap, cur, hv, hb, hh, hr⟩
  · exact .inl h
  · exact .inr ⟨g, cap, cur, hv, hb, (hk g (by rw [hv]; rfl)).trans hh, hr⟩
theorem OwnN.of_new {w w' : World} {base : Nat} {v : Value} {l : List Int} (h : OwnN w base v l) (hb : Below w.heap.size w w') : OwnN w' base v l :=
  h.kept fun k hk => hb.block _ (h.lt k hk).2

/-- 'append(s, x...)' of numbers, s the call's own: the run. -/
theorem run_appN {w : World} (base ty : Nat) (v : Value) (l : List Int) (hown : OwnN w base v l) (u : Value) (m : List Int) (hm : Ints w u m) (hlen : l.length + m.length ≤ 1099511627776) (hbase : base ≤ w.heap.size) :
    ∃ v' w', (Builtin.append_ #[22, 22] ty #[v, u]).run Tryd.prog w = .ok v' w' ∧ OwnN w' base v' (l ++ m) ∧ w.grownBy w' v.ownBlock ∧ (∀ k, v'.ownBlock = some k → v.ownBlock = some k ∨ w.heap.size ≤ k) := by
  obtain ⟨i, hi, hz, hsize, hby⟩ := info_parts infoInt
  obtain ⟨hl, ad, c, rfl, hc1, hc2, hc3, hc4⟩ := hm
  cases ad with
  | none =>
    have hc0 := hc3 rfl
    have hm0 : m = [] := List.eq_nil_of_length_eq_zero (by omega)
    subst hm0
    subst hc0
    refine ⟨v, w, run_append_owned_none (P := Tryd.prog) (w := w) base 22 ty 3 i 1 Tryd.underlying22 hi v l.length (l.map I64) hown, by simpa using hown, World.grownBy.refl _ _, fun k hk => .inl hk⟩
  | some ad =>
    obtain ⟨v', w', h1, h2, h3, _, h5⟩ := run_append_own_at (P := Tryd.prog) w base 22 ty 3 i _ 1 8 Tryd.underlying22 hi hz hsize hby rfl (by decide) v l.length (l.map I64) hown ad m.length c (m.map I64) (by simp)
      (fun j u hj => by
        have hjl : j < m.length := by
          rcases Nat.lt_or_ge j m.length with h | h
          · exact h
          · simp [List.getElem?_eq_none (show (m.map I64).length ≤ j by simpa using h)] at hj
        obtain ⟨b, off, hab, _, hcell⟩ := hc4 (by omega)
        cases hab
        have hplain : (⟨b, off, none⟩ : Addr).add j = ⟨b, off + j, none⟩ := by unfold Addr.add; split <;> simp_all
        rw [hplain, hcell j (by omega), hj])
      (fun u hu => by
        obtain ⟨b, _, rfl⟩ := List.mem_map.1 hu
        rfl) (by unfold maxLen; omega) (by omega) hbase
    refine ⟨v', w', h1, ?_, h3, ?_⟩
    · unfold OwnN
      simpa using h2
    · intro k hk
      rcases h5 with h5 | h5
      · exact .inl (by rw [← h5]; exact hk)
      · rw [h5] at hk; cases hk; exact .inr (Nat.le_refl _)
theorem wp_appN {w : World} {o : Oper} {a : Act} {K : Act → World → Prop} {Q : Exit → Act → World → Prop} (s x : Operand)
    (ho : o.op = .call { callee := .builtin .append, args := #[s, x], argTypes := #[22, 22] }) (base : Nat)
    (v : Value) (l : List Int) (hs : a.eval s = v) (hown : OwnN w base v l) (u : Value) (m : List Int) (hx : a.eval x = u) (hm : Ints w u m)
    (hlen : l.length + m.length ≤ 1099511627776) (hbase : base ≤ w.heap.size)
    (h : ∀ v' w', OwnN w' base v' (l ++ m) → w.grownBy w' v.ownBlock → (∀ k, v'.ownBlock = some k → v.ownBlock = some k ∨ w.heap.size ≤ k) → K (a.put o.dst v') w') : o.wp Tryd.prog a w K Q := by
  obtain ⟨v', w', hr, h2, h3, h4⟩ := run_appN base o.type v l hown u m hm hlen hbase
  unfold Oper.wp execOp
  simp only [ho, resolve, invoke, builtin, Sem.run_bind, Sem.run_pure, Result.andThen_ok, List.map_toArray, List.map_cons, List.map_nil, hs, hx, hr]
  exact h v' w' h2 h3 h4

/-- One number in a block just made. -/
theorem one_ints (w : World) (x : Int) (t : TypeId) : Ints (w.alloc (.cells #[.int .i64 x] t)) (.slice (some ⟨w.heap.size, 0, none⟩) 1 1) [x] := by
  refine ⟨rfl, some ⟨w.heap.size, 0, none⟩, 1, rfl, Nat.le_refl _, by unfold maxLen; omega, fun h => (nomatch h), fun _ => ⟨_, 0, rfl, by simp, fun j hj => ?_⟩⟩
  simp only [List.length_singleton, Nat.mul_one] at hj
  have hj0 : j = 0 := by omega
  subst hj0
  exact cell_of_one (heap_alloc_new w _)

end Go.Proofs.YtjmjaailmlnkjaaDoor

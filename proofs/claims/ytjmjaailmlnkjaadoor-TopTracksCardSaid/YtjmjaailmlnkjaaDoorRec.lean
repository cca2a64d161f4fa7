/- Records of a struct's (or an array's) type, of a fixed number of cells: in a block, at a place, in slices; loaded, stored, laid, appended, handed back. Conditions: no more than 128 bytes each, fewer than 2^40 of them. -/
import Derived.Test.YtjmjaailmlnkjaaDoorGa
import Derived.Great.BuildSlice
import Derived.Maps.AppendAt
namespace Go.Proofs.YtjmjaailmlnkjaaDoor
open Go.RowKit
set_option linter.unusedVariables false
set_option linter.unusedSimpArgs false
set_option linter.unusedSectionVars false
set_option maxRecDepth 100000

/-- A type of records: how many cells one has, which. -/
structure RecT (e : TypeId) (α : Type) where
  n : Nat
  bytes : Nat
  zero : α
  cells : α → List Value
  ok : α → Prop
  pos : 0 < n
  small : n ≤ 1000
  few : bytes ≤ 128
  zok : ok zero
  len : ∀ {x}, ok x → (cells x).length = n
  one : ∀ {x}, ok x → ∀ v ∈ cells x, v.oneCell' = true
  agg : ∃ d, Tryd.prog.underlying e = some d ∧ (match d with | .struct _ | .array _ _ => true | _ => false) = true
  info : (Tryd.prog.info? e).map (fun i => (i.zero, i.size, i.bytes)) = some (some (.agg (cells zero).toArray), n, bytes)

section
variable {e se : TypeId} {α : Type} (R : RecT e α)
def RecT.V (x : α) : Value := .agg (R.cells x).toArray
def RecT.flat (l : List α) : List Value := l.flatMap R.cells
theorem RecT.flat_len {l : List α} (h : ∀ x ∈ l, R.ok x) : (R.flat l).length = l.length * R.n := by
  induction l with
  | nil => simp [RecT.flat]
  | cons x l ih =>
    have := ih (fun y hy => h y (by simp [hy]))
    simp only [RecT.flat, List.flatMap_cons, List.length_append, List.length_cons] at *
    rw [R.len (h x (by simp)), this, Nat.add_mul]; omega
theorem RecT.flat_append (a b : List α) : R.flat (a ++ b) = R.flat a ++ R.flat b := by simp [RecT.flat]
theorem RecT.flat_at {l : List α} (h : ∀ x ∈ l, R.ok x) {i j : Nat} {x : α} (hi : l[i]? = some x) (hj : j < R.n) : (R.flat l)[i * R.n + j]? = (R.cells x)[j]? := by
  induction l generalizing i with
  | nil => simp at hi
  | cons y l ih =>
    have h0 := R.len (h y (by simp))
    cases i with
    | zero =>
      simp at hi
      subst hi
      simp only [RecT.flat, List.flatMap_cons, Nat.zero_mul, Nat.zero_add]
      rw [List.getElem?_append_left (by omega)]
    | succ i =>
      have := ih (fun z hz => h z (by simp [hz])) (i := i) (by simpa using hi)
      simp only [RecT.flat, List.flatMap_cons] at this ⊢
      rw [List.getElem?_append_right (by rw [h0, Nat.add_mul]; omega), h0, show (i + 1) * R.n + j - R.n = i * R.n + j by rw [Nat.add_mul]; omega]
      exact this
/-- A record at a place. -/
def RecT.At (w : World) (g off : Nat) (x : α) : Prop := R.ok x ∧ g < w.heap.size ∧ ∀ j, j < R.n → w.cell? ⟨g, off + j, none⟩ = (R.cells x)[j]?
/-- A block that holds one. -/
def RecT.O (w : World) (g : Nat) (x : α) : Prop := w.heap[g]? = some (.cells (R.cells x).toArray e (0, 0)) ∧ R.ok x
/-- A slice of them. -/
def RecT.Row (w : World) (v : Value) (l : List α) : Prop := (∀ x ∈ l, R.ok x) ∧ Go.Proofs.YtjmjaailmlnkjaaDoor.Row w v l.length R.n (R.flat l)
/-- A slice of the call's own. -/
def RecT.Own (w : World) (base : Nat) (v : Value) (l : List α) : Prop := (∀ x ∈ l, R.ok x) ∧ w.ownsRow base e R.n v l.length (R.flat l)
variable {R} {w w' : World} {g off base : Nat} {v : Value} {x : α} {l : List α}
theorem RecT.At.of_new (h : R.At w g off x) (hb : Below w.heap.size w w') : R.At w' g off x := ⟨h.1, Nat.lt_of_lt_of_le h.2.1 hb.size, fun j hj => (hb.cell (p := ⟨g, off + j, none⟩) h.2.1).trans (h.2.2 j hj)⟩
theorem RecT.At.of_block (h : R.At w g off x) (hb : w'.heap[g]? = w.heap[g]?) : R.At w' g off x := by
  have hlt : g < w'.heap.size := by
    have h2 := h.2.1
    rcases Nat.lt_or_ge g w'.heap.size with h3 | h3
    · exact h3
    · rw [Array.getElem?_eq_none h3, Array.getElem?_eq_getElem h2] at hb; cases hb
  exact ⟨h.1, hlt, fun j hj => (World.cell?_of_block (a := ⟨g, off + j, none⟩) hb).trans (h.2.2 j hj)⟩
theorem RecT.O.lt (h : R.O w g x) : g < w.heap.size := (Array.getElem?_eq_some_iff.1 h.1).1
theorem RecT.O.of_block (h : R.O w g x) (hb : w'.heap[g]? = w.heap[g]?) : R.O w' g x := ⟨hb.trans h.1, h.2⟩
theorem RecT.O.of_new (h : R.O w g x) (hb : Below w.heap.size w w') : R.O w' g x := h.of_block (hb.block _ h.lt)
theorem RecT.O.free (h : R.O w g x) (j : Nat) : w.frozen? ⟨g, j, none⟩ = false := by simp [World.frozen?, h.1]
theorem RecT.O.at_ (h : R.O w g x) : R.At w g 0 x := ⟨h.2, h.lt, fun j hj => by simp only [World.cell?, h.1, Nat.zero_add]; simp⟩
theorem RecT.O.cell (h : R.O w g x) (j : Nat) : w.cell? ⟨g, j, none⟩ = (R.cells x)[j]? := by simp only [World.cell?, h.1]; simp
theorem RecT.o_new (w : World) (h : R.ok x) : R.O (w.alloc (.cells (R.cells x).toArray e)) w.heap.size x := ⟨heap_alloc_new w _, h⟩
theorem RecT.Row.len (h : R.Row w v l) : ∃ a c, v = .slice a l.length c := h.2.shape
theorem RecT.Row.le (h : R.Row w v l) : l.length ≤ 9223372036854775807 := Go.Proofs.YtjmjaailmlnkjaaDoor.Row.le h.2
theorem RecT.Row.of_new (h : R.Row w v l) (hb : Below w.heap.size w w') : R.Row w' v l := ⟨h.1, Go.Proofs.YtjmjaailmlnkjaaDoor.Row.of_new h.2 hb⟩
theorem RecT.Row.of_kept {row : Option Nat} (h : R.Row w v l) (hg : w.grownBy w' row) (hne : ∀ k, v.ownBlock = some k → some k ≠ row) : R.Row w' v l := ⟨h.1, Go.Proofs.YtjmjaailmlnkjaaDoor.Row.of_kept h.2 hg hne⟩
theorem RecT.Row.nil (w : World) : R.Row w (.slice none 0 0) [] := ⟨(fun x hx => by cases hx), Go.Proofs.YtjmjaailmlnkjaaDoor.Row.of_nil R.n⟩
theorem RecT.Row.at_ (h : R.Row w v l) (h0 : 0 < l.length) : ∃ b off c, v = .slice (some ⟨b, off, none⟩) l.length c ∧ b < w.heap.size ∧ ∀ i x, l[i]? = some x → R.At w b (off + i * R.n) x := by
  obtain ⟨hok, _, a, c, rfl, _, _, _, h5⟩ := h
  have hp : l.length * R.n ≠ 0 := Nat.mul_ne_zero (by omega) (by have := R.pos; omega)
  obtain ⟨b, off, rfl, hb, hc⟩ := h5 hp
  refine ⟨b, off, c, rfl, hb, fun i x hi => ?_⟩
  have hil : i < l.length := (List.getElem?_eq_some_iff.1 hi).1
  have hx : x ∈ l := List.mem_of_getElem? hi
  refine ⟨hok x hx, hb, fun j hj => ?_⟩
  have hm : i * R.n + j < l.length * R.n := by
    have := Nat.mul_le_mul_right R.n (show i + 1 ≤ l.length by omega)
    rw [Nat.add_mul] at this; omega
  rw [Nat.add_assoc, hc _ hm, R.flat_at hok hi hj]
theorem RecT.Own.row (h : R.Own w base v l) : R.Row w v l := ⟨h.1, Go.Proofs.YtjmjaailmlnkjaaDoor.Row.of_owns h.2⟩
theorem RecT.Own.nil (w : World) (base : Nat) : R.Own w base (.slice none 0 0) [] := ⟨(fun x hx => by cases hx), World.ownsRow_nil _ _ _ _⟩
theorem RecT.Own.lt (h : R.Own w base v l) : ∀ k, v.ownBlock = some k → base ≤ k ∧ k < w.heap.size := World.ownsRow.lt h.2
theorem RecT.Own.mono {base' : Nat} (h : R.Own w base v l) (hb : base' ≤ base) : R.Own w base' v l :=
  ⟨h.1, h.2.1, h.2.2.imp id (fun ⟨g, cap, cur, a, b, c⟩ => ⟨g, cap, cur, a, Nat.le_trans hb b, c⟩)⟩
theorem RecT.Own.kept (h : R.Own w base v l) (hk : ∀ k, v.ownBlock = some k → w'.heap[k]? = w.heap[k]?) : R.Own w' base v l := by
  refine ⟨h.1, h.2.1, ?_⟩
  rcases h.2.2 with h | ⟨g, cap, cur, hv, hb, hh, hr⟩
  · exact .inl h
  · exact .inr ⟨g, cap, cur, hv, hb, (hk g (by rw [hv]; rfl)).trans hh, hr⟩
theorem RecT.Own.of_new (h : R.Own w base v l) (hb : Below w.heap.size w w') : R.Own w' base v l := h.kept fun k hk => hb.block _ (h.lt k hk).2

theorem RecT.isAgg (R : RecT e α) (w : World) : (isAgg e).run Tryd.prog w = .ok true w := by
  obtain ⟨d, h1, h2⟩ := R.agg
  simp only [Go.isAgg, Sem.run_bind, run_underlying h1, Result.andThen_ok]
  cases d <;> first | rfl | (cases h2)
/-- A load. -/
theorem RecT.At.load (h : R.At w g off x) : (loadVar e ⟨g, off, none⟩).run Tryd.prog w = .ok (R.V x) w := by
  obtain ⟨i, hi, hz, hsize, hby⟩ := info_parts R.info
  have hl := run_loadCells_list (P := Tryd.prog) w ⟨g, off, none⟩ (R.cells x) (fun j v hv => by
    have hj : j < R.n := by rw [← R.len h.1]; exact (List.getElem?_eq_some_iff.1 hv).1
    have hadd : (⟨g, off, none⟩ : Addr).add j = ⟨g, off + j, none⟩ := by unfold Addr.add; split <;> simp_all
    rw [hadd, h.2.2 j hj, hv])
  rw [R.len h.1] at hl
  have ha := R.isAgg w
  simp [loadVar, ha, sizeOf, typeInfo, hi, hsize, hl, RecT.V]
theorem RecT.At.wp {o : Oper} {a : Act} {K : Act → World → Prop} {Q : Exit → Act → World → Prop} {p : Operand} (h : R.At w g off x) (ho : o.op = .load e p) (hp : a.eval p = .pointer (some ⟨g, off, none⟩)) (hK : K (a.put o.dst (R.V x)) w) : o.wp Tryd.prog a w K Q := by
  refine wp_val (v := R.V x) ?_ hK
  have := h.load
  unfold execOp
  simp only [ho, hp, Instr.loadAt, Instr.sureAddr, Sem.run_bind, Sem.run_pure, Result.andThen_ok, this]
theorem RecT.At.quiet {C : World → Prop} {o : Oper} {a : Act} {K : Act → Prop} {p : Operand} (h : ∀ w, C w → R.At w g off x) (ho : o.op = .load e p) (hp : a.eval p = .pointer (some ⟨g, off, none⟩)) (hK : K (a.put o.dst (R.V x))) : o.quiet Tryd.prog a C K := by
  refine quiet_val (fun w hw => ?_) hK
  have := (h w hw).load
  unfold execOp
  simp only [ho, hp, Instr.loadAt, Instr.sureAddr, Sem.run_bind, Sem.run_pure, Result.andThen_ok, this]
theorem RecT.one' (R : RecT e α) {x : α} (h : R.ok x) : (R.cells x).toArray.all (·.oneCell') = true := Array.all_eq_true_iff_forall_mem.2 (fun v hv => R.one h v (by simpa using hv))
theorem RecT.size' (R : RecT e α) {x : α} (h : R.ok x) : (Tryd.prog.info? e).map (·.size) = some (R.cells x).toArray.size := by
  obtain ⟨i, hi, hz, hsize, hby⟩ := info_parts R.info
  rw [hi]; simp [hsize, R.len h]
/-- A store into its block. -/
theorem RecT.O.store {y : α} {o : Oper} {a : Act} {K : Act → World → Prop} {Q : Exit → Act → World → Prop} (h : R.O w g y) (p q : Operand) (ho : o.op = .store e p q) (hp : a.eval p = .pointer (some ⟨g, 0, none⟩)) (hq : a.eval q = R.V x) (hx : R.ok x)
    (hK : ∀ w', R.O w' g x → w.grownBy w' (some g) → w'.heap.size = w.heap.size → K (a.put o.dst undef) w') : o.wp Tryd.prog a w K Q := by
  have hrun := run_storeVar_row (P := Tryd.prog) w g e e _ (R.cells x).toArray h.1 (R.size' hx) (by simp [R.len hx, R.len h.2]) (R.one' hx)
  unfold RecT.V at hq
  unfold Oper.wp execOp
  simp only [ho, hp, hq, Instr.storeAt, Instr.sureAddr, Sem.run_bind, Sem.run_pure, Result.andThen_ok, hrun]
  exact hK _ ⟨setRow_heap _ _ _ _ _ _ h.1, hx⟩ ⟨rfl, rfl, rfl, by simp [World.setRow], fun k hk hne => Go.setRow_other w g k _ (fun e => hne (by rw [e]))⟩ (by simp [World.setRow])
theorem RecT.zero_run (R : RecT e α) (w : World) : (zeroValue e).run Tryd.prog w = .ok (R.V R.zero) w := by
  obtain ⟨i, hi, hz, hsize, hby⟩ := info_parts R.info
  simp [zeroValue, typeInfo, hi, hz, RecT.V]
/-- A new variable. -/
theorem RecT.wp_alloc (R : RecT e α) {o : Oper} {a : Act} {K : Act → World → Prop} {Q : Exit → Act → World → Prop} (ho : o.op = .alloc e)
    (h : ∀ w', R.O w' w.heap.size R.zero → Below w.heap.size w w' → w'.heap.size = w.heap.size + 1 → K (a.put o.dst (.pointer (some ⟨w.heap.size, 0, none⟩))) w') : o.wp Tryd.prog a w K Q := by
  unfold Oper.wp execOp
  have := h _ (RecT.o_new w R.zok) ((Below.refl _ w).alloc (Nat.le_refl _) _) (by simp)
  have hz := R.zero_run w
  simp only [ho, Instr.alloc, Sem.run_bind, hz, Result.andThen_ok, Sem.run_pure, newVar, newRow]
  exact this
theorem RecT.results1 {fn : Func} {p : Tmp} (h : fn.results = #[.cell p e]) (tmps : Array Value) (hp : tmps.getD p undef = .pointer (some ⟨g, 0, none⟩)) (hx : R.O w g x) : (results fn tmps).run Tryd.prog w = .ok (R.V x) w := results_cell h tmps hp hx.at_.load
theorem RecT.results2 {fn : Func} {p q : Tmp} {u : Value} (h : fn.results = #[.cell p e, .tmp q]) (tmps : Array Value) (hp : tmps.getD p undef = .pointer (some ⟨g, 0, none⟩)) (hq : tmps.getD q undef = u) (hx : R.O w g x) : (results fn tmps).run Tryd.prog w = .ok (.tuple #[R.V x, u]) w := by
  have hp' : tmps[p]?.getD undef = .pointer (some ⟨g, 0, none⟩) := by simpa using hp
  have hq' : tmps[q]?.getD undef = u := by simpa using hq
  simp [results, h, hp', hq', asAddr, hx.at_.load]
/-- 'append(s, x...)', s the call's own: the run. -/
theorem RecT.Own.run_app (h : R.Own w base v l) (hs : Tryd.prog.underlying se = some (.slice e)) (ty : Nat) {u : Value} {m : List α} (hm : R.Row w u m) (hlen : l.length + m.length ≤ 1000000000000) (hbase : base ≤ w.heap.size) :
    ∃ v' w', (Builtin.append_ #[se, se] ty #[v, u]).run Tryd.prog w = .ok v' w' ∧ R.Own w' base v' (l ++ m) ∧ w.grownBy w' v.ownBlock ∧ (∀ k, v'.ownBlock = some k → v.ownBlock = some k ∨ w.heap.size ≤ k) := by
  obtain ⟨i, hi, hz, hsize, hby⟩ := info_parts R.info
  have hmok := hm.1
  obtain ⟨hl, ad, c, rfl, hc1, hc2, hc3, hc4⟩ := hm.2
  have hok2 : ∀ x ∈ l ++ m, R.ok x := fun x hx => (List.mem_append.1 hx).elim (h.1 x) (hmok x)
  cases ad with
  | none =>
    have hc0 := hc3 rfl
    have hm0 : m = [] := List.eq_nil_of_length_eq_zero (by omega)
    subst hm0
    subst hc0
    refine ⟨v, w, run_append_owned_none (P := Tryd.prog) (w := w) base se ty e i R.n hs hi v l.length (R.flat l) h.2, by simpa using h, World.grownBy.refl _ _, fun k hk => .inl hk⟩
  | some ad =>
    obtain ⟨v', w', h1, h2, h3, _, h5⟩ := run_append_own_at (P := Tryd.prog) w base se ty e i _ R.n R.bytes hs hi hz hsize hby (by simp [Value.cells, R.len R.zok]) R.pos v l.length (R.flat l) h.2 ad m.length c (R.flat m) (R.flat_len hmok)
      (fun j u hj => by
        have hjl : j < m.length * R.n := by
          rcases Nat.lt_or_ge j (m.length * R.n) with h | h
          · exact h
          · rw [List.getElem?_eq_none (by rw [R.flat_len hmok]; exact h)] at hj; cases hj
        obtain ⟨b, off, hab, _, hcell⟩ := hc4 (by omega)
        cases hab
        have hplain : (⟨b, off, none⟩ : Addr).add j = ⟨b, off + j, none⟩ := by unfold Addr.add; split <;> simp_all
        rw [hplain, hcell j hjl, hj])
      (fun u hu => by
        obtain ⟨y, hy, hu⟩ := List.mem_flatMap.1 hu
        exact R.one (hmok y hy) u hu) (by unfold maxLen; omega) (by
          have := R.few
          calc (l.length + m.length) * R.bytes ≤ 1000000000000 * 128 := Nat.mul_le_mul hlen this
            _ ≤ _ := by omega) hbase
    refine ⟨v', w', h1, ⟨hok2, ?_⟩, h3, ?_⟩
    · rw [R.flat_append, List.length_append]
      exact h2
    · intro k hk
      rcases h5 with h5 | h5
      · exact .inl (by rw [← h5]; exact hk)
      · rw [h5] at hk; cases hk; exact .inr (Nat.le_refl _)
theorem RecT.Own.app (h : R.Own w base v l) (hs : Tryd.prog.underlying se = some (.slice e)) {o : Oper} {a : Act} {K : Act → World → Prop} {Q : Exit → Act → World → Prop} (s y : Operand)
    (ho : o.op = .call { callee := .builtin .append, args := #[s, y], argTypes := #[se, se] }) (hsv : a.eval s = v) {u : Value} {m : List α} (hy : a.eval y = u) (hm : R.Row w u m)
    (hlen : l.length + m.length ≤ 1000000000000) (hbase : base ≤ w.heap.size)
    (hK : ∀ v' w', R.Own w' base v' (l ++ m) → w.grownBy w' v.ownBlock → (∀ k, v'.ownBlock = some k → v.ownBlock = some k ∨ w.heap.size ≤ k) → K (a.put o.dst v') w') : o.wp Tryd.prog a w K Q := by
  obtain ⟨v', w', hr, h2, h3, h4⟩ := h.run_app hs o.type hm hlen hbase
  unfold Oper.wp execOp
  simp only [ho, resolve, invoke, builtin, Sem.run_bind, Sem.run_pure, Result.andThen_ok, List.map_toArray, List.map_cons, List.map_nil, hsv, hy, hr]
  exact hK v' w' h2 h3 h4
/-- One in a block just made, as a slice. -/
theorem RecT.row_one (w : World) (h : R.ok x) : R.Row (w.alloc (.cells (R.cells x).toArray e)) (.slice (some ⟨w.heap.size, 0, none⟩) 1 1) [x] := by
  have hl := R.len h
  refine ⟨fun y hy => by simp at hy; rw [hy]; exact h, by simp [RecT.flat, hl], some ⟨w.heap.size, 0, none⟩, 1, rfl, Nat.le_refl _, by unfold maxLen; omega, fun h => (nomatch h), fun _ => ⟨_, 0, rfl, by simp, fun j hj => ?_⟩⟩
  simp only [World.cell?, heap_alloc_new, Nat.zero_add]
  simp [RecT.flat]
theorem RecT.own_one (w : World) (h : R.ok x) : R.Own (w.alloc (.cells (R.cells x).toArray e)) w.heap.size (.slice (some ⟨w.heap.size, 0, none⟩) 1 1) [x] := by
  have hl := R.len h
  refine ⟨fun y hy => by simp at hy; rw [hy]; exact h, by simp [RecT.flat, hl], .inr ⟨w.heap.size, 1, (R.cells x).toArray, rfl, Nat.le_refl _, heap_alloc_new _ _, Nat.le_refl _, by unfold maxLen; omega, by simp [hl], ?_⟩⟩
  simp [RecT.flat, ← hl]
theorem RecT.wp_build1 (R : RecT e α) (hs : Tryd.prog.underlying se = some (.slice e)) {o : Oper} {a : Act} {K : Act → World → Prop} {Q : Exit → Act → World → Prop} (y : Operand) {x : α} (h : R.ok x) (ho : o.op = .buildSlice se 1 #[(0, y)]) (hy : a.eval y = R.V x)
    (hK : ∀ w', R.Own w' w.heap.size (.slice (some ⟨w.heap.size, 0, none⟩) 1 1) [x] → Below w.heap.size w w' → w'.heap.size = w.heap.size + 1 → K (a.put o.dst (.slice (some ⟨w.heap.size, 0, none⟩) 1 1)) w') : o.wp Tryd.prog a w K Q := by
  obtain ⟨i, hi, hz, hsize, hby⟩ := info_parts R.info
  have hsm := R.small
  have hp := R.pos
  refine wp_buildSlice se e 1 #[(0, y)] ho (R.cells x).toArray i _ hs hi hz (by rw [hsize]; omega) (by rw [hsize]; omega) ?_ (hK _ (RecT.own_one w h) ((Below.refl _ w).alloc (Nat.le_refl _) _) (by simp))
  rw [hsize]
  simp only [List.map_toArray, List.map_cons, List.map_nil, hy]
  rw [show [((0 : Nat), R.V x)] = ([R.V x].zipIdx 0).map (fun x => (x.2, x.1)) from rfl]
  rw [Great.fill_whole R.pos _ _ (fun v hv => by
    simp only [List.mem_cons, List.not_mem_nil, or_false] at hv
    subst hv
    simp [RecT.V, Value.cells, R.len h]) (by simp)]
  simp [RecT.V, Value.cells]
/-- A part of a slice. -/
theorem RecT.flat_take {l : List α} (h : ∀ x ∈ l, R.ok x) (m : Nat) : R.flat (l.take m) = (R.flat l).take (m * R.n) := by
  induction l generalizing m with
  | nil => simp [RecT.flat]
  | cons d l ih =>
    have h0 := R.len (h d (by simp))
    cases m with
    | zero => simp [RecT.flat]
    | succ m =>
      have := ih (fun x hx => h x (by simp [hx])) m
      simp only [RecT.flat, List.take_succ_cons, List.flatMap_cons] at this ⊢
      rw [this, show (m + 1) * R.n = (R.cells d).length + m * R.n by rw [h0, Nat.add_mul]; omega, List.take_length_add_append]
theorem RecT.flat_drop {l : List α} (h : ∀ x ∈ l, R.ok x) (m : Nat) : R.flat (l.drop m) = (R.flat l).drop (m * R.n) := by
  induction l generalizing m with
  | nil => simp [RecT.flat]
  | cons d l ih =>
    have h0 := R.len (h d (by simp))
    cases m with
    | zero => simp
    | succ m =>
      have := ih (fun x hx => h x (by simp [hx])) m
      simp only [RecT.flat, List.drop_succ_cons, List.flatMap_cons] at this ⊢
      rw [this, show (m + 1) * R.n = (R.cells d).length + m * R.n by rw [h0, Nat.add_mul]; omega, List.drop_length_add_append]
theorem RecT.Row.part (h : R.Row w v l) (hs : Tryd.prog.underlying se = some (.slice e)) (low high : Option Value) (lo hi : Nat) (h1 : lo ≤ hi) (h2 : hi ≤ l.length) (hlow : (low = Option.none ∧ lo = 0) ∨ ∃ k, low = some (.int k (lo : Int))) (hhigh : (high = Option.none ∧ hi = l.length) ∨ ∃ k, high = some (.int k (hi : Int))) :
    ∃ v', (∀ W : World, (Instr.slice se v low high Option.none).run Tryd.prog W = .ok v' W) ∧ R.Row w v' ((l.drop lo).take (hi - lo)) ∧ v'.ownBlock = v.ownBlock := by
  obtain ⟨i, hi0, hz, hsize, hby⟩ := info_parts R.info
  obtain ⟨v', hr, hrow, hob⟩ := Row.run_part h.2 hs hi0 hsize low high lo hi h1 h2 hlow hhigh
  have hokd : ∀ x ∈ l.drop lo, R.ok x := fun x hx => h.1 x (List.mem_of_mem_drop hx)
  refine ⟨v', hr, ⟨fun x hx => hokd x (List.mem_of_mem_take hx), ?_⟩, hob⟩
  have e1 : ((l.drop lo).take (hi - lo)).length = hi - lo := by simp; omega
  rw [e1, RecT.flat_take hokd, RecT.flat_drop h.1]
  exact hrow
end

end Go.Proofs.YtjmjaailmlnkjaaDoor

/- Slices of hashes: what they hold; a hash read or laid at a place of one; an append of hashes to a slice of the call's own. No condition. -/
import Derived.Test.YtnohglkilpnjhaaQuiet
import Derived.Laws.CopyRow
import Derived.Maps.AppendAt
namespace Go.Proofs.Ytnohglkilpnjhaa
open Go.RowKit
set_option linter.unusedVariables false
set_option linter.unusedSimpArgs false

def flatD (l : List (List UInt8)) : List Value := l.flatMap (fun d => d.map B8)
def Dig32 (l : List (List UInt8)) : Prop := ∀ d ∈ l, d.length = 32

theorem flatD_len {l : List (List UInt8)} (h : Dig32 l) : (flatD l).length = l.length * 32 := by
  induction l with
  | nil => rfl
  | cons d l ih =>
    have := ih (fun d hd => h d (List.mem_cons_of_mem _ hd))
    have h0 := h d (by simp)
    simp only [flatD, List.flatMap_cons, List.length_append, List.length_map, List.length_cons] at *
    omega
theorem flatD_append (a b : List (List UInt8)) : flatD (a ++ b) = flatD a ++ flatD b := by simp [flatD]

/-- The i-th hash in the cells. -/
theorem flatD_at {l : List (List UInt8)} (h : Dig32 l) {i j : Nat} (hi : i < l.length) (hj : j < 32) : (flatD l)[i * 32 + j]? = ((l.getD i []).map B8)[j]? := by
  induction l generalizing i with
  | nil => simp at hi
  | cons d l ih =>
    have h0 := h d (by simp)
    have ht : Dig32 l := fun d hd => h d (List.mem_cons_of_mem _ hd)
    cases i with
    | zero =>
      simp only [flatD, List.flatMap_cons, Nat.zero_mul, Nat.zero_add, List.getD_cons_zero]
      rw [List.getElem?_append_left (by simp [h0, hj])]
    | succ i =>
      simp only [List.length_cons] at hi
      have := ih ht (i := i) (by omega)
      simp only [flatD, List.flatMap_cons, List.getD_cons_succ]
      rw [List.getElem?_append_right (by simp [h0]; omega)]
      simp only [List.length_map, h0]
      rw [show (i + 1) * 32 + j - 32 = i * 32 + j by omega]
      exact this

/-- The slice value v holds the hashes l. -/
def Digs (w : World) (v : Value) (l : List (List UInt8)) : Prop := Dig32 l ∧ Row w v l.length 32 (flatD l)
/-- .. and is the call's own. -/
def OwnD (w : World) (base : Nat) (v : Value) (l : List (List UInt8)) : Prop := Dig32 l ∧ w.ownsRow base 30 32 v l.length (flatD l)

theorem OwnD.digs {w : World} {base : Nat} {v : Value} {l : List (List UInt8)} (h : OwnD w base v l) : Digs w v l := ⟨h.1, Row.of_owns h.2⟩
theorem OwnD.nil (w : World) (base : Nat) : OwnD w base (.slice none 0 0) [] := ⟨fun _ h => by simp at h, World.ownsRow_nil _ _ _ _⟩
theorem Digs.of_new {w w' : World} {v : Value} {l : List (List UInt8)} (h : Digs w v l) (hg : Below w.heap.size w w') : Digs w' v l := ⟨h.1, h.2.of_new hg⟩
theorem Digs.len {w : World} {v : Value} {l : List (List UInt8)} (h : Digs w v l) : ∃ a c, v = .slice a l.length c := h.2.shape
theorem Digs.le {w : World} {v : Value} {l : List (List UInt8)} (h : Digs w v l) : l.length ≤ maxLen := by
  obtain ⟨_, _, a, c, hv, h1, h2, _⟩ := h
  omega

/-- The cells of the i-th hash. -/
theorem Digs.at_ {w : World} {v : Value} {l : List (List UInt8)} (h : Digs w v l) (h0 : 0 < l.length) : ∃ b off c, v = .slice (some ⟨b, off, none⟩) l.length c ∧ b < w.heap.size ∧
    ∀ i, i < l.length → ∀ j, j < 32 → w.cell? ⟨b, off + i * 32 + j, none⟩ = ((l.getD i []).map B8)[j]? := by
  obtain ⟨hd, hl, a, c, rfl, _, _, _, h4⟩ := h
  obtain ⟨b, off, rfl, hb, hc⟩ := h4 (by omega)
  refine ⟨b, off, c, rfl, hb, fun i hi j hj => ?_⟩
  rw [Nat.add_assoc, hc (i * 32 + j) (by omega), flatD_at hd hi hj]

theorem Dig32.getD {l : List (List UInt8)} (h : Dig32 l) {i : Nat} (hi : i < l.length) : (l.getD i []).length = 32 := by
  rw [List.getD_eq_getElem?_getD, List.getElem?_eq_getElem hi]; exact h _ (List.getElem_mem hi)

/-- A hash read at a place. -/
theorem run_load_dig (w : World) (g off : Nat) (d : List UInt8) (hd : d.length = 32) (hc : ∀ j, j < 32 → w.cell? ⟨g, off + j, none⟩ = (d.map B8)[j]?) :
    (loadVar 30 ⟨g, off, none⟩).run Try.prog w = .ok (.agg (d.map B8).toArray) w := by
  have hl := run_loadCells_list (P := Try.prog) w ⟨g, off, none⟩ (d.map B8) (fun j v hv => by
    have hj : j < 32 := by
      rcases Nat.lt_or_ge j 32 with h | h
      · exact h
      · rw [List.getElem?_eq_none (by simp; omega)] at hv; cases hv
    have hadd : (⟨g, off, none⟩ : Addr).add j = ⟨g, off + j, none⟩ := by unfold Addr.add; split <;> simp_all
    rw [hadd, hc j hj, hv])
  have hi : (Try.prog.info? 30).map (·.size) = some 32 := by kernel_rfl
  cases hq : Try.prog.info? 30 with
  | none => rw [hq] at hi; cases hi
  | some i =>
    rw [hq] at hi
    simp only [Option.map_some, Option.some.injEq] at hi
    simp only [List.length_map, hd] at hl
    simp [loadVar, isAgg, run_underlying Try.underlying30, sizeOf, typeInfo, hq, hi, hl]

theorem flatD_set {l : List (List UInt8)} (h : Dig32 l) {i : Nat} (hi : i < l.length) (d : List UInt8) : flatD (l.set i d) = (flatD l).take (i * 32) ++ d.map B8 ++ (flatD l).drop (i * 32 + 32) := by
  induction l generalizing i with
  | nil => simp at hi
  | cons e l ih =>
    have h0 := h e (by simp)
    have ht : Dig32 l := fun d hd => h d (List.mem_cons_of_mem _ hd)
    cases i with
    | zero =>
      simp only [flatD, List.set_cons_zero, List.flatMap_cons, Nat.zero_mul, List.take_zero, List.nil_append, Nat.zero_add]
      rw [List.drop_append_of_le_length (by simp [h0]), List.drop_eq_nil_of_le (by simp [h0])]
      rfl
    | succ i =>
      simp only [List.length_cons] at hi
      have := ih ht (i := i) (by omega)
      simp only [flatD, List.set_cons_succ, List.flatMap_cons] at this ⊢
      rw [this, show (i + 1) * 32 = (e.map B8).length + i * 32 by simp [h0]; omega, List.take_length_add_append, List.drop_append, show List.drop ((e.map B8).length + i * 32 + 32) (e.map B8) = [] from List.drop_eq_nil_of_le (by omega), show (e.map B8).length + i * 32 + 32 - (e.map B8).length = i * 32 + 32 by omega]
      simp [List.append_assoc]
theorem Dig32.set {l : List (List UInt8)} (h : Dig32 l) (i : Nat) {d : List UInt8} (hd : d.length = 32) : Dig32 (l.set i d) := fun e he => by
  rcases List.mem_or_eq_of_mem_set he with h1 | h1
  · exact h e h1
  · rw [h1]; exact hd

/-- A hash laid at a place of a slice of the call's own. -/
theorem run_store_dig (w : World) (base g n cap : Nat) (l : List (List UInt8)) (h : OwnD w base (.slice (some ⟨g, 0, none⟩) n cap) l) (i : Nat) (hi : i < l.length) (d : List UInt8) (hd : d.length = 32) :
    ∃ cs, (storeVar 30 ⟨g, i * 32, none⟩ (.agg (d.map B8).toArray)).run Try.prog w = .ok () (w.setRow g cs) ∧ OwnD (w.setRow g cs) base (.slice (some ⟨g, 0, none⟩) n cap) (l.set i d) := by
  obtain ⟨h32, hlen, hown⟩ := h
  rcases hown with ⟨hv, _⟩ | ⟨g', cap', cur, hv, hb, hh, hn, hm, hs, ht⟩
  · cases hv
  cases hv
  have hst := run_storeCells_at (P := Try.prog) g (i * 32) 30 (d.map B8) 0 cur w hh (by simp [hd, hs]; omega) (fun v hv => by
    obtain ⟨b, _, rfl⟩ := List.mem_map.1 hv; rfl)
  have hi32 : (Try.prog.info? 30).map (·.size) = some 32 := by kernel_rfl
  simp only [Nat.add_zero, List.length_map, hd] at hst
  refine ⟨(cur.toList.take (i * 32) ++ d.map B8 ++ cur.toList.drop (i * 32 + 32)).toArray, ?_, h32.set i hd, ?_⟩
  · cases hq : Try.prog.info? 30 with
    | none => rw [hq] at hi32; cases hi32
    | some q =>
      rw [hq] at hi32
      simp only [Option.map_some, Option.some.injEq] at hi32
      simp [storeVar, Value.cells, sizeOf, typeInfo, hq, hi32, hd]
      simpa only [List.append_assoc] using hst
  · have hF := flatD_len h32
    refine ⟨by rw [flatD_len (h32.set i hd)], .inr ⟨g, cap, _, by rw [List.length_set], hb, setRow_heap _ _ _ _ _ _ hh, by rw [List.length_set]; exact hn, hm, ?_, ?_⟩⟩
    · simp [hs, hd]; omega
    · rw [flatD_set h32 hi, ← ht, List.length_set]
      have hcl : cur.toList.length = cap * 32 := by simpa using hs
      rw [List.take_take, Nat.min_eq_left (by omega), List.drop_take]
      rw [List.append_assoc, List.append_assoc, List.take_append, List.take_append]
      simp only [List.length_take, List.length_map, hd, hcl]
      rw [Nat.min_eq_left (by omega), List.take_take, Nat.min_eq_right (by omega), List.take_of_length_le (l := d.map B8) (by simp [hd]; omega)]
      rw [show l.length * 32 - i * 32 - 32 = l.length * 32 - (i * 32 + 32) by omega]

theorem OwnD.of_new {w w' : World} {base : Nat} {v : Value} {l : List (List UInt8)} (h : OwnD w base v l) (hg : Below w.heap.size w w') : OwnD w' base v l := by
  refine ⟨h.1, h.2.1, ?_⟩
  rcases h.2.2 with h | ⟨g, cap, cur, hv, hb, hh, hr⟩
  · exact .inl h
  · exact .inr ⟨g, cap, cur, hv, hb, (hg.block _ (Array.getElem?_eq_some_iff.1 hh).1).trans hh, hr⟩

/-- .. at the head of a list of operations. -/
theorem wpList_store_dig {w : World} {ops : Array Oper} {rest : List Oper} {op : Oper} {a : Act} {Q : Exit → Act → World → Prop} (x y : Operand) (base g n cap : Nat) (l : List (List UInt8)) (i : Nat) (d : List UInt8) (hgd : op.guard = none) (ho : op.op = .store 30 x y)
    (hx : a.eval x = .pointer (some ⟨g, i * 32, none⟩)) (hy : a.eval y = .agg (d.map B8).toArray) (h : OwnD w base (.slice (some ⟨g, 0, none⟩) n cap) l) (hi : i < l.length) (hd : d.length = 32)
    (hQ : ∀ cs, OwnD (w.setRow g cs) base (.slice (some ⟨g, 0, none⟩) n cap) (l.set i d) → wpList Try.prog ops Q rest (a.put op.dst undef) (w.setRow g cs)) : wpList Try.prog ops Q (op :: rest) a w :=
  wpList_plain hgd fun _ hK => by
    obtain ⟨cs, hr, ho'⟩ := run_store_dig w base g n cap l h i hi d hd
    unfold Oper.wp execOp
    simp only [ho, hx, hy, Instr.storeAt, Instr.sureAddr, Sem.run_bind, Sem.run_pure, Result.andThen_ok, hr]
    exact hK _ _ (hQ cs ho')

theorem flatD_take {l : List (List UInt8)} (h : Dig32 l) (m : Nat) : flatD (l.take m) = (flatD l).take (m * 32) := by
  induction l generalizing m with
  | nil => simp [flatD]
  | cons d l ih =>
    have h0 := h d (by simp)
    have ht : Dig32 l := fun d hd => h d (List.mem_cons_of_mem _ hd)
    cases m with
    | zero => simp [flatD]
    | succ m =>
      have := ih ht m
      simp only [flatD, List.take_succ_cons, List.flatMap_cons] at this ⊢
      rw [this, show (m + 1) * 32 = (d.map B8).length + m * 32 by simp [h0]; omega, List.take_length_add_append]
theorem flatD_drop {l : List (List UInt8)} (h : Dig32 l) (m : Nat) : flatD (l.drop m) = (flatD l).drop (m * 32) := by
  induction l generalizing m with
  | nil => simp [flatD]
  | cons d l ih =>
    have h0 := h d (by simp)
    have ht : Dig32 l := fun d hd => h d (List.mem_cons_of_mem _ hd)
    cases m with
    | zero => simp
    | succ m =>
      have := ih ht m
      simp only [flatD, List.drop_succ_cons, List.flatMap_cons] at this ⊢
      rw [this, show (m + 1) * 32 = (d.map B8).length + m * 32 by simp [h0]; omega, List.drop_length_add_append]
theorem Dig32.take {l : List (List UInt8)} (h : Dig32 l) (m : Nat) : Dig32 (l.take m) := fun d hd => h d (List.mem_of_mem_take hd)

/-- The first of them. -/
theorem OwnD.first {w : World} {base g n cap m : Nat} {l : List (List UInt8)} (h : OwnD w base (.slice (some ⟨g, 0, none⟩) n cap) l) (hm : m ≤ l.length) : OwnD w base (.slice (some ⟨g, 0, none⟩) m cap) (l.take m) := by
  have e : (l.take m).length = m := by rw [List.length_take]; omega
  refine ⟨h.1.take m, by rw [flatD_len (h.1.take m)], ?_⟩
  rcases h.2.2 with ⟨h, _⟩ | ⟨g', cap', cur, hv, hb, hh, hn, hm', hs, ht⟩
  · cases h
  · cases hv
    refine .inr ⟨g, cap, cur, by rw [e], hb, hh, by rw [e]; omega, hm', hs, ?_⟩
    rw [e, flatD_take h.1, ← ht, List.take_take, Nat.min_eq_left (by omega)]

/-- A hash read at a place, at the head of a list of operations. -/
theorem wpList_load_dig {w : World} {ops : Array Oper} {rest : List Oper} {op : Oper} {a : Act} {Q : Exit → Act → World → Prop} (x : Operand) (g off : Nat) (d : List UInt8) (hgd : op.guard = none) (ho : op.op = .load 30 x)
    (hx : a.eval x = .pointer (some ⟨g, off, none⟩)) (hd : d.length = 32) (hc : ∀ j, j < 32 → w.cell? ⟨g, off + j, none⟩ = (d.map B8)[j]?)
    (h : wpList Try.prog ops Q rest (a.put op.dst (.agg (d.map B8).toArray)) w) : wpList Try.prog ops Q (op :: rest) a w :=
  wpList_plain hgd fun _ hK => by
    have := run_load_dig w g off d hd hc
    unfold Oper.wp execOp
    simp only [ho, hx, Instr.loadAt, Instr.sureAddr, Sem.run_bind, Sem.run_pure, Result.andThen_ok, this]
    exact hK _ _ h

theorem infoDig : (Try.prog.info? 30).map (fun i => (i.zero, i.size, i.bytes)) = some (some (.agg ((List.replicate 32 (0 : UInt8)).map B8).toArray), 32, 32) := by kernel_rfl

/-- 'append(s, x...)' of hashes, s the call's own, x any slice of hashes: the run. -/
theorem run_appD {w : World} (base t ty : Nat) (ht : Try.prog.underlying t = some (.slice 30))
    (v : Value) (l : List (List UInt8)) (hown : OwnD w base v l) (u : Value) (m : List (List UInt8)) (hm : Digs w u m) (hlen : l.length + m.length ≤ 1099511627776) (hbase : base ≤ w.heap.size) :
    ∃ v' w', (Builtin.append_ #[t, t] ty #[v, u]).run Try.prog w = .ok v' w' ∧ OwnD w' base v' (l ++ m) ∧ w.grownBy w' v.ownBlock ∧ (∀ k, v'.ownBlock = some k → v.ownBlock = some k ∨ w.heap.size ≤ k) := by
  obtain ⟨i, hi, hz, hsize, hby⟩ := info_parts infoDig
  obtain ⟨h32, hown⟩ := hown
  obtain ⟨hm32, hl, ad, c, rfl, hc1, hc2, hc3, hc4⟩ := hm
  have hd : Dig32 (l ++ m) := fun d hd => (List.mem_append.1 hd).elim (h32 d) (hm32 d)
  cases ad with
  | none =>
    have hc0 := hc3 rfl
    have hm0 : m = [] := List.eq_nil_of_length_eq_zero (by omega)
    subst hm0
    subst hc0
    refine ⟨v, w, run_append_owned_none (P := Try.prog) (w := w) base t ty 30 i 32 ht hi v l.length (flatD l) hown, by rw [List.append_nil]; exact ⟨h32, hown⟩, World.grownBy.refl _ _, fun k hk => .inl hk⟩
  | some ad =>
    obtain ⟨v', w', h1, h2, h3, _, h5⟩ := run_append_own_at (P := Try.prog) w base t ty 30 i _ 32 32 ht hi hz hsize hby (by simp [Value.cells]) (by decide) v l.length (flatD l) hown ad m.length c (flatD m) (by rw [flatD_len hm32])
      (fun j u hj => by
        have hjl : j < m.length * 32 := by
          rcases Nat.lt_or_ge j (m.length * 32) with h | h
          · exact h
          · rw [List.getElem?_eq_none (by rw [flatD_len hm32]; exact h)] at hj; cases hj
        obtain ⟨b, off, hab, _, hcell⟩ := hc4 (by omega)
        cases hab
        have hplain : (⟨b, off, none⟩ : Addr).add j = ⟨b, off + j, none⟩ := by unfold Addr.add; split <;> simp_all
        rw [hplain, hcell j (by omega), hj])
      (fun u hu => by
        obtain ⟨d, _, hb⟩ := List.mem_flatMap.1 hu
        obtain ⟨b, _, rfl⟩ := List.mem_map.1 hb
        rfl) (by unfold maxLen; omega) (by omega) hbase
    refine ⟨v', w', h1, ⟨hd, ?_⟩, h3, ?_⟩
    · rw [flatD_append, List.length_append]; exact h2
    · intro k hk
      rcases h5 with h5 | h5
      · exact .inl (by rw [← h5]; exact hk)
      · rw [h5] at hk; cases hk; exact .inr (Nat.le_refl _)

/-- .. at the head of a list of operations. -/
theorem wpList_appD {w : World} {ops : Array Oper} {rest : List Oper} {o : Oper} {a : Act} {Q : Exit → Act → World → Prop} (hgd : o.guard = Option.none) (s x : Operand) (t : TypeId)
    (ho : o.op = .call { callee := .builtin .append, args := #[s, x], argTypes := #[t, t] })
    (base : Nat) (ht : Try.prog.underlying t = some (.slice 30))
    (v : Value) (l : List (List UInt8)) (hs : a.eval s = v) (hown : OwnD w base v l) (u : Value) (m : List (List UInt8)) (hx : a.eval x = u) (hm : Digs w u m)
    (hlen : l.length + m.length ≤ 1099511627776) (hbase : base ≤ w.heap.size)
    (h : ∀ v' w', OwnD w' base v' (l ++ m) → w.grownBy w' v.ownBlock → (∀ k, v'.ownBlock = some k → v.ownBlock = some k ∨ w.heap.size ≤ k) → wpList Try.prog ops Q rest (a.put o.dst v') w') : wpList Try.prog ops Q (o :: rest) a w :=
  wpList_plain hgd fun K hK => by
    obtain ⟨v', w', hr, h2, h3, h4⟩ := run_appD base t o.type ht v l hown u m hm hlen hbase
    unfold Oper.wp execOp
    simp only [ho, resolve, invoke, builtin, Sem.run_bind, Sem.run_pure, Result.andThen_ok, List.map_toArray, List.map_cons, List.map_nil, hs, hx, hr]
    exact hK _ _ (h v' w' h2 h3 h4)

/-- A hash read at a place, in a region that draws its order. -/
theorem quiet_load_dig {W : World} {o : Oper} {a : Act} {K : Act → Prop} (x : Operand) (g off : Nat) (d : List UInt8) (ho : o.op = .load 30 x) (hx : a.eval x = .pointer (some ⟨g, off, none⟩)) (hd : d.length = 32) (hg : g < W.heap.size)
    (hc : ∀ j, j < 32 → W.cell? ⟨g, off + j, none⟩ = (d.map B8)[j]?) (hK : K (a.put o.dst (.agg (d.map B8).toArray))) : o.quiet Try.prog a (Grew W) K := by
  refine quiet_val (fun w hw => ?_) hK
  have := run_load_dig w g off d hd (fun j hj => (Below.cell hw (p := ⟨g, off + j, none⟩) hg).trans (hc j hj))
  unfold execOp
  simp only [ho, hx, Instr.loadAt, Instr.sureAddr, Sem.run_bind, Sem.run_pure, Result.andThen_ok, this]

theorem ownD_empty (w : World) : OwnD (w.alloc (.cells #[] 30)) w.heap.size (.slice (some ⟨w.heap.size, 0, none⟩) 0 0) [] := ⟨fun _ h => by simp at h, World.ownsRow_made w #[] 0 (Nat.le_refl _) (by unfold maxLen; omega) rfl⟩

end Go.Proofs.Ytnohglkilpnjhaa

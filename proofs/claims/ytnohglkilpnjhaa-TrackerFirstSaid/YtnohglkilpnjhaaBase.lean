/- Plain words and laws that the walks of this seat use: slices that read as lists of cells or of bytes, appends to a slice of the call's own, slicing, and a conversion to a string. No condition. -/
import Derived.WalkKit
import Derived.WalkLawsBesides
import Derived.WalkSpells
import Derived.Lib.Hide
import Derived.Laws.AppendOwnNone
import Derived.Deep.AppendLies
namespace Go.Proofs.Ytnohglkilpnjhaa
open Go.RowKit
set_option linter.unusedVariables false
set_option linter.unusedSimpArgs false

theorem ret_bool {a b : Bool} (h : a = b) : Ending.returned (.bool a) = .returned (.bool b) := by rw [h]
theorem ret_int {k : IntKind} {a b : Int} (h : a = b) : Ending.returned (.int k a) = .returned (.int k b) := by rw [h]

theorem below_next {w w1 w2 : World} (h : Below w.heap.size w w1) (h2 : Below w1.heap.size w1 w2) : Below w.heap.size w w2 := h.trans (h2.mono h.size)

theorem below_drewn {B : Nat} {w : World} (n : Nat) : Below B w (w.drewN n) := ⟨rfl, rfl, rfl, Nat.le_refl _, fun _ _ => rfl⟩

/-- A byte as a value. -/
def B8 (b : UInt8) : Value := .int .u8 (b.toNat : Int)

/-- The slice value v has n elements of 'size' cells each, and its cells read as cs. -/
def Row (w : World) (v : Value) (n size : Nat) (cs : List Value) : Prop :=
  cs.length = n * size ∧ ∃ (a : Option Addr) (c : Nat), v = .slice a n c ∧ n ≤ c ∧ c ≤ maxLen ∧ (a = none → c = 0) ∧
    (n * size ≠ 0 → ∃ b off, a = some ⟨b, off, none⟩ ∧ b < w.heap.size ∧ ∀ j, j < n * size → w.cell? ⟨b, off + j, none⟩ = cs[j]?)

/-- The slice value v reads as the bytes l. -/
def Bytes (w : World) (v : Value) (l : List UInt8) : Prop := Row w v l.length 1 (l.map B8)

theorem Row.of_owns {w : World} {base e size n : Nat} {v : Value} {cs : List Value} (h : w.ownsRow base e size v n cs) : Row w v n size cs := by
  obtain ⟨h1, h2⟩ := h
  refine ⟨h1, ?_⟩
  rcases h2 with ⟨rfl, rfl⟩ | ⟨g, cap, cur, rfl, hb, hh, hn, hm, hs, ht⟩
  · exact ⟨none, 0, rfl, Nat.le_refl _, by unfold maxLen; omega, fun _ => rfl, fun h => absurd (Nat.zero_mul _) h⟩
  · refine ⟨_, cap, rfl, hn, hm, (fun h => by cases h), fun _ => ⟨g, 0, rfl, (Array.getElem?_eq_some_iff.1 hh).1, fun j hj => ?_⟩⟩
    simp only [World.cell?, hh]
    simp only [Option.isSome_none, Bool.false_eq_true, if_false, Nat.zero_add, ← ht]
    rw [List.getElem?_take, if_pos hj]
    simp

theorem Row.of_kept {w w' : World} {row : Option Nat} {v : Value} {n size : Nat} {cs : List Value} (h : Row w v n size cs) (hg : w.grownBy w' row) (hne : ∀ k, v.ownBlock = some k → some k ≠ row) : Row w' v n size cs := by
  obtain ⟨h1, a, c, rfl, h2, h3, h4, h5⟩ := h
  refine ⟨h1, a, c, rfl, h2, h3, h4, fun h => ?_⟩
  obtain ⟨b, off, rfl, hb, hc⟩ := h5 h
  refine ⟨b, off, rfl, Nat.lt_of_lt_of_le hb hg.size, fun j hj => ?_⟩
  rw [← hc j hj]
  exact World.cell?_of_block (w := w) (hg.block b hb (hne b rfl))

theorem Row.of_below {w w' : World} {B : Nat} {v : Value} {n size : Nat} {cs : List Value} (h : Row w v n size cs) (hg : Below B w w') (hne : ∀ k, v.ownBlock = some k → k < B) : Row w' v n size cs := by
  obtain ⟨h1, a, c, rfl, h2, h3, h4, h5⟩ := h
  refine ⟨h1, a, c, rfl, h2, h3, h4, fun h => ?_⟩
  obtain ⟨b, off, rfl, hb, hc⟩ := h5 h
  refine ⟨b, off, rfl, Nat.lt_of_lt_of_le hb hg.size, fun j hj => ?_⟩
  rw [← hc j hj]
  exact hg.cell (p := ⟨b, off + j, none⟩) (hne b rfl)

theorem Row.of_new {w w' : World} {v : Value} {n size : Nat} {cs : List Value} (h : Row w v n size cs) (hg : Below w.heap.size w w') : Row w' v n size cs := by
  obtain ⟨h1, a, c, rfl, h2, h3, h4, h5⟩ := h
  refine ⟨h1, a, c, rfl, h2, h3, h4, fun h => ?_⟩
  obtain ⟨b, off, rfl, hb, hc⟩ := h5 h
  refine ⟨b, off, rfl, Nat.lt_of_lt_of_le hb hg.size, fun j hj => ?_⟩
  rw [← hc j hj]
  exact hg.cell (p := ⟨b, off + j, none⟩) hb

theorem Row.of_alloc {w : World} {v : Value} {n size : Nat} {cs : List Value} (h : Row w v n size cs) (o : Obj) : Row (w.alloc o) v n size cs :=
  h.of_new ((Below.refl _ _).alloc (Nat.le_refl _) o)

theorem Row.of_nil {w : World} (size : Nat) : Row w (.slice none 0 0) 0 size [] :=
  ⟨by simp, none, 0, rfl, Nat.le_refl _, by unfold maxLen; omega, fun _ => rfl, fun h => by simp at h⟩

theorem Row.shape {w : World} {v : Value} {n size : Nat} {cs : List Value} (h : Row w v n size cs) : ∃ a c, v = .slice a n c := by
  obtain ⟨_, a, c, rfl, _⟩ := h
  exact ⟨a, c, rfl⟩

/-- A part of a slice. -/
theorem Row.part {w : World} {a : Option Addr} {n c size : Nat} {cs : List Value} (h : Row w (.slice a n c) n size cs) (lo hi : Nat) (h1 : lo ≤ hi) (h2 : hi ≤ n) :
    Row w (.slice (if c = lo then a else a.map (·.add (lo * size))) (hi - lo) (c - lo)) (hi - lo) size ((cs.drop (lo * size)).take ((hi - lo) * size)) := by
  obtain ⟨hl, a', c', hv, hn, hm, hnil, hc⟩ := h
  cases hv
  have hmul : (hi - lo) * size + lo * size ≤ n * size := by
    rw [← Nat.add_mul]; exact Nat.mul_le_mul_right _ (by omega)
  refine ⟨by simp [List.length_take, List.length_drop, hl]; omega, _, _, rfl, by omega, by omega, ?_, ?_⟩
  · intro h
    split at h
    · have := hnil h; omega
    · have : a = Option.none := by simpa using h
      have := hnil this; omega
  · intro hne
    have hne' : n * size ≠ 0 := by omega
    obtain ⟨b, off, rfl, hb, hcell⟩ := hc hne'
    have hlo : c ≠ lo := by
      intro e
      have : hi - lo = 0 := by omega
      rw [this] at hne; simp at hne
    refine ⟨b, off + lo * size, ?_, hb, fun j hj => ?_⟩
    · rw [if_neg hlo]
      simp only [Option.map_some, Addr.add]
      split
      · rename_i h0; simp [h0]
      · rfl
    · rw [Nat.add_assoc, hcell (lo * size + j) (by omega), List.getElem?_take, if_pos hj, List.getElem?_drop]

theorem ownBlock_part (a : Option Addr) (c lo size n m : Nat) : (Value.slice (if c = lo then a else a.map (·.add (lo * size))) m (c - lo)).ownBlock = (Value.slice a n c).ownBlock := by
  split
  · cases a <;> rfl
  · cases a
    · rfl
    · simp only [Option.map_some, Value.ownBlock, Addr.add]
      split <;> rfl

/-- .. as the operation has it. -/
theorem Row.run_part {P : Program} {w : World} {v : Value} {n size : Nat} {cs : List Value} {t e : TypeId} {i : TypeInfo} (h : Row w v n size cs) (ht : P.underlying t = some (.slice e)) (hi0 : P.info? e = some i) (hsz : i.size = size)
    (low high : Option Value) (lo hi : Nat) (h1 : lo ≤ hi) (h2 : hi ≤ n) (hlow : (low = Option.none ∧ lo = 0) ∨ ∃ k, low = some (.int k (lo : Int))) (hhigh : (high = Option.none ∧ hi = n) ∨ ∃ k, high = some (.int k (hi : Int))) :
    ∃ v', (∀ W : World, (Instr.slice t v low high Option.none).run P W = .ok v' W) ∧ Row w v' (hi - lo) size ((cs.drop (lo * size)).take ((hi - lo) * size)) ∧ v'.ownBlock = v.ownBlock := by
  obtain ⟨a, c, rfl⟩ := h.shape
  refine ⟨_, fun W => ?_, h.part lo hi h1 h2, ownBlock_part a c lo size n (hi - lo)⟩
  have hc : n ≤ c := by
    obtain ⟨_, a', c', hv, hn, _⟩ := h
    cases hv; exact hn
  have hb : (Instr.sliceBounds true n c low high Option.none).run P W = .ok (lo, hi, c) W := by
    rcases hlow with ⟨rfl, rfl⟩ | ⟨k, rfl⟩ <;> rcases hhigh with ⟨rfl, rfl⟩ | ⟨k', rfl⟩ <;>
      simp [Instr.sliceBounds, run_sliceBound, Sem.run_bind, Sem.run_pure, show hi ≤ c by omega, h1, h2]
    all_goals first | omega | skip
  simp [Instr.slice, run_underlying ht, hb, sizeOf, typeInfo, hi0, hsz]


/-! ### Bytes -/

theorem Bytes.len {w : World} {v : Value} {l : List UInt8} (h : Bytes w v l) : ∃ a c, v = .slice a l.length c := h.shape
theorem Row.le {w : World} {v : Value} {n size : Nat} {cs : List Value} (h : Row w v n size cs) : n ≤ 9223372036854775807 := by
  obtain ⟨_, a, c, rfl, h1, h2, _⟩ := h
  unfold maxLen at h2; omega
theorem Bytes.le {w : World} {v : Value} {l : List UInt8} (h : Bytes w v l) : l.length ≤ 9223372036854775807 := Row.le h
theorem Bytes.of_new {w w' : World} {v : Value} {l : List UInt8} (h : Bytes w v l) (hg : Below w.heap.size w w') : Bytes w' v l := Row.of_new h hg
theorem Bytes.of_alloc {w : World} {v : Value} {l : List UInt8} (h : Bytes w v l) (o : Obj) : Bytes (w.alloc o) v l := Row.of_alloc h o
theorem Bytes.of_nil {w : World} : Bytes w (.slice none 0 0) [] := Row.of_nil 1

/-- The bytes of a slice, one by one. -/
theorem Bytes.cell {w : World} {v : Value} {l : List UInt8} (h : Bytes w v l) (h0 : 0 < l.length) : ∃ b off c, v = .slice (some ⟨b, off, none⟩) l.length c ∧ b < w.heap.size ∧ ∀ j, j < l.length → w.cell? ⟨b, off + j, none⟩ = some (B8 (l.getD j 0)) := by
  obtain ⟨_, a, c, rfl, _, _, _, h5⟩ := h
  obtain ⟨b, off, rfl, hb, hc⟩ := h5 (by omega)
  refine ⟨b, off, c, rfl, hb, fun j hj => ?_⟩
  rw [hc j (by omega)]
  simp [List.getElem?_map, List.getElem?_eq_getElem hj, List.getD]

theorem Bytes.part {P : Program} {w : World} {v : Value} {l : List UInt8} {t e : TypeId} {i : TypeInfo} (h : Bytes w v l) (ht : P.underlying t = some (.slice e)) (hi0 : P.info? e = some i) (hsz : i.size = 1)
    (low high : Option Value) (lo hi : Nat) (h1 : lo ≤ hi) (h2 : hi ≤ l.length) (hlow : (low = Option.none ∧ lo = 0) ∨ ∃ k, low = some (.int k (lo : Int))) (hhigh : (high = Option.none ∧ hi = l.length) ∨ ∃ k, high = some (.int k (hi : Int))) :
    ∃ v', (∀ W : World, (Instr.slice t v low high Option.none).run P W = .ok v' W) ∧ Bytes w v' ((l.drop lo).take (hi - lo)) ∧ v'.ownBlock = v.ownBlock := by
  obtain ⟨v', hr, hrow, hob⟩ := Row.run_part h ht hi0 hsz low high lo hi h1 h2 hlow hhigh
  refine ⟨v', hr, ?_, hob⟩
  have e : ((l.drop lo).take (hi - lo)).length = hi - lo := by simp; omega
  unfold Bytes
  rw [e]
  simpa [List.map_take, List.map_drop] using hrow

theorem Bytes.string {P : Program} {w : World} {v : Value} {l : List UInt8} {t e d : TypeId} (h : Bytes w v l) (ht : P.underlying t = some (.slice e)) (he : P.underlying e = some (.int .u8)) (hd : P.underlying d = some .string) :
    (convert t d v).run P w = .ok (.string ⟨l.toArray⟩) w := by
  by_cases h0 : 0 < l.length
  · obtain ⟨b, off, c, rfl, hb, hc⟩ := h.cell h0
    have := run_convert_bytes_arg w t e ht he b off l.length c (l.map fun x => (x.toNat : Int)) (by simp) (fun i hi => by
      rw [hc i hi]; simp [B8, List.getD, List.getElem?_eq_getElem hi]) d hd
    rw [this]
    have e : (l.map fun x => (x.toNat : Int)).map (fun n => UInt8.ofNat n.toNat) = l := by
      rw [List.map_map]
      have : ((fun n : Int => UInt8.ofNat n.toNat) ∘ fun x : UInt8 => (x.toNat : Int)) = id := by
        funext x; simp
      rw [this, List.map_id]
    simp only [strOfNums, e]
  · have hn : l = [] := List.eq_nil_of_length_eq_zero (by omega)
    subst hn
    obtain ⟨_, a, c, rfl, _, _, h4, _⟩ := h
    cases a with
    | none => rw [run_convert_bytes_nil w t e ht he _ _ d hd]; rfl
    | some a =>
      rw [run_convert_bytes_string w t d e _ _ c ht he hd]
      simp [Conv.bytesToString, loadCells, Sem.run_bind, Sem.run_pure]
      rfl

/-! ### A slice of bytes of the call's own -/

/-- The slice v of bytes is the call's own (its block lies at 'base' or later) and holds l. -/
def Own8 (w : World) (base e : Nat) (v : Value) (l : List UInt8) : Prop := w.ownsRow base e 1 v l.length (l.map B8)

theorem Own8.nil (w : World) (base e : Nat) : Own8 w base e (.slice none 0 0) [] := World.ownsRow_nil _ _ _ _
theorem Own8.bytes {w : World} {base e : Nat} {v : Value} {l : List UInt8} (h : Own8 w base e v l) : Bytes w v l := Row.of_owns h
theorem Own8.alloc {w : World} {base e : Nat} {v : Value} {l : List UInt8} (h : Own8 w base e v l) (o : Obj) : Own8 (w.alloc o) base e v l := World.ownsRow.alloc h o
theorem grownBy.cell_of {w w' : World} {row : Option Nat} {p : Addr} {u : Value} (hg : w.grownBy w' row) (h : w.cell? p = some u) (hne : ∀ k, row = some k → k ≠ p.block) : w'.cell? p = some u :=
  hg.cell h (fun e => hne p.block e.symm rfl)
theorem Own8.lt {w : World} {base e : Nat} {v : Value} {l : List UInt8} (h : Own8 w base e v l) : ∀ k, v.ownBlock = some k → base ≤ k ∧ k < w.heap.size := World.ownsRow.lt h
theorem Own8.mono {w : World} {base base' e : Nat} {v : Value} {l : List UInt8} (h : Own8 w base e v l) (hb : base' ≤ base) : Own8 w base' e v l :=
  ⟨h.1, h.2.imp id (fun ⟨g, cap, cur, a, b, c⟩ => ⟨g, cap, cur, a, Nat.le_trans hb b, c⟩)⟩
theorem Own8.kept {w w' : World} {base e : Nat} {v : Value} {l : List UInt8} {row : Option Nat} (h : Own8 w base e v l) (hg : w.grownBy w' row) (hne : v.ownBlock = Option.none ∨ v.ownBlock ≠ row) : Own8 w' base e v l := World.ownsRow.kept h hg hne
theorem Own8.new {w w' : World} {base e : Nat} {v : Value} {l : List UInt8} (h : Own8 w base e v l) (hg : Below w.heap.size w w') : Own8 w' base e v l :=
  World.ownsRow.kept (row := none) h ⟨hg.os, hg.tape, hg.output, hg.size, fun k hk _ => hg.block k hk⟩ (by
    by_cases h : v.ownBlock = Option.none
    · exact .inl h
    · exact .inr h)

/-- 'append(s, x...)' of bytes, s the call's own, x any slice of bytes: the run. -/
theorem run_app8 {P : Program} {w : World} (base e t ty : Nat) (i : TypeInfo) (ht : P.underlying t = some (.slice e)) (hi : P.info? e = some i) (hz : i.zero = some (.int .u8 0)) (hsize : i.size = 1) (hby : i.bytes = 1)
    (v : Value) (l : List UInt8) (hown : Own8 w base e v l) (u : Value) (m : List UInt8) (hm : Bytes w u m) (hlen : l.length + m.length ≤ 140737488355328) (hbase : base ≤ w.heap.size) :
    ∃ v' w', (Builtin.append_ #[t, t] ty #[v, u]).run P w = .ok v' w' ∧ Own8 w' base e v' (l ++ m) ∧ w.grownBy w' v.ownBlock ∧ (∀ k, v'.ownBlock = some k → v.ownBlock = some k ∨ w.heap.size ≤ k) := by
  obtain ⟨hl, ad, c, rfl, hc1, hc2, hc3, hc4⟩ := hm
  cases ad with
  | none =>
    have hc0 := hc3 rfl
    have hm0 : m = [] := List.eq_nil_of_length_eq_zero (by omega)
    subst hm0
    subst hc0
    refine ⟨v, w, run_append_owned_none (P := P) (w := w) base t ty e i 1 ht hi v l.length (l.map B8) hown, by simpa using hown, World.grownBy.refl _ _, fun k hk => .inl hk⟩
  | some ad =>
    obtain ⟨v', w', h1, h2, h3, _, h5⟩ := run_append_own_at (P := P) w base t ty e i _ 1 1 ht hi hz hsize hby rfl (by decide) v l.length (l.map B8) hown ad m.length c (m.map B8) (by simp)
      (fun j u hj => by
        have hjl : j < m.length := by
          rcases Nat.lt_or_ge j m.length with h | h
          · exact h
          · simp [List.getElem?_eq_none (show (m.map B8).length ≤ j by simpa using h)] at hj
        obtain ⟨b, off, hab, _, hcell⟩ := hc4 (by omega)
        cases hab
        have hplain : (⟨b, off, none⟩ : Addr).add j = ⟨b, off + j, none⟩ := by unfold Addr.add; split <;> simp_all
        rw [hplain, hcell j (by omega), hj])
      (fun u hu => by
        obtain ⟨b, _, rfl⟩ := List.mem_map.1 hu
        rfl) (by unfold maxLen; omega) (by omega) hbase
    refine ⟨v', w', h1, ?_, h3, ?_⟩
    · unfold Own8
      simpa using h2
    · intro k hk
      rcases h5 with h5 | h5
      · exact .inl (by rw [← h5]; exact hk)
      · rw [h5] at hk; cases hk; exact .inr (Nat.le_refl _)

/-- .. as an operation. -/
theorem wp_app8 {P : Program} {w : World} {o : Oper} {a : Act} {K : Act → World → Prop} {Q : Exit → Act → World → Prop} (s x : Operand) (t : TypeId)
    (ho : o.op = .call { callee := .builtin .append, args := #[s, x], argTypes := #[t, t] })
    (base e : Nat) (i : TypeInfo) (ht : P.underlying t = some (.slice e)) (hi : P.info? e = some i) (hz : i.zero = some (.int .u8 0)) (hsize : i.size = 1) (hby : i.bytes = 1)
    (v : Value) (l : List UInt8) (hs : a.eval s = v) (hown : Own8 w base e v l) (u : Value) (m : List UInt8) (hx : a.eval x = u) (hm : Bytes w u m)
    (hlen : l.length + m.length ≤ 140737488355328) (hbase : base ≤ w.heap.size)
    (h : ∀ v' w', Own8 w' base e v' (l ++ m) → w.grownBy w' v.ownBlock → (∀ k, v'.ownBlock = some k → v.ownBlock = some k ∨ w.heap.size ≤ k) → K (a.put o.dst v') w') : o.wp P a w K Q := by
  obtain ⟨v', w', hr, h2, h3, h4⟩ := run_app8 base e t o.type i ht hi hz hsize hby v l hown u m hm hlen hbase
  unfold Oper.wp execOp
  simp only [ho, resolve, invoke, builtin, Sem.run_bind, Sem.run_pure, Result.andThen_ok, List.map_toArray, List.map_cons, List.map_nil, hs, hx, hr]
  exact h v' w' h2 h3 h4

/-- .. at the head of a list of operations. -/
theorem wpList_app8 {P : Program} {w : World} {ops : Array Oper} {rest : List Oper} {o : Oper} {a : Act} {Q : Exit → Act → World → Prop} (hgd : o.guard = Option.none) (s x : Operand) (t : TypeId)
    (ho : o.op = .call { callee := .builtin .append, args := #[s, x], argTypes := #[t, t] })
    (base e : Nat) (i : TypeInfo) (ht : P.underlying t = some (.slice e)) (hi : P.info? e = some i) (hz : i.zero = some (.int .u8 0)) (hsize : i.size = 1) (hby : i.bytes = 1)
    (v : Value) (l : List UInt8) (hs : a.eval s = v) (hown : Own8 w base e v l) (u : Value) (m : List UInt8) (hx : a.eval x = u) (hm : Bytes w u m)
    (hlen : l.length + m.length ≤ 140737488355328) (hbase : base ≤ w.heap.size)
    (h : ∀ v' w', Own8 w' base e v' (l ++ m) → w.grownBy w' v.ownBlock → (∀ k, v'.ownBlock = some k → v.ownBlock = some k ∨ w.heap.size ≤ k) → wpList P ops Q rest (a.put o.dst v') w') : wpList P ops Q (o :: rest) a w :=
  wpList_plain hgd fun _ hK => wp_app8 s x t ho base e i ht hi hz hsize hby v l hs hown u m hx hm hlen hbase fun v' w' h2 h3 h4 => hK _ _ (h v' w' h2 h3 h4)

/-- .. in a region that draws its order. -/
theorem step_app8 {P : Program} {w : World} {ops : Array Oper} {o : Oper} {a : Act} {K : Act → World → Prop} {Q : Exit → Act → World → Prop} {E : Prop} (hgd : o.guard = Option.none) (s x : Operand) (t : TypeId)
    (ho : o.op = .call { callee := .builtin .append, args := #[s, x], argTypes := #[t, t] })
    (base e : Nat) (i : TypeInfo) (ht : P.underlying t = some (.slice e)) (hi : P.info? e = some i) (hz : i.zero = some (.int .u8 0)) (hsize : i.size = 1) (hby : i.bytes = 1)
    (v : Value) (l : List UInt8) (hs : a.eval s = v) (hown : Own8 w base e v l) (u : Value) (m : List UInt8) (hx : a.eval x = u) (hm : Bytes w u m)
    (hlen : l.length + m.length ≤ 140737488355328) (hbase : base ≤ w.heap.size)
    (h : ∀ v' w', Own8 w' base e v' (l ++ m) → w.grownBy w' v.ownBlock → (∀ k, v'.ownBlock = some k → v.ownBlock = some k ∨ w.heap.size ≤ k) → K (a.put o.dst v') w') : if Region.wanted o (yielded ops a.tmps) = true then Oper.wp P o a w K Q else E := by
  rw [if_pos (by simp [Region.wanted, hgd])]
  exact wp_app8 s x t ho base e i ht hi hz hsize hby v l hs hown u m hx hm hlen hbase h

/-- One byte that was laid in a new block. -/
theorem Bytes.one (w : World) (b : UInt8) (e : TypeId) : Bytes (w.alloc (.cells #[B8 b] e)) (.slice (some ⟨w.heap.size, 0, none⟩) 1 1) [b] := by
  refine ⟨rfl, _, 1, rfl, Nat.le_refl _, by unfold maxLen; omega, (fun h => by cases h), fun _ => ⟨_, 0, rfl, by simp, fun j hj => ?_⟩⟩
  have : j = 0 := by simpa using hj
  subst this
  simp [go_sem]

end Go.Proofs.Ytnohglkilpnjhaa

/- Settled texts of this seat, one behind the other: each begins with a comment that says what it proves and asks. -/
import Derived.WalkKit
import Derived.WalkLawsBesides
import Derived.WalkSpells
import Derived.Lib.Hide
import Derived.Laws.AppendOwnNone
import Derived.Deep.AppendLies
import Derived.StillTail
import Derived.Deep.Quiet
import Derived.Deep.QuietTactic
import Derived.BigQuiet
import Derived.Below
import Derived.Tactics
import Derived.Test.YtnohglkilpnjhaaProg
import Derived.OneCell
import Derived.Laws.CopyRow
import Derived.Maps.AppendAt
import Derived.Great.BuildSlice
import Derived.OrdersIn
import Derived.RangeFuncCalls
import Derived.OwnWalkIn
import Derived.TacticsInMore
import Derived.Laws.StructEq
import Derived.RangeFuncNested
import Derived.RangeFuncBound
import Derived.RangeFuncLeaves
/- Plain words and laws that the walks of this seat use: slices that read as lists of cells or of bytes, appends to a slice of the call's own, slicing, and a conversion to a string. No condition. -/
namespace Go.Proofs.Ytnohglkilpnjhaa
open Go.RowKit
set_option linter.unusedVariables false
set_option linter.unusedSimpArgs false

theorem ret_bool {a b : Bool} (h : a = b) : Ending.returned (.bool a) = .returned (.bool b) := by rw [h]
theorem ret_int {k : IntKind} {a b : Int} (h : a = b) : Ending.returned (.int k a) = .returned (.int k b) := by rw [h]

theorem below_next {w w1 w2 : World} (h : Below w.heap.size w w1) (h2 : Below w1.heap.size w1 w2) : Below w.heap.size w w2 := h.trans (h2.mono h.size)

theorem below_drewn {B : Nat} {w : World} (n : Nat) : Below B w (w.drewN n) := ⟨rfl, rfl, rfl, Nat.le_refl _, fun _ _ => rfl⟩

/-- A byte as a value. -/
def B8 (b : UInt8) : Value := .int .u8 (b.toNat : Int)

/-- The slice value v has n elements of 'size' cells each, and its cells read as cs. -/
def Row (w : World) (v : Value) (n size : Nat) (cs : List Value) : Prop :=
  cs.length = n * size ∧ ∃ (a : Option Addr) (c : Nat), v = .slice a n c ∧ n ≤ c ∧ c ≤ maxLen ∧ (a = none → c = 0) ∧
    (n * size ≠ 0 → ∃ b off, a = some ⟨b, off, none⟩ ∧ b < w.heap.size ∧ ∀ j, j < n * size → w.cell? ⟨b, off + j, none⟩ = cs[j]?)

/-- The slice value v reads as the bytes l. -/
def Bytes (w : World) (v : Value) (l : List UInt8) : Prop := Row w v l.length 1 (l.map B8)

theorem Row.of_owns {w : World} {base e size n : Nat} {v : Value} {cs : List Value} (h : w.ownsRow base e size v n cs) : Row w v n size cs := by
  obtain ⟨h1, h2⟩ := h
  refine ⟨h1, ?_⟩
  rcases h2 with ⟨rfl, rfl⟩ | ⟨g, cap, cur, rfl, hb, hh, hn, hm, hs, ht⟩
  · exact ⟨none, 0, rfl, Nat.le_refl _, by unfold maxLen; omega, fun _ => rfl, fun h => absurd (Nat.zero_mul _) h⟩
  · refine ⟨_, cap, rfl, hn, hm, (fun h => by cases h), fun _ => ⟨g, 0, rfl, (Array.getElem?_eq_some_iff.1 hh).1, fun j hj => ?_⟩⟩
    simp only [World.cell?, hh]
    simp only [Option.isSome_none, Bool.false_eq_true, if_false, Nat.zero_add, ← ht]
    rw [List.getElem?_take, if_pos hj]
    simp

theorem Row.of_kept {w w' : World} {row : Option Nat} {v : Value} {n size : Nat} {cs : List Value} (h : Row w v n size cs) (hg : w.grownBy w' row) (hne : ∀ k, v.ownBlock = some k → some k ≠ row) : Row w' v n size cs := by
  obtain ⟨h1, a, c, rfl, h2, h3, h4, h5⟩ := h
  refine ⟨h1, a, c, rfl, h2, h3, h4, fun h => ?_⟩
  obtain ⟨b, off, rfl, hb, hc⟩ := h5 h
  refine ⟨b, off, rfl, Nat.lt_of_lt_of_le hb hg.size, fun j hj => ?_⟩
  rw [← hc j hj]
  exact World.cell?_of_block (w := w) (hg.block b hb (hne b rfl))

theorem Row.of_below {w w' : World} {B : Nat} {v : Value} {n size : Nat} {cs : List Value} (h : Row w v n size cs) (hg : Below B w w') (hne : ∀ k, v.ownBlock = some k → k < B) : Row w' v n size cs := by
  obtain ⟨h1, a, c, rfl, h2, h3, h4, h5⟩ := h
  refine ⟨h1, a, c, rfl, h2, h3, h4, fun h => ?_⟩
  obtain ⟨b, off, rfl, hb, hc⟩ := h5 h
  refine ⟨b, off, rfl, Nat.lt_of_lt_of_le hb hg.size, fun j hj => ?_⟩
  rw [← hc j hj]
  exact hg.cell (p := ⟨b, off + j, none⟩) (hne b rfl)

theorem Row.of_new {w w' : World} {v : Value} {n size : Nat} {cs : List Value} (h : Row w v n size cs) (hg : Below w.heap.size w w') : Row w' v n size cs := by
  obtain ⟨h1, a, c, rfl, h2, h3, h4, h5⟩ := h
  refine ⟨h1, a, c, rfl, h2, h3, h4, fun h => ?_⟩
  obtain ⟨b, off, rfl, hb, hc⟩ := h5 h
  refine ⟨b, off, rfl, Nat.lt_of_lt_of_le hb hg.size, fun j hj => ?_⟩
  rw [← hc j hj]
  exact hg.cell (p := ⟨b, off + j, none⟩) hb

theorem Row.of_alloc {w : World} {v : Value} {n size : Nat} {cs : List Value} (h : Row w v n size cs) (o : Obj) : Row (w.alloc o) v n size cs :=
  h.of_new ((Below.refl _ _).alloc (Nat.le_refl _) o)

theorem Row.of_nil {w : World} (size : Nat) : Row w (.slice none 0 0) 0 size [] :=
  ⟨by simp, none, 0, rfl, Nat.le_refl _, by unfold maxLen; omega, fun _ => rfl, fun h => by simp at h⟩

theorem Row.shape {w : World} {v : Value} {n size : Nat} {cs : List Value} (h : Row w v n size cs) : ∃ a c, v = .slice a n c := by
  obtain ⟨_, a, c, rfl, _⟩ := h
  exact ⟨a, c, rfl⟩

/-- A part of a slice. -/
theorem Row.part {w : World} {a : Option Addr} {n c size : Nat} {cs : List Value} (h : Row w (.slice a n c) n size cs) (lo hi : Nat) (h1 : lo ≤ hi) (h2 : hi ≤ n) :
    Row w (.slice (if c = lo then a else a.map (·.add (lo * size))) (hi - lo) (c - lo)) (hi - lo) size ((cs.drop (lo * size)).take ((hi - lo) * size)) := by
  obtain ⟨hl, a', c', hv, hn, hm, hnil, hc⟩ := h
  cases hv
  have hmul : (hi - lo) * size + lo * size ≤ n * size := by
    rw [← Nat.add_mul]; exact Nat.mul_le_mul_right _ (by omega)
  refine ⟨by simp [List.length_take, List.length_drop, hl]; omega, _, _, rfl, by omega, by omega, ?_, ?_⟩
  · intro h
    split at h
    · have := hnil h; omega
    · have : a = Option.none := by simpa using h
      have := hnil this; omega
  · intro hne
    have hne' : n * size ≠ 0 := by omega
    obtain ⟨b, off, rfl, hb, hcell⟩ := hc hne'
    have hlo : c ≠ lo := by
      intro e
      have : hi - lo = 0 := by omega
      rw [this] at hne; simp at hne
    refine ⟨b, off + lo * size, ?_, hb, fun j hj => ?_⟩
    · rw [if_neg hlo]
      simp only [Option.map_some, Addr.add]
      split
      · rename_i h0; simp [h0]
      · rfl
    · rw [Nat.add_assoc, hcell (lo * size + j) (by omega), List.getElem?_take, if_pos hj, List.getElem?_drop]

theorem ownBlock_part (a : Option Addr) (c lo size n m : Nat) : (Value.slice (if c = lo then a else a.map (·.add (lo * size))) m (c - lo)).ownBlock = (Value.slice a n c).ownBlock := by
  split
  · cases a <;> rfl
  · cases a
    · rfl
    · simp only [Option.map_some, Value.ownBlock, Addr.add]
      split <;> rfl

/-- .. as the operation has it. -/
theorem Row.run_part {P : Program} {w : World} {v : Value} {n size : Nat} {cs : List Value} {t e : TypeId} {i : TypeInfo} (h : Row w v n size cs) (ht : P.underlying t = some (.slice e)) (hi0 : P.info? e = some i) (hsz : i.size = size)
    (low high : Option Value) (lo hi : Nat) (h1 : lo ≤ hi) (h2 : hi ≤ n) (hlow : (low = Option.none ∧ lo = 0) ∨ ∃ k, low = some (.int k (lo : Int))) (hhigh : (high = Option.none ∧ hi = n) ∨ ∃ k, high = some (.int k (hi : Int))) :
    ∃ v', (∀ W : World, (Instr.slice t v low high Option.none).run P W = .ok v' W) ∧ Row w v' (hi - lo) size ((cs.drop (lo * size)).take ((hi - lo) * size)) ∧ v'.ownBlock = v.ownBlock := by
  obtain ⟨a, c, rfl⟩ := h.shape
  refine ⟨_, fun W => ?_, h.part lo hi h1 h2, ownBlock_part a c lo size n (hi - lo)⟩
  have hc : n ≤ c := by
    obtain ⟨_, a', c', hv, hn, _⟩ := h
    cases hv; exact hn
  have hb : (Instr.sliceBounds true n c low high Option.none).run P W = .ok (lo, hi, c) W := by
    rcases hlow with ⟨rfl, rfl⟩ | ⟨k, rfl⟩ <;> rcases hhigh with ⟨rfl, rfl⟩ | ⟨k', rfl⟩ <;>
      simp [Instr.sliceBounds, run_sliceBound, Sem.run_bind, Sem.run_pure, show hi ≤ c by omega, h1, h2]
    all_goals first | omega | skip
  simp [Instr.slice, run_underlying ht, hb, sizeOf, typeInfo, hi0, hsz]


/-! ### Bytes -/

theorem Bytes.len {w : World} {v : Value} {l : List UInt8} (h : Bytes w v l) : ∃ a c, v = .slice a l.length c := h.shape
theorem Row.le {w : World} {v : Value} {n size : Nat} {cs : List Value} (h : Row w v n size cs) : n ≤ 9223372036854775807 := by
  obtain ⟨_, a, c, rfl, h1, h2, _⟩ := h
  unfold maxLen at h2; omega
theorem Bytes.le {w : World} {v : Value} {l : List UInt8} (h : Bytes w v l) : l.length ≤ 9223372036854775807 := Row.le h
theorem Bytes.of_new {w w' : World} {v : Value} {l : List UInt8} (h : Bytes w v l) (hg : Below w.heap.size w w') : Bytes w' v l := Row.of_new h hg
theorem Bytes.of_alloc {w : World} {v : Value} {l : List UInt8} (h : Bytes w v l) (o : Obj) : Bytes (w.alloc o) v l := Row.of_alloc h o
theorem Bytes.of_nil {w : World} : Bytes w (.slice none 0 0) [] := Row.of_nil 1

/-- The bytes of a slice, one by one. -/
theorem Bytes.cell {w : World} {v : Value} {l : List UInt8} (h : Bytes w v l) (h0 : 0 < l.length) : ∃ b off c, v = .slice (some ⟨b, off, none⟩) l.length c ∧ b < w.heap.size ∧ ∀ j, j < l.length → w.cell? ⟨b, off + j, none⟩ = some (B8 (l.getD j 0)) := by
  obtain ⟨_, a, c, rfl, _, _, _, h5⟩ := h
  obtain ⟨b, off, rfl, hb, hc⟩ := h5 (by omega)
  refine ⟨b, off, c, rfl, hb, fun j hj => ?_⟩
  rw [hc j (by omega)]
  simp [List.getElem?_map, List.getElem?_eq_getElem hj, List.getD]

theorem Bytes.part {P : Program} {w : World} {v : Value} {l : List UInt8} {t e : TypeId} {i : TypeInfo} (h : Bytes w v l) (ht : P.underlying t = some (.slice e)) (hi0 : P.info? e = some i) (hsz : i.size = 1)
    (low high : Option Value) (lo hi : Nat) (h1 : lo ≤ hi) (h2 : hi ≤ l.length) (hlow : (low = Option.none ∧ lo = 0) ∨ ∃ k, low = some (.int k (lo : Int))) (hhigh : (high = Option.none ∧ hi = l.length) ∨ ∃ k, high = some (.int k (hi : Int))) :
    ∃ v', (∀ W : World, (Instr.slice t v low high Option.none).run P W = .ok v' W) ∧ Bytes w v' ((l.drop lo).take (hi - lo)) ∧ v'.ownBlock = v.ownBlock := by
  obtain ⟨v', hr, hrow, hob⟩ := Row.run_part h ht hi0 hsz low high lo hi h1 h2 hlow hhigh
  refine ⟨v', hr, ?_, hob⟩
  have e : ((l.drop lo).take (hi - lo)).length = hi - lo := by simp; omega
  unfold Bytes
  rw [e]
  simpa [List.map_take, List.map_drop] using hrow

theorem Bytes.string {P : Program} {w : World} {v : Value} {l : List UInt8} {t e d : TypeId} (h : Bytes w v l) (ht : P.underlying t = some (.slice e)) (he : P.underlying e = some (.int .u8)) (hd : P.underlying d = some .string) :
    (convert t d v).run P w = .ok (.string ⟨l.toArray⟩) w := by
  by_cases h0 : 0 < l.length
  · obtain ⟨b, off, c, rfl, hb, hc⟩ := h.cell h0
    have := run_convert_bytes_arg w t e ht he b off l.length c (l.map fun x => (x.toNat : Int)) (by simp) (fun i hi => by
      rw [hc i hi]; simp [B8, List.getD, List.getElem?_eq_getElem hi]) d hd
    rw [this]
    have e : (l.map fun x => (x.toNat : Int)).map (fun n => UInt8.ofNat n.toNat) = l := by
      rw [List.map_map]
      have : ((fun n : Int => UInt8.ofNat n.toNat) ∘ fun x : UInt8 => (x.toNat : Int)) = id := by
        funext x; simp
      rw [this, List.map_id]
    simp only [strOfNums, e]
  · have hn : l = [] := List.eq_nil_of_length_eq_zero (by omega)
    subst hn
    obtain ⟨_, a, c, rfl, _, _, h4, _⟩ := h
    cases a with
    | none => rw [run_convert_bytes_nil w t e ht he _ _ d hd]; rfl
    | some a =>
      rw [run_convert_bytes_string w t d e _ _ c ht he hd]
      simp [Conv.bytesToString, loadCells, Sem.run_bind, Sem.run_pure]
      rfl

/-! ### A slice of bytes of the call's own -/

/-- The slice v of bytes is the call's own (its block lies at 'base' or later) and holds l. -/
def Own8 (w : World) (base e : Nat) (v : Value) (l : List UInt8) : Prop := w.ownsRow base e 1 v l.length (l.map B8)

theorem Own8.nil (w : World) (base e : Nat) : Own8 w base e (.slice none 0 0) [] := World.ownsRow_nil _ _ _ _
theorem Own8.bytes {w : World} {base e : Nat} {v : Value} {l : List UInt8} (h : Own8 w base e v l) : Bytes w v l := Row.of_owns h
theorem Own8.alloc {w : World} {base e : Nat} {v : Value} {l : List UInt8} (h : Own8 w base e v l) (o : Obj) : Own8 (w.alloc o) base e v l := World.ownsRow.alloc h o
theorem grownBy.cell_of {w w' : World} {row : Option Nat} {p : Addr} {u : Value} (hg : w.grownBy w' row) (h : w.cell? p = some u) (hne : ∀ k, row = some k → k ≠ p.block) : w'.cell? p = some u :=
  hg.cell h (fun e => hne p.block e.symm rfl)
theorem Own8.lt {w : World} {base e : Nat} {v : Value} {l : List UInt8} (h : Own8 w base e v l) : ∀ k, v.ownBlock = some k → base ≤ k ∧ k < w.heap.size := World.ownsRow.lt h
theorem Own8.mono {w : World} {base base' e : Nat} {v : Value} {l : List UInt8} (h : Own8 w base e v l) (hb : base' ≤ base) : Own8 w base' e v l :=
  ⟨h.1, h.2.imp id (fun ⟨g, cap, cur, a, b, c⟩ => ⟨g, cap, cur, a, Nat.le_trans hb b, c⟩)⟩
theorem Own8.kept {w w' : World} {base e : Nat} {v : Value} {l : List UInt8} {row : Option Nat} (h : Own8 w base e v l) (hg : w.grownBy w' row) (hne : v.ownBlock = Option.none ∨ v.ownBlock ≠ row) : Own8 w' base e v l := World.ownsRow.kept h hg hne
theorem Own8.new {w w' : World} {base e : Nat} {v : Value} {l : List UInt8} (h : Own8 w base e v l) (hg : Below w.heap.size w w') : Own8 w' base e v l :=
  World.ownsRow.kept (row := none) h ⟨hg.os, hg.tape, hg.output, hg.size, fun k hk _ => hg.block k hk⟩ (by
    by_cases h : v.ownBlock = Option.none
    · exact .inl h
    · exact .inr h)

/-- 'append(s, x...)' of bytes, s the call's own, x any slice of bytes: the run. -/
theorem run_app8 {P : Program} {w : World} (base e t ty : Nat) (i : TypeInfo) (ht : P.underlying t = some (.slice e)) (hi : P.info? e = some i) (hz : i.zero = some (.int .u8 0)) (hsize : i.size = 1) (hby : i.bytes = 1)
    (v : Value) (l : List UInt8) (hown : Own8 w base e v l) (u : Value) (m : List UInt8) (hm : Bytes w u m) (hlen : l.length + m.length ≤ 140737488355328) (hbase : base ≤ w.heap.size) :
    ∃ v' w', (Builtin.append_ #[t, t] ty #[v, u]).run P w = .ok v' w' ∧ Own8 w' base e v' (l ++ m) ∧ w.grownBy w' v.ownBlock ∧ (∀ k, v'.ownBlock = some k → v.ownBlock = some k ∨ w.heap.size ≤ k) := by
  obtain ⟨hl, ad, c, rfl, hc1, hc2, hc3, hc4⟩ := hm
  cases ad with
  | none =>
    have hc0 := hc3 rfl
    have hm0 : m = [] := List.eq_nil_of_length_eq_zero (by omega)
    subst hm0
    subst hc0
    refine ⟨v, w, run_append_owned_none (P := P) (w := w) base t ty e i 1 ht hi v l.length (l.map B8) hown, by simpa using hown, World.grownBy.refl _ _, fun k hk => .inl hk⟩
  | some ad =>
    obtain ⟨v', w', h1, h2, h3, _, h5⟩ := run_append_own_at (P := P) w base t ty e i _ 1 1 ht hi hz hsize hby rfl (by decide) v l.length (l.map B8) hown ad m.length c (m.map B8) (by simp)
      (fun j u hj => by
        have hjl : j < m.length := by
          rcases Nat.lt_or_ge j m.length with h | h
          · exact h
          · simp [List.getElem?_eq_none (show (m.map B8).length ≤ j by simpa using h)] at hj
        obtain ⟨b, off, hab, _, hcell⟩ := hc4 (by omega)
        cases hab
        have hplain : (⟨b, off, none⟩ : Addr).add j = ⟨b, off + j, none⟩ := by unfold Addr.add; split <;> simp_all
        rw [hplain, hcell j (by omega), hj])
      (fun u hu => by
        obtain ⟨b, _, rfl⟩ := List.mem_map.1 hu
        rfl) (by unfold maxLen; omega) (by omega) hbase
    refine ⟨v', w', h1, ?_, h3, ?_⟩
    · unfold Own8
      simpa using h2
    · intro k hk
      rcases h5 with h5 | h5
      · exact .inl (by rw [← h5]; exact hk)
      · rw [h5] at hk; cases hk; exact .inr (Nat.le_refl _)

/-- .. as an operation. -/
theorem wp_app8 {P : Program} {w : World} {o : Oper} {a : Act} {K : Act → World → Prop} {Q : Exit → Act → World → Prop} (s x : Operand) (t : TypeId)
    (ho : o.op = .call { callee := .builtin .append, args := #[s, x], argTypes := #[t, t] })
    (base e : Nat) (i : TypeInfo) (ht : P.underlying t = some (.slice e)) (hi : P.info? e = some i) (hz : i.zero = some (.int .u8 0)) (hsize : i.size = 1) (hby : i.bytes = 1)
    (v : Value) (l : List UInt8) (hs : a.eval s = v) (hown : Own8 w base e v l) (u : Value) (m : List UInt8) (hx : a.eval x = u) (hm : Bytes w u m)
    (hlen : l.length + m.length ≤ 140737488355328) (hbase : base ≤ w.heap.size)
    (h : ∀ v' w', Own8 w' base e v' (l ++ m) → w.grownBy w' v.ownBlock → (∀ k, v'.ownBlock = some k → v.ownBlock = some k ∨ w.heap.size ≤ k) → K (a.put o.dst v') w') : o.wp P a w K Q := by
  obtain ⟨v', w', hr, h2, h3, h4⟩ := run_app8 base e t o.type i ht hi hz hsize hby v l hown u m hm hlen hbase
  unfold Oper.wp execOp
  simp only [ho, resolve, invoke, builtin, Sem.run_bind, Sem.run_pure, Result.andThen_ok, List.map_toArray, List.map_cons, List.map_nil, hs, hx, hr]
  exact h v' w' h2 h3 h4

/-- .. at the head of a list of operations. -/
theorem wpList_app8 {P : Program} {w : World} {ops : Array Oper} {rest : List Oper} {o : Oper} {a : Act} {Q : Exit → Act → World → Prop} (hgd : o.guard = Option.none) (s x : Operand) (t : TypeId)
    (ho : o.op = .call { callee := .builtin .append, args := #[s, x], argTypes := #[t, t] })
    (base e : Nat) (i : TypeInfo) (ht : P.underlying t = some (.slice e)) (hi : P.info? e = some i) (hz : i.zero = some (.int .u8 0)) (hsize : i.size = 1) (hby : i.bytes = 1)
    (v : Value) (l : List UInt8) (hs : a.eval s = v) (hown : Own8 w base e v l) (u : Value) (m : List UInt8) (hx : a.eval x = u) (hm : Bytes w u m)
    (hlen : l.length + m.length ≤ 140737488355328) (hbase : base ≤ w.heap.size)
    (h : ∀ v' w', Own8 w' base e v' (l ++ m) → w.grownBy w' v.ownBlock → (∀ k, v'.ownBlock = some k → v.ownBlock = some k ∨ w.heap.size ≤ k) → wpList P ops Q rest (a.put o.dst v') w') : wpList P ops Q (o :: rest) a w :=
  wpList_plain hgd fun _ hK => wp_app8 s x t ho base e i ht hi hz hsize hby v l hs hown u m hx hm hlen hbase fun v' w' h2 h3 h4 => hK _ _ (h v' w' h2 h3 h4)

/-- .. in a region that draws its order. -/
theorem step_app8 {P : Program} {w : World} {ops : Array Oper} {o : Oper} {a : Act} {K : Act → World → Prop} {Q : Exit → Act → World → Prop} {E : Prop} (hgd : o.guard = Option.none) (s x : Operand) (t : TypeId)
    (ho : o.op = .call { callee := .builtin .append, args := #[s, x], argTypes := #[t, t] })
    (base e : Nat) (i : TypeInfo) (ht : P.underlying t = some (.slice e)) (hi : P.info? e = some i) (hz : i.zero = some (.int .u8 0)) (hsize : i.size = 1) (hby : i.bytes = 1)
    (v : Value) (l : List UInt8) (hs : a.eval s = v) (hown : Own8 w base e v l) (u : Value) (m : List UInt8) (hx : a.eval x = u) (hm : Bytes w u m)
    (hlen : l.length + m.length ≤ 140737488355328) (hbase : base ≤ w.heap.size)
    (h : ∀ v' w', Own8 w' base e v' (l ++ m) → w.grownBy w' v.ownBlock → (∀ k, v'.ownBlock = some k → v.ownBlock = some k ∨ w.heap.size ≤ k) → K (a.put o.dst v') w') : if Region.wanted o (yielded ops a.tmps) = true then Oper.wp P o a w K Q else E := by
  rw [if_pos (by simp [Region.wanted, hgd])]
  exact wp_app8 s x t ho base e i ht hi hz hsize hby v l hs hown u m hx hm hlen hbase h

/-- One byte that was laid in a new block. -/
theorem Bytes.one (w : World) (b : UInt8) (e : TypeId) : Bytes (w.alloc (.cells #[B8 b] e)) (.slice (some ⟨w.heap.size, 0, none⟩) 1 1) [b] := by
  refine ⟨rfl, _, 1, rfl, Nat.le_refl _, by unfold maxLen; omega, (fun h => by cases h), fun _ => ⟨_, 0, rfl, by simp, fun j hj => ?_⟩⟩
  have : j = 0 := by simpa using hj
  subst this
  simp [go_sem]

end Go.Proofs.Ytnohglkilpnjhaa

/- A region that draws its order: operations that yield one value in every world of a class, and behind them, in one order alone, whatever operations: one walk in the order of the text serves every order. No condition. -/
namespace Go.Proofs.Ytnohglkilpnjhaa
open Go.RowKit
set_option linter.unusedVariables false

section
variable {P : Program} {ops : Array Oper} {md : Region.Mode} {C : World → Prop}

/-- The head's operations, in whatever order; behind them 'L'. -/
def wpHeadQ (P : Program) (md : Region.Mode) (ops : Array Oper) (C : World → Prop) (n : Nat) (L : Array Bool → Act → Prop) : Nat → Array Bool → Act → Prop
  | 0, listed, a => L listed a
  | f + 1, listed, a => Region.ready md ops listed ≠ [] ∧ ∀ i ∈ Region.ready md ops listed, i < n ∧ qOp P ops C i (wpHeadQ P md ops C n L f (listed.setIfInBounds i true)) a

theorem wpAny_of_headQ {n g : Nat} {L : Array Bool → Act → Prop} {Q' : Exit → Act → World → Prop} (hL : ∀ listed a w, C w → L listed a → wpAny P md ops Q' g listed a w) :
    ∀ (f : Nat) (listed : Array Bool) (a : Act) (w : World), C w → wpHeadQ P md ops C n L f listed a → wpAny P md ops Q' (f + g) listed a w := by
  intro f
  induction f with
  | zero => intro listed a w hw h; rw [Nat.zero_add]; exact hL _ _ _ hw h
  | succ f ih =>
    intro listed a w hw h
    rw [show f + 1 + g = (f + g) + 1 by omega]
    exact ⟨fun h0 => absurd h0 h.1, fun i hi => wpOp_of_qOp hw (fun a' w' hw' h' => ih _ a' w' hw' h') (h.2 i hi).2⟩

theorem wpHeadQ_first {n i : Nat} {oi : Oper} {v : Value} {L : Array Bool → Act → Prop} (hi : ops[i]? = some oi) (hsel : ∀ (j : Nat) (o : Oper) cs b, ops[j]? = some o → o.op ≠ .select cs b)
    (hs : Region.sinkB md ops n = true) (hc : Region.chainB md ops n = true) (hn : n < ops.size) (hin : i < n) (hdone : ∀ listed a, L listed a → ∀ j ∈ Region.ready md ops listed, n ≤ j) (f : Nat) :
    ∀ (listed : Array Bool) (a : Act), HeadInv md ops n listed →
      (∀ j oj, ops[j]? = some oj → j ≠ i → listed.getD j true = false → (∀ e ∈ oj.after, Region.binds md e = true → e.on ≠ i) → oi.apart ops oj = true) →
      i ∈ Region.ready md ops listed → YieldsIn P ops C oi v a →
      wpHeadQ P md ops C n L f (listed.setIfInBounds i true) (a.put oi.dst v) → wpHeadQ P md ops C n L (f + 1) listed a := by
  induction f with
  | zero =>
    intro listed a inv _ hr hy H
    refine ⟨fun e => (by rw [e] at hr; cases hr), fun j hj => ⟨(Nat.lt_or_ge j n).resolve_right fun h => tail_waits hs hc hn inv _ i rfl hin (mem_ready.1 hr).1 j h hj, ?_⟩⟩
    by_cases e : j = i
    · subst e; exact hy.qOp hi H
    · have := hdone _ _ H j (ready_mono hj e)
      exact absurd hj (tail_waits hs hc hn inv _ i rfl hin (mem_ready.1 hr).1 j this)
  | succ f ih =>
    intro listed a inv hfree hr hy H
    refine ⟨fun e => (by rw [e] at hr; cases hr), fun j hj => ?_⟩
    have hjn : j < n := (Nat.lt_or_ge j n).resolve_right fun h => tail_waits hs hc hn inv _ i rfl hin (mem_ready.1 hr).1 j h hj
    refine ⟨hjn, ?_⟩
    by_cases e : j = i
    · subst e; exact hy.qOp hi H
    · obtain ⟨hjun, oj, hoj, hall⟩ := mem_ready.1 hj
      have step := qOp_put hoj (hfree j oj hoj e hjun fun x hx hb q => by
          have := hall x hx hb
          rw [q, getD_both (mem_ready.1 hr).1] at this
          cases this) (fun cs b => hsel i oi cs b hi) (fun cs b => hsel j oj cs b hoj) hy (H.2 j (ready_mono hj e)).2
      refine qOp_mono (fun a' h3 => ih (listed.setIfInBounds j true) a' (inv.set hj hjn) (fun k ok hk hki hun hno => hfree k ok hk hki ?_ hno) (ready_mono hr (Ne.symm e)) h3.1 ?_) step
      · by_cases q : j = k
        · subst q; exact hjun
        · rw [getD_set_ne true q] at hun; exact hun
      · rw [Array.setIfInBounds_comm _ _ e]; exact h3.2

theorem wpHeadQ_lex {n g : Nat} {Lq : Act → Prop} (hsel : Region.noSelect ops = true) (hs : Region.sinkB md ops n = true) (hc : Region.chainB md ops n = true) (hn : n < ops.size) (l : List Oper) :
    ∀ (k : Nat) (listed : Array Bool) (a : Act), (∀ j, j < l.length → l[j]? = ops[k + j]?) → k + l.length = n → HeadInv md ops n listed →
    Region.lexHead md ops g l.length k listed = true → wpQuiet P ops C Lq l a →
    wpHeadQ P md ops C n (fun listed' a' => Region.seqB md ops g n listed' = true ∧ Lq a') l.length listed a := by
  induction l with
  | nil =>
    intro k listed a _ hk _ hB h
    obtain rfl : k = n := by simpa using hk
    exact ⟨by simpa [Region.lexHead] using hB, h⟩
  | cons o l ih =>
    intro k listed a hl hk inv hB h
    have h0 : ops[k]? = some o := by simpa using (hl 0 (by simp)).symm
    simp only [List.length_cons, Region.lexHead, Bool.and_eq_true] at hB hk
    have hr' : k ∈ Region.ready md ops listed := by simpa using hB.1.1
    have hst : qOp P ops C k (wpQuiet P ops C Lq l) a := by unfold qOp; simp only [h0]; exact h
    obtain ⟨v, hy, hK⟩ := yieldsIn_of_qOp h0 hst
    refine wpHeadQ_first h0 (Region.noSelect_spec hsel) hs hc hn (by omega) (fun _ _ hL => seqB_ready hL.1) l.length listed a inv (Region.free_spec h0 hB.1.2) hr' hy ?_
    exact ih (k + 1) _ _ (fun j hj => by have := hl (j + 1) (by simp; omega); simpa [Nat.add_assoc, Nat.add_comm 1 j] using this) (by omega) (inv.set hr' (by omega)) hB.2 hK

/-- The head's operations each yield one value in every world of the class; the tail is walked in every world of it. -/
theorem wp_region_class {id : Nat} {Q : Exit → Act → World → Prop} {a : Act} {w : World} {l : List Oper} (n : Nat) (hm : P.follows .mixedOrders = true) (hB : Region.lexTailB .any l.toArray n = true) (hC : C { w with drawn := w.drawn + 1 })
    (h : wpQuiet P l.toArray C (fun a' => ∀ w', C w' → wpList P l.toArray Q (l.drop n) a' w') (l.take n) a) : (Code.region id l.toArray true).wp P Q a w := by
  simp only [Region.lexTailB, Bool.and_eq_true, decide_eq_true_eq] at hB
  obtain ⟨⟨⟨⟨hsel, hn⟩, hs⟩, hc⟩, hlex⟩ := hB
  have hn' : n < l.length := by simpa using hn
  have htl : (l.take n).length = n := by simp; omega
  have hdl : (l.drop n).length = l.toArray.size - n := by simp
  have H := wpHeadQ_lex (md := .any) (C := C) (g := l.toArray.size - n) hsel hs hc hn (l.take n) 0 (Array.replicate l.toArray.size false) a (fun j hj => by
    have hj' : j < n := by rw [htl] at hj; exact hj
    simp [hj']) (by simpa using htl)
    ⟨by simp, fun j oj _ hl => (by rw [getD_replicate_false] at hl; cases hl), fun t _ ht => getD_in (by simpa using ht) (getD_replicate_false _ _)⟩ (by rw [htl]; exact hlex) h
  refine wp_region_any hm ?_
  have := wpAny_of_headQ (Q' := Q) (g := l.toArray.size - n) (fun listed a' w' hw' hL => by
    have := wpAny_of_seq (md := .any) (Q' := Q) (l.drop n) n listed a' w' (fun j => by simp [List.getElem?_drop]) (by rw [hdl]; exact hL.1) (hL.2 w' hw')
    rwa [hdl] at this) _ _ _ _ hC H
  rw [htl, show n + (l.toArray.size - n) = l.toArray.size by omega] at this
  exact this

/-! ### The same behind operations that were taken first -/

/-- Each of the head's operations that has not come up is waited for by a later one, up to the tail's first. -/
def sinkU (md : Region.Mode) (ops : Array Oper) (n : Nat) (listed : Array Bool) : Bool :=
  (List.range n).all fun i => listed.getD i true || (List.range (n + 1)).any fun j => decide (i < j) && Region.waitsFor md ops j i
/-- What has come up is closed under 'waits for'; nothing of the tail has come up. -/
def invB (md : Region.Mode) (ops : Array Oper) (n : Nat) (listed : Array Bool) : Bool :=
  decide (listed.size = ops.size) && ((List.range ops.size).all fun j => match ops[j]? with
    | some oj => !listed.getD j false || oj.after.all fun e => !Region.binds md e || listed.getD e.on false
    | none => true) && ((List.range ops.size).all fun t => decide (t < n) || !listed.getD t true)

theorem invB_spec {n : Nat} {listed : Array Bool} (h : invB md ops n listed = true) : HeadInv md ops n listed := by
  simp only [invB, Bool.and_eq_true, decide_eq_true_eq] at h
  obtain ⟨⟨h1, h2⟩, h3⟩ := h
  refine ⟨h1, fun j oj hj hl e he hb => ?_, fun t ht htl => ?_⟩
  · have := List.all_eq_true.1 h2 j (List.mem_range.2 (Array.getElem?_eq_some_iff.1 hj).1)
    simp only [hj, hl, Bool.not_true, Bool.false_or] at this
    have := Array.all_eq_true_iff_forall_mem.1 this e he
    simpa [hb] using this
  · have := List.all_eq_true.1 h3 t (List.mem_range.2 htl)
    simpa [show ¬ t < n by omega] using this

theorem tail_waitsU {n : Nat} {l0 listed : Array Bool} (hs : sinkU md ops n l0 = true) (hl0 : ∀ i, listed.getD i true = false → l0.getD i true = false) (hc : Region.chainB md ops n = true) (hn : n < ops.size) (inv : HeadInv md ops n listed) :
    ∀ (d i : Nat), n - i = d → i < n → listed.getD i true = false → ∀ t, n ≤ t → t ∉ Region.ready md ops listed := by
  intro d
  induction d using Nat.strongRecOn with
  | _ d ih =>
    intro i hd hi hun t ht hr
    obtain ⟨_, ot, hot, hall⟩ := mem_ready.1 hr
    have htlt : t < ops.size := (Array.getElem?_eq_some_iff.1 hot).1
    by_cases htn : t = n
    · subst htn
      have h1 := List.all_eq_true.1 hs i (List.mem_range.2 hi)
      rw [hl0 i hun, Bool.false_or] at h1
      obtain ⟨j, hj, hj2⟩ := List.any_eq_true.1 h1
      simp only [Bool.and_eq_true, decide_eq_true_eq] at hj2
      obtain ⟨oj, hoj, e, he, hb, hon⟩ := Region.waitsFor_spec hj2.2
      have hjle : j ≤ t := by have := List.mem_range.1 hj; omega
      by_cases hjt : j = t
      · subst hjt
        obtain rfl : oj = ot := Option.some.inj (hoj.symm.trans hot)
        have h2 := hall e he hb
        rw [hon, getD_both hun] at h2
        cases h2
      · have hjs : j < listed.size := by rw [inv.size]; omega
        cases hl : listed.getD j false with
        | true =>
          have h2 := inv.closed j oj hoj hl e he hb
          rw [hon, getD_both hun] at h2
          cases h2
        | false => exact ih (t - j) (by omega) j rfl (by omega) (getD_in hjs hl) t (Nat.le_refl _) hr
    · have h1 := List.all_eq_true.1 hc t (List.mem_range.2 htlt)
      simp only [Bool.or_eq_true, decide_eq_true_eq] at h1
      rcases h1 with h1 | h1
      · omega
      · obtain ⟨o', ho', e, he, hb, hon⟩ := Region.waitsFor_spec h1
        obtain rfl : o' = ot := Option.some.inj (ho'.symm.trans hot)
        have h2 := hall e he hb
        rw [hon, getD_both (inv.tail (t - 1) (by omega) (by omega))] at h2
        cases h2

theorem wpHeadQ_firstU {n i : Nat} {oi : Oper} {v : Value} {L : Array Bool → Act → Prop} {l0 : Array Bool} (hi : ops[i]? = some oi) (hsel : ∀ (j : Nat) (o : Oper) cs b, ops[j]? = some o → o.op ≠ .select cs b)
    (hs : sinkU md ops n l0 = true) (hc : Region.chainB md ops n = true) (hn : n < ops.size) (hin : i < n) (hdone : ∀ listed a, L listed a → ∀ j ∈ Region.ready md ops listed, n ≤ j) (f : Nat) :
    ∀ (listed : Array Bool) (a : Act), HeadInv md ops n listed → (∀ i, listed.getD i true = false → l0.getD i true = false) →
      (∀ j oj, ops[j]? = some oj → j ≠ i → listed.getD j true = false → (∀ e ∈ oj.after, Region.binds md e = true → e.on ≠ i) → oi.apart ops oj = true) →
      i ∈ Region.ready md ops listed → YieldsIn P ops C oi v a →
      wpHeadQ P md ops C n L f (listed.setIfInBounds i true) (a.put oi.dst v) → wpHeadQ P md ops C n L (f + 1) listed a := by
  induction f with
  | zero =>
    intro listed a inv hl0 _ hr hy H
    refine ⟨fun e => (by rw [e] at hr; cases hr), fun j hj => ⟨(Nat.lt_or_ge j n).resolve_right fun h => tail_waitsU hs hl0 hc hn inv _ i rfl hin (mem_ready.1 hr).1 j h hj, ?_⟩⟩
    by_cases e : j = i
    · subst e; exact hy.qOp hi H
    · have := hdone _ _ H j (ready_mono hj e)
      exact absurd hj (tail_waitsU hs hl0 hc hn inv _ i rfl hin (mem_ready.1 hr).1 j this)
  | succ f ih =>
    intro listed a inv hl0 hfree hr hy H
    refine ⟨fun e => (by rw [e] at hr; cases hr), fun j hj => ?_⟩
    have hjn : j < n := (Nat.lt_or_ge j n).resolve_right fun h => tail_waitsU hs hl0 hc hn inv _ i rfl hin (mem_ready.1 hr).1 j h hj
    refine ⟨hjn, ?_⟩
    by_cases e : j = i
    · subst e; exact hy.qOp hi H
    · obtain ⟨hjun, oj, hoj, hall⟩ := mem_ready.1 hj
      have step := qOp_put hoj (hfree j oj hoj e hjun fun x hx hb q => by
          have := hall x hx hb
          rw [q, getD_both (mem_ready.1 hr).1] at this
          cases this) (fun cs b => hsel i oi cs b hi) (fun cs b => hsel j oj cs b hoj) hy (H.2 j (ready_mono hj e)).2
      have unset : ∀ k, (listed.setIfInBounds j true).getD k true = false → listed.getD k true = false := fun k hun => by
        by_cases q : j = k
        · subst q; exact hjun
        · rw [getD_set_ne true q] at hun; exact hun
      refine qOp_mono (fun a' h3 => ih (listed.setIfInBounds j true) a' (inv.set hj hjn) (fun k hk => hl0 k (unset k hk)) (fun k ok hk hki hun hno => hfree k ok hk hki (unset k hun) hno) (ready_mono hr (Ne.symm e)) h3.1 ?_) step
      rw [Array.setIfInBounds_comm _ _ e]; exact h3.2

theorem wpHeadQ_lexU {n g : Nat} {Lq : Act → Prop} {l0 : Array Bool} (hsel : Region.noSelect ops = true) (hs : sinkU md ops n l0 = true) (hc : Region.chainB md ops n = true) (hn : n < ops.size) (l : List Oper) :
    ∀ (k : Nat) (listed : Array Bool) (a : Act), (∀ j, j < l.length → l[j]? = ops[k + j]?) → k + l.length = n → HeadInv md ops n listed → (∀ i, listed.getD i true = false → l0.getD i true = false) →
    Region.lexHead md ops g l.length k listed = true → wpQuiet P ops C Lq l a →
    wpHeadQ P md ops C n (fun listed' a' => Region.seqB md ops g n listed' = true ∧ Lq a') l.length listed a := by
  induction l with
  | nil =>
    intro k listed a _ hk _ _ hB h
    obtain rfl : k = n := by simpa using hk
    exact ⟨by simpa [Region.lexHead] using hB, h⟩
  | cons o l ih =>
    intro k listed a hl hk inv hl0 hB h
    have h0 : ops[k]? = some o := by simpa using (hl 0 (by simp)).symm
    simp only [List.length_cons, Region.lexHead, Bool.and_eq_true] at hB hk
    have hr' : k ∈ Region.ready md ops listed := by simpa using hB.1.1
    have hst : qOp P ops C k (wpQuiet P ops C Lq l) a := by unfold qOp; simp only [h0]; exact h
    obtain ⟨v, hy, hK⟩ := yieldsIn_of_qOp h0 hst
    refine wpHeadQ_firstU h0 (Region.noSelect_spec hsel) hs hc hn (by omega) (fun _ _ hL => seqB_ready hL.1) l.length listed a inv hl0 (Region.free_spec h0 hB.1.2) hr' hy ?_
    refine ih (k + 1) _ _ (fun j hj => by have := hl (j + 1) (by simp; omega); simpa [Nat.add_assoc, Nat.add_comm 1 j] using this) (by omega) (inv.set hr' (by omega)) (fun i hi => hl0 i ?_) hB.2 hK
    by_cases q : k = i
    · subst q; exact (mem_ready.1 hr').1
    · rw [getD_set_ne true q] at hi; exact hi

/-- Behind operations that were taken first ('listed'; they are the first m): the head's others each yield one value in every world of the class; the tail is walked in every world of it. -/
theorem wpAny_class {Q : Exit → Act → World → Prop} {a : Act} {w : World} {l : List Oper} {listed : Array Bool} {fuel : Nat} (m n : Nat)
    (hB : (Region.noSelect l.toArray && decide (n < l.length) && decide (m ≤ n) && decide (fuel = l.length - m) && invB .any l.toArray n listed && sinkU .any l.toArray n listed && Region.chainB .any l.toArray n && Region.lexHead .any l.toArray (l.length - n) (n - m) m listed) = true) (hC : C w)
    (h : wpQuiet P l.toArray C (fun a' => ∀ w', C w' → wpList P l.toArray Q (l.drop n) a' w') ((l.take n).drop m) a) : wpAny P .any l.toArray Q fuel listed a w := by
  simp only [Bool.and_eq_true, decide_eq_true_eq] at hB
  obtain ⟨⟨⟨⟨⟨⟨⟨hsel, hn⟩, hm⟩, hf⟩, hinv⟩, hs⟩, hc⟩, hlex⟩ := hB
  have hsz : l.toArray.size = l.length := by simp
  have htl : ((l.take n).drop m).length = n - m := by simp; omega
  have hdl : (l.drop n).length = l.length - n := by simp
  have H := wpHeadQ_lexU (md := .any) (C := C) (g := l.length - n) (l0 := listed) hsel hs hc (by rw [hsz]; exact hn) ((l.take n).drop m) m listed a (fun j hj => by
    have hj' : j < n - m := by rw [htl] at hj; exact hj
    rw [List.getElem?_drop, List.getElem?_take, if_pos (by omega)]
    simp) (by rw [htl]; omega) (invB_spec hinv) (fun _ h => h) (by rw [htl]; exact hlex) h
  have := wpAny_of_headQ (Q' := Q) (g := l.length - n) (fun listed a' w' hw' hL => by
    have := wpAny_of_seq (md := .any) (Q' := Q) (l.drop n) n listed a' w' (fun j => by simp [List.getElem?_drop]) (by rw [hdl]; exact hL.1) (hL.2 w' hw')
    rwa [hdl] at this) _ _ _ _ hC H
  rw [htl, show n - m + (l.length - n) = fuel by omega] at this
  exact this

/-- A region whose first operation is a move, taken first. -/
theorem wp_region_class_move {id : Nat} {Q : Exit → Act → World → Prop} {a : Act} {w : World} {o : Oper} {l : List Oper} (n : Nat) (x : Operand) (ho : o.op = .move x) (hg : o.guard = none) (hm : P.follows .mixedOrders = true)
    (hT : (Region.noSelect (o :: l).toArray && Region.free .any (o :: l).toArray (Array.replicate (l.length + 1) false) 0 && (Region.ready .any (o :: l).toArray (Array.replicate (l.length + 1) false)).contains 0) = true)
    (hB : (Region.noSelect (o :: l).toArray && decide (n < l.length + 1) && decide (1 ≤ n) && decide (l.length = l.length + 1 - 1) && invB .any (o :: l).toArray n ((Array.replicate (l.length + 1) false).setIfInBounds 0 true) && sinkU .any (o :: l).toArray n ((Array.replicate (l.length + 1) false).setIfInBounds 0 true) && Region.chainB .any (o :: l).toArray n && Region.lexHead .any (o :: l).toArray (l.length + 1 - n) (n - 1) 1 ((Array.replicate (l.length + 1) false).setIfInBounds 0 true)) = true)
    (hC : C { w with drawn := w.drawn + 1 }) (hQ : ∀ c a' w', Q (.panic c) (a'.put o.dst (a.eval x)) w' → Q (.panic c) a' w')
    (h : wpQuiet P (o :: l).toArray C (fun a' => ∀ w', C w' → wpList P (o :: l).toArray Q ((o :: l).drop n) a' w') (((o :: l).take n).drop 1) (a.put o.dst (a.eval x))) : (Code.region id (o :: l).toArray true).wp P Q a w := by
  simp only [Bool.and_eq_true] at hT
  refine wp_region_any hm ?_
  have hsz : (o :: l).toArray.size = l.length + 1 := by simp
  rw [hsz]
  refine wpAny_take (i := 0) (oi := o) (v := a.eval x) (by simp) hT.1.1 hT.1.2 hT.2 hQ (Or.inl ⟨by simp [Region.wanted, hg], fun w' => by unfold execOp; rw [ho]; rfl⟩) ?_
  exact wpAny_class 1 n hB hC h

/-- An operation that yields a value and leaves the world as it is. -/
theorem quiet_val {o : Oper} {a : Act} {K : Act → Prop} {v : Value} (h : ∀ w, C w → (execOp a.eval o).run P w = .ok (.value v) w) (hK : K (a.put o.dst v)) : o.quiet P a C K :=
  ⟨v, fun w hw => by unfold Oper.quietAt; rw [h w hw]; exact ⟨rfl, rfl⟩, hK⟩

/-- A call that yields one value and leaves a world of the class. -/
theorem quiet_call {o : Oper} {a : Act} {K : Act → Prop} {v : Value} {f : FuncId} {args : Array Value} (h : ∀ w, C w → (execOp a.eval o).run P w = .ok (.enter f args) w)
    (hc : ∀ w, C w → Calls P f args w (fun e w' => e = .returned v ∧ C w')) (hK : K (a.put o.dst v)) : o.quiet P a C K :=
  ⟨v, fun w hw => by unfold Oper.quietAt; rw [h w hw]; exact ⟨rfl, hc w hw⟩, hK⟩

end

/-- The class of the worlds that have grown out of one. -/
theorem below_class_call {P : Program} {f : FuncId} {args : Array Value} {B : Nat} {w w1 : World} {v : Value} (h : Below B w w1) (hB : B ≤ w1.heap.size) (hc : Calls P f args w1 (fun e w' => e = .returned v ∧ Below w1.heap.size w1 w')) :
    Calls P f args w1 (fun e w' => e = .returned v ∧ Below B w w') := hc.mono fun _ _ ⟨he, hb⟩ => ⟨he, h.trans (hb.mono hB)⟩

end Go.Proofs.Ytnohglkilpnjhaa

/- Words and laws that the walks of several chapters use: a block of one cell, the worlds that have grown out of one, an operation that calls or that yields a value. No condition. -/
namespace Go.Proofs.Ytnohglkilpnjhaa
open Go.RowKit
set_option linter.unusedVariables false
set_option linter.unusedSimpArgs false

theorem infoU8 : (Try.prog.info? 5).map (fun i => (i.zero, i.size, i.bytes)) = some (some (.int .u8 0), 1, 1) := by kernel_rfl
/-- A slice value's length, as a measure. -/
def lenV : Value → Nat
  | .slice _ n _ => n
  | _ => 0

/-- The worlds that have grown out of one. -/
def Grew (W w : World) : Prop := Below W.heap.size W w
theorem Grew.start (W : World) : Grew W { W with drawn := W.drawn + 1 } := (Below.refl _ _).drew

/-- A block of one cell (a captured variable): what it holds. -/
def One (w : World) (b : Nat) (v : Value) (t : TypeId) : Prop := w.heap[b]? = some (.cells #[v] t (0, 0))
theorem One.cell {w : World} {b : Nat} {v : Value} {t : TypeId} (h : One w b v t) : w.cell? ⟨b, 0, none⟩ = some v := cell_of_one h
theorem One.free {w : World} {b : Nat} {v : Value} {t : TypeId} (h : One w b v t) : w.frozen? ⟨b, 0, none⟩ = false := free_of_one h
theorem One.lt {w : World} {b : Nat} {v : Value} {t : TypeId} (h : One w b v t) : b < w.heap.size := lt_of_block h
theorem One.set {w : World} {b : Nat} {v : Value} {t : TypeId} (h : One w b v t) (u : Value) : One (w.setCell ⟨b, 0, none⟩ u) b u t := one_setCell h
theorem One.of_block {w w' : World} {b : Nat} {v : Value} {t : TypeId} (h : One w b v t) (e : w'.heap[b]? = w.heap[b]?) : One w' b v t := e.trans h
theorem One.of_new {w w' : World} {b : Nat} {v : Value} {t : TypeId} (h : One w b v t) (hb : Below w.heap.size w w') : One w' b v t := h.of_block (hb.block _ h.lt)
theorem One.other {w : World} {b : Nat} {v : Value} {t : TypeId} (h : One w b v t) {p : Addr} (hp : p.block ≠ b) (u : Value) : One (w.setCell p u) b v t := h.of_block (Below.heap_setCell _ _ _ _ (Ne.symm hp))
theorem One.grown {w w' : World} {b : Nat} {v : Value} {t : TypeId} {row : Option Nat} (h : One w b v t) (hg : w.grownBy w' row) (hr : some b ≠ row) : One w' b v t := h.of_block (hg.block _ h.lt hr)
theorem below_next' {B : Nat} {w w1 w2 : World} (h : Below B w w1) (h2 : Below w1.heap.size w1 w2) (hB : B ≤ w1.heap.size := by omega) : Below B w w2 := h.trans (h2.mono hB)

theorem wp_enter {P : Program} {o : Oper} {a : Act} {w : World} {K : Act → World → Prop} {Q : Exit → Act → World → Prop} {f : FuncId} {args : Array Value} {R : Ending → World → Prop} (h : (execOp a.eval o).run P w = .ok (.enter f args) w) (hc : Calls P f args w R)
    (hR : ∀ e w', R e w' → ∃ v, e = .returned v ∧ K (a.put o.dst v) w') : o.wp P a w K Q := by
  unfold Oper.wp
  rw [h]
  refine hc.mono fun e w' he => ?_
  obtain ⟨v, rfl, hK⟩ := hR e w' he
  exact hK
theorem wp_val {P : Program} {o : Oper} {a : Act} {w : World} {K : Act → World → Prop} {Q : Exit → Act → World → Prop} {v : Value} (h : (execOp a.eval o).run P w = .ok (.value v) w) (hK : K (a.put o.dst v) w) : o.wp P a w K Q := by
  unfold Oper.wp
  rw [h]
  exact hK

end Go.Proofs.Ytnohglkilpnjhaa

/- Blocks that hold bytes, whole rows laid into a block: general laws for the walks. No condition. -/
namespace Go.Proofs.Ytnohglkilpnjhaa
open Go.RowKit
set_option linter.unusedVariables false

theorem results_cell {fn : Func} {p : Tmp} {ty : TypeId} (h : fn.results = #[.cell p ty]) (tmps : Array Value) {P : Program} {w : World} {b : Nat} {v : Value} (hp : tmps.getD p undef = .pointer (some ⟨b, 0, none⟩))
    (hv : (loadVar ty ⟨b, 0, none⟩).run P w = .ok v w) : (results fn tmps).run P w = .ok v w := by
  simp only [results, h]
  have hp' : tmps[p]?.getD undef = .pointer (some ⟨b, 0, none⟩) := by simpa using hp
  simp [hp', asAddr, hv]

theorem wpList_store_row {P : Program} {ops : Array Oper} {rest : List Oper} {op : Oper} {a : Act} {w : World} {Q : Exit → Act → World → Prop} (hgd : op.guard = none) (ty : TypeId) (x y : Operand) (ho : op.op = .store ty x y)
    (g t : Nat) (old cells : Array Value) (hx : a.eval x = .pointer (some ⟨g, 0, none⟩)) (hy : a.eval y = .agg cells) (hg : w.heap[g]? = some (.cells old t (0, 0))) (hi : (P.info? ty).map (·.size) = some cells.size) (hs : old.size = cells.size)
    (h1 : cells.all (·.oneCell') = true) (h : wpList P ops Q rest (a.put op.dst undef) (w.setRow g cells)) : wpList P ops Q (op :: rest) a w :=
  wpList_plain hgd fun _ hK => by
    unfold Oper.wp execOp
    simp only [ho, hx, hy, Instr.storeAt, Instr.sureAddr, Sem.run_bind, Sem.run_pure, Result.andThen_ok, run_storeVar_row (P := P) w g t ty old cells hg hi hs h1]
    exact hK _ _ h

theorem below_setRow' {B : Nat} (w : World) (g : Nat) (cs : Array Value) (h : B ≤ g) : Below B w (w.setRow g cs) :=
  ⟨rfl, rfl, rfl, by simp [World.setRow], fun k hk => by simp only [World.setRow, Array.getElem?_modify]; rw [if_neg (by omega)]⟩

theorem grown_setRow (w : World) (g : Nat) (cs : Array Value) : w.grownBy (w.setRow g cs) (some g) :=
  ⟨rfl, rfl, rfl, by simp [World.setRow], fun k hk hne => by simp only [World.setRow, Array.getElem?_modify]; rw [if_neg (fun e => hne (by rw [e]))]⟩

/-- A block that holds bytes. -/
def Octs (w : World) (g t : Nat) (bs : List UInt8) : Prop := w.heap[g]? = some (.cells (bs.map B8).toArray t (0, 0))
theorem Octs.of_block {w w' : World} {g t : Nat} {bs : List UInt8} (h : Octs w g t bs) (e : w'.heap[g]? = w.heap[g]?) : Octs w' g t bs := by
  unfold Octs at *; rw [e]; exact h

theorem Octs.cell {w : World} {g t : Nat} {bs : List UInt8} (h : Octs w g t bs) {j : Nat} (hj : j < bs.length) : w.cell? ⟨g, j, none⟩ = some (B8 (bs.getD j 0)) := by
  unfold Octs at h
  simp [World.cell?, h, List.getElem?_eq_getElem hj, List.getD]
theorem Octs.free {w : World} {g t : Nat} {bs : List UInt8} (h : Octs w g t bs) (j : Nat) : w.frozen? ⟨g, j, none⟩ = false := by
  unfold Octs at h
  simp [World.frozen?, h]
theorem Octs.set {w : World} {g t : Nat} {bs : List UInt8} (h : Octs w g t bs) (j : Nat) (x : UInt8) : Octs (w.setCell ⟨g, j, none⟩ (B8 x)) g t (bs.set j x) := by
  unfold Octs at *
  obtain ⟨hlt, hk⟩ := Array.getElem?_eq_some_iff.1 h
  show (w.heap.modify g _)[g]? = _
  rw [Array.getElem?_eq_getElem (by rw [Array.size_modify]; exact hlt), Array.getElem_modify_self, hk]
  simp [List.map_set]
theorem info_dig : (Try.prog.info? 30).map (·.size) = some 32 := by kernel_rfl
theorem octs_one (bs : List UInt8) : ((bs.map B8).toArray).all (·.oneCell') = true :=
  Array.all_eq_true_iff_forall_mem.2 (fun v hv => by
    obtain ⟨x, _, rfl⟩ := List.mem_map.1 (by simpa using hv)
    rfl)

theorem three_bytes (w : World) (e : TypeId) (f : Nat × Nat) (x y z : UInt8) : Bytes (w.alloc (.cells #[.int .u8 (x.toNat : Int), .int .u8 (y.toNat : Int), .int .u8 (z.toNat : Int)] e f)) (.slice (some ⟨w.heap.size, 0, none⟩) 3 3) [x, y, z] := by
  refine ⟨rfl, _, 3, rfl, Nat.le_refl _, by unfold maxLen; omega, (fun h => by cases h), fun _ => ⟨_, 0, rfl, by simp, fun j hj => ?_⟩⟩
  have hb := heap_alloc_new w (.cells #[.int .u8 (x.toNat : Int), .int .u8 (y.toNat : Int), .int .u8 (z.toNat : Int)] e f)
  simp only [World.cell?, hb]
  match j, hj with
  | 0, _ => rfl
  | 1, _ => rfl
  | 2, _ => rfl

theorem octs_new (w : World) (t : Nat) (A : Array Value) (xs bs : List UInt8) (hA : A = (xs.map B8).toArray) : Octs ((w.alloc (.cells A t)).setRow w.heap.size (bs.map B8).toArray) w.heap.size t bs ∧ Below w.heap.size w ((w.alloc (.cells A t)).setRow w.heap.size (bs.map B8).toArray) ∧ w.heap.size + 1 = ((w.alloc (.cells A t)).setRow w.heap.size (bs.map B8).toArray).heap.size := by
  subst hA
  exact ⟨setRow_heap _ _ _ _ _ _ (heap_alloc_new w _), ((Below.refl _ w).alloc (Nat.le_refl _) _).trans (below_setRow' _ _ _ (Nat.le_refl _)), by simp⟩

theorem octs_laid (w : World) (t : Nat) (A : Array Value) (bs : List UInt8) : Octs ((w.alloc (.cells A t)).setRow w.heap.size (bs.map B8).toArray) w.heap.size t bs :=
  setRow_heap _ _ _ _ _ _ (heap_alloc_new w _)

/-- A whole hash laid into a block of bytes. -/
theorem wpList_store_octs {P : Program} {ops : Array Oper} {rest : List Oper} {op : Oper} {a : Act} {w : World} {Q : Exit → Act → World → Prop} (ty : TypeId) (x y : Operand) (g t : Nat) (old ws : List UInt8) (hgd : op.guard = none) (ho : op.op = .store ty x y)
    (hx : a.eval x = .pointer (some ⟨g, 0, none⟩)) (hy : a.eval y = .agg (ws.map B8).toArray) (hg : Octs w g t old) (hi : (P.info? ty).map (·.size) = some ws.length) (hs : old.length = ws.length)
    (h : wpList P ops Q rest (a.put op.dst undef) (w.setRow g (ws.map B8).toArray)) : wpList P ops Q (op :: rest) a w :=
  wpList_store_row hgd ty x y ho g t _ _ hx hy hg (by rw [hi]; simp) (by simp [hs]) (octs_one ws) h

end Go.Proofs.Ytnohglkilpnjhaa

/- Steps of a region that draws its order, in the class of the worlds that have grown out of one: a whole hash read, a call whose result is a value. No condition. -/
namespace Go.Proofs.Ytnohglkilpnjhaa
open Go.RowKit
set_option linter.unusedVariables false

theorem Grew.octs {W w : World} {g t : Nat} {bs : List UInt8} (h : Grew W w) (ho : Octs W g t bs) : Octs w g t bs := ho.of_block (h.block _ (Array.getElem?_eq_some_iff.1 ho).1)
theorem Grew.bytes {W w : World} {v : Value} {bs : List UInt8} (h : Grew W w) (ho : Bytes W v bs) : Bytes w v bs := ho.of_new h
theorem Grew.cell {W w : World} {p : Addr} {v : Value} (h : Grew W w) (ho : W.cell? p = some v) : w.cell? p = some v := (Below.cell h (World.block_lt_of_cell? _ _ ho)).trans ho
theorem Grew.call {P : Program} {f : FuncId} {args : Array Value} {W w : World} {v : Value} (h : Grew W w) (hc : Calls P f args w (fun e w' => e = .returned v ∧ Below w.heap.size w w')) :
    Calls P f args w (fun e w' => e = .returned v ∧ Grew W w') := hc.mono fun _ _ ⟨he, hb⟩ => ⟨he, Below.trans h (hb.mono (Below.size h))⟩
theorem Grew.same {P : Program} {f : FuncId} {args : Array Value} {W w : World} {v : Value} (h : Grew W w) (hc : Calls P f args w (fun e w' => e = .returned v ∧ w = w')) :
    Calls P f args w (fun e w' => e = .returned v ∧ Grew W w') := hc.mono fun _ _ ⟨he, hb⟩ => ⟨he, hb ▸ h⟩

section
variable {P : Program} {W : World}

/-- A region whose operations each yield one value in every world that has grown out of this one. -/
theorem wp_region_grew {id : Nat} {Q : Exit → Act → World → Prop} {a : Act} {l : List Oper} (hm : P.follows .mixedOrders = true) (hB : Region.lexB .any l.toArray = true)
    (h : wpQuiet P l.toArray (Grew W) (fun a' => ∀ w', Grew W w' → Q .normal a' w') l a) : (Code.region id l.toArray true).wp P Q a W :=
  wp_region_quiet (C := Grew W) hm hB (Grew.start W) (by simpa using h)

/-- .. and behind them operations in one order alone. -/
theorem wp_region_grew_tail {id : Nat} {Q : Exit → Act → World → Prop} {a : Act} {l : List Oper} (n : Nat) (hm : P.follows .mixedOrders = true) (hB : Region.lexTailB .any l.toArray n = true)
    (h : wpQuiet P l.toArray (Grew W) (fun a' => ∀ w', Grew W w' → wpList P l.toArray Q (l.drop n) a' w') (l.take n) a) : (Code.region id l.toArray true).wp P Q a W :=
  wp_region_class (C := Grew W) n hm hB (Grew.start W) h

/-- A list of operations in one order alone: the quiet walk serves it too. -/
theorem wpList_of_quiet {C : World → Prop} {ops : Array Oper} {Lq : Act → Prop} {Q : Exit → Act → World → Prop} {rest : List Oper} (l : List Oper) : ∀ (a : Act) (w : World), C w → wpQuiet P ops C Lq l a → (∀ a w, C w → Lq a → wpList P ops Q rest a w) → wpList P ops Q (l ++ rest) a w := by
  induction l with
  | nil => intro a w hw h hQ; exact hQ a w hw h
  | cons o l ih =>
    intro a w hw h hQ
    refine wpList_step fun K hK => ?_
    have h' : if Region.wanted o (yielded ops a.tmps) then o.quiet P a C (wpQuiet P ops C Lq l) else wpQuiet P ops C Lq l (a.put o.dst undef) := h
    split
    · rename_i hg
      rw [if_pos hg] at h'
      exact Oper.wp_of_quiet hw (fun a' w' hw' hq => hK _ _ (ih a' w' hw' hq hQ)) h'
    · rename_i hg
      rw [if_neg hg] at h'
      exact hK _ _ (ih _ w hw h' hQ)

theorem wp_region_grew_seq {id : Nat} {Q : Exit → Act → World → Prop} {a : Act} {l : List Oper}
    (h : wpQuiet P l.toArray (Grew W) (fun a' => ∀ w', Grew W w' → Q .normal a' w') l a) : (Code.region id l.toArray false).wp P Q a W :=
  wp_region_lit (by
    have := wpList_of_quiet (P := P) (C := Grew W) (ops := l.toArray) (Q := Q) (rest := []) l a W (Below.refl _ _) h (fun a w hw hq => hq w hw)
    rwa [List.append_nil] at this)

theorem wp_region_grew_seq_tail {id : Nat} {Q : Exit → Act → World → Prop} {a : Act} {l : List Oper} (n : Nat)
    (h : wpQuiet P l.toArray (Grew W) (fun a' => ∀ w', Grew W w' → wpList P l.toArray Q (l.drop n) a' w') (l.take n) a) : (Code.region id l.toArray false).wp P Q a W :=
  wp_region_lit (by
    have := wpList_of_quiet (P := P) (C := Grew W) (ops := l.toArray) (Q := Q) (rest := l.drop n) (l.take n) a W (Below.refl _ _) h (fun a w hw hq => hq w hw)
    rwa [List.take_append_drop] at this)

/-- A whole array of bytes read. -/
theorem quiet_load_octs {o : Oper} {a : Act} {K : Act → Prop} (ty : TypeId) (x : Operand) (g t n e : Nat) (bs : List UInt8) (ho : o.op = .load ty x) (hx : a.eval x = .pointer (some ⟨g, 0, none⟩)) (hb : Octs W g t bs)
    (hu : P.underlying ty = some (.array n e)) (hi : (P.info? ty).map (·.size) = some bs.length) (hK : K (a.put o.dst (.agg (bs.map B8).toArray))) : o.quiet P a (Grew W) K := by
  refine quiet_val (fun w hw => ?_) hK
  have := run_loadVar_row (P := P) w g t ty _ (0, 0) _ (hw.octs hb) hu rfl (by rw [hi]; simp)
  unfold execOp
  simp only [ho, hx, Instr.loadAt, Instr.sureAddr, Sem.run_bind, Sem.run_pure, Result.andThen_ok, this]

end
end Go.Proofs.Ytnohglkilpnjhaa

/- Slices of hashes: what they hold; a hash read or laid at a place of one; an append of hashes to a slice of the call's own. No condition. -/
namespace Go.Proofs.Ytnohglkilpnjhaa
open Go.RowKit
set_option linter.unusedVariables false
set_option linter.unusedSimpArgs false

def flatD (l : List (List UInt8)) : List Value := l.flatMap (fun d => d.map B8)
def Dig32 (l : List (List UInt8)) : Prop := ∀ d ∈ l, d.length = 32

theorem flatD_len {l : List (List UInt8)} (h : Dig32 l) : (flatD l).length = l.length * 32 := by
  induction l with
  | nil => rfl
  | cons d l ih =>
    have := ih (fun d hd => h d (List.mem_cons_of_mem _ hd))
    have h0 := h d (by simp)
    simp only [flatD, List.flatMap_cons, List.length_append, List.length_map, List.length_cons] at *
    omega
theorem flatD_append (a b : List (List UInt8)) : flatD (a ++ b) = flatD a ++ flatD b := by simp [flatD]

/-- The i-th hash in the cells. -/
theorem flatD_at {l : List (List UInt8)} (h : Dig32 l) {i j : Nat} (hi : i < l.length) (hj : j < 32) : (flatD l)[i * 32 + j]? = ((l.getD i []).map B8)[j]? := by
  induction l generalizing i with
  | nil => simp at hi
  | cons d l ih =>
    have h0 := h d (by simp)
    have ht : Dig32 l := fun d hd => h d (List.mem_cons_of_mem _ hd)
    cases i with
    | zero =>
      simp only [flatD, List.flatMap_cons, Nat.zero_mul, Nat.zero_add, List.getD_cons_zero]
      rw [List.getElem?_append_left (by simp [h0, hj])]
    | succ i =>
      simp only [List.length_cons] at hi
      have := ih ht (i := i) (by omega)
      simp only [flatD, List.flatMap_cons, List.getD_cons_succ]
      rw [List.getElem?_append_right (by simp [h0]; omega)]
      simp only [List.length_map, h0]
      rw [show (i + 1) * 32 + j - 32 = i * 32 + j by omega]
      exact this

/-- The slice value v holds the hashes l. -/
def Digs (w : World) (v : Value) (l : List (List UInt8)) : Prop := Dig32 l ∧ Row w v l.length 32 (flatD l)
/-- .. and is the call's own. -/
def OwnD (w : World) (base : Nat) (v : Value) (l : List (List UInt8)) : Prop := Dig32 l ∧ w.ownsRow base 30 32 v l.length (flatD l)

theorem OwnD.digs {w : World} {base : Nat} {v : Value} {l : List (List UInt8)} (h : OwnD w base v l) : Digs w v l := ⟨h.1, Row.of_owns h.2⟩
theorem OwnD.nil (w : World) (base : Nat) : OwnD w base (.slice none 0 0) [] := ⟨fun _ h => by simp at h, World.ownsRow_nil _ _ _ _⟩
theorem Digs.of_new {w w' : World} {v : Value} {l : List (List UInt8)} (h : Digs w v l) (hg : Below w.heap.size w w') : Digs w' v l := ⟨h.1, h.2.of_new hg⟩
theorem Digs.len {w : World} {v : Value} {l : List (List UInt8)} (h : Digs w v l) : ∃ a c, v = .slice a l.length c := h.2.shape
theorem Digs.le {w : World} {v : Value} {l : List (List UInt8)} (h : Digs w v l) : l.length ≤ maxLen := by
  obtain ⟨_, _, a, c, hv, h1, h2, _⟩ := h
  omega

/-- The cells of the i-th hash. -/
theorem Digs.at_ {w : World} {v : Value} {l : List (List UInt8)} (h : Digs w v l) (h0 : 0 < l.length) : ∃ b off c, v = .slice (some ⟨b, off, none⟩) l.length c ∧ b < w.heap.size ∧
    ∀ i, i < l.length → ∀ j, j < 32 → w.cell? ⟨b, off + i * 32 + j, none⟩ = ((l.getD i []).map B8)[j]? := by
  obtain ⟨hd, hl, a, c, rfl, _, _, _, h4⟩ := h
  obtain ⟨b, off, rfl, hb, hc⟩ := h4 (by omega)
  refine ⟨b, off, c, rfl, hb, fun i hi j hj => ?_⟩
  rw [Nat.add_assoc, hc (i * 32 + j) (by omega), flatD_at hd hi hj]

theorem Dig32.getD {l : List (List UInt8)} (h : Dig32 l) {i : Nat} (hi : i < l.length) : (l.getD i []).length = 32 := by
  rw [List.getD_eq_getElem?_getD, List.getElem?_eq_getElem hi]; exact h _ (List.getElem_mem hi)

/-- A hash read at a place. -/
theorem run_load_dig (w : World) (g off : Nat) (d : List UInt8) (hd : d.length = 32) (hc : ∀ j, j < 32 → w.cell? ⟨g, off + j, none⟩ = (d.map B8)[j]?) :
    (loadVar 30 ⟨g, off, none⟩).run Try.prog w = .ok (.agg (d.map B8).toArray) w := by
  have hl := run_loadCells_list (P := Try.prog) w ⟨g, off, none⟩ (d.map B8) (fun j v hv => by
    have hj : j < 32 := by
      rcases Nat.lt_or_ge j 32 with h | h
      · exact h
      · rw [List.getElem?_eq_none (by simp; omega)] at hv; cases hv
    have hadd : (⟨g, off, none⟩ : Addr).add j = ⟨g, off + j, none⟩ := by unfold Addr.add; split <;> simp_all
    rw [hadd, hc j hj, hv])
  have hi : (Try.prog.info? 30).map (·.size) = some 32 := by kernel_rfl
  cases hq : Try.prog.info? 30 with
  | none => rw [hq] at hi; cases hi
  | some i =>
    rw [hq] at hi
    simp only [Option.map_some, Option.some.injEq] at hi
    simp only [List.length_map, hd] at hl
    simp [loadVar, isAgg, run_underlying Try.underlying30, sizeOf, typeInfo, hq, hi, hl]

theorem flatD_set {l : List (List UInt8)} (h : Dig32 l) {i : Nat} (hi : i < l.length) (d : List UInt8) : flatD (l.set i d) = (flatD l).take (i * 32) ++ d.map B8 ++ (flatD l).drop (i * 32 + 32) := by
  induction l generalizing i with
  | nil => simp at hi
  | cons e l ih =>
    have h0 := h e (by simp)
    have ht : Dig32 l := fun d hd => h d (List.mem_cons_of_mem _ hd)
    cases i with
    | zero =>
      simp only [flatD, List.set_cons_zero, List.flatMap_cons, Nat.zero_mul, List.take_zero, List.nil_append, Nat.zero_add]
      rw [List.drop_append_of_le_length (by simp [h0]), List.drop_eq_nil_of_le (by simp [h0])]
      rfl
    | succ i =>
      simp only [List.length_cons] at hi
      have := ih ht (i := i) (by omega)
      simp only [flatD, List.set_cons_succ, List.flatMap_cons] at this ⊢
      rw [this, show (i + 1) * 32 = (e.map B8).length + i * 32 by simp [h0]; omega, List.take_length_add_append, List.drop_append, show List.drop ((e.map B8).length + i * 32 + 32) (e.map B8) = [] from List.drop_eq_nil_of_le (by omega), show (e.map B8).length + i * 32 + 32 - (e.map B8).length = i * 32 + 32 by omega]
      simp [List.append_assoc]
theorem Dig32.set {l : List (List UInt8)} (h : Dig32 l) (i : Nat) {d : List UInt8} (hd : d.length = 32) : Dig32 (l.set i d) := fun e he => by
  rcases List.mem_or_eq_of_mem_set he with h1 | h1
  · exact h e h1
  · rw [h1]; exact hd

/-- A hash laid at a place of a slice of the call's own. -/
theorem run_store_dig (w : World) (base g n cap : Nat) (l : List (List UInt8)) (h : OwnD w base (.slice (some ⟨g, 0, none⟩) n cap) l) (i : Nat) (hi : i < l.length) (d : List UInt8) (hd : d.length = 32) :
    ∃ cs, (storeVar 30 ⟨g, i * 32, none⟩ (.agg (d.map B8).toArray)).run Try.prog w = .ok () (w.setRow g cs) ∧ OwnD (w.setRow g cs) base (.slice (some ⟨g, 0, none⟩) n cap) (l.set i d) := by
  obtain ⟨h32, hlen, hown⟩ := h
  rcases hown with ⟨hv, _⟩ | ⟨g', cap', cur, hv, hb, hh, hn, hm, hs, ht⟩
  · cases hv
  cases hv
  have hst := run_storeCells_at (P := Try.prog) g (i * 32) 30 (d.map B8) 0 cur w hh (by simp [hd, hs]; omega) (fun v hv => by
    obtain ⟨b, _, rfl⟩ := List.mem_map.1 hv; rfl)
  have hi32 : (Try.prog.info? 30).map (·.size) = some 32 := by kernel_rfl
  simp only [Nat.add_zero, List.length_map, hd] at hst
  refine ⟨(cur.toList.take (i * 32) ++ d.map B8 ++ cur.toList.drop (i * 32 + 32)).toArray, ?_, h32.set i hd, ?_⟩
  · cases hq : Try.prog.info? 30 with
    | none => rw [hq] at hi32; cases hi32
    | some q =>
      rw [hq] at hi32
      simp only [Option.map_some, Option.some.injEq] at hi32
      simp [storeVar, Value.cells, sizeOf, typeInfo, hq, hi32, hd]
      simpa only [List.append_assoc] using hst
  · have hF := flatD_len h32
    refine ⟨by rw [flatD_len (h32.set i hd)], .inr ⟨g, cap, _, by rw [List.length_set], hb, setRow_heap _ _ _ _ _ _ hh, by rw [List.length_set]; exact hn, hm, ?_, ?_⟩⟩
    · simp [hs, hd]; omega
    · rw [flatD_set h32 hi, ← ht, List.length_set]
      have hcl : cur.toList.length = cap * 32 := by simpa using hs
      rw [List.take_take, Nat.min_eq_left (by omega), List.drop_take]
      rw [List.append_assoc, List.append_assoc, List.take_append, List.take_append]
      simp only [List.length_take, List.length_map, hd, hcl]
      rw [Nat.min_eq_left (by omega), List.take_take, Nat.min_eq_right (by omega), List.take_of_length_le (l := d.map B8) (by simp [hd]; omega)]
      rw [show l.length * 32 - i * 32 - 32 = l.length * 32 - (i * 32 + 32) by omega]

theorem OwnD.of_new {w w' : World} {base : Nat} {v : Value} {l : List (List UInt8)} (h : OwnD w base v l) (hg : Below w.heap.size w w') : OwnD w' base v l := by
  refine ⟨h.1, h.2.1, ?_⟩
  rcases h.2.2 with h | ⟨g, cap, cur, hv, hb, hh, hr⟩
  · exact .inl h
  · exact .inr ⟨g, cap, cur, hv, hb, (hg.block _ (Array.getElem?_eq_some_iff.1 hh).1).trans hh, hr⟩

/-- .. at the head of a list of operations. -/
theorem wpList_store_dig {w : World} {ops : Array Oper} {rest : List Oper} {op : Oper} {a : Act} {Q : Exit → Act → World → Prop} (x y : Operand) (base g n cap : Nat) (l : List (List UInt8)) (i : Nat) (d : List UInt8) (hgd : op.guard = none) (ho : op.op = .store 30 x y)
    (hx : a.eval x = .pointer (some ⟨g, i * 32, none⟩)) (hy : a.eval y = .agg (d.map B8).toArray) (h : OwnD w base (.slice (some ⟨g, 0, none⟩) n cap) l) (hi : i < l.length) (hd : d.length = 32)
    (hQ : ∀ cs, OwnD (w.setRow g cs) base (.slice (some ⟨g, 0, none⟩) n cap) (l.set i d) → wpList Try.prog ops Q rest (a.put op.dst undef) (w.setRow g cs)) : wpList Try.prog ops Q (op :: rest) a w :=
  wpList_plain hgd fun _ hK => by
    obtain ⟨cs, hr, ho'⟩ := run_store_dig w base g n cap l h i hi d hd
    unfold Oper.wp execOp
    simp only [ho, hx, hy, Instr.storeAt, Instr.sureAddr, Sem.run_bind, Sem.run_pure, Result.andThen_ok, hr]
    exact hK _ _ (hQ cs ho')

theorem flatD_take {l : List (List UInt8)} (h : Dig32 l) (m : Nat) : flatD (l.take m) = (flatD l).take (m * 32) := by
  induction l generalizing m with
  | nil => simp [flatD]
  | cons d l ih =>
    have h0 := h d (by simp)
    have ht : Dig32 l := fun d hd => h d (List.mem_cons_of_mem _ hd)
    cases m with
    | zero => simp [flatD]
    | succ m =>
      have := ih ht m
      simp only [flatD, List.take_succ_cons, List.flatMap_cons] at this ⊢
      rw [this, show (m + 1) * 32 = (d.map B8).length + m * 32 by simp [h0]; omega, List.take_length_add_append]
theorem flatD_drop {l : List (List UInt8)} (h : Dig32 l) (m : Nat) : flatD (l.drop m) = (flatD l).drop (m * 32) := by
  induction l generalizing m with
  | nil => simp [flatD]
  | cons d l ih =>
    have h0 := h d (by simp)
    have ht : Dig32 l := fun d hd => h d (List.mem_cons_of_mem _ hd)
    cases m with
    | zero => simp
    | succ m =>
      have := ih ht m
      simp only [flatD, List.drop_succ_cons, List.flatMap_cons] at this ⊢
      rw [this, show (m + 1) * 32 = (d.map B8).length + m * 32 by simp [h0]; omega, List.drop_length_add_append]
theorem Dig32.take {l : List (List UInt8)} (h : Dig32 l) (m : Nat) : Dig32 (l.take m) := fun d hd => h d (List.mem_of_mem_take hd)

/-- The first of them. -/
theorem OwnD.first {w : World} {base g n cap m : Nat} {l : List (List UInt8)} (h : OwnD w base (.slice (some ⟨g, 0, none⟩) n cap) l) (hm : m ≤ l.length) : OwnD w base (.slice (some ⟨g, 0, none⟩) m cap) (l.take m) := by
  have e : (l.take m).length = m := by rw [List.length_take]; omega
  refine ⟨h.1.take m, by rw [flatD_len (h.1.take m)], ?_⟩
  rcases h.2.2 with ⟨h, _⟩ | ⟨g', cap', cur, hv, hb, hh, hn, hm', hs, ht⟩
  · cases h
  · cases hv
    refine .inr ⟨g, cap, cur, by rw [e], hb, hh, by rw [e]; omega, hm', hs, ?_⟩
    rw [e, flatD_take h.1, ← ht, List.take_take, Nat.min_eq_left (by omega)]

/-- A hash read at a place, at the head of a list of operations. -/
theorem wpList_load_dig {w : World} {ops : Array Oper} {rest : List Oper} {op : Oper} {a : Act} {Q : Exit → Act → World → Prop} (x : Operand) (g off : Nat) (d : List UInt8) (hgd : op.guard = none) (ho : op.op = .load 30 x)
    (hx : a.eval x = .pointer (some ⟨g, off, none⟩)) (hd : d.length = 32) (hc : ∀ j, j < 32 → w.cell? ⟨g, off + j, none⟩ = (d.map B8)[j]?)
    (h : wpList Try.prog ops Q rest (a.put op.dst (.agg (d.map B8).toArray)) w) : wpList Try.prog ops Q (op :: rest) a w :=
  wpList_plain hgd fun _ hK => by
    have := run_load_dig w g off d hd hc
    unfold Oper.wp execOp
    simp only [ho, hx, Instr.loadAt, Instr.sureAddr, Sem.run_bind, Sem.run_pure, Result.andThen_ok, this]
    exact hK _ _ h

theorem infoDig : (Try.prog.info? 30).map (fun i => (i.zero, i.size, i.bytes)) = some (some (.agg ((List.replicate 32 (0 : UInt8)).map B8).toArray), 32, 32) := by kernel_rfl

/-- 'append(s, x...)' of hashes, s the call's own, x any slice of hashes: the run. -/
theorem run_appD {w : World} (base t ty : Nat) (ht : Try.prog.underlying t = some (.slice 30))
    (v : Value) (l : List (List UInt8)) (hown : OwnD w base v l) (u : Value) (m : List (List UInt8)) (hm : Digs w u m) (hlen : l.length + m.length ≤ 1099511627776) (hbase : base ≤ w.heap.size) :
    ∃ v' w', (Builtin.append_ #[t, t] ty #[v, u]).run Try.prog w = .ok v' w' ∧ OwnD w' base v' (l ++ m) ∧ w.grownBy w' v.ownBlock ∧ (∀ k, v'.ownBlock = some k → v.ownBlock = some k ∨ w.heap.size ≤ k) := by
  obtain ⟨i, hi, hz, hsize, hby⟩ := info_parts infoDig
  obtain ⟨h32, hown⟩ := hown
  obtain ⟨hm32, hl, ad, c, rfl, hc1, hc2, hc3, hc4⟩ := hm
  have hd : Dig32 (l ++ m) := fun d hd => (List.mem_append.1 hd).elim (h32 d) (hm32 d)
  cases ad with
  | none =>
    have hc0 := hc3 rfl
    have hm0 : m = [] := List.eq_nil_of_length_eq_zero (by omega)
    subst hm0
    subst hc0
    refine ⟨v, w, run_append_owned_none (P := Try.prog) (w := w) base t ty 30 i 32 ht hi v l.length (flatD l) hown, by rw [List.append_nil]; exact ⟨h32, hown⟩, World.grownBy.refl _ _, fun k hk => .inl hk⟩
  | some ad =>
    obtain ⟨v', w', h1, h2, h3, _, h5⟩ := run_append_own_at (P := Try.prog) w base t ty 30 i _ 32 32 ht hi hz hsize hby (by simp [Value.cells]) (by decide) v l.length (flatD l) hown ad m.length c (flatD m) (by rw [flatD_len hm32])
      (fun j u hj => by
        have hjl : j < m.length * 32 := by
          rcases Nat.lt_or_ge j (m.length * 32) with h | h
          · exact h
          · rw [List.getElem?_eq_none (by rw [flatD_len hm32]; exact h)] at hj; cases hj
        obtain ⟨b, off, hab, _, hcell⟩ := hc4 (by omega)
        cases hab
        have hplain : (⟨b, off, none⟩ : Addr).add j = ⟨b, off + j, none⟩ := by unfold Addr.add; split <;> simp_all
        rw [hplain, hcell j (by omega), hj])
      (fun u hu => by
        obtain ⟨d, _, hb⟩ := List.mem_flatMap.1 hu
        obtain ⟨b, _, rfl⟩ := List.mem_map.1 hb
        rfl) (by unfold maxLen; omega) (by omega) hbase
    refine ⟨v', w', h1, ⟨hd, ?_⟩, h3, ?_⟩
    · rw [flatD_append, List.length_append]; exact h2
    · intro k hk
      rcases h5 with h5 | h5
      · exact .inl (by rw [← h5]; exact hk)
      · rw [h5] at hk; cases hk; exact .inr (Nat.le_refl _)

/-- .. at the head of a list of operations. -/
theorem wpList_appD {w : World} {ops : Array Oper} {rest : List Oper} {o : Oper} {a : Act} {Q : Exit → Act → World → Prop} (hgd : o.guard = Option.none) (s x : Operand) (t : TypeId)
    (ho : o.op = .call { callee := .builtin .append, args := #[s, x], argTypes := #[t, t] })
    (base : Nat) (ht : Try.prog.underlying t = some (.slice 30))
    (v : Value) (l : List (List UInt8)) (hs : a.eval s = v) (hown : OwnD w base v l) (u : Value) (m : List (List UInt8)) (hx : a.eval x = u) (hm : Digs w u m)
    (hlen : l.length + m.length ≤ 1099511627776) (hbase : base ≤ w.heap.size)
    (h : ∀ v' w', OwnD w' base v' (l ++ m) → w.grownBy w' v.ownBlock → (∀ k, v'.ownBlock = some k → v.ownBlock = some k ∨ w.heap.size ≤ k) → wpList Try.prog ops Q rest (a.put o.dst v') w') : wpList Try.prog ops Q (o :: rest) a w :=
  wpList_plain hgd fun K hK => by
    obtain ⟨v', w', hr, h2, h3, h4⟩ := run_appD base t o.type ht v l hown u m hm hlen hbase
    unfold Oper.wp execOp
    simp only [ho, resolve, invoke, builtin, Sem.run_bind, Sem.run_pure, Result.andThen_ok, List.map_toArray, List.map_cons, List.map_nil, hs, hx, hr]
    exact hK _ _ (h v' w' h2 h3 h4)

/-- A hash read at a place, in a region that draws its order. -/
theorem quiet_load_dig {W : World} {o : Oper} {a : Act} {K : Act → Prop} (x : Operand) (g off : Nat) (d : List UInt8) (ho : o.op = .load 30 x) (hx : a.eval x = .pointer (some ⟨g, off, none⟩)) (hd : d.length = 32) (hg : g < W.heap.size)
    (hc : ∀ j, j < 32 → W.cell? ⟨g, off + j, none⟩ = (d.map B8)[j]?) (hK : K (a.put o.dst (.agg (d.map B8).toArray))) : o.quiet Try.prog a (Grew W) K := by
  refine quiet_val (fun w hw => ?_) hK
  have := run_load_dig w g off d hd (fun j hj => (Below.cell hw (p := ⟨g, off + j, none⟩) hg).trans (hc j hj))
  unfold execOp
  simp only [ho, hx, Instr.loadAt, Instr.sureAddr, Sem.run_bind, Sem.run_pure, Result.andThen_ok, this]

theorem ownD_empty (w : World) : OwnD (w.alloc (.cells #[] 30)) w.heap.size (.slice (some ⟨w.heap.size, 0, none⟩) 0 0) [] := ⟨fun _ h => by simp at h, World.ownsRow_made w #[] 0 (Nat.le_refl _) (by unfold maxLen; omega) rfl⟩

end Go.Proofs.Ytnohglkilpnjhaa

/- Facts about memory as closed words (a hash at a place, one cell with a slice of hashes), and the laws that use them. No condition. -/
namespace Go.Proofs.Ytnohglkilpnjhaa
open Go.RowKit
set_option linter.unusedVariables false
set_option linter.unusedSimpArgs false

/-- At that place lies the hash d. -/
def DigAt (w : World) (g off : Nat) (d : List UInt8) : Prop := d.length = 32 ∧ ∀ j, j < 32 → w.cell? ⟨g, off + j, none⟩ = (d.map B8)[j]?
theorem DigAt.lt {w : World} {g off : Nat} {d : List UInt8} (h : DigAt w g off d) : g < w.heap.size := by
  have := h.2 0 (by omega)
  rw [List.getElem?_eq_getElem (by simp [h.1])] at this
  exact World.block_lt_of_cell? _ _ this
theorem DigAt.of_new {w w' : World} {g off : Nat} {d : List UInt8} (h : DigAt w g off d) (hg : Below w.heap.size w w') : DigAt w' g off d :=
  ⟨h.1, fun j hj => (hg.cell (p := ⟨g, off + j, none⟩) h.lt).trans (h.2 j hj)⟩
theorem DigAt.of_block {w w' : World} {g off : Nat} {d : List UInt8} (h : DigAt w g off d) (hg : w'.heap[g]? = w.heap[g]?) : DigAt w' g off d :=
  ⟨h.1, fun j hj => (World.cell?_of_block (a := ⟨g, off + j, none⟩) hg).trans (h.2 j hj)⟩
theorem Digs.digAt {w : World} {b off n c : Nat} {l : List (List UInt8)} (h : Digs w (.slice (some ⟨b, off, none⟩) n c) l) {i : Nat} (hi : i < l.length) : DigAt w b (off + i * 32) (l.getD i []) := by
  obtain ⟨b', off', c', hv, hb, hc⟩ := h.at_ (by omega)
  cases hv
  exact ⟨h.1.getD hi, hc i hi⟩
theorem Digs.digAt0 {w : World} {b n c : Nat} {l : List (List UInt8)} (h : Digs w (.slice (some ⟨b, 0, none⟩) n c) l) {i : Nat} (hi : i < l.length) : DigAt w b (i * 32) (l.getD i []) := by
  have := h.digAt hi
  rwa [Nat.zero_add] at this
theorem Octs.digAt {w : World} {g t : Nat} {d : List UInt8} (h : Octs w g t d) (hd : d.length = 32) : DigAt w g 0 d :=
  ⟨hd, fun j hj => by rw [Nat.zero_add]; simp [World.cell?, show w.heap[g]? = _ from h]⟩
theorem Digs.shape {w : World} {v : Value} {l : List (List UInt8)} (h : Digs w v l) (h0 : 0 < l.length) : ∃ b off c, v = .slice (some ⟨b, off, none⟩) l.length c := by
  obtain ⟨b, off, c, hv, _⟩ := h.at_ h0
  exact ⟨b, off, c, hv⟩
theorem OwnD.lt {w : World} {base : Nat} {v : Value} {l : List (List UInt8)} (h : OwnD w base v l) : ∀ k, v.ownBlock = some k → base ≤ k ∧ k < w.heap.size := World.ownsRow.lt h.2
theorem OwnD.mono {w : World} {base base' : Nat} {v : Value} {l : List (List UInt8)} (h : OwnD w base v l) (hb : base' ≤ base) : OwnD w base' v l :=
  ⟨h.1, h.2.1, h.2.2.imp id (fun ⟨g, cap, cur, a, b, c⟩ => ⟨g, cap, cur, a, Nat.le_trans hb b, c⟩)⟩

theorem OwnD.alloc {w : World} {base : Nat} {v : Value} {l : List (List UInt8)} (h : OwnD w base v l) (o : Obj) : OwnD (w.alloc o) base v l := h.of_new ((Below.refl _ _).alloc (Nat.le_refl _) o)

theorem wpList_load_at {w : World} {ops : Array Oper} {rest : List Oper} {op : Oper} {a : Act} {Q : Exit → Act → World → Prop} {ty : TypeId} {x : Operand} {g off : Nat} {d : List UInt8} (hgd : op.guard = none) (ho : op.op = .load 30 x)
    (hx : a.eval x = .pointer (some ⟨g, off, none⟩)) (hd : DigAt w g off d) (h : wpList Try.prog ops Q rest (a.put op.dst (.agg (d.map B8).toArray)) w) : wpList Try.prog ops Q (op :: rest) a w :=
  wpList_load_dig x g off d hgd ho hx hd.1 hd.2 h

theorem quiet_load_at {W : World} {o : Oper} {a : Act} {K : Act → Prop} {ty : TypeId} {x : Operand} {g off : Nat} {d : List UInt8} (ho : o.op = .load 30 x) (hx : a.eval x = .pointer (some ⟨g, off, none⟩))
    (hd : DigAt W g off d) (hK : K (a.put o.dst (.agg (d.map B8).toArray))) : o.quiet Try.prog a (Grew W) K :=
  quiet_load_dig x g off d ho hx hd.1 hd.lt hd.2 hK

/-- One hash that was laid in a new block. -/
theorem digs_one (w : World) (d : List UInt8) (hd : d.length = 32) : Digs (w.alloc (.cells (d.map B8).toArray 30)) (.slice (some ⟨w.heap.size, 0, none⟩) 1 1) [d] := by
  refine ⟨fun e he => by simp at he; rw [he]; exact hd, by simp [flatD, hd], _, 1, rfl, Nat.le_refl _, by unfold maxLen; omega, (fun h => by cases h), fun _ => ⟨_, 0, rfl, by simp, fun j hj => ?_⟩⟩
  have := heap_alloc_new w (.cells (d.map B8).toArray 30)
  simp only [World.cell?, Nat.zero_add, this]
  simp [flatD]

theorem digs_laid (w : World) (ds : List (List UInt8)) (h32 : Dig32 ds) (h1 : ds.length ≤ maxLen) : OwnD (w.alloc (.cells (flatD ds).toArray 30)) w.heap.size (.slice (some ⟨w.heap.size, 0, none⟩) ds.length ds.length) ds :=
  ⟨h32, by rw [flatD_len h32], .inr ⟨w.heap.size, ds.length, (flatD ds).toArray, rfl, Nat.le_refl _, heap_alloc_new _ _, Nat.le_refl _, h1, by simp [flatD_len h32], by rw [← flatD_len h32]; simp⟩⟩

set_option maxRecDepth 100000 in
/-- A slice literal of hashes. -/
theorem wpList_buildDigs {w : World} {ops : Array Oper} {rest : List Oper} {op : Oper} {a : Act} {Q : Exit → Act → World → Prop} (n : Nat) (parts : Array (Nat × Operand)) (ds : List (List UInt8)) (hgd : op.guard = none) (ho : op.op = .buildSlice 52 n parts)
    (hn : n = ds.length) (h0 : 0 < ds.length) (h1 : ds.length ≤ 1000) (h32 : Dig32 ds) (hp : (parts.map fun (i, x) => (i, a.eval x)).toList = ((ds.map fun d => Value.agg (d.map B8).toArray).zipIdx 0).map fun x => (x.2, x.1))
    (h : ∀ w', OwnD w' w.heap.size (.slice (some ⟨w.heap.size, 0, none⟩) n n) ds → Below w.heap.size w w' → w'.heap.size = w.heap.size + 1 → wpList Try.prog ops Q rest (a.put op.dst (.slice (some ⟨w.heap.size, 0, none⟩) n n)) w') : wpList Try.prog ops Q (op :: rest) a w := by
  obtain ⟨i, hi, hz, hsize, hby⟩ := info_parts infoDig
  subst hn
  refine wpList_buildSlice hgd 52 30 ds.length parts ho (flatD ds).toArray i _ Try.underlying52 hi hz (by rw [hsize]; omega) (by rw [hsize]; omega) ?_ (h _ (digs_laid w ds h32 (by unfold maxLen; omega)) ((Below.refl _ w).alloc (Nat.le_refl _) _) (by simp))
  rw [hp, hsize]
  rw [Great.fill_whole (by omega) _ _ (fun v hv => by
    obtain ⟨d, hd, rfl⟩ := List.mem_map.1 hv
    simp [Value.cells, h32 d hd]) (by simp)]
  congr 1
  simp [flatD, List.flatMap_map, Value.cells]

/-- A whole hash laid into the block that was made last. -/
theorem wpList_store_fresh {w : World} {A : Array Value} {ops : Array Oper} {rest : List Oper} {op : Oper} {a : Act} {Q : Exit → Act → World → Prop} (x y : Operand) (d : List UInt8) (hgd : op.guard = none) (ho : op.op = .store 30 x y)
    (hx : a.eval x = .pointer (some ⟨w.heap.size, 0, none⟩)) (hy : a.eval y = .agg (d.map B8).toArray) (hA : A.size = 32) (hd : d.length = 32)
    (h : ∀ w', DigAt w' w.heap.size 0 d → Octs w' w.heap.size 30 d → Below w.heap.size w w' → w.heap.size < w'.heap.size → wpList Try.prog ops Q rest (a.put op.dst undef) w') : wpList Try.prog ops Q (op :: rest) a (w.alloc (.cells A 30)) := by
  have ho' : Octs ((w.alloc (.cells A 30)).setRow w.heap.size (d.map B8).toArray) w.heap.size 30 d := setRow_heap _ _ _ _ _ _ (heap_alloc_new w _)
  exact wpList_store_row hgd 30 x y ho w.heap.size 30 A (d.map B8).toArray hx hy (heap_alloc_new w _) (by rw [info_dig]; simp [hd]) (by simp [hA, hd]) (octs_one d)
    (h _ (ho'.digAt hd) ho' (((Below.refl _ w).alloc (Nat.le_refl _) _).trans (below_setRow' _ _ _ (Nat.le_refl _))) (by simp))

end Go.Proofs.Ytnohglkilpnjhaa

/- Regions that draw their order, within a round of a range over a function (or anywhere in the wide fence): the laws of a class of worlds, told of a fence; and a first operation that nobody but a late one waits for. No condition. -/
namespace Go.Proofs.Ytnohglkilpnjhaa
open Go.RowKit
set_option linter.unusedVariables false
set_option linter.unusedSimpArgs false

/-- The wide fence, in a round or not. -/
def WF (ro : Option Nat) : Fence := { Fence.wide with round := ro }
theorem wF_none : WF none = Fence.wide := rfl
theorem wF_some (l : Nat) : WF (some l) = Fence.wide.inRound l := rfl

section
variable {ro : Option Nat} {m : Nat} {P : Program} {ops : Array Oper} {md : Region.Mode} {C : World → Prop}

theorem callsIn_wF {f : FuncId} {args : Array Value} {w : World} {R : Ending → World → Prop} (h : Calls P f args w R) : CallsIn (WF ro) m P f args w R :=
  (callsIn_wide (n := m)).2 h

theorem rowsIn_wF {row : String} {args : Array Value} {w : World} {R : Value → World → Prop} (h : Rows P row args w R) : RowsIn (WF ro) m P row args w R := fun c cs _ => by
  obtain ⟨v, w', r, s⟩ := h c cs
  exact ⟨v, w', r, (stepsIn_wide (P := P)).2 s⟩

/-- An operation's law, told of the fence. -/
theorem wpIn_of_wp {o : Oper} {a : Act} {w : World} {K : Act → World → Prop} {Q : Exit → Act → World → Prop} (hd : ∀ c, o.op ≠ .defer c) (h : o.wp P a w K Q) : o.wpIn (WF ro) m P a w K Q := by
  refine ⟨fun _ _ => trivial, ?_⟩
  rw [Oper.semAt_eq _ _ _ hd]
  unfold Oper.wp at h
  generalize (execOp a.eval o).run P w = r at *
  cases r with
  | ok x w' =>
    cases x <;> simp only [Oper.upon] at h <;> simp only [Oper.uponIn]
    case value => exact h
    case skip => exact h
    case defer => exact h
    case enter => exact ⟨(fun h => by simp [WF, Fence.wide] at h), callsIn_wF h⟩
    case row => exact ⟨(fun h => by simp [WF, Fence.wide] at h), rowsIn_wF h⟩
  | halt x w' => cases x <;> simp only [Oper.upon] at h <;> simp only [Oper.uponIn] <;> exact h

/-- .. at the head of a list of operations. -/
theorem wpListIn_of_wp {ops : Array Oper} {rest : List Oper} {o : Oper} {a : Act} {w : World} {Q : Exit → Act → World → Prop} (hgd : o.guard = none) (hd : ∀ c, o.op ≠ .defer c)
    (h : o.wp P a w (wpListIn (WF ro) m P ops Q rest) Q) : wpListIn (WF ro) m P ops Q (o :: rest) a w :=
  wpListIn_plain hgd fun K hK => wpIn_of_wp hd (Oper.wp_mono hK h)

def noDefer (ops : Array Oper) : Bool := ops.all fun o => match o.op with | .defer _ => false | _ => true
theorem noDefer_spec {i : Nat} {o : Oper} (h : noDefer ops = true) (hi : ops[i]? = some o) : ∀ c, o.op ≠ .defer c := by
  intro c hc
  have := Array.all_eq_true_iff_forall_mem.1 h o (Array.mem_of_getElem? hi)
  rw [hc] at this
  cases this

theorem wpOpIn_of_qOp {i : Nat} {a : Act} {K : Act → Prop} {K' : Act → World → Prop} {Q' : Exit → Act → World → Prop} {w : World} (hnd : noDefer ops = true) (hC : C w) (h : ∀ a w', C w' → K a → K' a w') (hh : qOp P ops C i K a) :
    wpOpIn (WF ro) m P ops Q' i K' a w := by
  unfold qOp at hh
  unfold wpOpIn
  split
  · rename_i ho; simp only [ho] at hh; exact h _ _ hC hh
  · rename_i o ho
    simp only [ho] at hh
    split
    · rename_i hw; simp only [hw, if_true] at hh; exact wpIn_of_wp (noDefer_spec hnd ho) (Oper.wp_of_quiet hC h hh)
    · rename_i hw; simp only [hw] at hh; exact ⟨fun _ _ => trivial, h _ _ hC hh⟩

/-- Any order of operations; behind each that D does not name the world is of the class. -/
def wpAnyS (ro : Option Nat) (m : Nat) (P : Program) (md : Region.Mode) (ops : Array Oper) (C : World → Prop) (D : Nat → Bool) (Q : Exit → Act → World → Prop) : Nat → Array Bool → Act → World → Prop
  | 0, listed, a, w => Region.ready md ops listed = [] ∧ Q .normal a w
  | fuel + 1, listed, a, w =>
    (Region.ready md ops listed = [] → Q .normal a w) ∧
    ∀ i ∈ Region.ready md ops listed, wpOpIn (WF ro) m P ops Q i (fun a' w' => (D i = false → C w') ∧ wpAnyS ro m P md ops C D Q fuel (listed.setIfInBounds i true) a' w') a w

variable {D : Nat → Bool} {Q : Exit → Act → World → Prop}

theorem yieldsIn_wpOpIn {i : Nat} {oi : Oper} {v : Value} {a : Act} {w : World} {K : Act → World → Prop} (hnd : noDefer ops = true) (hi : ops[i]? = some oi) (hy : YieldsIn P ops C oi v a) (hC : C w) (h : ∀ w', C w' → K (a.put oi.dst v) w') :
    wpOpIn (WF ro) m P ops Q i K a w :=
  wpOpIn_of_qOp (C := C) (K := fun a' => a' = a.put oi.dst v) hnd hC (fun a' w' hw' e => by rw [e]; exact h w' hw') (hy.qOp hi rfl)

/-- An operation that yields one value and leaves the world: it may be taken first. -/
def StillIn (P : Program) (ops : Array Oper) (C : World → Prop) (o : Oper) (v : Value) (a : Act) : Prop :=
  Region.wanted o (yielded ops a.tmps) = true ∧ ∀ w, C w → (execOp a.eval o).run P w = .ok (.value v) w

theorem StillIn.of_same {o : Oper} {v : Value} {a a' : Act} (hy : StillIn P ops C o v a) (he : execOp a'.eval o = execOp a.eval o)
    (hw : Region.wanted o (yielded ops a'.tmps) = Region.wanted o (yielded ops a.tmps)) : StillIn P ops C o v a' := by
  unfold StillIn at *
  rw [he, hw]
  exact hy

theorem StillIn.wpOpIn {i : Nat} {o : Oper} {v : Value} {a : Act} {w : World} {K : Act → World → Prop} (hnd : noDefer ops = true) (hi : ops[i]? = some o) (hy : StillIn P ops C o v a) (hC : C w) (h : K (a.put o.dst v) w) :
    wpOpIn (WF ro) m P ops Q i K a w := by
  unfold Go.wpOpIn
  simp only [hi, hy.1, if_true]
  refine wpIn_of_wp (noDefer_spec hnd hi) ?_
  unfold Oper.wp
  rw [hy.2 w hC]
  exact h

theorem wpOpIn_putS {j : Nat} {oi oj : Oper} {v : Value} (hnd : noDefer ops = true) (hj : ops[j]? = some oj) (hap : oi.apart ops oj = true)
    (hsi : ∀ cs b, oi.op ≠ .select cs b) (hsj : ∀ cs b, oj.op ≠ .select cs b)
    (hQ : ∀ c a w, Q (.panic c) (a.put oi.dst v) w → Q (.panic c) a w) {K : Act → World → Prop} {a : Act} {w : World}
    (hy : StillIn P ops C oi v a) (h : wpOpIn (WF ro) m P ops Q j K (a.put oi.dst v) w) :
    wpOpIn (WF ro) m P ops Q j (fun a' w' => StillIn P ops C oi v a' ∧ K (a'.put oi.dst v) w') a w := by
  obtain ⟨h1, h2, h3⟩ := Oper.apart_spec hap
  have keep : ∀ (a : Act), StillIn P ops C oi v a → ∀ u, StillIn P ops C oi v (a.put oj.dst u) := fun a hy u =>
    hy.of_same (execOp_put oi hsi a oj.dst u h3) (wanted_put oi a oj.dst u h3)
  have hdj := noDefer_spec hnd hj
  unfold wpOpIn at *
  simp only [hj] at *
  rw [wanted_put oj a oi.dst v h1, about_put oj w a oi.dst v h1] at h
  split
  · rename_i hw
    simp only [hw, if_true] at h
    unfold Oper.wpIn at *
    refine ⟨fun _ _ => trivial, ?_⟩
    have h := h.2
    rw [Oper.semAt_eq _ _ _ hdj, execOp_put oj hsj a oi.dst v h1] at h
    rw [Oper.semAt_eq _ _ _ hdj]
    generalize hr : (execOp a.eval oj).run P w = r at *
    cases r with
    | ok x w' =>
      cases x <;> simp only [Oper.uponIn] at h ⊢
      case value u => exact ⟨keep a hy u, by rw [← Act.put_comm a v u h2]; exact h⟩
      case skip => exact ⟨keep a hy _, by rw [← Act.put_comm a v undef h2]; exact h⟩
      case defer d => exact ⟨(hy.of_same rfl rfl : StillIn P ops C oi v { a with defers := d :: a.defers }).of_same (execOp_put oi hsi _ oj.dst _ h3) (wanted_put oi _ oj.dst _ h3), by rw [← Act.put_comm _ v undef h2, ← Act.put_defers]; exact h⟩
      case enter f args =>
        refine ⟨h.1, CallsIn.mono h.2 fun e w'' he => ?_⟩
        cases e with
        | returned u => exact ⟨keep a hy u, by rw [← Act.put_comm a v u h2]; exact he⟩
        | panicked c => exact hQ _ _ _ he
        | outgrown => exact he
      case row row args => exact ⟨h.1, RowsIn.mono h.2 fun u w'' he => ⟨keep a hy u, by rw [← Act.put_comm a v u h2]; exact he⟩⟩
      case round l f tmps assign body =>
        refine ⟨h.1, RoundIn.mono h.2 fun e w'' he => ?_⟩
        cases e with
        | returned u => exact ⟨keep a hy u, by rw [← Act.put_comm a v u h2]; exact he⟩
        | panicked c => exact hQ _ _ _ he
        | outgrown => exact he
    | halt x w' =>
      cases x <;> simp only [Oper.uponIn] at h ⊢
      case panic u => exact hQ _ _ _ h
  · rename_i hw
    simp only [hw] at h
    exact ⟨fun _ _ => trivial, keep a hy _, by rw [← Act.put_comm a v undef h2]; exact h.2⟩

theorem wpAnyS_any : ∀ (fuel : Nat) (listed : Array Bool) (a : Act) (w : World), wpAnyS ro m P md ops C D Q fuel listed a w → wpAnyIn (WF ro) m P md ops Q fuel listed a w := by
  intro fuel
  induction fuel with
  | zero => intro listed a w h; exact h
  | succ fuel ih => intro listed a w h; exact ⟨h.1, fun i hi => wpOpIn_mono (fun a' w' h' => ih _ a' w' h'.2) (h.2 i hi)⟩

/-- THE LAW: an operation that yields one value in each world of the class, and leaves it, may be taken first, if whatever can come ahead of it keeps to the class. -/
theorem wpAnyS_first {i : Nat} {oi : Oper} {v : Value} (hnd : noDefer ops = true) (hi : ops[i]? = some oi) (hsel : ∀ (j : Nat) (o : Oper) cs b, ops[j]? = some o → o.op ≠ .select cs b)
    (hQ : ∀ c a w, Q (.panic c) (a.put oi.dst v) w → Q (.panic c) a w) (hDi : ∀ j, D j = true → Region.waitsFor md ops j i = true) :
    ∀ (fuel : Nat) (listed : Array Bool) (a : Act) (w : World),
      (∀ j oj, ops[j]? = some oj → j ≠ i → listed.getD j true = false → (∀ e ∈ oj.after, Region.binds md e = true → e.on ≠ i) → oi.apart ops oj = true) →
      i ∈ Region.ready md ops listed → StillIn P ops C oi v a → C w →
      wpAnyS ro m P md ops C D Q fuel (listed.setIfInBounds i true) (a.put oi.dst v) w → wpAnyIn (WF ro) m P md ops Q (fuel + 1) listed a w := by
  intro fuel
  induction fuel with
  | zero =>
    intro listed a w _ hr hy hC H
    refine ⟨fun h => (by rw [h] at hr; cases hr), fun j hj => ?_⟩
    by_cases hji : j = i
    · subst hji; exact hy.wpOpIn hnd hi hC H
    · have := ready_mono hj hji
      rw [H.1] at this
      cases this
  | succ fuel ih =>
    intro listed a w hfree hr hy hC H
    refine ⟨fun h => (by rw [h] at hr; cases hr), fun j hj => ?_⟩
    by_cases hji : j = i
    · subst hji; exact hy.wpOpIn hnd hi hC (wpAnyS_any _ _ _ _ H)
    · have h1 := H.2 j (ready_mono hj hji)
      obtain ⟨hjun, oj, hoj, hall⟩ := mem_ready.1 hj
      have hnot : ∀ e ∈ oj.after, Region.binds md e = true → e.on ≠ i := fun e he hb heq => by
        have h1 := hall e he hb
        have h0 := (mem_ready.1 hr).1
        rw [heq] at h1
        rcases Nat.lt_or_ge i listed.size with h' | h'
        · simp [h'] at h0 h1; rw [h0] at h1; cases h1
        · simp [Array.getElem?_eq_none h'] at h1
      have hDj : D j = false := by
        cases hd : D j with
        | false => rfl
        | true =>
          obtain ⟨oj', hoj', e, he, hb, hon⟩ := Region.waitsFor_spec (hDi j hd)
          rw [hoj] at hoj'
          cases hoj'
          exact absurd hon (hnot e he hb)
      have h2 := wpOpIn_putS (C := C) hnd hoj (hfree j oj hoj hji hjun hnot) (fun cs b => hsel i oi cs b hi) (fun cs b => hsel j oj cs b hoj) hQ hy h1
      have hfree' : ∀ k ok, ops[k]? = some ok → k ≠ i → (listed.setIfInBounds j true).getD k true = false →
          (∀ e ∈ ok.after, Region.binds md e = true → e.on ≠ i) → oi.apart ops ok = true := fun k ok hk hki hun hno => by
        refine hfree k ok hk hki ?_ hno
        by_cases hjk : j = k
        · subst hjk; exact hjun
        · rw [getD_set_ne true hjk] at hun; exact hun
      refine wpOpIn_mono (fun a' w' h3 => ih (listed.setIfInBounds j true) a' w' hfree' (ready_mono hr (Ne.symm hji)) h3.1 (h3.2.1 hDj) ?_) h2
      rw [Array.setIfInBounds_comm _ _ hji]
      exact h3.2.2

theorem wpAnyS_of_headQ {n g : Nat} {L : Array Bool → Act → Prop} (hnd : noDefer ops = true) (hL : ∀ listed a w, C w → L listed a → wpAnyS ro m P md ops C D Q g listed a w) :
    ∀ (f : Nat) (listed : Array Bool) (a : Act) (w : World), C w → wpHeadQ P md ops C n L f listed a → wpAnyS ro m P md ops C D Q (f + g) listed a w := by
  intro f
  induction f with
  | zero => intro listed a w hw h; rw [Nat.zero_add]; exact hL _ _ _ hw h
  | succ f ih =>
    intro listed a w hw h
    rw [show f + 1 + g = (f + g) + 1 by omega]
    exact ⟨fun h0 => absurd h0 h.1, fun i hi => wpOpIn_of_qOp hnd hw (fun a' w' hw' h' => ⟨fun _ => hw', ih _ a' w' hw' h'⟩) (h.2 i hi).2⟩

/-- A list of operations; behind each that D does not name the world is of the class. -/
def wpListS (ro : Option Nat) (m : Nat) (P : Program) (ops : Array Oper) (C : World → Prop) (D : Nat → Bool) (Q : Exit → Act → World → Prop) : Nat → List Oper → Act → World → Prop
  | _, [], a, w => Q .normal a w
  | k, o :: rest, a, w =>
    if Region.wanted o (yielded ops a.tmps) then o.wpIn (WF ro) m P a w (fun a' w' => (D k = false → C w') ∧ wpListS ro m P ops C D Q (k + 1) rest a' w') Q
    else (D k = false → C w) ∧ wpListS ro m P ops C D Q (k + 1) rest (a.put o.dst undef) w

theorem wpAnyS_of_seq : ∀ (l : List Oper) (k : Nat) (listed : Array Bool) (a : Act) (w : World), (∀ j, l[j]? = ops[k + j]?) →
    Region.seqB md ops l.length k listed = true → wpListS ro m P ops C D Q k l a w → wpAnyS ro m P md ops C D Q l.length listed a w
  | [], _, _, _, _, _, hB, h => ⟨by simpa [Region.seqB] using hB, h⟩
  | o :: l, k, listed, a, w, hl, hB, h => by
    have h0 : ops[k]? = some o := by simpa using (hl 0).symm
    simp only [List.length_cons, Region.seqB, Bool.and_eq_true, decide_eq_true_eq] at hB
    refine ⟨fun h1 => (by rw [hB.1] at h1; cases h1), fun i hi => ?_⟩
    rw [hB.1] at hi
    have hik : i = k := by simpa using hi
    subst hik
    have hw : wpOpIn (WF ro) m P ops Q i (fun a' w' => (D i = false → C w') ∧ wpListS ro m P ops C D Q (i + 1) l a' w') a w := by
      unfold wpOpIn
      simp only [h0]
      unfold wpListS at h
      split
      · rename_i hq; rw [if_pos hq] at h; exact h
      · rename_i hq; rw [if_neg hq] at h; exact ⟨fun _ _ => trivial, h⟩
    exact wpOpIn_mono (fun a' w' h' => ⟨h'.1, wpAnyS_of_seq l (i + 1) _ a' w' (fun j => by have := hl (j + 1); simpa [Nat.add_assoc, Nat.add_comm 1 j] using this) hB.2 h'.2⟩) hw

/-- Operations that all wait: nothing is asked of the class. -/
theorem wpListS_of_list : ∀ (l : List Oper) (k : Nat) (a : Act) (w : World), (∀ j, k ≤ j → j < k + l.length → D j = true) → wpListIn (WF ro) m P ops Q l a w → wpListS ro m P ops C D Q k l a w
  | [], _, _, _, _, h => h
  | o :: l, k, a, w, hD, h => by
    have hk : D k = true := hD k (Nat.le_refl _) (by simp)
    unfold wpListS
    unfold wpListIn at h
    split
    · rename_i hq
      rw [if_pos hq] at h
      exact Oper.wpIn_mono (fun a' w' h' => ⟨(fun e => by rw [hk] at e; cases e), wpListS_of_list l (k + 1) a' w' (fun j h1 h2 => hD j (by omega) (by simp only [List.length_cons]; omega)) h'⟩) h
    · rename_i hq
      rw [if_neg hq] at h
      exact ⟨(fun e => by rw [hk] at e; cases e), wpListS_of_list l (k + 1) _ w (fun j h1 h2 => hD j (by omega) (by simp only [List.length_cons]; omega)) h.2⟩

/-- What is owed of the one operation behind the head, and of those behind it (a word, that no simp set opens). -/
def Late (ro : Option Nat) (m : Nat) (P : Program) (ops : Array Oper) (C : World → Prop) (Q : Exit → Act → World → Prop) (ob : Oper) (rest : List Oper) (a : Act) (w : World) : Prop :=
  ob.wp P a w (fun a'' w'' => C w'' ∧ wpListIn (WF ro) m P ops Q rest a'' w'') Q
theorem Late.mk {ro : Option Nat} {m : Nat} {P : Program} {ops : Array Oper} {C : World → Prop} {Q : Exit → Act → World → Prop} {ob : Oper} {rest : List Oper} {a : Act} {w : World} (h : ob.wp P a w (fun a'' w'' => C w'' ∧ wpListIn (WF ro) m P ops Q rest a'' w'') Q) : Late ro m P ops C Q ob rest a w := h

/-- THE REGION: its first operation only reads; the head's others (up to n) yield one value each in every world of the class; then one operation that keeps to the class; then operations that wait for all. -/
theorem wpIn_region_late {id : Nat} {a : Act} {w : World} {o ob : Oper} {l : List Oper} (n : Nat) (v : Value) (hm : P.follows .mixedOrders = true) (hgo : o.guard = none) (hob : (o :: l)[n]? = some ob) (hgb : ob.guard = none)
    (hT : (Region.noSelect (o :: l).toArray && noDefer (o :: l).toArray && Region.free .any (o :: l).toArray (Array.replicate (l.length + 1) false) 0 && (Region.ready .any (o :: l).toArray (Array.replicate (l.length + 1) false)).contains 0) = true)
    (hB : (decide (n < l.length + 1) && decide (1 ≤ n) && invB .any (o :: l).toArray n ((Array.replicate (l.length + 1) false).setIfInBounds 0 true) && sinkU .any (o :: l).toArray n ((Array.replicate (l.length + 1) false).setIfInBounds 0 true) && Region.chainB .any (o :: l).toArray n && Region.lexHead .any (o :: l).toArray (l.length + 1 - n) (n - 1) 1 ((Array.replicate (l.length + 1) false).setIfInBounds 0 true)) = true)
    (hD : ((List.range (l.length + 1)).all fun j => decide (j ≤ n) || Region.waitsFor .any (o :: l).toArray j 0) = true)
    (hC : C { w with drawn := w.drawn + 1 }) (hy : ∀ w, C w → (execOp a.eval o).run P w = .ok (.value v) w) (hQ : ∀ c a w, Q (.panic c) (a.put o.dst v) w → Q (.panic c) a w)
    (h : wpQuiet P (o :: l).toArray C (fun a' => ∀ w', C w' → Late ro m P (o :: l).toArray C Q ob ((o :: l).drop (n + 1)) a' w') (((o :: l).take n).drop 1) (a.put o.dst v)) :
    (Code.region id (o :: l).toArray true).wpIn (WF ro) m P Q a w := by
  simp only [Bool.and_eq_true, decide_eq_true_eq] at hT hB
  obtain ⟨⟨⟨hsel, hnd⟩, hfree⟩, hready⟩ := hT
  obtain ⟨⟨⟨⟨⟨hn, hm1⟩, hinv⟩, hs⟩, hc⟩, hlex⟩ := hB
  have hsz : (o :: l).toArray.size = l.length + 1 := by simp
  let D : Nat → Bool := fun j => decide (n < j) && decide (j < l.length + 1)
  have hDi : ∀ j, D j = true → Region.waitsFor .any (o :: l).toArray j 0 = true := fun j hj => by
    simp only [D, Bool.and_eq_true, decide_eq_true_eq] at hj
    have := List.all_eq_true.1 hD j (List.mem_range.2 hj.2)
    simpa [show ¬ j ≤ n by omega] using this
  refine wpIn_region_any hm ?_
  rw [hsz]
  refine wpAnyS_first (C := C) (D := D) (i := 0) (oi := o) (v := v) hnd (by simp) (Region.noSelect_spec hsel) hQ hDi l.length _ a _ (Region.free_spec (by simp) hfree) (by simpa using hready)
    ⟨by simp [Region.wanted, hgo], hy⟩ hC ?_
  have htl : (((o :: l).take n).drop 1).length = n - 1 := by simp; omega
  have hdl : ((o :: l).drop n).length = l.length + 1 - n := by simp
  have H := wpHeadQ_lexU (md := .any) (C := C) (g := l.length + 1 - n) (l0 := (Array.replicate (l.length + 1) false).setIfInBounds 0 true) hsel hs hc (by rw [hsz]; exact hn) (((o :: l).take n).drop 1) 1 _ _ (fun j hj => by
    have hj' : j < n - 1 := by rw [htl] at hj; exact hj
    rw [List.getElem?_drop, List.getElem?_take, if_pos (by omega)]
    simp) (by rw [htl]; omega) (invB_spec hinv) (fun _ h => h) (by rw [htl]; exact hlex) h
  have := wpAnyS_of_headQ (ro := ro) (m := m) (D := D) (Q := Q) (g := l.length + 1 - n) hnd (fun listed a' w' hw' hL => by
    have hdrop : (o :: l).drop n = ob :: (o :: l).drop (n + 1) := by
      rw [List.drop_eq_getElem_cons (by simpa using hn)]
      congr 1
      rw [List.getElem?_eq_getElem (by simpa using hn)] at hob
      exact Option.some.inj hob
    have hob0 : (o :: l).toArray[n]? = some ob := by simpa using hob
    have hlist : wpListS ro m P (o :: l).toArray C D Q n ((o :: l).drop n) a' w' := by
      rw [hdrop]
      unfold wpListS
      rw [if_pos (by simp [Region.wanted, hgb])]
      refine Oper.wpIn_mono (fun a'' w'' h'' => ⟨fun _ => h''.1, wpListS_of_list _ _ _ _ (fun j h1 h2 => ?_) h''.2⟩) (wpIn_of_wp (noDefer_spec hnd hob0) (hL.2 w' hw'))
      simp only [List.length_drop, List.length_cons] at h2
      simp only [D, Bool.and_eq_true, decide_eq_true_eq]
      omega
    have := wpAnyS_of_seq (md := .any) (Q := Q) ((o :: l).drop n) n listed a' w' (fun j => by simp [List.getElem?_drop]) (by rw [hdl]; exact hL.1) hlist
    rwa [hdl] at this) _ _ _ _ hC H
  rw [htl, show n - 1 + (l.length + 1 - n) = l.length by omega] at this
  exact this

/-- .. the head alone, then operations in one order. -/
theorem wpIn_region_class {id : Nat} {a : Act} {w : World} {l : List Oper} (n : Nat) (hm : P.follows .mixedOrders = true) (hB : (Region.lexTailB .any l.toArray n && noDefer l.toArray) = true) (hC : C { w with drawn := w.drawn + 1 })
    (h : wpQuiet P l.toArray C (fun a' => ∀ w', C w' → wpListIn (WF ro) m P l.toArray Q (l.drop n) a' w') (l.take n) a) : (Code.region id l.toArray true).wpIn (WF ro) m P Q a w := by
  simp only [Region.lexTailB, Bool.and_eq_true, decide_eq_true_eq] at hB
  obtain ⟨⟨⟨⟨⟨hsel, hn⟩, hs⟩, hc⟩, hlex⟩, hnd⟩ := hB
  have hn' : n < l.length := by simpa using hn
  have htl : (l.take n).length = n := by simp; omega
  have hdl : (l.drop n).length = l.toArray.size - n := by simp
  have H := wpHeadQ_lex (md := .any) (C := C) (g := l.toArray.size - n) hsel hs hc hn (l.take n) 0 (Array.replicate l.toArray.size false) a (fun j hj => by
    have hj' : j < n := by rw [htl] at hj; exact hj
    simp [hj']) (by simpa using htl)
    ⟨by simp, fun j oj _ hl => (by rw [getD_replicate_false] at hl; cases hl), fun t _ ht => getD_in (by simpa using ht) (getD_replicate_false _ _)⟩ (by rw [htl]; exact hlex) h
  refine wpIn_region_any hm ?_
  have := wpAnyS_of_headQ (ro := ro) (m := m) (D := fun _ => true) (Q := Q) (g := l.toArray.size - n) hnd (fun listed a' w' hw' hL => by
    have := wpAnyS_of_seq (ro := ro) (m := m) (C := C) (D := fun _ => true) (md := .any) (Q := Q) (l.drop n) n listed a' w' (fun j => by simp [List.getElem?_drop]) (by rw [hdl]; exact hL.1) (wpListS_of_list _ _ _ _ (fun _ _ _ => rfl) (hL.2 w' hw'))
    rwa [hdl] at this) _ _ _ _ hC H
  rw [htl, show n + (l.toArray.size - n) = l.toArray.size by omega] at this
  exact wpAnyS_any _ _ _ _ this

end
theorem wpListIn_round {l m : Nat} {P : Program} {ops : Array Oper} {rest : List Oper} {o : Oper} {a : Act} {w : World} {Q : Exit → Act → World → Prop} (hgd : o.guard = none) (hd : ∀ c, o.op ≠ .defer c)
    (h : o.wp P a w (wpListIn (Fence.wide.inRound l) m P ops Q rest) Q) : wpListIn (Fence.wide.inRound l) m P ops Q (o :: rest) a w := wpListIn_of_wp (ro := some l) hgd hd h

end Go.Proofs.Ytnohglkilpnjhaa

/- Operations on hashes, told of one operation, and of a list in a round. No condition. -/
namespace Go.Proofs.Ytnohglkilpnjhaa
open Go.RowKit
set_option linter.unusedVariables false
set_option maxRecDepth 100000
set_option linter.unusedSimpArgs false

theorem wp_load_at {w : World} {op : Oper} {a : Act} {K : Act → World → Prop} {Q : Exit → Act → World → Prop} {ty : TypeId} {x : Operand} {g off : Nat} {d : List UInt8} (ho : op.op = .load 30 x)
    (hx : a.eval x = .pointer (some ⟨g, off, none⟩)) (hd : DigAt w g off d) (h : K (a.put op.dst (.agg (d.map B8).toArray)) w) : op.wp Try.prog a w K Q := by
  have := run_load_dig w g off d hd.1 hd.2
  unfold Oper.wp execOp
  simp only [ho, hx, Instr.loadAt, Instr.sureAddr, Sem.run_bind, Sem.run_pure, Result.andThen_ok, this]
  exact h

theorem wp_buildDigs {w : World} {op : Oper} {a : Act} {K : Act → World → Prop} {Q : Exit → Act → World → Prop} (n : Nat) (parts : Array (Nat × Operand)) (ds : List (List UInt8)) (ho : op.op = .buildSlice 52 n parts)
    (hn : n = ds.length) (h0 : 0 < ds.length) (h1 : ds.length ≤ 1000) (h32 : Dig32 ds) (hp : (parts.map fun (i, x) => (i, a.eval x)).toList = ((ds.map fun d => Value.agg (d.map B8).toArray).zipIdx 0).map fun x => (x.2, x.1))
    (h : ∀ w', OwnD w' w.heap.size (.slice (some ⟨w.heap.size, 0, none⟩) n n) ds → Below w.heap.size w w' → w'.heap.size = w.heap.size + 1 → K (a.put op.dst (.slice (some ⟨w.heap.size, 0, none⟩) n n)) w') : op.wp Try.prog a w K Q := by
  obtain ⟨i, hi, hz, hsize, hby⟩ := info_parts infoDig
  subst hn
  refine wp_buildSlice 52 30 ds.length parts ho (flatD ds).toArray i _ Try.underlying52 hi hz (by rw [hsize]; omega) (by rw [hsize]; omega) ?_ (h _ (digs_laid w ds h32 (by unfold maxLen; omega)) ((Below.refl _ w).alloc (Nat.le_refl _) _) (by simp))
  rw [hp, hsize]
  rw [Great.fill_whole (by omega) _ _ (fun v hv => by
    obtain ⟨d, hd, rfl⟩ := List.mem_map.1 hv
    simp [Value.cells, h32 d hd]) (by simp)]
  congr 1
  simp [flatD, List.flatMap_map, Value.cells]

theorem wp_appD {w : World} {o : Oper} {a : Act} {K : Act → World → Prop} {Q : Exit → Act → World → Prop} (s x : Operand)
    (ho : o.op = .call { callee := .builtin .append, args := #[s, x], argTypes := #[52, 52] }) (base : Nat)
    (v : Value) (l : List (List UInt8)) (hs : a.eval s = v) (hown : OwnD w base v l) (u : Value) (m : List (List UInt8)) (hx : a.eval x = u) (hm : Digs w u m)
    (hlen : l.length + m.length ≤ 1099511627776) (hbase : base ≤ w.heap.size)
    (h : ∀ v' w', OwnD w' base v' (l ++ m) → w.grownBy w' v.ownBlock → (∀ k, v'.ownBlock = some k → v.ownBlock = some k ∨ w.heap.size ≤ k) → K (a.put o.dst v') w') : o.wp Try.prog a w K Q := by
  obtain ⟨v', w', hr, h2, h3, h4⟩ := run_appD base 52 o.type Try.underlying52 v l hown u m hm hlen hbase
  unfold Oper.wp execOp
  simp only [ho, resolve, invoke, builtin, Sem.run_bind, Sem.run_pure, Result.andThen_ok, List.map_toArray, List.map_cons, List.map_nil, hs, hx, hr]
  exact h v' w' h2 h3 h4

theorem OwnD.kept {w w' : World} {base : Nat} {v : Value} {l : List (List UInt8)} {U : Nat → Prop} (h : OwnD w base v l) (hk : ∀ k, v.ownBlock = some k → w'.heap[k]? = w.heap[k]?) : OwnD w' base v l := by
  refine ⟨h.1, h.2.1, ?_⟩
  rcases h.2.2 with h | ⟨g, cap, cur, hv, hb, hh, hr⟩
  · exact .inl h
  · exact .inr ⟨g, cap, cur, hv, hb, (hk g (by rw [hv]; rfl)).trans hh, hr⟩

theorem OwnD.grown {w w' : World} {base : Nat} {v : Value} {l : List (List UInt8)} {row : Option Nat} (h : OwnD w base v l) (hg : w.grownBy w' row) (hr : ∀ k, v.ownBlock = some k → some k ≠ row) : OwnD w' base v l :=
  h.kept (U := fun _ => True) (fun k hk => hg.block _ (h.lt k hk).2 (hr k hk))

end Go.Proofs.Ytnohglkilpnjhaa

/- Laws of Go's '==' between two arrays. Condition: each place's parts are compared in the world as it is. -/
namespace Go.Proofs.Ytnohglkilpnjhaa
open Go.RowKit
set_option linter.unusedVariables false

theorem run_forIn_all {P : Program} {w : World} (g : Nat → (ForInStep (Option Bool × Unit) → Sem (ForInStep (Option Bool × Unit))) → Sem (ForInStep (Option Bool × Unit))) (f : Nat → Bool) (l : List Nat)
    (h : ∀ i ∈ l, (g i pure).run P w = .ok (if f i then .yield (none, ()) else .done (some false, ())) w) :
    (forIn (m := Sem) l ((none, ()) : Option Bool × Unit) (fun i _ => g i pure)).run P w = .ok (if l.all f then (none, ()) else (some false, ())) w := by
  induction l with
  | nil => rfl
  | cons i l ih =>
    have hi := h i (by simp)
    simp only [List.forIn_cons, Sem.run_bind, hi, Result.andThen_ok]
    cases hfi : f i
    · simp [hfi, Sem.run_pure]
    · simp only [if_true, List.all_cons, hfi, Bool.true_and]
      exact ih (fun j hj => h j (by simp [hj]))

theorem run_equalIn_array {P : Program} {w : World} (d : Nat) (t e : TypeId) (n sz : Nat) (xs ys : Array Value) (f : Nat → Bool) (ht : P.underlying t = some (.array n e)) (hsz : (sizeOf e).run P w = .ok sz w)
    (hf : ∀ i, i < n → ∃ a b, (part e xs (i * sz)).run P w = .ok a w ∧ (part e ys (i * sz)).run P w = .ok b w ∧ (Op.equalIn d e a b).run P w = .ok (f i) w) :
    (Op.equalIn (d + 1) t (.agg xs) (.agg ys)).run P w = .ok ((List.range n).all f) w := by
  simp only [Op.equalIn, Sem.run_bind, run_underlying ht, Result.andThen_ok, hsz]
  simp only [Std.Legacy.Range.forIn_eq_forIn_range', Std.Legacy.Range.size, Nat.sub_zero, Nat.add_one_sub_one, Nat.div_one, ← List.range_eq_range']
  have := run_forIn_all (P := P) (w := w) (fun i _ => do
      let a ← part e xs (i * sz)
      let b ← part e ys (i * sz)
      let r ← Op.equalIn d e a b
      if (!r) = true then pure (ForInStep.done (some false, ())) else pure (ForInStep.yield (none, ()))) f (List.range n) (fun i hi => by
    obtain ⟨a, b, h1, h2, h3⟩ := hf i (List.mem_range.1 hi)
    simp only [Sem.run_bind, h1, h2, h3, Result.andThen_ok]
    cases f i <;> simp [Sem.run_pure])
  rw [this]
  simp only [Result.andThen_ok]
  cases (List.range n).all f <;> rfl

theorem all_eq_beq (xs ys : List UInt8) (h : xs.length = ys.length) : (List.range xs.length).all (fun i => xs.getD i 0 == ys.getD i 0) = decide (xs = ys) := by
  rw [Bool.eq_iff_iff]
  simp only [List.all_eq_true, List.mem_range, beq_iff_eq, decide_eq_true_eq]
  constructor
  · intro hh
    apply List.ext_getElem h
    intro i h1 h2
    have := hh i h1
    simpa [List.getD_eq_getElem?_getD, List.getElem?_eq_getElem h1, List.getElem?_eq_getElem h2] using this
  · rintro rfl i _; rfl

/-- Two arrays of bytes. -/
theorem run_equalIn_octs {P : Program} {w : World} (d : Nat) (t e : TypeId) (xs ys : List UInt8) (h : xs.length = ys.length) (ht : P.underlying t = some (.array xs.length e)) (he : P.underlying e = some (.int .u8)) (hsz : (sizeOf e).run P w = .ok 1 w) (hag : (isAgg e).run P w = .ok false w) :
    (Op.equalIn (d + 2) t (.agg (xs.map B8).toArray) (.agg (ys.map B8).toArray)).run P w = .ok (decide (xs = ys)) w := by
  rw [← all_eq_beq xs ys h]
  have hp : ∀ (l : List UInt8) i, i < l.length → (part e (l.map B8).toArray (i * 1)).run P w = .ok (B8 (l.getD i 0)) w := fun l i hi => by
    simp only [part, Sem.run_bind, hag, Result.andThen_ok, Bool.false_eq_true, if_false, Nat.mul_one]
    simp [List.getElem?_eq_getElem hi, Sem.run_pure, List.getD_eq_getElem?_getD]
  refine run_equalIn_array (d + 1) t e xs.length 1 _ _ _ ht hsz (fun i hi => ⟨_, _, hp xs i hi, hp ys i (by omega), ?_⟩)
  unfold B8
  rw [run_equalIn_int w d e .u8 .u8 _ _ he]
  congr 1
  rw [Bool.eq_iff_iff]
  simp only [beq_iff_eq]
  constructor
  · intro q; exact UInt8.toNat_inj.1 (by omega)
  · intro q; rw [q]

/-- Two hashes. -/
theorem run_eql_octs {P : Program} {w : World} (t e : TypeId) (xs ys : List UInt8) (h : xs.length = ys.length) (ht : P.underlying t = some (.array xs.length e)) (he : P.underlying e = some (.int .u8)) (hsz : (sizeOf e).run P w = .ok 1 w) (hag : (isAgg e).run P w = .ok false w) :
    (binOp .eql t (.agg (xs.map B8).toArray) (.agg (ys.map B8).toArray)).run P w = .ok (.bool (decide (xs = ys))) w := by
  rw [run_eql_struct, run_equalIn_octs 9998 t e xs ys h ht he hsz hag]; rfl
theorem run_neq_octs {P : Program} {w : World} (t e : TypeId) (xs ys : List UInt8) (h : xs.length = ys.length) (ht : P.underlying t = some (.array xs.length e)) (he : P.underlying e = some (.int .u8)) (hsz : (sizeOf e).run P w = .ok 1 w) (hag : (isAgg e).run P w = .ok false w) :
    (binOp .neq t (.agg (xs.map B8).toArray) (.agg (ys.map B8).toArray)).run P w = .ok (.bool (!decide (xs = ys))) w := by
  rw [run_neq_struct, run_equalIn_octs 9998 t e xs ys h ht he hsz hag]; rfl

end Go.Proofs.Ytnohglkilpnjhaa

/- Hashes compared; a part of a slice of hashes. No condition. -/
namespace Go.Proofs.Ytnohglkilpnjhaa
open Go.RowKit
set_option linter.unusedVariables false
set_option maxRecDepth 100000

theorem guard_dig : Try.prog.eqGuardType Try.prog.depth 30 = false := by kernel_rfl

/-- Two hashes compared. -/
theorem run_eql_dig (xs ys : List UInt8) (hx : xs.length = 32) (hy : ys.length = 32) (w : World) : (binOp .eql 30 (.agg (xs.map B8).toArray) (.agg (ys.map B8).toArray)).run Try.prog w = .ok (.bool (decide (xs = ys))) w :=
  run_eql_octs 30 5 xs ys (by omega) (by rw [hx]; exact Try.underlying30) Try.underlying5 (by kernel_rfl) (by kernel_rfl)
theorem run_neq_dig (xs ys : List UInt8) (hx : xs.length = 32) (hy : ys.length = 32) (w : World) : (binOp .neq 30 (.agg (xs.map B8).toArray) (.agg (ys.map B8).toArray)).run Try.prog w = .ok (.bool (!decide (xs = ys))) w :=
  run_neq_octs 30 5 xs ys (by omega) (by rw [hx]; exact Try.underlying30) Try.underlying5 (by kernel_rfl) (by kernel_rfl)
theorem run_eql_dig_same (xs : List UInt8) (hx : xs.length = 32) (w : World) : (binOp .eql 30 (.agg (xs.map B8).toArray) (.agg (xs.map B8).toArray)).run Try.prog w = .ok (.bool true) w := by
  rw [run_eql_dig xs xs hx hx]; simp

theorem Digs.part {w : World} {v : Value} {l : List (List UInt8)} (h : Digs w v l) (low high : Option Value) (lo hi : Nat) (h1 : lo ≤ hi) (h2 : hi ≤ l.length) (hlow : (low = Option.none ∧ lo = 0) ∨ ∃ k, low = some (.int k (lo : Int))) (hhigh : (high = Option.none ∧ hi = l.length) ∨ ∃ k, high = some (.int k (hi : Int))) :
    ∃ v', (∀ W : World, (Instr.slice 52 v low high Option.none).run Try.prog W = .ok v' W) ∧ Digs w v' ((l.drop lo).take (hi - lo)) ∧ v'.ownBlock = v.ownBlock := by
  obtain ⟨i, hi0, hz, hsize, hby⟩ := info_parts infoDig
  obtain ⟨v', hr, hrow, hob⟩ := Row.run_part h.2 Try.underlying52 hi0 hsize low high lo hi h1 h2 hlow hhigh
  refine ⟨v', hr, ⟨fun d hd => h.1 d (List.mem_of_mem_drop (List.mem_of_mem_take hd)), ?_⟩, hob⟩
  have e : ((l.drop lo).take (hi - lo)).length = hi - lo := by simp; omega
  have e2 : flatD ((l.drop lo).take (hi - lo)) = ((flatD l).drop (lo * 32)).take ((hi - lo) * 32) := by
    rw [flatD_take (fun d hd => h.1 d (List.mem_of_mem_drop hd)), flatD_drop h.1]
  rw [e, e2]
  exact hrow

end Go.Proofs.Ytnohglkilpnjhaa

/- A range over a function whose iterator keeps state of its own in cells: what the iterator owns (O), what a round must leave alone (U), what the iterator tells a round about memory (It). No condition. -/
namespace Go.Proofs.Ytnohglkilpnjhaa
open Go.RowKit
set_option linter.unusedVariables false
set_option linter.unusedSimpArgs false

/-- The blocks of U that were there lie as they lay; no block has gone; the streams are as they were. -/
structure Kept (U : Nat → Prop) (A B : World) : Prop where
  os : B.os = A.os
  tape : B.tape = A.tape
  output : B.output = A.output
  size : A.heap.size ≤ B.heap.size
  block : ∀ k, k < A.heap.size → U k → B.heap[k]? = A.heap[k]?

theorem Kept.refl (U : Nat → Prop) (A : World) : Kept U A A := ⟨rfl, rfl, rfl, Nat.le_refl _, fun _ _ _ => rfl⟩
theorem Kept.trans {U : Nat → Prop} {A B C : World} (h : Kept U A B) (k : Kept U B C) : Kept U A C :=
  ⟨k.os.trans h.os, k.tape.trans h.tape, k.output.trans h.output, Nat.le_trans h.size k.size, fun i hi hu => (k.block i (Nat.lt_of_lt_of_le hi h.size) hu).trans (h.block i hi hu)⟩
theorem Kept.mono {U V : Nat → Prop} {A B : World} (h : Kept U A B) (hv : ∀ k, k < A.heap.size → V k → U k) : Kept V A B :=
  ⟨h.os, h.tape, h.output, h.size, fun i hi hu => h.block i hi (hv i hi hu)⟩
theorem Kept.alloc {U : Nat → Prop} {A B : World} (h : Kept U A B) (o : Obj) : Kept U A (B.alloc o) :=
  h.trans ⟨rfl, rfl, rfl, by simp, fun k hk _ => Below.heap_alloc _ _ _ hk⟩
theorem Kept.drew {U : Nat → Prop} {A B : World} (h : Kept U A B) : Kept U A B.drew := ⟨h.os, h.tape, h.output, h.size, h.block⟩
theorem Kept.setCell {U : Nat → Prop} {A B : World} (h : Kept U A B) {p : Addr} (hp : ¬ U p.block) (u : Value) : Kept U A (B.setCell p u) :=
  h.trans ⟨rfl, rfl, rfl, by simp [World.setCell], fun k hk hu => Below.heap_setCell _ _ _ _ (fun e => hp (e ▸ hu))⟩
theorem Kept.putObj {U : Nat → Prop} {A B : World} (h : Kept U A B) {l : Nat} (hl : ¬ U l) (o : Obj) : Kept U A (B.putObj l o) :=
  h.trans ⟨rfl, rfl, rfl, by simp, fun k hk hu => World.putObj_heap_other (fun e => hl (e ▸ hu))⟩
/-- Whatever only grew kept all. -/
theorem Kept.below {U : Nat → Prop} {A B C : World} (h : Kept U A B) (hb : Below B.heap.size B C) : Kept U A C :=
  h.trans ⟨hb.os, hb.tape, hb.output, hb.size, fun k hk _ => hb.block k hk⟩
theorem Kept.grown {U : Nat → Prop} {A B C : World} {row : Option Nat} (h : Kept U A B) (hg : B.grownBy C row) (hr : ∀ r, row = some r → ¬ U r) : Kept U A C :=
  h.trans ⟨hg.os, hg.tape, hg.output, hg.size, fun k hk hu => hg.block k hk (fun e => hr k e.symm hu)⟩
theorem Kept.to_below {U : Nat → Prop} {w A B : World} {n : Nat} (hb : Below n w A) (h : Kept U A B) (hn : n ≤ A.heap.size) (hu : ∀ k, k < n → U k) : Below n w B :=
  hb.trans ⟨h.os, h.tape, h.output, h.size, fun k hk => h.block k (by omega) (hu k hk)⟩
theorem Kept.cell {U : Nat → Prop} {A B : World} (h : Kept U A B) {p : Addr} (hp : p.block < A.heap.size) (hu : U p.block) : B.cell? p = A.cell? p :=
  World.cell?_of_block (h.block _ hp hu)

def AbidesC {β : Type} (O : Nat → Prop) (J : β → World → Prop) : Prop := ∀ s A B, J s A → Kept (fun k => ¬ O k) A B → J s B

/-- The contract of an iterator that owns the blocks O: it keeps all others; a round must leave U alone; It is what it tells the round about memory. -/
def SeqC {α : Type} (F : Fence) (n : Nat) (P : Program) (g : Nat) (lb : Array Value) (encs : α → Array Value) (It : List α → α → World → Prop) (O U : Nat → Prop) (S Sp : List α → Prop) (N : Nat) (W : World) : Prop :=
  ∀ (l : Nat) (J Jx : List α → World → Prop), AbidesC O J → AbidesC O Jx →
    (∀ pre x W1, J pre W1 → It pre x W1 → pre.length < N → YieldAt F (n - 1) P l (encs x) W1 fun e W' =>
      (e = .returned (.bool true) ∧ J (pre ++ [x]) W' ∧ Kept U W1 W') ∨ (e = .returned (.bool false) ∧ Jx (pre ++ [x]) W')) →
    J [] W →
    CallsIn F n P g (#[.func (.yield l) #[] #[]] ++ lb) W fun e W' => (∃ v, e = .returned v) ∧ ((∃ xs, S xs ∧ J xs W') ∨ (∃ pre, Sp pre ∧ Jx pre W'))

/-- How the body of a round may be left. -/
def postC {α : Type} (B : Nat) (U : Nat → Prop) (I : List α → World → Prop) (Ix : Code → List α → World → Prop) (xs : List α) (W : World) : Exit → Act → World → Prop
  | .normal, _, W' => Kept (fun k => U k ∨ k = B ∨ k = B + 1) W W' ∧ I xs W'
  | .ret, _, W' => Kept (fun k => k = B ∨ k = B + 1) W W' ∧ Ix .ret xs W'
  | .exit id, _, W' => Kept (fun k => k = B ∨ k = B + 1) W W' ∧ Ix (.exit id) xs W'
  | .goto t, _, W' => Kept (fun k => k = B ∨ k = B + 1) W W' ∧ Ix (.goto t) xs W'
  | .panic _, _, _ => False
  | .outgrown, _, _ => False

variable {F : Fence} {n : Nat} {P : Program}

/-- THE LAW. -/
theorem wpIn_rangeFunc_cells {α : Type} {g : Operand} {ps : Array Tmp} {assign body : Code} {Q : Exit → Act → World → Prop} {a : Act} {w : World}
    (hro : F.round = none) (h1 : 1 ≤ n) {gf : Nat} {lb : Array Value} (hg : a.eval g = .func (.func gf) #[] lb) (hFg : F.fn gf) (eg : ∀ args w, (callFunc gf args).run P w = .ok (.enter gf args) w)
    {encs : α → Array Value} {It : List α → α → World → Prop} {O U : Nat → Prop} {S Sp : List α → Prop} {N : Nat}
    (hseq : ∀ W1, Below w.heap.size w W1 → W1.heap.size = w.heap.size + 2 → SeqC F (n - 1) P gf lb encs It O U S Sp N W1)
    (hO1 : ¬ O w.heap.size) (hO2 : ¬ O (w.heap.size + 1)) (hU2 : ¬ U (w.heap.size + 1)) (hps : ∀ x, (encs x).size = ps.size)
    (I : List α → World → Prop) (Ix : Code → List α → World → Prop)
    (hI : ∀ s A B, I s A → Kept (fun k => ¬ O k ∧ k ≠ w.heap.size + 1) A B → I s B) (hIx : ∀ c s A B, Ix c s A → Kept (fun k => ¬ O k ∧ k ≠ w.heap.size + 1) A B → Ix c s B)
    (hIt : ∀ pre x A B, It pre x A → Kept (fun k => k ≠ w.heap.size + 1) A B → It pre x B)
    (h0 : I [] w) (a₁ : α → Act)
    (hassign : ∀ (l : Nat) (x : α) (W : World) (K : Act → World → Prop), K (a₁ x) W →
      assign.wpIn (F.inRound l) (n - 1 - 1) P (Exit.then K (fun _ _ _ => False)) { tmps := (ps.zip (encs x)).foldl (fun t (p, v) => t.setIfInBounds p v) a.tmps, defers := [] } W)
    (hbody : ∀ (l : Nat) (pre : List α) (x : α) (W : World), I pre W → It pre x W → pre.length < N → w.heap.size + 2 ≤ W.heap.size → body.wpIn (F.inRound l) (n - 1 - 1) P (postC w.heap.size U I Ix (pre ++ [x]) W) (a₁ x) W)
    (hdone : ∀ (xs : List α) (W : World), S xs → I xs W → w.heap.size + 2 ≤ W.heap.size → W.heap[w.heap.size]? = some (.deferred (some [])) → Q .normal { a with defers := { target := .collected w.heap.size, args := #[] } :: a.defers } W)
    (hstop : ∀ (c : Code) (pre : List α) (W : World), Sp pre → Ix c pre W → w.heap.size + 2 ≤ W.heap.size → W.heap[w.heap.size]? = some (.deferred (some [])) → c.wpIn F n P Q { a with defers := { target := .collected w.heap.size, args := #[] } :: a.defers } W) :
    (Code.rangeFunc g ps assign body).wpIn F n P Q a w := by
  refine wpIn_rangeFunc ?_
  intro fn hfn
  rw [hro]
  obtain ⟨rec, hrec⟩ : ∃ rec : LoopState → Option Code → Loop, rec = fun st pe => { state := st, pending := pe, fn, tmps := a.tmps, params := ps, assign, body, defers := w.heap.size } := ⟨_, rfl⟩
  obtain ⟨W1, hW1⟩ : ∃ W1, (w.alloc (.deferred (some []))).alloc (.loop (rec .ready none)) = W1 := ⟨_, rfl⟩
  have hL1 : W1.heap[w.heap.size + 1]? = some (.loop (rec .ready none)) := by
    rw [← hW1]; have := World.alloc_heap_new (w.alloc (.deferred (some []))) (.loop (rec .ready none)); rwa [World.size_alloc] at this
  have hK1 : W1.heap[w.heap.size]? = some (.deferred (some [])) := by
    rw [← hW1]; exact (Below.heap_alloc _ _ _ (by simp)).trans (World.alloc_heap_new w _)
  have hI1 : I [] W1 := by rw [← hW1]; exact hI _ _ _ h0 (((Kept.refl _ w).alloc _).alloc _)
  have hb1 : Below w.heap.size w W1 := by
    rw [← hW1]; exact ((Below.refl _ w).alloc (Nat.le_refl _) _).alloc (by simp) _
  have hs1 : W1.heap.size = w.heap.size + 2 := by rw [← hW1]; simp
  refine ⟨w.heap.size + 1, [{ target := .collected w.heap.size, args := #[] }], W1, { target := .fn (.func gf) lb, args := #[.func (.yield (w.heap.size + 1)) #[] #[]] }, W1, gf,
    #[.func (.yield (w.heap.size + 1)) #[] #[]] ++ lb, W1, ?_, ?_, ?_, ?_, fun _ => h1, ?_⟩
  · rw [← hW1, hrec]; exact run_enterLoop_outer _ _ _ _ _
  · simp only [resolve, hg]
    simp [go_sem]
  · intro f' hf'; simp [Target.leads] at hf'; subst hf'; exact hFg
  · simp [invoke, go_sem, eg]
  · have put : ∀ (U : Nat → Prop) (W : World) (o : Obj), ¬ U (w.heap.size + 1) → Kept U W (W.putObj (w.heap.size + 1) o) := fun U W o h => (Kept.refl U W).putObj h o
    have kl : ∀ {A B : World} {o : Obj}, A.heap[w.heap.size + 1]? = some o → Kept (fun k => ¬ O k) A B → B.heap[w.heap.size + 1]? = some o := fun hl hk => (hk.block _ (Array.getElem?_eq_some_iff.1 hl).1 hO2).trans hl
    have kd : ∀ {A B : World} {o : Obj}, A.heap[w.heap.size]? = some o → Kept (fun k => ¬ O k) A B → B.heap[w.heap.size]? = some o := fun hl hk => (hk.block _ (Array.getElem?_eq_some_iff.1 hl).1 hO1).trans hl
    refine (hseq W1 hb1 hs1 (w.heap.size + 1)
      (fun pre W => I pre W ∧ W.heap[w.heap.size + 1]? = some (.loop (rec .ready none)) ∧ W.heap[w.heap.size]? = some (.deferred (some [])))
      (fun pre W => ∃ c, Ix c pre W ∧ W.heap[w.heap.size + 1]? = some (.loop (rec .done (some c))) ∧ W.heap[w.heap.size]? = some (.deferred (some [])))
      (fun s A B hs hk => ⟨hI s A B hs.1 (hk.mono fun _ _ h => h.1), kl hs.2.1 hk, kd hs.2.2 hk⟩)
      (fun s A B hs hk => by
        obtain ⟨c, hc, hl, hd⟩ := hs
        exact ⟨c, hIx c s A B hc (hk.mono fun _ _ h => h.1), kl hl hk, kd hd hk⟩)
      ?_ ⟨hI1, hL1, hK1⟩).mono ?_
    · -- ONE ROUND
      rintro pre x W ⟨hi, hl, hk⟩ hit hlen
      have hlt : w.heap.size + 1 < W.heap.size := (Array.getElem?_eq_some_iff.1 hl).1
      have hy := run_yield (P := P) (args := encs x) hl (by rw [hrec]; exact hps x)
      rw [hrec] at hy
      refine ⟨fn, _, assign, body, hy, roundIn_of_wpIn hfn (hassign _ x W _ ⟨_, run_beginRound hl (by rw [hrec]), ?_⟩)⟩
      have hl2 : (W.putObj (w.heap.size + 1) (.loop { rec .ready none with state := .busy })).heap[w.heap.size + 1]? = some (.loop { rec .ready none with state := .busy }) := World.putObj_heap_same hlt
      have hk2 : (W.putObj (w.heap.size + 1) (.loop { rec .ready none with state := .busy })).heap[w.heap.size]? = some (.deferred (some [])) := (World.putObj_heap_other (by omega)).trans hk
      refine wpIn_mono (hbody _ pre x _ (hI _ _ _ hi (put _ _ _ (fun h => h.2 rfl))) (hIt _ _ _ _ hit (put _ _ _ (fun h => h rfl))) hlen (by simp; omega)) ?_
      have hsz2 : (W.putObj (w.heap.size + 1) (.loop { rec .ready none with state := .busy })).heap.size = W.heap.size := by simp
      have fin : ∀ (jump : Option Code) (W3 : World), Kept (fun k => k = w.heap.size ∨ k = w.heap.size + 1) (W.putObj (w.heap.size + 1) (.loop { rec .ready none with state := .busy })) W3 →
          (Instr.endRound (w.heap.size + 1) jump).run P W3 = .ok (.bool jump.isNone) (W3.putObj (w.heap.size + 1) (.loop (rec (if jump.isNone then .ready else .done) jump))) ∧
          (W3.putObj (w.heap.size + 1) (.loop (rec (if jump.isNone then .ready else .done) jump))).heap[w.heap.size + 1]? = some (.loop (rec (if jump.isNone then .ready else .done) jump)) ∧
          (W3.putObj (w.heap.size + 1) (.loop (rec (if jump.isNone then .ready else .done) jump))).heap[w.heap.size]? = some (.deferred (some [])) := fun jump W3 hk3 => by
        have hl3 := (hk3.block (w.heap.size + 1) (by rw [hsz2]; exact hlt) (.inr rfl)).trans hl2
        have hd3 := (hk3.block w.heap.size (by rw [hsz2]; omega) (.inl rfl)).trans hk2
        have := run_endRound (P := P) jump hl3
        rw [hrec] at this ⊢
        exact ⟨this, World.putObj_heap_same (Array.getElem?_eq_some_iff.1 hl3).1, (World.putObj_heap_other (by omega)).trans hd3⟩
      rintro e a3 W3 hp
      cases e with
      | normal =>
        obtain ⟨hk3, hi3⟩ := hp
        obtain ⟨hr, hl4, hk4⟩ := fin none W3 (hk3.mono fun _ _ h => .inr h)
        exact ⟨_, _, hr, .inl ⟨rfl, ⟨hI _ _ _ hi3 (put _ _ _ (fun h => h.2 rfl)), hl4, hk4⟩, ((put U W _ hU2).trans (hk3.mono fun _ _ h => .inl h)).trans (put U _ _ hU2)⟩⟩
      | ret =>
        obtain ⟨hk3, hi3⟩ := hp
        obtain ⟨hr, hl4, hk4⟩ := fin (some .ret) W3 hk3
        exact ⟨_, _, hr, .inr ⟨rfl, .ret, hIx _ _ _ _ hi3 (put _ _ _ (fun h => h.2 rfl)), hl4, hk4⟩⟩
      | exit id =>
        obtain ⟨hk3, hi3⟩ := hp
        obtain ⟨hr, hl4, hk4⟩ := fin (some (.exit id)) W3 hk3
        exact ⟨_, _, hr, .inr ⟨rfl, .exit id, hIx _ _ _ _ hi3 (put _ _ _ (fun h => h.2 rfl)), hl4, hk4⟩⟩
      | goto t =>
        obtain ⟨hk3, hi3⟩ := hp
        obtain ⟨hr, hl4, hk4⟩ := fin (some (.goto t)) W3 hk3
        exact ⟨_, _, hr, .inr ⟨rfl, .goto t, hIx _ _ _ _ hi3 (put _ _ _ (fun h => h.2 rfl)), hl4, hk4⟩⟩
      | panic ch => exact hp.elim
      | outgrown => exact hp.elim
    · -- BEHIND THE ITERATOR
      rintro e W2 ⟨⟨v, rfl⟩, (⟨xs, hS, hi, hl, hk⟩ | ⟨pre, hSp, c, hi, hl, hk⟩)⟩
      · have hlt := (Array.getElem?_eq_some_iff.1 hl).1
        exact ⟨none, _, by have := run_endLoop (P := P) hl (by rw [hrec]; simp); rw [hrec] at this; exact this, hdone xs _ hS (hI _ _ _ hi (put _ _ _ (fun h => h.2 rfl))) (by simp; omega) ((World.putObj_heap_other (by omega)).trans hk)⟩
      · have hlt := (Array.getElem?_eq_some_iff.1 hl).1
        exact ⟨some c, _, by have := run_endLoop (P := P) hl (by rw [hrec]; simp); rw [hrec] at this; exact this, hstop c pre _ hSp (hIx c _ _ _ hi (put _ _ _ (fun h => h.2 rfl))) (by simp; omega) ((World.putObj_heap_other (by omega)).trans hk)⟩

end Go.Proofs.Ytnohglkilpnjhaa

/- A range over a function whose rounds all go on (slices.Collect): the iterator may make blocks of its own (the set G, which its caller does not know), a round's variable may be made anew. No condition. -/
namespace Go.Proofs.Ytnohglkilpnjhaa
open Go.RowKit
set_option linter.unusedVariables false
set_option linter.unusedSimpArgs false

/-- The blocks of G are no older than W, or of the set O. -/
def Fresh (O G : Nat → Prop) (W : World) : Prop := ∀ k, G k → W.heap.size ≤ k ∨ O k

/-- The contract of an iterator that makes the blocks G; a round goes on, and leaves G, and what lies below n0, alone. -/
def SeqT {α : Type} (F : Fence) (n : Nat) (P : Program) (f : Nat) (lb : Array Value) (encs : α → Array Value) (It : List α → α → World → Prop) (S : List α → Prop) (O : Nat → Prop) (n0 N : Nat) (W : World) : Prop :=
  ∀ (l : Nat) (J : (Nat → Prop) → List α → World → Prop), (∀ G, Fresh O G W → AbidesC G (J G)) →
    (∀ G pre x W1, Fresh O G W → (∀ k, G k → k < W1.heap.size) → J G pre W1 → It pre x W1 → pre.length < N → YieldAt F (n - 1) P l (encs x) W1 fun e W' =>
      e = .returned (.bool true) ∧ J G (pre ++ [x]) W' ∧ Kept (fun k => G k ∨ k < n0) W1 W') →
    (∀ G W', Fresh O G W → Below W.heap.size W W' → J G [] W') →
    CallsIn F n P f (#[.func (.yield l) #[] #[]] ++ lb) W fun e W' => (∃ v, e = .returned v) ∧ ∃ G xs, Fresh O G W ∧ S xs ∧ J G xs W'

/-- How the body of a round is left. -/
def postT (B n0 : Nat) (G : Nat → Prop) (I : World → Prop) (W : World) : Exit → Act → World → Prop
  | .normal, _, W' => Kept (fun k => G k ∨ k < n0 ∨ k = B ∨ k = B + 1) W W' ∧ I W'
  | _, _, _ => False

variable {F : Fence} {n : Nat} {P : Program}

/-- THE LAW. -/
theorem wpIn_rangeFunc_total {α : Type} {g : Operand} {ps : Array Tmp} {assign body : Code} {Q : Exit → Act → World → Prop} {a : Act} {w : World}
    (hro : F.round = none) (h1 : 1 ≤ n) {gf : Nat} {lb : Array Value} (hg : a.eval g = .func (.func gf) #[] lb) (hFg : F.fn gf) (eg : ∀ args w, (callFunc gf args).run P w = .ok (.enter gf args) w)
    {encs : α → Array Value} {It : List α → α → World → Prop} {S : List α → Prop} {O : Nat → Prop} {n0 N : Nat} (hn0 : n0 ≤ w.heap.size) (hO : ∀ k, O k → k < w.heap.size)
    (hseq : ∀ W1, Below w.heap.size w W1 → W1.heap.size = w.heap.size + 2 → SeqT F (n - 1) P gf lb encs It S O n0 N W1)
    (hps : ∀ x, (encs x).size = ps.size)
    (I : (Nat → Prop) → List α → World → Prop)
    (hI : ∀ G s A B, (∀ k, G k → w.heap.size + 2 ≤ k ∨ O k) → I G s A → Kept (fun k => ¬ G k ∧ k ≠ w.heap.size + 1) A B → I G s B)
    (hIt : ∀ pre x A B, It pre x A → Kept (fun k => k ≠ w.heap.size + 1) A B → It pre x B)
    (h0 : ∀ G W', (∀ k, G k → w.heap.size + 2 ≤ k ∨ O k) → Below w.heap.size w W' → I G [] W') (Gx : α → Act → World → Prop) (hG : ∀ x a A B, Gx x a A → Kept (fun k => k ≠ w.heap.size + 1) A B → Gx x a B)
    (hassign : ∀ (l : Nat) (pre : List α) (x : α) (W : World) (K : Act → World → Prop), It pre x W → w.heap.size + 2 ≤ W.heap.size → (∀ a' W2, Below W.heap.size W W2 → Gx x a' W2 → K a' W2) →
      assign.wpIn (F.inRound l) (n - 1 - 1) P (Exit.then K (fun _ _ _ => False)) { tmps := (ps.zip (encs x)).foldl (fun t (p, v) => t.setIfInBounds p v) a.tmps, defers := [] } W)
    (hbody : ∀ (l : Nat) (G : Nat → Prop) (pre : List α) (x : α) (a' : Act) (W : World), (∀ k, G k → w.heap.size + 2 ≤ k ∨ O k) → (∀ k, G k → k < W.heap.size) → I G pre W → It pre x W → Gx x a' W → pre.length < N → w.heap.size + 2 ≤ W.heap.size →
      body.wpIn (F.inRound l) (n - 1 - 1) P (postT w.heap.size n0 G (I G (pre ++ [x])) W) a' W)
    (hdone : ∀ (G : Nat → Prop) (xs : List α) (W : World), S xs → I G xs W → w.heap.size + 2 ≤ W.heap.size → W.heap[w.heap.size]? = some (.deferred (some [])) → Q .normal { a with defers := { target := .collected w.heap.size, args := #[] } :: a.defers } W) :
    (Code.rangeFunc g ps assign body).wpIn F n P Q a w := by
  refine wpIn_rangeFunc ?_
  intro fn hfn
  rw [hro]
  obtain ⟨rec, hrec⟩ : ∃ rec : LoopState → Option Code → Loop, rec = fun st pe => { state := st, pending := pe, fn, tmps := a.tmps, params := ps, assign, body, defers := w.heap.size } := ⟨_, rfl⟩
  obtain ⟨W1, hW1⟩ : ∃ W1, (w.alloc (.deferred (some []))).alloc (.loop (rec .ready none)) = W1 := ⟨_, rfl⟩
  have hL1 : W1.heap[w.heap.size + 1]? = some (.loop (rec .ready none)) := by
    rw [← hW1]; have := World.alloc_heap_new (w.alloc (.deferred (some []))) (.loop (rec .ready none)); rwa [World.size_alloc] at this
  have hK1 : W1.heap[w.heap.size]? = some (.deferred (some [])) := by
    rw [← hW1]; exact (Below.heap_alloc _ _ _ (by simp)).trans (World.alloc_heap_new w _)
  have hb1 : Below w.heap.size w W1 := by
    rw [← hW1]; exact ((Below.refl _ w).alloc (Nat.le_refl _) _).alloc (by simp) _
  have hs1 : W1.heap.size = w.heap.size + 2 := by rw [← hW1]; simp
  refine ⟨w.heap.size + 1, [{ target := .collected w.heap.size, args := #[] }], W1, { target := .fn (.func gf) lb, args := #[.func (.yield (w.heap.size + 1)) #[] #[]] }, W1, gf,
    #[.func (.yield (w.heap.size + 1)) #[] #[]] ++ lb, W1, ?_, ?_, ?_, ?_, fun _ => h1, ?_⟩
  · rw [← hW1, hrec]; exact run_enterLoop_outer _ _ _ _ _
  · simp only [resolve, hg]
    simp [go_sem]
  · intro f' hf'; simp [Target.leads] at hf'; subst hf'; exact hFg
  · simp [invoke, go_sem, eg]
  · have put : ∀ (U : Nat → Prop) (W : World) (o : Obj), ¬ U (w.heap.size + 1) → Kept U W (W.putObj (w.heap.size + 1) o) := fun U W o h => (Kept.refl U W).putObj h o
    have fr : ∀ G, Fresh O G W1 → ∀ k, G k → w.heap.size + 2 ≤ k ∨ O k := fun G h k hk => (h k hk).imp (fun q => by omega) id
    have fx : ∀ G, Fresh O G W1 → ¬ G w.heap.size ∧ ¬ G (w.heap.size + 1) := fun G h => ⟨fun q => by rcases h _ q with h | h; (have := hs1; omega); (have := hO _ h; omega), fun q => by rcases h _ q with h | h; (have := hs1; omega); (have := hO _ h; omega)⟩
    have kl : ∀ {G : Nat → Prop} {A B : World} {o : Obj}, Fresh O G W1 → A.heap[w.heap.size + 1]? = some o → Kept (fun k => ¬ G k) A B → B.heap[w.heap.size + 1]? = some o := fun hf hl hk => (hk.block _ (Array.getElem?_eq_some_iff.1 hl).1 (fx _ hf).2).trans hl
    have kd : ∀ {G : Nat → Prop} {A B : World} {o : Obj}, Fresh O G W1 → A.heap[w.heap.size]? = some o → Kept (fun k => ¬ G k) A B → B.heap[w.heap.size]? = some o := fun hf hl hk => (hk.block _ (Array.getElem?_eq_some_iff.1 hl).1 (fx _ hf).1).trans hl
    refine (hseq W1 hb1 hs1 (w.heap.size + 1)
      (fun G pre W => I G pre W ∧ W.heap[w.heap.size + 1]? = some (.loop (rec .ready none)) ∧ W.heap[w.heap.size]? = some (.deferred (some [])))
      (fun G hf s A B hs hk => ⟨hI G s A B (fr G hf) hs.1 (hk.mono fun _ _ h => h.1), kl hf hs.2.1 hk, kd hf hs.2.2 hk⟩)
      ?_ (fun G W' hf hb => ⟨h0 G W' (fr G hf) (hb1.trans (hb.mono (by omega))), (hb.block _ (by omega)).trans hL1, (hb.block _ (by omega)).trans hK1⟩)).mono ?_
    · -- ONE ROUND
      rintro G pre x W hf hGl ⟨hi, hl, hk⟩ hit hlen
      have hG2 := fr G hf
      have hlt : w.heap.size + 1 < W.heap.size := (Array.getElem?_eq_some_iff.1 hl).1
      have hy := run_yield (P := P) (args := encs x) hl (by rw [hrec]; exact hps x)
      rw [hrec] at hy
      refine ⟨fn, _, assign, body, hy, roundIn_of_wpIn hfn (hassign _ pre x W _ hit (by omega) fun a' W0 hb0 hg0 => ?_)⟩
      have hk0 : ∀ (V : Nat → Prop), Kept V W W0 := fun V => (Kept.refl V W).below hb0
      have hl0 := (hb0.block _ hlt).trans hl
      have hd0 := (hb0.block w.heap.size (by omega)).trans hk
      have hlt0 : w.heap.size + 1 < W0.heap.size := Nat.lt_of_lt_of_le hlt hb0.size
      refine ⟨_, run_beginRound hl0 (by rw [hrec]), ?_⟩
      have hl2 : (W0.putObj (w.heap.size + 1) (.loop { rec .ready none with state := .busy })).heap[w.heap.size + 1]? = some (.loop { rec .ready none with state := .busy }) := World.putObj_heap_same hlt0
      have hk2 : (W0.putObj (w.heap.size + 1) (.loop { rec .ready none with state := .busy })).heap[w.heap.size]? = some (.deferred (some [])) := (World.putObj_heap_other (by omega)).trans hd0
      have hno : ∀ k, G k → k ≠ w.heap.size + 1 := fun k h e => (fx _ hf).2 (e ▸ h)
      refine wpIn_mono (hbody _ G pre x a' _ hG2 (fun k h => by have := hGl k h; have := hb0.size; simp; omega) (hI _ _ _ _ hG2 (hI _ _ _ _ hG2 hi (hk0 _)) (put _ _ _ (fun h => h.2 rfl))) (hIt _ _ _ _ (hIt _ _ _ _ hit (hk0 _)) (put _ _ _ (fun h => h rfl))) (hG _ _ _ _ hg0 (put _ _ _ (fun h => h rfl))) hlen (by simp; omega)) ?_
      have hsz2 : (W0.putObj (w.heap.size + 1) (.loop { rec .ready none with state := .busy })).heap.size = W0.heap.size := by simp
      rintro e a3 W3 hp
      cases e with
      | normal =>
        obtain ⟨hk3, hi3⟩ := hp
        have hl3 := (hk3.block (w.heap.size + 1) (by rw [hsz2]; exact hlt0) (.inr (.inr (.inr rfl)))).trans hl2
        have hd3 := (hk3.block w.heap.size (by rw [hsz2]; omega) (.inr (.inr (.inl rfl)))).trans hk2
        have hr := run_endRound (P := P) none hl3
        rw [hrec] at hr
        have hl4 : (W3.putObj (w.heap.size + 1) (.loop (rec .ready none))).heap[w.heap.size + 1]? = some (.loop (rec .ready none)) := World.putObj_heap_same (Array.getElem?_eq_some_iff.1 hl3).1
        have hd4 : (W3.putObj (w.heap.size + 1) (.loop (rec .ready none))).heap[w.heap.size]? = some (.deferred (some [])) := (World.putObj_heap_other (by omega)).trans hd3
        rw [hrec] at hl4 hd4
        have hU2 : ¬ (G (w.heap.size + 1) ∨ w.heap.size + 1 < n0) := by
          rintro (h | h)
          · exact hno _ h rfl
          · omega
        rw [hrec]
        exact ⟨_, _, hr, rfl, ⟨hI _ _ _ _ hG2 hi3 (put _ _ _ (fun h => h.2 rfl)), hl4, hd4⟩,
          (((hk0 _).trans (put _ W0 _ hU2)).trans (by rw [hrec] at hk3; exact hk3.mono fun _ _ h => h.elim .inl (fun h => .inr (.inl h)))).trans (put _ _ _ hU2)⟩
      | ret => exact hp.elim
      | exit id => exact hp.elim
      | goto t => exact hp.elim
      | panic ch => exact hp.elim
      | outgrown => exact hp.elim
    · -- BEHIND THE ITERATOR
      rintro e W2 ⟨⟨v, rfl⟩, G, xs, hf, hS, hi, hl, hk⟩
      have hlt := (Array.getElem?_eq_some_iff.1 hl).1
      exact ⟨none, _, by have := run_endLoop (P := P) hl (by rw [hrec]; simp); rw [hrec] at this; exact this, hdone G xs _ hS (hI _ _ _ _ (fr G hf) hi (put _ _ _ (fun h => h.2 rfl))) (by simp; omega) ((World.putObj_heap_other (by omega)).trans hk)⟩

end Go.Proofs.Ytnohglkilpnjhaa

/- A block that holds a whole hash: laid as nothing, stored, handed back. No condition. -/
namespace Go.Proofs.Ytnohglkilpnjhaa
open Go.RowKit
set_option linter.unusedVariables false
set_option linter.unusedSimpArgs false
set_option maxRecDepth 100000

def dig0 : List UInt8 := List.replicate 32 0
/-- The block g holds the hash d. -/
def DigO (w : World) (g : Nat) (d : List UInt8) : Prop := Octs w g 30 d ∧ d.length = 32
theorem DigO.lt {w : World} {g : Nat} {d : List UInt8} (h : DigO w g d) : g < w.heap.size := (Array.getElem?_eq_some_iff.1 h.1).1
theorem DigO.of_block {w w' : World} {g : Nat} {d : List UInt8} (h : DigO w g d) (e : w'.heap[g]? = w.heap[g]?) : DigO w' g d := ⟨h.1.of_block e, h.2⟩
theorem DigO.of_new {w w' : World} {g : Nat} {d : List UInt8} (h : DigO w g d) (hb : Below w.heap.size w w') : DigO w' g d := h.of_block (hb.block _ h.lt)
theorem DigO.at_ {w : World} {g : Nat} {d : List UInt8} (h : DigO w g d) : DigAt w g 0 d := h.1.digAt h.2
theorem DigO.cell {w : World} {g : Nat} {d : List UInt8} (h : DigO w g d) {j : Nat} (hj : j < 32) : w.cell? ⟨g, j, none⟩ = some (B8 (d.getD j 0)) := h.1.cell (by rw [h.2]; exact hj)
theorem DigO.free {w : World} {g : Nat} {d : List UInt8} (h : DigO w g d) (j : Nat) : w.frozen? ⟨g, j, none⟩ = false := h.1.free j
theorem DigO.set {w : World} {g : Nat} {d : List UInt8} (h : DigO w g d) (j : Nat) (x : UInt8) : DigO (w.setCell ⟨g, j, none⟩ (B8 x)) g (d.set j x) := ⟨h.1.set j x, by simp [h.2]⟩
theorem dig_zero (w : World) : (zeroValue 30).run Try.prog w = .ok (.agg (dig0.map B8).toArray) w := by kernel_rfl
theorem digO_new (w : World) {d : List UInt8} (h : d.length = 32) : DigO (w.alloc (.cells (d.map B8).toArray 30)) w.heap.size d := ⟨heap_alloc_new w _, h⟩
theorem wp_alloc_dig {w : World} {o : Oper} {a : Act} {K : Act → World → Prop} {Q : Exit → Act → World → Prop} (ho : o.op = .alloc 30)
    (h : ∀ w', DigO w' w.heap.size dig0 → Below w.heap.size w w' → w'.heap.size = w.heap.size + 1 → K (a.put o.dst (.pointer (some ⟨w.heap.size, 0, none⟩))) w') : o.wp Try.prog a w K Q := by
  unfold Oper.wp execOp
  have := h _ (digO_new w (d := dig0) rfl) ((Below.refl _ w).alloc (Nat.le_refl _) _) (by simp)
  have hz := dig_zero w
  simp only [ho, Instr.alloc, Sem.run_bind, hz, Result.andThen_ok, Sem.run_pure, newVar, newRow]
  exact this
theorem wp_store_digO {w : World} {op : Oper} {a : Act} {K : Act → World → Prop} {Q : Exit → Act → World → Prop} (p q : Operand) (g : Nat) (d d0 : List UInt8) (ho : op.op = .store 30 p q)
    (hp : a.eval p = .pointer (some ⟨g, 0, none⟩)) (hq : a.eval q = .agg (d.map B8).toArray) (hd : d.length = 32) (hg : DigO w g d0)
    (h : ∀ w', DigO w' g d → w.grownBy w' (some g) → w'.heap.size = w.heap.size → K (a.put op.dst undef) w') : op.wp Try.prog a w K Q := by
  have hrun := run_storeVar_row (P := Try.prog) w g 30 30 _ (d.map B8).toArray hg.1 (by rw [info_dig]; simp [hd]) (by simp [hd, hg.2]) (octs_one d)
  unfold Oper.wp execOp
  simp only [ho, hp, hq, Instr.storeAt, Instr.sureAddr, Sem.run_bind, Sem.run_pure, Result.andThen_ok, hrun]
  exact h _ ⟨setRow_heap _ _ _ _ _ _ hg.1, hd⟩ ⟨rfl, rfl, rfl, by simp [World.setRow], fun k hk hne => Go.setRow_other w g k _ (fun e => hne (by rw [e]))⟩ (by simp [World.setRow])
theorem run_load_digO {w : World} {g : Nat} {d : List UInt8} (h : DigO w g d) : (loadVar 30 ⟨g, 0, none⟩).run Try.prog w = .ok (.agg (d.map B8).toArray) w :=
  run_loadVar_row (P := Try.prog) w g 30 30 (d.map B8).toArray (0, 0) _ h.1 Try.underlying30 rfl (by rw [info_dig]; simp [h.2])
theorem results_dig {fn : Func} {p : Tmp} (h : fn.results = #[.cell p 30]) (tmps : Array Value) {w : World} {b : Nat} {d : List UInt8} (hp : tmps.getD p undef = .pointer (some ⟨b, 0, none⟩))
    (hx : DigO w b d) : (results fn tmps).run Try.prog w = .ok (.agg (d.map B8).toArray) w := results_cell h tmps hp (run_load_digO hx)
theorem results_dig_tmp {fn : Func} {p q : Tmp} (h : fn.results = #[.cell p 30, .tmp q]) (tmps : Array Value) {w : World} {b : Nat} {d : List UInt8} {u : Value} (hp : tmps.getD p undef = .pointer (some ⟨b, 0, none⟩)) (hq : tmps.getD q undef = u)
    (hx : DigO w b d) : (results fn tmps).run Try.prog w = .ok (.tuple #[.agg (d.map B8).toArray, u]) w := by
  have hp' : tmps[p]?.getD undef = .pointer (some ⟨b, 0, none⟩) := by simpa using hp
  have hq' : tmps[q]?.getD undef = u := by simpa using hq
  simp [results, h, hp', hq', asAddr, run_load_digO hx]
/-- A hash filled place by place. -/
def filled (l : List UInt8) (k : Nat) : List UInt8 := l.take k ++ List.replicate (32 - k) 0
theorem filled_zero (l : List UInt8) : filled l 0 = dig0 := by simp [filled, dig0]
theorem filled_len {l : List UInt8} (h : l.length = 32) {k : Nat} (hk : k ≤ 32) : (filled l k).length = 32 := by simp [filled]; omega
theorem filled_all {l : List UInt8} (h : l.length = 32) : filled l 32 = l := by simp [filled, ← h]
theorem filled_step {l : List UInt8} (h : l.length = 32) {k : Nat} (hk : k < 32) : (filled l k).set k (l.getD k 0) = filled l (k + 1) := by
  unfold filled
  rw [List.set_append_right _ _ (by simp; omega), show k - (l.take k).length = 0 by simp; omega, show 32 - k = (32 - (k + 1)) + 1 by omega, List.replicate_succ, List.set_cons_zero, List.take_add_one, List.getElem?_eq_getElem (by omega), List.append_assoc]
  simp [List.getD, List.getElem?_eq_getElem (show k < l.length by omega)]

end Go.Proofs.Ytnohglkilpnjhaa

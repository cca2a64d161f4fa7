/- Maps of the program's own as lists of entries: made, read, written, counted, ranged over. Conditions: fewer than 2^40 entries. -/
import Derived.Test.YtjmjaailmlnkjaaDoorGa
import Derived.Maps.OwnSet
import Derived.Maps.Range
import Derived.DeepKeys4
namespace Go.Proofs.YtjmjaailmlnkjaaDoor
open Go.RowKit Go.Maps Go.ChangeMaps Go.WideShapes
set_option linter.unusedVariables false
set_option linter.unusedSimpArgs false
set_option maxRecDepth 100000
set_option linter.unusedSectionVars false

/-- Keys of one type: their values, what they read as, which may be. -/
structure KeyT (k : TypeId) (κ : Type) where
  val : κ → Value
  lit : κ → Lit
  ok : κ → Prop
  key : ∀ {x}, ok x → keyOf Tryd.prog k (val x) = some (lit x)
  inj : ∀ {x y}, ok x → ok y → lit x = lit y → x = y
  keyed : Keyed Tryd.prog k

/-- An element reads as itself. -/
def RV (v : Value) : Option (DataW Value × List MemPlace) := some (.held v, [])
section
variable {k e t : TypeId} {κ : Type} [DecidableEq κ]
def encE (KT : KeyT k κ) (p : κ × Value) : Lit × DataW Value := (KT.lit p.1, .held p.2)
/-- Block b is a map, its entries are these, in whatever order. -/
def MapL (KT : KeyT k κ) (w : World) (b : Nat) (l : List (κ × Value)) : Prop :=
  ∃ es, w.ownsMap Tryd.prog k RV b l.length (.map es) ∧ es.Perm (l.map (encE KT)) ∧ (∀ p ∈ l, KT.ok p.1) ∧ l.Pairwise (fun p q => p.1 ≠ q.1)
def getL (l : List (κ × Value)) (x : κ) : Option Value := (l.find? (fun p => decide (p.1 = x))).map (·.2)
def hasKey (l : List (κ × Value)) (x : κ) : Bool := l.any (fun p => decide (p.1 = x))
def delL (l : List (κ × Value)) (x : κ) : List (κ × Value) := l.filter (fun p => !decide (p.1 = x))
def putM (l : List (κ × Value)) (x : κ) (v : Value) : List (κ × Value) := (x, v) :: delL l x
variable {KT : KeyT k κ} {w : World} {b : Nat} {l : List (κ × Value)}
theorem MapL.lt (h : MapL KT w b l) : b < w.heap.size := by obtain ⟨es, h, _⟩ := h; exact h.lt
theorem MapL.ok (h : MapL KT w b l) : ∀ p ∈ l, KT.ok p.1 := by obtain ⟨_, _, _, h, _⟩ := h; exact h
theorem MapL.apart (h : MapL KT w b l) : l.Pairwise (fun p q => p.1 ≠ q.1) := by obtain ⟨_, _, _, _, h⟩ := h; exact h
theorem MapL.of_block {w' : World} (h : MapL KT w b l) (e : w'.heap[b]? = w.heap[b]?) : MapL KT w' b l := by
  obtain ⟨es, ⟨a, c, h1, h2⟩, h3⟩ := h
  exact ⟨es, ⟨a, c, e.trans h1, h2⟩, h3⟩
theorem MapL.of_new {w' : World} (h : MapL KT w b l) (hb : Below w.heap.size w w') : MapL KT w' b l := h.of_block (hb.block _ h.lt)
theorem MapL.perm {l' : List (κ × Value)} (h : MapL KT w b l) (hp : l.Perm l') : MapL KT w b l' := by
  obtain ⟨es, h1, h2, h3, h4⟩ := h
  refine ⟨es, by rw [← hp.length_eq]; exact h1, h2.trans (hp.map _), fun p hp' => h3 p (hp.mem_iff.2 hp'), ?_⟩
  exact (hp.pairwise_iff (fun {a b} (h : a.1 ≠ b.1) => h.symm)).1 h4
theorem mapL_made (w : World) : MapL KT (w.alloc (.map #[] 0)) w.heap.size [] :=
  ⟨[], World.ownsMap_made _ _ _ _, List.Perm.refl _, (fun p hp => by cases hp), List.Pairwise.nil⟩

theorem MapL.size_eq {es : List (Lit × DataW Value)} (hp : es.Perm (l.map (encE KT))) : Maps.size (.map es : DataW Value) = l.length := by
  show es.length = l.length
  rw [hp.length_eq, List.length_map]
theorem same_lit {x y : κ} (hx : KT.ok x) (hy : KT.ok y) : (KT.lit x).sameKey (KT.lit y) = decide (x = y) := by
  by_cases h : x = y
  · subst h
    rw [WideAt.sameKey_self (KT.keyed.key (KT.key hx))]; simp
  · rw [Maps.sameKey_ne (fun e => h (KT.inj hx hy e))]; simp [h]
theorem has_eqL {es : List (Lit × DataW Value)} (hp : es.Perm (l.map (encE KT))) (hok : ∀ p ∈ l, KT.ok p.1) {x : κ} (hx : KT.ok x) : Maps.has (.map es : DataW Value) (KT.lit x) = hasKey l x := by
  rw [Maps.has_eq, hp.any_eq, List.any_map]
  unfold hasKey
  rw [Bool.eq_iff_iff, List.any_eq_true, List.any_eq_true]
  constructor
  · rintro ⟨p, hp1, hp2⟩
    exact ⟨p, hp1, by have := same_lit (hok p hp1) hx; simp only [Function.comp, encE] at hp2; rw [← this]; exact hp2⟩
  · rintro ⟨p, hp1, hp2⟩
    exact ⟨p, hp1, by have := same_lit (hok p hp1) hx; simp only [Function.comp, encE]; rw [this]; exact hp2⟩
theorem find_unique {es : List (Lit × DataW Value)} (hpw : es.Pairwise (fun p q => p.1 ≠ q.1)) {kl : Lit} (hk : WideAt.IsKeyLit kl) {p : Lit × DataW Value} (hm : p ∈ es) (hpk : p.1 = kl) : es.find? (fun p => p.1.sameKey kl) = some p := by
  induction es with
  | nil => cases hm
  | cons q es ih =>
    rw [List.pairwise_cons] at hpw
    rcases List.mem_cons.1 hm with rfl | hm'
    · rw [List.find?_cons_of_pos]; rw [hpk]; exact WideAt.sameKey_self hk
    · have hne := hpw.1 p hm'
      rw [List.find?_cons_of_neg, ih hpw.2 hm']
      rw [Maps.sameKey_ne (by rw [← hpk]; exact hne)]; simp
theorem perm_apart {es : List (Lit × DataW Value)} (hp : es.Perm (l.map (encE KT))) (hok : ∀ p ∈ l, KT.ok p.1) (hl : l.Pairwise (fun p q => p.1 ≠ q.1)) : es.Pairwise (fun p q => p.1 ≠ q.1) := by
  refine (hp.symm.pairwise_iff (fun {a b} (h : a.1 ≠ b.1) => h.symm)).1 ?_
  rw [List.pairwise_map]
  refine List.Pairwise.imp_of_mem (fun {p q} hp hq hne => ?_) hl
  exact fun e => hne (KT.inj (hok p hp) (hok q hq) e)
theorem at_eqL {es : List (Lit × DataW Value)} (hp : es.Perm (l.map (encE KT))) (hok : ∀ p ∈ l, KT.ok p.1) (hl : l.Pairwise (fun p q => p.1 ≠ q.1)) {x : κ} (hx : KT.ok x) (z : Value) : (DataW.map es : DataW Value).atKey (KT.lit x) (.held z) = .held ((getL l x).getD z) := by
  have hpw := perm_apart hp hok hl
  by_cases h : hasKey l x = true
  · obtain ⟨p, hp1, hp2⟩ := List.any_eq_true.1 h
    obtain rfl : p.1 = x := by simpa using hp2
    have hm : encE KT p ∈ es := hp.mem_iff.2 (List.mem_map.2 ⟨p, hp1, rfl⟩)
    have hf := find_unique hpw (KT.keyed.key (KT.key hx)) hm rfl
    have hg : getL l p.1 = some p.2 := by
      unfold getL
      have : l.find? (fun q => decide (q.1 = p.1)) = some p := by
        clear hf hm hpw hp h hp2
        induction l with
        | nil => cases hp1
        | cons q l ih =>
          rw [List.pairwise_cons] at hl
          rcases List.mem_cons.1 hp1 with rfl | hm'
          · rw [List.find?_cons_of_pos]; simp
          · rw [List.find?_cons_of_neg, ih (fun q hq => hok q (by simp [hq])) hl.2 hm']
            simpa using hl.1 p hm'
      rw [this]; rfl
    unfold DataW.atKey
    simp only [hf, hg]
    rfl
  · have h' : hasKey l x = false := by simpa using h
    have hg : getL l x = none := by
      unfold getL
      have : l.find? (fun q => decide (q.1 = x)) = none := by
        rw [List.find?_eq_none]
        intro q hq e
        exact h (List.any_eq_true.2 ⟨q, hq, e⟩)
      rw [this]; rfl
    rw [Maps.atKey_of_not_has (by rw [has_eqL hp hok hx]; exact h'), hg]
    rfl

/-- 'm[k]'. -/
theorem MapL.look (h : MapL KT w b l) (ht : Tryd.prog.underlying t = some (.map k e)) {z : Value} (hz : (zeroValue e).run Tryd.prog w = .ok z w) {x : κ} (hx : KT.ok x) :
    (Instr.lookup t (.map (some b)) (KT.val x) false).run Tryd.prog w = .ok ((getL l x).getD z) w := by
  obtain ⟨es, h1, h2, h3, h4⟩ := h
  obtain ⟨v, ps, hr, hv⟩ := h1.lookup KT.keyed ht hz (zd := .held z) (zp := []) rfl (KT.key hx)
  rw [at_eqL h2 h3 h4 hx z] at hv
  unfold RV at hv
  simp only [Option.some.injEq, Prod.mk.injEq, DataW.held.injEq] at hv
  rw [← hv.1]; exact hr
/-- 'v, ok := m[k]'. -/
theorem MapL.look_ok (h : MapL KT w b l) (ht : Tryd.prog.underlying t = some (.map k e)) {z : Value} (hz : (zeroValue e).run Tryd.prog w = .ok z w) {x : κ} (hx : KT.ok x) :
    (Instr.lookup t (.map (some b)) (KT.val x) true).run Tryd.prog w = .ok (.tuple #[(getL l x).getD z, .bool (hasKey l x)]) w := by
  obtain ⟨es, h1, h2, h3, h4⟩ := h
  obtain ⟨v, ps, hr, hv⟩ := h1.look_ok KT.keyed ht hz (zd := .held z) (zp := []) rfl (KT.key hx)
  rw [at_eqL h2 h3 h4 hx z] at hv
  rw [has_eqL h2 h3 hx] at hr
  unfold RV at hv
  simp only [Option.some.injEq, Prod.mk.injEq, DataW.held.injEq] at hv
  rw [← hv.1]; exact hr
/-- 'len(m)'. -/
theorem MapL.len (h : MapL KT w b l) (ht : Tryd.prog.underlying t = some (.map k e)) (ty : TypeId) : (Builtin.len_ #[t] ty #[.map (some b)]).run Tryd.prog w = .ok (.int .i64 (l.length : Int)) w := by
  obtain ⟨es, h1, h2, h3, h4⟩ := h
  rw [h1.len ht ty, MapL.size_eq h2]
theorem filter_encE {x : κ} (hok : ∀ p ∈ l, KT.ok p.1) (hx : KT.ok x) : (l.map (encE KT)).filter (fun p => !p.1.sameKey (KT.lit x)) = (delL l x).map (encE KT) := by
  unfold delL
  rw [List.filter_map]
  congr 1
  refine List.filter_congr fun p hp => ?_
  show (!(KT.lit p.1).sameKey (KT.lit x)) = _
  rw [same_lit (hok p hp) hx]
theorem delL_ok {x : κ} (h : ∀ p ∈ l, KT.ok p.1) : ∀ p ∈ delL l x, KT.ok p.1 := fun p hp => h p ((List.mem_filter.1 hp).1)
theorem delL_apart {x : κ} (h : l.Pairwise (fun p q => p.1 ≠ q.1)) : (delL l x).Pairwise (fun p q => p.1 ≠ q.1) := h.sublist (List.filter_sublist)
theorem delL_le (l : List (κ × Value)) (x : κ) : (delL l x).length ≤ l.length := List.length_filter_le _ _
/-- 'delete(m, k)'. -/
theorem MapL.del (h : MapL KT w b l) (ht : Tryd.prog.underlying t = some (.map k e)) {x : κ} (hx : KT.ok x) (ty : TypeId) :
    ∃ w', (Builtin.delete_ #[t, k] ty #[.map (some b), KT.val x]).run Tryd.prog w = .ok (.tuple #[]) w' ∧ MapL KT w' b (delL l x) ∧ w.grownBy w' (some b) ∧ w'.heap.size = w.heap.size := by
  obtain ⟨es, h1, h2, h3, h4⟩ := h
  obtain ⟨w', hr, ho, ht'⟩ := h1.drop KT.keyed ht (KT.key hx) ty
  have hp : (es.filter fun p => !p.1.sameKey (KT.lit x)).Perm ((delL l x).map (encE KT)) := by rw [← filter_encE h3 hx]; exact h2.filter _
  refine ⟨w', hr, ⟨_, ?_, hp, delL_ok h3, delL_apart h4⟩, ht'.grown, ?_⟩
  · obtain ⟨es', clock, g1, g2, g3, g4⟩ := ho
    refine ⟨es', clock, g1, g2, ?_, g4⟩
    have h5 : Maps.size (DataW.map (es.filter fun p => !p.1.sameKey (KT.lit x)) : DataW Value) = es'.size := by
      have e2 : (DataW.map (es.filter fun p => !p.1.sameKey (KT.lit x)) : DataW Value) = _ := g4
      rw [e2]; simp [Maps.size, length_sorted]
    rw [← h5, MapL.size_eq hp]
    exact Nat.le_refl _
  · obtain ⟨_, _, _, _, _, rfl⟩ := ht'; simp [setBlock]
/-- 'm[k] = v'. -/
theorem MapL.put (h : MapL KT w b l) (ht : Tryd.prog.underlying t = some (.map k e)) {x : κ} (hx : KT.ok x) (v : Value) (hn : l.length ≤ 1099511627776) :
    ∃ w', (Instr.mapUpdate t (.map (some b)) (KT.val x) v).run Tryd.prog w = .ok () w' ∧ MapL KT w' b (putM l x v) ∧ w.grownBy w' (some b) ∧ w'.heap.size = w.heap.size := by
  obtain ⟨es, h1, h2, h3, h4⟩ := h
  obtain ⟨w', hr, ho, ht'⟩ := h1.store KT.keyed ht (by unfold maxLen; omega) (KT.key hx) (val := v) (d := .held v) (ps := []) rfl
  have hp : (DataW.insert (KT.lit x, (.held v : DataW Value)) (es.filter fun p => !p.1.sameKey (KT.lit x))).Perm ((putM l x v).map (encE KT)) := by
    refine (insert_perm _ _).trans ?_
    show ((KT.lit x, (.held v : DataW Value)) :: _).Perm ((KT.lit x, (.held v : DataW Value)) :: (delL l x).map (encE KT))
    refine List.Perm.cons _ ?_
    rw [← filter_encE h3 hx]; exact h2.filter _
  refine ⟨w', hr, ⟨_, ?_, hp, ?_, ?_⟩, ht'.grown, ?_⟩
  · obtain ⟨es', clock, g1, g2, g3, g4⟩ := ho
    refine ⟨es', clock, g1, g2, ?_, g4⟩
    have h5 : Maps.size (DataW.map (DataW.insert (KT.lit x, (.held v : DataW Value)) (es.filter fun p => !p.1.sameKey (KT.lit x))) : DataW Value) = es'.size := by
      have e2 : (DataW.map (DataW.insert (KT.lit x, (.held v : DataW Value)) (es.filter fun p => !p.1.sameKey (KT.lit x))) : DataW Value) = _ := g4
      rw [e2]; simp [Maps.size, length_sorted]
    rw [← h5, MapL.size_eq hp]
    exact Nat.le_refl _
  · intro p hp'
    rcases List.mem_cons.1 hp' with rfl | hp'
    · exact hx
    · exact delL_ok h3 p hp'
  · refine List.pairwise_cons.2 ⟨fun p hp' e => ?_, delL_apart h4⟩
    have := (List.mem_filter.1 hp').2
    simp at this
    exact this e.symm
  · obtain ⟨_, _, _, _, _, rfl⟩ := ht'; simp [setBlock]

/-! ### Ranging -/

/-- Block r is an iterator over the map b, whose entries are l; those of todo are still to come. -/
def RangeL (KT : KeyT k κ) (w : World) (b r : Nat) (l todo : List (κ × Value)) : Prop :=
  ∃ es left cnt, w.ranges Tryd.prog k RV b r l.length (.map es) left cnt ∧ es.Perm (l.map (encE KT)) ∧ (∀ p ∈ l, KT.ok p.1) ∧ l.Pairwise (fun p q => p.1 ≠ q.1) ∧ todo.Nodup ∧ (∀ p ∈ todo, p ∈ l) ∧ (∀ p ∈ l, left (KT.lit p.1) = true ↔ p ∈ todo)
theorem RangeL.map {r : Nat} {todo : List (κ × Value)} (h : RangeL KT w b r l todo) : MapL KT w b l := by
  obtain ⟨es, left, cnt, h1, h2, h3, h4, _⟩ := h
  exact ⟨es, h1.owns, h2, h3, h4⟩
theorem RangeL.of_block {w' : World} {r : Nat} {todo : List (κ × Value)} (h : RangeL KT w b r l todo) (e : w'.heap[b]? = w.heap[b]?) (e2 : w'.heap[r]? = w.heap[r]?) : RangeL KT w' b r l todo := by
  obtain ⟨es, left, cnt, ⟨a1, a2, a3, a4, a5, g1, g2, g3, g4, g5, g6⟩, h2⟩ := h
  exact ⟨es, left, cnt, ⟨a1, a2, a3, a4, a5, e.trans g1, g2, g3, g4, e2.trans g5, g6⟩, h2⟩
theorem RangeL.lt {r : Nat} {todo : List (κ × Value)} (h : RangeL KT w b r l todo) : r < w.heap.size := by obtain ⟨es, left, cnt, h, _⟩ := h; exact h.lt
theorem RangeL.of_new {w' : World} {r : Nat} {todo : List (κ × Value)} (h : RangeL KT w b r l todo) (hb : Below w.heap.size w w') : RangeL KT w' b r l todo := h.of_block (hb.block _ h.map.lt) (hb.block _ h.lt)
theorem RangeL.nodup {r : Nat} {todo : List (κ × Value)} (h : RangeL KT w b r l todo) : todo.Nodup := by obtain ⟨_, _, _, _, _, _, _, h, _⟩ := h; exact h
/-- 'range m'. -/
theorem MapL.range (h : MapL KT w b l) (ht : Tryd.prog.underlying t = some (.map k e)) :
    ∃ w', (Instr.range t (.map (some b))).run Tryd.prog w = .ok (.pointer (some ⟨w.heap.size, 0, none⟩)) w' ∧ RangeL KT w' b w.heap.size l l ∧ Below w.heap.size w w' ∧ w'.heap.size = w.heap.size + 1 := by
  obtain ⟨es, h1, h2, h3, h4⟩ := h
  obtain ⟨w', hr, hg, hgr, hs⟩ := h1.range KT.keyed ht
  refine ⟨w', hr, ⟨es, _, _, hg, h2, h3, h4, ?_, fun p hp => hp, fun p hp => ?_⟩, (Below.refl _ w).grown hgr (Nat.le_refl _) (fun k e => by cases e), hs⟩
  · exact h4.imp (fun {a b} hne e => hne (by rw [e]))
  · rw [has_eqL h2 h3 (h3 p hp)]
    exact ⟨fun _ => hp, fun _ => List.any_eq_true.2 ⟨p, hp, by simp⟩⟩
/-- The step. -/
theorem RangeL.next {r : Nat} {todo : List (κ × Value)} (h : RangeL KT w b r l todo) (ty : TypeId) :
    (todo = [] ∧ (Instr.next (.pointer (some ⟨r, 0, none⟩)) false ty).run Tryd.prog w = .ok (.tuple #[.bool false]) w) ∨
    ∃ p w', p ∈ todo ∧ (Instr.next (.pointer (some ⟨r, 0, none⟩)) false ty).run Tryd.prog w = .ok (.tuple #[.bool true, KT.val p.1, p.2]) w' ∧ RangeL KT w' b r l (todo.filter (fun q => !decide (q.1 = p.1))) ∧ w.grownBy w' (some r) ∧ w'.heap.size = w.heap.size ∧
      (Instr.entry (.pointer (some ⟨r, 0, none⟩))).run Tryd.prog w' = .ok (.tuple #[KT.val p.1, p.2]) w' := by
  obtain ⟨es, left, cnt, h1, h2, h3, h4, h5, h6, h7⟩ := h
  rcases h1.next KT.keyed ty with ⟨_, hl, hr⟩ | ⟨key, v, kl, y, w', cnt', hk, hl, hy, hat, hr, hrg, _, hg, hs, hen⟩
  · refine .inl ⟨?_, hr⟩
    cases todo with
    | nil => rfl
    | cons p todo =>
      have := (h7 p (h6 p (by simp))).2 (by simp)
      rw [hl] at this; cases this
  · have hhas := Maps.has_true_of_atKey hat
    rw [Maps.has_eq] at hhas
    obtain ⟨q, hq, hqk⟩ := List.any_eq_true.1 hhas
    obtain ⟨p, hp, hpq⟩ := List.mem_map.1 (h2.mem_iff.1 hq)
    have hkl : KT.lit p.1 = kl := by have := WideAt.sameKey_eq hqk; rw [← hpq] at this; exact this
    have hkv : key = KT.val p.1 := by
      refine KT.keyed.inj hk ?_
      rw [← hkl]; exact KT.key (h3 p hp)
    have hv : v = p.2 := by
      unfold RV at hy
      cases hy
      have := hat (.held v)
      have e2 := find_unique (perm_apart h2 h3 h4) (KT.keyed.key hk) hq (WideAt.sameKey_eq hqk)
      unfold DataW.atKey at this
      simp only [e2] at this
      rw [← hpq] at this
      simp only [encE, DataW.held.injEq] at this
      exact this.symm
    have hpt : p ∈ todo := (h7 p hp).1 (by rw [hkl]; exact hl)
    subst hkv hv
    refine .inr ⟨p, w', hpt, hr, ⟨es, _, cnt', hrg, h2, h3, h4, h5.filter _, fun q hq => h6 q ((List.mem_filter.1 hq).1), fun q hq => ?_⟩, hg, hs, hen⟩
    rw [← hkl]
    have e1 := same_lit (h3 q hq) (h3 p hp)
    show (left (KT.lit q.1) && !(KT.lit q.1).sameKey (KT.lit p.1)) = true ↔ _
    rw [e1, Bool.and_eq_true, h7 q hq, List.mem_filter]
end

/-! ### The keys that there are -/

theorem mapM_all {α β : Type} (f : α → Option β) (g : α → β) : ∀ L : List α, (∀ x ∈ L, f x = some (g x)) → L.mapM f = some (L.map g)
  | [], _ => rfl
  | x :: L, h => by rw [List.mapM_cons, h x (by simp), mapM_all f g L (fun y hy => h y (by simp [hy]))]; rfl
theorem u8_wf (x : UInt8) : (Lit.int .u8 (x.toNat : Int)).wf = true := by
  have := x.toNat_lt
  simp [Lit.wf, IntKind.min, IntKind.max, IntKind.signed, IntKind.bits]; omega
theorem keyBytes_dig (d : List UInt8) : keyBytes (d.map fun x => Lit.int .u8 (x.toNat : Int)) = d := by
  unfold keyBytes
  rw [List.flatMap_map]
  induction d with
  | nil => rfl
  | cons x d ih =>
    rw [List.flatMap_cons, ih]
    have : (Lit.int .u8 (x.toNat : Int)).keyBytes = [x] := by
      have := x.toNat_lt
      have e : ((x.toNat : Int) % 256).toNat % 256 = x.toNat := by omega
      simp only [Lit.keyBytes, IntKind.bits, bytesBE, bytesLE]
      simp [e]
    rw [this]; rfl
theorem keyType_dig : Tryd.prog.keyType 29 = true := by kernel_rfl
theorem cellsOf_dig : Tryd.prog.cellsOf 29 = 32 := by kernel_rfl
theorem cellsOf_u8 : Tryd.prog.cellsOf 5 = 1 := by kernel_rfl
theorem types_size : ∃ m, Tryd.prog.types.size = m + 2 := ⟨Tryd.prog.types.size - 2, by kernel_rfl⟩
theorem keyOf_dig {d : List UInt8} (h : d.length = 32) : keyOf Tryd.prog 29 (.agg (d.map B8).toArray) = some (.string d) := by
  obtain ⟨m, hm⟩ := types_size
  unfold keyOf
  simp only [Tryd.underlying29]
  rw [if_pos (by rw [keyType_dig]; simp [Value.formed, Tryd.underlying29, cellsOf_dig, h]), hm]
  unfold Program.keyLits
  simp only [Tryd.underlying29, Value.cells]
  rw [if_pos (by rw [cellsOf_dig]; simp [h])]
  rw [mapM_all _ (fun i => [Lit.int .u8 ((d.getD i 0).toNat : Int)]) _ (fun i hi => by
    have hi' : i < 32 := List.mem_range.1 hi
    unfold Program.keyLits
    simp only [Tryd.underlying5, cellsOf_u8, Nat.mul_one]
    have e : ((d.map B8).toArray.toList.drop i).take 1 = [B8 (d.getD i 0)] := by
      simp only [List.toList_toArray]
      rw [List.drop_eq_getElem_cons (by simp; omega), List.take_succ_cons, List.take_zero]
      simp [List.getD, List.getElem?_eq_getElem (show i < d.length by omega)]
    rw [e]
    simp [B8, u8_wf])]
  simp only [Option.map_some, Option.some.injEq, Lit.string.injEq]
  have e2 : ((List.range 32).map fun i => [Lit.int .u8 ((d.getD i 0).toNat : Int)]).flatten = d.map fun x => Lit.int .u8 (x.toNat : Int) := by
    have e3 : (List.range 32).map (fun i => [Lit.int .u8 ((d.getD i 0).toNat : Int)]) = d.map fun x => [Lit.int .u8 (x.toNat : Int)] := by
      refine List.ext_getElem (by simp [h]) fun i h1 h2 => ?_
      simp at h2
      simp [List.getD, List.getElem?_eq_getElem h2]
    rw [e3]
    clear e3 h
    induction d with
    | nil => rfl
    | cons x d ih => simp only [List.map_cons, List.flatten_cons, ih]; rfl
  rw [e2, keyBytes_dig]
theorem laidOut_ : laidOutB Tryd.prog = true := by kernel_rfl
theorem dig_keyed : Keyed Tryd.prog 29 := Keyed.of_law (deep_law_laid laidOut_ (m := 2) (by omega) (of_decide_eq_true (by kernel_rfl)) (by kernel_rfl) (by kernel_rfl))
/-- Hashes as keys; numbers as keys. -/
def KDig : KeyT 29 (List UInt8) := ⟨fun d => .agg (d.map B8).toArray, fun d => .string d, fun d => d.length = 32, fun h => keyOf_dig h, fun _ _ e => by cases e; rfl, dig_keyed⟩

theorem i64_wf {n : Int} (h : -9223372036854775808 ≤ n ∧ n ≤ 9223372036854775807) : (Lit.int .i64 n).wf = true := by
  simp [Lit.wf, IntKind.min, IntKind.max, IntKind.signed, IntKind.bits]; omega
def KInt : KeyT 3 Int := ⟨fun n => .int .i64 n, fun n => .int .i64 n, fun n => -9223372036854775808 ≤ n ∧ n ≤ 9223372036854775807, fun h => keyOf_int_mk Tryd.underlying3 (i64_wf h), fun _ _ e => by cases e; rfl, int_keyed Tryd.underlying3⟩

end Go.Proofs.YtjmjaailmlnkjaaDoor

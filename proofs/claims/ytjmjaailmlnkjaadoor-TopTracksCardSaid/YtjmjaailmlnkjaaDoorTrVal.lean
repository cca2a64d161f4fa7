/- Peers, and a tracker's table, as they lie in memory. No condition. -/
import Derived.Test.YtjmjaailmlnkjaaDoorTrPlain
import Derived.Test.YtjmjaailmlnkjaaDoorMapL
import Derived.Test.YtjmjaailmlnkjaaDoorRec
import Derived.Test.YtjmjaailmlnkjaaDoorGa
namespace Go.Proofs.YtjmjaailmlnkjaaDoor
open Go.RowKit
set_option linter.unusedVariables false
set_option linter.unusedSimpArgs false
set_option linter.unusedSectionVars false
set_option maxRecDepth 100000

def RPeer : RecT 50 PeerL where
  n := 3
  bytes := 24
  zero := PeerL.zero
  cells := fun p => [.int .i64 p.id, .int .i64 p.till, .bool p.seed]
  ok := fun _ => True
  pos := by decide
  small := by decide
  few := by decide
  zok := trivial
  len := fun _ => rfl
  one := fun {x} _ v hv => by simp at hv; rcases hv with rfl | rfl | rfl <;> rfl
  agg := ⟨_, Tryd.underlying50, rfl⟩
  info := by kernel_rfl
theorem field_id (p : PeerL) (W : World) : (Instr.field 50 (.agg #[.int .i64 p.id, .int .i64 p.till, .bool p.seed]) 0).run Tryd.prog W = .ok (.int .i64 p.id) W := by kernel_rfl
theorem RPeer_ok (p : PeerL) : RPeer.ok p := trivial
theorem RPeer_id {w : World} {g : Nat} {p : PeerL} (h : RPeer.O w g p) : w.cell? ⟨g, 0, none⟩ = some (.int .i64 p.id) := h.cell 0
theorem RPeer_till {w : World} {g : Nat} {p : PeerL} (h : RPeer.O w g p) : w.cell? ⟨g, 1, none⟩ = some (.int .i64 p.till) := h.cell 1
theorem RPeer_seed {w : World} {g : Nat} {p : PeerL} (h : RPeer.O w g p) : w.cell? ⟨g, 2, none⟩ = some (.bool p.seed) := h.cell 2
theorem zero_peer (w : World) : (zeroValue 50).run Tryd.prog w = .ok (RPeer.V PeerL.zero) w := RPeer.zero_run w
theorem zero_peers (w : World) : (zeroValue 47).run Tryd.prog w = .ok (.map none) w := by
  have := Tryd.zeroValue47 w
  exact this

/-! ### A map that may be nil -/
section
variable {k e t : TypeId} {κ : Type} [DecidableEq κ]
/-- The value m is a map of these entries (nil, where there are none). -/
def MapV (KT : KeyT k κ) (w : World) (m : Value) (l : List (κ × Value)) : Prop := (∃ b, m = .map (some b) ∧ MapL KT w b l) ∨ (m = .map none ∧ l = [])
variable {KT : KeyT k κ} {w w' : World} {b : Nat} {m : Value} {l : List (κ × Value)}
theorem MapV.of_new (h : MapV KT w m l) (hb : Below w.heap.size w w') : MapV KT w' m l := h.imp (fun ⟨b, e, h⟩ => ⟨b, e, h.of_new hb⟩) id
theorem MapV.below {B : Nat} (h : MapV KT w m l) (hs : w.heap.size ≤ B) (hb : Below B w w') : MapV KT w' m l := h.imp (fun ⟨b, e, h⟩ => ⟨b, e, h.of_block (hb.block _ (Nat.lt_of_lt_of_le h.lt hs))⟩) id
theorem MapV.look (h : MapV KT w m l) (ht : Tryd.prog.underlying t = some (.map k e)) {z : Value} (hz : (zeroValue e).run Tryd.prog w = .ok z w) {x : κ} (hx : KT.ok x) :
    (Instr.lookup t m (KT.val x) false).run Tryd.prog w = .ok ((getL l x).getD z) w := by
  rcases h with ⟨b, rfl, h⟩ | ⟨rfl, rfl⟩
  · exact h.look ht hz hx
  · have := Maps.look_nil (P := Tryd.prog) (w := w) (t := t) false KT.keyed ht hz (KT.key hx)
    simpa [getL] using this
theorem MapV.look_ok (h : MapV KT w m l) (ht : Tryd.prog.underlying t = some (.map k e)) {z : Value} (hz : (zeroValue e).run Tryd.prog w = .ok z w) {x : κ} (hx : KT.ok x) :
    (Instr.lookup t m (KT.val x) true).run Tryd.prog w = .ok (.tuple #[(getL l x).getD z, .bool (hasKey l x)]) w := by
  rcases h with ⟨b, rfl, h⟩ | ⟨rfl, rfl⟩
  · exact h.look_ok ht hz hx
  · have := Maps.look_nil (P := Tryd.prog) (w := w) (t := t) true KT.keyed ht hz (KT.key hx)
    simpa [getL, hasKey] using this
/-- Block r is an iterator over it; those of todo are still to come. -/
def IterV (KT : KeyT k κ) (w : World) (m : Value) (r : Nat) (l todo : List (κ × Value)) : Prop :=
  (∃ b, m = .map (some b) ∧ RangeL KT w b r l todo) ∨ (m = .map none ∧ l = [] ∧ todo = [] ∧ w.heap[r]? = some (.mapIter none 0 #[] 0))
theorem MapV.range (h : MapV KT w m l) (ht : Tryd.prog.underlying t = some (.map k e)) :
    ∃ w', (Instr.range t m).run Tryd.prog w = .ok (.pointer (some ⟨w.heap.size, 0, none⟩)) w' ∧ IterV KT w' m w.heap.size l l ∧ Below w.heap.size w w' ∧ w'.heap.size = w.heap.size + 1 := by
  rcases h with ⟨b, rfl, h⟩ | ⟨rfl, rfl⟩
  · obtain ⟨w', h1, h2, h3, h4⟩ := h.range ht
    exact ⟨w', h1, .inl ⟨b, rfl, h2⟩, h3, h4⟩
  · refine ⟨w.alloc (.mapIter none 0 #[] 0), ?_, .inr ⟨rfl, rfl, rfl, World.alloc_heap_new w _⟩, (Below.refl _ w).alloc (Nat.le_refl _) _, by simp⟩
    simp [Instr.range, run_underlying ht, Sem.run_bind, Sem.run_pure, Result.andThen, go_sem]
theorem IterV.lt {r : Nat} {todo : List (κ × Value)} (h : IterV KT w m r l todo) : r < w.heap.size := by
  rcases h with ⟨b, rfl, h⟩ | ⟨rfl, rfl, rfl, h⟩
  · exact h.lt
  · exact (Array.getElem?_eq_some_iff.1 h).1
/-- The iterator's block, and the map's, are as they were. -/
theorem IterV.kept {U : Nat → Prop} {r : Nat} {todo : List (κ × Value)} (h : IterV KT w m r l todo) (hk : Kept U w w') (h1 : U r) (h2 : ∀ b, m = .map (some b) → U b) : IterV KT w' m r l todo := by
  rcases h with ⟨b, rfl, h⟩ | ⟨rfl, rfl, rfl, h⟩
  · exact .inl ⟨b, rfl, h.of_block (hk.block _ h.map.lt (h2 b rfl)) (hk.block _ h.lt h1)⟩
  · exact .inr ⟨rfl, rfl, rfl, (hk.block _ (Array.getElem?_eq_some_iff.1 h).1 h1).trans h⟩
theorem IterV.map {r : Nat} {todo : List (κ × Value)} (h : IterV KT w m r l todo) : MapV KT w m l := by
  rcases h with ⟨b, rfl, h⟩ | ⟨rfl, rfl, rfl, h⟩
  · exact .inl ⟨b, rfl, h.map⟩
  · exact .inr ⟨rfl, rfl⟩
theorem IterV.nodup {r : Nat} {todo : List (κ × Value)} (h : IterV KT w m r l todo) : todo.Nodup := by
  rcases h with ⟨b, rfl, h⟩ | ⟨rfl, rfl, rfl, h⟩
  · exact h.nodup
  · exact List.nodup_nil
theorem IterV.sub {r : Nat} {todo : List (κ × Value)} (h : IterV KT w m r l todo) : ∀ p ∈ todo, p ∈ l := by
  rcases h with ⟨b, rfl, es, left, cnt, h1, h2, h3, h4, h5, h6, h7⟩ | ⟨rfl, rfl, rfl, h⟩
  · exact h6
  · exact fun p hp => by cases hp
theorem IterV.apart {r : Nat} {todo : List (κ × Value)} (h : IterV KT w m r l todo) : l.Pairwise (fun p q => p.1 ≠ q.1) := by
  rcases h with ⟨b, rfl, h⟩ | ⟨rfl, rfl, rfl, h⟩
  · exact h.map.apart
  · exact List.Pairwise.nil
theorem apart_eq {p q : κ × Value} : ∀ {l : List (κ × Value)}, l.Pairwise (fun p q => p.1 ≠ q.1) → p ∈ l → q ∈ l → p.1 = q.1 → p = q
  | [], _, h, _, _ => by cases h
  | z :: l, ha, hp, hq, e => by
    obtain ⟨h1, h2⟩ := List.pairwise_cons.1 ha
    rcases List.mem_cons.1 hp with p1 | p1 <;> rcases List.mem_cons.1 hq with q1 | q1
    · rw [p1, q1]
    · exact absurd e (by rw [p1]; exact h1 _ q1)
    · exact absurd e.symm (by rw [q1]; exact h1 _ p1)
    · exact apart_eq h2 p1 q1 e
/-- One more is given: those that were, it, and those still to come are all. -/
theorem IterV.step {r : Nat} {pre todo : List (κ × Value)} {p : κ × Value} (h : IterV KT w m r l todo) (hp : p ∈ todo) (hl : (pre ++ todo).Perm l) : ((pre ++ [p]) ++ todo.filter (fun q => !decide (q.1 = p.1))).Perm l := by
  refine List.Perm.trans ?_ hl
  rw [List.append_assoc]
  refine List.Perm.append_left pre ?_
  show (p :: todo.filter (fun q => !decide (q.1 = p.1))).Perm todo
  have hn := h.nodup
  refine (List.perm_ext_iff_of_nodup (List.nodup_cons.2 ⟨by simp, hn.filter _⟩) hn).2 fun q => ?_
  rw [List.mem_cons, List.mem_filter]
  constructor
  · rintro (rfl | h1)
    · exact hp
    · exact h1.1
  · intro hq
    by_cases e : q.1 = p.1
    · exact .inl (apart_eq h.apart (h.sub _ hq) (h.sub _ hp) e)
    · exact .inr ⟨hq, by simp [e]⟩
theorem todo_lt {p : κ × Value} : ∀ {todo : List (κ × Value)}, p ∈ todo → (todo.filter (fun q => !decide (q.1 = p.1))).length < todo.length := fun {todo} hp => by
  rcases Nat.lt_or_ge (todo.filter (fun q => !decide (q.1 = p.1))).length todo.length with h | h
  · exact h
  · have h1 : todo.filter (fun q => !decide (q.1 = p.1)) = todo := List.Sublist.eq_of_length_le List.filter_sublist h
    have h2 := List.filter_eq_self.1 h1 p hp
    simp at h2
theorem IterV.next {r : Nat} {todo : List (κ × Value)} (h : IterV KT w m r l todo) (ty : TypeId) :
    (todo = [] ∧ (Instr.next (.pointer (some ⟨r, 0, none⟩)) false ty).run Tryd.prog w = .ok (.tuple #[.bool false]) w) ∨
    ∃ p w', p ∈ todo ∧ (Instr.next (.pointer (some ⟨r, 0, none⟩)) false ty).run Tryd.prog w = .ok (.tuple #[.bool true, KT.val p.1, p.2]) w' ∧ IterV KT w' m r l (todo.filter (fun q => !decide (q.1 = p.1))) ∧ w.grownBy w' (some r) ∧ w'.heap.size = w.heap.size ∧
      (Instr.entry (.pointer (some ⟨r, 0, none⟩))).run Tryd.prog w' = .ok (.tuple #[KT.val p.1, p.2]) w' := by
  rcases h with ⟨b, rfl, h⟩ | ⟨rfl, rfl, rfl, h⟩
  · rcases h.next ty with h | ⟨p, w', h1, h2, h3, h4, h5, h6⟩
    · exact .inl h
    · exact .inr ⟨p, w', h1, h2, .inl ⟨b, rfl, h3⟩, h4, h5, h6⟩
  · refine .inl ⟨rfl, ?_⟩
    have hg : (getObj r).run Tryd.prog w = .ok (.mapIter none 0 #[] 0) w := by simp [getObj, Sem.run, h]
    simp [Instr.next, hg, Sem.run_bind, Sem.run_pure, Result.andThen]
theorem IterV.next2 {r : Nat} {todo : List (κ × Value)} (h : IterV KT w m r l todo) (ty : TypeId) :
    (todo = [] ∧ (Instr.next (.pointer (some ⟨r, 0, none⟩)) false ty).run Tryd.prog w = .ok (.tuple #[.bool false]) w) ∨
    ∃ p w' todo', p ∈ todo ∧ p ∈ l ∧ (Instr.next (.pointer (some ⟨r, 0, none⟩)) false ty).run Tryd.prog w = .ok (.tuple #[.bool true, KT.val p.1, p.2]) w' ∧ IterV KT w' m r l todo' ∧ w.grownBy w' (some r) ∧ w'.heap.size = w.heap.size ∧
      (Instr.entry (.pointer (some ⟨r, 0, none⟩))).run Tryd.prog w' = .ok (.tuple #[KT.val p.1, p.2]) w' ∧ todo'.length < todo.length ∧ ∀ pre : List (κ × Value), (pre ++ todo).Perm l → ((pre ++ [p]) ++ todo').Perm l := by
  rcases h.next ty with h1 | ⟨p, w', h1, h2, h3, h4, h5, h6⟩
  · exact .inl h1
  · exact .inr ⟨p, w', _, h1, h.sub _ h1, h2, h3, h4, h5, h6, todo_lt h1, fun pre hp => h.step h1 hp⟩
end

/-! ### The table -/
abbrev EntL := List (List UInt8 × (Nat × List PeerL))
def tabOf (E : EntL) : TabL := E.map fun x => (x.1, x.2.2)
def outE (x : List UInt8 × (Nat × List PeerL)) : List UInt8 × Value := (x.1, .map (some x.2.1))
def inE (p : PeerL) : Int × Value := (p.id, RPeer.V p)
/-- An entry read back. -/
def decE : Int × Value → PeerL
  | (_, .agg ⟨[.int _ i, .int _ t, .bool b]⟩) => ⟨i, t, b⟩
  | _ => PeerL.zero
theorem dec_in (p : PeerL) : decE (inE p) = p := rfl
theorem dec_map (l : List PeerL) : (l.map inE).map decE = l := by
  rw [List.map_map]
  exact (List.map_congr_left fun x _ => dec_in x).trans (List.map_id _)
/-- Block t is a table, its map is block mb, its blobs' peers lie in maps of their own. -/
structure TabP (w : World) (t : Nat) (most each : Int) (mb : Nat) (E : EntL) : Prop where
  tab : w.heap[t]? = some (.cells #[.int .i64 most, .int .i64 each, .map (some mb)] 39 (0, 0))
  map : MapL KDig w mb (E.map outE)
  ins : ∀ x ∈ E, MapL KInt w x.2.1 (x.2.2.map inE)
  apart : (t :: mb :: E.map (fun x => x.2.1)).Nodup
/-- The blocks that its maps are. -/
def ownE (mb : Nat) (E : EntL) (k : Nat) : Prop := k = mb ∨ ∃ x ∈ E, x.2.1 = k
variable {w w' : World} {t mb : Nat} {most each : Int} {E : EntL}
theorem TabP.lt (h : TabP w t most each mb E) : t < w.heap.size := (Array.getElem?_eq_some_iff.1 h.tab).1
theorem TabP.own_lt (h : TabP w t most each mb E) {k : Nat} (hk : ownE mb E k) : k < w.heap.size := by
  rcases hk with rfl | ⟨x, hx, rfl⟩
  · exact h.map.lt
  · exact (h.ins x hx).lt
theorem TabP.own_ne (h : TabP w t most each mb E) {k : Nat} (hk : ownE mb E k) : k ≠ t := by
  have := (List.nodup_cons.1 h.apart).1
  rintro rfl
  rcases hk with rfl | ⟨x, hx, rfl⟩
  · exact this (by simp)
  · exact this (List.mem_cons_of_mem _ (List.mem_map.2 ⟨x, hx, rfl⟩))
theorem TabP.kept {U : Nat → Prop} (h : TabP w t most each mb E) (hk : Kept U w w') (h1 : U t) (h2 : ∀ k, ownE mb E k → U k) : TabP w' t most each mb E :=
  ⟨(hk.block _ h.lt h1).trans h.tab, h.map.of_block (hk.block _ h.map.lt (h2 _ (.inl rfl))), fun x hx => (h.ins x hx).of_block (hk.block _ (h.ins x hx).lt (h2 _ (.inr ⟨x, hx, rfl⟩))), h.apart⟩
theorem TabP.of_new (h : TabP w t most each mb E) (hb : Below w.heap.size w w') : TabP w' t most each mb E := h.kept ((Kept.refl (fun _ => True) w).below hb) trivial fun _ _ => trivial
theorem TabP.cell0 (h : TabP w t most each mb E) : w.cell? ⟨t, 0, none⟩ = some (.int .i64 most) := by simp [World.cell?, h.tab]
theorem TabP.cell1 (h : TabP w t most each mb E) : w.cell? ⟨t, 1, none⟩ = some (.int .i64 each) := by simp [World.cell?, h.tab]
theorem TabP.cell2 (h : TabP w t most each mb E) : w.cell? ⟨t, 2, none⟩ = some (.map (some mb)) := by simp [World.cell?, h.tab]

/-- What the laws of the plain table ask of the entries. -/
def EntOk (most each : Int) (E : EntL) : Prop := TabOk most each (tabOf E)
theorem tabOf_get (d : Int) : (getK kD d E).map (fun x => (x.1, x.2.2)) = getK kD d (tabOf E) := getK_map (f := kD) (g := kD) (fun x : List UInt8 × (Nat × List PeerL) => (x.1, x.2.2)) (fun _ => rfl) d E
theorem tabOf_ins (x : List UInt8 × (Nat × List PeerL)) : tabOf (insK kD x E) = insK kD (x.1, x.2.2) (tabOf E) := insK_map (f := kD) (g := kD) (fun x : List UInt8 × (Nat × List PeerL) => (x.1, x.2.2)) (fun _ => rfl) x E
theorem tabOf_del (d : Int) : tabOf (delK kD d E) = delK kD d (tabOf E) := delK_map (f := kD) (g := kD) (fun x : List UInt8 × (Nat × List PeerL) => (x.1, x.2.2)) (fun _ => rfl) d E
theorem entL_rise (h : Rising kD (tabOf E)) : Rising kD E := Rising.of_map (g := kD) (φ := fun x : List UInt8 × (Nat × List PeerL) => (x.1, x.2.2)) (fun _ => rfl) h
theorem tabOf_mem {x : List UInt8 × (Nat × List PeerL)} (h : x ∈ E) : (x.1, x.2.2) ∈ tabOf E := List.mem_map.2 ⟨x, h, rfl⟩

/-- What a blob's entry is. -/
theorem getL_out {E : EntL} (hd : ∀ x ∈ E, x.1.length = 32) {d : List UInt8} (h32 : d.length = 32) : getL (E.map outE) d = (getK kD (natL d) E).map (fun x => .map (some x.2.1)) := by
  unfold getL getK
  rw [List.find?_map, Option.map_map]
  congr 1
  induction E with
  | nil => rfl
  | cons x E ih =>
    have hx := hd x (by simp)
    have e : decide ((outE x).1 = d) = decide (kD x = (natL d : Int)) := by
      rw [decide_eq_decide]
      constructor
      · intro e; show (natL x.1 : Int) = _; rw [show x.1 = d from e]
      · intro e; exact natL_inj x.1 d (by omega) (by unfold kD at e; omega)
    simp only [List.find?_cons, Function.comp, e]
    split
    · rfl
    · exact ih (fun y hy => hd y (by simp [hy]))
theorem hasKey_get {κ : Type} [DecidableEq κ] (l : List (κ × Value)) (x : κ) : hasKey l x = (getL l x).isSome := by
  unfold hasKey getL
  rw [Option.isSome_map, Bool.eq_iff_iff, List.any_eq_true, List.find?_isSome]
theorem delL_out {E : EntL} (hd : ∀ x ∈ E, x.1.length = 32) {d : List UInt8} (h32 : d.length = 32) : delL (E.map outE) d = (delK kD (natL d) E).map outE := by
  unfold delL delK
  rw [List.filter_map]
  congr 1
  refine List.filter_congr fun x hx => ?_
  have := hd x hx
  show (!decide (x.1 = d)) = (!decide (kD x = (natL d : Int)))
  congr 1
  rw [decide_eq_decide]
  constructor
  · intro e; show (natL x.1 : Int) = _; rw [e]
  · intro e; exact natL_inj x.1 d (by omega) (by unfold kD at e; omega)
theorem getL_in (l : List PeerL) (k : Int) : getL (l.map inE) k = (getK PeerL.id k l).map RPeer.V := by
  unfold getL getK
  rw [List.find?_map, Option.map_map]
  rfl
theorem delL_in (l : List PeerL) (k : Int) : delL (l.map inE) k = (delK PeerL.id k l).map inE := by
  unfold delL delK
  rw [List.filter_map]
  rfl

end Go.Proofs.YtjmjaailmlnkjaaDoor

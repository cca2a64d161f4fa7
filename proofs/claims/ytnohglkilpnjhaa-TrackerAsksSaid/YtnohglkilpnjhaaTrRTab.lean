/- The document's answer's table (starlingref11.Table) as it lies in memory. No condition. -/
import Derived.Test.YtnohglkilpnjhaaGb
namespace Go.Proofs.Ytnohglkilpnjhaa
open Go.RowKit
set_option linter.unusedVariables false
set_option linter.unusedSimpArgs false
set_option linter.unusedSectionVars false
set_option maxRecDepth 100000

/-- A blob's entry: its hash, the value of its slice of peers. -/
def ROf : RecT 83 (List UInt8 × Value) where
  n := 33
  bytes := 56
  zero := (dig0, .slice none 0 0)
  cells := fun x => x.1.map B8 ++ [x.2]
  ok := fun x => x.1.length = 32 ∧ x.2.oneCell' = true
  pos := by decide
  small := by decide
  few := by decide
  zok := ⟨rfl, rfl⟩
  len := fun h => by simp [h.1]
  one := fun {x} h v hv => by
    rcases List.mem_append.1 hv with hv | hv
    · obtain ⟨b, _, rfl⟩ := List.mem_map.1 hv
      rfl
    · simp at hv; subst hv; exact h.2
  agg := ⟨_, Try.underlying83, rfl⟩
  info := by kernel_rfl

section
variable {e : TypeId} {α : Type} {R : RecT e α} {w : World} {base k : Nat} {v : Value} {l : List α}
theorem RecT.Own.block (h : R.Own w base v l) (hk : v.ownBlock = some k) : ∃ cur, w.heap[k]? = some (.cells cur e (0, 0)) := by
  rcases h.2.2 with ⟨rfl, _⟩ | ⟨g, cap, cur, rfl, _, hh, _⟩
  · cases hk
  · cases hk; exact ⟨cur, hh⟩
theorem RecT.Own.one (h : R.Own w base v l) : v.oneCell' = true := by
  rcases h.2.2 with ⟨rfl, _⟩ | ⟨g, cap, cur, rfl, _⟩ <;> rfl
theorem RecT.Own.form (h : R.Own w base v l) (h0 : 0 < l.length) : ∃ g cap, v = .slice (some ⟨g, 0, none⟩) l.length cap ∧ base ≤ g ∧ g < w.heap.size := by
  have hlt := h.lt
  rcases h.2.2 with ⟨_, h1⟩ | ⟨g, cap, cur, rfl, _⟩
  · omega
  · exact ⟨g, cap, rfl, hlt g rfl⟩
theorem MapL.obj {kt : TypeId} {κ : Type} [DecidableEq κ] {KT : KeyT kt κ} {b : Nat} {m : List (κ × Value)} (h : MapL KT w b m) : ∃ a c, w.heap[b]? = some (.map a c) := by
  obtain ⟨es, ⟨a, c, h1, _⟩, _⟩ := h
  exact ⟨a, c, h1⟩
end

abbrev RefL := List (List UInt8 × Value)
/-- Block r is a table: its blobs, rising, each with a slice of its peers; all lies from B on. -/
structure RTabP (w : World) (r : Nat) (many most : Int) (B : Nat) (v : Value) (L : RefL) (T : TabL) : Prop where
  tab : w.heap[r]? = some (.cells #[.int .i64 many, .int .i64 most, v] 57 (0, 0))
  base : B ≤ r
  own : ROf.Own w B v L
  keys : L.map (·.1) = T.map (·.1)
  rows : ∀ (i : Nat) (x : List UInt8 × Value) (y : List UInt8 × List PeerL), L[i]? = some x → T[i]? = some y → RPeer.Own w B x.2 y.2
variable {w w' : World} {r B t mb : Nat} {many most each : Int} {v : Value} {L : RefL} {T : TabL} {E : EntL}
theorem RTabP.lt (h : RTabP w r many most B v L T) : r < w.heap.size := (Array.getElem?_eq_some_iff.1 h.tab).1
theorem RTabP.len (h : RTabP w r many most B v L T) : L.length = T.length := by have := congrArg List.length h.keys; simpa using this
theorem RTabP.kept {U : Nat → Prop} (h : RTabP w r many most B v L T) (hk : Kept U w w') (h1 : U r) (h2 : ∀ k, v.ownBlock = some k → U k) (h3 : ∀ (i : Nat) (x : List UInt8 × Value) (y : List UInt8 × List PeerL), L[i]? = some x → T[i]? = some y → ∀ k, x.2.ownBlock = some k → U k) : RTabP w' r many most B v L T :=
  ⟨(hk.block _ h.lt h1).trans h.tab, h.base, h.own.kept fun k hv => hk.block _ (h.own.lt k hv).2 (h2 k hv), h.keys, fun i x y hx hy => (h.rows i x y hx hy).kept fun k hv => hk.block _ ((h.rows i x y hx hy).lt k hv).2 (h3 i x y hx hy k hv)⟩
theorem RTabP.of_new (h : RTabP w r many most B v L T) (hb : Below w.heap.size w w') : RTabP w' r many most B v L T := h.kept ((Kept.refl (fun _ => True) w).below hb) trivial (fun _ _ => trivial) (fun _ _ _ _ _ _ _ => trivial)
theorem RTabP.cell0 (h : RTabP w r many most B v L T) : w.cell? ⟨r, 0, none⟩ = some (.int .i64 many) := by simp [World.cell?, h.tab]
theorem RTabP.cell1 (h : RTabP w r many most B v L T) : w.cell? ⟨r, 1, none⟩ = some (.int .i64 most) := by simp [World.cell?, h.tab]
theorem RTabP.cell2 (h : RTabP w r many most B v L T) : w.cell? ⟨r, 2, none⟩ = some v := by simp [World.cell?, h.tab]
theorem RTabP.free (h : RTabP w r many most B v L T) (j : Nat) : w.frozen? ⟨r, j, none⟩ = false := by simp [World.frozen?, h.tab]
/-- Its blocks are of their types. -/
theorem RTabP.ne (h : RTabP w r many most B v L T) {k : Nat} (hk : v.ownBlock = some k) : k ≠ r := by
  rintro rfl
  obtain ⟨cur, h1⟩ := h.own.block hk
  rw [h.tab] at h1
  cases h1
theorem RTabP.row_ne (h : RTabP w r many most B v L T) {i : Nat} {x : List UInt8 × Value} {y : List UInt8 × List PeerL} (hx : L[i]? = some x) (hy : T[i]? = some y) {k : Nat} (hk : x.2.ownBlock = some k) : k ≠ r ∧ v.ownBlock ≠ some k := by
  obtain ⟨cur, h1⟩ := (h.rows i x y hx hy).block hk
  constructor
  · rintro rfl
    rw [h.tab] at h1; cases h1
  · intro e
    obtain ⟨cur2, h2⟩ := h.own.block e
    rw [h2] at h1; cases h1
/-- A step of the program's table leaves it. -/
theorem RTabP.tab_step (h : RTabP w r many most B v L T) {m1 e1 : Int} (hT : TabP w t m1 e1 mb E) (hk : Kept (fun k => ¬ ownE mb E k) w w') : RTabP w' r many most B v L T := by
  have hno : ∀ k, (∃ a e f, w.heap[k]? = some (.cells a e f)) → ¬ ownE mb E k := by
    rintro k ⟨a, e, f, h1⟩ hx
    have : ∃ a c, w.heap[k]? = some (.map a c) := by
      rcases hx with rfl | ⟨x, hx, rfl⟩
      · exact hT.map.obj
      · exact (hT.ins x hx).obj
    obtain ⟨a2, c2, h2⟩ := this
    rw [h2] at h1; cases h1
  refine h.kept hk (hno _ ⟨_, _, _, h.tab⟩) (fun k hv => ?_) (fun i x y hx hy k hv => ?_)
  · obtain ⟨cur, h1⟩ := h.own.block hv
    exact hno _ ⟨_, _, _, h1⟩
  · obtain ⟨cur, h1⟩ := (h.rows i x y hx hy).block hv
    exact hno _ ⟨_, _, _, h1⟩
/-- What a step of it does to memory: its own two blocks are written, no other. -/
abbrev RStp (r : Nat) (v : Value) (w w' : World) : Prop := Kept (fun k => k ≠ r ∧ v.ownBlock ≠ some k) w w'
/-- The program's table stays. -/
theorem TabP.ref_step {m1 e1 : Int} (hT : TabP w t m1 e1 mb E) (h : RTabP w r many most B v L T) (hk : RStp r v w w') : TabP w' t m1 e1 mb E := by
  have hty : ∀ k, k = r ∨ v.ownBlock = some k → ∃ a e, w.heap[k]? = some (.cells a e (0, 0)) ∧ e ≠ 66 := by
    rintro k (rfl | hv)
    · exact ⟨_, _, h.tab, by decide⟩
    · obtain ⟨cur, h1⟩ := h.own.block hv
      exact ⟨_, _, h1, by decide⟩
  refine hT.kept hk ?_ fun k hx => ?_
  · constructor
    · intro e
      obtain ⟨a, e2, h1, h2⟩ := hty t (.inl e)
      rw [hT.tab] at h1; cases h1; exact h2 rfl
    · intro e
      obtain ⟨a, e2, h1, h2⟩ := hty t (.inr e)
      rw [hT.tab] at h1; cases h1; exact h2 rfl
  · have : ∃ a c, w.heap[k]? = some (.map a c) := by
      rcases hx with rfl | ⟨x, hx, rfl⟩
      · exact hT.map.obj
      · exact (hT.ins x hx).obj
    obtain ⟨a2, c2, h2⟩ := this
    constructor
    · intro e
      obtain ⟨a, e2, h1, _⟩ := hty k (.inl e)
      rw [h2] at h1; cases h1
    · intro e
      obtain ⟨a, e2, h1, _⟩ := hty k (.inr e)
      rw [h2] at h1; cases h1
theorem RStp.below {B0 : Nat} {w0 : World} (hk : RStp r v w w') (h : RTabP w r many most B v L T) (hb : Below B0 w0 w) (h0 : B0 ≤ B) (hs : B0 ≤ w.heap.size) : Below B0 w0 w' :=
  hk.to_below hb hs fun k hlt => ⟨fun e => by have := h.base; omega, fun e => by have := (h.own.lt k e).1; omega⟩

/-! ### A slice of peers is written into an entry -/
theorem ROf_flat_set : ∀ {l : RefL}, (∀ x ∈ l, ROf.ok x) → ∀ {i : Nat} {d : List UInt8} {u0 : Value} (u : Value), l[i]? = some (d, u0) → ROf.flat (l.set i (d, u)) = (ROf.flat l).set (i * 33 + 32) u
  | [], _, i, d, u0, u, hi => by simp at hi
  | y :: l, h, 0, d, u0, u, hi => by
    simp at hi
    subst hi
    have h0 : (d.map B8).length = 32 := by have := (h _ (List.mem_cons_self)).1; simpa using this
    show (d.map B8 ++ [u]) ++ ROf.flat l = ((d.map B8 ++ [u0]) ++ ROf.flat l).set _ u
    rw [List.set_append_left _ _ (by simp; have := (h _ (List.mem_cons_self)).1; dsimp only at this; omega), List.set_append_right _ _ (by omega), show 0 * 33 + 32 - (d.map B8).length = 0 by omega]
    rfl
  | y :: l, h, i + 1, d, u0, u, hi => by
    have ih := ROf_flat_set (l := l) (fun x hx => h x (List.mem_cons_of_mem _ hx)) (i := i) (d := d) (u0 := u0) u (by simpa using hi)
    have h0 : (ROf.cells y).length = 33 := ROf.len (h y List.mem_cons_self)
    show ROf.cells y ++ ROf.flat (l.set i (d, u)) = (ROf.cells y ++ ROf.flat l).set _ u
    rw [List.set_append_right _ _ (by omega), ih, show (i + 1) * 33 + 32 - (ROf.cells y).length = i * 33 + 32 by omega]
theorem ROf.set {base g cap n i : Nat} {l : RefL} (h : ROf.Own w base (.slice (some ⟨g, 0, none⟩) n cap) l) {d : List UInt8} {u0 u : Value} (hi : l[i]? = some (d, u0)) (hu : u.oneCell' = true) :
    ROf.Own (w.setCell ⟨g, i * 33 + 32, none⟩ u) base (.slice (some ⟨g, 0, none⟩) n cap) (l.set i (d, u)) ∧ w.grownBy (w.setCell ⟨g, i * 33 + 32, none⟩ u) (some g) := by
  have hn : n = l.length := by
    obtain ⟨a, c, e⟩ := h.row.len
    cases e; rfl
  subst hn
  have hst := World.ownsRow.stored h.2 (i * 33 + 32) u
  refine ⟨⟨fun x hx => ?_, ?_⟩, hst.2⟩
  · rcases List.mem_or_eq_of_mem_set hx with hx | rfl
    · exact h.1 x hx
    · exact ⟨(h.1 _ (List.mem_of_getElem? hi)).1, hu⟩
  · rw [ROf_flat_set h.1 u hi, List.length_set]
    exact hst.1

end Go.Proofs.Ytnohglkilpnjhaa

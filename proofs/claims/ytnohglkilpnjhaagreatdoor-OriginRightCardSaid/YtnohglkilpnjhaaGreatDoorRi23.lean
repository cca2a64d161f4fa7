/- Texts of this claim, one behind the other: each begins with a comment that says what it proves and asks. -/
import Derived.Test.YtnohglkilpnjhaaGreatDoorRi22
/- An origin as it lies in memory: its table, its images and contents. No condition. -/
namespace Go.Proofs.YtnohglkilpnjhaaGreatDoor
open Go.RowKit
set_option linter.unusedVariables false
set_option linter.unusedSimpArgs false
set_option linter.unusedSectionVars false
set_option maxRecDepth 100000

theorem ownsRow_same {w w' : World} {base : Nat} {e : TypeId} {size n : Nat} {v : Value} {xs : List Value} (h : w.ownsRow base e size v n xs) (hk : ∀ k, v.ownBlock = some k → w'.heap[k]? = w.heap[k]?) : w'.ownsRow base e size v n xs := by
  refine ⟨h.1, ?_⟩
  rcases h.2 with h | ⟨g, cap, cur, hv, hb, hh, hr⟩
  · exact .inl h
  · exact .inr ⟨g, cap, cur, hv, hb, (hk g (by rw [hv]; rfl)).trans hh, hr⟩
theorem ownsRow_block {w : World} {base : Nat} {e : TypeId} {size n k : Nat} {v : Value} {xs : List Value} (h : w.ownsRow base e size v n xs) (hk : v.ownBlock = some k) : ∃ cur, w.heap[k]? = some (.cells cur e (0, 0)) := by
  rcases h.2 with ⟨rfl, _⟩ | ⟨g, cap, cur, rfl, _, hh, _⟩
  · cases hk
  · cases hk; exact ⟨cur, hh⟩
theorem ownsRow_mono {w : World} {base base' : Nat} {e : TypeId} {size n : Nat} {v : Value} {xs : List Value} (h : w.ownsRow base e size v n xs) (hb : base' ≤ base) : w.ownsRow base' e size v n xs := by
  refine ⟨h.1, ?_⟩
  rcases h.2 with h | ⟨g, cap, cur, hv, hg, hr⟩
  · exact .inl h
  · exact .inr ⟨g, cap, cur, hv, Nat.le_trans hb hg, hr⟩
/-- What is written is a map: the row stays. -/
theorem ownsRow_maps {U : Nat → Prop} {w w' : World} {base : Nat} {e : TypeId} {size n : Nat} {v : Value} {xs : List Value} (h : w.ownsRow base e size v n xs) (hk : Kept U w w') (hm : ∀ k, ¬ U k → ∀ cur ty f, w.heap[k]? ≠ some (.cells cur ty f)) : w'.ownsRow base e size v n xs :=
  ownsRow_same h fun k hv => by
    obtain ⟨cur, hc⟩ := ownsRow_block h hv
    refine hk.block k (Array.getElem?_eq_some_iff.1 hc).1 (Classical.byContradiction fun hu => hm k hu _ _ _ hc)
/-- .. of another type. -/
theorem ownsRow_other {w w' : World} {base base2 : Nat} {e e2 : TypeId} {size size2 n n2 : Nat} {v v2 : Value} {xs xs2 : List Value} (h : w.ownsRow base e size v n xs) (h2 : w.ownsRow base2 e2 size2 v2 n2 xs2) (hne : e ≠ e2) (hg : w.grownBy w' v2.ownBlock) : w'.ownsRow base e size v n xs :=
  ownsRow_same h fun k hv => by
    obtain ⟨cur, hc⟩ := ownsRow_block h hv
    refine hg.block k (Array.getElem?_eq_some_iff.1 hc).1 fun e' => ?_
    obtain ⟨cur2, hc2⟩ := ownsRow_block h2 e'.symm
    rw [hc] at hc2
    exact hne (by cases hc2; rfl)

/-- A blob's content: what tells of it, the values of its two slices. -/
structure ContV where
  blob : BlobL
  bytes : Value
  leaves : Value
def ContV.zero : ContV := ⟨BlobL.zero, .slice none 0 0, .slice none 0 0⟩
def RCont : RecT 99 ContV where
  n := 68
  bytes := 128
  zero := ContV.zero
  cells := fun x => x.blob.cells ++ [x.bytes, x.leaves]
  ok := fun x => x.blob.ok ∧ x.bytes.oneCell' = true ∧ x.leaves.oneCell' = true
  pos := by decide
  small := by decide
  few := by decide
  zok := ⟨BlobL.zero_ok, rfl, rfl⟩
  len := fun h => by simp [BlobL.cells_len h.1]
  one := fun {x} h v hv => by
    rcases List.mem_append.1 hv with hv | hv
    · exact RBlob.one h.1 v hv
    · simp at hv
      rcases hv with rfl | rfl
      · exact h.2.1
      · exact h.2.2
  agg := ⟨_, Tryz.underlying99, rfl⟩
  info := by kernel_rfl

/-- Its two slices. -/
structure ContP (w : World) (base : Nat) (x : ContV) (b : List UInt8) : Prop where
  ok : x.blob.ok
  bytes : Own8 w base 5 x.bytes b
  leaves : OwnD w base x.leaves (leavesL b x.blob.piece.toNat)
theorem ContP.mono {w : World} {base base' : Nat} {x : ContV} {b : List UInt8} (h : ContP w base x b) (hb : base' ≤ base) : ContP w base' x b := ⟨h.ok, ownsRow_mono h.bytes hb, h.leaves.1, ownsRow_mono h.leaves.2 hb⟩
theorem ContP.same {w w' : World} {base : Nat} {x : ContV} {b : List UInt8} (h : ContP w base x b) (h1 : ∀ k, x.bytes.ownBlock = some k → w'.heap[k]? = w.heap[k]?) (h2 : ∀ k, x.leaves.ownBlock = some k → w'.heap[k]? = w.heap[k]?) : ContP w' base x b :=
  ⟨h.ok, ownsRow_same h.bytes h1, h.leaves.1, ownsRow_same h.leaves.2 h2⟩
theorem ContP.of_new {w w' : World} {base : Nat} {x : ContV} {b : List UInt8} (h : ContP w base x b) (hb : Below w.heap.size w w') : ContP w' base x b :=
  h.same (fun k hk => hb.block _ (World.ownsRow.lt h.bytes k hk).2) fun k hk => hb.block _ (World.ownsRow.lt h.leaves.2 k hk).2
theorem ContP.maps {U : Nat → Prop} {w w' : World} {base : Nat} {x : ContV} {b : List UInt8} (h : ContP w base x b) (hk : Kept U w w') (hm : ∀ k, ¬ U k → ∀ cur ty f, w.heap[k]? ≠ some (.cells cur ty f)) : ContP w' base x b :=
  ⟨h.ok, ownsRow_maps h.bytes hk hm, h.leaves.1, ownsRow_maps h.leaves.2 hk hm⟩
theorem RCont_ok {w : World} {base : Nat} {x : ContV} {b : List UInt8} (h : ContP w base x b) : RCont.ok x := by
  refine ⟨h.ok, ?_, ?_⟩
  · obtain ⟨a, c, e⟩ := (Row.of_owns h.bytes).shape; rw [e]; rfl
  · obtain ⟨a, c, e⟩ := (Row.of_owns h.leaves.2).shape; rw [e]; rfl

abbrev ImgR := List UInt8 × (Value × List BlobL)
abbrev CntR := ContV × List UInt8
def outI (x : ImgR) : List UInt8 × Value := (x.1, .agg #[x.2.1])
def outC (x : CntR) : List UInt8 × Value := (x.1.blob.dig, RCont.V x.1)
def plI (x : ImgR) : List UInt8 × List BlobL := (x.1, x.2.2)
def plC (x : CntR) : BlobL × List UInt8 := (x.1.blob, x.2)
/-- Block o is an origin. -/
structure OrgQ (w : World) (o t mb im bm : Nat) (most each life : Int) (E : EntL) (I : List ImgR) (C : List CntR) : Prop where
  org : w.heap[o]? = some (.cells #[.pointer (some ⟨t, 0, none⟩), .int .i64 life, .map (some im), .map (some bm)] 91 (0, 0))
  tab : TabP w t most each mb E
  imgs : MapL KDig w im (I.map outI)
  irow : ∀ x ∈ I, RBlob.Own w 0 x.2.1 x.2.2
  blbs : MapL KDig w bm (C.map outC)
  crow : ∀ x ∈ C, ContP w 0 x.1 x.2
  apart : im ≠ bm ∧ ¬ ownE mb E im ∧ ¬ ownE mb E bm
/-- Its blocks that are written: its maps. -/
def FootM (mb im bm : Nat) (E : EntL) (k : Nat) : Prop := k = im ∨ k = bm ∨ ownE mb E k
def OrgP (w : World) (o : Nat) (most each life : Int) (S : OrgL) (F : Nat → Prop) : Prop :=
  ∃ t mb im bm E I C, OrgQ w o t mb im bm most each life E I C ∧ S = ⟨I.map plI, C.map plC, tabOf E⟩ ∧ F = FootM mb im bm E
/-- The types of its other blocks. -/
def progTy (ty : TypeId) : Prop := ty = 91 ∨ ty = 157 ∨ ty = 81 ∨ ty = 5 ∨ ty = 31

section
variable {w w' : World} {o t mb im bm : Nat} {most each life : Int} {E : EntL} {I : List ImgR} {C : List CntR} {S : OrgL} {F : Nat → Prop}

theorem OrgQ.olt (h : OrgQ w o t mb im bm most each life E I C) : o < w.heap.size := (Array.getElem?_eq_some_iff.1 h.org).1
theorem OrgQ.cell (h : OrgQ w o t mb im bm most each life E I C) (j : Nat) : w.cell? ⟨o, j, none⟩ = #[Value.pointer (some ⟨t, 0, none⟩), .int .i64 life, .map (some im), .map (some bm)][j]? := by simp only [World.cell?, h.org]; simp
theorem OrgQ.cell0 (h : OrgQ w o t mb im bm most each life E I C) : w.cell? ⟨o, 0, none⟩ = some (.pointer (some ⟨t, 0, none⟩)) := h.cell 0
theorem OrgQ.cell1 (h : OrgQ w o t mb im bm most each life E I C) : w.cell? ⟨o, 1, none⟩ = some (.int .i64 life) := h.cell 1
theorem OrgQ.cell2 (h : OrgQ w o t mb im bm most each life E I C) : w.cell? ⟨o, 2, none⟩ = some (.map (some im)) := h.cell 2
theorem OrgQ.cell3 (h : OrgQ w o t mb im bm most each life E I C) : w.cell? ⟨o, 3, none⟩ = some (.map (some bm)) := h.cell 3
theorem OrgQ.lt (h : OrgQ w o t mb im bm most each life E I C) {k : Nat} (hk : FootM mb im bm E k) : k < w.heap.size := by
  rcases hk with rfl | rfl | hk
  · exact h.imgs.lt
  · exact h.blbs.lt
  · exact h.tab.own_lt hk
theorem ownE_obj (h : TabP w t most each mb E) {k : Nat} (hk : ownE mb E k) : ∃ a c, w.heap[k]? = some (.map a c) := by
  rcases hk with rfl | ⟨x, hx, rfl⟩
  · exact h.map.obj
  · exact (h.ins x hx).obj
theorem OrgQ.obj (h : OrgQ w o t mb im bm most each life E I C) {k : Nat} (hk : FootM mb im bm E k) : ∃ a c, w.heap[k]? = some (.map a c) := by
  rcases hk with rfl | rfl | hk
  · exact h.imgs.obj
  · exact h.blbs.obj
  · exact ownE_obj h.tab hk
theorem OrgQ.cells_ne (h : OrgQ w o t mb im bm most each life E I C) {k : Nat} (hk : FootM mb im bm E k) {cur : Array Value} {ty : TypeId} {f : Nat × Nat} : w.heap[k]? ≠ some (.cells cur ty f) := fun e => by
  obtain ⟨a, c, h1⟩ := h.obj hk
  rw [h1] at e; cases e
theorem OrgQ.kept {U : Nat → Prop} (h : OrgQ w o t mb im bm most each life E I C) (hk : Kept U w w') (h1 : ∀ k, FootM mb im bm E k → U k) (h2 : ∀ k cur ty f, w.heap[k]? = some (.cells cur ty f) → progTy ty → U k) : OrgQ w' o t mb im bm most each life E I C := by
  have hb : ∀ k, FootM mb im bm E k → w'.heap[k]? = w.heap[k]? := fun k hf => hk.block k (h.lt hf) (h1 k hf)
  have hc : ∀ {k : Nat} {cur : Array Value} {ty : TypeId} {f : Nat × Nat}, w.heap[k]? = some (.cells cur ty f) → progTy ty → w'.heap[k]? = w.heap[k]? := fun e ht => hk.block _ (Array.getElem?_eq_some_iff.1 e).1 (h2 _ _ _ _ e ht)
  have hr : ∀ {base : Nat} {e : TypeId} {size n : Nat} {v : Value} {xs : List Value}, w.ownsRow base e size v n xs → progTy e → w'.ownsRow base e size v n xs := fun hr ht => ownsRow_same hr fun k hv => by
    obtain ⟨cur, e⟩ := ownsRow_block hr hv
    exact hc e ht
  exact ⟨(hc h.org (.inl rfl)).trans h.org, h.tab.kept hk (h2 t _ _ _ h.tab.tab (.inr (.inl rfl))) (fun k hf => h1 k (.inr (.inr hf))), h.imgs.of_block (hb im (.inl rfl)), fun x hx => ⟨(h.irow x hx).1, hr (h.irow x hx).2 (.inr (.inr (.inl rfl)))⟩,
    h.blbs.of_block (hb bm (.inr (.inl rfl))), fun x hx => ⟨(h.crow x hx).ok, hr (h.crow x hx).bytes (.inr (.inr (.inr (.inl rfl)))), (h.crow x hx).leaves.1, hr (h.crow x hx).leaves.2 (.inr (.inr (.inr (.inr rfl))))⟩, h.apart⟩
theorem OrgQ.of_new (h : OrgQ w o t mb im bm most each life E I C) (hb : Below w.heap.size w w') : OrgQ w' o t mb im bm most each life E I C := h.kept ((Kept.refl (fun _ => True) w).below hb) (fun _ _ => trivial) fun _ _ _ _ _ _ => trivial
theorem OrgP.lt (h : OrgP w o most each life S F) {k : Nat} (hk : F k) : k < w.heap.size := by
  obtain ⟨t, mb, im, bm, E, I, C, hq, _, rfl⟩ := h
  exact hq.lt hk
theorem OrgP.cells_ne (h : OrgP w o most each life S F) {k : Nat} (hk : F k) {cur : Array Value} {ty : TypeId} {f : Nat × Nat} : w.heap[k]? ≠ some (.cells cur ty f) := by
  obtain ⟨t, mb, im, bm, E, I, C, hq, _, rfl⟩ := h
  exact hq.cells_ne hk
theorem OrgP.kept {U : Nat → Prop} (h : OrgP w o most each life S F) (hk : Kept U w w') (h1 : ∀ k, F k → U k) (h2 : ∀ k cur ty f, w.heap[k]? = some (.cells cur ty f) → progTy ty → U k) : OrgP w' o most each life S F := by
  obtain ⟨t, mb, im, bm, E, I, C, hq, e, rfl⟩ := h
  exact ⟨t, mb, im, bm, E, I, C, hq.kept hk h1 h2, e, rfl⟩
theorem OrgP.of_new (h : OrgP w o most each life S F) (hb : Below w.heap.size w w') : OrgP w' o most each life S F := h.kept ((Kept.refl (fun _ => True) w).below hb) (fun _ _ => trivial) fun _ _ _ _ _ _ => trivial

/-- What a step does to memory: the origin's maps alone are written, those of the new one are among them or new. -/
structure OStep (F F' : Nat → Prop) (w w' : World) : Prop where
  kept : Kept (fun k => ¬ F k) w w'
  own : ∀ k, F' k → F k ∨ w.heap.size ≤ k
theorem OStep.refl (F : Nat → Prop) (w : World) : OStep F F w w := ⟨Kept.refl _ _, fun k h => .inl h⟩
theorem OStep.new {F F' : Nat → Prop} {w2 : World} (h : OStep F F' w w') (hb : Below w'.heap.size w' w2) : OStep F F' w w2 := ⟨h.kept.below hb, h.own⟩
theorem OStep.trans {F F1 F2 : Nat → Prop} {w w1 w2 : World} (h : OStep F F1 w w1) (k : OStep F1 F2 w1 w2) : OStep F F2 w w2 := by
  refine ⟨⟨k.kept.os.trans h.kept.os, k.kept.tape.trans h.kept.tape, k.kept.output.trans h.kept.output, Nat.le_trans h.kept.size k.kept.size, fun j hj hu => ?_⟩, fun j hj => ?_⟩
  · refine (k.kept.block j (Nat.lt_of_lt_of_le hj h.kept.size) fun hx => ?_).trans (h.kept.block j hj hu)
    rcases h.own j hx with h1 | h1
    · exact hu h1
    · omega
  · rcases k.own j hj with h1 | h1
    · exact h.own j h1
    · exact .inr (Nat.le_trans h.kept.size h1)
theorem OStep.of_below {F : Nat → Prop} {w2 : World} (hb : Below w.heap.size w w2) : OStep F F w w2 := (OStep.refl F w).new hb
/-- What lies below B stays, where all of the origin's maps lie from B on. -/
theorem OStep.below {F F' : Nat → Prop} {B : Nat} {w0 : World} (h : OStep F F' w w') (hb : Below B w0 w) (hB : B ≤ w.heap.size) (ho : ∀ k, F k → B ≤ k) : Below B w0 w' := h.kept.to_below hb hB fun k hk hx => by have := ho k hx; omega

/-- The table alone goes on. -/
theorem OrgQ.table {E' : EntL} (h : OrgQ w o t mb im bm most each life E I C) (hT : TabP w' t most each mb E') (hs : TabStep mb E E' w w') :
    OrgQ w' o t mb im bm most each life E' I C ∧ OStep (FootM mb im bm E) (FootM mb im bm E') w w' := by
  have hm : ∀ k, ¬ ¬ ownE mb E k → ∀ cur ty f, w.heap[k]? ≠ some (.cells cur ty f) := fun k hk cur ty f e => by
    obtain ⟨a, c, h1⟩ := ownE_obj h.tab (Classical.not_not.1 hk)
    rw [h1] at e; cases e
  have ne : ∀ {k : Nat} {cur : Array Value} {ty : TypeId} {f : Nat × Nat}, w.heap[k]? = some (.cells cur ty f) → w'.heap[k]? = w.heap[k]? := fun {k cur ty f} e => hs.kept.block k (Array.getElem?_eq_some_iff.1 e).1 fun hx => hm k (fun hn => hn hx) _ _ _ e
  have him := h.imgs.lt
  have hbm := h.blbs.lt
  refine ⟨⟨(ne h.org).trans h.org, hT, h.imgs.of_block (hs.kept.block im him h.apart.2.1), fun x hx => ⟨(h.irow x hx).1, ownsRow_maps (h.irow x hx).2 hs.kept hm⟩, h.blbs.of_block (hs.kept.block bm hbm h.apart.2.2), fun x hx => (h.crow x hx).maps hs.kept hm, h.apart.1, fun hx => ?_, fun hx => ?_⟩, ?_, ?_⟩
  · rcases hs.own _ hx with h1 | h1
    · exact h.apart.2.1 h1
    · omega
  · rcases hs.own _ hx with h1 | h1
    · exact h.apart.2.2 h1
    · omega
  · exact hs.kept.mono fun k _ hf hx => hf (.inr (.inr hx))
  · intro k hk
    rcases hk with rfl | rfl | hk
    · exact .inl (.inl rfl)
    · exact .inl (.inr (.inl rfl))
    · rcases hs.own k hk with h1 | h1
      · exact .inl (.inr (.inr h1))
      · exact .inr h1
/-- The images' map is written. -/
theorem OrgQ.set_imgs {I' : List ImgR} (h : OrgQ w o t mb im bm most each life E I C) (hm : MapL KDig w' im (I'.map outI)) (hg : w.grownBy w' (some im)) (hr : ∀ x ∈ I', RBlob.Own w 0 x.2.1 x.2.2) :
    OrgQ w' o t mb im bm most each life E I' C ∧ OStep (FootM mb im bm E) (FootM mb im bm E) w w' := by
  have hk : Kept (fun k => k ≠ im) w w' := (Kept.refl _ w).grown hg fun r e => by cases e; exact fun h => h rfl
  have hmm : ∀ k, ¬ (k ≠ im) → ∀ cur ty f, w.heap[k]? ≠ some (.cells cur ty f) := fun k hk cur ty f e => by
    obtain rfl : k = im := Classical.not_not.1 hk
    exact h.cells_ne (.inl rfl) e
  refine ⟨⟨(hg.block _ h.olt fun e => ?_).trans h.org, h.tab.kept hk (fun e => ?_) (fun k hf e => h.apart.2.1 (e ▸ hf)), hm, fun x hx => ⟨(hr x hx).1, ownsRow_maps (hr x hx).2 hk hmm⟩, h.blbs.of_block (hk.block bm h.blbs.lt fun e => h.apart.1 e.symm), fun x hx => (h.crow x hx).maps hk hmm, h.apart⟩,
    hk.mono fun k _ hf e => hf (.inl e), fun k hf => .inl hf⟩
  · cases e; exact hmm o (fun h => h rfl) _ _ _ h.org
  · subst e; exact hmm t (fun h => h rfl) _ _ _ h.tab.tab
/-- The contents' map is written. -/
theorem OrgQ.set_blbs {C' : List CntR} (h : OrgQ w o t mb im bm most each life E I C) (hm : MapL KDig w' bm (C'.map outC)) (hg : w.grownBy w' (some bm)) (hr : ∀ x ∈ C', ContP w 0 x.1 x.2) :
    OrgQ w' o t mb im bm most each life E I C' ∧ OStep (FootM mb im bm E) (FootM mb im bm E) w w' := by
  have hk : Kept (fun k => k ≠ bm) w w' := (Kept.refl _ w).grown hg fun r e => by cases e; exact fun h => h rfl
  have hmm : ∀ k, ¬ (k ≠ bm) → ∀ cur ty f, w.heap[k]? ≠ some (.cells cur ty f) := fun k hk cur ty f e => by
    obtain rfl : k = bm := Classical.not_not.1 hk
    exact h.cells_ne (.inr (.inl rfl)) e
  refine ⟨⟨(hg.block _ h.olt fun e => ?_).trans h.org, h.tab.kept hk (fun e => ?_) (fun k hf e => h.apart.2.2 (e ▸ hf)), h.imgs.of_block (hk.block im h.imgs.lt h.apart.1), fun x hx => ⟨(h.irow x hx).1, ownsRow_maps (h.irow x hx).2 hk hmm⟩, hm, fun x hx => (hr x hx).maps hk hmm, h.apart⟩,
    hk.mono fun k _ hf e => hf (.inr (.inl e)), fun k hf => .inl hf⟩
  · cases e; exact hmm o (fun h => h rfl) _ _ _ h.org
  · subst e; exact hmm t (fun h => h rfl) _ _ _ h.tab.tab
end

/-- The images' map looked into. -/
theorem getL_outI (I : List ImgR) (d : List UInt8) : getL (I.map outI) d = (I.find? fun x => decide (x.1 = d)).map (fun x => .agg #[x.2.1]) := by
  unfold getL
  rw [List.find?_map, Option.map_map]; rfl
theorem imgAt_outI {I : List ImgR} {C : List (BlobL × List UInt8)} {T : TabL} (d : List UInt8) : imgAt ⟨I.map plI, C, T⟩ d = (I.find? fun x => decide (x.1 = d)).map (·.2.2) := by
  unfold imgAt
  simp only [List.find?_map, Option.map_map]; rfl
theorem getL_outC (C : List CntR) (d : List UInt8) : getL (C.map outC) d = (C.find? fun x => decide (x.1.blob.dig = d)).map (fun x => RCont.V x.1) := by
  unfold getL
  rw [List.find?_map, Option.map_map]; rfl
theorem contIn_outC (C : List CntR) (d : List UInt8) : contIn (C.map plC) d = (C.find? fun x => decide (x.1.blob.dig = d)).map plC := by
  unfold contIn
  rw [List.find?_map]; rfl

theorem places_cont : ∃ (i : TypeInfo) (fs : Array Field), Tryz.prog.info? 99 = some i ∧ i.zero = some (.agg (RCont.cells RCont.zero).toArray) ∧ Tryz.prog.underlying 99 = some (.struct fs) ∧
    fs.toList.mapM (fun f => (Tryz.prog.info? f.type).map fun i => (f.offset, i.size)) = some [(0, 66), (66, 1), (67, 1)] := by
  have hz : (Tryz.prog.info? 99).map (·.zero) = some (some (.agg (RCont.cells RCont.zero).toArray)) := by kernel_rfl
  obtain ⟨i, hi, hz⟩ := Option.map_eq_some_iff.1 hz
  exact ⟨i, Tryz.prog.fieldsOf 99, hi, hz, by kernel_rfl, by kernel_rfl⟩
theorem run_build_cont (x : BlobL) (v u : Value) (hx : x.ok) (hv : v.cells = #[v]) (hu : u.cells = #[u]) (w : World) :
    (Instr.build 99 #[(0, BlobV x), (1, v), (2, u)]).run Tryz.prog w = .ok (RCont.V ⟨x, v, u⟩) w := by
  refine run_build w 99 _ _ ?_
  obtain ⟨i, fs, h1, h2, h3, h4⟩ := places_cont
  unfold Program.built
  rw [h1, h3]
  simp only [h2, h4]
  have e0 : (RCont.cells RCont.zero).toArray = ([] ++ (BlobL.zero.cells ++ [Value.slice none 0 0, Value.slice none 0 0])).toArray := rfl
  rw [show (Value.agg (RCont.cells RCont.zero).toArray).cells = (RCont.cells RCont.zero).toArray from rfl, e0]
  rw [fill_step [] BlobL.zero.cells x.cells _ (by first | rfl | simp) rfl rfl (by rw [BlobL.cells_len hx]; rfl)]
  rw [fill_step x.cells [Value.slice none 0 0] [v] [Value.slice none 0 0] (by first | rfl | simp) (by simp [BlobL.cells_len hx]) hv rfl]
  rw [fill_step (x.cells ++ [v]) [Value.slice none 0 0] [u] [] (by first | rfl | simp) (by simp [BlobL.cells_len hx]) hu rfl]
  simp [Instr.fill, RecT.V, RCont]

end Go.Proofs.YtnohglkilpnjhaaGreatDoor

/- What a look into an origin's maps yields. No condition. -/
namespace Go.Proofs.YtnohglkilpnjhaaGreatDoor
open Go.RowKit
set_option linter.unusedVariables false
set_option linter.unusedSimpArgs false
set_option maxRecDepth 100000

theorem zero_img (w : World) : (zeroValue 52).run Tryz.prog w = .ok (.agg #[.slice none 0 0]) w := RImg.zero_run w
theorem zero_cont (w : World) : (zeroValue 99).run Tryz.prog w = .ok (RCont.V ContV.zero) w := RCont.zero_run w
theorem contP_zero (w : World) : ContP w 0 ContV.zero [] := ⟨BlobL.zero_ok, Own8.nil _ _ _, (fun d hd => by cases hd), World.ownsRow_nil _ _ _ _⟩

section
variable {w : World} {o t mb im bm : Nat} {most each life : Int} {E : EntL} {I : List ImgR} {C : List CntR}

theorem OrgQ.look_img (h : OrgQ w o t mb im bm most each life E I C) {d : List UInt8} (h32 : d.length = 32) :
    ∃ v xs is, imgAt ⟨I.map plI, C.map plC, tabOf E⟩ d = (if is = true then some xs else none) ∧ RBlob.Own w 0 v xs ∧ (is = false → v = .slice none 0 0 ∧ xs = []) ∧
      ∀ w', Grew w w' → (Instr.lookup 88 (.map (some im)) (.agg (d.map B8).toArray) true).run Tryz.prog w' = .ok (.tuple #[.agg #[v], .bool is]) w' := by
  have hl := fun w' (hw : Grew w w') => (h.imgs.of_new hw).look_ok (t := 88) Tryz.underlying88 (zero_img w') (KT := KDig) (x := d) h32
  simp only [hasKey_get, getL_outI] at hl
  rw [imgAt_outI]
  cases e : I.find? (fun x => decide (x.1 = d)) with
  | none =>
    rw [e] at hl
    exact ⟨.slice none 0 0, [], false, rfl, RecT.Own.nil _ _, fun _ => ⟨rfl, rfl⟩, hl⟩
  | some x =>
    rw [e] at hl
    exact ⟨x.2.1, x.2.2, true, rfl, h.irow x (List.mem_of_find?_eq_some e), (fun h => by cases h), hl⟩
theorem OrgQ.look_cont (h : OrgQ w o t mb im bm most each life E I C) {d : List UInt8} (h32 : d.length = 32) :
    ∃ x b is, contIn (C.map plC) d = (if is = true then some (x.blob, b) else none) ∧ ContP w 0 x b ∧ (is = false → x = ContV.zero ∧ b = []) ∧
      (∀ w', Grew w w' → (Instr.lookup 89 (.map (some bm)) (.agg (d.map B8).toArray) true).run Tryz.prog w' = .ok (.tuple #[RCont.V x, .bool is]) w') ∧
      ∀ w', Grew w w' → (Instr.lookup 89 (.map (some bm)) (.agg (d.map B8).toArray) false).run Tryz.prog w' = .ok (RCont.V x) w' := by
  have hl := fun w' (hw : Grew w w') => (h.blbs.of_new hw).look_ok (t := 89) Tryz.underlying89 (zero_cont w') (KT := KDig) (x := d) h32
  have hl2 := fun w' (hw : Grew w w') => (h.blbs.of_new hw).look (t := 89) Tryz.underlying89 (zero_cont w') (KT := KDig) (x := d) h32
  simp only [hasKey_get, getL_outC] at hl hl2
  rw [contIn_outC]
  cases e : C.find? (fun x => decide (x.1.blob.dig = d)) with
  | none =>
    rw [e] at hl hl2
    exact ⟨ContV.zero, [], false, rfl, contP_zero w, fun _ => ⟨rfl, rfl⟩, hl, hl2⟩
  | some x =>
    rw [e] at hl hl2
    exact ⟨x.1, x.2, true, rfl, h.crow x (List.mem_of_find?_eq_some e), (fun h => by cases h), hl, hl2⟩
end

end Go.Proofs.YtnohglkilpnjhaaGreatDoor

/- The document's answer's origin as it lies in memory. No condition. -/
namespace Go.Proofs.YtnohglkilpnjhaaGreatDoor
open Go.RowKit
set_option linter.unusedVariables false
set_option linter.unusedSimpArgs false
set_option linter.unusedSectionVars false
set_option maxRecDepth 100000

/-- A name with its image's slice. -/
def RNamed : RecT 132 (List UInt8 × Value) where
  n := 33
  bytes := 56
  zero := (dig0, .slice none 0 0)
  cells := fun x => x.1.map B8 ++ [x.2]
  ok := fun x => x.1.length = 32 ∧ x.2.oneCell' = true
  pos := by decide
  small := by decide
  few := by decide
  zok := ⟨rfl, rfl⟩
  len := fun h => by simp [h.1]
  one := fun {x} h v hv => by
    rcases List.mem_append.1 hv with hv | hv
    · obtain ⟨b, _, rfl⟩ := List.mem_map.1 hv
      rfl
    · simp at hv; subst hv; exact h.2
  agg := ⟨_, Tryz.underlying132, rfl⟩
  info := by kernel_rfl
/-- A blob with its bytes' slice. -/
def RRB : RecT 135 (BlobL × Value) where
  n := 67
  bytes := 104
  zero := (BlobL.zero, .slice none 0 0)
  cells := fun x => x.1.cells ++ [x.2]
  ok := fun x => x.1.ok ∧ x.2.oneCell' = true
  pos := by decide
  small := by decide
  few := by decide
  zok := ⟨BlobL.zero_ok, rfl⟩
  len := fun h => by simp [BlobL.cells_len h.1]
  one := fun {x} h v hv => by
    rcases List.mem_append.1 hv with hv | hv
    · exact RBlob.one h.1 v hv
    · simp at hv; subst hv; exact h.2
  agg := ⟨_, Tryz.underlying135, rfl⟩
  info := by kernel_rfl

abbrev RCntR := (BlobL × Value) × List UInt8
def plN (x : ImgR) : List UInt8 × Value := (x.1, x.2.1)
def plR (x : RCntR) : BlobL × List UInt8 := (x.1.1, x.2)
/-- Block r is one. -/
structure ROrgQ (w : World) (r rt : Nat) (many most life : Int) (B : Nat) (v : Value) (L : RefL) (T : TabL) (vi vb : Value) (I : List ImgR) (C : List RCntR) : Prop where
  org : w.heap[r]? = some (.cells #[.pointer (some ⟨rt, 0, none⟩), .int .i64 life, vi, vb] 77 (0, 0))
  base : B ≤ r
  tab : RTabP w rt many most B v L T
  imgs : RNamed.Own w B vi (I.map plN)
  irow : ∀ x ∈ I, RBlob.Own w B x.2.1 x.2.2
  blbs : RRB.Own w B vb (C.map (·.1))
  brow : ∀ x ∈ C, Own8 w B 5 x.1.2 x.2
def ROrgP (w : World) (r : Nat) (many most life : Int) (B : Nat) (S : OrgL) : Prop :=
  ∃ rt v L T vi vb I C, ROrgQ w r rt many most life B v L T vi vb I C ∧ S = ⟨I.map plI, C.map plR, T⟩
/-- The types of its blocks that are written. -/
def refTy (ty : TypeId) : Prop := ty = 77 ∨ ty = 144 ∨ ty = 141 ∨ ty = 132 ∨ ty = 135
def RMut (B : Nat) (w : World) (k : Nat) : Prop := B ≤ k ∧ ∃ cur ty f, w.heap[k]? = some (.cells cur ty f) ∧ refTy ty
/-- What a step does to memory. -/
def RKept (B : Nat) (w w' : World) : Prop := Kept (fun k => ¬ RMut B w k) w w'

section
variable {w w' : World} {r rt : Nat} {many most life : Int} {B : Nat} {v : Value} {L : RefL} {T : TabL} {vi vb : Value} {I : List ImgR} {C : List RCntR} {S : OrgL}

theorem RKept.refl (B : Nat) (w : World) : RKept B w w := Kept.refl _ _
theorem RKept.trans {w1 w2 : World} (h : RKept B w w1) (k : RKept B w1 w2) : RKept B w w2 := by
  refine ⟨k.os.trans h.os, k.tape.trans h.tape, k.output.trans h.output, Nat.le_trans h.size k.size, fun j hj hu => ?_⟩
  have e := h.block j hj hu
  refine (k.block j (Nat.lt_of_lt_of_le hj h.size) fun hx => hu ?_).trans e
  obtain ⟨hb, cur, ty, f, e2, ht⟩ := hx
  exact ⟨hb, cur, ty, f, e.symm.trans e2, ht⟩
theorem RKept.new {w1 w2 : World} (h : RKept B w w1) (hb : Below w1.heap.size w1 w2) : RKept B w w2 := Kept.below h hb
theorem RKept.of_below (hb : Below w.heap.size w w') : RKept B w w' := (RKept.refl B w).new hb
theorem RKept.below {B0 : Nat} {w0 : World} (h : RKept B w w') (hb : Below B0 w0 w) (hB : B0 ≤ w.heap.size) (h0 : B0 ≤ B) : Below B0 w0 w' := Kept.to_below hb h hB fun k hk hx => by have := hx.1; omega
theorem RKept.of_block {k : Nat} {cur : Array Value} {ty : TypeId} {f : Nat × Nat} (hg : w.grownBy w' (some k)) (hb : B ≤ k) (he : w.heap[k]? = some (.cells cur ty f)) (ht : refTy ty) : RKept B w w' :=
  (Kept.refl _ w).grown hg fun r e => by cases e; exact fun h => h ⟨hb, cur, ty, f, he, ht⟩

theorem ROrgQ.cell (h : ROrgQ w r rt many most life B v L T vi vb I C) (j : Nat) : w.cell? ⟨r, j, none⟩ = #[Value.pointer (some ⟨rt, 0, none⟩), .int .i64 life, vi, vb][j]? := by simp only [World.cell?, h.org]; simp
theorem ROrgQ.cell0 (h : ROrgQ w r rt many most life B v L T vi vb I C) : w.cell? ⟨r, 0, none⟩ = some (.pointer (some ⟨rt, 0, none⟩)) := h.cell 0
theorem ROrgQ.cell1 (h : ROrgQ w r rt many most life B v L T vi vb I C) : w.cell? ⟨r, 1, none⟩ = some (.int .i64 life) := h.cell 1
theorem ROrgQ.cell2 (h : ROrgQ w r rt many most life B v L T vi vb I C) : w.cell? ⟨r, 2, none⟩ = some vi := h.cell 2
theorem ROrgQ.cell3 (h : ROrgQ w r rt many most life B v L T vi vb I C) : w.cell? ⟨r, 3, none⟩ = some vb := h.cell 3
theorem ROrgQ.free (h : ROrgQ w r rt many most life B v L T vi vb I C) (j : Nat) : w.frozen? ⟨r, j, none⟩ = false := by simp [World.frozen?, h.org]
theorem ROrgQ.kept {U : Nat → Prop} (h : ROrgQ w r rt many most life B v L T vi vb I C) (hk : Kept U w w') (hu : ∀ k cur ty f, w.heap[k]? = some (.cells cur ty f) → U k) : ROrgQ w' r rt many most life B v L T vi vb I C := by
  have hc : ∀ {k : Nat} {cur : Array Value} {ty : TypeId} {f : Nat × Nat}, w.heap[k]? = some (.cells cur ty f) → w'.heap[k]? = w.heap[k]? := fun e => hk.block _ (Array.getElem?_eq_some_iff.1 e).1 (hu _ _ _ _ e)
  have hr : ∀ {base : Nat} {e : TypeId} {size n : Nat} {v : Value} {xs : List Value}, w.ownsRow base e size v n xs → w'.ownsRow base e size v n xs := fun hr => ownsRow_same hr fun k hv => by
    obtain ⟨cur, e⟩ := ownsRow_block hr hv
    exact hc e
  refine ⟨(hc h.org).trans h.org, h.base, h.tab.kept hk (hu _ _ _ _ h.tab.tab) (fun k hv => ?_) (fun i x y hx hy k hv => ?_), ⟨h.imgs.1, hr h.imgs.2⟩, fun x hx => ⟨(h.irow x hx).1, hr (h.irow x hx).2⟩, ⟨h.blbs.1, hr h.blbs.2⟩, fun x hx => hr (h.brow x hx)⟩
  · obtain ⟨cur, e⟩ := ownsRow_block h.tab.own.2 hv
    exact hu _ _ _ _ e
  · obtain ⟨cur, e⟩ := ownsRow_block (h.tab.rows i x y hx hy).2 hv
    exact hu _ _ _ _ e
theorem ROrgQ.of_new (h : ROrgQ w r rt many most life B v L T vi vb I C) (hb : Below w.heap.size w w') : ROrgQ w' r rt many most life B v L T vi vb I C := h.kept ((Kept.refl (fun _ => True) w).below hb) fun _ _ _ _ _ => trivial
theorem ROrgP.of_new (h : ROrgP w r many most life B S) (hb : Below w.heap.size w w') : ROrgP w' r many most life B S := by
  obtain ⟨rt, v, L, T, vi, vb, I, C, hq, e⟩ := h
  exact ⟨rt, v, L, T, vi, vb, I, C, hq.of_new hb, e⟩
/-- The table alone goes on. -/
theorem ROrgQ.table {v2 : Value} {L2 : RefL} {T2 : TabL} (h : ROrgQ w r rt many most life B v L T vi vb I C) (hT : RTabP w' rt many most B v2 L2 T2) (hs : RStp rt v w w') :
    ROrgQ w' r rt many most life B v2 L2 T2 vi vb I C ∧ RKept B w w' := by
  have hty : ∀ {k : Nat} {cur : Array Value} {ty : TypeId} {f : Nat × Nat}, w.heap[k]? = some (.cells cur ty f) → ty ≠ 144 → ty ≠ 141 → w'.heap[k]? = w.heap[k]? := fun {k cur ty f} e h1 h2 => by
    refine hs.block k (Array.getElem?_eq_some_iff.1 e).1 ⟨fun e2 => ?_, fun e2 => ?_⟩
    · subst e2
      rw [h.tab.tab] at e
      cases e; exact h1 rfl
    · obtain ⟨cur2, e3⟩ := ownsRow_block h.tab.own.2 e2
      rw [e3] at e
      cases e; exact h2 rfl
  have hr : ∀ {base : Nat} {e : TypeId} {size n : Nat} {v : Value} {xs : List Value}, w.ownsRow base e size v n xs → e ≠ 144 → e ≠ 141 → w'.ownsRow base e size v n xs := fun hr h1 h2 => ownsRow_same hr fun k hv => by
    obtain ⟨cur, e⟩ := ownsRow_block hr hv
    exact hty e h1 h2
  refine ⟨⟨(hty h.org (by decide) (by decide)).trans h.org, h.base, hT, ⟨h.imgs.1, hr h.imgs.2 (by decide) (by decide)⟩, fun x hx => ⟨(h.irow x hx).1, hr (h.irow x hx).2 (by decide) (by decide)⟩, ⟨h.blbs.1, hr h.blbs.2 (by decide) (by decide)⟩, fun x hx => hr (h.brow x hx) (by decide) (by decide)⟩, ?_⟩
  refine Kept.mono hs fun k hk hx => ⟨fun e => hx ?_, fun e => hx ?_⟩
  · subst e
    exact ⟨h.tab.base, _, _, _, h.tab.tab, .inr (.inl rfl)⟩
  · obtain ⟨cur, e3⟩ := ownsRow_block h.tab.own.2 e
    exact ⟨(h.tab.own.lt k e).1, _, _, _, e3, .inr (.inr (.inl rfl))⟩
end

end Go.Proofs.YtnohglkilpnjhaaGreatDoor

/- The parts of an origin's records in memory. No condition. -/
namespace Go.Proofs.YtnohglkilpnjhaaGreatDoor
open Go.RowKit
set_option linter.unusedVariables false
set_option linter.unusedSimpArgs false
set_option maxRecDepth 100000

section
variable {w : World} {g off : Nat}
theorem RCont_blob {x : ContV} (h : RCont.At w g off x) : RBlob.At w g off x.blob := ⟨h.1.1, h.2.1, fun j hj => by
  have h1 := h.2.2 j (by show j < 68; have : j < 66 := hj; omega)
  rw [h1]
  show (x.blob.cells ++ [x.bytes, x.leaves])[j]? = _
  rw [List.getElem?_append_left (by rw [BlobL.cells_len h.1.1]; exact hj)]
  rfl⟩
theorem RCont_dig {x : ContV} (h : RCont.At w g off x) : DigAt w g off x.blob.dig := (RCont_blob h).dig5
theorem RCont_bytes {x : ContV} (h : RCont.At w g off x) : w.cell? ⟨g, off + 66, none⟩ = some x.bytes := by
  have h1 := h.2.2 66 (by show 66 < 68; omega)
  rw [h1]
  show (x.blob.cells ++ [x.bytes, x.leaves])[66]? = _
  rw [List.getElem?_append_right (by rw [BlobL.cells_len h.1.1]; omega)]
  simp [BlobL.cells_len h.1.1]
theorem RCont_leaves {x : ContV} (h : RCont.At w g off x) : w.cell? ⟨g, off + 67, none⟩ = some x.leaves := by
  have h1 := h.2.2 67 (by show 67 < 68; omega)
  rw [h1]
  show (x.blob.cells ++ [x.bytes, x.leaves])[67]? = _
  rw [List.getElem?_append_right (by rw [BlobL.cells_len h.1.1]; omega)]
  simp [BlobL.cells_len h.1.1]
end
end Go.Proofs.YtnohglkilpnjhaaGreatDoor

/- The walk of tracker.Expire. Condition: the table as it lies. -/
namespace Go.Proofs.YtnohglkilpnjhaaGreatDoor
open Go.RowKit
set_option linter.unusedVariables false
set_option linter.unusedSimpArgs false
set_option maxRecDepth 100000

/-- How memory stands in the midst of Expire: the table, and what is below n0 but its maps is as it was at w. -/
structure ExpSt (w : World) (t mb : Nat) (most each : Int) (E : EntL) (T' : TabL) (W : World) (E' : EntL) : Prop where
  tab : TabP W t most each mb E'
  is : tabOf E' = T'
  ok : EntOk most each E'
  kept : Kept (fun k => ¬ ownE mb E k) w W
  sub : ∀ k, ownE mb E' k → ownE mb E k
theorem ExpSt.new {w : World} {t mb : Nat} {most each : Int} {E : EntL} {T' : TabL} {W W' : World} {E' : EntL} (h : ExpSt w t mb most each E T' W E') (hb : Below W.heap.size W W') : ExpSt w t mb most each E T' W' E' :=
  ⟨h.tab.of_new hb, h.is, h.ok, h.kept.below hb, h.sub⟩
end Go.Proofs.YtnohglkilpnjhaaGreatDoor

/- The walks of an origin's Image, Content, Peers and Tick. Condition: the origin as it lies. -/
namespace Go.Proofs.YtnohglkilpnjhaaGreatDoor
open Go.RowKit
set_option linter.unusedVariables false
set_option linter.unusedSimpArgs false
set_option maxRecDepth 100000

theorem OrgQ.few {w : World} {o t mb im bm : Nat} {most each life : Int} {E : EntL} {I : List ImgR} {C : List CntR} (h : OrgQ w o t mb im bm most each life E I C) (hk : OrgOk most each ⟨I.map plI, C.map plC, tabOf E⟩) {d : List UInt8} {is : Bool} {xs : List BlobL}
    (hi : imgAt ⟨I.map plI, C.map plC, tabOf E⟩ d = if is = true then some xs else none) (hz : is = false → xs = []) : xs.length ≤ 16 := by
  cases is with
  | false => rw [hz rfl]; simp
  | true => exact (image_few (hk.imgs _ (imgAt_mem hi)).image).2
end Go.Proofs.YtnohglkilpnjhaaGreatDoor

/- Messages as the origin builds them. No condition. -/
namespace Go.Proofs.YtnohglkilpnjhaaGreatDoor
open Go.RowKit
set_option linter.unusedVariables false
set_option linter.unusedSimpArgs false
set_option maxRecDepth 100000

abbrev nilS : Value := .slice none 0 0
theorem places_msg : ∃ (i : TypeInfo) (fs : Array Field), Tryz.prog.info? 37 = some i ∧ i.zero = some (.agg (msgCells msgN sN).toArray) ∧ Tryz.prog.underlying 37 = some (.struct fs) ∧
    fs.toList.mapM (fun f => (Tryz.prog.info? f.type).map fun i => (f.offset, i.size)) = some [(0, 1), (1, 32), (33, 1), (34, 1), (35, 1), (36, 1), (37, 1), (38, 1)] := by
  have hz : (Tryz.prog.info? 37).map (·.zero) = some (some (.agg (msgCells msgN sN).toArray)) := by kernel_rfl
  obtain ⟨i, hi, hz⟩ := Option.map_eq_some_iff.1 hz
  exact ⟨i, Tryz.prog.fieldsOf 37, hi, hz, by kernel_rfl, by kernel_rfl⟩
theorem msgN_cells : (msgCells msgN sN).toArray = ([] ++ ([Value.int .i64 0] ++ (dig0.map B8 ++ [Value.int .i64 0, nilS, nilS, nilS, nilS, .bool false]))).toArray := rfl
/-- What all of them begin with. -/
theorem fill_head (k : Int) (d : List UInt8) (hd : d.length = 32) (rest : List (Nat × Value)) :
    Instr.fill (fun j => [(0, 1), (1, 32), (33, 1), (34, 1), (35, 1), (36, 1), (37, 1), (38, 1)][j]?) (msgCells msgN sN).toArray ((0, .int .i64 k) :: (1, .agg (d.map B8).toArray) :: rest) =
      Instr.fill (fun j => [(0, 1), (1, 32), (33, 1), (34, 1), (35, 1), (36, 1), (37, 1), (38, 1)][j]?) ((Value.int .i64 k :: d.map B8) ++ [Value.int .i64 0, nilS, nilS, nilS, nilS, .bool false]).toArray rest := by
  rw [msgN_cells]
  rw [fill_step [] [Value.int .i64 0] [.int .i64 k] (dig0.map B8 ++ [Value.int .i64 0, nilS, nilS, nilS, nilS, .bool false]) (by first | rfl | simp) rfl rfl rfl]
  rw [fill_step [Value.int .i64 k] (dig0.map B8) (d.map B8) [Value.int .i64 0, nilS, nilS, nilS, nilS, .bool false] (by first | rfl | simp) rfl rfl (by simp [hd, dig0])]
  rfl
theorem run_build_m1 (k : Int) (d : List UInt8) (hd : d.length = 32) (w : World) :
    (Instr.build 37 #[(0, .int .i64 k), (1, .agg (d.map B8).toArray)]).run Tryz.prog w = .ok (MsgV (mk0 k d) sN) w := by
  refine run_build w 37 _ _ ?_
  obtain ⟨i, fs, h1, h2, h3, h4⟩ := places_msg
  unfold Program.built
  rw [h1, h3]
  simp only [h2, h4]
  rw [show (Value.agg (msgCells msgN sN).toArray).cells = (msgCells msgN sN).toArray from rfl]
  erw [fill_head k d hd []]
  rfl
theorem run_build_m2 (k : Int) (d : List UInt8) (p : Int) (hd : d.length = 32) (w : World) :
    (Instr.build 37 #[(0, .int .i64 k), (1, .agg (d.map B8).toArray), (2, .int .i64 p)]).run Tryz.prog w = .ok (MsgV { mk0 k d with piece := p } sN) w := by
  refine run_build w 37 _ _ ?_
  obtain ⟨i, fs, h1, h2, h3, h4⟩ := places_msg
  unfold Program.built
  rw [h1, h3]
  simp only [h2, h4]
  rw [show (Value.agg (msgCells msgN sN).toArray).cells = (msgCells msgN sN).toArray from rfl]
  erw [fill_head k d hd [(2, .int .i64 p)]]
  rw [fill_step (Value.int .i64 k :: d.map B8) [.int .i64 0] [.int .i64 p] [nilS, nilS, nilS, nilS, .bool false] (by first | rfl | simp) (by simp [hd]) rfl rfl]
  simp [Instr.fill, MsgV, msgCells, mk0, sN]
theorem run_build_mB (k : Int) (d : List UInt8) (v : Value) (hd : d.length = 32) (hv : v.cells = #[v]) (b : List UInt8) (w : World) :
    (Instr.build 37 #[(0, .int .i64 k), (1, .agg (d.map B8).toArray), (4, v)]).run Tryz.prog w = .ok (MsgV { mk0 k d with bytes := b } { sN with vb := v }) w := by
  refine run_build w 37 _ _ ?_
  obtain ⟨i, fs, h1, h2, h3, h4⟩ := places_msg
  unfold Program.built
  rw [h1, h3]
  simp only [h2, h4]
  rw [show (Value.agg (msgCells msgN sN).toArray).cells = (msgCells msgN sN).toArray from rfl]
  erw [fill_head k d hd [(4, v)]]
  rw [fill_step ((Value.int .i64 k :: d.map B8) ++ [Value.int .i64 0, nilS]) [nilS] [v] [nilS, nilS, .bool false] (by first | rfl | simp) (by simp [hd]) hv rfl]
  simp [Instr.fill, MsgV, msgCells, mk0, sN]
theorem run_build_mI (k : Int) (d : List UInt8) (v : Value) (hd : d.length = 32) (hv : v.cells = #[v]) (l : List Int) (w : World) :
    (Instr.build 37 #[(0, .int .i64 k), (1, .agg (d.map B8).toArray), (3, v)]).run Tryz.prog w = .ok (MsgV { mk0 k d with ids := l } { sN with vi := v }) w := by
  refine run_build w 37 _ _ ?_
  obtain ⟨i, fs, h1, h2, h3, h4⟩ := places_msg
  unfold Program.built
  rw [h1, h3]
  simp only [h2, h4]
  rw [show (Value.agg (msgCells msgN sN).toArray).cells = (msgCells msgN sN).toArray from rfl]
  erw [fill_head k d hd [(3, v)]]
  rw [fill_step ((Value.int .i64 k :: d.map B8) ++ [.int .i64 0]) [nilS] [v] [nilS, nilS, nilS, .bool false] (by first | rfl | simp) (by simp [hd]) hv rfl]
  simp [Instr.fill, MsgV, msgCells, mk0, sN]
theorem run_build_mG (k : Int) (d : List UInt8) (p : Int) (v u : Value) (hd : d.length = 32) (hv : v.cells = #[v]) (hu : u.cells = #[u]) (b : List UInt8) (pr : List (List UInt8)) (w : World) :
    (Instr.build 37 #[(0, .int .i64 k), (1, .agg (d.map B8).toArray), (2, .int .i64 p), (4, v), (5, u)]).run Tryz.prog w = .ok (MsgV { mk0 k d with piece := p, bytes := b, proof := pr } { sN with vb := v, vp := u }) w := by
  refine run_build w 37 _ _ ?_
  obtain ⟨i, fs, h1, h2, h3, h4⟩ := places_msg
  unfold Program.built
  rw [h1, h3]
  simp only [h2, h4]
  rw [show (Value.agg (msgCells msgN sN).toArray).cells = (msgCells msgN sN).toArray from rfl]
  erw [fill_head k d hd [(2, .int .i64 p), (4, v), (5, u)]]
  rw [fill_step (Value.int .i64 k :: d.map B8) [.int .i64 0] [.int .i64 p] [nilS, nilS, nilS, nilS, .bool false] (by first | rfl | simp) (by simp [hd]) rfl rfl]
  rw [fill_step ((Value.int .i64 k :: d.map B8) ++ [.int .i64 p, nilS]) [nilS] [v] [nilS, nilS, .bool false] (by first | rfl | simp) (by simp [hd]) hv rfl]
  rw [fill_step ((Value.int .i64 k :: d.map B8) ++ [.int .i64 p, nilS, v]) [nilS] [u] [nilS, .bool false] (by first | rfl | simp) (by simp [hd]) hu rfl]
  simp [Instr.fill, MsgV, msgCells, mk0, sN]

/-- Their slices. -/
theorem msgR_0 (w : World) (k : Int) {d : List UInt8} (hd : d.length = 32) : MsgR w (mk0 k d) sN := ⟨hd, Row.of_nil 1, Row.of_nil 1, ⟨(fun d hd => by cases hd), Row.of_nil 32⟩, Row.of_nil 4⟩
theorem msgR_2 (w : World) (k p : Int) {d : List UInt8} (hd : d.length = 32) : MsgR w { mk0 k d with piece := p } sN := ⟨hd, Row.of_nil 1, Row.of_nil 1, ⟨(fun d hd => by cases hd), Row.of_nil 32⟩, Row.of_nil 4⟩
theorem msgR_B {w : World} (k : Int) {d b : List UInt8} {v : Value} (hd : d.length = 32) (h : Bytes w v b) : MsgR w { mk0 k d with bytes := b } { sN with vb := v } := ⟨hd, Row.of_nil 1, h, ⟨(fun d hd => by cases hd), Row.of_nil 32⟩, Row.of_nil 4⟩
theorem msgR_I {w : World} (k : Int) {d : List UInt8} {l : List Int} {v : Value} (hd : d.length = 32) (h : Ints w v l) : MsgR w { mk0 k d with ids := l } { sN with vi := v } := ⟨hd, h, Row.of_nil 1, ⟨(fun d hd => by cases hd), Row.of_nil 32⟩, Row.of_nil 4⟩
theorem msgR_G {w : World} (k p : Int) {d b : List UInt8} {pr : List (List UInt8)} {v u : Value} (hd : d.length = 32) (h : Bytes w v b) (h2 : Digs w u pr) : MsgR w { mk0 k d with piece := p, bytes := b, proof := pr } { sN with vb := v, vp := u } := ⟨hd, Row.of_nil 1, h, h2, Row.of_nil 4⟩

/-- A call's answer is a message. -/
def MsgPost (w : World) (m : MsgL) (e : Ending) (w' : World) : Prop := ∃ s, e = .returned (MsgV m s) ∧ MsgR w' m s ∧ Hi w.heap.size s ∧ Below w.heap.size w w'
theorem hi_sN (L : Nat) : Hi L sN := ⟨(fun k h => by cases h), (fun k h => by cases h), (fun k h => by cases h), (fun k h => by cases h)⟩
theorem Hi.mono {L L' : Nat} {s : MsgS} (h : Hi L s) (hl : L' ≤ L) : Hi L' s := ⟨fun k hk => Nat.le_trans hl (h.1 k hk), fun k hk => Nat.le_trans hl (h.2.1 k hk), fun k hk => Nat.le_trans hl (h.2.2.1 k hk), fun k hk => Nat.le_trans hl (h.2.2.2 k hk)⟩
theorem hi_B {L : Nat} {v : Value} (h : ∀ k, v.ownBlock = some k → L ≤ k) : Hi L { sN with vb := v } := ⟨(fun k h => by cases h), h, (fun k h => by cases h), (fun k h => by cases h)⟩
theorem hi_I {L : Nat} {v : Value} (h : ∀ k, v.ownBlock = some k → L ≤ k) : Hi L { sN with vi := v } := ⟨h, (fun k h => by cases h), (fun k h => by cases h), (fun k h => by cases h)⟩
theorem hi_G {L : Nat} {v u : Value} (h : ∀ k, v.ownBlock = some k → L ≤ k) (h2 : ∀ k, u.ownBlock = some k → L ≤ k) : Hi L { sN with vb := v, vp := u } := ⟨(fun k h => by cases h), h, h2, (fun k h => by cases h)⟩
theorem MsgR.keptHi {w w' : World} {m : MsgL} {s : MsgS} {L g : Nat} (h : MsgR w m s) (hi : Hi L s) (hg : w.grownBy w' (some g)) (hl : g < L) : MsgR w' m s :=
  ⟨h.hash, Row.of_kept h.ids hg (fun k hk e => by have := hi.1 k hk; cases e; omega), Row.of_kept h.bytes hg (fun k hk e => by have := hi.2.1 k hk; cases e; omega), ⟨h.proof.1, Row.of_kept h.proof.2 hg (fun k hk e => by have := hi.2.2.1 k hk; cases e; omega)⟩, Row.of_kept h.members hg (fun k hk e => by have := hi.2.2.2 k hk; cases e; omega)⟩

theorem results_msg1 {fn : Func} {p : Tmp} (h : fn.results = #[.cell p 37]) (tmps : Array Value) {w : World} {b : Nat} {m : MsgL} {s : MsgS} (hp : tmps.getD p undef = .pointer (some ⟨b, 0, none⟩))
    (hx : MsgO w b m s) : (results fn tmps).run Tryz.prog w = .ok (MsgV m s) w := results_cell h tmps hp (run_load_msg hx)
theorem results_msg3 {fn : Func} {p q r : Tmp} (h : fn.results = #[.cell p 37, .tmp q, .tmp r]) (tmps : Array Value) {w : World} {b : Nat} {m : MsgL} {s : MsgS} {u v : Value} (hp : tmps.getD p undef = .pointer (some ⟨b, 0, none⟩)) (hq : tmps.getD q undef = u) (hr : tmps.getD r undef = v)
    (hx : MsgO w b m s) : (results fn tmps).run Tryz.prog w = .ok (.tuple #[MsgV m s, u, v]) w := by
  have hp' : tmps[p]?.getD undef = .pointer (some ⟨b, 0, none⟩) := by simpa using hp
  have hq' : tmps[q]?.getD undef = u := by simpa using hq
  have hr' : tmps[r]?.getD undef = v := by simpa using hr
  simp [results, h, hp', hq', hr', asAddr, run_load_msg hx]

theorem wp_build_mG {w : World} {o : Oper} {a : Act} {K : Act → World → Prop} {Q : Exit → Act → World → Prop} {p0 p1 p2 p3 p4 : Operand} (k : Int) (d : List UInt8) (i : Int) (v u : Value) (b : List UInt8) (pr : List (List UInt8)) (hd : d.length = 32) (hv : v.cells = #[v]) (hu : u.cells = #[u])
    (ho : o.op = .build 37 #[(0, p0), (1, p1), (2, p2), (4, p3), (5, p4)]) (h0 : a.eval p0 = .int .i64 k) (h1 : a.eval p1 = .agg (d.map B8).toArray) (h2 : a.eval p2 = .int .i64 i) (h3 : a.eval p3 = v) (h4 : a.eval p4 = u)
    (hK : K (a.put o.dst (MsgV { mk0 k d with piece := i, bytes := b, proof := pr } { sN with vb := v, vp := u })) w) : o.wp Tryz.prog a w K Q := by
  refine wp_val ?_ hK
  have := run_build_mG k d i v u hd hv hu b pr w
  unfold execOp
  simp only [ho, List.map_toArray, List.map_cons, List.map_nil, h0, h1, h2, h3, h4, Sem.run_bind, this, Result.andThen_ok, Sem.run_pure]
theorem wp_build_mI {w : World} {o : Oper} {a : Act} {K : Act → World → Prop} {Q : Exit → Act → World → Prop} {p0 p1 p2 : Operand} (k : Int) (d : List UInt8) (v : Value) (l : List Int) (hd : d.length = 32) (hv : v.cells = #[v])
    (ho : o.op = .build 37 #[(0, p0), (1, p1), (3, p2)]) (h0 : a.eval p0 = .int .i64 k) (h1 : a.eval p1 = .agg (d.map B8).toArray) (h2 : a.eval p2 = v)
    (hK : K (a.put o.dst (MsgV { mk0 k d with ids := l } { sN with vi := v })) w) : o.wp Tryz.prog a w K Q := by
  refine wp_val ?_ hK
  have := run_build_mI k d v hd hv l w
  unfold execOp
  simp only [ho, List.map_toArray, List.map_cons, List.map_nil, h0, h1, h2, Sem.run_bind, this, Result.andThen_ok, Sem.run_pure]

theorem wp_build_m1 {w : World} {o : Oper} {a : Act} {K : Act → World → Prop} {Q : Exit → Act → World → Prop} {p0 p1 : Operand} (k : Int) (d : List UInt8) (hd : d.length = 32)
    (ho : o.op = .build 37 #[(0, p0), (1, p1)]) (h0 : a.eval p0 = .int .i64 k) (h1 : a.eval p1 = .agg (d.map B8).toArray) (hK : K (a.put o.dst (MsgV (mk0 k d) sN)) w) : o.wp Tryz.prog a w K Q := by
  refine wp_val ?_ hK
  have := run_build_m1 k d hd w
  unfold execOp
  simp only [ho, List.map_toArray, List.map_cons, List.map_nil, h0, h1, Sem.run_bind, this, Result.andThen_ok, Sem.run_pure]
theorem wp_build_m2 {w : World} {o : Oper} {a : Act} {K : Act → World → Prop} {Q : Exit → Act → World → Prop} {p0 p1 p2 : Operand} (k : Int) (d : List UInt8) (i : Int) (hd : d.length = 32)
    (ho : o.op = .build 37 #[(0, p0), (1, p1), (2, p2)]) (h0 : a.eval p0 = .int .i64 k) (h1 : a.eval p1 = .agg (d.map B8).toArray) (h2 : a.eval p2 = .int .i64 i) (hK : K (a.put o.dst (MsgV { mk0 k d with piece := i } sN)) w) : o.wp Tryz.prog a w K Q := by
  refine wp_val ?_ hK
  have := run_build_m2 k d i hd w
  unfold execOp
  simp only [ho, List.map_toArray, List.map_cons, List.map_nil, h0, h1, h2, Sem.run_bind, this, Result.andThen_ok, Sem.run_pure]
theorem wp_build_mB {w : World} {o : Oper} {a : Act} {K : Act → World → Prop} {Q : Exit → Act → World → Prop} {p0 p1 p2 : Operand} (k : Int) (d : List UInt8) (v : Value) (b : List UInt8) (hd : d.length = 32) (hv : v.cells = #[v])
    (ho : o.op = .build 37 #[(0, p0), (1, p1), (4, p2)]) (h0 : a.eval p0 = .int .i64 k) (h1 : a.eval p1 = .agg (d.map B8).toArray) (h2 : a.eval p2 = v) (hK : K (a.put o.dst (MsgV { mk0 k d with bytes := b } { sN with vb := v })) w) : o.wp Tryz.prog a w K Q := by
  refine wp_val ?_ hK
  have := run_build_mB k d v hd hv b w
  unfold execOp
  simp only [ho, List.map_toArray, List.map_cons, List.map_nil, h0, h1, h2, Sem.run_bind, this, Result.andThen_ok, Sem.run_pure]

end Go.Proofs.YtnohglkilpnjhaaGreatDoor

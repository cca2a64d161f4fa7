/- Texts of this claim, one behind the other: each begins with a comment that says what it proves and asks. -/
import Derived.Test.YtnohglkilpnjhaaGreatDoorRi13
import Derived.Below
import Derived.IntWalk
import Derived.Great.BuildSlice
/- What the document's answer's small functions on tables compute, in plain Lean: place, with, first, last, Announce's choice. No condition. -/
namespace Go.Proofs.YtnohglkilpnjhaaGreatDoor
set_option linter.unusedVariables false
set_option linter.unusedSimpArgs false

/-! ### place -/
structure PlaceT (T : TabL) (d : List UInt8) (i : Nat) (is : Bool) : Prop where
  le : i ≤ T.length
  low : ∀ x ∈ T.take i, kD x < (natL d : Int)
  yes : is = true → ∃ ps, T[i]? = some (d, ps)
  no : is = false → ∀ x ∈ T.drop i, (natL d : Int) < kD x
theorem split_at {α : Type} {T : List α} {i : Nat} {x : α} (h : T[i]? = some x) : T = T.take i ++ x :: T.drop (i + 1) := by
  have hlt : i < T.length := (List.getElem?_eq_some_iff.1 h).1
  have e : T[i]'hlt = x := (List.getElem?_eq_some_iff.1 h).2
  rw [← e, ← List.drop_eq_getElem_cons, List.take_append_drop]
theorem set_split {α : Type} {T : List α} {i : Nat} {x : α} (h : T[i]? = some x) (y : α) : T.set i y = T.take i ++ y :: T.drop (i + 1) := by
  have hlt : i < T.length := (List.getElem?_eq_some_iff.1 h).1
  rw [List.set_eq_take_append_cons_drop, if_pos hlt]
theorem PlaceT.is {T : TabL} {d : List UInt8} {i : Nat} (h : PlaceT T d i true) (hr : Rising kD T) :
    ∃ ps, T[i]? = some (d, ps) ∧ peersT d T = ps ∧ (∀ q, insK kD (d, q) T = T.set i (d, q)) ∧ delK kD (natL d) T = T.take i ++ T.drop (i + 1) ∧ getK kD (natL d) T = some (d, ps) := by
  obtain ⟨ps, hi⟩ := h.yes rfl
  have hs := split_at hi
  have hr2 := hr
  rw [hs] at hr2
  have hg : getK kD (natL d) T = some (d, ps) := (getK_some hr).2 ⟨List.mem_of_getElem? hi, rfl⟩
  refine ⟨ps, hi, ?_, fun q => ?_, ?_, hg⟩
  · unfold peersT; rw [hg]; rfl
  · have := insK_mid (f := kD) (x := (d, q)) hr2 rfl
    rw [← hs] at this
    rw [this, set_split hi]
  · have := delK_mid (f := kD) hr2
    rw [← hs] at this
    exact this
/-! ### with -/
/-! ### first, last -/
theorem pickL_snoc {α : Type} (goes : α → α → Bool) (l : List α) : ∀ (m y : α), pickL goes (l ++ [y]) m = if goes y (pickL goes l m) then y else pickL goes l m := by
  induction l with
  | nil => intro m y; rfl
  | cons x l ih => intro m y; exact ih _ y
theorem firstP_snoc {A : List PeerL} (h : A ≠ []) (y : PeerL) : firstP (A ++ [y]) = if goesP y (firstP A) then y else firstP A := by
  cases A with
  | nil => exact absurd rfl h
  | cons x A => exact pickL_snoc _ A x y
theorem firstT_snoc {A : TabL} (h : A ≠ []) (y : List UInt8 × List PeerL) : firstT (A ++ [y]) = if goesT y (firstT A) then y else firstT A := by
  cases A with
  | nil => exact absurd rfl h
  | cons x A => exact pickL_snoc _ A x y
/-- The first so far stands at a. -/
def AtP (l : List PeerL) (k a : Nat) : Prop := a < k ∧ k ≤ l.length ∧ l[a]? = some (firstP (l.take k))
theorem AtP.start {l : List PeerL} (h : 0 < l.length) : AtP l 1 0 := by
  cases l with
  | nil => simp at h
  | cons x l => exact ⟨by decide, by simp, rfl⟩
theorem take_snoc_at {α : Type} {l : List α} {k : Nat} {y : α} (hy : l[k]? = some y) : l.take (k + 1) = l.take k ++ [y] := by rw [List.take_add_one, hy]; rfl
theorem AtP.step {l : List PeerL} {k a : Nat} (h : AtP l k a) {x y : PeerL} (hx : l[a]? = some x) (hy : l[k]? = some y) :
    AtP l (k + 1) (if y.till < x.till ∨ (y.till = x.till ∧ x.id < y.id) then k else a) := by
  obtain ⟨h1, h2, h3⟩ := h
  have hk : k < l.length := (List.getElem?_eq_some_iff.1 hy).1
  have hx2 : firstP (l.take k) = x := by rw [hx] at h3; exact (Option.some.inj h3).symm
  have hne : l.take k ≠ [] := fun e => by have := congrArg List.length e; rw [List.length_take, List.length_nil] at this; omega
  have hf : firstP (l.take (k + 1)) = if y.till < x.till ∨ (y.till = x.till ∧ x.id < y.id) then y else x := by
    rw [take_snoc_at hy, firstP_snoc hne, hx2]
    by_cases hg : y.till < x.till ∨ (y.till = x.till ∧ x.id < y.id)
    · rw [if_pos hg, if_pos (by simp [goesP, goesK, hg])]
    · rw [if_neg hg, if_neg (by simp [goesP, goesK]; omega)]
  refine ⟨?_, by omega, ?_⟩
  · split <;> omega
  · rw [hf]
    split
    · exact hy
    · exact hx
theorem AtP.cut {l : List PeerL} {a : Nat} (h : AtP l l.length a) (hr : Rising PeerL.id l) : l.take a ++ l.drop (a + 1) = delK PeerL.id (firstP l).id l := by
  obtain ⟨h1, h2, h3⟩ := h
  rw [List.take_length] at h3
  have hs := split_at h3
  have hr2 := hr
  rw [hs] at hr2
  have := delK_mid hr2
  rw [← hs] at this
  exact this.symm
def AtT (T : TabL) (k a : Nat) : Prop := a < k ∧ k ≤ T.length ∧ T[a]? = some (firstT (T.take k))
theorem AtT.start {l : TabL} (h : 0 < l.length) : AtT l 1 0 := by
  cases l with
  | nil => simp at h
  | cons x l => exact ⟨by decide, by simp, rfl⟩
theorem AtT.step {T : TabL} (hr : Rising kD T) {k a : Nat} (h : AtT T k a) {x y : List UInt8 × List PeerL} (hx : T[a]? = some x) (hy : T[k]? = some y) :
    AtT T (k + 1) (if lastP y.2 ≤ lastP x.2 then k else a) := by
  obtain ⟨h1, h2, h3⟩ := h
  have hk : k < T.length := (List.getElem?_eq_some_iff.1 hy).1
  have hx2 : firstT (T.take k) = x := by rw [hx] at h3; exact (Option.some.inj h3).symm
  have hne : T.take k ≠ [] := fun e => by have := congrArg List.length e; rw [List.length_take, List.length_nil] at this; omega
  have hxy : kD x < kD y := by
    have hxt : x ∈ T.take k := by
      have : (T.take k)[a]? = some x := by rw [List.getElem?_take, if_pos h1]; exact hx
      exact List.mem_of_getElem? this
    rw [split_at hy] at hr
    exact hr.mid.1 x hxt
  have hf : firstT (T.take (k + 1)) = if lastP y.2 ≤ lastP x.2 then y else x := by
    rw [take_snoc_at hy, firstT_snoc hne, hx2]
    by_cases hg : lastP y.2 ≤ lastP x.2
    · rw [if_pos hg, if_pos (by simp [goesT, goesK]; omega)]
    · rw [if_neg hg, if_neg (by simp [goesT, goesK]; omega)]
  refine ⟨?_, by omega, ?_⟩
  · split <;> omega
  · rw [hf]
    split
    · exact hy
    · exact hx
theorem AtT.cut {T : TabL} {a : Nat} (h : AtT T T.length a) (hr : Rising kD T) : T.take a ++ T.drop (a + 1) = delK kD (kD (firstT T)) T := by
  obtain ⟨h1, h2, h3⟩ := h
  rw [List.take_length] at h3
  have hs := split_at h3
  have hr2 := hr
  rw [hs] at hr2
  have := delK_mid hr2
  rw [← hs] at this
  exact this.symm

end Go.Proofs.YtnohglkilpnjhaaGreatDoor

/- The walk of the document's answer's place. Condition: the table as it lies. -/
namespace Go.Proofs.YtnohglkilpnjhaaGreatDoor
open Go.RowKit
set_option linter.unusedVariables false
set_option linter.unusedSimpArgs false
set_option maxRecDepth 100000

theorem ROf_val {w : World} {g off : Nat} {x : List UInt8 × Value} (h : ROf.At w g off x) : w.cell? ⟨g, off + 32, none⟩ = some x.2 := by
  have h1 := h.2.2 32 (by show 32 < 33; omega)
  rw [h1]
  show (x.1.map B8 ++ [x.2])[32]? = _
  rw [List.getElem?_append_right (by simp [h.1.1])]
  simp [h.1.1]
theorem RTabP.fst {w : World} {r B : Nat} {many most : Int} {v : Value} {L : RefL} {T : TabL} (h : RTabP w r many most B v L T) {i : Nat} {x : List UInt8 × Value} {y : List UInt8 × List PeerL} (hx : L[i]? = some x) (hy : T[i]? = some y) : x.1 = y.1 := by
  have := congrArg (fun l => l[i]?) h.keys
  simpa [hx, hy] using this

end Go.Proofs.YtnohglkilpnjhaaGreatDoor

/- Regions that draw their order, in an order of one's own choosing: operations that only yield a value, in whatever places they stand, taken first; then some that keep to a class of worlds, one behind the other; then those that wait for all. No condition. -/
namespace Go.Proofs.YtnohglkilpnjhaaGreatDoor
open Go.RowKit
set_option linter.unusedVariables false
set_option linter.unusedSimpArgs false

/-- An operation that only yields a value. -/
def earlyOp2 (o : Oper) : Bool := o.guard.isNone && match o.op with
  | .move _ | .assign _ | .load .. | .indexAddr .. | .fieldAddr .. | .convert .. | .slice .. | .extract .. | .nilCheck _ | .binOp .. | .unOp .. | .build .. | .lookup .. | .field .. | .index .. => true
  | _ => false
theorem early_value2 {P : Program} {o : Oper} {ρ : Operand → Value} {w w' : World} {r : Next} (h : earlyOp2 o = true) (hr : (execOp ρ o).run P w = .ok r w') : ∃ u, r = .value u := by
  cases ho : earlyOp o with
  | true => exact early_value ho hr
  | false =>
    unfold earlyOp2 at h
    unfold earlyOp at ho
    unfold execOp at hr
    cases hop : o.op <;> simp [hop] at h ho <;> simp only [hop] at hr
    all_goals first
      | (rw [h] at ho; simp at ho; done)
      | exact only_value hr
      | (simp [Sem.run_pure] at hr; exact ⟨_, hr.1.symm⟩)

section
variable {ro : Option Nat} {m : Nat} {P : Program} {ops : Array Oper} {md : Region.Mode} {C : World → Prop} {D : Nat → Bool} {Q : Exit → Act → World → Prop}

theorem still_of_quiet2 {o : Oper} {v : Value} {a : Act} (he : earlyOp2 o = true) (hq : ∀ w, C w → o.quietAt P a C w v) : StillIn P ops C o v a := by
  have hg : o.guard = none := by
    unfold earlyOp2 at he
    simp only [Bool.and_eq_true, Option.isNone_iff_eq_none] at he
    exact he.1
  refine ⟨by simp [Region.wanted, hg], fun w hw => ?_⟩
  have h := hq w hw
  unfold Oper.quietAt at h
  cases hr : (execOp a.eval o).run P w with
  | ok r w' =>
    rw [hr] at h
    obtain ⟨u, rfl⟩ := early_value2 he hr
    simp only [Oper.quietUpon] at h
    rw [h.1, h.2]
  | halt x w' => rw [hr] at h; simp [Oper.quietUpon] at h

/-- The operations at these places. -/
def opsAt (l : List Oper) (is : List Nat) : List Oper := is.flatMap fun i => (l[i]?).toList
def listedI : List Nat → Array Bool → Array Bool
  | [], listed => listed
  | p :: ps, listed => listedI ps (listed.setIfInBounds p true)
def earlyI (md : Region.Mode) (ops : Array Oper) (D : Nat → Bool) : List Nat → Array Bool → Bool
  | [], _ => true
  | p :: ps, listed => (Region.ready md ops listed).contains p && Region.free md ops listed p && (match ops[p]? with | some o => earlyOp2 o | none => false) &&
      ((List.range ops.size).all fun j => !D j || waitsB md ops p ops.size j) && earlyI md ops D ps (listed.setIfInBounds p true)
def seqI (md : Region.Mode) (ops : Array Oper) : List Nat → Array Bool → Bool
  | [], listed => decide (Region.ready md ops listed = [])
  | p :: ps, listed => decide (Region.ready md ops listed = [p]) && seqI md ops ps (listed.setIfInBounds p true)

theorem opsAt_cons {l : List Oper} {p : Nat} {ps : List Nat} {o : Oper} (h : l[p]? = some o) : opsAt l (p :: ps) = o :: opsAt l ps := by
  unfold opsAt
  rw [List.flatMap_cons, h]
  rfl

/-- The early operations, one by one. -/
theorem wpAnyS_earlyI (hnd : noDefer ops = true) (hsel : Region.noSelect ops = true) (hQ : ∀ c (a : Act) (d : Option Tmp) (v : Value) w, Q (.panic c) (a.put d v) w → Q (.panic c) a w) (hD : ∀ j, ops.size ≤ j → D j = false) {R : Act → Prop} {g : Nat} (ps : List Nat) :
    ∀ (listed : Array Bool) (a : Act) (w : World), listed.size = ops.size → ClosedL md ops listed → C w → earlyI md ops D ps listed = true →
      wpQuiet P ops C R (opsAt ops.toList ps) a → (∀ a' w, C w → R a' → wpAnyS ro m P md ops C D Q g (listedI ps listed) a' w) → wpAnyS ro m P md ops C D Q (ps.length + g) listed a w := by
  induction ps with
  | nil =>
    intro listed a w _ _ hC _ h hL
    rw [List.length_nil, Nat.zero_add]
    exact hL a w hC h
  | cons p ps ih =>
    intro listed a w hsz hcl hC hB h hL
    simp only [earlyI, Bool.and_eq_true] at hB
    obtain ⟨⟨⟨⟨hr, hf⟩, he⟩, hw⟩, hB⟩ := hB
    have hr' : p ∈ Region.ready md ops listed := by simpa using hr
    obtain ⟨o, h0⟩ : ∃ o, ops[p]? = some o := by
      cases q : ops[p]? with
      | some o => exact ⟨o, rfl⟩
      | none => rw [q] at he; cases he
    rw [h0] at he
    rw [opsAt_cons (o := o) (by simpa using h0)] at h
    have hg : o.guard = none := by
      have := he
      unfold earlyOp2 at this
      simp only [Bool.and_eq_true, Option.isNone_iff_eq_none] at this
      exact this.1
    have hq : o.quiet P a C (wpQuiet P ops C R (opsAt ops.toList ps)) := by
      have h' : if Region.wanted o (yielded ops a.tmps) then o.quiet P a C (wpQuiet P ops C R (opsAt ops.toList ps)) else wpQuiet P ops C R (opsAt ops.toList ps) (a.put o.dst undef) := h
      rwa [if_pos (by simp [Region.wanted, hg])] at h'
    obtain ⟨v, hv, hK⟩ := hq
    have hDi : ∀ j, D j = true → WaitsT md ops p j := fun j hj => by
      have hjs : j < ops.size := by
        rcases Nat.lt_or_ge j ops.size with h | h
        · exact h
        · rw [hD j h] at hj; cases hj
      have := List.all_eq_true.1 hw j (List.mem_range.2 hjs)
      simp only [hj, Bool.not_true, Bool.false_or] at this
      exact waitsB_spec _ _ this
    rw [List.length_cons, show ps.length + 1 + g = (ps.length + g) + 1 by omega]
    refine wpAnyS_take hnd h0 (Region.noSelect_spec hsel) hQ hDi (ps.length + g) listed a w hsz hcl (Region.free_spec h0 hf) hr' (still_of_quiet2 he hv) hC ?_
    exact ih _ _ w (by simpa using hsz) (hcl.set hr' hsz) hC hB hK hL

theorem ready_get {p : Nat} {listed : Array Bool} (h : Region.ready md ops listed = [p]) : ∃ o, ops[p]? = some o := by
  obtain ⟨_, o, ho, _⟩ := mem_ready.1 (show p ∈ Region.ready md ops listed by rw [h]; simp)
  exact ⟨o, ho⟩

/-- Those behind them, in one order. -/
theorem wpAnyS_restI (hD : ∀ j, D j = true → True) : ∀ (rests : List Nat) (listed : Array Bool) (a : Act) (w : World), (∀ j ∈ rests, D j = true) → seqI md ops rests listed = true →
    wpListIn (WF ro) m P ops Q (opsAt ops.toList rests) a w → wpAnyS ro m P md ops C D Q rests.length listed a w
  | [], listed, a, w, _, hB, h => ⟨by simpa [seqI] using hB, h⟩
  | p :: ps, listed, a, w, hd, hB, h => by
    simp only [seqI, Bool.and_eq_true, decide_eq_true_eq] at hB
    obtain ⟨o, h0⟩ := ready_get hB.1
    rw [opsAt_cons (o := o) (by simpa using h0)] at h
    refine ⟨fun h1 => (by rw [hB.1] at h1; cases h1), fun i hi => ?_⟩
    rw [hB.1] at hi
    obtain rfl : i = p := by simpa using hi
    have hdi : D i = true := hd i (by simp)
    have hrec := fun a' w' h' => wpAnyS_restI hD ps (listed.setIfInBounds i true) a' w' (fun j hj => hd j (by simp [hj])) hB.2 h'
    unfold wpOpIn
    simp only [h0]
    unfold wpListIn at h
    split
    · rename_i hq
      rw [if_pos hq] at h
      exact Oper.wpIn_mono (fun a' w' h' => ⟨fun e => (by rw [hdi] at e; cases e), hrec a' w' h'⟩) h
    · rename_i hq
      rw [if_neg hq] at h
      exact ⟨fun _ _ => trivial, fun e => (by rw [hdi] at e; cases e), hrec _ w h.2⟩
theorem wpAnyS_lateI (hnd : noDefer ops = true) : ∀ (mids rests : List Nat) (listed : Array Bool) (a : Act) (w : World), (∀ j ∈ rests, D j = true) → seqI md ops (mids ++ rests) listed = true → C w →
    LateL ro m P ops C Q (opsAt ops.toList mids) (opsAt ops.toList rests) a w → wpAnyS ro m P md ops C D Q (mids.length + rests.length) listed a w
  | [], rests, listed, a, w, hd, hB, hC, h => by
    rw [List.length_nil, Nat.zero_add]
    exact wpAnyS_restI (fun _ _ => trivial) rests listed a w hd hB h
  | p :: ps, rests, listed, a, w, hd, hB, hC, h => by
    simp only [List.cons_append, seqI, Bool.and_eq_true, decide_eq_true_eq] at hB
    obtain ⟨o, h0⟩ := ready_get hB.1
    rw [opsAt_cons (o := o) (by simpa using h0)] at h
    rw [List.length_cons, show ps.length + 1 + rests.length = (ps.length + rests.length) + 1 by omega]
    refine ⟨fun h1 => (by rw [hB.1] at h1; cases h1), fun i hi => ?_⟩
    rw [hB.1] at hi
    obtain rfl : i = p := by simpa using hi
    have hrec := fun a' w' hC' h' => wpAnyS_lateI hnd ps rests (listed.setIfInBounds i true) a' w' hd hB.2 hC' h'
    unfold wpOpIn
    simp only [h0]
    unfold LateL at h
    split
    · rename_i hq
      rw [if_pos hq] at h
      exact wpIn_of_wp (noDefer_spec hnd h0) (Oper.wp_mono (fun a' w' h' => ⟨fun _ => h'.1, hrec a' w' h'.1 h'.2⟩) h)
    · rename_i hq
      rw [if_neg hq] at h
      exact ⟨fun _ _ => trivial, fun _ => hC, hrec _ w hC h⟩

def mixB (l : List Oper) (hs ts1 ts2 : List Nat) : Bool :=
  Region.noSelect l.toArray && noDefer l.toArray && decide (hs.length + (ts1.length + ts2.length) = l.length) && (ts2.all fun j => decide (j < l.length)) &&
    earlyI .any l.toArray (fun j => ts2.contains j) hs (Array.replicate l.length false) && seqI .any l.toArray (ts1 ++ ts2) (listedI hs (Array.replicate l.length false))
/-- THE REGION: hs only yield values; ts1 keep to the class; ts2 wait for all of hs. -/
theorem wpIn_region_mix {id : Nat} {a : Act} {w : World} {l : List Oper} (hs ts1 ts2 : List Nat) (hm : P.follows .mixedOrders = true) (hB : mixB l hs ts1 ts2 = true)
    (hC : C { w with drawn := w.drawn + 1 }) (hQ : ∀ c (a : Act) (d : Option Tmp) (v : Value) w, Q (.panic c) (a.put d v) w → Q (.panic c) a w)
    (h : wpQuiet P l.toArray C (fun a' => ∀ w', C w' → LateL ro m P l.toArray C Q (opsAt l ts1) (opsAt l ts2) a' w') (opsAt l hs) a) :
    (Code.region id l.toArray true).wpIn (WF ro) m P Q a w := by
  simp only [mixB, Bool.and_eq_true, decide_eq_true_eq] at hB
  obtain ⟨⟨⟨⟨⟨hsel, hnd⟩, hlen⟩, hlt⟩, hearly⟩, hseq⟩ := hB
  have hsz : l.toArray.size = l.length := by simp
  refine wpIn_region_any hm ?_
  rw [hsz, ← hlen]
  refine wpAnyS_any (C := C) (D := fun j => ts2.contains j) _ _ _ _ ?_
  refine wpAnyS_earlyI (R := fun a' => ∀ w', C w' → LateL ro m P l.toArray C Q (opsAt l ts1) (opsAt l ts2) a' w') hnd hsel hQ (fun j hj => ?_) hs (Array.replicate (hs.length + (ts1.length + ts2.length)) false) a _ (by simp [hlen]) (fun j oj _ hl => (by rw [getD_replicate_false] at hl; cases hl)) hC (by rw [hlen]; exact hearly) h (fun a' w' hw' hR => ?_)
  · cases hc : ts2.contains j with
    | false => rfl
    | true =>
      have := List.all_eq_true.1 hlt j (by simpa using hc)
      simp only [decide_eq_true_eq] at this
      omega
  · exact wpAnyS_lateI hnd ts1 ts2 _ a' w' (fun j hj => by simpa using hj) (by rw [hlen]; exact hseq) hw' (hR w' hw')
end

end Go.Proofs.YtnohglkilpnjhaaGreatDoor

/- The walks of the document's answer's cutPeer and cut. Condition: the place is one of the list's. -/
namespace Go.Proofs.YtnohglkilpnjhaaGreatDoor
open Go.RowKit
set_option linter.unusedVariables false
set_option linter.unusedSimpArgs false
set_option maxRecDepth 100000

section
variable {e se : TypeId} {α : Type} {R : RecT e α} {w : World}
end

/-- What a table's block holds when its blobs are others. -/
theorem RTabP.put {w w' W : World} {r B : Nat} {many most : Int} {v v' : Value} {L L' : RefL} {T T' : TabL} (h : RTabP w r many most B v L T) (hw : Below w.heap.size w w') (ho : ROf.Own w' w.heap.size v' L') (hk : L'.map (·.1) = T'.map (·.1))
    (hr : ∀ (i : Nat) (x : List UInt8 × Value) (y : List UInt8 × List PeerL), L'[i]? = some x → T'[i]? = some y → RPeer.Own w' B x.2 y.2) (hW : W = w'.setCell ⟨r, 2, none⟩ v') : RTabP W r many most B v' L' T' ∧ RStp r v w W := by
  have hlt := h.lt
  have hBr := h.base
  have hr1 : w'.heap[r]? = some (.cells #[.int .i64 many, .int .i64 most, v] 144 (0, 0)) := (hw.block _ hlt).trans h.tab
  have hoth : ∀ k, k ≠ r → W.heap[k]? = w'.heap[k]? := fun k hk => by subst hW; exact Below.heap_setCell _ _ _ _ hk
  refine ⟨⟨?_, h.base, (ho.kept fun k e => hoth k (fun q => ?_)).mono (by omega), hk, fun i x y hx hy => (hr i x y hx hy).kept fun k e => hoth k (fun q => ?_)⟩, ?_⟩
  · subst hW
    obtain ⟨hl, hkk⟩ := Array.getElem?_eq_some_iff.1 hr1
    show (w'.heap.modify r _)[r]? = _
    rw [Array.getElem?_eq_getElem (by rw [Array.size_modify]; exact hl), Array.getElem_modify_self, hkk]
    rfl
  · have := (ho.lt k e).1; omega
  · subst q
    obtain ⟨cur, h1⟩ := (hr i x y hx hy).block e
    rw [hr1] at h1; cases h1
  · have h1 : Kept (fun k => k ≠ r ∧ v.ownBlock ≠ some k) w w' := (Kept.refl _ w).below hw
    refine ⟨?_, ?_, ?_, ?_, fun k hk hu => ?_⟩
    · subst hW; exact h1.os
    · subst hW; exact h1.tape
    · subst hW; exact h1.output
    · subst hW; simpa using h1.size
    · exact (hoth k hu.1).trans (h1.block k hk hu)

end Go.Proofs.YtnohglkilpnjhaaGreatDoor

/- How memory stands in the midst of a call on the document's answer's table; its entries' literals. No condition. -/
namespace Go.Proofs.YtnohglkilpnjhaaGreatDoor
open Go.RowKit
set_option linter.unusedVariables false
set_option linter.unusedSimpArgs false
set_option linter.unusedSectionVars false
set_option maxRecDepth 100000

/-- In the midst of a call: the table, what was written. -/
structure RSt (w : World) (r : Nat) (many most : Int) (B : Nat) (v : Value) (W : World) (v1 : Value) (L1 : RefL) (T1 : TabL) : Prop where
  tab : RTabP W r many most B v1 L1 T1
  step : RStp r v w W
  own : ∀ k, v1.ownBlock = some k → v.ownBlock = some k ∨ w.heap.size ≤ k
section
variable {w W W' : World} {r B : Nat} {many most : Int} {v v1 v2 : Value} {L L1 L2 : RefL} {T T1 T2 : TabL}
theorem RSt.start (h : RTabP w r many most B v L T) : RSt w r many most B v w v L T := ⟨h, Kept.refl _ _, fun k e => .inl e⟩
theorem RSt.new (h : RSt w r many most B v W v1 L1 T1) (hb : Below W.heap.size W W') : RSt w r many most B v W' v1 L1 T1 := ⟨h.tab.of_new hb, Kept.below h.step hb, h.own⟩
theorem RSt.next (h : RSt w r many most B v W v1 L1 T1) (ht : RTabP W' r many most B v2 L2 T2) (hs : RStp r v1 W W') (ho : ∀ k, v2.ownBlock = some k → v1.ownBlock = some k ∨ W.heap.size ≤ k) : RSt w r many most B v W' v2 L2 T2 := by
  refine ⟨ht, ⟨hs.os.trans h.step.os, hs.tape.trans h.step.tape, hs.output.trans h.step.output, Nat.le_trans h.step.size hs.size, fun k hk hu => ?_⟩, fun k e => ?_⟩
  · refine (hs.block k (Nat.lt_of_lt_of_le hk h.step.size) ⟨hu.1, fun e => ?_⟩).trans (h.step.block k hk hu)
    rcases h.own k e with h1 | h1
    · exact hu.2 h1
    · omega
  · rcases ho k e with h1 | h1
    · exact h.own k h1
    · exact .inr (Nat.le_trans h.step.size h1)
/-- The blobs are others. -/
theorem RSt.put (h : RSt w r many most B v W v1 L1 T1) (hw : Below W.heap.size W W') {v2 : Value} {L2 : RefL} {T2 : TabL} (ho : ROf.Own W' W.heap.size v2 L2) (hk : L2.map (·.1) = T2.map (·.1))
    (hr : ∀ (i : Nat) (x : List UInt8 × Value) (y : List UInt8 × List PeerL), L2[i]? = some x → T2[i]? = some y → RPeer.Own W' B x.2 y.2) : RSt w r many most B v (W'.setCell ⟨r, 2, none⟩ v2) v2 L2 T2 := by
  obtain ⟨h1, h2⟩ := h.tab.put hw ho hk hr rfl
  exact h.next h1 h2 fun k e => .inr (ho.lt k e).1
/-- One entry's peers are others. -/
theorem RSt.set {g1 n1 c1 i : Nat} {d : List UInt8} {u0 u : Value} {ps q : List PeerL} (h : RSt w r many most B v W (.slice (some ⟨g1, 0, none⟩) n1 c1) L1 T1) (hi : L1[i]? = some (d, u0)) (hT : T1[i]? = some (d, ps)) (hu : RPeer.Own W B u q) :
    RSt w r many most B v (W.setCell ⟨g1, i * 33 + 32, none⟩ u) (.slice (some ⟨g1, 0, none⟩) n1 c1) (L1.set i (d, u)) (T1.set i (d, q)) := by
  obtain ⟨ho, hg⟩ := ROf.set h.tab.own (u := u) hi hu.one
  obtain ⟨cur, hcur⟩ := h.tab.own.block (k := g1) rfl
  have hoth : ∀ k, k ≠ g1 → (W.setCell ⟨g1, i * 33 + 32, none⟩ u).heap[k]? = W.heap[k]? := fun k hk => Below.heap_setCell _ _ _ _ hk
  have hne : ∀ {x : Value} {y : List PeerL}, RPeer.Own W B x y → RPeer.Own (W.setCell ⟨g1, i * 33 + 32, none⟩ u) B x y := fun {x y} hx => hx.kept fun k e => hoth k fun q => by
    subst q
    obtain ⟨cur2, h2⟩ := hx.block e
    rw [hcur] at h2; cases h2
  refine h.next ⟨(hoth r (h.tab.ne rfl).symm).trans h.tab.tab, h.tab.base, ho, ?_, fun j x y hx hy => ?_⟩ ⟨rfl, rfl, rfl, by simp, fun k hk hu2 => hoth k fun q => hu2.2 (by rw [q]; rfl)⟩ (fun k e => .inl e)
  · rw [List.map_set, List.map_set, h.tab.keys]
  · by_cases hj : i = j
    · subst hj
      have hil : i < L1.length := (List.getElem?_eq_some_iff.1 hi).1
      have hil2 : i < T1.length := (List.getElem?_eq_some_iff.1 hT).1
      rw [List.getElem?_set_self hil] at hx
      rw [List.getElem?_set_self hil2] at hy
      cases hx; cases hy
      exact hne hu
    · rw [List.getElem?_set_ne hj] at hx hy
      exact hne (h.tab.rows j x y hx hy)
theorem RTabP.val (h : RTabP w r many most B v1 L1 T1) {i : Nat} {d : List UInt8} {ps : List PeerL} (hi : T1[i]? = some (d, ps)) : ∃ u, L1[i]? = some (d, u) ∧ RPeer.Own w B u ps := by
  have hl : i < L1.length := by rw [h.len]; exact (List.getElem?_eq_some_iff.1 hi).1
  obtain ⟨x, hx⟩ : ∃ x, L1[i]? = some x := ⟨_, List.getElem?_eq_getElem hl⟩
  have h1 := h.fst hx hi
  obtain ⟨xd, xv⟩ := x
  cases h1
  exact ⟨xv, hx, h.rows i _ _ hx hi⟩
/-- Its slice's form, an entry's place. -/
theorem RTabP.form (h : RTabP w r many most B v1 L1 T1) (h0 : 0 < T1.length) : ∃ g c, v1 = .slice (some ⟨g, 0, none⟩) T1.length c ∧ B ≤ g ∧ g < w.heap.size ∧ g ≠ r ∧ (∀ j, w.frozen? ⟨g, j, none⟩ = false) ∧ ∀ i x, L1[i]? = some x → ROf.At w g (i * 33) x := by
  obtain ⟨g, c, hv, h1, h2⟩ := h.own.form (by rw [h.len]; exact h0)
  rw [h.len] at hv
  obtain ⟨cur, hcur⟩ := h.own.block (k := g) (by rw [hv]; rfl)
  refine ⟨g, c, hv, h1, h2, h.ne (by rw [hv]; rfl), fun j => by simp [World.frozen?, hcur], fun i x hx => ?_⟩
  obtain ⟨b, off, c', hv2, _, hat⟩ := h.own.row.at_ (by rw [h.len]; exact h0)
  rw [hv] at hv2
  have hq := (Value.slice.inj hv2).1
  cases hq
  have := hat i x hx
  rwa [Nat.zero_add] at this
theorem RTabP.entry {g n c i : Nat} {d : List UInt8} {ps : List PeerL} (h : RTabP w r many most B (.slice (some ⟨g, 0, none⟩) n c) L1 T1) (hi : T1[i]? = some (d, ps)) :
    ∃ a k, L1[i]? = some (d, .slice a ps.length k) ∧ RPeer.Own w B (.slice a ps.length k) ps ∧ w.cell? ⟨g, i * 33 + 32, none⟩ = some (.slice a ps.length k) ∧ w.frozen? ⟨g, i * 33 + 32, none⟩ = false ∧ i < n ∧ n = T1.length := by
  obtain ⟨u, hu, hrow⟩ := h.val hi
  obtain ⟨a, k, hv⟩ := hrow.row.len
  subst hv
  have hil : i < T1.length := (List.getElem?_eq_some_iff.1 hi).1
  obtain ⟨g', c', hv', _, _, _, hfz, hat⟩ := h.form (by omega)
  have e1 := (Value.slice.inj hv').1
  have e2 := (Value.slice.inj hv').2.1
  cases e1
  exact ⟨a, k, hu, hrow, ROf_val (hat i _ hu), hfz _, by omega, e2⟩
end
end Go.Proofs.YtnohglkilpnjhaaGreatDoor

/- Regions that draw their order, as XRegionMix; beside these, operations that read no memory ('x, is := m[k]': the second extract may come behind the first one's store), taken ahead of the late ones. No condition. -/
namespace Go.Proofs.YtnohglkilpnjhaaGreatDoor
open Go.RowKit
set_option linter.unusedVariables false
set_option linter.unusedSimpArgs false

section
variable {ro : Option Nat} {m : Nat} {P : Program} {ops : Array Oper} {md : Region.Mode} {C : World → Prop} {D : Nat → Bool} {Q : Exit → Act → World → Prop}

/-- An operation that reads no memory may be taken first, whatever comes. -/
theorem wpAnyS_takeP {i : Nat} {oi : Oper} {v : Value} (hnd : noDefer ops = true) (hi : ops[i]? = some oi) (hsel : ∀ (j : Nat) (o : Oper) cs b, ops[j]? = some o → o.op ≠ .select cs b)
    (hQ : ∀ c (a : Act) (d : Option Tmp) (v : Value) w, Q (.panic c) (a.put d v) w → Q (.panic c) a w) (hDi : D i = true) :
    ∀ (fuel : Nat) (listed : Array Bool) (a : Act) (w : World),
      (∀ j oj, ops[j]? = some oj → j ≠ i → listed.getD j true = false → (∀ e ∈ oj.after, Region.binds md e = true → e.on ≠ i) → oi.apart ops oj = true) →
      i ∈ Region.ready md ops listed → StillIn P ops (fun _ => True) oi v a →
      wpAnyS ro m P md ops C D Q fuel (listed.setIfInBounds i true) (a.put oi.dst v) w → wpAnyS ro m P md ops C D Q (fuel + 1) listed a w := by
  intro fuel
  induction fuel with
  | zero =>
    intro listed a w _ hr hy H
    refine ⟨fun h => (by rw [h] at hr; cases hr), fun j hj => ?_⟩
    by_cases hji : j = i
    · subst hji; exact hy.wpOpIn hnd hi trivial ⟨fun h => (by rw [hDi] at h; cases h), H⟩
    · have := ready_mono hj hji
      rw [H.1] at this
      cases this
  | succ fuel ih =>
    intro listed a w hfree hr hy H
    refine ⟨fun h => (by rw [h] at hr; cases hr), fun j hj => ?_⟩
    by_cases hji : j = i
    · subst hji; exact hy.wpOpIn hnd hi trivial ⟨fun h => (by rw [hDi] at h; cases h), H⟩
    · have h1 := H.2 j (ready_mono hj hji)
      obtain ⟨hjun, oj, hoj, hall⟩ := mem_ready.1 hj
      have h0 := (mem_ready.1 hr).1
      have h0f : listed.getD i false = false := getD_both h0
      have hnot : ∀ e ∈ oj.after, Region.binds md e = true → e.on ≠ i := fun e he hb heq => by
        have h1 := hall e he hb
        rw [heq, h0f] at h1
        cases h1
      have h2 := wpOpIn_putS (C := fun _ => True) hnd hoj (hfree j oj hoj hji hjun hnot) (fun cs b => hsel i oi cs b hi) (fun cs b => hsel j oj cs b hoj) (fun c a w h => hQ c _ _ _ w h) hy h1
      have hfree' : ∀ k ok, ops[k]? = some ok → k ≠ i → (listed.setIfInBounds j true).getD k true = false →
          (∀ e ∈ ok.after, Region.binds md e = true → e.on ≠ i) → oi.apart ops ok = true := fun k ok hk hki hun hno => by
        refine hfree k ok hk hki ?_ hno
        by_cases hjk : j = k
        · subst hjk; exact hjun
        · rw [getD_set_ne true hjk] at hun; exact hun
      refine wpOpIn_mono (fun a' w' h3 => ⟨h3.2.1, ih (listed.setIfInBounds j true) a' w' hfree' (ready_mono hr (Ne.symm hji)) h3.1 ?_⟩) h2
      rw [Array.setIfInBounds_comm _ _ hji]
      exact h3.2.2

def pureI (md : Region.Mode) (ops : Array Oper) (D : Nat → Bool) : List Nat → Array Bool → Bool
  | [], _ => true
  | p :: ps, listed => (Region.ready md ops listed).contains p && Region.free md ops listed p && (match ops[p]? with | some o => earlyOp2 o | none => false) && D p && pureI md ops D ps (listed.setIfInBounds p true)

/-- They, one by one. -/
theorem wpAnyS_pureI (hnd : noDefer ops = true) (hsel : Region.noSelect ops = true) (hQ : ∀ c (a : Act) (d : Option Tmp) (v : Value) w, Q (.panic c) (a.put d v) w → Q (.panic c) a w) {R : Act → Prop} {g : Nat} (ps : List Nat) :
    ∀ (listed : Array Bool) (a : Act) (w : World), C w → pureI md ops D ps listed = true →
      wpQuiet P ops (fun _ => True) R (opsAt ops.toList ps) a → (∀ a' w, C w → R a' → wpAnyS ro m P md ops C D Q g (listedI ps listed) a' w) → wpAnyS ro m P md ops C D Q (ps.length + g) listed a w := by
  induction ps with
  | nil =>
    intro listed a w hC _ h hL
    rw [List.length_nil, Nat.zero_add]
    exact hL a w hC h
  | cons p ps ih =>
    intro listed a w hC hB h hL
    simp only [pureI, Bool.and_eq_true] at hB
    obtain ⟨⟨⟨⟨hr, hf⟩, he⟩, hd⟩, hB⟩ := hB
    have hr' : p ∈ Region.ready md ops listed := by simpa using hr
    obtain ⟨o, h0⟩ : ∃ o, ops[p]? = some o := by
      cases q : ops[p]? with
      | some o => exact ⟨o, rfl⟩
      | none => rw [q] at he; cases he
    rw [h0] at he
    rw [opsAt_cons (o := o) (by simpa using h0)] at h
    have hg : o.guard = none := by
      have := he
      unfold earlyOp2 at this
      simp only [Bool.and_eq_true, Option.isNone_iff_eq_none] at this
      exact this.1
    have hq : o.quiet P a (fun _ => True) (wpQuiet P ops (fun _ => True) R (opsAt ops.toList ps)) := by
      have h' : if Region.wanted o (yielded ops a.tmps) then o.quiet P a (fun _ => True) (wpQuiet P ops (fun _ => True) R (opsAt ops.toList ps)) else wpQuiet P ops (fun _ => True) R (opsAt ops.toList ps) (a.put o.dst undef) := h
      rwa [if_pos (by simp [Region.wanted, hg])] at h'
    obtain ⟨v, hv, hK⟩ := hq
    rw [List.length_cons, show ps.length + 1 + g = (ps.length + g) + 1 by omega]
    refine wpAnyS_takeP hnd h0 (Region.noSelect_spec hsel) hQ hd (ps.length + g) listed a w (Region.free_spec h0 hf) hr' (still_of_quiet2 he hv) ?_
    exact ih _ _ w hC hB hK hL

def mix2B (l : List Oper) (hs hp ts1 ts2 : List Nat) : Bool :=
  Region.noSelect l.toArray && noDefer l.toArray && decide (hs.length + (hp.length + (ts1.length + ts2.length)) = l.length) && ((hp ++ ts2).all fun j => decide (j < l.length)) &&
    earlyI .any l.toArray (fun j => (hp ++ ts2).contains j) hs (Array.replicate l.length false) && pureI .any l.toArray (fun j => (hp ++ ts2).contains j) hp (listedI hs (Array.replicate l.length false)) &&
    seqI .any l.toArray (ts1 ++ ts2) (listedI hp (listedI hs (Array.replicate l.length false)))
/-- THE REGION: hs only yield values; hp too, and read no memory; ts1 keep to the class; hp and ts2 wait for all of hs. -/
theorem wpIn_region_mix2 {id : Nat} {a : Act} {w : World} {l : List Oper} (hs hp ts1 ts2 : List Nat) (hm : P.follows .mixedOrders = true) (hB : mix2B l hs hp ts1 ts2 = true)
    (hC : C { w with drawn := w.drawn + 1 }) (hQ : ∀ c (a : Act) (d : Option Tmp) (v : Value) w, Q (.panic c) (a.put d v) w → Q (.panic c) a w)
    (h : wpQuiet P l.toArray C (fun a' => wpQuiet P l.toArray (fun _ => True) (fun a'' => ∀ w', C w' → LateL ro m P l.toArray C Q (opsAt l ts1) (opsAt l ts2) a'' w') (opsAt l hp) a') (opsAt l hs) a) :
    (Code.region id l.toArray true).wpIn (WF ro) m P Q a w := by
  simp only [mix2B, Bool.and_eq_true, decide_eq_true_eq] at hB
  obtain ⟨⟨⟨⟨⟨⟨hsel, hnd⟩, hlen⟩, hlt⟩, hearly⟩, hpure⟩, hseq⟩ := hB
  have hsz : l.toArray.size = l.length := by simp
  refine wpIn_region_any hm ?_
  rw [hsz, ← hlen]
  refine wpAnyS_any (C := C) (D := fun j => (hp ++ ts2).contains j) _ _ _ _ ?_
  refine wpAnyS_earlyI (R := fun a' => wpQuiet P l.toArray (fun _ => True) (fun a'' => ∀ w', C w' → LateL ro m P l.toArray C Q (opsAt l ts1) (opsAt l ts2) a'' w') (opsAt l hp) a') hnd hsel hQ (fun j hj => ?_) hs (Array.replicate (hs.length + (hp.length + (ts1.length + ts2.length))) false) a _ (by simp [hlen]) (fun j oj _ hl => (by rw [getD_replicate_false] at hl; cases hl)) hC (by rw [hlen]; exact hearly) h (fun a' w' hw' hR => ?_)
  · cases hc : (hp ++ ts2).contains j with
    | false => rfl
    | true =>
      have := List.all_eq_true.1 hlt j (by simpa using hc)
      simp only [decide_eq_true_eq] at this
      omega
  · refine wpAnyS_pureI (R := fun a'' => ∀ w', C w' → LateL ro m P l.toArray C Q (opsAt l ts1) (opsAt l ts2) a'' w') hnd hsel hQ hp _ a' w' hw' (by rw [hlen]; exact hpure) hR (fun a2 w2 hw2 hR2 => ?_)
    exact wpAnyS_lateI hnd ts1 ts2 _ a2 w2 (fun j hj => by simp [hj]) (by rw [hlen]; exact hseq) hw2 (hR2 w2 hw2)
end

end Go.Proofs.YtnohglkilpnjhaaGreatDoor

/- A message (api.Message) as a value: its cells, in a block, loads; slices of numbers and of members. No condition. -/
namespace Go.Proofs.YtnohglkilpnjhaaGreatDoor
open Go.RowKit
set_option linter.unusedVariables false
set_option linter.unusedSimpArgs false
set_option maxRecDepth 100000

def MemL.cells (x : MemL) : List Value := [.int .i64 x.id, .int .i64 x.inc, .int .i64 x.state, .int .i64 x.since]
def MemL.ok (x : MemL) : Prop := inI64 x.id ∧ inI64 x.inc ∧ inI64 x.state ∧ inI64 x.since
def flatM (l : List MemL) : List Value := l.flatMap MemL.cells
theorem flatM_len (l : List MemL) : (flatM l).length = l.length * 4 := by
  induction l with
  | nil => rfl
  | cons x r ih => simp only [flatM, List.flatMap_cons, List.length_append, List.length_cons] at *; rw [ih]; simp [MemL.cells]; omega
def mem0 : MemL := ⟨0, 0, 0, 0⟩
theorem flatM_at : ∀ {l : List MemL} {i : Nat} (hi : i < l.length), (flatM l)[i * 4]? = some (.int .i64 (l.getD i mem0).id) ∧ (flatM l)[i * 4 + 1]? = some (.int .i64 (l.getD i mem0).inc) ∧ (flatM l)[i * 4 + 2]? = some (.int .i64 (l.getD i mem0).state) ∧ (flatM l)[i * 4 + 3]? = some (.int .i64 (l.getD i mem0).since)
  | [], i, hi => by simp at hi
  | x :: r, 0, _ => ⟨rfl, rfl, rfl, rfl⟩
  | x :: r, i + 1, hi => by
    have ih := flatM_at (l := r) (i := i) (by simpa using hi)
    have e : ∀ j, (flatM (x :: r))[(i + 1) * 4 + j]? = (flatM r)[i * 4 + j]? := fun j => by
      show (x.cells ++ flatM r)[(i + 1) * 4 + j]? = _
      rw [List.getElem?_append_right (by simp [MemL.cells]; omega)]
      congr 1
      simp [MemL.cells]; omega
    have e0 := e 0
    rw [Nat.add_zero, Nat.add_zero] at e0
    rw [e0, e 1, e 2, e 3]
    exact ih

/-- The slice value v reads as the members l. -/
def Mems (w : World) (v : Value) (l : List MemL) : Prop := Row w v l.length 4 (flatM l)
theorem Mems.len {w : World} {v : Value} {l : List MemL} (h : Mems w v l) : ∃ a c, v = .slice a l.length c := h.shape
theorem Mems.le {w : World} {v : Value} {l : List MemL} (h : Mems w v l) : l.length ≤ 9223372036854775807 := Row.le h
theorem Mems.of_new {w w' : World} {v : Value} {l : List MemL} (h : Mems w v l) (hg : Below w.heap.size w w') : Mems w' v l := Row.of_new h hg
/-- A member at a place. -/
def MemAt (w : World) (g off : Nat) (x : MemL) : Prop := w.cell? ⟨g, off, none⟩ = some (.int .i64 x.id) ∧ w.cell? ⟨g, off + 1, none⟩ = some (.int .i64 x.inc) ∧ w.cell? ⟨g, off + 2, none⟩ = some (.int .i64 x.state) ∧ w.cell? ⟨g, off + 3, none⟩ = some (.int .i64 x.since)
theorem MemAt.lt {w : World} {g off : Nat} {x : MemL} (h : MemAt w g off x) : g < w.heap.size := World.block_lt_of_cell? _ _ h.1
theorem MemAt.of_new {w w' : World} {g off : Nat} {x : MemL} (h : MemAt w g off x) (hg : Below w.heap.size w w') : MemAt w' g off x :=
  ⟨(hg.cell (p := ⟨g, off, none⟩) h.lt).trans h.1, (hg.cell (p := ⟨g, off + 1, none⟩) h.lt).trans h.2.1, (hg.cell (p := ⟨g, off + 2, none⟩) h.lt).trans h.2.2.1, (hg.cell (p := ⟨g, off + 3, none⟩) h.lt).trans h.2.2.2⟩
theorem Mems.cell {w : World} {v : Value} {l : List MemL} (h : Mems w v l) (h0 : 0 < l.length) : ∃ b off c, v = .slice (some ⟨b, off, none⟩) l.length c ∧ b < w.heap.size ∧ ∀ j, j < l.length → MemAt w b (off + j * 4) (l.getD j mem0) := by
  obtain ⟨_, a, c, rfl, _, _, _, h5⟩ := h
  obtain ⟨b, off, rfl, hb, hc⟩ := h5 (by omega)
  refine ⟨b, off, c, rfl, hb, fun j hj => ?_⟩
  obtain ⟨e0, e1, e2, e3⟩ := flatM_at hj
  have h0 := hc (j * 4) (by omega)
  have h1 := hc (j * 4 + 1) (by omega)
  have h2 := hc (j * 4 + 2) (by omega)
  have h3 := hc (j * 4 + 3) (by omega)
  rw [e0] at h0
  rw [e1] at h1
  rw [e2] at h2
  rw [e3] at h3
  exact ⟨h0, h1, h2, h3⟩

/-- A message's cells, its slices being these values. -/
structure MsgS where
  vi : Value
  vb : Value
  vp : Value
  vm : Value
def msgCells (m : MsgL) (s : MsgS) : List Value := .int .i64 m.kind :: (m.hash.map B8 ++ [.int .i64 m.piece, s.vi, s.vb, s.vp, s.vm, .bool m.seed])
/-- What the slices hold. -/
structure MsgR (w : World) (m : MsgL) (s : MsgS) : Prop where
  hash : m.hash.length = 32
  ids : Ints w s.vi m.ids
  bytes : Bytes w s.vb m.bytes
  proof : Digs w s.vp m.proof
  members : Mems w s.vm m.members
structure MsgL.ok (m : MsgL) : Prop where
  kind : inI64 m.kind
  piece : inI64 m.piece
  ids : ∀ n ∈ m.ids, inI64 n
  members : ∀ x ∈ m.members, x.ok
theorem MsgR.of_new {w w' : World} {m : MsgL} {s : MsgS} (h : MsgR w m s) (hg : Below w.heap.size w w') : MsgR w' m s := ⟨h.hash, h.ids.of_new hg, h.bytes.of_new hg, h.proof.of_new hg, h.members.of_new hg⟩
def MsgV (m : MsgL) (s : MsgS) : Value := .agg (msgCells m s).toArray
/-- The block g holds the message. -/
def MsgO (w : World) (g : Nat) (m : MsgL) (s : MsgS) : Prop := w.heap[g]? = some (.cells (msgCells m s).toArray 37 (0, 0)) ∧ m.hash.length = 32
theorem MsgO.lt {w : World} {g : Nat} {m : MsgL} {s : MsgS} (h : MsgO w g m s) : g < w.heap.size := (Array.getElem?_eq_some_iff.1 h.1).1
theorem MsgO.of_new {w w' : World} {g : Nat} {m : MsgL} {s : MsgS} (h : MsgO w g m s) (hb : Below w.heap.size w w') : MsgO w' g m s := ⟨(hb.block _ h.lt).trans h.1, h.2⟩
theorem MsgO.of_block {w w' : World} {g : Nat} {m : MsgL} {s : MsgS} (h : MsgO w g m s) (hb : w'.heap[g]? = w.heap[g]?) : MsgO w' g m s := ⟨hb.trans h.1, h.2⟩
theorem msg_alloc (w : World) {m : MsgL} {s : MsgS} (h : m.hash.length = 32) : MsgO (w.alloc (.cells (msgCells m s).toArray 37)) w.heap.size m s := ⟨heap_alloc_new w _, h⟩
theorem msgCells_len {m : MsgL} {s : MsgS} (h : m.hash.length = 32) : (msgCells m s).length = 39 := by simp [msgCells, h]
theorem MsgO.at_ {w : World} {g : Nat} {m : MsgL} {s : MsgS} (h : MsgO w g m s) (j : Nat) : w.cell? ⟨g, j, none⟩ = (msgCells m s)[j]? := by
  simp only [World.cell?, h.1]
  simp
theorem MsgO.kind {w : World} {g : Nat} {m : MsgL} {s : MsgS} (h : MsgO w g m s) : w.cell? ⟨g, 0, none⟩ = some (.int .i64 m.kind) := by rw [h.at_]; rfl
theorem msgCells_tail {m : MsgL} {s : MsgS} (h : m.hash.length = 32) (j : Nat) : (msgCells m s)[33 + j]? = [.int .i64 m.piece, s.vi, s.vb, s.vp, s.vm, .bool m.seed][j]? := by
  unfold msgCells
  rw [show 33 + j = (32 + j) + 1 by omega, List.getElem?_cons_succ, List.getElem?_append_right (by simp [h])]
  simp [h]
theorem MsgO.piece {w : World} {g : Nat} {m : MsgL} {s : MsgS} (h : MsgO w g m s) : w.cell? ⟨g, 33, none⟩ = some (.int .i64 m.piece) := by rw [h.at_]; exact msgCells_tail h.2 0
theorem MsgO.ids {w : World} {g : Nat} {m : MsgL} {s : MsgS} (h : MsgO w g m s) : w.cell? ⟨g, 34, none⟩ = some s.vi := by rw [h.at_]; exact msgCells_tail h.2 1
theorem MsgO.bytes {w : World} {g : Nat} {m : MsgL} {s : MsgS} (h : MsgO w g m s) : w.cell? ⟨g, 35, none⟩ = some s.vb := by rw [h.at_]; exact msgCells_tail h.2 2
theorem MsgO.proof {w : World} {g : Nat} {m : MsgL} {s : MsgS} (h : MsgO w g m s) : w.cell? ⟨g, 36, none⟩ = some s.vp := by rw [h.at_]; exact msgCells_tail h.2 3
theorem MsgO.members {w : World} {g : Nat} {m : MsgL} {s : MsgS} (h : MsgO w g m s) : w.cell? ⟨g, 37, none⟩ = some s.vm := by rw [h.at_]; exact msgCells_tail h.2 4
theorem MsgO.seed {w : World} {g : Nat} {m : MsgL} {s : MsgS} (h : MsgO w g m s) : w.cell? ⟨g, 38, none⟩ = some (.bool m.seed) := by rw [h.at_]; exact msgCells_tail h.2 5
theorem MsgO.hash {w : World} {g : Nat} {m : MsgL} {s : MsgS} (h : MsgO w g m s) : DigAt w g 1 m.hash := ⟨h.2, fun j hj => by
  rw [h.at_]
  unfold msgCells
  rw [show 1 + j = j + 1 by omega, List.getElem?_cons_succ, List.getElem?_append_left (by simp [h.2, hj])]⟩

theorem size_msg : (Tryz.prog.info? 37).map (·.size) = some 39 := by kernel_rfl
theorem run_load_msg {w : World} {g : Nat} {m : MsgL} {s : MsgS} (h : MsgO w g m s) : (loadVar 37 ⟨g, 0, none⟩).run Tryz.prog w = .ok (MsgV m s) w :=
  run_loadVar_row (P := Tryz.prog) w g 37 37 (msgCells m s).toArray (0, 0) _ h.1 Tryz.underlying37 rfl (by rw [size_msg]; simp [msgCells_len h.2])
theorem wp_load_msg {w : World} {o : Oper} {a : Act} {K : Act → World → Prop} {Q : Exit → Act → World → Prop} {p : Operand} {g : Nat} {m : MsgL} {s : MsgS} (ho : o.op = .load 37 p) (hp : a.eval p = .pointer (some ⟨g, 0, none⟩)) (h : MsgO w g m s)
    (hK : K (a.put o.dst (MsgV m s)) w) : o.wp Tryz.prog a w K Q := by
  refine wp_val (v := MsgV m s) ?_ hK
  have := run_load_msg h
  unfold execOp
  simp only [ho, hp, Instr.loadAt, Instr.sureAddr, Sem.run_bind, Sem.run_pure, Result.andThen_ok, this]
end Go.Proofs.YtnohglkilpnjhaaGreatDoor

/- A message in a block that is written field by field. Condition: what its slices hold lies in other blocks. -/
namespace Go.Proofs.YtnohglkilpnjhaaGreatDoor
open Go.RowKit
set_option linter.unusedVariables false
set_option linter.unusedSimpArgs false
set_option maxRecDepth 100000

/-- The value's block is another than g, and was made. -/
def Off (w : World) (g : Nat) (v : Value) : Prop := ∀ k, v.ownBlock = some k → k ≠ g ∧ k < w.heap.size
theorem Off.mono {w w' : World} {g : Nat} {v : Value} (h : Off w g v) (hs : w.heap.size ≤ w'.heap.size) : Off w' g v := fun k hk => ⟨(h k hk).1, Nat.lt_of_lt_of_le (h k hk).2 hs⟩
theorem Off.nil (w : World) (g : Nat) : Off w g (.slice none 0 0) := fun k h => nomatch h
/-- Block g holds the message m, its slices lie elsewhere. -/
structure MsgF (w : World) (g : Nat) (m : MsgL) (s : MsgS) : Prop where
  o : MsgO w g m s
  r : MsgR w m s
  vi : Off w g s.vi
  vb : Off w g s.vb
  vp : Off w g s.vp
  vm : Off w g s.vm
theorem MsgF.free {w : World} {g : Nat} {m : MsgL} {s : MsgS} (h : MsgF w g m s) (j : Nat) : w.frozen? ⟨g, j, none⟩ = false := by
  simp [World.frozen?, h.o.1]
theorem MsgF.of_new {w w' : World} {g : Nat} {m : MsgL} {s : MsgS} (h : MsgF w g m s) (hb : Below w.heap.size w w') : MsgF w' g m s := ⟨h.o.of_new hb, h.r.of_new hb, h.vi.mono hb.size, h.vb.mono hb.size, h.vp.mono hb.size, h.vm.mono hb.size⟩
theorem grown_set (w : World) (g j : Nat) (v : Value) : w.grownBy (w.setCell ⟨g, j, none⟩ v) (some g) :=
  ⟨rfl, rfl, rfl, by simp [World.setCell], fun k hk h => Below.heap_setCell _ _ _ _ (fun e => h (by rw [e]))⟩
theorem msgO_set {w : World} {g : Nat} {m m' : MsgL} {s s' : MsgS} (h : MsgO w g m s) (j : Nat) (v : Value) (hc : (msgCells m s).set j v = msgCells m' s') (hh : m'.hash.length = 32) : MsgO (w.setCell ⟨g, j, none⟩ v) g m' s' := by
  refine ⟨?_, hh⟩
  have := heap_setCell_same w g j _ _ v h.1
  rw [this, ← hc]
  simp
theorem msgCells_put (m : MsgL) (s : MsgS) (h : m.hash.length = 32) (j : Nat) (v : Value) : (msgCells m s).set (33 + j) v = .int .i64 m.kind :: (m.hash.map B8 ++ ([.int .i64 m.piece, s.vi, s.vb, s.vp, s.vm, .bool m.seed] : List Value).set j v) := by
  unfold msgCells
  rw [show 33 + j = (32 + j) + 1 by omega, List.set_cons_succ, List.set_append_right _ _ (by simp [h])]
  simp [h]
/-- The rows outlive a store into the block. -/
theorem MsgF.rows {w w' : World} {g : Nat} {m : MsgL} {s : MsgS} (h : MsgF w g m s) (hg : w.grownBy w' (some g)) : MsgR w' m s :=
  ⟨h.r.hash, Row.of_kept h.r.ids hg (fun k hk e => (h.vi k hk).1 (by cases e; rfl)), Row.of_kept h.r.bytes hg (fun k hk e => (h.vb k hk).1 (by cases e; rfl)),
    ⟨h.r.proof.1, Row.of_kept h.r.proof.2 hg (fun k hk e => (h.vp k hk).1 (by cases e; rfl))⟩, Row.of_kept h.r.members hg (fun k hk e => (h.vm k hk).1 (by cases e; rfl))⟩
theorem MsgF.setKind {w : World} {g : Nat} {m : MsgL} {s : MsgS} (h : MsgF w g m s) (n : Int) : MsgF (w.setCell ⟨g, 0, none⟩ (.int .i64 n)) g { m with kind := n } s := by
  have hr := h.rows (grown_set w g 0 (.int .i64 n))
  exact ⟨msgO_set h.o 0 _ rfl h.r.hash, ⟨hr.hash, hr.ids, hr.bytes, hr.proof, hr.members⟩, h.vi.mono (by simp [World.setCell, World.setRow]), h.vb.mono (by simp [World.setCell, World.setRow]), h.vp.mono (by simp [World.setCell, World.setRow]), h.vm.mono (by simp [World.setCell, World.setRow])⟩
theorem MsgF.setPiece {w : World} {g : Nat} {m : MsgL} {s : MsgS} (h : MsgF w g m s) (n : Int) : MsgF (w.setCell ⟨g, 33, none⟩ (.int .i64 n)) g { m with piece := n } s := by
  have hr := h.rows (grown_set w g 33 (.int .i64 n))
  exact ⟨msgO_set h.o 33 _ (msgCells_put m s h.r.hash 0 _) h.r.hash, ⟨hr.hash, hr.ids, hr.bytes, hr.proof, hr.members⟩, h.vi.mono (by simp [World.setCell, World.setRow]), h.vb.mono (by simp [World.setCell, World.setRow]), h.vp.mono (by simp [World.setCell, World.setRow]), h.vm.mono (by simp [World.setCell, World.setRow])⟩
theorem MsgF.setSeed {w : World} {g : Nat} {m : MsgL} {s : MsgS} (h : MsgF w g m s) (n : Bool) : MsgF (w.setCell ⟨g, 38, none⟩ (.bool n)) g { m with seed := n } s := by
  have hr := h.rows (grown_set w g 38 (.bool n))
  exact ⟨msgO_set h.o 38 _ (msgCells_put m s h.r.hash 5 _) h.r.hash, ⟨hr.hash, hr.ids, hr.bytes, hr.proof, hr.members⟩, h.vi.mono (by simp [World.setCell, World.setRow]), h.vb.mono (by simp [World.setCell, World.setRow]), h.vp.mono (by simp [World.setCell, World.setRow]), h.vm.mono (by simp [World.setCell, World.setRow])⟩
theorem MsgF.setIds {w : World} {g : Nat} {m : MsgL} {s : MsgS} (h : MsgF w g m s) (v : Value) (l : List Int) (hl : Ints w v l) (hv : Off w g v) : MsgF (w.setCell ⟨g, 34, none⟩ v) g { m with ids := l } { s with vi := v } := by
  have hG := grown_set w g 34 v
  have hr := h.rows hG
  exact ⟨msgO_set h.o 34 _ (msgCells_put m s h.r.hash 1 _) h.r.hash, ⟨hr.hash, Row.of_kept hl hG (fun k hk e => (hv k hk).1 (by cases e; rfl)), hr.bytes, hr.proof, hr.members⟩, hv.mono (by simp [World.setCell, World.setRow]), h.vb.mono (by simp [World.setCell, World.setRow]), h.vp.mono (by simp [World.setCell, World.setRow]), h.vm.mono (by simp [World.setCell, World.setRow])⟩
theorem MsgF.setBytes {w : World} {g : Nat} {m : MsgL} {s : MsgS} (h : MsgF w g m s) (v : Value) (l : List UInt8) (hl : Bytes w v l) (hv : Off w g v) : MsgF (w.setCell ⟨g, 35, none⟩ v) g { m with bytes := l } { s with vb := v } := by
  have hG := grown_set w g 35 v
  have hr := h.rows hG
  exact ⟨msgO_set h.o 35 _ (msgCells_put m s h.r.hash 2 _) h.r.hash, ⟨hr.hash, hr.ids, Row.of_kept hl hG (fun k hk e => (hv k hk).1 (by cases e; rfl)), hr.proof, hr.members⟩, h.vi.mono (by simp [World.setCell, World.setRow]), hv.mono (by simp [World.setCell, World.setRow]), h.vp.mono (by simp [World.setCell, World.setRow]), h.vm.mono (by simp [World.setCell, World.setRow])⟩
theorem msgCells_hash (m : MsgL) (s : MsgS) (d : List UInt8) (h : m.hash.length = 32) : (msgCells m s).take 1 ++ d.map B8 ++ (msgCells m s).drop 33 = msgCells { m with hash := d } s := by
  unfold msgCells
  rw [show (33 : Nat) = 32 + 1 from rfl, List.drop_succ_cons, List.drop_append, List.drop_of_length_le (by simp [h])]
  simp [h]
/-- A hash laid into the message. -/
theorem MsgF.setHash {w : World} {g : Nat} {m : MsgL} {s : MsgS} (h : MsgF w g m s) (d : List UInt8) (hd : d.length = 32) :
    ∃ w', (storeCells ⟨g, 1, none⟩ (d.map B8)).run Tryz.prog w = .ok () w' ∧ MsgF w' g { m with hash := d } s ∧ Kept (fun k => k ≠ g) w w' := by
  have hst := run_storeCells_at (P := Tryz.prog) g 1 37 (d.map B8) 0 (msgCells m s).toArray w h.o.1 (by simp [hd, msgCells_len h.r.hash]) (fun v hv => by
    obtain ⟨b, _, rfl⟩ := List.mem_map.1 hv; rfl)
  simp only [Nat.add_zero, List.length_map, hd] at hst
  obtain ⟨cs, hcs⟩ : ∃ cs : Array Value, cs = (msgCells { m with hash := d } s).toArray := ⟨_, rfl⟩
  have hG : w.grownBy (w.setRow g cs) (some g) := ⟨rfl, rfl, rfl, by simp [World.setRow], fun k hk hne => Go.setRow_other w g k cs (fun e => hne (by rw [e]))⟩
  refine ⟨w.setRow g cs, ?_, ?_, ?_⟩
  · rw [hst, hcs]
    have := msgCells_hash m s d h.r.hash
    simp only [← this]
  · have hr := h.rows hG
    exact ⟨⟨by rw [setRow_heap _ _ _ _ _ _ h.o.1, hcs], hd⟩, ⟨hd, hr.ids, hr.bytes, hr.proof, hr.members⟩, h.vi.mono (by simp [World.setCell, World.setRow]), h.vb.mono (by simp [World.setCell, World.setRow]), h.vp.mono (by simp [World.setCell, World.setRow]), h.vm.mono (by simp [World.setCell, World.setRow])⟩
  · exact ⟨hG.os, hG.tape, hG.output, hG.size, fun k hk hne => hG.block k hk (fun e => hne (by cases e; rfl))⟩

end Go.Proofs.YtnohglkilpnjhaaGreatDoor

/- Numbers that bytes are, one behind the other; in plain Lean. No condition. -/
namespace Go.Proofs.YtnohglkilpnjhaaGreatDoor
set_option linter.unusedVariables false

/-- The number that bytes begin with, of six bytes at most, and how many it has. -/
def numStep (b : List UInt8) : Option (Nat × Nat) := match cutL 0 0 b with
  | some (n, m) => if m ≤ 6 then some (n, m) else none
  | none => none
def numsF : Nat → List UInt8 → List Int
  | 0, _ => []
  | f + 1, b => if b = [] then [] else match numStep b with
    | none => [-1]
    | some (n, m) => (n : Int) :: numsF f (b.drop m)
/-- The numbers that bytes are; where there is none, -1, and no more. -/
def numsL (b : List UInt8) : List Int := numsF b.length b

theorem uint_lt (f : Nat) : ∀ n, (uint n).length ≤ f → n < 128 ^ f := by
  induction f with
  | zero => intro n h; have := uint_pos n; omega
  | succ f ih =>
    intro n h
    by_cases hn : n < 128
    · have := Nat.pow_le_pow_right (n := 128) (by decide) (show 1 ≤ f + 1 by omega)
      omega
    · rw [uint_big (by omega)] at h
      have := ih (n / 128) (by simpa using h)
      rw [Nat.pow_succ]; omega
theorem numStep_some {b : List UInt8} {n m : Nat} (h : numStep b = some (n, m)) : cutL 0 0 b = some (n, m) ∧ 1 ≤ m ∧ m ≤ 6 ∧ m ≤ b.length ∧ n < 4398046511104 ∧ b = uint n ++ b.drop m := by
  unfold numStep at h
  split at h
  · rename_i n' m' hc
    split at h
    · rename_i h6
      cases h
      obtain ⟨h1, h2⟩ := cutL_take hc
      obtain ⟨_, h3, h4⟩ := cutL_lt (by omega) (by simp) hc
      have h5 := uint_lt 6 n (by omega)
      refine ⟨hc, by omega, h6, by omega, by omega, ?_⟩
      rw [← h1, List.take_append_drop]
    · cases h
  · cases h
theorem toU_take {b : List UInt8} {k : Nat} (hk : k ≤ b.length) {n : Nat} : toU (b.take k) = some n ↔ cutL 0 0 b = some (n, k) := by
  constructor
  · intro h
    have hl := toU_lt h
    unfold toU at h
    split at h
    · rename_i x m hc
      split at h
      · rename_i hm
        cases h
        obtain ⟨h1, h2⟩ := cutL_take hc
        have hkl : (b.take k).length = k := by simp; omega
        rw [hkl] at hm
        subst hm
        rw [List.take_take, Nat.min_self] at h1
        have e : b = uint n ++ b.drop m := by rw [← h1, List.take_append_drop]
        have := cutL_uint0 n (b.drop m) hl
        rw [← e, ← h2] at this
        exact this
      · cases h
    · cases h
  · intro h
    obtain ⟨h1, h2⟩ := cutL_take h
    rw [h1]
    exact toU_uint (cutL_lt (by omega) (by simp) h).1
theorem numsF_nil (f : Nat) : numsF f [] = [] := by cases f <;> simp [numsF]
theorem numsF_more : ∀ (f g : Nat) (b : List UInt8), b.length ≤ f → b.length ≤ g → numsF f b = numsF g b
  | 0, g, b, hf, _ => by rw [List.length_eq_zero_iff.1 (Nat.le_zero.1 hf), numsF_nil, numsF_nil]
  | f + 1, 0, b, _, hg => by rw [List.length_eq_zero_iff.1 (Nat.le_zero.1 hg), numsF_nil, numsF_nil]
  | f + 1, g + 1, b, hf, hg => by
    simp only [numsF]
    split
    · rfl
    · cases hs : numStep b with
      | none => rfl
      | some p =>
        obtain ⟨n, m⟩ := p
        obtain ⟨_, h1, _, h2, _⟩ := numStep_some hs
        simp only
        rw [numsF_more f g (b.drop m) (by simp; omega) (by simp; omega)]
theorem numsL_nil : numsL [] = [] := rfl
theorem numsL_bad {b : List UInt8} (h : b ≠ []) (hs : numStep b = none) : numsL b = [-1] := by
  have : 0 < b.length := List.length_pos_iff.2 h
  obtain ⟨f, hf⟩ : ∃ f, b.length = f + 1 := ⟨b.length - 1, by omega⟩
  unfold numsL
  rw [hf, numsF, if_neg h, hs]
theorem numsL_step {b : List UInt8} {n m : Nat} (hs : numStep b = some (n, m)) : numsL b = (n : Int) :: numsL (b.drop m) := by
  obtain ⟨_, h1, _, h2, _⟩ := numStep_some hs
  have h : b ≠ [] := fun e => by rw [e] at h2; simp at h2; omega
  obtain ⟨f, hf⟩ : ∃ f, b.length = f + 1 := ⟨b.length - 1, by omega⟩
  unfold numsL
  rw [hf, numsF, if_neg h, hs]
  simp only
  rw [numsF_more f _ (b.drop m) (by simp; omega) (Nat.le_refl _)]
/-- None of the first bytes, up to six, is one number: there is none. -/
theorem numStep_none {b : List UInt8} (h : ∀ k, 1 ≤ k → k ≤ 6 → k ≤ b.length → toU (b.take k) = none) : numStep b = none := by
  cases hs : numStep b with
  | none => rfl
  | some p =>
    obtain ⟨n, m⟩ := p
    obtain ⟨h0, h1, h2, h3, _⟩ := numStep_some hs
    have := h m h1 h2 h3
    rw [(toU_take h3).2 h0] at this
    cases this
theorem numStep_found {b : List UInt8} {n k : Nat} (h6 : k ≤ 6) (hk : k ≤ b.length) (h : toU (b.take k) = some n) : numStep b = some (n, k) := by
  have := (toU_take hk).1 h
  unfold numStep
  rw [this]
  simp [h6]

end Go.Proofs.YtnohglkilpnjhaaGreatDoor

/- Messages that may be, and have the same items, are the same; in plain Lean. No condition. -/
namespace Go.Proofs.YtnohglkilpnjhaaGreatDoor
set_option linter.unusedVariables false
set_option linter.unusedSimpArgs false

theorem item_of {m : MsgL} (h : wrightB m = true) {i : Int} (h1 : 1 ≤ i) (h2 : i ≤ 8) : itemB m i = true := by
  rw [wrightB_eq] at h
  simp only [Bool.and_eq_true] at h
  obtain ⟨a1, a2, a3, a4, a5, a6, a7, a8⟩ := h
  rcases (show i = 1 ∨ i = 2 ∨ i = 3 ∨ i = 4 ∨ i = 5 ∨ i = 6 ∨ i = 7 ∨ i = 8 by omega) with rfl | rfl | rfl | rfl | rfl | rfl | rfl | rfl <;> assumption
end Go.Proofs.YtnohglkilpnjhaaGreatDoor

/- Bytes as one number, as hashes; numbers as members; in plain Lean. No condition. -/
namespace Go.Proofs.YtnohglkilpnjhaaGreatDoor
set_option linter.unusedVariables false

/-- What wire.one answers. -/
def oneO : List Int → Option Int
  | [n] => if 0 ≤ n then some n else none
  | _ => none
def oneL (b : List UInt8) : Option Int := oneO (numsL b)

/-- Bytes as hashes. -/
def digsF : Nat → List UInt8 → List (List UInt8)
  | 0, _ => []
  | f + 1, b => if b.length < 32 then [] else b.take 32 :: digsF f (b.drop 32)
def digsB (b : List UInt8) : List (List UInt8) := digsF b.length b
theorem digsF_more : ∀ (f g : Nat) (b : List UInt8), b.length ≤ f → b.length ≤ g → digsF f b = digsF g b
  | 0, 0, b, _, _ => rfl
  | 0, g + 1, b, hf, _ => by simp only [digsF]; rw [if_pos (by omega)]
  | f + 1, 0, b, _, hg => by simp only [digsF]; rw [if_pos (by omega)]
  | f + 1, g + 1, b, hf, hg => by
    simp only [digsF]
    split
    · rfl
    · rw [digsF_more f g (b.drop 32) (by simp; omega) (by simp; omega)]
theorem digsB_step {b : List UInt8} (h : 32 ≤ b.length) : digsB b = b.take 32 :: digsB (b.drop 32) := by
  obtain ⟨f, hf⟩ : ∃ f, b.length = f + 1 := ⟨b.length - 1, by omega⟩
  have e : digsB b = digsF (f + 1) b := by rw [digsB, hf]
  rw [e]
  simp only [digsF]
  rw [if_neg (by omega), digsF_more f (b.drop 32).length (b.drop 32) (by simp; omega) (Nat.le_refl _)]
  rfl
theorem digsB_small {b : List UInt8} (h : b.length < 32) : digsB b = [] := by
  rcases hb : b.length with _ | f
  · rw [digsB, hb]; rfl
  · rw [digsB, hb]; simp only [digsF]; rw [if_pos h]

/-- Numbers as members, three each. -/
def memsB : List Int → List MemL
  | i :: n :: t :: r => ⟨i, n, t, 0⟩ :: memsB r
  | _ => []
theorem memsB_small {l : List Int} (h : l.length < 3) : memsB l = [] := by
  match l, h with
  | [], _ => rfl
  | [_], _ => rfl
  | [_, _], _ => rfl
theorem three_of {l : List Int} (h : 3 ≤ l.length) : ∃ a b c r, l = a :: b :: c :: r ∧ r.length = l.length - 3 := by
  match l, h with
  | a :: b :: c :: r, _ => exact ⟨a, b, c, r, rfl, by simp⟩

end Go.Proofs.YtnohglkilpnjhaaGreatDoor

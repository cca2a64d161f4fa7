/- Regions that draw their order, in an order of one's own choosing: operations that only yield a value, in whatever places they stand, taken first; then some that keep to a class of worlds, one behind the other; then those that wait for all. No condition. -/
import Derived.Test.YtnohglkilpnjhaaRegionEarly
namespace Go.Proofs.Ytnohglkilpnjhaa
open Go.RowKit
set_option linter.unusedVariables false
set_option linter.unusedSimpArgs false

/-- An operation that only yields a value. -/
def earlyOp2 (o : Oper) : Bool := o.guard.isNone && match o.op with
  | .move _ | .assign _ | .load .. | .indexAddr .. | .fieldAddr .. | .convert .. | .slice .. | .extract .. | .nilCheck _ | .binOp .. | .unOp .. | .build .. | .lookup .. | .field .. | .index .. => true
  | _ => false
theorem early_value2 {P : Program} {o : Oper} {ρ : Operand → Value} {w w' : World} {r : Next} (h : earlyOp2 o = true) (hr : (execOp ρ o).run P w = .ok r w') : ∃ u, r = .value u := by
  cases ho : earlyOp o with
  | true => exact early_value ho hr
  | false =>
    unfold earlyOp2 at h
    unfold earlyOp at ho
    unfold execOp at hr
    cases hop : o.op <;> simp [hop] at h ho <;> simp only [hop] at hr
    all_goals first
      | (rw [h] at ho; simp at ho; done)
      | exact only_value hr
      | (simp [Sem.run_pure] at hr; exact ⟨_, hr.1.symm⟩)

section
variable {ro : Option Nat} {m : Nat} {P : Program} {ops : Array Oper} {md : Region.Mode} {C : World → Prop} {D : Nat → Bool} {Q : Exit → Act → World → Prop}

theorem still_of_quiet2 {o : Oper} {v : Value} {a : Act} (he : earlyOp2 o = true) (hq : ∀ w, C w → o.quietAt P a C w v) : StillIn P ops C o v a := by
  have hg : o.guard = none := by
    unfold earlyOp2 at he
    simp only [Bool.and_eq_true, Option.isNone_iff_eq_none] at he
    exact he.1
  refine ⟨by simp [Region.wanted, hg], fun w hw => ?_⟩
  have h := hq w hw
  unfold Oper.quietAt at h
  cases hr : (execOp a.eval o).run P w with
  | ok r w' =>
    rw [hr] at h
    obtain ⟨u, rfl⟩ := early_value2 he hr
    simp only [Oper.quietUpon] at h
    rw [h.1, h.2]
  | halt x w' => rw [hr] at h; simp [Oper.quietUpon] at h

/-- The operations at these places. -/
def opsAt (l : List Oper) (is : List Nat) : List Oper := is.flatMap fun i => (l[i]?).toList
def listedI : List Nat → Array Bool → Array Bool
  | [], listed => listed
  | p :: ps, listed => listedI ps (listed.setIfInBounds p true)
def earlyI (md : Region.Mode) (ops : Array Oper) (D : Nat → Bool) : List Nat → Array Bool → Bool
  | [], _ => true
  | p :: ps, listed => (Region.ready md ops listed).contains p && Region.free md ops listed p && (match ops[p]? with | some o => earlyOp2 o | none => false) &&
      ((List.range ops.size).all fun j => !D j || waitsB md ops p ops.size j) && earlyI md ops D ps (listed.setIfInBounds p true)
def seqI (md : Region.Mode) (ops : Array Oper) : List Nat → Array Bool → Bool
  | [], listed => decide (Region.ready md ops listed = [])
  | p :: ps, listed => decide (Region.ready md ops listed = [p]) && seqI md ops ps (listed.setIfInBounds p true)

theorem opsAt_cons {l : List Oper} {p : Nat} {ps : List Nat} {o : Oper} (h : l[p]? = some o) : opsAt l (p :: ps) = o :: opsAt l ps := by
  unfold opsAt
  rw [List.flatMap_cons, h]
  rfl

/-- The early operations, one by one. -/
theorem wpAnyS_earlyI (hnd : noDefer ops = true) (hsel : Region.noSelect ops = true) (hQ : ∀ c (a : Act) (d : Option Tmp) (v : Value) w, Q (.panic c) (a.put d v) w → Q (.panic c) a w) (hD : ∀ j, ops.size ≤ j → D j = false) {R : Act → Prop} {g : Nat} (ps : List Nat) :
    ∀ (listed : Array Bool) (a : Act) (w : World), listed.size = ops.size → ClosedL md ops listed → C w → earlyI md ops D ps listed = true →
      wpQuiet P ops C R (opsAt ops.toList ps) a → (∀ a' w, C w → R a' → wpAnyS ro m P md ops C D Q g (listedI ps listed) a' w) → wpAnyS ro m P md ops C D Q (ps.length + g) listed a w := by
  induction ps with
  | nil =>
    intro listed a w _ _ hC _ h hL
    rw [List.length_nil, Nat.zero_add]
    exact hL a w hC h
  | cons p ps ih =>
    intro listed a w hsz hcl hC hB h hL
    simp only [earlyI, Bool.and_eq_true] at hB
    obtain ⟨⟨⟨⟨hr, hf⟩, he⟩, hw⟩, hB⟩ := hB
    have hr' : p ∈ Region.ready md ops listed := by simpa using hr
    obtain ⟨o, h0⟩ : ∃ o, ops[p]? = some o := by
      cases q : ops[p]? with
      | some o => exact ⟨o, rfl⟩
      | none => rw [q] at he; cases he
    rw [h0] at he
    rw [opsAt_cons (o := o) (by simpa using h0)] at h
    have hg : o.guard = none := by
      have := he
      unfold earlyOp2 at this
      simp only [Bool.and_eq_true, Option.isNone_iff_eq_none] at this
      exact this.1
    have hq : o.quiet P a C (wpQuiet P ops C R (opsAt ops.toList ps)) := by
      have h' : if Region.wanted o (yielded ops a.tmps) then o.quiet P a C (wpQuiet P ops C R (opsAt ops.toList ps)) else wpQuiet P ops C R (opsAt ops.toList ps) (a.put o.dst undef) := h
      rwa [if_pos (by simp [Region.wanted, hg])] at h'
    obtain ⟨v, hv, hK⟩ := hq
    have hDi : ∀ j, D j = true → WaitsT md ops p j := fun j hj => by
      have hjs : j < ops.size := by
        rcases Nat.lt_or_ge j ops.size with h | h
        · exact h
        · rw [hD j h] at hj; cases hj
      have := List.all_eq_true.1 hw j (List.mem_range.2 hjs)
      simp only [hj, Bool.not_true, Bool.false_or] at this
      exact waitsB_spec _ _ this
    rw [List.length_cons, show ps.length + 1 + g = (ps.length + g) + 1 by omega]
    refine wpAnyS_take hnd h0 (Region.noSelect_spec hsel) hQ hDi (ps.length + g) listed a w hsz hcl (Region.free_spec h0 hf) hr' (still_of_quiet2 he hv) hC ?_
    exact ih _ _ w (by simpa using hsz) (hcl.set hr' hsz) hC hB hK hL

theorem ready_get {p : Nat} {listed : Array Bool} (h : Region.ready md ops listed = [p]) : ∃ o, ops[p]? = some o := by
  obtain ⟨_, o, ho, _⟩ := mem_ready.1 (show p ∈ Region.ready md ops listed by rw [h]; simp)
  exact ⟨o, ho⟩

/-- Those behind them, in one order. -/
theorem wpAnyS_restI (hD : ∀ j, D j = true → True) : ∀ (rests : List Nat) (listed : Array Bool) (a : Act) (w : World), (∀ j ∈ rests, D j = true) → seqI md ops rests listed = true →
    wpListIn (WF ro) m P ops Q (opsAt ops.toList rests) a w → wpAnyS ro m P md ops C D Q rests.length listed a w
  | [], listed, a, w, _, hB, h => ⟨by simpa [seqI] using hB, h⟩
  | p :: ps, listed, a, w, hd, hB, h => by
    simp only [seqI, Bool.and_eq_true, decide_eq_true_eq] at hB
    obtain ⟨o, h0⟩ := ready_get hB.1
    rw [opsAt_cons (o := o) (by simpa using h0)] at h
    refine ⟨fun h1 => (by rw [hB.1] at h1; cases h1), fun i hi => ?_⟩
    rw [hB.1] at hi
    obtain rfl : i = p := by simpa using hi
    have hdi : D i = true := hd i (by simp)
    have hrec := fun a' w' h' => wpAnyS_restI hD ps (listed.setIfInBounds i true) a' w' (fun j hj => hd j (by simp [hj])) hB.2 h'
    unfold wpOpIn
    simp only [h0]
    unfold wpListIn at h
    split
    · rename_i hq
      rw [if_pos hq] at h
      exact Oper.wpIn_mono (fun a' w' h' => ⟨fun e => (by rw [hdi] at e; cases e), hrec a' w' h'⟩) h
    · rename_i hq
      rw [if_neg hq] at h
      exact ⟨fun _ _ => trivial, fun e => (by rw [hdi] at e; cases e), hrec _ w h.2⟩
theorem wpAnyS_lateI (hnd : noDefer ops = true) : ∀ (mids rests : List Nat) (listed : Array Bool) (a : Act) (w : World), (∀ j ∈ rests, D j = true) → seqI md ops (mids ++ rests) listed = true → C w →
    LateL ro m P ops C Q (opsAt ops.toList mids) (opsAt ops.toList rests) a w → wpAnyS ro m P md ops C D Q (mids.length + rests.length) listed a w
  | [], rests, listed, a, w, hd, hB, hC, h => by
    rw [List.length_nil, Nat.zero_add]
    exact wpAnyS_restI (fun _ _ => trivial) rests listed a w hd hB h
  | p :: ps, rests, listed, a, w, hd, hB, hC, h => by
    simp only [List.cons_append, seqI, Bool.and_eq_true, decide_eq_true_eq] at hB
    obtain ⟨o, h0⟩ := ready_get hB.1
    rw [opsAt_cons (o := o) (by simpa using h0)] at h
    rw [List.length_cons, show ps.length + 1 + rests.length = (ps.length + rests.length) + 1 by omega]
    refine ⟨fun h1 => (by rw [hB.1] at h1; cases h1), fun i hi => ?_⟩
    rw [hB.1] at hi
    obtain rfl : i = p := by simpa using hi
    have hrec := fun a' w' hC' h' => wpAnyS_lateI hnd ps rests (listed.setIfInBounds i true) a' w' hd hB.2 hC' h'
    unfold wpOpIn
    simp only [h0]
    unfold LateL at h
    split
    · rename_i hq
      rw [if_pos hq] at h
      exact wpIn_of_wp (noDefer_spec hnd h0) (Oper.wp_mono (fun a' w' h' => ⟨fun _ => h'.1, hrec a' w' h'.1 h'.2⟩) h)
    · rename_i hq
      rw [if_neg hq] at h
      exact ⟨fun _ _ => trivial, fun _ => hC, hrec _ w hC h⟩

def mixB (l : List Oper) (hs ts1 ts2 : List Nat) : Bool :=
  Region.noSelect l.toArray && noDefer l.toArray && decide (hs.length + (ts1.length + ts2.length) = l.length) && (ts2.all fun j => decide (j < l.length)) &&
    earlyI .any l.toArray (fun j => ts2.contains j) hs (Array.replicate l.length false) && seqI .any l.toArray (ts1 ++ ts2) (listedI hs (Array.replicate l.length false))
/-- THE REGION: hs only yield values; ts1 keep to the class; ts2 wait for all of hs. -/
theorem wpIn_region_mix {id : Nat} {a : Act} {w : World} {l : List Oper} (hs ts1 ts2 : List Nat) (hm : P.follows .mixedOrders = true) (hB : mixB l hs ts1 ts2 = true)
    (hC : C { w with drawn := w.drawn + 1 }) (hQ : ∀ c (a : Act) (d : Option Tmp) (v : Value) w, Q (.panic c) (a.put d v) w → Q (.panic c) a w)
    (h : wpQuiet P l.toArray C (fun a' => ∀ w', C w' → LateL ro m P l.toArray C Q (opsAt l ts1) (opsAt l ts2) a' w') (opsAt l hs) a) :
    (Code.region id l.toArray true).wpIn (WF ro) m P Q a w := by
  simp only [mixB, Bool.and_eq_true, decide_eq_true_eq] at hB
  obtain ⟨⟨⟨⟨⟨hsel, hnd⟩, hlen⟩, hlt⟩, hearly⟩, hseq⟩ := hB
  have hsz : l.toArray.size = l.length := by simp
  refine wpIn_region_any hm ?_
  rw [hsz, ← hlen]
  refine wpAnyS_any (C := C) (D := fun j => ts2.contains j) _ _ _ _ ?_
  refine wpAnyS_earlyI (R := fun a' => ∀ w', C w' → LateL ro m P l.toArray C Q (opsAt l ts1) (opsAt l ts2) a' w') hnd hsel hQ (fun j hj => ?_) hs (Array.replicate (hs.length + (ts1.length + ts2.length)) false) a _ (by simp [hlen]) (fun j oj _ hl => (by rw [getD_replicate_false] at hl; cases hl)) hC (by rw [hlen]; exact hearly) h (fun a' w' hw' hR => ?_)
  · cases hc : ts2.contains j with
    | false => rfl
    | true =>
      have := List.all_eq_true.1 hlt j (by simpa using hc)
      simp only [decide_eq_true_eq] at this
      omega
  · exact wpAnyS_lateI hnd ts1 ts2 _ a' w' (fun j hj => by simpa using hj) (by rw [hlen]; exact hseq) hw' (hR w' hw')
end

end Go.Proofs.Ytnohglkilpnjhaa

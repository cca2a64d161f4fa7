/- Regions that draw their order, within a round of a range over a function (or anywhere in the wide fence): the laws of a class of worlds, told of a fence; and a first operation that nobody but a late one waits for. No condition. -/
import Derived.Test.YtnohglkilpnjhaaRegion
import Derived.OrdersIn
import Derived.RangeFuncCalls
import Derived.OwnWalkIn
import Derived.TacticsInMore
namespace Go.Proofs.Ytnohglkilpnjhaa
open Go.RowKit
set_option linter.unusedVariables false
set_option linter.unusedSimpArgs false

/-- The wide fence, in a round or not. -/
def WF (ro : Option Nat) : Fence := { Fence.wide with round := ro }
theorem wF_none : WF none = Fence.wide := rfl
theorem wF_some (l : Nat) : WF (some l) = Fence.wide.inRound l := rfl

section
variable {ro : Option Nat} {m : Nat} {P : Program} {ops : Array Oper} {md : Region.Mode} {C : World → Prop}

theorem callsIn_wF {f : FuncId} {args : Array Value} {w : World} {R : Ending → World → Prop} (h : Calls P f args w R) : CallsIn (WF ro) m P f args w R :=
  (callsIn_wide (n := m)).2 h

theorem rowsIn_wF {row : String} {args : Array Value} {w : World} {R : Value → World → Prop} (h : Rows P row args w R) : RowsIn (WF ro) m P row args w R := fun c cs _ => by
  obtain ⟨v, w', r, s⟩ := h c cs
  exact ⟨v, w', r, (stepsIn_wide (P := P)).2 s⟩

/-- An operation's law, told of the fence. -/
theorem wpIn_of_wp {o : Oper} {a : Act} {w : World} {K : Act → World → Prop} {Q : Exit → Act → World → Prop} (hd : ∀ c, o.op ≠ .defer c) (h : o.wp P a w K Q) : o.wpIn (WF ro) m P a w K Q := by
  refine ⟨fun _ _ => trivial, ?_⟩
  rw [Oper.semAt_eq _ _ _ hd]
  unfold Oper.wp at h
  generalize (execOp a.eval o).run P w = r at *
  cases r with
  | ok x w' =>
    cases x <;> simp only [Oper.upon] at h <;> simp only [Oper.uponIn]
    case value => exact h
    case skip => exact h
    case defer => exact h
    case enter => exact ⟨(fun h => by simp [WF, Fence.wide] at h), callsIn_wF h⟩
    case row => exact ⟨(fun h => by simp [WF, Fence.wide] at h), rowsIn_wF h⟩
  | halt x w' => cases x <;> simp only [Oper.upon] at h <;> simp only [Oper.uponIn] <;> exact h

/-- .. at the head of a list of operations. -/
theorem wpListIn_of_wp {ops : Array Oper} {rest : List Oper} {o : Oper} {a : Act} {w : World} {Q : Exit → Act → World → Prop} (hgd : o.guard = none) (hd : ∀ c, o.op ≠ .defer c)
    (h : o.wp P a w (wpListIn (WF ro) m P ops Q rest) Q) : wpListIn (WF ro) m P ops Q (o :: rest) a w :=
  wpListIn_plain hgd fun K hK => wpIn_of_wp hd (Oper.wp_mono hK h)

def noDefer (ops : Array Oper) : Bool := ops.all fun o => match o.op with | .defer _ => false | _ => true
theorem noDefer_spec {i : Nat} {o : Oper} (h : noDefer ops = true) (hi : ops[i]? = some o) : ∀ c, o.op ≠ .defer c := by
  intro c hc
  have := Array.all_eq_true_iff_forall_mem.1 h o (Array.mem_of_getElem? hi)
  rw [hc] at this
  cases this

theorem wpOpIn_of_qOp {i : Nat} {a : Act} {K : Act → Prop} {K' : Act → World → Prop} {Q' : Exit → Act → World → Prop} {w : World} (hnd : noDefer ops = true) (hC : C w) (h : ∀ a w', C w' → K a → K' a w') (hh : qOp P ops C i K a) :
    wpOpIn (WF ro) m P ops Q' i K' a w := by
  unfold qOp at hh
  unfold wpOpIn
  split
  · rename_i ho; simp only [ho] at hh; exact h _ _ hC hh
  · rename_i o ho
    simp only [ho] at hh
    split
    · rename_i hw; simp only [hw, if_true] at hh; exact wpIn_of_wp (noDefer_spec hnd ho) (Oper.wp_of_quiet hC h hh)
    · rename_i hw; simp only [hw] at hh; exact ⟨fun _ _ => trivial, h _ _ hC hh⟩

/-- Any order of operations; behind each that D does not name the world is of the class. -/
def wpAnyS (ro : Option Nat) (m : Nat) (P : Program) (md : Region.Mode) (ops : Array Oper) (C : World → Prop) (D : Nat → Bool) (Q : Exit → Act → World → Prop) : Nat → Array Bool → Act → World → Prop
  | 0, listed, a, w => Region.ready md ops listed = [] ∧ Q .normal a w
  | fuel + 1, listed, a, w =>
    (Region.ready md ops listed = [] → Q .normal a w) ∧
    ∀ i ∈ Region.ready md ops listed, wpOpIn (WF ro) m P ops Q i (fun a' w' => (D i = false → C w') ∧ wpAnyS ro m P md ops C D Q fuel (listed.setIfInBounds i true) a' w') a w

variable {D : Nat → Bool} {Q : Exit → Act → World → Prop}

theorem yieldsIn_wpOpIn {i : Nat} {oi : Oper} {v : Value} {a : Act} {w : World} {K : Act → World → Prop} (hnd : noDefer ops = true) (hi : ops[i]? = some oi) (hy : YieldsIn P ops C oi v a) (hC : C w) (h : ∀ w', C w' → K (a.put oi.dst v) w') :
    wpOpIn (WF ro) m P ops Q i K a w :=
  wpOpIn_of_qOp (C := C) (K := fun a' => a' = a.put oi.dst v) hnd hC (fun a' w' hw' e => by rw [e]; exact h w' hw') (hy.qOp hi rfl)

/-- An operation that yields one value and leaves the world: it may be taken first. -/
def StillIn (P : Program) (ops : Array Oper) (C : World → Prop) (o : Oper) (v : Value) (a : Act) : Prop :=
  Region.wanted o (yielded ops a.tmps) = true ∧ ∀ w, C w → (execOp a.eval o).run P w = .ok (.value v) w

theorem StillIn.of_same {o : Oper} {v : Value} {a a' : Act} (hy : StillIn P ops C o v a) (he : execOp a'.eval o = execOp a.eval o)
    (hw : Region.wanted o (yielded ops a'.tmps) = Region.wanted o (yielded ops a.tmps)) : StillIn P ops C o v a' := by
  unfold StillIn at *
  rw [he, hw]
  exact hy

theorem StillIn.wpOpIn {i : Nat} {o : Oper} {v : Value} {a : Act} {w : World} {K : Act → World → Prop} (hnd : noDefer ops = true) (hi : ops[i]? = some o) (hy : StillIn P ops C o v a) (hC : C w) (h : K (a.put o.dst v) w) :
    wpOpIn (WF ro) m P ops Q i K a w := by
  unfold Go.wpOpIn
  simp only [hi, hy.1, if_true]
  refine wpIn_of_wp (noDefer_spec hnd hi) ?_
  unfold Oper.wp
  rw [hy.2 w hC]
  exact h

theorem wpOpIn_putS {j : Nat} {oi oj : Oper} {v : Value} (hnd : noDefer ops = true) (hj : ops[j]? = some oj) (hap : oi.apart ops oj = true)
    (hsi : ∀ cs b, oi.op ≠ .select cs b) (hsj : ∀ cs b, oj.op ≠ .select cs b)
    (hQ : ∀ c a w, Q (.panic c) (a.put oi.dst v) w → Q (.panic c) a w) {K : Act → World → Prop} {a : Act} {w : World}
    (hy : StillIn P ops C oi v a) (h : wpOpIn (WF ro) m P ops Q j K (a.put oi.dst v) w) :
    wpOpIn (WF ro) m P ops Q j (fun a' w' => StillIn P ops C oi v a' ∧ K (a'.put oi.dst v) w') a w := by
  obtain ⟨h1, h2, h3⟩ := Oper.apart_spec hap
  have keep : ∀ (a : Act), StillIn P ops C oi v a → ∀ u, StillIn P ops C oi v (a.put oj.dst u) := fun a hy u =>
    hy.of_same (execOp_put oi hsi a oj.dst u h3) (wanted_put oi a oj.dst u h3)
  have hdj := noDefer_spec hnd hj
  unfold wpOpIn at *
  simp only [hj] at *
  rw [wanted_put oj a oi.dst v h1, about_put oj w a oi.dst v h1] at h
  split
  · rename_i hw
    simp only [hw, if_true] at h
    unfold Oper.wpIn at *
    refine ⟨fun _ _ => trivial, ?_⟩
    have h := h.2
    rw [Oper.semAt_eq _ _ _ hdj, execOp_put oj hsj a oi.dst v h1] at h
    rw [Oper.semAt_eq _ _ _ hdj]
    generalize hr : (execOp a.eval oj).run P w = r at *
    cases r with
    | ok x w' =>
      cases x <;> simp only [Oper.uponIn] at h ⊢
      case value u => exact ⟨keep a hy u, by rw [← Act.put_comm a v u h2]; exact h⟩
      case skip => exact ⟨keep a hy _, by rw [← Act.put_comm a v undef h2]; exact h⟩
      case defer d => exact ⟨(hy.of_same rfl rfl : StillIn P ops C oi v { a with defers := d :: a.defers }).of_same (execOp_put oi hsi _ oj.dst _ h3) (wanted_put oi _ oj.dst _ h3), by rw [← Act.put_comm _ v undef h2, ← Act.put_defers]; exact h⟩
      case enter f args =>
        refine ⟨h.1, CallsIn.mono h.2 fun e w'' he => ?_⟩
        cases e with
        | returned u => exact ⟨keep a hy u, by rw [← Act.put_comm a v u h2]; exact he⟩
        | panicked c => exact hQ _ _ _ he
        | outgrown => exact he
      case row row args => exact ⟨h.1, RowsIn.mono h.2 fun u w'' he => ⟨keep a hy u, by rw [← Act.put_comm a v u h2]; exact he⟩⟩
      case round l f tmps assign body =>
        refine ⟨h.1, RoundIn.mono h.2 fun e w'' he => ?_⟩
        cases e with
        | returned u => exact ⟨keep a hy u, by rw [← Act.put_comm a v u h2]; exact he⟩
        | panicked c => exact hQ _ _ _ he
        | outgrown => exact he
    | halt x w' =>
      cases x <;> simp only [Oper.uponIn] at h ⊢
      case panic u => exact hQ _ _ _ h
  · rename_i hw
    simp only [hw] at h
    exact ⟨fun _ _ => trivial, keep a hy _, by rw [← Act.put_comm a v undef h2]; exact h.2⟩

theorem wpAnyS_any : ∀ (fuel : Nat) (listed : Array Bool) (a : Act) (w : World), wpAnyS ro m P md ops C D Q fuel listed a w → wpAnyIn (WF ro) m P md ops Q fuel listed a w := by
  intro fuel
  induction fuel with
  | zero => intro listed a w h; exact h
  | succ fuel ih => intro listed a w h; exact ⟨h.1, fun i hi => wpOpIn_mono (fun a' w' h' => ih _ a' w' h'.2) (h.2 i hi)⟩

/-- THE LAW: an operation that yields one value in each world of the class, and leaves it, may be taken first, if whatever can come ahead of it keeps to the class. -/
theorem wpAnyS_first {i : Nat} {oi : Oper} {v : Value} (hnd : noDefer ops = true) (hi : ops[i]? = some oi) (hsel : ∀ (j : Nat) (o : Oper) cs b, ops[j]? = some o → o.op ≠ .select cs b)
    (hQ : ∀ c a w, Q (.panic c) (a.put oi.dst v) w → Q (.panic c) a w) (hDi : ∀ j, D j = true → Region.waitsFor md ops j i = true) :
    ∀ (fuel : Nat) (listed : Array Bool) (a : Act) (w : World),
      (∀ j oj, ops[j]? = some oj → j ≠ i → listed.getD j true = false → (∀ e ∈ oj.after, Region.binds md e = true → e.on ≠ i) → oi.apart ops oj = true) →
      i ∈ Region.ready md ops listed → StillIn P ops C oi v a → C w →
      wpAnyS ro m P md ops C D Q fuel (listed.setIfInBounds i true) (a.put oi.dst v) w → wpAnyIn (WF ro) m P md ops Q (fuel + 1) listed a w := by
  intro fuel
  induction fuel with
  | zero =>
    intro listed a w _ hr hy hC H
    refine ⟨fun h => (by rw [h] at hr; cases hr), fun j hj => ?_⟩
    by_cases hji : j = i
    · subst hji; exact hy.wpOpIn hnd hi hC H
    · have := ready_mono hj hji
      rw [H.1] at this
      cases this
  | succ fuel ih =>
    intro listed a w hfree hr hy hC H
    refine ⟨fun h => (by rw [h] at hr; cases hr), fun j hj => ?_⟩
    by_cases hji : j = i
    · subst hji; exact hy.wpOpIn hnd hi hC (wpAnyS_any _ _ _ _ H)
    · have h1 := H.2 j (ready_mono hj hji)
      obtain ⟨hjun, oj, hoj, hall⟩ := mem_ready.1 hj
      have hnot : ∀ e ∈ oj.after, Region.binds md e = true → e.on ≠ i := fun e he hb heq => by
        have h1 := hall e he hb
        have h0 := (mem_ready.1 hr).1
        rw [heq] at h1
        rcases Nat.lt_or_ge i listed.size with h' | h'
        · simp [h'] at h0 h1; rw [h0] at h1; cases h1
        · simp [Array.getElem?_eq_none h'] at h1
      have hDj : D j = false := by
        cases hd : D j with
        | false => rfl
        | true =>
          obtain ⟨oj', hoj', e, he, hb, hon⟩ := Region.waitsFor_spec (hDi j hd)
          rw [hoj] at hoj'
          cases hoj'
          exact absurd hon (hnot e he hb)
      have h2 := wpOpIn_putS (C := C) hnd hoj (hfree j oj hoj hji hjun hnot) (fun cs b => hsel i oi cs b hi) (fun cs b => hsel j oj cs b hoj) hQ hy h1
      have hfree' : ∀ k ok, ops[k]? = some ok → k ≠ i → (listed.setIfInBounds j true).getD k true = false →
          (∀ e ∈ ok.after, Region.binds md e = true → e.on ≠ i) → oi.apart ops ok = true := fun k ok hk hki hun hno => by
        refine hfree k ok hk hki ?_ hno
        by_cases hjk : j = k
        · subst hjk; exact hjun
        · rw [getD_set_ne true hjk] at hun; exact hun
      refine wpOpIn_mono (fun a' w' h3 => ih (listed.setIfInBounds j true) a' w' hfree' (ready_mono hr (Ne.symm hji)) h3.1 (h3.2.1 hDj) ?_) h2
      rw [Array.setIfInBounds_comm _ _ hji]
      exact h3.2.2

theorem wpAnyS_of_headQ {n g : Nat} {L : Array Bool → Act → Prop} (hnd : noDefer ops = true) (hL : ∀ listed a w, C w → L listed a → wpAnyS ro m P md ops C D Q g listed a w) :
    ∀ (f : Nat) (listed : Array Bool) (a : Act) (w : World), C w → wpHeadQ P md ops C n L f listed a → wpAnyS ro m P md ops C D Q (f + g) listed a w := by
  intro f
  induction f with
  | zero => intro listed a w hw h; rw [Nat.zero_add]; exact hL _ _ _ hw h
  | succ f ih =>
    intro listed a w hw h
    rw [show f + 1 + g = (f + g) + 1 by omega]
    exact ⟨fun h0 => absurd h0 h.1, fun i hi => wpOpIn_of_qOp hnd hw (fun a' w' hw' h' => ⟨fun _ => hw', ih _ a' w' hw' h'⟩) (h.2 i hi).2⟩

/-- A list of operations; behind each that D does not name the world is of the class. -/
def wpListS (ro : Option Nat) (m : Nat) (P : Program) (ops : Array Oper) (C : World → Prop) (D : Nat → Bool) (Q : Exit → Act → World → Prop) : Nat → List Oper → Act → World → Prop
  | _, [], a, w => Q .normal a w
  | k, o :: rest, a, w =>
    if Region.wanted o (yielded ops a.tmps) then o.wpIn (WF ro) m P a w (fun a' w' => (D k = false → C w') ∧ wpListS ro m P ops C D Q (k + 1) rest a' w') Q
    else (D k = false → C w) ∧ wpListS ro m P ops C D Q (k + 1) rest (a.put o.dst undef) w

theorem wpAnyS_of_seq : ∀ (l : List Oper) (k : Nat) (listed : Array Bool) (a : Act) (w : World), (∀ j, l[j]? = ops[k + j]?) →
    Region.seqB md ops l.length k listed = true → wpListS ro m P ops C D Q k l a w → wpAnyS ro m P md ops C D Q l.length listed a w
  | [], _, _, _, _, _, hB, h => ⟨by simpa [Region.seqB] using hB, h⟩
  | o :: l, k, listed, a, w, hl, hB, h => by
    have h0 : ops[k]? = some o := by simpa using (hl 0).symm
    simp only [List.length_cons, Region.seqB, Bool.and_eq_true, decide_eq_true_eq] at hB
    refine ⟨fun h1 => (by rw [hB.1] at h1; cases h1), fun i hi => ?_⟩
    rw [hB.1] at hi
    have hik : i = k := by simpa using hi
    subst hik
    have hw : wpOpIn (WF ro) m P ops Q i (fun a' w' => (D i = false → C w') ∧ wpListS ro m P ops C D Q (i + 1) l a' w') a w := by
      unfold wpOpIn
      simp only [h0]
      unfold wpListS at h
      split
      · rename_i hq; rw [if_pos hq] at h; exact h
      · rename_i hq; rw [if_neg hq] at h; exact ⟨fun _ _ => trivial, h⟩
    exact wpOpIn_mono (fun a' w' h' => ⟨h'.1, wpAnyS_of_seq l (i + 1) _ a' w' (fun j => by have := hl (j + 1); simpa [Nat.add_assoc, Nat.add_comm 1 j] using this) hB.2 h'.2⟩) hw

/-- Operations that all wait: nothing is asked of the class. -/
theorem wpListS_of_list : ∀ (l : List Oper) (k : Nat) (a : Act) (w : World), (∀ j, k ≤ j → j < k + l.length → D j = true) → wpListIn (WF ro) m P ops Q l a w → wpListS ro m P ops C D Q k l a w
  | [], _, _, _, _, h => h
  | o :: l, k, a, w, hD, h => by
    have hk : D k = true := hD k (Nat.le_refl _) (by simp)
    unfold wpListS
    unfold wpListIn at h
    split
    · rename_i hq
      rw [if_pos hq] at h
      exact Oper.wpIn_mono (fun a' w' h' => ⟨(fun e => by rw [hk] at e; cases e), wpListS_of_list l (k + 1) a' w' (fun j h1 h2 => hD j (by omega) (by simp only [List.length_cons]; omega)) h'⟩) h
    · rename_i hq
      rw [if_neg hq] at h
      exact ⟨(fun e => by rw [hk] at e; cases e), wpListS_of_list l (k + 1) _ w (fun j h1 h2 => hD j (by omega) (by simp only [List.length_cons]; omega)) h.2⟩

/-- What is owed of the one operation behind the head, and of those behind it (a word, that no simp set opens). -/
def Late (ro : Option Nat) (m : Nat) (P : Program) (ops : Array Oper) (C : World → Prop) (Q : Exit → Act → World → Prop) (ob : Oper) (rest : List Oper) (a : Act) (w : World) : Prop :=
  ob.wp P a w (fun a'' w'' => C w'' ∧ wpListIn (WF ro) m P ops Q rest a'' w'') Q
theorem Late.mk {ro : Option Nat} {m : Nat} {P : Program} {ops : Array Oper} {C : World → Prop} {Q : Exit → Act → World → Prop} {ob : Oper} {rest : List Oper} {a : Act} {w : World} (h : ob.wp P a w (fun a'' w'' => C w'' ∧ wpListIn (WF ro) m P ops Q rest a'' w'') Q) : Late ro m P ops C Q ob rest a w := h

/-- THE REGION: its first operation only reads; the head's others (up to n) yield one value each in every world of the class; then one operation that keeps to the class; then operations that wait for all. -/
theorem wpIn_region_late {id : Nat} {a : Act} {w : World} {o ob : Oper} {l : List Oper} (n : Nat) (v : Value) (hm : P.follows .mixedOrders = true) (hgo : o.guard = none) (hob : (o :: l)[n]? = some ob) (hgb : ob.guard = none)
    (hT : (Region.noSelect (o :: l).toArray && noDefer (o :: l).toArray && Region.free .any (o :: l).toArray (Array.replicate (l.length + 1) false) 0 && (Region.ready .any (o :: l).toArray (Array.replicate (l.length + 1) false)).contains 0) = true)
    (hB : (decide (n < l.length + 1) && decide (1 ≤ n) && invB .any (o :: l).toArray n ((Array.replicate (l.length + 1) false).setIfInBounds 0 true) && sinkU .any (o :: l).toArray n ((Array.replicate (l.length + 1) false).setIfInBounds 0 true) && Region.chainB .any (o :: l).toArray n && Region.lexHead .any (o :: l).toArray (l.length + 1 - n) (n - 1) 1 ((Array.replicate (l.length + 1) false).setIfInBounds 0 true)) = true)
    (hD : ((List.range (l.length + 1)).all fun j => decide (j ≤ n) || Region.waitsFor .any (o :: l).toArray j 0) = true)
    (hC : C { w with drawn := w.drawn + 1 }) (hy : ∀ w, C w → (execOp a.eval o).run P w = .ok (.value v) w) (hQ : ∀ c a w, Q (.panic c) (a.put o.dst v) w → Q (.panic c) a w)
    (h : wpQuiet P (o :: l).toArray C (fun a' => ∀ w', C w' → Late ro m P (o :: l).toArray C Q ob ((o :: l).drop (n + 1)) a' w') (((o :: l).take n).drop 1) (a.put o.dst v)) :
    (Code.region id (o :: l).toArray true).wpIn (WF ro) m P Q a w := by
  simp only [Bool.and_eq_true, decide_eq_true_eq] at hT hB
  obtain ⟨⟨⟨hsel, hnd⟩, hfree⟩, hready⟩ := hT
  obtain ⟨⟨⟨⟨⟨hn, hm1⟩, hinv⟩, hs⟩, hc⟩, hlex⟩ := hB
  have hsz : (o :: l).toArray.size = l.length + 1 := by simp
  let D : Nat → Bool := fun j => decide (n < j) && decide (j < l.length + 1)
  have hDi : ∀ j, D j = true → Region.waitsFor .any (o :: l).toArray j 0 = true := fun j hj => by
    simp only [D, Bool.and_eq_true, decide_eq_true_eq] at hj
    have := List.all_eq_true.1 hD j (List.mem_range.2 hj.2)
    simpa [show ¬ j ≤ n by omega] using this
  refine wpIn_region_any hm ?_
  rw [hsz]
  refine wpAnyS_first (C := C) (D := D) (i := 0) (oi := o) (v := v) hnd (by simp) (Region.noSelect_spec hsel) hQ hDi l.length _ a _ (Region.free_spec (by simp) hfree) (by simpa using hready)
    ⟨by simp [Region.wanted, hgo], hy⟩ hC ?_
  have htl : (((o :: l).take n).drop 1).length = n - 1 := by simp; omega
  have hdl : ((o :: l).drop n).length = l.length + 1 - n := by simp
  have H := wpHeadQ_lexU (md := .any) (C := C) (g := l.length + 1 - n) (l0 := (Array.replicate (l.length + 1) false).setIfInBounds 0 true) hsel hs hc (by rw [hsz]; exact hn) (((o :: l).take n).drop 1) 1 _ _ (fun j hj => by
    have hj' : j < n - 1 := by rw [htl] at hj; exact hj
    rw [List.getElem?_drop, List.getElem?_take, if_pos (by omega)]
    simp) (by rw [htl]; omega) (invB_spec hinv) (fun _ h => h) (by rw [htl]; exact hlex) h
  have := wpAnyS_of_headQ (ro := ro) (m := m) (D := D) (Q := Q) (g := l.length + 1 - n) hnd (fun listed a' w' hw' hL => by
    have hdrop : (o :: l).drop n = ob :: (o :: l).drop (n + 1) := by
      rw [List.drop_eq_getElem_cons (by simpa using hn)]
      congr 1
      rw [List.getElem?_eq_getElem (by simpa using hn)] at hob
      exact Option.some.inj hob
    have hob0 : (o :: l).toArray[n]? = some ob := by simpa using hob
    have hlist : wpListS ro m P (o :: l).toArray C D Q n ((o :: l).drop n) a' w' := by
      rw [hdrop]
      unfold wpListS
      rw [if_pos (by simp [Region.wanted, hgb])]
      refine Oper.wpIn_mono (fun a'' w'' h'' => ⟨fun _ => h''.1, wpListS_of_list _ _ _ _ (fun j h1 h2 => ?_) h''.2⟩) (wpIn_of_wp (noDefer_spec hnd hob0) (hL.2 w' hw'))
      simp only [List.length_drop, List.length_cons] at h2
      simp only [D, Bool.and_eq_true, decide_eq_true_eq]
      omega
    have := wpAnyS_of_seq (md := .any) (Q := Q) ((o :: l).drop n) n listed a' w' (fun j => by simp [List.getElem?_drop]) (by rw [hdl]; exact hL.1) hlist
    rwa [hdl] at this) _ _ _ _ hC H
  rw [htl, show n - 1 + (l.length + 1 - n) = l.length by omega] at this
  exact this

/-- .. the head alone, then operations in one order. -/
theorem wpIn_region_class {id : Nat} {a : Act} {w : World} {l : List Oper} (n : Nat) (hm : P.follows .mixedOrders = true) (hB : (Region.lexTailB .any l.toArray n && noDefer l.toArray) = true) (hC : C { w with drawn := w.drawn + 1 })
    (h : wpQuiet P l.toArray C (fun a' => ∀ w', C w' → wpListIn (WF ro) m P l.toArray Q (l.drop n) a' w') (l.take n) a) : (Code.region id l.toArray true).wpIn (WF ro) m P Q a w := by
  simp only [Region.lexTailB, Bool.and_eq_true, decide_eq_true_eq] at hB
  obtain ⟨⟨⟨⟨⟨hsel, hn⟩, hs⟩, hc⟩, hlex⟩, hnd⟩ := hB
  have hn' : n < l.length := by simpa using hn
  have htl : (l.take n).length = n := by simp; omega
  have hdl : (l.drop n).length = l.toArray.size - n := by simp
  have H := wpHeadQ_lex (md := .any) (C := C) (g := l.toArray.size - n) hsel hs hc hn (l.take n) 0 (Array.replicate l.toArray.size false) a (fun j hj => by
    have hj' : j < n := by rw [htl] at hj; exact hj
    simp [hj']) (by simpa using htl)
    ⟨by simp, fun j oj _ hl => (by rw [getD_replicate_false] at hl; cases hl), fun t _ ht => getD_in (by simpa using ht) (getD_replicate_false _ _)⟩ (by rw [htl]; exact hlex) h
  refine wpIn_region_any hm ?_
  have := wpAnyS_of_headQ (ro := ro) (m := m) (D := fun _ => true) (Q := Q) (g := l.toArray.size - n) hnd (fun listed a' w' hw' hL => by
    have := wpAnyS_of_seq (ro := ro) (m := m) (C := C) (D := fun _ => true) (md := .any) (Q := Q) (l.drop n) n listed a' w' (fun j => by simp [List.getElem?_drop]) (by rw [hdl]; exact hL.1) (wpListS_of_list _ _ _ _ (fun _ _ _ => rfl) (hL.2 w' hw'))
    rwa [hdl] at this) _ _ _ _ hC H
  rw [htl, show n + (l.toArray.size - n) = l.toArray.size by omega] at this
  exact wpAnyS_any _ _ _ _ this

end
theorem wpListIn_round {l m : Nat} {P : Program} {ops : Array Oper} {rest : List Oper} {o : Oper} {a : Act} {w : World} {Q : Exit → Act → World → Prop} (hgd : o.guard = none) (hd : ∀ c, o.op ≠ .defer c)
    (h : o.wp P a w (wpListIn (Fence.wide.inRound l) m P ops Q rest) Q) : wpListIn (Fence.wide.inRound l) m P ops Q (o :: rest) a w := wpListIn_of_wp (ro := some l) hgd hd h

end Go.Proofs.Ytnohglkilpnjhaa

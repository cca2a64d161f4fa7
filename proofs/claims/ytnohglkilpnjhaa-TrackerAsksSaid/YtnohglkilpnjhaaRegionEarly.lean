/- Regions that draw their order: operations that only read and are waited for late (taken first, one by one), quiet ones, some that keep to a class of worlds, then those that wait for all. No condition. -/
import Derived.Test.YtnohglkilpnjhaaGa
namespace Go.Proofs.Ytnohglkilpnjhaa
open Go.RowKit
set_option linter.unusedVariables false
set_option linter.unusedSimpArgs false

/-- An operation that only yields a value. -/
def earlyOp (o : Oper) : Bool := o.guard.isNone && match o.op with
  | .move _ | .load .. | .indexAddr .. | .fieldAddr .. | .convert .. | .slice .. | .extract .. | .nilCheck _ => true
  | _ => false

theorem only_value {P : Program} {w w' : World} {s : Sem Value} {r : Next} (h : (do pure (Next.value (← s)) : Sem Next).run P w = .ok r w') : ∃ u, r = .value u := by
  simp only [Sem.run_bind] at h
  generalize s.run P w = q at h
  cases q with
  | ok x w2 => simp [Sem.run_pure, Result.andThen] at h; exact ⟨x, h.1.symm⟩
  | halt x w2 => simp [Result.andThen] at h

theorem early_value {P : Program} {o : Oper} {ρ : Operand → Value} {w w' : World} {r : Next} (h : earlyOp o = true) (hr : (execOp ρ o).run P w = .ok r w') : ∃ u, r = .value u := by
  unfold earlyOp at h
  unfold execOp at hr
  cases ho : o.op <;> simp [ho] at h <;> simp only [ho] at hr
  case move => simp [Sem.run_pure] at hr; exact ⟨_, hr.1.symm⟩
  case nilCheck x =>
    split at hr
    all_goals first
      | exact only_value hr
      | (simp [Sem.run_pure] at hr; exact ⟨_, hr.1.symm⟩)
      | (simp [go_sem] at hr)
      | skip
    split at hr
    · simp [go_sem] at hr
    · simp only [Sem.run_bind] at hr
      generalize Sem.run P _ w = q0 at hr
      cases q0 with
      | halt x2 w2 => simp [Result.andThen] at hr
      | ok pp w2 =>
        simp only [Result.andThen] at hr
        generalize Sem.run P _ w2 = q at hr
        cases q with
        | halt x2 w2 => simp [Result.andThen] at hr
        | ok b w3 =>
          simp only [Result.andThen] at hr
          split at hr
          · simp [go_sem, Sem.run_bind, Result.andThen] at hr; exact ⟨_, hr.1.symm⟩
          · simp [go_sem, Sem.run_pure, Sem.run_bind, Result.andThen] at hr
    · simp [Sem.run_pure] at hr; exact ⟨_, hr.1.symm⟩
  all_goals exact only_value hr

section
variable {ro : Option Nat} {m : Nat} {P : Program} {ops : Array Oper} {md : Region.Mode} {C : World → Prop} {D : Nat → Bool} {Q : Exit → Act → World → Prop}

theorem still_of_quiet {o : Oper} {v : Value} {a : Act} (he : earlyOp o = true) (hq : ∀ w, C w → o.quietAt P a C w v) : StillIn P ops C o v a := by
  have hg : o.guard = none := by
    unfold earlyOp at he
    simp only [Bool.and_eq_true, Option.isNone_iff_eq_none] at he
    exact he.1
  refine ⟨by simp [Region.wanted, hg], fun w hw => ?_⟩
  have h := hq w hw
  unfold Oper.quietAt at h
  cases hr : (execOp a.eval o).run P w with
  | ok r w' =>
    rw [hr] at h
    obtain ⟨u, rfl⟩ := early_value he hr
    simp only [Oper.quietUpon] at h
    rw [h.1, h.2]
  | halt x w' => rw [hr] at h; simp [Oper.quietUpon] at h

/-- j waits for i, by whatever way. -/
inductive WaitsT (md : Region.Mode) (ops : Array Oper) (i : Nat) : Nat → Prop
  | one {j : Nat} : Region.waitsFor md ops j i = true → WaitsT md ops i j
  | more {j k : Nat} : Region.waitsFor md ops j k = true → WaitsT md ops i k → WaitsT md ops i j

def waitsB (md : Region.Mode) (ops : Array Oper) (i : Nat) : Nat → Nat → Bool
  | 0, _ => false
  | f + 1, j => Region.waitsFor md ops j i || (List.range ops.size).any fun k => Region.waitsFor md ops j k && waitsB md ops i f k
theorem waitsB_spec {i : Nat} : ∀ (f j : Nat), waitsB md ops i f j = true → WaitsT md ops i j
  | 0, _, h => by simp [waitsB] at h
  | f + 1, j, h => by
    simp only [waitsB, Bool.or_eq_true, List.any_eq_true, Bool.and_eq_true] at h
    rcases h with h | ⟨k, _, h1, h2⟩
    · exact .one h
    · exact .more h1 (waitsB_spec f k h2)

def ClosedL (md : Region.Mode) (ops : Array Oper) (listed : Array Bool) : Prop :=
  ∀ j oj, ops[j]? = some oj → listed.getD j false = true → ∀ e ∈ oj.after, Region.binds md e = true → listed.getD e.on false = true

theorem not_ready {listed : Array Bool} {i j : Nat} (hcl : ClosedL md ops listed) (hi : listed.getD i false = false) (hw : WaitsT md ops i j) : j ∉ Region.ready md ops listed ∧ listed.getD j false = false := by
  induction hw with
  | @one j h =>
    obtain ⟨oj, hoj, e, he, hb, hon⟩ := Region.waitsFor_spec h
    refine ⟨fun hr => ?_, ?_⟩
    · obtain ⟨_, oj', hoj', hall⟩ := mem_ready.1 hr
      rw [hoj] at hoj'
      cases hoj'
      have := hall e he hb
      rw [hon, hi] at this
      cases this
    · cases hl : listed.getD j false with
      | false => rfl
      | true =>
        have := hcl j oj hoj hl e he hb
        rw [hon, hi] at this
        cases this
  | @more j k h _ ih =>
    obtain ⟨oj, hoj, e, he, hb, hon⟩ := Region.waitsFor_spec h
    refine ⟨fun hr => ?_, ?_⟩
    · obtain ⟨_, oj', hoj', hall⟩ := mem_ready.1 hr
      rw [hoj] at hoj'
      cases hoj'
      have := hall e he hb
      rw [hon, ih.2] at this
      cases this
    · cases hl : listed.getD j false with
      | false => rfl
      | true =>
        have := hcl j oj hoj hl e he hb
        rw [hon, ih.2] at this
        cases this

theorem ClosedL.set {listed : Array Bool} {j : Nat} (hcl : ClosedL md ops listed) (hj : j ∈ Region.ready md ops listed) (hsz : listed.size = ops.size) : ClosedL md ops (listed.setIfInBounds j true) := by
  intro k ok hk hl e he hb
  have keep : ∀ x, listed.getD x false = true → (listed.setIfInBounds j true).getD x false = true := fun x hx => by
    by_cases q : j = x
    · subst q
      have hlt : j < listed.size := by
        rcases Nat.lt_or_ge j listed.size with h | h
        · exact h
        · simp [Array.getElem?_eq_none h] at hx
      simp [hlt]
    · rw [getD_set_ne false q]; exact hx
  obtain ⟨_, oj, hoj, hall⟩ := mem_ready.1 hj
  by_cases q : j = k
  · subst q
    rw [hoj] at hk
    cases hk
    exact keep _ (hall e he hb)
  · rw [getD_set_ne false q] at hl
    exact keep _ (hcl k ok hk hl e he hb)

/-- An early operation may be taken first. -/
theorem wpAnyS_take {i : Nat} {oi : Oper} {v : Value} (hnd : noDefer ops = true) (hi : ops[i]? = some oi) (hsel : ∀ (j : Nat) (o : Oper) cs b, ops[j]? = some o → o.op ≠ .select cs b)
    (hQ : ∀ c (a : Act) (d : Option Tmp) (v : Value) w, Q (.panic c) (a.put d v) w → Q (.panic c) a w) (hDi : ∀ j, D j = true → WaitsT md ops i j) :
    ∀ (fuel : Nat) (listed : Array Bool) (a : Act) (w : World), listed.size = ops.size → ClosedL md ops listed →
      (∀ j oj, ops[j]? = some oj → j ≠ i → listed.getD j true = false → (∀ e ∈ oj.after, Region.binds md e = true → e.on ≠ i) → oi.apart ops oj = true) →
      i ∈ Region.ready md ops listed → StillIn P ops C oi v a → C w →
      wpAnyS ro m P md ops C D Q fuel (listed.setIfInBounds i true) (a.put oi.dst v) w → wpAnyS ro m P md ops C D Q (fuel + 1) listed a w := by
  intro fuel
  induction fuel with
  | zero =>
    intro listed a w _ _ _ hr hy hC H
    refine ⟨fun h => (by rw [h] at hr; cases hr), fun j hj => ?_⟩
    by_cases hji : j = i
    · subst hji; exact hy.wpOpIn hnd hi hC ⟨fun _ => hC, H⟩
    · have := ready_mono hj hji
      rw [H.1] at this
      cases this
  | succ fuel ih =>
    intro listed a w hsz hcl hfree hr hy hC H
    refine ⟨fun h => (by rw [h] at hr; cases hr), fun j hj => ?_⟩
    by_cases hji : j = i
    · subst hji; exact hy.wpOpIn hnd hi hC ⟨fun _ => hC, H⟩
    · have h1 := H.2 j (ready_mono hj hji)
      obtain ⟨hjun, oj, hoj, hall⟩ := mem_ready.1 hj
      have h0 := (mem_ready.1 hr).1
      have h0f : listed.getD i false = false := getD_both h0
      have hnot : ∀ e ∈ oj.after, Region.binds md e = true → e.on ≠ i := fun e he hb heq => by
        have h1 := hall e he hb
        rw [heq, h0f] at h1
        cases h1
      have hDj : D j = false := by
        cases hd : D j with
        | false => rfl
        | true => exact absurd hj (not_ready hcl h0f (hDi j hd)).1
      have h2 := wpOpIn_putS (C := C) hnd hoj (hfree j oj hoj hji hjun hnot) (fun cs b => hsel i oi cs b hi) (fun cs b => hsel j oj cs b hoj) (fun c a w h => hQ c _ _ _ w h) hy h1
      have hfree' : ∀ k ok, ops[k]? = some ok → k ≠ i → (listed.setIfInBounds j true).getD k true = false →
          (∀ e ∈ ok.after, Region.binds md e = true → e.on ≠ i) → oi.apart ops ok = true := fun k ok hk hki hun hno => by
        refine hfree k ok hk hki ?_ hno
        by_cases hjk : j = k
        · subst hjk; exact hjun
        · rw [getD_set_ne true hjk] at hun; exact hun
      refine wpOpIn_mono (fun a' w' h3 => ⟨h3.2.1, ih (listed.setIfInBounds j true) a' w' (by simpa using hsz) (hcl.set hj hsz) hfree' (ready_mono hr (Ne.symm hji)) h3.1 (h3.2.1 hDj) ?_⟩) h2
      rw [Array.setIfInBounds_comm _ _ hji]
      exact h3.2.2

def earlyB (md : Region.Mode) (ops : Array Oper) (D : Nat → Bool) : Nat → Nat → Array Bool → Bool
  | 0, _, _ => true
  | f + 1, p, listed => (Region.ready md ops listed).contains p && Region.free md ops listed p && (match ops[p]? with | some o => earlyOp o | none => false) &&
      ((List.range ops.size).all fun j => !D j || waitsB md ops p ops.size j) && earlyB md ops D f (p + 1) (listed.setIfInBounds p true)
def listedTo (f p : Nat) (listed : Array Bool) : Array Bool := match f with
  | 0 => listed
  | f + 1 => listedTo f (p + 1) (listed.setIfInBounds p true)

/-- The early operations, one by one. -/
theorem wpAnyS_early (hnd : noDefer ops = true) (hsel : Region.noSelect ops = true) (hQ : ∀ c (a : Act) (d : Option Tmp) (v : Value) w, Q (.panic c) (a.put d v) w → Q (.panic c) a w) (hD : ∀ j, ops.size ≤ j → D j = false) {R : Act → Prop} {g : Nat} (l : List Oper) :
    ∀ (p : Nat) (listed : Array Bool) (a : Act) (w : World), (∀ j, j < l.length → l[j]? = ops[p + j]?) → listed.size = ops.size → ClosedL md ops listed → C w → earlyB md ops D l.length p listed = true →
      wpQuiet P ops C R l a → (∀ a' w, C w → R a' → wpAnyS ro m P md ops C D Q g (listedTo l.length p listed) a' w) → wpAnyS ro m P md ops C D Q (l.length + g) listed a w := by
  induction l with
  | nil =>
    intro p listed a w _ _ _ hC _ h hL
    rw [List.length_nil, Nat.zero_add]
    exact hL a w hC h
  | cons o l ih =>
    intro p listed a w hl hsz hcl hC hB h hL
    have h0 : ops[p]? = some o := by simpa using (hl 0 (by simp)).symm
    simp only [List.length_cons, earlyB, Bool.and_eq_true, h0] at hB
    obtain ⟨⟨⟨⟨hr, hf⟩, he⟩, hw⟩, hB⟩ := hB
    have hr' : p ∈ Region.ready md ops listed := by simpa using hr
    have hg : o.guard = none := by
      have := he
      unfold earlyOp at this
      simp only [Bool.and_eq_true, Option.isNone_iff_eq_none] at this
      exact this.1
    have hq : o.quiet P a C (wpQuiet P ops C R l) := by
      have h' : if Region.wanted o (yielded ops a.tmps) then o.quiet P a C (wpQuiet P ops C R l) else wpQuiet P ops C R l (a.put o.dst undef) := h
      rwa [if_pos (by simp [Region.wanted, hg])] at h'
    obtain ⟨v, hv, hK⟩ := hq
    have hDi : ∀ j, D j = true → WaitsT md ops p j := fun j hj => by
      have hjs : j < ops.size := by
        rcases Nat.lt_or_ge j ops.size with h | h
        · exact h
        · rw [hD j h] at hj; cases hj
      have := List.all_eq_true.1 hw j (List.mem_range.2 hjs)
      simp only [hj, Bool.not_true, Bool.false_or] at this
      exact waitsB_spec _ _ this
    rw [List.length_cons, show l.length + 1 + g = (l.length + g) + 1 by omega]
    refine wpAnyS_take hnd h0 (Region.noSelect_spec hsel) hQ hDi (l.length + g) listed a w hsz hcl (Region.free_spec h0 hf) hr' (still_of_quiet he hv) hC ?_
    exact ih (p + 1) _ _ w (fun j hj => by have := hl (j + 1) (by simp; omega); simpa [Nat.add_assoc, Nat.add_comm 1 j] using this) (by simpa using hsz) (hcl.set hr' hsz) hC hB hK hL

/-- What is owed behind the head: some operations that keep to the class, then the others. -/
def LateL (ro : Option Nat) (m : Nat) (P : Program) (ops : Array Oper) (C : World → Prop) (Q : Exit → Act → World → Prop) : List Oper → List Oper → Act → World → Prop
  | [], rest, a, w => wpListIn (WF ro) m P ops Q rest a w
  | o :: mid, rest, a, w => if Region.wanted o (yielded ops a.tmps) then o.wp P a w (fun a' w' => C w' ∧ LateL ro m P ops C Q mid rest a' w') Q else LateL ro m P ops C Q mid rest (a.put o.dst undef) w
theorem LateL.nil {rest : List Oper} {a : Act} {w : World} (h : wpListIn (WF ro) m P ops Q rest a w) : LateL ro m P ops C Q [] rest a w := h
theorem LateL.cons {o : Oper} {mid rest : List Oper} {a : Act} {w : World} (hg : o.guard = none) (h : o.wp P a w (fun a' w' => C w' ∧ LateL ro m P ops C Q mid rest a' w') Q) : LateL ro m P ops C Q (o :: mid) rest a w := by
  unfold LateL
  rw [if_pos (by simp [Region.wanted, hg])]
  exact h

theorem wpListS_of_late (hnd : ∀ o, o ∈ ops.toList → ∀ c, o.op ≠ .defer c) : ∀ (mid rest : List Oper) (k : Nat) (a : Act) (w : World), (∀ o ∈ mid, o ∈ ops.toList) → C w → (∀ j, k + mid.length ≤ j → j < k + mid.length + rest.length → D j = true) →
    LateL ro m P ops C Q mid rest a w → wpListS ro m P ops C D Q k (mid ++ rest) a w
  | [], rest, k, a, w, _, _, hD, h => wpListS_of_list _ _ _ _ (fun j h1 h2 => hD j (by simpa using h1) (by simpa using h2)) h
  | o :: mid, rest, k, a, w, hm, hC, hD, h => by
    rw [List.cons_append]
    unfold wpListS
    unfold LateL at h
    have hrec := fun a' w' hC' h' => wpListS_of_late hnd mid rest (k + 1) a' w' (fun o ho => hm o (by simp [ho])) hC' (fun j h1 h2 => hD j (by simp only [List.length_cons]; omega) (by simp only [List.length_cons]; omega)) h'
    split
    · rename_i hq
      rw [if_pos hq] at h
      exact Oper.wpIn_mono (fun a' w' h' => ⟨fun _ => h'.1, hrec a' w' h'.1 h'.2⟩) (wpIn_of_wp (hnd o (hm o (by simp))) h)
    · rename_i hq
      rw [if_neg hq] at h
      exact ⟨fun _ => hC, hrec _ w hC h⟩

/-- THE REGION: the first e operations only read; those up to n yield one value each in every world of the class; those up to k keep to the class; the others wait for the early ones. -/
theorem wpIn_region_early {id : Nat} {a : Act} {w : World} {l : List Oper} (e n k : Nat) (hm : P.follows .mixedOrders = true)
    (hB : (Region.noSelect l.toArray && noDefer l.toArray && decide (e ≤ n) && decide (n ≤ k) && decide (k ≤ l.length) && decide (n < l.length) && earlyB .any l.toArray (fun j => decide (k ≤ j) && decide (j < l.length)) e 0 (Array.replicate l.length false) &&
      invB .any l.toArray n (listedTo e 0 (Array.replicate l.length false)) && sinkU .any l.toArray n (listedTo e 0 (Array.replicate l.length false)) && Region.chainB .any l.toArray n &&
      Region.lexHead .any l.toArray (l.length - n) (n - e) e (listedTo e 0 (Array.replicate l.length false))) = true)
    (hC : C { w with drawn := w.drawn + 1 }) (hQ : ∀ c (a : Act) (d : Option Tmp) (v : Value) w, Q (.panic c) (a.put d v) w → Q (.panic c) a w)
    (h : wpQuiet P l.toArray C (fun a' => ∀ w', C w' → LateL ro m P l.toArray C Q ((l.take k).drop n) (l.drop k) a' w') (l.take n) a) :
    (Code.region id l.toArray true).wpIn (WF ro) m P Q a w := by
  simp only [Bool.and_eq_true, decide_eq_true_eq] at hB
  obtain ⟨⟨⟨⟨⟨⟨⟨⟨⟨⟨hsel, hnd⟩, hen⟩, hnk⟩, hkl⟩, hnl⟩, hearly⟩, hinv⟩, hs⟩, hc⟩, hlex⟩ := hB
  have hsz : l.toArray.size = l.length := by simp
  refine wpIn_region_any hm ?_
  rw [hsz]
  obtain ⟨D, hDd⟩ : ∃ D : Nat → Bool, D = fun j => decide (k ≤ j) && decide (j < l.length) := ⟨_, rfl⟩
  rw [← hDd] at hearly
  have hDo : ∀ j, l.toArray.size ≤ j → D j = false := fun j hj => by rw [hDd]; simp; omega
  refine wpAnyS_any (C := C) (D := D) _ _ _ _ ?_
  have hte : (l.take e).length = e := by simp; omega
  have htn : ((l.take n).drop e).length = n - e := by simp; omega
  have hdl : (l.drop n).length = l.length - n := by simp
  have hsplit : l.take n = l.take e ++ (l.take n).drop e := by
    have := (List.take_append_drop e (l.take n)).symm
    rwa [List.take_take, Nat.min_eq_left hen] at this
  have happ : ∀ (x y : List Oper) (a : Act) (R : Act → Prop), wpQuiet P l.toArray C R (x ++ y) a → wpQuiet P l.toArray C (wpQuiet P l.toArray C R y) x a := by
    intro x
    induction x with
    | nil => intro y a R h; exact h
    | cons o x ih =>
      intro y a R h
      have h' : if Region.wanted o (yielded l.toArray a.tmps) then o.quiet P a C (wpQuiet P l.toArray C R (x ++ y)) else wpQuiet P l.toArray C R (x ++ y) (a.put o.dst undef) := h
      show if Region.wanted o (yielded l.toArray a.tmps) then o.quiet P a C (wpQuiet P l.toArray C (wpQuiet P l.toArray C R y) x) else wpQuiet P l.toArray C (wpQuiet P l.toArray C R y) x (a.put o.dst undef)
      split
      · rename_i hq; rw [if_pos hq] at h'; exact Oper.quiet_mono (fun a' => ih y a' R) h'
      · rename_i hq; rw [if_neg hq] at h'; exact ih y _ R h'
  rw [hsplit] at h
  have h1 := happ _ _ _ _ h
  have := wpAnyS_early (ro := ro) (m := m) (D := D) (Q := Q) (g := l.length - e) hnd hsel hQ hDo (l.take e) 0 (Array.replicate l.length false) a _ (fun j hj => by
    have hj' : j < e := by rw [hte] at hj; exact hj
    simp [hj']) (by simp) (fun j oj _ hl => (by rw [getD_replicate_false] at hl; cases hl)) hC (by rw [hte]; exact hearly) h1 (fun a' w' hw' hR => by
      rw [hte]
      have H := wpHeadQ_lexU (md := .any) (C := C) (g := l.length - n) (l0 := listedTo e 0 (Array.replicate l.length false)) hsel hs hc (by rw [hsz]; exact hnl) ((l.take n).drop e) e _ a' (fun j hj => by
        have hj' : j < n - e := by rw [htn] at hj; exact hj
        rw [List.getElem?_drop, List.getElem?_take, if_pos (by omega)]
        simp) (by rw [htn]; omega) (invB_spec hinv) (fun _ h => h) (by rw [htn]; exact hlex) hR
      have := wpAnyS_of_headQ (ro := ro) (m := m) (D := D) (Q := Q) (g := l.length - n) hnd (fun listed a'' w'' hw'' hL => by
        have hmid : l.drop n = (l.take k).drop n ++ l.drop k := by
          have h3 := (List.take_append_drop (k - n) (l.drop n)).symm
          rw [List.drop_drop, show n + (k - n) = k by omega] at h3
          rw [h3]
          congr 1
          rw [List.take_drop, show n + (k - n) = k by omega]
        have hlist := wpListS_of_late (ro := ro) (m := m) (C := C) (D := D) (Q := Q) (ops := l.toArray) (P := P) (fun o ho c => by
          obtain ⟨i, hi⟩ := List.getElem?_of_mem ho
          exact noDefer_spec hnd (i := i) (by simpa using hi) c) ((l.take k).drop n) (l.drop k) n a'' w'' (fun o ho => by simpa using List.mem_of_mem_take (List.mem_of_mem_drop ho)) hw'' (fun j h1 h2 => by
            rw [hDd]
            simp only [List.length_drop, List.length_take] at h1 h2
            simp; omega) (hL.2 w'' hw'')
        rw [← hmid] at hlist
        have := wpAnyS_of_seq (md := .any) (Q := Q) (l.drop n) n listed a'' w'' (fun j => by simp [List.getElem?_drop]) (by rw [hdl]; exact hL.1) hlist
        rwa [hdl] at this) _ _ _ _ hw' H
      rw [htn, show n - e + (l.length - n) = l.length - e by omega] at this
      exact this)
  rw [hte, show e + (l.length - e) = l.length by omega] at this
  exact this

end
end Go.Proofs.Ytnohglkilpnjhaa

/- What the document's answer's small functions on tables compute, in plain Lean: place, with, first, last, Announce's choice. No condition. -/
import Derived.Test.YtnohglkilpnjhaaGb
namespace Go.Proofs.Ytnohglkilpnjhaa
set_option linter.unusedVariables false
set_option linter.unusedSimpArgs false

/-! ### place -/
structure PlaceT (T : TabL) (d : List UInt8) (i : Nat) (is : Bool) : Prop where
  le : i ≤ T.length
  low : ∀ x ∈ T.take i, kD x < (natL d : Int)
  yes : is = true → ∃ ps, T[i]? = some (d, ps)
  no : is = false → ∀ x ∈ T.drop i, (natL d : Int) < kD x
theorem split_at {α : Type} {T : List α} {i : Nat} {x : α} (h : T[i]? = some x) : T = T.take i ++ x :: T.drop (i + 1) := by
  have hlt : i < T.length := (List.getElem?_eq_some_iff.1 h).1
  have e : T[i]'hlt = x := (List.getElem?_eq_some_iff.1 h).2
  rw [← e, ← List.drop_eq_getElem_cons, List.take_append_drop]
theorem set_split {α : Type} {T : List α} {i : Nat} {x : α} (h : T[i]? = some x) (y : α) : T.set i y = T.take i ++ y :: T.drop (i + 1) := by
  have hlt : i < T.length := (List.getElem?_eq_some_iff.1 h).1
  rw [List.set_eq_take_append_cons_drop, if_pos hlt]
theorem PlaceT.is {T : TabL} {d : List UInt8} {i : Nat} (h : PlaceT T d i true) (hr : Rising kD T) :
    ∃ ps, T[i]? = some (d, ps) ∧ peersT d T = ps ∧ (∀ q, insK kD (d, q) T = T.set i (d, q)) ∧ delK kD (natL d) T = T.take i ++ T.drop (i + 1) ∧ getK kD (natL d) T = some (d, ps) := by
  obtain ⟨ps, hi⟩ := h.yes rfl
  have hs := split_at hi
  have hr2 := hr
  rw [hs] at hr2
  have hg : getK kD (natL d) T = some (d, ps) := (getK_some hr).2 ⟨List.mem_of_getElem? hi, rfl⟩
  refine ⟨ps, hi, ?_, fun q => ?_, ?_, hg⟩
  · unfold peersT; rw [hg]; rfl
  · have := insK_mid (f := kD) (x := (d, q)) hr2 rfl
    rw [← hs] at this
    rw [this, set_split hi]
  · have := delK_mid (f := kD) hr2
    rw [← hs] at this
    exact this
theorem PlaceT.not {T : TabL} {d : List UInt8} {i : Nat} (h : PlaceT T d i false) (hr : Rising kD T) :
    peersT d T = [] ∧ (∀ q, insK kD (d, q) T = T.take i ++ (d, q) :: T.drop i) ∧ getK kD (natL d) T = none := by
  have hno : ∀ y ∈ T, kD y ≠ (natL d : Int) := fun y hy => by
    rw [← List.take_append_drop i T] at hy
    rcases List.mem_append.1 hy with hy | hy
    · have := h.low y hy; omega
    · have := h.no rfl y hy; omega
  have hg : getK kD (natL d) T = none := getK_none.2 hno
  refine ⟨by unfold peersT; rw [hg]; rfl, fun q => ?_, hg⟩
  have hr2 : Rising kD (T.take i ++ (d, q) :: T.drop i) := by
    rw [← List.take_append_drop i T] at hr
    obtain ⟨h1, h2, h3⟩ := List.pairwise_append.1 hr
    refine List.pairwise_append.2 ⟨h1, List.pairwise_cons.2 ⟨fun b hb => h.no rfl b hb, h2⟩, fun a ha b hb => ?_⟩
    rcases List.mem_cons.1 hb with rfl | hb
    · exact h.low a ha
    · exact h3 a ha b hb
  refine (hr.ins _).ext hr2 fun y => ?_
  rw [mem_insK hr]
  have hm : y ∈ T ↔ y ∈ T.take i ∨ y ∈ T.drop i := by rw [← List.mem_append, List.take_append_drop]
  simp only [List.mem_append, List.mem_cons, hm]
  constructor
  · rintro (h1 | ⟨h1 | h1, h2⟩)
    · exact .inr (.inl h1)
    · exact .inl h1
    · exact .inr (.inr h1)
  · rintro (h1 | h1 | h1)
    · exact .inr ⟨.inl h1, fun e => hno y (hm.2 (.inl h1)) e⟩
    · exact .inl h1
    · exact .inr ⟨.inr h1, fun e => hno y (hm.2 (.inr h1)) e⟩

/-! ### with -/
def mergeP (p : PeerL) (l : List PeerL) : PeerL := l.foldl (fun p q => if q.id = p.id then ⟨p.id, max p.till q.till, p.seed || q.seed⟩ else p) p
theorem mergeP_snoc (p : PeerL) (l : List PeerL) (q : PeerL) : mergeP p (l ++ [q]) = if q.id = (mergeP p l).id then ⟨(mergeP p l).id, max (mergeP p l).till q.till, (mergeP p l).seed || q.seed⟩ else mergeP p l := by
  unfold mergeP
  rw [List.foldl_append]; rfl
theorem mergeP_none (l : List PeerL) : ∀ p : PeerL, (∀ q ∈ l, q.id ≠ p.id) → mergeP p l = p := by
  induction l with
  | nil => intro p _; rfl
  | cons q l ih =>
    intro p h
    show mergeP (if q.id = p.id then _ else p) l = p
    rw [if_neg (h q (by simp))]
    exact ih p fun z hz => h z (by simp [hz])
theorem mergeP_id (l : List PeerL) : ∀ p : PeerL, (mergeP p l).id = p.id := by
  induction l with
  | nil => intro p; rfl
  | cons q l ih =>
    intro p
    show (mergeP (if q.id = p.id then _ else p) l).id = p.id
    split
    · rw [ih]
    · exact ih p
theorem mergeP_old {l : List PeerL} (h : Rising PeerL.id l) {id till : Int} {seed : Bool} (ht : 0 ≤ till) : mergeP ⟨id, till, seed⟩ l = ⟨id, max (oldP id l).till till, seed || (oldP id l).seed⟩ := by
  cases e : getK PeerL.id id l with
  | none =>
    have hn := getK_none.1 e
    rw [mergeP_none l _ hn]
    unfold oldP
    rw [e]
    show _ = (⟨id, max 0 till, seed || false⟩ : PeerL)
    rw [Bool.or_false, show max 0 till = till by omega]
  | some y =>
    obtain ⟨h1, h2⟩ := (getK_some h).1 e
    obtain ⟨A, B, rfl⟩ := List.append_of_mem h1
    obtain ⟨g1, g2, g3, g4, g5⟩ := h.mid
    unfold oldP
    rw [e]
    unfold mergeP
    rw [List.foldl_append]
    have e1 := mergeP_none A ⟨id, till, seed⟩ (fun q hq => by have := g1 q hq; show q.id ≠ id; omega)
    unfold mergeP at e1
    rw [e1]
    show mergeP (if y.id = id then _ else _) B = _
    rw [if_pos h2, mergeP_none B _ (fun q hq => by have := g2 q hq; show q.id ≠ id; omega)]
    show (⟨id, max till y.till, seed || y.seed⟩ : PeerL) = ⟨id, max y.till till, seed || y.seed⟩
    rw [Int.max_comm]
/-- Has it been put, what stands there so far. -/
def putW (p : PeerL) (A : List PeerL) : Bool := A.any (fun x => decide (p.id ≤ x.id))
def outW (p : PeerL) (A : List PeerL) : List PeerL := if putW p A then insK PeerL.id p A else A
theorem insK_low {p : PeerL} : ∀ {A : List PeerL}, (∀ x ∈ A, x.id < p.id) → insK PeerL.id p A = A ++ [p]
  | [], _ => rfl
  | y :: A, h => by
    show (if y.id < p.id then y :: insK PeerL.id p A else _) = _
    rw [if_pos (h y (by simp)), insK_low fun x hx => h x (by simp [hx])]; rfl
theorem putW_snoc (p : PeerL) (A : List PeerL) (x : PeerL) : putW p (A ++ [x]) = (putW p A || decide (p.id ≤ x.id)) := by unfold putW; rw [List.any_append]; simp
theorem putW_no {p : PeerL} {A : List PeerL} (h : putW p A = false) : ∀ x ∈ A, x.id < p.id := fun x hx => by
  have := List.any_eq_false.1 h x hx
  simp only [decide_eq_true_eq] at this
  omega
theorem outW_nil (p : PeerL) : outW p [] = [] := rfl
theorem outW_snoc {p : PeerL} {A : List PeerL} {x : PeerL} (h : Rising PeerL.id (A ++ [x])) :
    outW p (A ++ [x]) = (if putW p A = false ∧ p.id ≤ x.id then outW p A ++ [p] else outW p A) ++ (if x.id = p.id then [] else [x]) := by
  obtain ⟨h1, _, h3⟩ := List.pairwise_append.1 h
  have hlast : ∀ a ∈ A, a.id < x.id := fun a ha => h3 a ha x (by simp)
  unfold outW
  rw [putW_snoc]
  cases hp : putW p A with
  | false =>
    have hlow := putW_no hp
    by_cases hx : p.id ≤ x.id
    · have e1 : (insK PeerL.id p (A ++ [x])) = A ++ p :: (if x.id = p.id then [] else [x]) := by
        clear hp h h1 h3 hlast
        induction A with
        | nil =>
          show (if x.id < p.id then _ else if x.id = p.id then p :: [] else p :: x :: []) = _
          rw [if_neg (by omega)]
          split <;> rfl
        | cons y A ih =>
          show (if y.id < p.id then y :: insK PeerL.id p (A ++ [x]) else _) = _
          rw [if_pos (hlow y (by simp)), ih fun z hz => hlow z (by simp [hz])]; rfl
      simp [hx, e1]
    · have hne : x.id ≠ p.id := by omega
      simp [hx, hne]
  | true =>
    obtain ⟨a, ha, hpa⟩ := List.any_eq_true.1 hp
    have hpa' : p.id ≤ a.id := by simpa using hpa
    have hax := hlast a ha
    have hne : x.id ≠ p.id := by omega
    have e1 : insK PeerL.id p (A ++ [x]) = insK PeerL.id p A ++ [x] := by
      clear hp h h1 h3 hlast
      induction A with
      | nil => cases ha
      | cons y A ih =>
        show (if y.id < p.id then y :: insK PeerL.id p (A ++ [x]) else if y.id = p.id then p :: (A ++ [x]) else p :: y :: (A ++ [x])) = (if y.id < p.id then y :: insK PeerL.id p A else if y.id = p.id then p :: A else p :: y :: A) ++ [x]
        by_cases h1 : y.id < p.id
        · rw [if_pos h1, if_pos h1]
          rcases List.mem_cons.1 ha with rfl | ha
          · omega
          · rw [ih ha]; rfl
        · rw [if_neg h1, if_neg h1]
          split <;> rfl
    simp [hne, e1]
theorem outW_end {p : PeerL} {l : List PeerL} (h : Rising PeerL.id l) : (if putW p l then outW p l else outW p l ++ [p]) = insK PeerL.id p l := by
  unfold outW
  cases hp : putW p l with
  | true => rfl
  | false => exact (insK_low (putW_no hp)).symm
theorem outW_len {p : PeerL} {A : List PeerL} (h : Rising PeerL.id A) : (outW p A).length ≤ A.length + 1 := by
  unfold outW
  split
  · rw [insK_len h]; split <;> omega
  · omega

/-! ### first, last -/
theorem pickL_snoc {α : Type} (goes : α → α → Bool) (l : List α) : ∀ (m y : α), pickL goes (l ++ [y]) m = if goes y (pickL goes l m) then y else pickL goes l m := by
  induction l with
  | nil => intro m y; rfl
  | cons x l ih => intro m y; exact ih _ y
theorem firstP_snoc {A : List PeerL} (h : A ≠ []) (y : PeerL) : firstP (A ++ [y]) = if goesP y (firstP A) then y else firstP A := by
  cases A with
  | nil => exact absurd rfl h
  | cons x A => exact pickL_snoc _ A x y
theorem firstT_snoc {A : TabL} (h : A ≠ []) (y : List UInt8 × List PeerL) : firstT (A ++ [y]) = if goesT y (firstT A) then y else firstT A := by
  cases A with
  | nil => exact absurd rfl h
  | cons x A => exact pickL_snoc _ A x y
/-- The first so far stands at a. -/
def AtP (l : List PeerL) (k a : Nat) : Prop := a < k ∧ k ≤ l.length ∧ l[a]? = some (firstP (l.take k))
theorem AtP.start {l : List PeerL} (h : 0 < l.length) : AtP l 1 0 := by
  cases l with
  | nil => simp at h
  | cons x l => exact ⟨by decide, by simp, rfl⟩
theorem take_snoc_at {α : Type} {l : List α} {k : Nat} {y : α} (hy : l[k]? = some y) : l.take (k + 1) = l.take k ++ [y] := by rw [List.take_add_one, hy]; rfl
theorem AtP.step {l : List PeerL} {k a : Nat} (h : AtP l k a) {x y : PeerL} (hx : l[a]? = some x) (hy : l[k]? = some y) :
    AtP l (k + 1) (if y.till < x.till ∨ (y.till = x.till ∧ x.id < y.id) then k else a) := by
  obtain ⟨h1, h2, h3⟩ := h
  have hk : k < l.length := (List.getElem?_eq_some_iff.1 hy).1
  have hx2 : firstP (l.take k) = x := by rw [hx] at h3; exact (Option.some.inj h3).symm
  have hne : l.take k ≠ [] := fun e => by have := congrArg List.length e; rw [List.length_take, List.length_nil] at this; omega
  have hf : firstP (l.take (k + 1)) = if y.till < x.till ∨ (y.till = x.till ∧ x.id < y.id) then y else x := by
    rw [take_snoc_at hy, firstP_snoc hne, hx2]
    by_cases hg : y.till < x.till ∨ (y.till = x.till ∧ x.id < y.id)
    · rw [if_pos hg, if_pos (by simp [goesP, goesK, hg])]
    · rw [if_neg hg, if_neg (by simp [goesP, goesK]; omega)]
  refine ⟨?_, by omega, ?_⟩
  · split <;> omega
  · rw [hf]
    split
    · exact hy
    · exact hx
theorem AtP.cut {l : List PeerL} {a : Nat} (h : AtP l l.length a) (hr : Rising PeerL.id l) : l.take a ++ l.drop (a + 1) = delK PeerL.id (firstP l).id l := by
  obtain ⟨h1, h2, h3⟩ := h
  rw [List.take_length] at h3
  have hs := split_at h3
  have hr2 := hr
  rw [hs] at hr2
  have := delK_mid hr2
  rw [← hs] at this
  exact this.symm
theorem lastP_take {l : List PeerL} {k : Nat} {y : PeerL} (hy : l[k]? = some y) : lastP (l.take (k + 1)) = max (lastP (l.take k)) y.till := by rw [take_snoc_at hy, lastP_snoc]
def AtT (T : TabL) (k a : Nat) : Prop := a < k ∧ k ≤ T.length ∧ T[a]? = some (firstT (T.take k))
theorem AtT.start {l : TabL} (h : 0 < l.length) : AtT l 1 0 := by
  cases l with
  | nil => simp at h
  | cons x l => exact ⟨by decide, by simp, rfl⟩
theorem AtT.step {T : TabL} (hr : Rising kD T) {k a : Nat} (h : AtT T k a) {x y : List UInt8 × List PeerL} (hx : T[a]? = some x) (hy : T[k]? = some y) :
    AtT T (k + 1) (if lastP y.2 ≤ lastP x.2 then k else a) := by
  obtain ⟨h1, h2, h3⟩ := h
  have hk : k < T.length := (List.getElem?_eq_some_iff.1 hy).1
  have hx2 : firstT (T.take k) = x := by rw [hx] at h3; exact (Option.some.inj h3).symm
  have hne : T.take k ≠ [] := fun e => by have := congrArg List.length e; rw [List.length_take, List.length_nil] at this; omega
  have hxy : kD x < kD y := by
    have hxt : x ∈ T.take k := by
      have : (T.take k)[a]? = some x := by rw [List.getElem?_take, if_pos h1]; exact hx
      exact List.mem_of_getElem? this
    rw [split_at hy] at hr
    exact hr.mid.1 x hxt
  have hf : firstT (T.take (k + 1)) = if lastP y.2 ≤ lastP x.2 then y else x := by
    rw [take_snoc_at hy, firstT_snoc hne, hx2]
    by_cases hg : lastP y.2 ≤ lastP x.2
    · rw [if_pos hg, if_pos (by simp [goesT, goesK]; omega)]
    · rw [if_neg hg, if_neg (by simp [goesT, goesK]; omega)]
  refine ⟨?_, by omega, ?_⟩
  · split <;> omega
  · rw [hf]
    split
    · exact hy
    · exact hx
theorem AtT.cut {T : TabL} {a : Nat} (h : AtT T T.length a) (hr : Rising kD T) : T.take a ++ T.drop (a + 1) = delK kD (kD (firstT T)) T := by
  obtain ⟨h1, h2, h3⟩ := h
  rw [List.take_length] at h3
  have hs := split_at h3
  have hr2 := hr
  rw [hs] at hr2
  have := delK_mid hr2
  rw [← hs] at this
  exact this.symm

end Go.Proofs.Ytnohglkilpnjhaa

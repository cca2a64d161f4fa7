/- Rising lists by a key, in plain Lean: put, cut, found; and the pick of the one that goes first. No condition. -/
import Derived.Test.YtjmjaailmlnkjaaDoorShaCmpPlain
namespace Go.Proofs.YtjmjaailmlnkjaaDoor
set_option linter.unusedVariables false
set_option linter.unusedSimpArgs false
set_option linter.unusedSectionVars false

section
variable {α : Type} (f : α → Int)

def Rising (l : List α) : Prop := l.Pairwise (fun a b => f a < f b)
/-- With one more, or in the place of the one of its key. -/
def insK (x : α) : List α → List α
  | [] => [x]
  | y :: l => if f y < f x then y :: insK x l else if f y = f x then x :: l else x :: y :: l
def delK (k : Int) (l : List α) : List α := l.filter (fun y => !decide (f y = k))
def getK (k : Int) (l : List α) : Option α := l.find? (fun y => decide (f y = k))

variable {f} {x y : α} {l : List α} {k : Int}

theorem Rising.nil : Rising f [] := List.Pairwise.nil
theorem Rising.tail (h : Rising f (x :: l)) : Rising f l := (List.pairwise_cons.1 h).2
theorem Rising.head (h : Rising f (x :: l)) : ∀ y ∈ l, f x < f y := (List.pairwise_cons.1 h).1
theorem Rising.cons (h : Rising f l) (hx : ∀ y ∈ l, f x < f y) : Rising f (x :: l) := List.pairwise_cons.2 ⟨hx, h⟩
theorem Rising.filter (h : Rising f l) (p : α → Bool) : Rising f (l.filter p) := List.Pairwise.sublist List.filter_sublist h
theorem Rising.inj (h : Rising f l) (hx : x ∈ l) (hy : y ∈ l) (e : f x = f y) : x = y := by
  induction l with
  | nil => cases hx
  | cons z l ih =>
    rcases List.mem_cons.1 hx with h1 | h1 <;> rcases List.mem_cons.1 hy with h2 | h2
    · rw [h1, h2]
    · have := h.head _ h2; rw [h1] at e; omega
    · have := h.head _ h1; rw [h2] at e; omega
    · exact ih h.tail h1 h2
theorem Rising.nodup (h : Rising f l) : l.Nodup := h.imp (fun {a b} hlt e => by rw [e] at hlt; omega)
theorem Rising.apart (h : Rising f l) : l.Pairwise (fun a b => f a ≠ f b) := h.imp (fun {a b} hlt => by omega)

theorem mem_insK (h : Rising f l) : y ∈ insK f x l ↔ y = x ∨ (y ∈ l ∧ f y ≠ f x) := by
  induction l with
  | nil => simp [insK]
  | cons z l ih =>
    have h0 := h.head
    unfold insK
    split
    · rename_i hlt
      rw [List.mem_cons, ih h.tail, List.mem_cons]
      constructor
      · rintro (rfl | rfl | ⟨h1, h2⟩)
        · exact .inr ⟨.inl rfl, by omega⟩
        · exact .inl rfl
        · exact .inr ⟨.inr h1, h2⟩
      · rintro (rfl | ⟨rfl | h1, h2⟩)
        · exact .inr (.inl rfl)
        · exact .inl rfl
        · exact .inr (.inr ⟨h1, h2⟩)
    · split
      · rename_i h1 h2
        rw [List.mem_cons, List.mem_cons]
        constructor
        · rintro (rfl | h3)
          · exact .inl rfl
          · have := h0 y h3; exact .inr ⟨.inr h3, by omega⟩
        · rintro (rfl | ⟨rfl | h3, h4⟩)
          · exact .inl rfl
          · omega
          · exact .inr h3
      · rename_i h1 h2
        rw [List.mem_cons, List.mem_cons]
        constructor
        · rintro (rfl | rfl | h3)
          · exact .inl rfl
          · exact .inr ⟨.inl rfl, by omega⟩
          · have := h0 y h3; exact .inr ⟨.inr h3, by omega⟩
        · rintro (rfl | ⟨h3, h4⟩)
          · exact .inl rfl
          · exact .inr h3
theorem Rising.ins (h : Rising f l) (x : α) : Rising f (insK f x l) := by
  induction l with
  | nil => exact List.pairwise_singleton _ _
  | cons z l ih =>
    unfold insK
    split
    · rename_i hlt
      refine (ih h.tail).cons fun y hy => ?_
      rcases (mem_insK h.tail).1 hy with rfl | ⟨h1, _⟩
      · exact hlt
      · exact h.head _ h1
    · split
      · rename_i h1 h2
        exact h.tail.cons fun y hy => by have := h.head y hy; omega
      · rename_i h1 h2
        refine h.cons fun y hy => ?_
        rcases List.mem_cons.1 hy with rfl | hy
        · omega
        · have := h.head y hy; omega
theorem delK_none (h : ∀ y ∈ l, f y ≠ k) : delK f k l = l := List.filter_eq_self.2 fun y hy => by simp [h y hy]
theorem insK_perm (h : Rising f l) : (insK f x l).Perm (x :: delK f (f x) l) := by
  induction l with
  | nil => exact List.Perm.refl _
  | cons z l ih =>
    unfold insK
    split
    · rename_i hlt
      have e : delK f (f x) (z :: l) = z :: delK f (f x) l := by
        unfold delK
        rw [List.filter_cons_of_pos]
        simp; omega
      rw [e]
      exact ((ih h.tail).cons z).trans (List.Perm.swap _ _ _)
    · split
      · rename_i h1 h2
        have e : delK f (f x) (z :: l) = l := by
          unfold delK
          rw [List.filter_cons_of_neg (by simp [h2])]
          exact delK_none fun y hy => by have := h.head y hy; omega
        rw [e]
      · rename_i h1 h2
        rw [delK_none (l := z :: l) (k := f x)]
        intro y hy
        rcases List.mem_cons.1 hy with rfl | hy
        · omega
        · have := h.head y hy; omega
theorem getK_some (h : Rising f l) : getK f k l = some y ↔ y ∈ l ∧ f y = k := by
  constructor
  · intro e
    exact ⟨List.mem_of_find?_eq_some e, by simpa using List.find?_some e⟩
  · rintro ⟨h1, rfl⟩
    cases e : getK f (f y) l with
    | none => exact absurd (List.find?_eq_none.1 e y h1) (by simp)
    | some z =>
      have h2 := List.mem_of_find?_eq_some e
      have h3 : f z = f y := by simpa using List.find?_some e
      rw [h.inj h2 h1 h3]
theorem getK_none : getK f k l = none ↔ ∀ y ∈ l, f y ≠ k := by
  unfold getK
  rw [List.find?_eq_none]
  simp
theorem getK_ins (h : Rising f l) (k : Int) : getK f k (insK f x l) = if f x = k then some x else getK f k l := by
  split
  · rename_i e
    exact (getK_some (h.ins x)).2 ⟨(mem_insK h).2 (.inl rfl), e⟩
  · rename_i e
    cases hg : getK f k l with
    | none =>
      rw [getK_none] at hg ⊢
      intro y hy
      rcases (mem_insK h).1 hy with rfl | ⟨h1, _⟩
      · exact e
      · exact hg y h1
    | some y =>
      obtain ⟨h1, rfl⟩ := (getK_some h).1 hg
      exact (getK_some (h.ins x)).2 ⟨(mem_insK h).2 (.inr ⟨h1, fun q => e q.symm⟩), rfl⟩
theorem mem_delK : y ∈ delK f k l ↔ y ∈ l ∧ f y ≠ k := by simp [delK, List.mem_filter]
theorem Rising.del (h : Rising f l) (k : Int) : Rising f (delK f k l) := h.filter _
theorem getK_del (h : Rising f l) (k j : Int) : getK f k (delK f j l) = if k = j then none else getK f k l := by
  split
  · rename_i e
    rw [getK_none]
    intro y hy
    rw [e]; exact (mem_delK.1 hy).2
  · rename_i e
    cases hg : getK f k l with
    | none =>
      rw [getK_none] at hg ⊢
      exact fun y hy => hg y (mem_delK.1 hy).1
    | some y =>
      obtain ⟨h1, rfl⟩ := (getK_some h).1 hg
      exact (getK_some (h.del j)).2 ⟨mem_delK.2 ⟨h1, e⟩, rfl⟩
theorem insK_len (h : Rising f l) : (insK f x l).length = if (getK f (f x) l).isSome then l.length else l.length + 1 := by
  induction l with
  | nil => rfl
  | cons z l ih =>
    unfold insK
    split
    · rename_i hlt
      have e : getK f (f x) (z :: l) = getK f (f x) l := by
        unfold getK; rw [List.find?_cons_of_neg]; simp; omega
      rw [List.length_cons, ih h.tail, e]
      split <;> rfl
    · split
      · rename_i h1 h2
        have e : getK f (f x) (z :: l) = some z := by
          unfold getK; rw [List.find?_cons_of_pos]; simp [h2]
        rw [e]; rfl
      · rename_i h1 h2
        have e : getK f (f x) (z :: l) = none := by
          rw [getK_none]
          intro y hy
          rcases List.mem_cons.1 hy with rfl | hy
          · omega
          · have := h.head y hy; omega
        rw [e]; rfl
theorem delK_len_lt (h : getK f k l ≠ none) : (delK f k l).length < l.length := by
  obtain ⟨y, hy⟩ := Option.ne_none_iff_exists'.1 h
  have h1 := List.mem_of_find?_eq_some hy
  have h2 : f y = k := by simpa using List.find?_some hy
  exact List.length_filter_lt_length_iff_exists.2 ⟨y, h1, by simp [h2]⟩
theorem delK_len (h : Rising f l) (hg : getK f k l ≠ none) : (delK f k l).length + 1 = l.length := by
  obtain ⟨y, hy⟩ := Option.ne_none_iff_exists'.1 hg
  obtain ⟨h1, h2⟩ := (getK_some h).1 hy
  clear hy hg
  induction l with
  | nil => cases h1
  | cons z l ih =>
    unfold delK
    by_cases e : f z = k
    · have hz : ∀ y ∈ l, f y ≠ k := fun y hy => by have := h.head y hy; omega
      rw [List.filter_cons_of_neg (by simp [e])]
      show (delK f k l).length + 1 = _
      rw [delK_none hz]; rfl
    · rw [List.filter_cons_of_pos (by simp [e])]
      have hm : y ∈ l := by
        rcases List.mem_cons.1 h1 with rfl | h3
        · exact absurd h2 e
        · exact h3
      have := ih h.tail hm
      unfold delK at this
      rw [List.length_cons, List.length_cons, this]
theorem insK_same (h : Rising f l) (hx : x ∈ l) : insK f x l = l := by
  induction l with
  | nil => cases hx
  | cons z l ih =>
    unfold insK
    rcases List.mem_cons.1 hx with rfl | hm
    · rw [if_neg (by omega), if_pos rfl]
    · have := h.head _ hm
      rw [if_pos this, ih h.tail hm]
/-- Two rising lists of the same things are the same. -/
theorem Rising.ext {a b : List α} (ha : Rising f a) (hb : Rising f b) (h : ∀ y, y ∈ a ↔ y ∈ b) : a = b := by
  induction a generalizing b with
  | nil =>
    cases b with
    | nil => rfl
    | cons y b => exact absurd ((h y).2 (by simp)) (by simp)
  | cons x a ih =>
    cases b with
    | nil => exact absurd ((h x).1 (by simp)) (by simp)
    | cons y b =>
      have e : x = y := by
        rcases List.mem_cons.1 ((h x).1 (by simp)) with e | e
        · exact e
        · rcases List.mem_cons.1 ((h y).2 (by simp)) with e2 | e2
          · exact e2.symm
          · have h1 := hb.head _ e
            have h2 := ha.head _ e2
            omega
      subst e
      congr 1
      refine ih ha.tail hb.tail fun z => ?_
      have := h z
      rw [List.mem_cons, List.mem_cons] at this
      constructor
      · intro hz
        rcases this.1 (.inr hz) with rfl | h3
        · have := ha.head _ hz; omega
        · exact h3
      · intro hz
        rcases this.2 (.inr hz) with rfl | h3
        · have := hb.head _ hz; omega
        · exact h3
theorem Rising.perm_eq {a b : List α} (ha : Rising f a) (hb : Rising f b) (h : a.Perm b) : a = b := ha.ext hb fun y => h.mem_iff

theorem insK_ins {y : α} (h : Rising f l) (e : f y = f x) : insK f x (insK f y l) = insK f x l := by
  refine ((h.ins y).ins x).ext (h.ins x) fun z => ?_
  rw [mem_insK (h.ins y), mem_insK h, mem_insK h]
  constructor
  · rintro (rfl | ⟨rfl | ⟨h1, h2⟩, h3⟩)
    · exact .inl rfl
    · exact absurd e h3
    · exact .inr ⟨h1, h3⟩
  · rintro (rfl | ⟨h1, h2⟩)
    · exact .inl rfl
    · exact .inr ⟨.inr ⟨h1, by omega⟩, h2⟩
theorem delK_ins (h : Rising f l) : delK f (f x) (insK f x l) = delK f (f x) l := by
  refine ((h.ins x).del _).ext (h.del _) fun z => ?_
  rw [mem_delK, mem_delK, mem_insK h]
  constructor
  · rintro ⟨rfl | ⟨h1, _⟩, h2⟩
    · exact absurd rfl h2
    · exact ⟨h1, h2⟩
  · rintro ⟨h1, h2⟩
    exact ⟨.inr ⟨h1, h2⟩, h2⟩
/-! ### Through a map that keeps the keys -/
theorem insK_map {β : Type} {g : β → Int} (φ : α → β) (hφ : ∀ x, g (φ x) = f x) (x : α) (l : List α) : (insK f x l).map φ = insK g (φ x) (l.map φ) := by
  induction l with
  | nil => rfl
  | cons z l ih =>
    simp only [insK, List.map_cons, hφ]
    split
    · rw [List.map_cons, ih]
    · split <;> rfl
theorem delK_map {β : Type} {g : β → Int} (φ : α → β) (hφ : ∀ x, g (φ x) = f x) (k : Int) (l : List α) : (delK f k l).map φ = delK g k (l.map φ) := by
  unfold delK
  rw [List.filter_map]
  congr 2
  funext y
  simp [hφ]
theorem getK_map {β : Type} {g : β → Int} (φ : α → β) (hφ : ∀ x, g (φ x) = f x) (k : Int) (l : List α) : (getK f k l).map φ = getK g k (l.map φ) := by
  unfold getK
  rw [List.find?_map]
  congr 2
  funext y
  simp [hφ]
theorem Rising.map {β : Type} {g : β → Int} {φ : α → β} (hφ : ∀ x, g (φ x) = f x) (h : Rising f l) : Rising g (l.map φ) := by
  unfold Rising
  rw [List.pairwise_map]
  exact List.Pairwise.imp (fun {a b} hlt => by rw [hφ, hφ]; exact hlt) h
theorem Rising.of_map {β : Type} {g : β → Int} {φ : α → β} (hφ : ∀ x, g (φ x) = f x) (h : Rising g (l.map φ)) : Rising f l := by
  unfold Rising at h
  rw [List.pairwise_map] at h
  exact List.Pairwise.imp (fun {a b} hlt => by rw [hφ, hφ] at hlt; exact hlt) h

/-! ### The pick -/
def pickL (goes : α → α → Bool) : List α → α → α
  | [], m => m
  | y :: l, m => pickL goes l (if goes y m then y else m)
/-- A strict order that tells all of these apart. -/
structure SLO (goes : α → α → Bool) (S : α → Prop) : Prop where
  trans : ∀ a b c, goes a b = true → goes b c = true → goes a c = true
  irr : ∀ a, goes a a = false
  total : ∀ a b, S a → S b → a ≠ b → goes a b = true ∨ goes b a = true
variable {goes : α → α → Bool} {S : α → Prop}
theorem pickL_mem : ∀ (l : List α) (m : α), pickL goes l m = m ∨ pickL goes l m ∈ l
  | [], m => .inl rfl
  | y :: l, m => by
    unfold pickL
    split
    · exact (pickL_mem l y).elim (fun h => .inr (by rw [h]; simp)) (fun h => .inr (by simp [h]))
    · exact (pickL_mem l m).imp id (fun h => by simp [h])
theorem pickL_map {β : Type} {go2 : β → β → Bool} (φ : α → β) : ∀ (l : List α) (m : α), (∀ a ∈ m :: l, ∀ b ∈ m :: l, go2 (φ a) (φ b) = goes a b) → pickL go2 (l.map φ) (φ m) = φ (pickL goes l m)
  | [], m, _ => rfl
  | y :: l, m, h => by
    simp only [List.map_cons, pickL]
    rw [h y (by simp) m (by simp)]
    have e : (if goes y m = true then φ y else φ m) = φ (if goes y m = true then y else m) := by split <;> rfl
    rw [e]
    refine pickL_map φ l _ fun a ha b hb => h a ?_ b ?_
    · rcases List.mem_cons.1 ha with rfl | ha
      · split <;> simp
      · simp [ha]
    · rcases List.mem_cons.1 hb with rfl | hb
      · split <;> simp
      · simp [hb]
theorem pickL_min (h : SLO goes S) : ∀ (l : List α) (m : α), S m → (∀ y ∈ l, S y) → ∀ y, y = m ∨ y ∈ l → y = pickL goes l m ∨ goes (pickL goes l m) y = true
  | [], m, hm, hl, y, hy => by
    rcases hy with rfl | hy
    · exact .inl rfl
    · cases hy
  | z :: l, m, hm, hl, y, hy => by
    have hz : S z := hl z (by simp)
    have hl' : ∀ y ∈ l, S y := fun y hy => hl y (by simp [hy])
    unfold pickL
    by_cases hg : goes z m = true
    · rw [if_pos hg]
      have ih := pickL_min h l z hz hl'
      rcases hy with rfl | hy
      · rcases ih z (.inl rfl) with e | e
        · rw [← e]; exact .inr hg
        · exact .inr (h.trans _ _ _ e hg)
      · exact ih y (by simpa using hy)
    · rw [if_neg hg]
      have ih := pickL_min h l m hm hl'
      rcases hy with rfl | hy
      · exact ih y (.inl rfl)
      · rcases List.mem_cons.1 hy with rfl | hy
        · by_cases e0 : y = m
          · exact ih y (.inl e0)
          · have hgm : goes m y = true := (h.total _ _ hm hz (fun e => e0 e.symm)).resolve_right hg
            rcases ih m (.inl rfl) with e | e
            · rw [← e]; exact .inr hgm
            · exact .inr (h.trans _ _ _ e hgm)
        · exact ih y (.inr hy)
theorem pick_unique (h : SLO goes S) {l : List α} {a b : α} (ha : a ∈ l) (hb : b ∈ l) (h1 : ∀ y ∈ l, y = a ∨ goes a y = true) (h2 : ∀ y ∈ l, y = b ∨ goes b y = true) : a = b := by
  rcases h1 b hb with e | e
  · exact e.symm
  · rcases h2 a ha with e2 | e2
    · exact e2
    · have := h.trans _ _ _ e e2
      rw [h.irr] at this; cases this
/-- Whatever the order: the same is picked. -/
theorem pickL_perm (h : SLO goes S) {x y : α} {a b : List α} (hp : (x :: a).Perm (y :: b)) (hS : ∀ z ∈ x :: a, S z) : pickL goes a x = pickL goes b y := by
  have hS2 : ∀ z ∈ y :: b, S z := fun z hz => hS z (hp.mem_iff.2 hz)
  have m1 : pickL goes a x ∈ x :: a := (pickL_mem a x).elim (fun e => by rw [e]; simp) (fun e => by simp [e])
  have m2 : pickL goes b y ∈ y :: b := (pickL_mem b y).elim (fun e => by rw [e]; simp) (fun e => by simp [e])
  refine pick_unique h (l := x :: a) m1 (hp.mem_iff.2 m2) (fun z hz => pickL_min h a x (hS x (by simp)) (fun z hz => hS z (by simp [hz])) z (by simpa using hz)) (fun z hz => ?_)
  exact pickL_min h b y (hS2 y (by simp)) (fun z hz => hS2 z (by simp [hz])) z (by simpa using hp.mem_iff.1 hz)
/-! ### In the midst -/
theorem Rising.mid {A B : List α} (h : Rising f (A ++ y :: B)) : (∀ a ∈ A, f a < f y) ∧ (∀ b ∈ B, f y < f b) ∧ Rising f A ∧ Rising f B ∧ ∀ a ∈ A, ∀ b ∈ B, f a < f b := by
  obtain ⟨h1, h2, h3⟩ := List.pairwise_append.1 h
  obtain ⟨h4, h5⟩ := List.pairwise_cons.1 h2
  exact ⟨fun a ha => h3 a ha y (by simp), h4, h1, h5, fun a ha b hb => h3 a ha b (by simp [hb])⟩
theorem Rising.put {A B : List α} (h : Rising f (A ++ y :: B)) (e : f x = f y) : Rising f (A ++ x :: B) := by
  obtain ⟨h1, h2, h3, h4, h5⟩ := h.mid
  refine List.pairwise_append.2 ⟨h3, List.pairwise_cons.2 ⟨fun b hb => by rw [e]; exact h2 b hb, h4⟩, fun a ha b hb => ?_⟩
  rcases List.mem_cons.1 hb with rfl | hb
  · rw [e]; exact h1 a ha
  · exact h5 a ha b hb
theorem Rising.cut {A B : List α} (h : Rising f (A ++ y :: B)) : Rising f (A ++ B) := by
  obtain ⟨h1, h2, h3, h4, h5⟩ := h.mid
  exact List.pairwise_append.2 ⟨h3, h4, h5⟩
theorem getK_mid {A B : List α} (h : Rising f (A ++ y :: B)) : getK f (f y) (A ++ y :: B) = some y := (getK_some h).2 ⟨by simp, rfl⟩
theorem delK_mid {A B : List α} (h : Rising f (A ++ y :: B)) : delK f (f y) (A ++ y :: B) = A ++ B := by
  obtain ⟨h1, h2, h3, h4, h5⟩ := h.mid
  unfold delK
  rw [List.filter_append, List.filter_cons_of_neg (by simp)]
  show delK f (f y) A ++ delK f (f y) B = _
  rw [delK_none fun a ha => by have := h1 a ha; omega, delK_none fun b hb => by have := h2 b hb; omega]
theorem insK_mid {A B : List α} (h : Rising f (A ++ y :: B)) (e : f x = f y) : insK f x (A ++ y :: B) = A ++ x :: B := by
  refine (h.ins x).ext (h.put e) fun z => ?_
  rw [mem_insK h]
  obtain ⟨h1, h2, h3, h4, h5⟩ := h.mid
  simp only [List.mem_append, List.mem_cons]
  constructor
  · rintro (rfl | ⟨h6 | rfl | h6, h7⟩)
    · exact .inr (.inl rfl)
    · exact .inl h6
    · exact absurd e.symm h7
    · exact .inr (.inr h6)
  · rintro (h6 | rfl | h6)
    · exact .inr ⟨.inl h6, by have := h1 z h6; omega⟩
    · exact .inl rfl
    · exact .inr ⟨.inr (.inr h6), by have := h2 z h6; omega⟩
end

end Go.Proofs.YtjmjaailmlnkjaaDoor

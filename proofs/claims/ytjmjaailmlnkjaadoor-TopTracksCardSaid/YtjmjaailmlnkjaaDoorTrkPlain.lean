/- The plain half of the law TopTracks: who announced itself is heard of. No condition. -/
import Derived.Test.YtjmjaailmlnkjaaDoorTrAsk
import Derived.Test.YtjmjaailmlnkjaaDoorTrFirstPlain
namespace Go.Proofs.YtjmjaailmlnkjaaDoor
open Go.RowKit
set_option linter.unusedVariables false
set_option linter.unusedSimpArgs false

/-! ### A map of numbers that are there -/
def bmL (S : List Int) : List (Int × Value) := S.map (fun x => (x, Value.bool true))
def addS (S : List Int) (x : Int) : List Int := x :: S.filter (fun y => !decide (y = x))
theorem bmL_put (S : List Int) (x : Int) : putM (bmL S) x (.bool true) = bmL (addS S x) := by
  unfold putM delL bmL addS
  rw [List.filter_map]
  rfl
theorem bmL_len (S : List Int) : (bmL S).length = S.length := by simp [bmL]
theorem bmL_get (S : List Int) (x : Int) : (getL (bmL S) x).getD (.bool false) = .bool (decide (x ∈ S)) := by
  induction S with
  | nil => rfl
  | cons y S ih =>
    unfold getL bmL at *
    rw [List.map_cons, List.find?_cons]
    by_cases h : y = x
    · simp [h]
    · have h2 : ¬ x = y := fun e => h e.symm
      simp only [decide_eq_true_eq, h, decide_false, List.mem_cons, h2, false_or]
      exact ih
theorem mem_addS {S : List Int} {x y : Int} : y ∈ addS S x ↔ y = x ∨ y ∈ S := by
  unfold addS
  rw [List.mem_cons, List.mem_filter]
  simp only [Bool.not_eq_true', decide_eq_false_iff_not]
  constructor
  · rintro (h | ⟨h, _⟩)
    · exact .inl h
    · exact .inr h
  · rintro (h | h)
    · exact .inl h
    · by_cases e : y = x
      · exact .inl e
      · exact .inr ⟨h, e⟩
theorem addS_nodup {S : List Int} (h : S.Nodup) (x : Int) : (addS S x).Nodup := by
  refine List.nodup_cons.2 ⟨fun hx => ?_, List.Pairwise.sublist List.filter_sublist h⟩
  have := (List.mem_filter.1 hx).2
  simp at this
theorem addS_len (S : List Int) (x : Int) : (addS S x).length ≤ S.length + 1 := by
  have := List.length_filter_le (fun y => !decide (y = x)) S
  simp only [addS, List.length_cons]
  omega
theorem same_len {A B : List Int} (ha : A.Nodup) (hb : B.Nodup) (h : ∀ x, x ∈ A ↔ x ∈ B) : A.length = B.length := ((List.perm_ext_iff_of_nodup ha hb).2 h).length_eq

/-! ### The announcements -/
/-- Behind k announcements of one blob: its peers, and the set of those that were let. -/
structure TInv (k : Nat) (P : List PeerL) (S : List Int) : Prop where
  ps : PsOk P
  len : P.length ≤ k
  nd : S.Nodup
  same : ∀ x, x ∈ S ↔ ∃ p ∈ P, p.id = x
  small : S.length ≤ k
theorem TInv.start : TInv 0 [] [] := ⟨PsOk.nil, Nat.le_refl _, List.nodup_nil, fun x => by simp, Nat.le_refl _⟩
theorem one_room {d : List UInt8} {P Q : List PeerL} (hQ : Q ≠ []) : roomT 3 (insK kD (d, Q) (oneT d P)) = oneT d Q := by
  have hi : insK kD (d, Q) (oneT d P) = [(d, Q)] := by
    unfold oneT
    split
    · rfl
    · simp [insK, kD]
  rw [hi]
  unfold roomT oneT
  rw [if_neg (by simp), if_neg hQ]
theorem TInv.bad {k : Nat} {P : List PeerL} {S : List Int} (h : TInv k P S) : TInv (k + 1) P S := ⟨h.ps, by have := h.len; omega, h.nd, h.same, by have := h.small; omega⟩
theorem TInv.step {k : Nat} {P : List PeerL} {S : List Int} (h : TInv k P S) (hk : k < 60) {d : List UInt8} {x : Int} (hx : 1 ≤ x ∧ x ≤ 65536) :
    ∃ Q, annT 3 64 (oneT d P) d x 0 10 false = (oneT d Q, 0) ∧ TInv (k + 1) Q (addS S x) := by
  have ha : argsB x 0 10 = true := by simp [argsB]; omega
  have hps' : PsOk (withP x (0 + 10) false P) := h.ps.withP false hx (by omega)
  have hne := withP_ne (id := x) (till := 0 + 10) (seed := false) h.ps
  have hln := withP_len (id := x) (till := 0 + 10) (seed := false) h.ps
  have hmem : ∀ p, p ∈ withP x (0 + 10) false P ↔ p = ⟨x, max (oldP x P).till (0 + 10), false || (oldP x P).seed⟩ ∨ (p ∈ P ∧ p.id ≠ x) := fun p => mem_insK h.ps.rise
  refine ⟨withP x (0 + 10) false P, ?_, hps', by have := h.len; omega, addS_nodup h.nd x, fun y => ?_, by have := h.small; have := addS_len S x; omega⟩
  · unfold annT
    rw [if_pos ha, peersT_one]
    have hr : roomP 64 (withP x (0 + 10) false P) = withP x (0 + 10) false P := by
      unfold roomP
      rw [if_neg]
      have := h.len
      omega
    rw [hr, one_room hne]
  · rw [mem_addS]
    constructor
    · rintro (rfl | hy)
      · exact ⟨_, (hmem _).2 (.inl rfl), rfl⟩
      · obtain ⟨p, hp, rfl⟩ := (h.same y).1 hy
        by_cases e : p.id = x
        · exact ⟨_, (hmem _).2 (.inl rfl), e.symm⟩
        · exact ⟨p, (hmem _).2 (.inr ⟨hp, e⟩), rfl⟩
    · rintro ⟨p, hp, rfl⟩
      rcases (hmem p).1 hp with rfl | ⟨h1, h2⟩
      · exact .inl rfl
      · exact .inr ((h.same _).2 ⟨p, h1, rfl⟩)
theorem ann_not {d : List UInt8} {P : List PeerL} {x : Int} (hx : ¬ (1 ≤ x ∧ x ≤ 65536)) : annT 3 64 (oneT d P) d x 0 10 false = (oneT d P, 1) := by
  have ha : argsB x 0 10 = false := by simp [argsB]; omega
  unfold annT
  rw [ha]
  rfl

/-! ### The answers -/
theorem rising_ids_nodup {P : List PeerL} (h : Rising PeerL.id P) : (P.map PeerL.id).Nodup := by
  unfold List.Nodup
  rw [List.pairwise_map]
  exact h.apart
theorem othersL_nodup {P : List PeerL} (h : Rising PeerL.id P) (id : Int) : (othersL P id).Nodup := rising_ids_nodup (h.filter _)
theorem mem_othersL {P : List PeerL} {id y : Int} : y ∈ othersL P id ↔ y ≠ id ∧ ∃ p ∈ P, p.id = y := by
  unfold othersL
  rw [List.mem_map]
  constructor
  · rintro ⟨p, hp, rfl⟩
    obtain ⟨h1, h2⟩ := List.mem_filter.1 hp
    exact ⟨by simpa using h2, p, h1, rfl⟩
  · rintro ⟨h1, p, hp, rfl⟩
    exact ⟨p, List.mem_filter.2 ⟨hp, by simpa using h1⟩, rfl⟩
/-- What an answer's map grows to. -/
def gotS : List Int → List Int → List Int
  | [], S => S
  | x :: l, S => gotS l (addS S x)
theorem gotS_snoc : ∀ (l S : List Int) (x : Int), gotS (l ++ [x]) S = addS (gotS l S) x
  | [], S, x => rfl
  | y :: l, S, x => gotS_snoc l (addS S y) x
theorem gotS_nodup : ∀ (l S : List Int), S.Nodup → (gotS l S).Nodup
  | [], S, h => h
  | x :: l, S, h => gotS_nodup l _ (addS_nodup h x)
theorem mem_gotS : ∀ (l S : List Int) (y : Int), y ∈ gotS l S ↔ y ∈ l ∨ y ∈ S
  | [], S, y => by simp [gotS]
  | x :: l, S, y => by
    rw [gotS, mem_gotS l, mem_addS, List.mem_cons]
    constructor
    · rintro (h | h | h)
      · exact .inl (.inr h)
      · exact .inl (.inl h)
      · exact .inr h
    · rintro ((h | h) | h)
      · exact .inr (.inl h)
      · exact .inl h
      · exact .inr (.inr h)
theorem gotS_len : ∀ (l S : List Int), (gotS l S).length ≤ l.length + S.length
  | [], S => by simp [gotS]
  | x :: l, S => by
    have h1 := gotS_len l (addS S x)
    have h2 := addS_len S x
    simp only [gotS, List.length_cons]
    omega
theorem TInv.others {k : Nat} {P : List PeerL} {S : List Int} (h : TInv k P S) {id : Int} (hid : id ∈ S) : (othersL P id).length + 1 = S.length := by
  have hn : (id :: othersL P id).Nodup := List.nodup_cons.2 ⟨fun hm => (mem_othersL.1 hm).1 rfl, othersL_nodup h.ps.rise id⟩
  have := same_len hn h.nd fun x => by
    rw [List.mem_cons, mem_othersL, h.same]
    constructor
    · rintro (rfl | ⟨_, h1⟩)
      · exact (h.same _).1 hid
      · exact h1
    · intro h1
      by_cases e : x = id
      · exact .inl e
      · exact .inr ⟨e, h1⟩
  simpa using this
theorem sample_all {s : Nat} {l : List Int} {k : Int} (h : (l.length : Int) ≤ k) : sampleL s l k = shufL s l := by
  unfold sampleL
  have hl : (shufL s l).length = l.length := (shufL_perm s l).length_eq
  exact List.take_of_length_le (by omega)
/-- The answer to one that is there: as many as the others are, and with itself all. -/
theorem TInv.heard {k : Nat} {P : List PeerL} {S : List Int} (h : TInv k P S) (hk : k ≤ 60) {id : Int} (hid : id ∈ S) (s : Nat) :
    (sampleL s (othersL P id) 100).length + 1 = S.length ∧ (gotS (sampleL s (othersL P id) 100) [id]).length = S.length := by
  have h1 := h.others hid
  have h2 := h.small
  rw [sample_all (by omega)]
  have hp := shufL_perm s (othersL P id)
  refine ⟨by rw [hp.length_eq]; exact h1, ?_⟩
  refine same_len (gotS_nodup _ _ (by simp)) h.nd fun x => ?_
  rw [mem_gotS, hp.mem_iff, mem_othersL, h.same, List.mem_singleton]
  constructor
  · rintro (⟨_, h3⟩ | rfl)
    · exact h3
    · exact (h.same _).1 hid
  · intro h3
    by_cases e : x = id
    · exact .inr e
    · exact .inl ⟨e, h3⟩

/-- The numbers of an answer are small. -/
theorem TInv.heard_id {k : Nat} {P : List PeerL} {S : List Int} (h : TInv k P S) {id y : Int} {s : Nat} {m : Int} {l : List Int} (hl : sampleL s (othersL P id) m = l) (hy : y ∈ l) : 1 ≤ y ∧ y ≤ 65536 := by
  rw [← hl] at hy
  unfold sampleL at hy
  obtain ⟨_, p, hp, rfl⟩ := mem_othersL.1 ((shufL_perm s (othersL P id)).mem_iff.1 (List.mem_of_mem_take hy))
  have := h.ps.ok p hp
  unfold PeerOk at this
  omega

end Go.Proofs.YtjmjaailmlnkjaaDoor

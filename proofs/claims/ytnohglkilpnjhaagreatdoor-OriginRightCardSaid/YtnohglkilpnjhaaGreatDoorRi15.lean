/- Texts of this claim, one behind the other: each begins with a comment that says what it proves and asks. -/
import Derived.Test.YtnohglkilpnjhaaGreatDoorRi14
import Derived.LoopNIn
import Derived.LoopIn
import Derived.BigFrameIn
import Derived.BigGuardIn
import Derived.Shelf.Abstract
import Derived.Shelf.RegionOpen
import Derived.Laws.EntriesVeiled
/- What wire.Decode computes, in plain Lean: it answers just the messages whose bytes these are. No condition. -/
namespace Go.Proofs.YtnohglkilpnjhaaGreatDoor
set_option linter.unusedVariables false
set_option linter.unusedSimpArgs false

/-! ### Numbers -/

theorem numStep_uint {n : Nat} (h : n < 4398046511104) (r : List UInt8) : numStep (uint n ++ r) = some (n, (uint n).length) := by
  unfold numStep
  rw [cutL_uint0 n r (by omega)]
  have := uint_len 5 n (by omega)
  simp only
  rw [if_pos (by omega)]
theorem numsL_uints : ∀ (l : List Int), (∀ n ∈ l, 0 ≤ n ∧ n < 4398046511104) → numsL (uintsL l) = l
  | [], _ => rfl
  | n :: l, h => by
    have hn := h n (by simp)
    have hu : (u64L n : Int) = n := u64L_nn hn.1 (by omega)
    have e : uintsL (n :: l) = uint (u64L n) ++ uintsL l := by simp [uintsL]
    rw [e, numsL_step (numStep_uint (by omega) _), List.drop_left, numsL_uints l (fun m hm => h m (by simp [hm])), hu]
theorem uintsL_nums : ∀ (f : Nat) (b : List UInt8), b.length ≤ f → (∀ n ∈ numsL b, 0 ≤ n) → uintsL (numsL b) = b
  | 0, b, h, _ => by rw [List.length_eq_zero_iff.1 (Nat.le_zero.1 h)]; rfl
  | f + 1, b, h, hn => by
    by_cases hb : b = []
    · rw [hb]; rfl
    cases hs : numStep b with
    | none => rw [numsL_bad hb hs] at hn; have := hn (-1) (by simp); omega
    | some p =>
      obtain ⟨n, m⟩ := p
      obtain ⟨_, h1, _, h2, h3, h4⟩ := numStep_some hs
      rw [numsL_step hs] at hn ⊢
      have e : uintsL ((n : Int) :: numsL (b.drop m)) = uint (u64L n) ++ uintsL (numsL (b.drop m)) := by simp [uintsL]
      have hu : u64L (n : Int) = n := by have := u64L_nn (n := (n : Int)) (by omega) (by omega); omega
      rw [e, uintsL_nums f (b.drop m) (by simp; omega) (fun k hk => hn k (by simp [hk])), hu, ← h4]
theorem nums_lt : ∀ (f : Nat) (b : List UInt8), b.length ≤ f → ∀ n ∈ numsL b, n < 4398046511104
  | 0, b, h, n, hn => by rw [List.length_eq_zero_iff.1 (Nat.le_zero.1 h)] at hn; cases hn
  | f + 1, b, h, n, hn => by
    by_cases hb : b = []
    · rw [hb] at hn; cases hn
    cases hs : numStep b with
    | none => rw [numsL_bad hb hs] at hn; simp at hn; omega
    | some p =>
      obtain ⟨k, m⟩ := p
      obtain ⟨_, h1, _, h2, h3, h4⟩ := numStep_some hs
      rw [numsL_step hs] at hn
      rcases List.mem_cons.1 hn with e | hn
      · omega
      · exact nums_lt f (b.drop m) (by simp; omega) n hn
theorem oneL_some {b : List UInt8} {n : Int} : oneL b = some n ↔ numsL b = [n] ∧ 0 ≤ n := by
  unfold oneL
  match hL : numsL b with
  | [] => simp [oneO]
  | [k] =>
    simp only [oneO]
    constructor
    · intro h
      split at h
      · cases h; exact ⟨rfl, by assumption⟩
      · cases h
    · rintro ⟨h1, h2⟩
      cases h1
      rw [if_pos h2]
  | _ :: _ :: _ => simp [oneO]
theorem oneL_back {b : List UInt8} {n : Int} (h : oneL b = some n) : uintsL [n] = b ∧ 0 ≤ n ∧ n < 4398046511104 := by
  obtain ⟨h1, h2⟩ := oneL_some.1 h
  refine ⟨?_, h2, nums_lt _ b (Nat.le_refl _) n (by rw [h1]; simp)⟩
  rw [← h1]
  exact uintsL_nums _ b (Nat.le_refl _) (fun k hk => by rw [h1] at hk; simp at hk; omega)
theorem oneL_uint {n : Int} (h0 : 0 ≤ n) (h1 : n < 4398046511104) : oneL (uintsL [n]) = some n :=
  oneL_some.2 ⟨numsL_uints [n] (fun k hk => by simp at hk; omega), h0⟩

/-! ### Hashes and members -/

theorem digsB_flat : ∀ (l : List (List UInt8)), (∀ d ∈ l, d.length = 32) → digsB l.flatten = l
  | [], _ => digsB_small (by simp)
  | d :: l, h => by
    have hd := h d (by simp)
    rw [List.flatten_cons, digsB_step (by simp; omega), List.take_left' hd, List.drop_left' hd, digsB_flat l (fun x hx => h x (by simp [hx]))]
theorem flat_digsB : ∀ (f : Nat) (b : List UInt8), b.length ≤ f → b.length % 32 = 0 → (digsB b).flatten = b ∧ ∀ d ∈ digsB b, d.length = 32
  | 0, b, h, _ => by
    obtain rfl : b = [] := List.length_eq_zero_iff.1 (Nat.le_zero.1 h)
    rw [digsB_small (by simp)]
    exact ⟨rfl, fun d hd => by cases hd⟩
  | f + 1, b, h, h32 => by
    by_cases hs : b.length < 32
    · obtain rfl : b = [] := List.length_eq_zero_iff.1 (by omega)
      rw [digsB_small (by simp)]
      exact ⟨rfl, fun d hd => by cases hd⟩
    · have ih := flat_digsB f (b.drop 32) (by simp; omega) (by simp; omega)
      rw [digsB_step (by omega)]
      refine ⟨by rw [List.flatten_cons, ih.1, List.take_append_drop], fun d hd => ?_⟩
      rcases List.mem_cons.1 hd with rfl | hd
      · simp; omega
      · exact ih.2 d hd
theorem memsB_uints : ∀ (l : List MemL), l.all memB0 = true → memsB (numsL (l.flatMap memU)) = l ∧ (numsL (l.flatMap memU)).length = 3 * l.length
  | l, h => by
    have e : l.flatMap memU = uintsL (l.flatMap fun x => [x.id, x.inc, x.state]) := by
      unfold memU uintsL
      rw [List.flatMap_assoc]
    have hb : ∀ n ∈ l.flatMap (fun x => [x.id, x.inc, x.state]), 0 ≤ n ∧ n < 4398046511104 := fun n hn => by
      obtain ⟨x, hx, hn⟩ := List.mem_flatMap.1 hn
      have := List.all_eq_true.1 h x hx
      simp [memB0, memB, idB, withinB] at this
      simp at hn
      omega
    rw [e, numsL_uints _ hb]
    clear e hb
    induction l with
    | nil => exact ⟨rfl, rfl⟩
    | cons x l ih =>
      have hx := h
      simp only [List.all_cons, Bool.and_eq_true] at hx
      obtain ⟨i1, i2⟩ := ih hx.2
      have h0 : x.since = 0 := by have := hx.1; simp [memB0] at this; exact this.2
      simp only [List.flatMap_cons, List.cons_append, List.nil_append, memsB, i1, List.length_cons, i2]
      refine ⟨?_, by omega⟩
      rw [← h0]
theorem uints_memsB : ∀ (l : List Int), l.length % 3 = 0 → (memsB l).flatMap memU = uintsL l
  | [], _ => rfl
  | [_], h => by simp at h
  | [_, _], h => by simp at h
  | a :: b :: c :: l, h => by
    have ih := uints_memsB l (by simp at h; omega)
    simp only [memsB, List.flatMap_cons, ih]
    simp [memU, uintsL]
theorem memsB_pos : ∀ (l : List Int), l.length % 3 = 0 → (memsB l).all memB0 = true → ∀ n ∈ l, 0 ≤ n
  | [], _, _, n, hn => by cases hn
  | [_], h, _, n, hn => by simp at h
  | [_, _], h, _, n, hn => by simp at h
  | a :: b :: c :: l, h, ha, n, hn => by
    simp only [memsB, List.all_cons, Bool.and_eq_true] at ha
    have ih := memsB_pos l (by simp at h; omega) ha.2 n
    have h1 := ha.1
    simp [memB0, memB, idB, withinB] at h1
    simp only [List.mem_cons] at hn
    rcases hn with rfl | rfl | rfl | hn
    · omega
    · omega
    · omega
    · exact ih hn

/-! ### Decode -/

/-- An item's bytes put into a message. -/
def putL (m : MsgL) (i : Int) (b : List UInt8) : Option MsgL :=
  if i = 2 then (if b.length = 32 then some { m with hash := b } else none)
  else if i = 3 then (if (oneL b).isSome then some { m with piece := (oneL b).getD 0 } else none)
  else if i = 4 then some { m with ids := numsL b }
  else if i = 5 then some { m with bytes := b }
  else if i = 6 then (if b.length % 32 = 0 then some { m with proof := digsB b } else none)
  else if i = 7 then (if (numsL b).length % 3 = 0 then some { m with members := memsB (numsL b) } else none)
  else (if ((oneL b).isSome && decide ((oneL b).getD 0 ≤ 1)) = true then some { m with seed := (oneL b).getD 0 == 1 } else none)
def putsL : List Int → List It → MsgL → Option MsgL
  | [], [], m => some m
  | i :: is, x :: xs, m => if x.1 = i then (putL m i x.2).bind (putsL is xs) else none
  | _, _, _ => none
def msgZ : MsgL := ⟨0, zero32, 0, [], [], [], [], false⟩
def rightO (m : MsgL) : Option MsgL := if wrightB m = true then some m else none
def decI : List It → Option MsgL
  | [] => none
  | x :: xs => if x.1 = 1 then (oneL x.2).bind fun k => if (hasL k).length = xs.length + 1 then (putsL (hasL k).tail xs { msgZ with kind := k }).bind rightO else none else none
/-- What Decode answers. -/
def decP (b : List UInt8) : Option MsgL := (decL b).bind decI

theorem rightO_some {m m' : MsgL} : rightO m = some m' ↔ m = m' ∧ wrightB m = true := by
  unfold rightO
  split
  · simp [*]
  · simp [*]
theorem putsL_cons {i : Int} {is : List Int} {x : It} {xs : List It} {m m' : MsgL} : putsL (i :: is) (x :: xs) m = some m' ↔ x.1 = i ∧ ∃ m1, putL m i x.2 = some m1 ∧ putsL is xs m1 = some m' := by
  simp only [putsL]
  split
  · simp [*, Option.bind_eq_some_iff]
  · simp [*]
theorem putsL_nil {m m' : MsgL} : putsL [] [] m = some m' ↔ m = m' := by simp [putsL]
theorem len_one {α : Type} {l : List α} (h : l.length = 1) : ∃ a, l = [a] := List.length_eq_one_iff.1 h
theorem len_two {α : Type} {l : List α} (h : l.length = 2) : ∃ a b, l = [a, b] := by
  match l, h with
  | [a, b], _ => exact ⟨a, b, rfl⟩
theorem len_four {α : Type} {l : List α} (h : l.length = 4) : ∃ a b c d, l = [a, b, c, d] := by
  match l, h with
  | [a, b, c, d], _ => exact ⟨a, b, c, d, rfl⟩

theorem put2 {m m' : MsgL} {b : List UInt8} : putL m 2 b = some m' ↔ b.length = 32 ∧ { m with hash := b } = m' := by simp [putL]
theorem put3 {m m' : MsgL} {b : List UInt8} : putL m 3 b = some m' ↔ ∃ n, oneL b = some n ∧ { m with piece := n } = m' := by
  simp only [putL]
  cases oneL b <;> simp
theorem put4 {m m' : MsgL} {b : List UInt8} : putL m 4 b = some m' ↔ { m with ids := numsL b } = m' := by simp [putL]
theorem put5 {m m' : MsgL} {b : List UInt8} : putL m 5 b = some m' ↔ { m with bytes := b } = m' := by simp [putL]
theorem put6 {m m' : MsgL} {b : List UInt8} : putL m 6 b = some m' ↔ b.length % 32 = 0 ∧ { m with proof := digsB b } = m' := by simp [putL]
theorem put7 {m m' : MsgL} {b : List UInt8} : putL m 7 b = some m' ↔ (numsL b).length % 3 = 0 ∧ { m with members := memsB (numsL b) } = m' := by simp [putL]
theorem put8 {m m' : MsgL} {b : List UInt8} : putL m 8 b = some m' ↔ ∃ n, oneL b = some n ∧ n ≤ 1 ∧ { m with seed := n == 1 } = m' := by
  simp only [putL]
  cases oneL b <;> simp
theorem seed_back {b : List UInt8} {n : Int} (h : oneL b = some n) (h1 : n ≤ 1) : uintsL [if (n == 1) = true then 1 else 0] = b := by
  obtain ⟨e, h0, _⟩ := oneL_back h
  rw [← e]
  rcases (by omega : n = 0 ∨ n = 1) with rfl | rfl <;> rfl

/-- What was decoded is encoded as it stood there. -/
theorem decI_back {l : List It} {m : MsgL} (h : decI l = some m) : wrightB m = true ∧ itemsM m = l ∧ m.hash.length = 32 ∧ ∀ d ∈ m.proof, d.length = 32 := by
  cases l with
  | nil => cases h
  | cons x xs =>
    simp only [decI] at h
    split at h
    case isFalse => cases h
    rename_i h1
    obtain ⟨k, hk, h⟩ := Option.bind_eq_some_iff.1 h
    split at h
    case isFalse => cases h
    rename_i hl
    obtain ⟨mm, hp, hro⟩ := Option.bind_eq_some_iff.1 h
    obtain ⟨hme, hr⟩ := rightO_some.1 hro
    subst hme
    clear hro
    obtain ⟨hk1, _, _⟩ := oneL_back hk
    refine ⟨hr, ?_⟩
    have hx : x = (1, uintsL [k]) := by rw [hk1, ← h1]
    clear h hk h1 hk1
    rcases kinds k with h | h | h | h | h | h | h | h | h | h | h | h
    case inr.inr.inr.inr.inr.inr.inr.inr.inr.inr.inr => rw [hasL_none h] at hl; simp at hl
    all_goals subst h
    case inl =>
      obtain ⟨a, b, rfl⟩ := len_two (l := xs) (by simpa [hasL] using hl.symm)
      simp only [hasL, if_true, if_false, List.tail_cons, putsL_cons, putsL_nil, put2, put3, put4, put5, put6, put7, put8] at hp
      obtain ⟨a1, m1, ⟨a2, rfl⟩, b1, m2, rfl, rfl⟩ := hp
      obtain ⟨_, ba⟩ := a
      obtain ⟨_, bb⟩ := b
      dsimp only at *
      subst a1
      subst b1
      exact ⟨by rw [hx]; rfl, a2, by simp [msgZ]⟩
    case inr.inr.inr.inr.inr.inr.inr.inr.inr.inl =>
      obtain ⟨a, b, rfl⟩ := len_two (l := xs) (by simpa [hasL] using hl.symm)
      simp only [hasL, show ¬ ((10 : Int) = 1) by decide, if_true, if_false, List.tail_cons, putsL_cons, putsL_nil, put2, put3, put4, put5, put6, put7, put8] at hp
      obtain ⟨a1, m1, ⟨a2, rfl⟩, b1, m2, rfl, rfl⟩ := hp
      obtain ⟨_, ba⟩ := a
      obtain ⟨_, bb⟩ := b
      dsimp only at *
      subst a1
      subst b1
      exact ⟨by rw [hx]; rfl, a2, by simp [msgZ]⟩
    case inr.inl =>
      obtain ⟨a, b, rfl⟩ := len_two (l := xs) (by simpa [hasL] using hl.symm)
      rw [show (hasL 2).tail = [2, 3] from rfl] at hp
      simp only [putsL_cons, putsL_nil, put2, put3, put4, put5, put6, put7, put8] at hp
      obtain ⟨a1, m1, ⟨a2, rfl⟩, b1, m2, ⟨n, b2, rfl⟩, rfl⟩ := hp
      obtain ⟨_, ba⟩ := a
      obtain ⟨_, bb⟩ := b
      dsimp only at *
      subst a1
      subst b1
      exact ⟨by rw [hx]; rw [← (oneL_back b2).1]; rfl, a2, by simp [msgZ]⟩
    case inr.inr.inl =>
      obtain ⟨a, b, rfl⟩ := len_two (l := xs) (by simpa [hasL] using hl.symm)
      rw [show (hasL 3).tail = [2, 3] from rfl] at hp
      simp only [putsL_cons, putsL_nil, put2, put3, put4, put5, put6, put7, put8] at hp
      obtain ⟨a1, m1, ⟨a2, rfl⟩, b1, m2, ⟨n, b2, rfl⟩, rfl⟩ := hp
      obtain ⟨_, ba⟩ := a
      obtain ⟨_, bb⟩ := b
      dsimp only at *
      subst a1
      subst b1
      exact ⟨by rw [hx]; rw [← (oneL_back b2).1]; rfl, a2, by simp [msgZ]⟩
    case inr.inr.inr.inr.inl =>
      obtain ⟨a, b, rfl⟩ := len_two (l := xs) (by simpa [hasL] using hl.symm)
      rw [show (hasL 5).tail = [2, 3] from rfl] at hp
      simp only [putsL_cons, putsL_nil, put2, put3, put4, put5, put6, put7, put8] at hp
      obtain ⟨a1, m1, ⟨a2, rfl⟩, b1, m2, ⟨n, b2, rfl⟩, rfl⟩ := hp
      obtain ⟨_, ba⟩ := a
      obtain ⟨_, bb⟩ := b
      dsimp only at *
      subst a1
      subst b1
      exact ⟨by rw [hx]; rw [← (oneL_back b2).1]; rfl, a2, by simp [msgZ]⟩
    case inr.inr.inr.inl =>
      obtain ⟨a, b, c, d, rfl⟩ := len_four (l := xs) (by simpa [hasL] using hl.symm)
      rw [show (hasL 4).tail = [2, 3, 5, 6] from rfl] at hp
      simp only [putsL_cons, putsL_nil, put2, put3, put4, put5, put6, put7, put8] at hp
      obtain ⟨a1, m1, ⟨a2, rfl⟩, b1, m2, ⟨n, b2, rfl⟩, c1, m3, rfl, d1, m4, ⟨d2, rfl⟩, rfl⟩ := hp
      obtain ⟨e1, e2⟩ := flat_digsB _ d.2 (Nat.le_refl _) d2
      obtain ⟨_, ba⟩ := a
      obtain ⟨_, bb⟩ := b
      obtain ⟨_, bc⟩ := c
      obtain ⟨_, bd⟩ := d
      dsimp only at *
      subst a1
      subst b1
      subst c1
      subst d1
      exact ⟨by rw [hx]; rw [← (oneL_back b2).1]; show [_, _, _, _, ((6 : Int), (digsB bd).flatten)] = _; rw [e1]; rfl, a2, e2⟩
    case inr.inr.inr.inr.inr.inl =>
      obtain ⟨a, b, rfl⟩ := len_two (l := xs) (by simpa [hasL] using hl.symm)
      rw [show (hasL 6).tail = [2, 8] from rfl] at hp
      simp only [putsL_cons, putsL_nil, put2, put3, put4, put5, put6, put7, put8] at hp
      obtain ⟨a1, m1, ⟨a2, rfl⟩, b1, m2, ⟨n, b2, b3, rfl⟩, rfl⟩ := hp
      have e := seed_back b2 b3
      obtain ⟨_, ba⟩ := a
      obtain ⟨_, bb⟩ := b
      dsimp only at *
      subst a1
      subst b1
      exact ⟨by rw [hx]; show [_, _, ((8 : Int), uintsL [if (n == 1) = true then 1 else 0])] = _; rw [e]; rfl, a2, by simp [msgZ]⟩
    case inr.inr.inr.inr.inr.inr.inl =>
      obtain ⟨a, b, rfl⟩ := len_two (l := xs) (by simpa [hasL] using hl.symm)
      rw [show (hasL 7).tail = [2, 4] from rfl] at hp
      simp only [putsL_cons, putsL_nil, put2, put3, put4, put5, put6, put7, put8] at hp
      obtain ⟨a1, m1, ⟨a2, rfl⟩, b1, m2, rfl, rfl⟩ := hp
      have hf := item_of hr (i := 4) (by omega) (by omega)
      simp [itemB, hasL, fitsB] at hf
      have e := uintsL_nums _ b.2 (Nat.le_refl _) (fun n hn => by have := hf.2 n hn; simp [idB, withinB] at this; omega)
      obtain ⟨_, ba⟩ := a
      obtain ⟨_, bb⟩ := b
      dsimp only at *
      subst a1
      subst b1
      exact ⟨by rw [hx]; show [_, _, ((4 : Int), uintsL (numsL bb))] = _; rw [e]; rfl, a2, by simp [msgZ]⟩
    case inr.inr.inr.inr.inr.inr.inr.inl =>
      obtain ⟨a, rfl⟩ := len_one (l := xs) (by simpa [hasL] using hl.symm)
      rw [show (hasL 8).tail = [7] from rfl] at hp
      simp only [putsL_cons, putsL_nil, put2, put3, put4, put5, put6, put7, put8] at hp
      obtain ⟨a1, m1, ⟨a2, rfl⟩, rfl⟩ := hp
      have hf := item_of hr (i := 7) (by omega) (by omega)
      have hf2 : (memsB (numsL a.2)).all memB0 = true := by
        simp only [itemB, fitsB] at hf
        rw [if_pos (by simp [hasL])] at hf
        simp only [show ¬ ((7 : Int) = 3) by decide, show ¬ ((7 : Int) = 4) by decide, show ¬ ((7 : Int) = 5) by decide, show ¬ ((7 : Int) = 6) by decide, if_false, if_true, Bool.and_eq_true] at hf
        exact hf.2
      have e := uintsL_nums _ a.2 (Nat.le_refl _) (memsB_pos _ a2 hf2)
      obtain ⟨_, ba⟩ := a
      dsimp only at *
      subst a1
      exact ⟨by rw [hx]; show [_, ((7 : Int), (memsB (numsL ba)).flatMap memU)] = _; rw [uints_memsB _ a2, e]; rfl, by simp [msgZ, zero32], by simp [msgZ]⟩
    case inr.inr.inr.inr.inr.inr.inr.inr.inl =>
      obtain ⟨a, rfl⟩ := len_one (l := xs) (by simpa [hasL] using hl.symm)
      rw [show (hasL 9).tail = [2] from rfl] at hp
      simp only [putsL_cons, putsL_nil, put2, put3, put4, put5, put6, put7, put8] at hp
      obtain ⟨a1, m1, ⟨a2, rfl⟩, rfl⟩ := hp
      obtain ⟨_, ba⟩ := a
      dsimp only at *
      subst a1
      exact ⟨by rw [hx]; rfl, a2, by simp [msgZ]⟩
    case inr.inr.inr.inr.inr.inr.inr.inr.inr.inr.inl =>
      obtain ⟨a, rfl⟩ := len_one (l := xs) (by simpa [hasL] using hl.symm)
      rw [show (hasL 11).tail = [2] from rfl] at hp
      simp only [putsL_cons, putsL_nil, put2, put3, put4, put5, put6, put7, put8] at hp
      obtain ⟨a1, m1, ⟨a2, rfl⟩, rfl⟩ := hp
      obtain ⟨_, ba⟩ := a
      dsimp only at *
      subst a1
      exact ⟨by rw [hx]; rfl, a2, by simp [msgZ]⟩

/-- What was encoded is decoded as it was. -/
theorem decI_items {m : MsgL} (hr : wrightB m = true) (hh : m.hash.length = 32) (hp : ∀ d ∈ m.proof, d.length = 32) : decI (itemsM m) = some m := by
  have hk := right_kind hr
  have i2 := item_of hr (i := 2) (by omega) (by omega)
  have i3 := item_of hr (i := 3) (by omega) (by omega)
  have i4 := item_of hr (i := 4) (by omega) (by omega)
  have i5 := item_of hr (i := 5) (by omega) (by omega)
  have i6 := item_of hr (i := 6) (by omega) (by omega)
  have i7 := item_of hr (i := 7) (by omega) (by omega)
  have i8 := item_of hr (i := 8) (by omega) (by omega)
  obtain ⟨kind, hash, piece, ids, bytes, proof, members, seed⟩ := m
  dsimp only at hk hh hp
  have hone := oneL_uint (n := kind) (by omega) (by omega)
  rcases kinds kind with h | h | h | h | h | h | h | h | h | h | h | h
  case inr.inr.inr.inr.inr.inr.inr.inr.inr.inr.inr => omega
  all_goals
    subst h
    simp only [itemB, hasL, bareB, fitsB, withinB, mostL] at i2 i3 i4 i5 i6 i7 i8
    simp at i2 i3 i4 i5 i6 i7 i8
  case inl =>
    subst i3 i4 i6 i7 i8
    simp only [itemsM, decI, show hasL 1 = [1, 2, 5] from rfl, List.map_cons, List.map_nil, if_true]
    rw [show bodyL _ 1 = uintsL [1] from rfl, hone]
    simp only [Option.bind_some, List.length_cons, List.length_nil, if_true, List.tail_cons, show hasL 1 = [1, 2, 5] from rfl]
    rw [Option.bind_eq_some_iff]
    refine ⟨_, putsL_cons.2 ⟨rfl, _, put2.2 ⟨hh, rfl⟩, putsL_cons.2 ⟨rfl, _, put5.2 rfl, putsL_nil.2 rfl⟩⟩, rightO_some.2 ⟨rfl, ?_⟩⟩
    exact hr
  case inr.inr.inr.inr.inr.inr.inr.inr.inr.inl =>
    subst i3 i4 i6 i7 i8
    simp only [itemsM, decI, show hasL 10 = [1, 2, 5] from rfl, List.map_cons, List.map_nil, if_true]
    rw [show bodyL _ 1 = uintsL [10] from rfl, hone]
    simp only [Option.bind_some, List.length_cons, List.length_nil, if_true, List.tail_cons, show hasL 10 = [1, 2, 5] from rfl]
    rw [Option.bind_eq_some_iff]
    refine ⟨_, putsL_cons.2 ⟨rfl, _, put2.2 ⟨hh, rfl⟩, putsL_cons.2 ⟨rfl, _, put5.2 rfl, putsL_nil.2 rfl⟩⟩, rightO_some.2 ⟨rfl, ?_⟩⟩
    exact hr
  case inr.inl =>
    subst i4 i5 i6 i7 i8
    simp only [itemsM, decI, show hasL 2 = [1, 2, 3] from rfl, List.map_cons, List.map_nil, if_true]
    rw [show bodyL _ 1 = uintsL [2] from rfl, hone]
    simp only [Option.bind_some, List.length_cons, List.length_nil, if_true, List.tail_cons, show hasL 2 = [1, 2, 3] from rfl]
    rw [Option.bind_eq_some_iff]
    refine ⟨_, putsL_cons.2 ⟨rfl, _, put2.2 ⟨hh, rfl⟩, putsL_cons.2 ⟨rfl, _, put3.2 ⟨piece, oneL_uint (n := piece) i3.1 (by omega), rfl⟩, putsL_nil.2 rfl⟩⟩, rightO_some.2 ⟨rfl, ?_⟩⟩
    exact hr
  case inr.inr.inl =>
    subst i4 i5 i6 i7 i8
    simp only [itemsM, decI, show hasL 3 = [1, 2, 3] from rfl, List.map_cons, List.map_nil, if_true]
    rw [show bodyL _ 1 = uintsL [3] from rfl, hone]
    simp only [Option.bind_some, List.length_cons, List.length_nil, if_true, List.tail_cons, show hasL 3 = [1, 2, 3] from rfl]
    rw [Option.bind_eq_some_iff]
    refine ⟨_, putsL_cons.2 ⟨rfl, _, put2.2 ⟨hh, rfl⟩, putsL_cons.2 ⟨rfl, _, put3.2 ⟨piece, oneL_uint (n := piece) i3.1 (by omega), rfl⟩, putsL_nil.2 rfl⟩⟩, rightO_some.2 ⟨rfl, ?_⟩⟩
    exact hr
  case inr.inr.inr.inr.inl =>
    subst i4 i5 i6 i7 i8
    simp only [itemsM, decI, show hasL 5 = [1, 2, 3] from rfl, List.map_cons, List.map_nil, if_true]
    rw [show bodyL _ 1 = uintsL [5] from rfl, hone]
    simp only [Option.bind_some, List.length_cons, List.length_nil, if_true, List.tail_cons, show hasL 5 = [1, 2, 3] from rfl]
    rw [Option.bind_eq_some_iff]
    refine ⟨_, putsL_cons.2 ⟨rfl, _, put2.2 ⟨hh, rfl⟩, putsL_cons.2 ⟨rfl, _, put3.2 ⟨piece, oneL_uint (n := piece) i3.1 (by omega), rfl⟩, putsL_nil.2 rfl⟩⟩, rightO_some.2 ⟨rfl, ?_⟩⟩
    exact hr
  case inr.inr.inr.inl =>
    subst i4 i7 i8
    simp only [itemsM, decI, show hasL 4 = [1, 2, 3, 5, 6] from rfl, List.map_cons, List.map_nil, if_true]
    rw [show bodyL _ 1 = uintsL [4] from rfl, hone]
    simp only [Option.bind_some, List.length_cons, List.length_nil, if_true, List.tail_cons, show hasL 4 = [1, 2, 3, 5, 6] from rfl]
    rw [Option.bind_eq_some_iff]
    have hfl : ∀ l : List (List UInt8), (∀ d ∈ l, d.length = 32) → l.flatten.length % 32 = 0 := fun l => by
      induction l with
      | nil => intro _; rfl
      | cons d l ih => intro h; rw [List.flatten_cons, List.length_append, h d (by simp)]; have := ih (fun x hx => h x (by simp [hx])); omega
    refine ⟨_, putsL_cons.2 ⟨rfl, _, put2.2 ⟨hh, rfl⟩, putsL_cons.2 ⟨rfl, _, put3.2 ⟨piece, oneL_uint (n := piece) i3.1 (by omega), rfl⟩, putsL_cons.2 ⟨rfl, _, put5.2 rfl, putsL_cons.2 ⟨rfl, _, put6.2 ⟨hfl _ hp, rfl⟩, putsL_nil.2 rfl⟩⟩⟩⟩, rightO_some.2 ⟨?_, ?_⟩⟩
    · show (MsgL.mk _ _ _ _ _ (digsB proof.flatten) _ _) = _
      rw [digsB_flat _ hp]
      rfl
    · show wrightB (MsgL.mk _ _ _ _ _ (digsB proof.flatten) _ _) = _
      rw [digsB_flat _ hp]
      exact hr
  case inr.inr.inr.inr.inr.inl =>
    subst i3 i4 i5 i6 i7
    simp only [itemsM, decI, show hasL 6 = [1, 2, 8] from rfl, List.map_cons, List.map_nil, if_true]
    rw [show bodyL _ 1 = uintsL [6] from rfl, hone]
    simp only [Option.bind_some, List.length_cons, List.length_nil, if_true, List.tail_cons, show hasL 6 = [1, 2, 8] from rfl]
    rw [Option.bind_eq_some_iff]
    cases seed
    · refine ⟨_, putsL_cons.2 ⟨rfl, _, put2.2 ⟨hh, rfl⟩, putsL_cons.2 ⟨rfl, _, put8.2 ⟨0, oneL_uint (n := 0) (by omega) (by omega), by omega, rfl⟩, putsL_nil.2 rfl⟩⟩, rightO_some.2 ⟨rfl, ?_⟩⟩
      exact hr
    · refine ⟨_, putsL_cons.2 ⟨rfl, _, put2.2 ⟨hh, rfl⟩, putsL_cons.2 ⟨rfl, _, put8.2 ⟨1, oneL_uint (n := 1) (by omega) (by omega), by omega, rfl⟩, putsL_nil.2 rfl⟩⟩, rightO_some.2 ⟨rfl, ?_⟩⟩
      exact hr
  case inr.inr.inr.inr.inr.inr.inl =>
    subst i3 i5 i6 i7 i8
    simp only [itemsM, decI, show hasL 7 = [1, 2, 4] from rfl, List.map_cons, List.map_nil, if_true]
    rw [show bodyL _ 1 = uintsL [7] from rfl, hone]
    simp only [Option.bind_some, List.length_cons, List.length_nil, if_true, List.tail_cons, show hasL 7 = [1, 2, 4] from rfl]
    rw [Option.bind_eq_some_iff]
    have hn := numsL_uints ids (fun n hn => by have := i4.2 n hn; simp [idB, withinB] at this; omega)
    refine ⟨_, putsL_cons.2 ⟨rfl, _, put2.2 ⟨hh, rfl⟩, putsL_cons.2 ⟨rfl, _, put4.2 rfl, putsL_nil.2 rfl⟩⟩, rightO_some.2 ⟨?_, ?_⟩⟩
    · show (MsgL.mk _ _ _ (numsL (uintsL ids)) _ _ _ _) = _
      rw [hn]
      rfl
    · show wrightB (MsgL.mk _ _ _ (numsL (uintsL ids)) _ _ _ _) = _
      rw [hn]
      exact hr
  case inr.inr.inr.inr.inr.inr.inr.inl =>
    subst i2 i3 i4 i5 i6 i8
    simp only [itemsM, decI, show hasL 8 = [1, 7] from rfl, List.map_cons, List.map_nil, if_true]
    rw [show bodyL _ 1 = uintsL [8] from rfl, hone]
    simp only [Option.bind_some, List.length_cons, List.length_nil, if_true, List.tail_cons, show hasL 8 = [1, 7] from rfl]
    rw [Option.bind_eq_some_iff]
    obtain ⟨n1, n2⟩ := memsB_uints members (List.all_eq_true.2 i7.2)
    refine ⟨_, putsL_cons.2 ⟨rfl, _, put7.2 ⟨by show (numsL (members.flatMap memU)).length % 3 = 0; omega, rfl⟩, putsL_nil.2 rfl⟩, rightO_some.2 ⟨?_, ?_⟩⟩
    · show (MsgL.mk _ _ _ _ _ _ (memsB (numsL (members.flatMap memU))) _) = _
      rw [n1]
      rfl
    · show wrightB (MsgL.mk _ _ _ _ _ _ (memsB (numsL (members.flatMap memU))) _) = _
      rw [n1]
      exact hr
  case inr.inr.inr.inr.inr.inr.inr.inr.inl =>
    subst i3 i4 i5 i6 i7 i8
    simp only [itemsM, decI, show hasL 9 = [1, 2] from rfl, List.map_cons, List.map_nil, if_true]
    rw [show bodyL _ 1 = uintsL [9] from rfl, hone]
    simp only [Option.bind_some, List.length_cons, List.length_nil, if_true, List.tail_cons, show hasL 9 = [1, 2] from rfl]
    rw [Option.bind_eq_some_iff]
    refine ⟨_, putsL_cons.2 ⟨rfl, _, put2.2 ⟨hh, rfl⟩, putsL_nil.2 rfl⟩, rightO_some.2 ⟨rfl, ?_⟩⟩
    exact hr
  case inr.inr.inr.inr.inr.inr.inr.inr.inr.inr.inl =>
    subst i3 i4 i5 i6 i7 i8
    simp only [itemsM, decI, show hasL 11 = [1, 2] from rfl, List.map_cons, List.map_nil, if_true]
    rw [show bodyL _ 1 = uintsL [11] from rfl, hone]
    simp only [Option.bind_some, List.length_cons, List.length_nil, if_true, List.tail_cons, show hasL 11 = [1, 2] from rfl]
    rw [Option.bind_eq_some_iff]
    refine ⟨_, putsL_cons.2 ⟨rfl, _, put2.2 ⟨hh, rfl⟩, putsL_nil.2 rfl⟩, rightO_some.2 ⟨rfl, ?_⟩⟩
    exact hr

/-- What Decode answers is just the message whose bytes these are. -/
theorem decP_iff {b : List UInt8} {m : MsgL} : decP b = some m ↔ encM m = some b ∧ m.hash.length = 32 ∧ ∀ d ∈ m.proof, d.length = 32 := by
  constructor
  · intro h
    obtain ⟨l, hl, h⟩ := Option.bind_eq_some_iff.1 h
    obtain ⟨h1, h2, h3⟩ := decI_back h
    refine ⟨?_, h3⟩
    unfold encM
    rw [if_pos h1, h2]
    exact encL_decL hl
  · rintro ⟨h, hh, hp⟩
    unfold encM at h
    split at h
    · rename_i hr
      unfold decP
      rw [decL_encL h]
      exact decI_items hr hh hp
    · cases h

end Go.Proofs.YtnohglkilpnjhaaGreatDoor

/- A message stored as a whole, laid as nothing, handed back. No condition. -/
namespace Go.Proofs.YtnohglkilpnjhaaGreatDoor
open Go.RowKit
set_option linter.unusedVariables false
set_option linter.unusedSimpArgs false
set_option maxRecDepth 100000

theorem MsgR.one {w : World} {m : MsgL} {s : MsgS} (h : MsgR w m s) : (msgCells m s).toArray.all (·.oneCell') = true :=
  Array.all_eq_true_iff_forall_mem.2 (fun v hv => by
    obtain ⟨ia, ic, hi⟩ := h.ids.len
    obtain ⟨ba, bc, hb⟩ := h.bytes.len
    obtain ⟨pa, pc, hp⟩ := h.proof.len
    obtain ⟨ma, mc, hm⟩ := h.members.len
    have hv' : v ∈ msgCells m s := by simpa using hv
    simp only [msgCells, hi, hb, hp, hm, List.mem_append, List.mem_cons, List.mem_map, List.not_mem_nil, or_false] at hv'
    rcases hv' with rfl | ⟨b, _, rfl⟩ | rfl | rfl | rfl | rfl | rfl | rfl <;> rfl)
theorem wp_store_msg {w : World} {op : Oper} {a : Act} {K : Act → World → Prop} {Q : Exit → Act → World → Prop} (p q : Operand) (g : Nat) (m m0 : MsgL) (s s0 : MsgS) (ho : op.op = .store 37 p q)
    (hp : a.eval p = .pointer (some ⟨g, 0, none⟩)) (hq : a.eval q = MsgV m s) (hx : MsgR w m s) (hg : MsgO w g m0 s0)
    (h : ∀ w', MsgO w' g m s → w.grownBy w' (some g) → w'.heap.size = w.heap.size → K (a.put op.dst undef) w') : op.wp Tryz.prog a w K Q := by
  have hrun := run_storeVar_row (P := Tryz.prog) w g 37 37 _ (msgCells m s).toArray hg.1 (by rw [size_msg]; simp [msgCells_len hx.hash]) (by simp [msgCells_len hx.hash, msgCells_len hg.2]) hx.one
  unfold MsgV at hq
  unfold Oper.wp execOp
  simp only [ho, hp, hq, Instr.storeAt, Instr.sureAddr, Sem.run_bind, Sem.run_pure, Result.andThen_ok, hrun]
  exact h _ ⟨setRow_heap _ _ _ _ _ _ hg.1, hx.hash⟩ ⟨rfl, rfl, rfl, by simp [World.setRow], fun k hk hne => Go.setRow_other w g k _ (fun e => hne (by rw [e]))⟩ (by simp [World.setRow])
theorem results_msg {fn : Func} {p q : Tmp} (h : fn.results = #[.cell p 37, .tmp q]) (tmps : Array Value) {w : World} {b : Nat} {m : MsgL} {s : MsgS} {u : Value} (hp : tmps.getD p undef = .pointer (some ⟨b, 0, none⟩)) (hq : tmps.getD q undef = u)
    (hx : MsgO w b m s) : (results fn tmps).run Tryz.prog w = .ok (.tuple #[MsgV m s, u]) w := by
  have hp' : tmps[p]?.getD undef = .pointer (some ⟨b, 0, none⟩) := by simpa using hp
  have hq' : tmps[q]?.getD undef = u := by simpa using hq
  simp [results, h, hp', hq', asAddr, run_load_msg hx]

/-- No slices. -/
def sN : MsgS := ⟨.slice none 0 0, .slice none 0 0, .slice none 0 0, .slice none 0 0⟩
theorem msgR_zero (w : World) : MsgR w msgZ sN := ⟨rfl, Row.of_nil 1, Row.of_nil 1, ⟨(fun d hd => by cases hd), Row.of_nil 32⟩, Row.of_nil 4⟩
theorem zero_msg (w : World) : (zeroValue 37).run Tryz.prog w = .ok (.agg (msgCells msgZ sN).toArray) w := by kernel_rfl
theorem build_msg (w : World) : (Instr.build 37 #[]).run Tryz.prog w = .ok (MsgV msgZ sN) w := by kernel_rfl
theorem msgF_zero (w : World) : MsgF (w.alloc (.cells (msgCells msgZ sN).toArray 37)) w.heap.size msgZ sN :=
  ⟨msg_alloc w rfl, msgR_zero _, Off.nil _ _, Off.nil _ _, Off.nil _ _, Off.nil _ _⟩
theorem wp_alloc_msg {w : World} {o : Oper} {a : Act} {K : Act → World → Prop} {Q : Exit → Act → World → Prop} (ho : o.op = .alloc 37)
    (h : ∀ w', MsgF w' w.heap.size msgZ sN → Below w.heap.size w w' → w'.heap.size = w.heap.size + 1 → K (a.put o.dst (.pointer (some ⟨w.heap.size, 0, none⟩))) w') : o.wp Tryz.prog a w K Q := by
  unfold Oper.wp execOp
  have := h _ (msgF_zero w) ((Below.refl _ w).alloc (Nat.le_refl _) _) (by simp)
  have hz := zero_msg w
  simp only [ho, Instr.alloc, Sem.run_bind, hz, Result.andThen_ok, Sem.run_pure, newVar, newRow]
  exact this

end Go.Proofs.YtnohglkilpnjhaaGreatDoor

/- The walks of wire.put, one for each kind of item. Condition: no more than 2^20 bytes. -/
namespace Go.Proofs.YtnohglkilpnjhaaGreatDoor
open Go.RowKit Go.Shelf
attribute [local go_sem] Oper.semAt_some
set_option linter.unusedVariables false
set_option linter.unusedSimpArgs false
set_option maxRecDepth 100000

/-- The message's slices lie no lower than L. -/
def Hi (L : Nat) (s : MsgS) : Prop := (∀ k, s.vi.ownBlock = some k → L ≤ k) ∧ (∀ k, s.vb.ownBlock = some k → L ≤ k) ∧ (∀ k, s.vp.ownBlock = some k → L ≤ k) ∧ ∀ k, s.vm.ownBlock = some k → L ≤ k
end Go.Proofs.YtnohglkilpnjhaaGreatDoor

/- The walk of merkle.Proof. Condition: the table of constants as the program lays it. -/
namespace Go.Proofs.YtnohglkilpnjhaaGreatDoor
open Go.RowKit Go.Shelf
attribute [local go_sem] Oper.semAt_some
set_option linter.unusedVariables false
set_option linter.unusedSimpArgs false

set_option maxRecDepth 100000 in
set_option maxHeartbeats 1600000 in
theorem Proof_no (v : Value) (l : List (List UInt8)) (i : Int) (w : World) (hl : Digs w v l) (h : ¬ (0 ≤ i ∧ i < l.length ∧ l.length ≤ 1024)) (hi1 : -9223372036854775808 ≤ i) (hi2 : i ≤ 9223372036854775807) :
    Calls Tryz.prog 82 #[v, .int .i64 i] w (ProofPost w ([], 1)) := by
  have hle := hl.le
  unfold maxLen at hle
  obtain ⟨va, vc, hv⟩ := hl.len
  subst hv
  by_cases c1 : i < 0
  all_goals by_cases c2 : (l.length : Int) ≤ i
  all_goals by_cases c3 : (1024 : Int) < l.length
  all_goals first | (exfalso; omega) | skip
  all_goals clear h
  all_goals go_enter Tryz.func82, Tryz.ntmps82
  all_goals go_wp2
  all_goals go_ret2
  all_goals exact ⟨_, rfl, OwnD.nil _ _, (Below.refl _ _).alloc (Nat.le_refl _) _⟩

/-- What holds ahead of each round. -/
def ProofI (w : World) (i : Nat) (g : Nat) (pre : List (List (List UInt8) × Nat)) (W : World) : Prop :=
  ∃ ov, One W w.heap.size (.int .i64 ((i / 2 ^ pre.length : Nat) : Int)) 3 ∧ One W (w.heap.size + 1) ov 34 ∧ OwnD W (w.heap.size + 5) ov (proofR (pre.map (·.1)) i) ∧ (∀ k, ov.ownBlock = some k → k ≠ g) ∧ Below w.heap.size w W ∧ w.heap.size + 3 ≤ W.heap.size

set_option maxRecDepth 100000 in
set_option maxHeartbeats 1600000 in
theorem Proof_yes (v : Value) (l : List (List UInt8)) (i : Nat) (w : World) (hl : Digs w v l) (hi : i < l.length) (hlen : l.length ≤ 1024) (hK : Consts w) :
    Calls Tryz.prog 82 #[v, .int .i64 (i : Int)] w (ProofPost w (proofL l i, 0)) := by
  obtain ⟨va, vc, hv⟩ := hl.len
  subst hv
  have c1 : ¬ (i : Int) < 0 := by omega
  have c2 : ¬ (l.length : Int) ≤ i := by omega
  have c3 : ¬ (1024 : Int) < l.length := by omega
  refine (callsIn_wide (n := 3)).1 ?_
  refine callsIn_of_wp_marks Tryz.func82 rfl trivial ?_ rfl
  simp only [Tryz.ntmps82, List.size_toArray, List.length_cons, List.length_nil, Nat.reduceAdd, Nat.reduceSub, Array.replicate_succ, Array.replicate_zero, List.push_toArray, List.append_toArray, List.nil_append, List.cons_append]
  gi_wp2_with (refine ⟨trivial, ?_⟩; gi_at_call 119; refine (callsIn_wide.2 (rows_any _ _ _ _)).mono ?_; rintro e w' ⟨rfl, rfl⟩)
  generalize hW0 : ((w.alloc _).alloc _).alloc _ = W0
  obtain ⟨hsz, hB0, o1, o2, o3⟩ : W0.heap.size = w.heap.size + 3 ∧ Below w.heap.size w W0 ∧ W0.heap[w.heap.size]? = some (.cells #[.int .i64 (i : Int)] 3) ∧ W0.heap[w.heap.size + 1]? = some (.cells #[.slice none 0 0] 34) ∧ W0.heap[w.heap.size + 1 + 1]? = some (.cells #[.slice va l.length vc] 34) := by
    subst hW0
    refine ⟨by simp, (((Below.refl _ w).alloc (Nat.le_refl _) _).alloc (by simp) _).alloc (by simp; omega) _, ?_, ?_, ?_⟩
    · exact (Below.heap_alloc _ _ _ (by simp; omega)).trans ((Below.heap_alloc _ _ _ (by simp)).trans (heap_alloc_new _ _))
    · refine (Below.heap_alloc _ _ _ (by simp)).trans ?_
      have := heap_alloc_new (w.alloc (.cells #[.int .i64 (i : Int)] 3)) (.cells #[.slice none 0 0] 34)
      rwa [World.size_alloc] at this
    · have := heap_alloc_new ((w.alloc (.cells #[.int .i64 (i : Int)] 3)).alloc (.cells #[.slice none 0 0] 34)) (.cells #[.slice va l.length vc] 34)
      rwa [World.size_alloc, World.size_alloc] at this
  clear hW0
  refine wpIn_rangeFunc_block (F := Fence.wide) (n := 3) rfl (by omega) (gf := 161) (lb := #[.pointer (some ⟨w.heap.size + 1 + 1, 0, none⟩)]) rfl trivial
    (enters_of Tryz.func161 (by kernel_rfl) rfl)
    (encs := encR) (It := fun g pre x W' => (pre ++ [x]).map (·.1) <+: rowsL l ∧ OwnD W' (W0.heap.size + 2) (.slice (some ⟨g, 0, none⟩) x.1.length x.2) x.1)
    (S := fun xs => xs.map (·.1) = rowsL l) (Sp := fun _ => True) (n0 := w.heap.size) (N := (rowsL l).length) (by omega)
    (fun W1 hb1 hs1 => by
      have e1 : W1.cell? ⟨w.heap.size + 1 + 1, 0, none⟩ = some (.slice va l.length vc) := by
        have := (hb1.block (w.heap.size + 1 + 1) (by omega)).trans o3
        simp [World.cell?, this]
      have hbw : Below w.heap.size w W1 := hB0.trans (hb1.mono (by omega))
      have := rows_seq 2 (by omega) (w.heap.size + 1 + 1) w.heap.size _ l (by omega) (by omega) W1 w hK rfl hbw e1 (hl.of_new hbw)
      rw [hs1] at this
      exact this)
    (fun _ _ => rfl)
    (ProofI w i)
    (fun _ _ _ _ => False)
    (fun g s A B hg hs hk => by
      obtain ⟨ov, a1, a2, a3, a4, a5, a6⟩ := hs
      refine ⟨ov, a1.of_block (hk.block _ (by omega) (by constructor <;> omega)), a2.of_block (hk.block _ (by omega) (by constructor <;> omega)), a3.kept (U := fun _ => True) (fun k hk2 => hk.block _ (a3.lt k hk2).2 ⟨a4 k hk2, by have := (a3.lt k hk2).1; omega⟩), a4, hk.to_below a5 (by omega) (fun k hk2 => by constructor <;> omega), Nat.le_trans a6 hk.size⟩)
    (fun _ _ _ _ _ _ h _ => h)
    (fun g pre x A B hg hs hk => ⟨hs.1, hs.2.kept (U := fun _ => True) (fun k hk2 => hk.block _ (hs.2.lt k hk2).2 (by have := (hs.2.lt k hk2).1; omega))⟩)
    (fun g W' hg hb => ⟨.slice none 0 0, by simpa using (show One W0 _ _ _ from o1).of_block (hb.block _ (by omega)), (show One W0 _ _ _ from o2).of_block (hb.block _ (by omega)), OwnD.nil _ _, (fun k h => by cases h), hB0.trans (hb.mono (by omega)), by have := hb.size; omega⟩)
    (fun g x => { tmps := #[.slice va l.length vc, .int .i64 (i : Int), undef, .pointer (some ⟨w.heap.size, 0, none⟩), .slice none 0 0, .int .i64 0, .pointer (some ⟨w.heap.size + 1, 0, none⟩), .slice (some ⟨g, 0, none⟩) x.1.length x.2, undef, .int .i64 (i : Int),
      .bool false, .bool false, .int .i64 (i : Int), .slice va l.length vc, .int .i64 (l.length : Int), .bool false, .bool false, .bool false, .slice va l.length vc, .int .i64 (l.length : Int), .bool false, .bool false, .slice va l.length vc,
      .func (.func 161) #[] #[.pointer (some ⟨w.heap.size + 1 + 1, 0, none⟩)], .slice (some ⟨g, 0, none⟩) x.1.length x.2, undef, undef, undef, undef, undef, undef, undef, undef, undef, undef, undef, undef, undef, undef, undef, undef, undef, undef, undef, undef, undef], defers := [] }) ?assign ?body ?done ?stop
  case assign =>
    intro l g x W K hK
    gi_wp2
    exact hK
  case body =>
    rintro l' g pre ⟨x, cap⟩ W hg ⟨ov, q1, q2, q3, q4, q5, q6⟩ ⟨hpre, ho⟩ _ hW2
    dsimp only at ho
    have hmem : x ∈ rowsL l := hpre.subset (by simp)
    obtain ⟨p1, p2, _⟩ := rows_at l.length l i (Nat.le_refl _) hi hl.1 (pre.map (·.1)) x (by simpa using hpre)
    simp only [List.length_map] at p1
    have hlen12 : (rowsL l).length ≤ 11 := rowsL_len l 10 (by simpa using hlen)
    have hpl : pre.length ≤ 11 := by have := hpre.length_le; simp at this; omega
    have hol := proofR_len (pre.map (·.1)) i
    simp only [List.length_map] at hol
    have hsn := proofR_snoc (pre.map (·.1)) x i
    have hnx : i / 2 ^ (pre ++ [(x, cap)]).length = i / 2 ^ pre.length / 2 := by
      rw [List.length_append, List.length_singleton, Nat.pow_succ, Nat.div_div_eq_div_mul]
    have hmap : (pre ++ [(x, cap)]).map (·.1) = pre.map (·.1) ++ [x] := by simp
    rw [← hmap] at hsn
    simp only [List.length_map] at hsn
    have HN := Lib.hid hnx
    have HS := Lib.hid hsn
    have hbl : g < W.heap.size := by
      have := (ho.lt g rfl).2; exact this
    clear hsn hnx hmap hpre hmem hlen12
    generalize i / 2 ^ pre.length = k at *
    generalize proofR (pre.map (·.1)) i = out at *
    have qc1 := q1.cell
    have qf1 := q1.free
    have qc2 := q2.cell
    have qf2 := q2.free
    have hx1 : 1 ≤ 3 - 1 - 1 := by omega
    by_cases hz : 0 ≤ besideZ x.length k
    · have hbs := hz
      have hlt1 : (1 : Int) < x.length := by
        unfold besideZ at hz
        split at hz
        · omega
        · split at hz <;> omega
      have hb1 : besideZ x.length k < x.length := by
        unfold besideZ
        split
        · omega
        · split <;> omega
      have hst : stepP x k = [x.getD (besideZ x.length k).toNat []] := by unfold stepP; rw [if_pos hz]
      have HT := Lib.hid hst
      have hat := ho.digs.digAt0 (i := (besideZ x.length k).toNat) (by omega)
      have hlx : x.length ≤ 1024 := by omega
      clear hst
      generalize x.getD (besideZ x.length k).toNat [] = d at *
      have hbd := beside_any x.length k
      generalize besideZ x.length k = at_ at *
      gi_wp2_with (refine ⟨trivial, ?_⟩; gi_at_call 110; refine (CallsIn.inRound l' (callsIn_wide.2 (hbd _ p1 (by omega)))).mono ?_; rintro e w' ⟨rfl, rfl⟩)
      have hcov : ∀ w2, Grew w' w2 → w2.cell? ⟨w.heap.size + 1, 0, none⟩ = some ov := fun w2 h => (q2.of_new h).cell
      refine wpIn_region_late (ro := some l') (C := Grew w') 5 ov (by kernel_rfl) rfl rfl rfl (by kernel_rfl) (by kernel_rfl) (by kernel_rfl) (Grew.start _) (fun w2 h2 => ?_) (fun _ _ _ h => h) ?_
      · have := hcov w2 h2
        go_simp
      simp only [List.take_succ_cons, List.take_zero, List.drop_succ_cons, List.drop_zero]
      go_simp
      repeat (first
        | (go_big_quiet_want; (with_reducible apply quiet_load_at (ty := 31) (x := .tmp _)); rfl; rfl; assumption; go_simp; go_big_quiet_on)
        | (go_big_quiet_want; apply quiet_val; (intro w' hw'; go_simp; first | done | rfl); go_simp; go_big_quiet_on)
        | (go_big_quiet_skip))
      refine wpQuiet_nil ?_
      intro w5 hw5
      refine Late.mk ?_
      refine wp_buildDigs 1 _ [d] rfl rfl (by simp) (by simp) (fun y hy => by simp at hy; rw [hy]; exact hat.1) (by simp only [List.map_toArray, List.map_cons, List.map_nil]; rfl) ?_
      intro w7 ho7 hb7 hs7
      have hb57 : Below w'.heap.size w' w7 := below_next hw5 hb7
      refine ⟨hb57, ?_⟩
      have q3' := q3.of_new hb57
      refine wpListIn_of_wp rfl (fun c hc => by cases hc) (wp_appD (.tmp 36) (.tmp 41) rfl (w.heap.size + 5) ov out rfl q3' _ [d] rfl ho7.digs (by simp; omega) (by have := hb57.size; omega) ?_)
      intro v8 w8 ho8 hg8 hv8
      have q1' := (q1.of_new hb57).grown hg8 (fun e => by have := (q3'.lt _ e.symm).1; omega)
      have q2' := (q2.of_new hb57).grown hg8 (fun e => by have := (q3'.lt _ e.symm).1; omega)
      have qc1' := q1'.cell
      have qf1' := q1'.free
      have qc2' := q2'.cell
      have qf2' := q2'.free
      have hv8' : ∀ k, v8.ownBlock = some k → k ≠ g := fun k e => by
        rcases hv8 k e with h | h
        · exact q4 k h
        · have := hb57.size; omega
      have hk8 : Kept (fun k => (k = g ∨ k < w.heap.size) ∨ k = W0.heap.size ∨ k = W0.heap.size + 1) w' w8 :=
        ((Kept.refl _ w').below hb57).grown hg8 (fun r e => by have := (q3'.lt r e).1; have := q4 r e; omega)
      have hB8 : Below w.heap.size w w8 := (below_next' q5 hb57).grown hg8 (by have := hb57.size; omega) (fun j hj => by have := (q3'.lt j hj).1; omega)
      have hsz8 : w'.heap.size ≤ w8.heap.size := hk8.size
      rw [wF_some]
      clear hg8 hv8 ho7 hb7 hw5 qc1 qc2 qf1 qf2 hcov q3'
      have hend : proofR ((pre ++ [(x, cap)]).map (·.1)) i = out ++ [d] := by rw [HS.out, HT.out]
      have HE := Lib.hid hend
      clear hend
      generalize out ++ [d] = out8 at *
      obtain ⟨sa, sc, hv⟩ := ho8.digs.len
      subst hv
      gi_wp2
      refine ⟨?_, _, ?_, ?_, ?_, hv8', ?_, ?_⟩
      · exact ((by simpa [hsz] using hk8 : Kept _ _ _).setCell (p := ⟨w.heap.size + 1, 0, none⟩) (by simp; omega) _).setCell (p := ⟨w.heap.size, 0, none⟩) (by simp; omega) _
      · rw [HN.out]; simpa using (q1'.other (p := ⟨w.heap.size + 1, 0, none⟩) (by simp) _).set _
      · exact (q2'.set _).other (by simp) _
      · rw [HE.out]
        exact ho8.kept (U := fun _ => True) (fun k hk => by have := (ho8.lt k hk).1; rw [Below.heap_setCell _ _ _ _ (by simp; omega), Below.heap_setCell _ _ _ _ (by simp; omega)])
      · exact (hB8.setCell (p := ⟨w.heap.size + 1, 0, none⟩) (by simp) _).setCell (p := ⟨w.heap.size, 0, none⟩) (Nat.le_refl _) _
      · simp [World.setCell]; omega
    · have hst : stepP x k = [] := by unfold stepP; rw [if_neg hz]
      have HT := Lib.hid hst
      have hlx : x.length ≤ 1024 := by omega
      clear hst
      have hbd := beside_any x.length k
      have hz' : ¬ (0 ≤ besideZ x.length k) := hz
      generalize besideZ x.length k = at_ at *
      gi_wp2_with (refine ⟨trivial, ?_⟩; gi_at_call 110; refine (CallsIn.inRound l' (callsIn_wide.2 (hbd _ p1 (by omega)))).mono ?_; rintro e w' ⟨rfl, rfl⟩)
      have hend : proofR ((pre ++ [(x, cap)]).map (·.1)) i = out := by rw [HS.out, HT.out, List.append_nil]
      refine ⟨(Kept.refl _ _).setCell (p := ⟨w.heap.size, 0, none⟩) (by simp; omega) _, _, ?_, ?_, ?_, q4, ?_, ?_⟩
      · rw [HN.out]; simpa using q1.set _
      · exact q2.other (by simp) _
      · rw [hend]
        exact q3.kept (U := fun _ => True) (fun k hk => by have := (q3.lt k hk).1; rw [Below.heap_setCell _ _ _ _ (by simp; omega)])
      · exact q5.setCell (p := ⟨w.heap.size, 0, none⟩) (Nat.le_refl _) _
      · simp [World.setCell]; omega
  case done =>
    rintro g xs W hg hxs ⟨ov, q1, q2, q3, q4, q5, q6⟩ hW2 hD
    have qc2 := q2.cell
    obtain ⟨sa, sc, hv⟩ := q3.digs.len
    have hend : proofR (xs.map (·.1)) i = proofL l i := by rw [hxs]; rfl
    have HE := Lib.hid hend
    clear hend hxs
    generalize proofR (xs.map (·.1)) i = out at *
    subst hv
    gi_wp2
    refine ⟨by simp, .inl ⟨_, _, rfl, run_takeDeferred hD, ?_⟩⟩
    refine ⟨_, results_tmp2 rfl _ _ _, _, rfl, ?_, ?_⟩
    · rw [← HE.out]
      refine OwnD.mono (base := w.heap.size + 5) ?_ (by omega)
      exact q3.kept (U := fun _ => True) (fun k hk => by have := (q3.lt k hk).1; exact World.putObj_heap_other (by omega))
    · exact q5.grown (grownBy_putObj' _ _ _) q5.size (fun k e => by cases e; omega)
  case stop =>
    rintro g c pre W _ _ h _ _
    exact h.elim

theorem Proof_any (v : Value) (l : List (List UInt8)) (i : Int) (w : World) (hl : Digs w v l) (hi1 : -9223372036854775808 ≤ i) (hi2 : i ≤ 9223372036854775807) (hK : Consts w) :
    Calls Tryz.prog 82 #[v, .int .i64 i] w (ProofPost w (proofE l i)) := by
  unfold proofE
  by_cases h : 0 ≤ i ∧ i < l.length ∧ l.length ≤ 1024
  · rw [if_pos h]
    obtain ⟨j, rfl⟩ : ∃ j : Nat, i = (j : Int) := ⟨i.toNat, by omega⟩
    exact Proof_yes v l j w hl (by omega) (by omega) hK
  · rw [if_neg h]
    exact Proof_no v l i w hl h hi1 hi2

end Go.Proofs.YtnohglkilpnjhaaGreatDoor

/- The walks of wire's small functions: within, has, most; of slices.Contains and slices.ContainsFunc at numbers and at members; of the document's IsId and Right of a member. No condition. -/
namespace Go.Proofs.YtnohglkilpnjhaaGreatDoor
open Go.RowKit
set_option linter.unusedVariables false
set_option linter.unusedSimpArgs false
set_option maxRecDepth 100000

theorem wwithin_any (n lo hi : Int) (w : World) : Calls Tryz.prog 128 #[.int .i64 n, .int .i64 lo, .int .i64 hi] w fun e w' => e = .returned (.bool (withinB n lo hi)) ∧ w = w' := by
  go_enter Tryz.func128, Tryz.ntmps128
  by_cases h1 : lo ≤ n
  · have e : withinB n lo hi = decide (n ≤ hi) := by simp [withinB, h1]
    rw [e]
    clear e
    go_wp2
    go_ret
    exact ⟨rfl, rfl⟩
  · have e : withinB n lo hi = false := by simp [withinB, h1]
    rw [e]
    clear e
    go_wp2
    go_ret
    exact ⟨rfl, rfl⟩

theorem ints_laid (w : World) (l : List Int) (e : TypeId) (hl : l.length ≤ maxLen) : Ints (w.alloc (.cells (l.map I64).toArray e)) (.slice (some ⟨w.heap.size, 0, none⟩) l.length l.length) l := by
  refine ⟨by simp, _, l.length, rfl, Nat.le_refl _, hl, (fun h => by cases h), fun _ => ⟨w.heap.size, 0, rfl, by simp, fun j hj => ?_⟩⟩
  rw [Nat.zero_add]
  simp only [World.cell?, heap_alloc_new w _]
  simp

/-- What has comes to. -/
def IntsPost (w : World) (l : List Int) (e : Ending) (w' : World) : Prop := ∃ v, e = .returned v ∧ Ints w' v l ∧ Below w.heap.size w w'
theorem intsPost_lit (w : World) (l : List Int) (n : Nat) (cs : Array Value) (e : TypeId) (hn : l.length = n) (hl : n ≤ 8) (hc : cs = (l.map I64).toArray) : IntsPost w l (.returned (.slice (some ⟨w.heap.size, 0, none⟩) n n)) (w.alloc (.cells cs e)) := by
  subst hn
  subst hc
  exact ⟨_, rfl, ints_laid w l e (by unfold maxLen; omega), (Below.refl _ _).alloc (Nat.le_refl _) _⟩
set_option maxHeartbeats 3200000 in
theorem has_any (k : Int) (w : World) : Calls Tryz.prog 78 #[.int .i64 k] w (IntsPost w (hasL k)) := by
  rcases kinds k with h | h | h | h | h | h | h | h | h | h | h | h
  case inr.inr.inr.inr.inr.inr.inr.inr.inr.inr.inr =>
    rw [hasL_none h]
    have t1 : (k == 1) = false := beq_eq_false_iff_ne.2 (by omega)
    have t2 : (k == 2) = false := beq_eq_false_iff_ne.2 (by omega)
    have t3 : (k == 3) = false := beq_eq_false_iff_ne.2 (by omega)
    have t4 : (k == 4) = false := beq_eq_false_iff_ne.2 (by omega)
    have t5 : (k == 5) = false := beq_eq_false_iff_ne.2 (by omega)
    have t6 : (k == 6) = false := beq_eq_false_iff_ne.2 (by omega)
    have t7 : (k == 7) = false := beq_eq_false_iff_ne.2 (by omega)
    have t8 : (k == 8) = false := beq_eq_false_iff_ne.2 (by omega)
    have t9 : (k == 9) = false := beq_eq_false_iff_ne.2 (by omega)
    have t10 : (k == 10) = false := beq_eq_false_iff_ne.2 (by omega)
    have t11 : (k == 11) = false := beq_eq_false_iff_ne.2 (by omega)
    clear h
    go_enter Tryz.func78, Tryz.ntmps78
    go_wp2
    go_ret
    exact ⟨_, rfl, Row.of_nil 1, Below.refl _ _⟩
  all_goals
    subst h
    go_enter Tryz.func78, Tryz.ntmps78
    go_wp2
    go_ret
    exact intsPost_lit w _ _ _ _ rfl (by decide) rfl

set_option maxHeartbeats 1600000 in
theorem most_any (k : Int) (w : World) : Calls Tryz.prog 131 #[.int .i64 k] w fun e w' => e = .returned (.int .i64 (mostL k)) ∧ w = w' := by
  by_cases h1 : k = 1
  · subst h1
    go_enter Tryz.func131, Tryz.ntmps131
    go_wp2
    go_ret
    exact ⟨rfl, rfl⟩
  by_cases h4 : k = 4
  · subst h4
    go_enter Tryz.func131, Tryz.ntmps131
    go_wp2
    go_ret
    exact ⟨rfl, rfl⟩
  by_cases h10 : k = 10
  · subst h10
    go_enter Tryz.func131, Tryz.ntmps131
    go_wp2
    go_ret
    exact ⟨rfl, rfl⟩
  have e : mostL k = 0 := by simp [mostL, h1, h4, h10]
  rw [e]
  have t1 : (k == 1) = false := beq_eq_false_iff_ne.2 h1
  have t4 : (k == 4) = false := beq_eq_false_iff_ne.2 h4
  have t10 : (k == 10) = false := beq_eq_false_iff_ne.2 h10
  clear h1 h4 h10 e
  go_enter Tryz.func131, Tryz.ntmps131
  go_wp2
  go_ret
  exact ⟨rfl, rfl⟩

theorem IsId_any (n : Int) (w : World) : Calls Tryz.prog 87 #[.int .i64 n] w fun e w' => e = .returned (.bool (idB n)) ∧ w = w' := by
  go_enter Tryz.func87, Tryz.ntmps87
  by_cases h1 : 1 ≤ n
  · have e : idB n = decide (n ≤ 65536) := by simp [idB, withinB, h1]
    rw [e]
    clear e
    go_wp2
    go_ret
    exact ⟨rfl, rfl⟩
  · have e : idB n = false := by simp [idB, withinB, h1]
    rw [e]
    clear e
    go_wp2
    go_ret
    exact ⟨rfl, rfl⟩

/-- An index that tells whether there is one. -/
def IdxPost (w : World) (b : Bool) (e : Ending) (w' : World) : Prop := ∃ r : Int, e = .returned (.int .i64 r) ∧ decide (0 ≤ r) = b ∧ Below w.heap.size w w'

theorem drop_int {l : List Int} {k : Nat} (h : k < l.length) : l.drop k = l.getD k 0 :: l.drop (k + 1) := by
  rw [List.drop_eq_getElem_cons h]; simp [List.getD, List.getElem?_eq_getElem h]
theorem drop_mem {l : List MemL} {k : Nat} (h : k < l.length) : l.drop k = l.getD k mem0 :: l.drop (k + 1) := by
  rw [List.drop_eq_getElem_cons h]; simp [List.getD, List.getElem?_eq_getElem h]

set_option maxHeartbeats 1600000 in
theorem Index_any (v : Value) (l : List Int) (x : Int) (w : World) (hl : Ints w v l) : Calls Tryz.prog 126 #[v, .int .i64 x] w (IdxPost w (decide (x ∈ l))) := by
  obtain ⟨a, c, hv⟩ := hl.len
  subst hv
  have hle := hl.le
  have HL := Lib.hid hl
  clear hl
  go_enter Tryz.func126, Tryz.ntmps126
  go_wp2
  go_loop [5, 8] (fun _ iv => ∃ k : Nat, k ≤ l.length ∧ iv = .int .i64 k ∧ (x ∈ l ↔ x ∈ l.drop k)) (fun _ iv => l.length - (intOf iv).toNat)
  case atStart => exact ⟨0, Nat.zero_le _, rfl, Iff.rfl⟩
  case round =>
    obtain ⟨k, hk, rfl, hm⟩ := hrel
    by_cases hlt : k < l.length
    · obtain ⟨b, off, c', hv, hbl, hc⟩ := HL.out.cell (by omega)
      obtain ⟨rfl, rfl⟩ : a = some ⟨b, off, none⟩ ∧ c = c' := by cases hv; exact ⟨rfl, rfl⟩
      replace hc := hc k hlt
      rw [drop_int hlt] at hm
      generalize l.getD k 0 = y at *
      have HM := Lib.hid hm
      clear hv hm
      by_cases hy : x = y
      · have t : (x == y) = true := beq_iff_eq.2 hy
        have HY := Lib.hid hy
        clear hy
        go_wp2
        go_ret
        exact ⟨(k : Int), rfl, by rw [decide_eq_true (show (0 : Int) ≤ (k : Int) by omega), decide_eq_true (HM.out.2 (by rw [HY.out]; exact List.mem_cons_self))], Below.refl _ _⟩
      · have t : (x == y) = false := beq_eq_false_iff_ne.2 hy
        have HY := Lib.hid hy
        clear hy
        go_wp2
        go_round
        case rel => exact ⟨k + 1, by omega, by go_num, HM.out.trans ⟨fun h => by rcases List.mem_cons.1 h with h | h; exact absurd h HY.out; exact h, fun h => List.mem_cons_of_mem _ h⟩⟩
        case measure => simp [intOf]; omega
    · rw [List.drop_of_length_le (by omega)] at hm
      have HM := Lib.hid hm
      clear hm
      go_wp2
      go_ret
      exact ⟨-1, rfl, by rw [decide_eq_false (by omega), decide_eq_false (fun h => by have := HM.out.1 h; simp at this)], Below.refl _ _⟩

theorem Contains_any (v : Value) (l : List Int) (x : Int) (w : World) (hl : Ints w v l) : Calls Tryz.prog 79 #[v, .int .i64 x] w fun e w' => e = .returned (.bool (decide (x ∈ l))) ∧ Below w.heap.size w w' := by
  obtain ⟨B, hB⟩ : ∃ B, decide (x ∈ l) = B := ⟨_, rfl⟩
  have hI := Index_any v l x w hl
  rw [hB] at hI ⊢
  clear hB
  go_enter Tryz.func79, Tryz.ntmps79
  go_wp2_with fail
  refine hI.mono ?_
  rintro e w1 ⟨r, rfl, hr, hb⟩
  have HR := Lib.hid hr
  clear hr
  go_wp2
  go_ret
  exact ⟨ret_bool HR.out, hb⟩

end Go.Proofs.YtnohglkilpnjhaaGreatDoor

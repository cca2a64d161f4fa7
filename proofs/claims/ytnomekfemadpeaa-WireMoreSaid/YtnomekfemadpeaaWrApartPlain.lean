/- Messages that may be, and have the same items, are the same; in plain Lean. No condition. -/
import Derived.Test.YtnomekfemadpeaaWrSpec
import Derived.Test.YtnomekfemadpeaaTlvBackPlain
namespace Go.Proofs.Ytnomekfemadpeaa
set_option linter.unusedVariables false
set_option linter.unusedSimpArgs false

theorem uint_split {a b : Nat} {r s : List UInt8} (ha : a < 18446744073709551616) (hb : b < 18446744073709551616) (h : uint a ++ r = uint b ++ s) : a = b ∧ r = s := by
  have h1 := cutL_uint0 a r ha
  rw [h, cutL_uint0 b s hb] at h1
  simp only [Option.some.injEq, Prod.mk.injEq] at h1
  have : a = b := h1.1.symm
  subst this
  exact ⟨rfl, List.append_cancel_left h⟩
theorem uintsL_inj : ∀ {l m : List Int}, uintsL l = uintsL m → l.map u64L = m.map u64L
  | [], [], _ => rfl
  | [], y :: m, h => by
    have h1 : (uintsL (y :: m)).length = 0 := by rw [← h]; rfl
    have := uint_pos (u64L y)
    simp [uintsL] at h1
    rw [h1.1] at this; simp at this
  | x :: l, [], h => by
    have h1 : (uintsL (x :: l)).length = 0 := by rw [h]; rfl
    have := uint_pos (u64L x)
    simp [uintsL] at h1
    rw [h1.1] at this; simp at this
  | x :: l, y :: m, h => by
    have h' : uint (u64L x) ++ uintsL l = uint (u64L y) ++ uintsL m := h
    obtain ⟨e1, e2⟩ := uint_split (u64L_lt x) (u64L_lt y) h'
    rw [List.map_cons, List.map_cons, e1, uintsL_inj e2]
theorem u64L_inj {a b : Int} (ha : 0 ≤ a) (ha2 : a ≤ 9223372036854775807) (hb : 0 ≤ b) (hb2 : b ≤ 9223372036854775807) (h : u64L a = u64L b) : a = b := by
  unfold u64L at h; omega
theorem ids_inj : ∀ {l m : List Int}, l.all idB = true → m.all idB = true → l.map u64L = m.map u64L → l = m
  | [], [], _, _, _ => rfl
  | [], y :: m, _, _, h => by simp at h
  | x :: l, [], _, _, h => by simp at h
  | x :: l, y :: m, h1, h2, h => by
    simp only [List.all_cons, Bool.and_eq_true, List.map_cons, List.cons.injEq, idB, withinB, decide_eq_true_eq] at h1 h2 h
    rw [u64L_inj (by omega) (by omega) (by omega) (by omega) h.1, ids_inj h1.2 h2.2 h.2]
theorem flat_inj : ∀ {l m : List (List UInt8)}, (∀ d ∈ l, d.length = 32) → (∀ d ∈ m, d.length = 32) → l.flatten = m.flatten → l = m
  | [], [], _, _, _ => rfl
  | [], y :: m, _, h2, h => by
    have := h2 y (.head _)
    have h3 := congrArg List.length h
    simp only [List.flatten_cons, List.length_append, List.flatten_nil, List.length_nil] at h3; omega
  | x :: l, [], h1, _, h => by
    have := h1 x (.head _)
    have h3 := congrArg List.length h
    simp only [List.flatten_cons, List.length_append, List.flatten_nil, List.length_nil] at h3; omega
  | x :: l, y :: m, h1, h2, h => by
    simp only [List.flatten_cons] at h
    obtain ⟨e1, e2⟩ := List.append_inj h (by rw [h1 x (.head _), h2 y (.head _)])
    rw [e1, flat_inj (fun d hd => h1 d (.tail _ hd)) (fun d hd => h2 d (.tail _ hd)) e2]
theorem memU_eq (x : MemL) (r : List UInt8) : memU x ++ r = uint (u64L x.id) ++ (uint (u64L x.inc) ++ (uint (u64L x.state) ++ r)) := by simp [memU, uintsL]
theorem mems_inj : ∀ {l m : List MemL}, l.all memB0 = true → m.all memB0 = true → l.flatMap memU = m.flatMap memU → l = m
  | [], [], _, _, _ => rfl
  | [], y :: m, _, _, h => by
    have h3 := congrArg List.length h
    rw [List.flatMap_cons, memU_eq] at h3
    have := uint_pos (u64L y.id)
    simp only [List.length_append, List.flatMap_nil, List.length_nil] at h3; omega
  | x :: l, [], _, _, h => by
    have h3 := congrArg List.length h
    rw [List.flatMap_cons, memU_eq] at h3
    have := uint_pos (u64L x.id)
    simp only [List.length_append, List.flatMap_nil, List.length_nil] at h3; omega
  | x :: l, y :: m, h1, h2, h => by
    rw [List.flatMap_cons, List.flatMap_cons, memU_eq, memU_eq] at h
    obtain ⟨e1, h⟩ := uint_split (u64L_lt _) (u64L_lt _) h
    obtain ⟨e2, h⟩ := uint_split (u64L_lt _) (u64L_lt _) h
    obtain ⟨e3, h⟩ := uint_split (u64L_lt _) (u64L_lt _) h
    simp only [List.all_cons, Bool.and_eq_true, memB0, memB, idB, withinB, decide_eq_true_eq] at h1 h2
    have i1 := u64L_inj (by omega) (by omega) (by omega) (by omega) e1
    have i2 := u64L_inj (by omega) (by omega) (by omega) (by omega) e2
    have i3 := u64L_inj (by omega) (by omega) (by omega) (by omega) e3
    have : x = y := by
      obtain ⟨a, b, c, d⟩ := x
      obtain ⟨a', b', c', d'⟩ := y
      simp only [MemL.mk.injEq]
      dsimp only at i1 i2 i3 h1 h2
      exact ⟨i1, i2, i3, by omega⟩
    rw [this, mems_inj h1.2 h2.2 h]

theorem item_of {m : MsgL} (h : rightB m = true) {i : Int} (h1 : 1 ≤ i) (h2 : i ≤ 8) : itemB m i = true := by
  rw [rightB_eq] at h
  simp only [Bool.and_eq_true] at h
  obtain ⟨a1, a2, a3, a4, a5, a6, a7, a8⟩ := h
  rcases (show i = 1 ∨ i = 2 ∨ i = 3 ∨ i = 4 ∨ i = 5 ∨ i = 6 ∨ i = 7 ∨ i = 8 by omega) with rfl | rfl | rfl | rfl | rfl | rfl | rfl | rfl <;> assumption
theorem has_one {k : Int} (h1 : 1 ≤ k) (h2 : k ≤ 11) : 1 ∈ hasL k := by
  rcases kinds k with h | h | h | h | h | h | h | h | h | h | h | h
  case inr.inr.inr.inr.inr.inr.inr.inr.inr.inr.inr => omega
  all_goals (subst h; simp [hasL])
theorem has_head {k : Int} (h1 : 1 ≤ k) (h2 : k ≤ 11) : ∃ r, hasL k = 1 :: r := by
  rcases kinds k with h | h | h | h | h | h | h | h | h | h | h | h
  case inr.inr.inr.inr.inr.inr.inr.inr.inr.inr.inr => omega
  all_goals (subst h; exact ⟨_, rfl⟩)

/-- Right messages of the same items are the same. -/
theorem items_inj {a b : MsgL} (ha : rightB a = true) (hb : rightB b = true) (pa : ∀ d ∈ a.proof, d.length = 32) (pb : ∀ d ∈ b.proof, d.length = 32) (h : itemsM a = itemsM b) : a = b := by
  have ka := right_kind ha
  have kb := right_kind hb
  have hk : a.kind = b.kind := by
    obtain ⟨r, er⟩ := has_head ka.1 ka.2
    obtain ⟨r', er'⟩ := has_head kb.1 kb.2
    unfold itemsM at h
    rw [er, er'] at h
    simp only [List.map_cons, List.cons.injEq, Prod.mk.injEq, true_and] at h
    have h1 := uintsL_inj (l := [a.kind]) (m := [b.kind]) h.1
    simp only [List.map_cons, List.map_nil, List.cons.injEq, and_true] at h1
    exact u64L_inj (by omega) (by omega) (by omega) (by omega) h1
  have hbody : ∀ i ∈ hasL a.kind, bodyL a i = bodyL b i := by
    unfold itemsM at h
    rw [← hk] at h
    intro i hi
    have := List.map_inj_left.1 h i hi
    simpa using this
  have hit : ∀ i : Int, 1 ≤ i → i ≤ 8 → (i ∈ hasL a.kind ∧ fitsB a i = true ∧ fitsB b i = true ∧ bodyL a i = bodyL b i) ∨ (bareB a i = true ∧ bareB b i = true) := by
    intro i h1 h2
    have ia := item_of ha h1 h2
    have ib := item_of hb h1 h2
    unfold itemB at ia ib
    rw [← hk] at ib
    by_cases hm : i ∈ hasL a.kind
    · rw [if_pos hm] at ia ib
      exact .inl ⟨hm, ia, ib, hbody i hm⟩
    · rw [if_neg hm] at ia ib
      exact .inr ⟨ia, ib⟩
  have e2 : a.hash = b.hash := by
    rcases hit 2 (by omega) (by omega) with ⟨_, _, _, h⟩ | ⟨h1, h2⟩
    · simpa [bodyL] using h
    · simp [bareB] at h1 h2; rw [h1, h2]
  have e3 : a.piece = b.piece := by
    rcases hit 3 (by omega) (by omega) with ⟨_, f1, f2, h⟩ | ⟨h1, h2⟩
    · simp [fitsB, withinB] at f1 f2
      have h1 := uintsL_inj (l := [a.piece]) (m := [b.piece]) (by simpa [bodyL] using h)
      simp only [List.map_cons, List.map_nil, List.cons.injEq, and_true] at h1
      exact u64L_inj (by omega) (by omega) (by omega) (by omega) h1
    · simp [bareB] at h1 h2; rw [h1, h2]
  have e4 : a.ids = b.ids := by
    rcases hit 4 (by omega) (by omega) with ⟨_, f1, f2, h⟩ | ⟨h1, h2⟩
    · simp only [fitsB, Int.reduceEq, if_false, if_true, Bool.and_eq_true] at f1 f2
      exact ids_inj f1.2 f2.2 (uintsL_inj (by simpa [bodyL] using h))
    · simp [bareB] at h1 h2; rw [h1, h2]
  have e5 : a.bytes = b.bytes := by
    rcases hit 5 (by omega) (by omega) with ⟨_, f1, f2, h⟩ | ⟨h1, h2⟩
    · simpa [bodyL] using h
    · simp [bareB] at h1 h2; rw [h1, h2]
  have e6 : a.proof = b.proof := by
    rcases hit 6 (by omega) (by omega) with ⟨_, f1, f2, h⟩ | ⟨h1, h2⟩
    · exact flat_inj pa pb (by simpa [bodyL] using h)
    · simp [bareB] at h1 h2; rw [h1, h2]
  have e7 : a.members = b.members := by
    rcases hit 7 (by omega) (by omega) with ⟨_, f1, f2, h⟩ | ⟨h1, h2⟩
    · simp only [fitsB, Int.reduceEq, if_false, if_true, Bool.and_eq_true] at f1 f2
      exact mems_inj f1.2 f2.2 (by simpa [bodyL] using h)
    · simp [bareB] at h1 h2; rw [h1, h2]
  have e8 : a.seed = b.seed := by
    rcases hit 8 (by omega) (by omega) with ⟨_, f1, f2, h⟩ | ⟨h1, h2⟩
    · have h1 := uintsL_inj (l := [if a.seed then 1 else 0]) (m := [if b.seed then 1 else 0]) (by simpa [bodyL] using h)
      cases ha8 : a.seed <;> cases hb8 : b.seed <;> simp [ha8, hb8, u64L] at h1 ⊢
    · simp [bareB] at h1 h2; rw [h1, h2]
  cases a
  cases b
  simp only [MsgL.mk.injEq]
  exact ⟨hk, e2, e3, e4, e5, e6, e7, e8⟩

/-- .. and of the same bytes. -/
theorem encM_inj {a b : MsgL} {x y : List UInt8} (ha : encM a = some x) (hb : encM b = some y) (pa : ∀ d ∈ a.proof, d.length = 32) (pb : ∀ d ∈ b.proof, d.length = 32) : x = y ↔ a = b := by
  unfold encM at ha hb
  split at ha
  case isFalse => cases ha
  split at hb
  case isFalse => cases hb
  rename_i h1 h2
  constructor
  · intro e
    subst e
    have d1 := decL_encL ha
    rw [decL_encL hb] at d1
    exact items_inj h1 h2 pa pb (Option.some.inj d1).symm
  · intro e
    subst e
    rw [ha] at hb
    exact Option.some.inj hb

end Go.Proofs.Ytnomekfemadpeaa

/- What package wire computes, in plain Lean: which items a kind has, whether a message may be, its items' bytes; the document's answer computes the same. No program in sight. No condition. -/
import Derived.Test.YtnomekfemadpeaaTlvSpec
namespace Go.Proofs.Ytnomekfemadpeaa
set_option linter.unusedVariables false

/-- A peer as it is heard of. -/
structure MemL where
  id : Int
  inc : Int
  state : Int
  since : Int
deriving DecidableEq

/-- A message. -/
structure MsgL where
  kind : Int
  hash : List UInt8
  piece : Int
  ids : List Int
  bytes : List UInt8
  proof : List (List UInt8)
  members : List MemL
  seed : Bool
deriving DecidableEq

def zero32 : List UInt8 := List.replicate 32 0

/-- Which items a kind has. -/
def hasL (k : Int) : List Int :=
  if k = 1 then [1, 2, 5] else if k = 10 then [1, 2, 5] else if k = 2 then [1, 2, 3] else if k = 3 then [1, 2, 3] else if k = 5 then [1, 2, 3] else if k = 4 then [1, 2, 3, 5, 6] else if k = 6 then [1, 2, 8] else if k = 7 then [1, 2, 4]
  else if k = 8 then [1, 7] else if k = 9 then [1, 2] else if k = 11 then [1, 2] else []
def mostL (k : Int) : Int := if k = 1 then 128 else if k = 4 then 16384 else if k = 10 then 4096 else 0
def withinB (n lo hi : Int) : Bool := decide (lo ≤ n) && decide (n ≤ hi)
def idB (n : Int) : Bool := withinB n 1 65536
def memB (x : MemL) : Bool := idB x.id && withinB x.inc 0 1073741824 && withinB x.state 1 3
def memB0 (x : MemL) : Bool := memB x && decide (x.since = 0)

/-- Whether a message has nothing of an item. -/
def bareB (m : MsgL) (i : Int) : Bool :=
  if i = 1 then false else if i = 2 then decide (m.hash = zero32) else if i = 3 then decide (m.piece = 0) else if i = 4 then decide (m.ids.length = 0) else if i = 5 then decide (m.bytes.length = 0) else if i = 6 then decide (m.proof.length = 0)
  else if i = 7 then decide (m.members.length = 0) else !m.seed
/-- Whether what a message has of an item may be. -/
def fitsB (m : MsgL) (i : Int) : Bool :=
  if i = 3 then withinB m.piece 0 1023 else if i = 4 then decide (m.ids.length ≤ 64) && m.ids.all idB else if i = 5 then withinB m.bytes.length 1 (mostL m.kind) else if i = 6 then decide (m.proof.length ≤ 10)
  else if i = 7 then withinB m.members.length 1 65 && m.members.all memB0 else true
def itemB (m : MsgL) (i : Int) : Bool := if i ∈ hasL m.kind then fitsB m i else bareB m i
/-- Whether a message may be: its items from the i-th on. -/
def rightF (m : MsgL) : Nat → Int → Bool
  | 0, _ => true
  | f + 1, i => itemB m i && rightF m f (i + 1)
def rightB (m : MsgL) : Bool := rightF m 8 1

/-- A number of 64 bits without its sign. -/
def u64L (n : Int) : Nat := (n % 18446744073709551616).toNat
theorem u64L_lt (n : Int) : u64L n < 18446744073709551616 := by unfold u64L; omega
theorem u64L_nn {n : Int} (h : 0 ≤ n) (h2 : n < 18446744073709551616) : (u64L n : Int) = n := by unfold u64L; omega
/-- Numbers as bytes, one behind the other. -/
def uintsL (l : List Int) : List UInt8 := l.flatMap fun n => uint (u64L n)
theorem uintsL_snoc (l : List Int) (n : Int) : uintsL (l ++ [n]) = uintsL l ++ uint (u64L n) := by simp [uintsL]
theorem uintsL_one (n : Int) : uintsL [n] = uint (u64L n) := by simp [uintsL]
def memU (x : MemL) : List UInt8 := uintsL [x.id, x.inc, x.state]
def bodyL (m : MsgL) (i : Int) : List UInt8 :=
  if i = 1 then uintsL [m.kind] else if i = 2 then m.hash else if i = 3 then uintsL [m.piece] else if i = 4 then uintsL m.ids else if i = 5 then m.bytes else if i = 6 then m.proof.flatten
  else if i = 7 then m.members.flatMap memU else if i = 8 then uintsL [if m.seed then 1 else 0] else []
/-- A message as bytes. -/
def itemsM (m : MsgL) : List (Int × List UInt8) := (hasL m.kind).map fun i => (i, bodyL m i)
def encM (m : MsgL) : Option (List UInt8) := if rightB m = true then encL (itemsM m) else none

/-! ### The document's answer's -/

def rhasL (k : Int) : Bool × Bool × Bool × Int × Bool × Bool × Bool :=
  if k = 1 then (true, false, false, 128, false, false, false) else if k = 2 then (true, true, false, 0, false, false, false) else if k = 3 then (true, true, false, 0, false, false, false) else if k = 5 then (true, true, false, 0, false, false, false)
  else if k = 4 then (true, true, false, 16384, true, false, false) else if k = 6 then (true, false, false, 0, false, false, true) else if k = 7 then (true, false, true, 0, false, false, false) else if k = 8 then (false, false, false, 0, false, true, false)
  else if k = 10 then (true, false, false, 4096, false, false, false) else (true, false, false, 0, false, false, false)

/-- The eleven kinds, or none of them. -/
theorem kinds (k : Int) : k = 1 ∨ k = 2 ∨ k = 3 ∨ k = 4 ∨ k = 5 ∨ k = 6 ∨ k = 7 ∨ k = 8 ∨ k = 9 ∨ k = 10 ∨ k = 11 ∨ (k < 1 ∨ 11 < k) := by omega
theorem hasL_none {k : Int} (h : k < 1 ∨ 11 < k) : hasL k = [] := by
  unfold hasL
  simp [show ¬ k = 1 by omega, show ¬ k = 2 by omega, show ¬ k = 3 by omega, show ¬ k = 4 by omega, show ¬ k = 5 by omega, show ¬ k = 6 by omega, show ¬ k = 7 by omega, show ¬ k = 8 by omega, show ¬ k = 9 by omega, show ¬ k = 10 by omega, show ¬ k = 11 by omega]
theorem rightB_eq (m : MsgL) : rightB m = (itemB m 1 && (itemB m 2 && (itemB m 3 && (itemB m 4 && (itemB m 5 && (itemB m 6 && (itemB m 7 && itemB m 8))))))) := by
  simp [rightB, rightF]

/-- The reference's Right, its four tests. -/
def rTest1 (m : MsgL) : Bool := decide (m.kind < 1) || decide (11 < m.kind) || decide (m.piece < 0) || decide (1023 < m.piece) || decide (64 < (m.ids.length : Int)) || decide (10 < (m.proof.length : Int)) || decide (65 < (m.members.length : Int))
def rTest2 (m : MsgL) : Bool :=
  (!(rhasL m.kind).1 && !decide (m.hash = zero32)) || (!(rhasL m.kind).2.1 && !decide (m.piece = 0)) || (!(rhasL m.kind).2.2.1 && decide (0 < (m.ids.length : Int))) || (!(rhasL m.kind).2.2.2.2.1 && decide (0 < (m.proof.length : Int))) || (!(rhasL m.kind).2.2.2.2.2.2 && m.seed)
def rTest3 (m : MsgL) : Bool :=
  decide ((rhasL m.kind).2.2.2.1 < (m.bytes.length : Int)) || (decide (0 < (rhasL m.kind).2.2.2.1) && decide ((m.bytes.length : Int) = 0)) || ((rhasL m.kind).2.2.2.2.2.1 != decide (0 < (m.members.length : Int)))
def rrightB (m : MsgL) : Bool := !rTest1 m && !rTest2 m && !rTest3 m && m.ids.all idB && m.members.all memB0

set_option maxHeartbeats 1600000 in
theorem rrightB_eq (m : MsgL) : rrightB m = rightB m := by
  rw [rightB_eq]
  obtain ⟨kind, hash, piece, ids, bytes, proof, members, seed⟩ := m
  unfold rrightB rTest1 rTest2 rTest3
  rw [Bool.eq_iff_iff]
  rcases kinds kind with h | h | h | h | h | h | h | h | h | h | h | h
  case inr.inr.inr.inr.inr.inr.inr.inr.inr.inr.inr =>
    have e : itemB ⟨kind, hash, piece, ids, bytes, proof, members, seed⟩ 1 = false := by simp [itemB, hasL_none h, bareB]
    rw [e]
    simp only [Bool.false_and, Bool.false_eq_true, iff_false]
    intro hc
    simp only [Bool.and_eq_true, Bool.not_eq_true', Bool.or_eq_false_iff, decide_eq_false_iff_not] at hc
    omega
  all_goals
    subst h
    have hI : ids.length = 0 → ids.all idB = true := fun h => by rw [List.length_eq_zero_iff.1 h]; rfl
    have hM : members.length = 0 → members.all memB0 = true := fun h => by rw [List.length_eq_zero_iff.1 h]; rfl
    simp only [itemB, hasL, rhasL, fitsB, bareB, mostL, withinB]
    generalize ids.all idB = I at *
    generalize members.all memB0 = M at *
    generalize ids.length = a at *
    generalize members.length = b at *
    generalize bytes.length = c at *
    generalize proof.length = d at *
    generalize decide (hash = zero32) = z
    cases I <;> cases M <;> cases seed <;> cases z <;> simp at hI hM ⊢ <;> omega

/-- The items that the reference puts together. -/
def ritemsM (m : MsgL) : List (Int × List UInt8) :=
  [(1, uint (u64L m.kind))] ++ (if (rhasL m.kind).1 then [(2, m.hash)] else []) ++ (if (rhasL m.kind).2.1 then [(3, uint (u64L m.piece))] else []) ++ (if (rhasL m.kind).2.2.1 then [(4, uintsL m.ids)] else [])
  ++ (if 0 < (rhasL m.kind).2.2.2.1 then [(5, m.bytes)] else []) ++ (if (rhasL m.kind).2.2.2.2.1 then [(6, m.proof.flatten)] else []) ++ (if (rhasL m.kind).2.2.2.2.2.1 then [(7, m.members.flatMap memU)] else [])
  ++ (if (rhasL m.kind).2.2.2.2.2.2 then [(8, uint (u64L (if m.seed then 1 else 0)))] else [])
theorem right_kind {m : MsgL} (h : rightB m = true) : 1 ≤ m.kind ∧ m.kind ≤ 11 := by
  rw [rightB_eq] at h
  refine Classical.byContradiction fun hc => ?_
  have hn := hasL_none (k := m.kind) (by omega)
  simp [itemB, hn, bareB] at h
theorem ritemsM_eq {m : MsgL} (h : rightB m = true) : ritemsM m = itemsM m := by
  have hk := right_kind h
  clear h
  obtain ⟨kind, hash, piece, ids, bytes, proof, members, seed⟩ := m
  dsimp only at hk
  rcases kinds kind with h | h | h | h | h | h | h | h | h | h | h | h
  case inr.inr.inr.inr.inr.inr.inr.inr.inr.inr.inr => omega
  all_goals
    subst h
    simp [ritemsM, itemsM, hasL, rhasL, bodyL, uintsL_one]
def rencM (m : MsgL) : Option (List UInt8) := if rrightB m = true then rencL (ritemsM m) else none
theorem rencM_eq (m : MsgL) : rencM m = encM m := by
  unfold rencM encM
  rw [rrightB_eq]
  by_cases h : rightB m = true
  · rw [if_pos h, if_pos h, ritemsM_eq h, rencL_eq]
  · rw [if_neg h, if_neg h]

end Go.Proofs.Ytnomekfemadpeaa

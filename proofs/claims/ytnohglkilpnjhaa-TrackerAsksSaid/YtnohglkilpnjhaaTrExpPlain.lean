/- Expire in plain Lean: one peer after the other goes. No condition. -/
import Derived.Test.YtnohglkilpnjhaaGb
namespace Go.Proofs.Ytnohglkilpnjhaa
set_option linter.unusedVariables false
set_option linter.unusedSimpArgs false

theorem peersT_mid {X B : TabL} {d : List UInt8} {P : List PeerL} (h : Rising kD (X ++ (d, P) :: B)) : peersT d (X ++ (d, P) :: B) = P := peersT_mem h (x := (d, P)) (by simp)
/-- One peer that is there goes. -/
theorem leave_mid {X B : TabL} {d : List UInt8} {C R : List PeerL} {p : PeerL} (h : Rising kD (X ++ (d, C ++ p :: R) :: B)) (hp : Rising PeerL.id (C ++ p :: R)) :
    leaveT (X ++ (d, C ++ p :: R) :: B) d p.id = (X ++ oneT d (C ++ R) ++ B, 0) := by
  unfold leaveT
  rw [peersT_mid h, getK_mid hp, delK_mid hp]
  show (backT d (C ++ R) (X ++ (d, C ++ p :: R) :: B), (0 : Int)) = _
  unfold backT oneT
  by_cases h0 : C ++ R = []
  · rw [if_pos h0, if_pos h0]
    have := delK_mid (f := kD) h
    have e : kD (d, C ++ p :: R) = (natL d : Int) := rfl
    rw [e] at this
    rw [this]; simp
  · rw [if_neg h0, if_neg h0, insK_mid (f := kD) (x := (d, C ++ R)) h rfl]
    simp
theorem liveT_append (now : Int) : ∀ (A B : TabL), liveT now (A ++ B) = liveT now A ++ liveT now B
  | [], B => rfl
  | x :: A, B => by simp only [List.cons_append, liveT, liveT_append now A B, List.append_assoc]
theorem goneN_append (now : Int) : ∀ (A B : TabL), goneN now (A ++ B) = goneN now A + goneN now B
  | [], B => by simp [goneN]
  | x :: A, B => by simp only [List.cons_append, goneN, goneN_append now A B]; omega
theorem liveP_append (now : Int) (a b : List PeerL) : liveP now (a ++ b) = liveP now a ++ liveP now b := by simp [liveP]
theorem liveP_len (now : Int) (a : List PeerL) : (liveP now a).length ≤ a.length := List.length_filter_le _ _

/-- How the table stands in the midst: A is done, of the blob d the peers a are done, b are to come, B are to come. -/
def midT (now : Int) (A : TabL) (d : List UInt8) (a b : List PeerL) (B : TabL) : TabL := liveT now A ++ oneT d (liveP now a ++ b) ++ B
def midN (now : Int) (A : TabL) (a : List PeerL) : Nat := goneN now A + (a.length - (liveP now a).length)
theorem midT_cons {now : Int} {A B : TabL} {d : List UInt8} {a b : List PeerL} {p : PeerL} : midT now A d a (p :: b) B = liveT now A ++ (d, liveP now a ++ p :: b) :: B := by
  unfold midT oneT
  rw [if_neg (by simp)]
  simp
theorem midT_gone {now : Int} {A B : TabL} {d : List UInt8} {a b : List PeerL} {p : PeerL} (h : Rising kD (midT now A d a (p :: b) B)) (hp : Rising PeerL.id (liveP now a ++ p :: b)) (ht : p.till ≤ now) :
    leaveT (midT now A d a (p :: b) B) d p.id = (midT now A d (a ++ [p]) b B, 0) ∧ midN now A (a ++ [p]) = midN now A a + 1 := by
  have hl : liveP now (a ++ [p]) = liveP now a := by rw [liveP_append]; simp [liveP]; omega
  constructor
  · rw [midT_cons] at h ⊢
    rw [leave_mid h hp]
    unfold midT
    rw [hl]
  · unfold midN
    rw [hl]
    have := liveP_len now a
    simp
    omega
theorem midT_stay {now : Int} {A B : TabL} {d : List UInt8} {a b : List PeerL} {p : PeerL} (ht : now < p.till) :
    midT now A d (a ++ [p]) b B = midT now A d a (p :: b) B ∧ midN now A (a ++ [p]) = midN now A a := by
  have hl : liveP now (a ++ [p]) = liveP now a ++ [p] := by rw [liveP_append]; simp [liveP]; omega
  constructor
  · unfold midT; rw [hl]; simp
  · unfold midN; rw [hl]; simp
theorem midT_start {now : Int} {A B : TabL} {d : List UInt8} {P : List PeerL} (h : P ≠ []) : midT now A d [] P B = liveT now A ++ (d, P) :: B ∧ midN now A [] = goneN now A := by
  unfold midT midN oneT
  simp [liveP, h]
theorem midT_end {now : Int} {A B : TabL} {d : List UInt8} {P : List PeerL} : midT now A d P [] B = liveT now (A ++ [(d, P)]) ++ B ∧ midN now A P = goneN now (A ++ [(d, P)]) := by
  constructor
  · unfold midT
    rw [liveT_append]
    simp [liveT]
  · unfold midN
    rw [goneN_append]
    simp [goneN]
theorem gone_le2 (now : Int) : ∀ (T : TabL) (m : Nat), (∀ x ∈ T, x.2.length ≤ m) → goneN now T ≤ T.length * m
  | [], m, _ => by simp [goneN]
  | x :: T, m, h => by
    have h1 := gone_le2 now T m (fun y hy => h y (by simp [hy]))
    have h2 := h x (by simp)
    simp only [goneN, List.length_cons, Nat.add_mul, Nat.one_mul]
    omega
theorem goneN_take (now : Int) (T : TabL) (i : Nat) : goneN now (T.take i) ≤ goneN now T := by
  have := goneN_append now (T.take i) (T.drop i)
  rw [List.take_append_drop] at this
  omega

end Go.Proofs.Ytnohglkilpnjhaa

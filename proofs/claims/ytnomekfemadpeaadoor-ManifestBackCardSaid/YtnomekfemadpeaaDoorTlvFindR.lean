/- The walk of the reference's Find. No condition. -/
import Derived.Test.YtnomekfemadpeaaDoorItems
import Derived.Test.YtnomekfemadpeaaDoorGa
namespace Go.Proofs.YtnomekfemadpeaaDoor
open Go.RowKit
set_option linter.unusedVariables false

/-- The bytes of the first item of a number. -/
def findL (number : Int) : List It → Option (List UInt8)
  | [] => none
  | x :: r => if x.1 = number then some x.2 else findL number r

/-- What Find comes to. -/
def FindPost (w : World) (r : Option (List UInt8)) (e : Ending) (w' : World) : Prop :=
  ∃ v, e = .returned (.tuple #[v, .bool r.isSome]) ∧ Bytes w' v (r.getD []) ∧ Below w.heap.size w w'

theorem getD_mem {l : List It} {k : Nat} (h : k < l.length) : l.getD k (0, []) ∈ l := by
  rw [List.getD_eq_getElem?_getD, List.getElem?_eq_getElem h]; exact List.getElem_mem h

set_option maxRecDepth 100000 in
set_option maxHeartbeats 1600000 in
theorem refFind_any (v : Value) (l : List It) (number : Int) (w : World) (hl : Items w v l) :
    Calls Tryd.prog 80 #[v, .int .i64 number] w (FindPost w (findL number l)) := by
  obtain ⟨a, cp, rfl⟩ := hl.len
  have HL := Lib.hid hl
  have hll := hl.le
  clear hl
  go_enter Tryd.func80, Tryd.ntmps80
  go_wp2
  go_loop [6] (fun iv => ∃ (k : Nat), k ≤ l.length ∧ iv = .int .i64 k ∧ findL number l = findL number (l.drop k))
    (fun iv => l.length - (intOf iv).toNat)
  case atStart => exact ⟨0, by omega, rfl, rfl⟩
  case round =>
    obtain ⟨k, hk, rfl, heq⟩ := hrel
    by_cases hlt : k < l.length
    · obtain ⟨b, off, c', hv, hbl, hc⟩ := HL.out.cell (by omega)
      obtain ⟨rfl, rfl⟩ : a = some ⟨b, off, none⟩ ∧ cp = c' := by cases hv; exact ⟨rfl, rfl⟩
      obtain ⟨hc1, u, hc2, hu⟩ := hc k hlt
      rw [drop_at_it hlt] at heq
      generalize l.getD k (0, []) = x at *
      obtain ⟨ua, uc, rfl⟩ := hu.len
      have HU := Lib.hid hu
      have Heq := Lib.hid heq
      clear hc hv hu heq
      by_cases hx : x.1 = number
      · have hxb : (x.1 == number) = true := by simp [hx]
        have Hx := Lib.hid hx
        clear hx
        go_wp2
        go_ret2
        have hf : findL number l = some x.2 := by rw [Heq.out, findL, if_pos Hx.out]
        rw [hf]
        exact ⟨_, rfl, HU.out, Below.refl _ _⟩
      · have hxb : (x.1 == number) = false := by simp [hx]
        have Hx := Lib.hid hx
        clear hx
        go_wp2
        go_round
        case rel => exact ⟨k + 1, hlt, by go_num, by rw [Heq.out, findL, if_neg Hx.out]⟩
        case measure => simp [intOf]; omega
    · have Heq := Lib.hid heq
      clear heq
      go_wp2
      go_ret2
      have hf : findL number l = none := by rw [Heq.out, List.drop_of_length_le (by omega)]; rfl
      rw [hf]
      exact ⟨_, rfl, Bytes.of_nil, Below.refl _ _⟩

end Go.Proofs.YtnomekfemadpeaaDoor

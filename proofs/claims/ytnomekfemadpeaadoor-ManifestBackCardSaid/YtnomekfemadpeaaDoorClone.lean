/- The walk of slices.Clone at a slice of bytes: a slice of the call's own with the same bytes. Condition: no more than 2^47 bytes. -/
import Derived.Test.YtnomekfemadpeaaDoorTlvUint
namespace Go.Proofs.YtnomekfemadpeaaDoor
open Go.RowKit
set_option linter.unusedVariables false

set_option maxRecDepth 100000 in
set_option maxHeartbeats 800000 in
theorem Clone_any (v : Value) (l : List UInt8) (w : World) (hl : Bytes w v l) (hlen : l.length ≤ 140737488355328) :
    Calls Tryd.prog 95 #[v] w fun e w' => ∃ v', e = .returned v' ∧ Own8 w' w.heap.size 5 v' l ∧ Below w.heap.size w w' := by
  obtain ⟨i0, hi, hz0, hz1, hz2⟩ := info_parts infoU8
  obtain ⟨a, c, hv⟩ := hl.len
  cases a with
  | none =>
    have hl0 : l = [] := by
      obtain ⟨_, a', c', hv', h1, _, h3, _⟩ := hl
      rw [hv'] at hv; cases hv
      have := h3 rfl
      exact List.eq_nil_of_length_eq_zero (by omega)
    subst hl0
    have hc : c = 0 := by
      obtain ⟨_, a', c', hv', h1, _, h3, _⟩ := hl
      rw [hv'] at hv; cases hv
      exact h3 rfl
    subst hc
    subst hv
    have he := fun (w : World) (a : Option Addr) (n c : Nat) => Lib.run_eql_slice_nil (P := Tryd.prog) w 22 5 a n c 0 0 Tryd.underlying22
    go_enter Tryd.func95, Tryd.ntmps95
    go_wp2
    go_ret
    exact ⟨_, rfl, Own8.nil _ _ _, Below.refl _ _⟩
  | some a =>
    subst hv
    have he := fun (w : World) (a : Option Addr) (n c : Nat) => Lib.run_eql_slice_nil (P := Tryd.prog) w 22 5 a n c 0 0 Tryd.underlying22
    have hown0 : Own8 (w.alloc (.cells #[] 5)) w.heap.size 5 (.slice (some ⟨w.heap.size, 0, none⟩) 0 0) [] := World.ownsRow_made w #[] 0 (Nat.le_refl _) (by unfold maxLen; omega) rfl
    have hl0 := hl.of_alloc (.cells #[] 5)
    have HO := Lib.hid hown0
    have HL := Lib.hid hl0
    clear hown0 hl0 hl
    go_enter Tryd.func95, Tryd.ntmps95
    go_wp2_with (at_builtin; refine wpList_app8 rfl (.tmp 5) (.tmp 6) 22 rfl w.heap.size 5 i0 Tryd.underlying22 hi hz0 hz1 hz2 _ [] rfl HO.out _ l rfl HL.out ?c1 ?c2 ?_)
    case c1 => first | omega | (simp; omega)
    case c2 => simp
    intro v1 w1 hown1 hg1 _
    have hbA : Below w.heap.size w w1 := ((Below.refl _ w).alloc (Nat.le_refl _) _).grown hg1 (by simp) (fun j hj => (HO.out.lt j hj).1)
    clear hg1
    go_wp2
    go_ret
    exact ⟨_, rfl, by simpa using hown1, hbA⟩

end Go.Proofs.YtnomekfemadpeaaDoor

/- The walks of tlv.Uint, tlv.Int and of the references' Uint and Int: each answers, in new memory, the bytes of the number. No condition. -/
import Derived.Test.YtnomekfemadpeaaDoorProg
import Derived.Test.YtnomekfemadpeaaDoorGa
import Derived.Test.YtnomekfemadpeaaDoorTlvSpec
namespace Go.Proofs.YtnomekfemadpeaaDoor
open Go.RowKit


theorem Bytes.str {w : World} {v : Value} {l : List UInt8} (h : Bytes w v l) : (convert 22 9 v).run Tryd.prog w = .ok (.string ⟨l.toArray⟩) w :=
  h.string Tryd.underlying22 Tryd.underlying5 Tryd.underlying9

set_option maxHeartbeats 400000 in
theorem Uint_any (n : Nat) (w : World) (h1 : n < 18446744073709551616) :
    Calls Tryd.prog 51 #[.int .u64 n] w fun e w' => ∃ v, e = .returned v ∧ Own8 w' w.heap.size 5 v (uint n) ∧ Below w.heap.size w w' := by
  obtain ⟨i0, hi, hz0, hz1, hz2⟩ := info_parts infoU8
  go_enter Tryd.func51, Tryd.ntmps51
  go_wp2
  go_loopw [0, 3] (fun nv v wr => ∃ (k : Nat) (pre : List UInt8), k < 18446744073709551616 ∧ nv = .int .u64 k ∧ uint n = pre ++ uint k ∧ Own8 wr w.heap.size 5 v pre ∧ Below w.heap.size w wr)
    (fun nv _ _ => (intOf nv).toNat)
  case atStart => exact ⟨n, [], h1, rfl, rfl, Own8.nil _ _ _, Below.refl _ _⟩
  case round =>
    obtain ⟨k, pre, hk, rfl, heq, hown, hb⟩ := hrel
    have hp : pre.length ≤ 10 := by
      have h2 := uint_len10 h1
      rw [heq, List.length_append] at h2
      omega
    have Heq := Lib.hid heq
    clear heq
    have hsz := hb.size
    by_cases hlt : (128 : Int) ≤ k
    · go_wp2_with (at_builtin; refine wpList_app8 rfl (.tmp 8) (.tmp 12) 22 rfl w.heap.size 5 i0 Tryd.underlying22 hi hz0 hz1 hz2 _ pre rfl (hown.alloc _) _ [UInt8.ofNat (k % 128 + 128)] rfl ?c1 ?c2 ?c3 ?_)
      case c1 =>
        rw [show ((k : Int) % 256) = ((k % 256 : Nat) : Int) from by omega, or128_u8 _ (by omega), show k % 256 % 128 = k % 128 from by omega]
        have e : (((k % 128 + 128 : Nat)) : Int) = ((UInt8.ofNat (k % 128 + 128)).toNat : Int) := by simp; omega
        rw [e]
        exact Bytes.one _ _ _
      case c2 => simp; omega
      case c3 => simp; omega
      · intro v' w1 hown1 hg _
        have hb1 : Below w.heap.size w w1 := (hb.alloc hsz _).grown hg (by simp; omega) (fun j hj => (hown.lt j hj).1)
        clear hown hb hg hsz
        go_wp2
        go_roundw
        case rel =>
          refine ⟨k / 128, _, by omega, by go_num, ?_, hown1, hb1⟩
          rw [Heq.out, uint_big (by omega)]; simp
        case measure => simp [intOf]; omega
    · go_wp2_with (at_builtin; refine wpList_app8 rfl (.tmp 14) (.tmp 17) 22 rfl w.heap.size 5 i0 Tryd.underlying22 hi hz0 hz1 hz2 _ pre rfl (hown.alloc _) _ [UInt8.ofNat k] rfl ?d1 ?d2 ?d3 ?_)
      case d1 =>
        have e : (k : Int) = ((UInt8.ofNat k).toNat : Int) := by simp; omega
        rw [e]
        exact Bytes.one _ _ _
      case d2 => first | omega | (simp; omega)
      case d3 => first | omega | (simp; omega)
      · intro v' w1 hown1 hg _
        have hb1 : Below w.heap.size w w1 := (hb.alloc hsz _).grown hg (by simp; omega) (fun j hj => (hown.lt j hj).1)
        clear hown hb hg hsz
        go_wp2
        go_ret
        refine ⟨_, rfl, ?_, hb1⟩
        rw [Heq.out, uint_small (by omega)]; exact hown1


set_option maxHeartbeats 400000 in
theorem refUint_any (n : Nat) (w : World) (h1 : n < 18446744073709551616) :
    Calls Tryd.prog 54 #[.int .u64 n] w fun e w' => ∃ v, e = .returned v ∧ Own8 w' w.heap.size 5 v (uint n) ∧ Below w.heap.size w w' := by
  obtain ⟨i0, hi, hz0, hz1, hz2⟩ := info_parts infoU8
  go_enter Tryd.func54, Tryd.ntmps54
  go_wp2
  go_loopw [0, 3] (fun nv v wr => ∃ (k : Nat) (pre : List UInt8), k < 18446744073709551616 ∧ nv = .int .u64 k ∧ uint n = pre ++ uint k ∧ Own8 wr w.heap.size 5 v pre ∧ Below w.heap.size w wr)
    (fun nv _ _ => (intOf nv).toNat)
  case atStart => exact ⟨n, [], h1, rfl, rfl, Own8.nil _ _ _, Below.refl _ _⟩
  case round =>
    obtain ⟨k, pre, hk, rfl, heq, hown, hb⟩ := hrel
    have hp : pre.length ≤ 10 := by
      have h2 := uint_len10 h1
      rw [heq, List.length_append] at h2
      omega
    have Heq := Lib.hid heq
    clear heq
    have hsz := hb.size
    by_cases hlt : (128 : Int) ≤ k
    · go_wp2_with (at_builtin; refine wpList_app8 rfl _ _ 22 rfl w.heap.size 5 i0 Tryd.underlying22 hi hz0 hz1 hz2 _ pre rfl (hown.alloc _) _ [UInt8.ofNat (k % 128 + 128)] rfl ?c1 ?c2 ?c3 ?_)
      case c1 =>
        have e : (k : Int) % 128 + 128 = ((UInt8.ofNat (k % 128 + 128)).toNat : Int) := by simp; omega
        rw [e]
        exact Bytes.one _ _ _
      case c2 => first | omega | (simp; omega)
      case c3 => first | omega | (simp; omega)
      · intro v' w1 hown1 hg _
        have hb1 : Below w.heap.size w w1 := (hb.alloc hsz _).grown hg (by simp; omega) (fun j hj => (hown.lt j hj).1)
        clear hown hb hg hsz
        go_wp2
        go_roundw
        case rel =>
          refine ⟨k / 128, _, by omega, by go_num, ?_, hown1, hb1⟩
          rw [Heq.out, uint_big (by omega)]; simp
        case measure => simp [intOf]; omega
    · go_wp2_with (at_builtin; refine wpList_app8 rfl _ _ 22 rfl w.heap.size 5 i0 Tryd.underlying22 hi hz0 hz1 hz2 _ pre rfl (hown.alloc _) _ [UInt8.ofNat k] rfl ?d1 ?d2 ?d3 ?_)
      case d1 =>
        have e : (k : Int) = ((UInt8.ofNat k).toNat : Int) := by simp; omega
        rw [e]
        exact Bytes.one _ _ _
      case d2 => first | omega | (simp; omega)
      case d3 => first | omega | (simp; omega)
      · intro v' w1 hown1 hg _
        have hb1 : Below w.heap.size w w1 := (hb.alloc hsz _).grown hg (by simp; omega) (fun j hj => (hown.lt j hj).1)
        clear hown hb hg hsz
        go_wp2
        go_ret
        refine ⟨_, rfl, ?_, hb1⟩
        rw [Heq.out, uint_small (by omega)]; exact hown1

theorem Uint_at (x : Int) (n : Nat) (w : World) (hx : x = n) (h1 : n < 18446744073709551616) :
    Calls Tryd.prog 51 #[.int .u64 x] w fun e w' => ∃ v, e = .returned v ∧ Own8 w' w.heap.size 5 v (uint n) ∧ Below w.heap.size w w' := by
  subst hx; exact Uint_any n w h1

theorem refUint_at (x : Int) (n : Nat) (w : World) (hx : x = n) (h1 : n < 18446744073709551616) :
    Calls Tryd.prog 54 #[.int .u64 x] w fun e w' => ∃ v, e = .returned v ∧ Own8 w' w.heap.size 5 v (uint n) ∧ Below w.heap.size w w' := by
  subst hx; exact refUint_any n w h1

end Go.Proofs.YtnomekfemadpeaaDoor

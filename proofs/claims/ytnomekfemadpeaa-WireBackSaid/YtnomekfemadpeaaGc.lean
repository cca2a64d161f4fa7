/- Settled texts of this seat, one behind the other: each begins with a comment that says what it proves and asks. -/
import Derived.Test.YtnomekfemadpeaaProg
import Derived.Test.YtnomekfemadpeaaGa
import Derived.Test.YtnomekfemadpeaaGb
import Derived.Deep.QuietTactic
import Derived.BigQuiet
import Derived.LoopNIn
import Derived.LoopIn
import Derived.Shelf.Abstract
import Derived.Shelf.RegionOpen
import Derived.Maps.AppendAt
import Derived.Great.BuildSlice
import Derived.Deep.DeepCutAuto
import Derived.Deep.RegionHeld3
import Derived.Deep.AppendLies
/- The walks of tlv.Uint, tlv.Int and of the references' Uint and Int: each answers, in new memory, the bytes of the number. No condition. -/
namespace Go.Proofs.Ytnomekfemadpeaa
open Go.RowKit


theorem Bytes.str {w : World} {v : Value} {l : List UInt8} (h : Bytes w v l) : (convert 25 9 v).run Try.prog w = .ok (.string ⟨l.toArray⟩) w :=
  h.string Try.underlying25 Try.underlying5 Try.underlying9

set_option maxHeartbeats 400000 in
theorem Uint_any (n : Nat) (w : World) (h1 : n < 18446744073709551616) :
    Calls Try.prog 38 #[.int .u64 n] w fun e w' => ∃ v, e = .returned v ∧ Own8 w' w.heap.size 5 v (uint n) ∧ Below w.heap.size w w' := by
  obtain ⟨i0, hi, hz0, hz1, hz2⟩ := info_parts infoU8
  go_enter Try.func38, Try.ntmps38
  go_wp2
  go_loopw [0, 3] (fun nv v wr => ∃ (k : Nat) (pre : List UInt8), k < 18446744073709551616 ∧ nv = .int .u64 k ∧ uint n = pre ++ uint k ∧ Own8 wr w.heap.size 5 v pre ∧ Below w.heap.size w wr)
    (fun nv _ _ => (intOf nv).toNat)
  case atStart => exact ⟨n, [], h1, rfl, rfl, Own8.nil _ _ _, Below.refl _ _⟩
  case round =>
    obtain ⟨k, pre, hk, rfl, heq, hown, hb⟩ := hrel
    have hp : pre.length ≤ 10 := by
      have h2 := uint_len10 h1
      rw [heq, List.length_append] at h2
      omega
    have Heq := Lib.hid heq
    clear heq
    have hsz := hb.size
    by_cases hlt : (128 : Int) ≤ k
    · go_wp2_with (at_builtin; refine wpList_app8 rfl (.tmp 8) (.tmp 12) 25 rfl w.heap.size 5 i0 Try.underlying25 hi hz0 hz1 hz2 _ pre rfl (hown.alloc _) _ [UInt8.ofNat (k % 128 + 128)] rfl ?c1 ?c2 ?c3 ?_)
      case c1 =>
        rw [show ((k : Int) % 256) = ((k % 256 : Nat) : Int) from by omega, or128_u8 _ (by omega), show k % 256 % 128 = k % 128 from by omega]
        have e : (((k % 128 + 128 : Nat)) : Int) = ((UInt8.ofNat (k % 128 + 128)).toNat : Int) := by simp; omega
        rw [e]
        exact Bytes.one _ _ _
      case c2 => simp; omega
      case c3 => simp; omega
      · intro v' w1 hown1 hg _
        have hb1 : Below w.heap.size w w1 := (hb.alloc hsz _).grown hg (by simp; omega) (fun j hj => (hown.lt j hj).1)
        clear hown hb hg hsz
        go_wp2
        go_roundw
        case rel =>
          refine ⟨k / 128, _, by omega, by go_num, ?_, hown1, hb1⟩
          rw [Heq.out, uint_big (by omega)]; simp
        case measure => simp [intOf]; omega
    · go_wp2_with (at_builtin; refine wpList_app8 rfl (.tmp 14) (.tmp 17) 25 rfl w.heap.size 5 i0 Try.underlying25 hi hz0 hz1 hz2 _ pre rfl (hown.alloc _) _ [UInt8.ofNat k] rfl ?d1 ?d2 ?d3 ?_)
      case d1 =>
        have e : (k : Int) = ((UInt8.ofNat k).toNat : Int) := by simp; omega
        rw [e]
        exact Bytes.one _ _ _
      case d2 => first | omega | (simp; omega)
      case d3 => first | omega | (simp; omega)
      · intro v' w1 hown1 hg _
        have hb1 : Below w.heap.size w w1 := (hb.alloc hsz _).grown hg (by simp; omega) (fun j hj => (hown.lt j hj).1)
        clear hown hb hg hsz
        go_wp2
        go_ret
        refine ⟨_, rfl, ?_, hb1⟩
        rw [Heq.out, uint_small (by omega)]; exact hown1


set_option maxHeartbeats 400000 in
theorem refUint_any (n : Nat) (w : World) (h1 : n < 18446744073709551616) :
    Calls Try.prog 39 #[.int .u64 n] w fun e w' => ∃ v, e = .returned v ∧ Own8 w' w.heap.size 5 v (uint n) ∧ Below w.heap.size w w' := by
  obtain ⟨i0, hi, hz0, hz1, hz2⟩ := info_parts infoU8
  go_enter Try.func39, Try.ntmps39
  go_wp2
  go_loopw [0, 3] (fun nv v wr => ∃ (k : Nat) (pre : List UInt8), k < 18446744073709551616 ∧ nv = .int .u64 k ∧ uint n = pre ++ uint k ∧ Own8 wr w.heap.size 5 v pre ∧ Below w.heap.size w wr)
    (fun nv _ _ => (intOf nv).toNat)
  case atStart => exact ⟨n, [], h1, rfl, rfl, Own8.nil _ _ _, Below.refl _ _⟩
  case round =>
    obtain ⟨k, pre, hk, rfl, heq, hown, hb⟩ := hrel
    have hp : pre.length ≤ 10 := by
      have h2 := uint_len10 h1
      rw [heq, List.length_append] at h2
      omega
    have Heq := Lib.hid heq
    clear heq
    have hsz := hb.size
    by_cases hlt : (128 : Int) ≤ k
    · go_wp2_with (at_builtin; refine wpList_app8 rfl _ _ 25 rfl w.heap.size 5 i0 Try.underlying25 hi hz0 hz1 hz2 _ pre rfl (hown.alloc _) _ [UInt8.ofNat (k % 128 + 128)] rfl ?c1 ?c2 ?c3 ?_)
      case c1 =>
        have e : (k : Int) % 128 + 128 = ((UInt8.ofNat (k % 128 + 128)).toNat : Int) := by simp; omega
        rw [e]
        exact Bytes.one _ _ _
      case c2 => first | omega | (simp; omega)
      case c3 => first | omega | (simp; omega)
      · intro v' w1 hown1 hg _
        have hb1 : Below w.heap.size w w1 := (hb.alloc hsz _).grown hg (by simp; omega) (fun j hj => (hown.lt j hj).1)
        clear hown hb hg hsz
        go_wp2
        go_roundw
        case rel =>
          refine ⟨k / 128, _, by omega, by go_num, ?_, hown1, hb1⟩
          rw [Heq.out, uint_big (by omega)]; simp
        case measure => simp [intOf]; omega
    · go_wp2_with (at_builtin; refine wpList_app8 rfl _ _ 25 rfl w.heap.size 5 i0 Try.underlying25 hi hz0 hz1 hz2 _ pre rfl (hown.alloc _) _ [UInt8.ofNat k] rfl ?d1 ?d2 ?d3 ?_)
      case d1 =>
        have e : (k : Int) = ((UInt8.ofNat k).toNat : Int) := by simp; omega
        rw [e]
        exact Bytes.one _ _ _
      case d2 => first | omega | (simp; omega)
      case d3 => first | omega | (simp; omega)
      · intro v' w1 hown1 hg _
        have hb1 : Below w.heap.size w w1 := (hb.alloc hsz _).grown hg (by simp; omega) (fun j hj => (hown.lt j hj).1)
        clear hown hb hg hsz
        go_wp2
        go_ret
        refine ⟨_, rfl, ?_, hb1⟩
        rw [Heq.out, uint_small (by omega)]; exact hown1

theorem Uint_at (x : Int) (n : Nat) (w : World) (hx : x = n) (h1 : n < 18446744073709551616) :
    Calls Try.prog 38 #[.int .u64 x] w fun e w' => ∃ v, e = .returned v ∧ Own8 w' w.heap.size 5 v (uint n) ∧ Below w.heap.size w w' := by
  subst hx; exact Uint_any n w h1

theorem refUint_at (x : Int) (n : Nat) (w : World) (hx : x = n) (h1 : n < 18446744073709551616) :
    Calls Try.prog 39 #[.int .u64 x] w fun e w' => ∃ v, e = .returned v ∧ Own8 w' w.heap.size 5 v (uint n) ∧ Below w.heap.size w w' := by
  subst hx; exact refUint_any n w h1

end Go.Proofs.Ytnomekfemadpeaa

/- The walks of tlv.cut and of the reference's cut. No condition. -/
namespace Go.Proofs.Ytnomekfemadpeaa
open Go.RowKit

/-- What both cuts come to at a list that has none. -/
def CutPost (w : World) (v : Value) (l : List UInt8) (e : Ending) (w' : World) : Prop :=
  ∃ (x : Int) (r : Value) (ok : Bool), e = .returned (.tuple #[.int .u64 x, r, .bool ok]) ∧ Below w.heap.size w w' ∧ ok = (cutL 0 0 l).isSome ∧
    ∀ n m, cutL 0 0 l = some (n, m) → x = (n : Int) ∧ Bytes w' r (l.drop m) ∧ r.ownBlock = v.ownBlock

theorem cut_none {w w' : World} {v r : Value} {l : List UInt8} {x : Int} (h : cutL 0 0 l = none) (hb : Below w.heap.size w w') : CutPost w v l (.returned (.tuple #[.int .u64 x, r, .bool false])) w' :=
  ⟨_, _, _, rfl, hb, by rw [h]; rfl, fun n m h' => by rw [h] at h'; cases h'⟩

theorem cut_some {w w' : World} {v r : Value} {l : List UInt8} {x : Int} {n m : Nat} (h : cutL 0 0 l = some (n, m)) (hb : Below w.heap.size w w') (hx : x = n) (hr : Bytes w' r (l.drop m)) (ho : r.ownBlock = v.ownBlock) :
    CutPost w v l (.returned (.tuple #[.int .u64 x, r, .bool true])) w' :=
  ⟨_, _, _, rfl, hb, by rw [h]; rfl, fun n' m' h' => by rw [h] at h'; cases h'; exact ⟨hx, hr, ho⟩⟩

theorem cut_fin {w w' : World} {v r : Value} {l : List UInt8} {x : Int} {k acc : Nat} {c : UInt8} {ok : Bool} (heq : cutL 0 0 l = cutL k acc (c :: l.drop (k + 1))) (h1 : ¬ (k = 10 ∨ (k = 9 ∧ 1 < c.toNat))) (h2 : c.toNat < 128)
    (hx : x = ((acc + c.toNat * 128 ^ k : Nat) : Int)) (hok : ok = decide (k = 0 ∨ 0 < c.toNat)) (hr : Bytes w r (l.drop (k + 1))) (hb : Below w.heap.size w w') (ho : r.ownBlock = v.ownBlock) :
    CutPost w v l (.returned (.tuple #[.int .u64 x, r, .bool ok])) w' := by
  rw [cutL, if_neg h1, if_pos h2] at heq
  by_cases h : k = 0 ∨ 0 < c.toNat
  · rw [if_pos h] at heq
    have : ok = true := by rw [hok]; simpa using h
    subst this
    exact cut_some heq hb hx (hr.of_new hb) ho
  · rw [if_neg h] at heq
    have : ok = false := by rw [hok]; simpa using h
    subst this
    exact cut_none heq hb

set_option maxRecDepth 100000 in
set_option maxHeartbeats 1600000 in
theorem cut_any (v : Value) (l : List UInt8) (w : World) (hl : Bytes w v l) :
    Calls Try.prog 55 #[v] w (CutPost w v l) := by
  obtain ⟨i0, hi, hz0, hz1, hz2⟩ := info_parts infoU8
  obtain ⟨a, cp, rfl⟩ := hl.len
  have HL := Lib.hid hl
  clear hl
  go_enter Try.func55, Try.ntmps55
  go_wp2
  go_loopw [5, 10] (fun nv iv wr => ∃ (k acc : Nat), k ≤ l.length ∧ k ≤ 10 ∧ (k ≤ 9 → acc < 128 ^ k) ∧ nv = .int .u64 acc ∧ iv = .int .i64 k ∧ cutL 0 0 l = cutL k acc (l.drop k) ∧ wr = w)
    (fun _ iv _ => l.length - (intOf iv).toNat)
  case atStart => exact ⟨0, 0, by omega, by omega, by simp, rfl, rfl, rfl, rfl⟩
  case round =>
    obtain ⟨k, acc, hk, hk10, hacc, rfl, rfl, heq, rfl⟩ := hrel
    have Hacc := Lib.hid hacc
    clear hacc
    by_cases hlt : k < l.length
    · obtain ⟨r, hrun, hr, hob⟩ := HL.out.part (P := Try.prog) (t := 25) Try.underlying25 hi hz1 (some (.int .i64 ((k : Int) + 1))) none (k + 1) l.length hlt (Nat.le_refl _) (.inr ⟨.i64, by simp⟩) (.inl ⟨rfl, rfl⟩)
      rw [List.take_of_length_le (by simp)] at hr
      have Hr := Lib.hid hr
      have Hob := Lib.hid hob
      clear hr hob
      obtain ⟨b, off, c', hv, hbl, hc⟩ := HL.out.cell (by omega)
      obtain ⟨rfl, rfl⟩ : a = some ⟨b, off, none⟩ ∧ cp = c' := by cases hv; exact ⟨rfl, rfl⟩
      have hck := hc k hlt
      have Hc := Lib.hid hc
      clear hc hv
      rw [drop_at hlt] at heq
      obtain ⟨c, hcc⟩ : ∃ c, c = l.getD k 0 := ⟨_, rfl⟩
      rw [← hcc] at hck heq
      have Heq := Lib.hid heq
      clear hcc heq
      unfold B8 at hck
      have hcn := c.toNat_lt
      have hcb : (c.toNat : Int) < 256 := by omega
      by_cases h10 : k = 10
      · subst h10
        go_wp2
        go_ret3
        exact cut_none (Heq.out.trans (by rw [cutL, if_pos (.inl rfl)])) (Below.refl _ _)
      · by_cases h9 : k = 9
        · subst h9
          have hrun9 : ∀ W : World, (Instr.slice 25 (.slice (some ⟨b, off, none⟩) l.length cp) (some (.int .i64 10)) none none).run Try.prog W = .ok r W := hrun
          clear hrun
          by_cases hc1 : (1 : Int) < c.toNat
          · go_wp2
            go_ret3
            exact cut_none (Heq.out.trans (by rw [cutL, if_pos (.inr ⟨rfl, by omega⟩)])) (Below.refl _ _)
          · go_wp2
            go_quiet (fail)
            go_wp2
            go_ret3
            exact cut_fin Heq.out (by omega) (by omega) (by rw [cut_sum9 acc c.toNat (by have := Hacc.out (by omega); omega) (by omega)]) (by simp) Hr.out (below_drewn _) Hob.out
        · have hkb : k < 9 := by omega
          have e10 : ((k : Int) == 10) = false := by simp; omega
          have e9 : ((k : Int) == 9) = false := by simp; omega
          have hacc := Hacc.out (by omega)
          by_cases hc128 : (c.toNat : Int) < 128
          · by_cases hk0 : k = 0
            · subst hk0
              have hrun0 : ∀ W : World, (Instr.slice 25 (.slice (some ⟨b, off, none⟩) l.length cp) (some (.int .i64 1)) none none).run Try.prog W = .ok r W := hrun
              have hck0 : wr.cell? ⟨b, off, none⟩ = some (.int .u8 (c.toNat : Int)) := hck
              clear hrun hck
              have Hacc' := Lib.hid hacc
              clear hacc
              go_wp2
              go_quiet (fail)
              go_wp2
              go_ret3
              exact cut_fin Heq.out (by omega) (by omega) (by rw [cut_sum0 acc c.toNat Hacc'.out (by omega)]) (by simp) Hr.out (below_drewn _) Hob.out
            · have e0 : ((k : Int) == 0) = false := by simp; omega
              have Hacc' := Lib.hid hacc
              clear hacc
              go_wp2
              go_quiet (fail)
              go_wp2
              go_ret3
              exact cut_fin Heq.out (by omega) (by omega) (by rw [cut_sum k acc c.toNat hkb Hacc'.out (by omega), Nat.mod_eq_of_lt (by omega)]) (by simp [hk0]) Hr.out (below_drewn _) Hob.out
          · have Hacc' := Lib.hid hacc
            clear hacc
            go_wp2
            go_round
            case rel =>
              refine ⟨k + 1, acc + c.toNat % 128 * 128 ^ k, by omega, by omega, fun _ => ?_, ?_, by go_num, ?_, by first | trivial | rfl⟩
              · have h1 : c.toNat % 128 * 128 ^ k ≤ 127 * 128 ^ k := Nat.mul_le_mul_right _ (by omega)
                have h2 := Hacc'.out
                rw [Nat.pow_succ]; omega
              · rw [cut_sum k acc c.toNat hkb Hacc'.out (by omega)]
              · rw [Heq.out, cutL, if_neg (by omega), if_neg (by omega)]
            case measure => simp [intOf]; omega
    · go_wp2
      go_ret3
      exact cut_none (heq.trans (by rw [List.drop_of_length_le (by omega), cutL])) (Below.refl _ _)

end Go.Proofs.Ytnomekfemadpeaa

/- The walk of the reference's cut. No condition. -/
namespace Go.Proofs.Ytnomekfemadpeaa
open Go.RowKit

/-- What the reference's cut comes to. -/
def RefCutPost (w : World) (l : List UInt8) (e : Ending) (w' : World) : Prop :=
  e = .returned (.tuple #[.int .u64 (((cutL 0 0 l).getD (0, 0)).1 : Int), .int .i64 (((cutL 0 0 l).getD (0, 0)).2 : Int)]) ∧ w' = w

theorem refcut_none {w : World} {l : List UInt8} (h : cutL 0 0 l = none) : RefCutPost w l (.returned (.tuple #[.int .u64 0, .int .i64 0])) w := by
  unfold RefCutPost; rw [h]; exact ⟨rfl, rfl⟩

theorem refcut_some {w : World} {l : List UInt8} {x y : Int} {n m : Nat} (h : cutL 0 0 l = some (n, m)) (hx : x = n) (hy : y = m) : RefCutPost w l (.returned (.tuple #[.int .u64 x, .int .i64 y])) w := by
  unfold RefCutPost; rw [h]; subst hx; subst hy; exact ⟨rfl, rfl⟩

theorem wrap_u64 {n : Int} (h0 : 0 ≤ n) (h1 : n < 18446744073709551616) : IntKind.u64.wrap n = n := by simp [IntKind.wrap, IntKind.bits, IntKind.signed]; omega

theorem refcut_sum {k acc c P : Nat} (hk : k < 9) (ha : acc < P) (hP : P = 128 ^ k) :
    IntKind.u64.wrap ((acc : Int) + IntKind.u64.wrap ((c : Int) % 128 * (P : Int))) = ((acc + c % 128 * 128 ^ k : Nat) : Int) ∧ IntKind.u64.wrap ((P : Int) * 128) = ((128 ^ (k + 1) : Nat) : Int) ∧ acc + c % 128 * 128 ^ k < 128 ^ (k + 1) := by
  have h1 := pow9 (show k + 1 ≤ 9 by omega)
  have h2 : c % 128 * 128 ^ k ≤ 127 * 128 ^ k := Nat.mul_le_mul_right _ (by omega)
  have e : (c : Int) % 128 * (P : Int) = ((c % 128 * 128 ^ k : Nat) : Int) := by rw [hP]; simp
  rw [e, Nat.pow_succ] at *
  rw [hP] at ha ⊢
  generalize c % 128 * 128 ^ k = z at *
  generalize 128 ^ k = q at *
  refine ⟨?_, ?_, by omega⟩
  · rw [wrap_u64 (n := (z : Int)) (by omega) (by omega), wrap_u64 (by omega) (by omega)]; simp
  · rw [wrap_u64 (by omega) (by omega)]; simp

theorem refcut_sum9 {acc c P : Nat} (ha : acc < P) (hP : P = 128 ^ 9) (hc : (c : Int) < 128) (h1 : ¬ 1 < (c : Int) % 128) :
    IntKind.u64.wrap ((acc : Int) + IntKind.u64.wrap ((c : Int) % 128 * (P : Int))) = ((acc + c * 128 ^ 9 : Nat) : Int) := by
  have hc1 : c ≤ 1 := by omega
  subst hP
  have e : (c : Int) % 128 * ((128 ^ 9 : Nat) : Int) = ((c * 128 ^ 9 : Nat) : Int) := by rw [show (c : Int) % 128 = c from by omega]; simp
  rw [e, wrap_u64 (n := ((c * 128 ^ 9 : Nat) : Int)) (by omega) (by omega), wrap_u64 (by omega) (by omega)]
  simp

set_option maxRecDepth 100000 in
set_option maxHeartbeats 1600000 in
theorem refcut_any (v : Value) (l : List UInt8) (w : World) (hl : Bytes w v l) :
    Calls Try.prog 50 #[v] w (RefCutPost w l) := by
  obtain ⟨a, cp, rfl⟩ := hl.len
  have HL := Lib.hid hl
  clear hl
  go_enter Try.func50, Try.ntmps50
  go_wp2
  go_loopw [4, 5, 6] (fun nv pv iv wr => ∃ (k acc : Nat) (p : Int), k ≤ l.length ∧ k ≤ 10 ∧ (k ≤ 9 → acc < 128 ^ k ∧ p = ((128 ^ k : Nat) : Int)) ∧ (k = 10 → cutL 0 0 l = none) ∧ nv = .int .u64 acc ∧ pv = .int .u64 p ∧ iv = .int .i64 k ∧ cutL 0 0 l = cutL k acc (l.drop k) ∧ wr = w)
    (fun _ _ iv _ => l.length - (intOf iv).toNat)
  case atStart => exact ⟨0, 0, 1, by omega, by omega, by simp, by simp, rfl, rfl, rfl, rfl, rfl⟩
  case round =>
    obtain ⟨k, acc, p, hk, hk10, hacc, hten, rfl, rfl, rfl, heq, rfl⟩ := hrel
    by_cases hlt : k < l.length
    · by_cases h10 : k = 10
      · have hn := hten h10
        have Hn := Lib.hid hn
        clear hn heq hacc hten
        subst h10
        go_wp2
        go_ret2
        exact refcut_none Hn.out
      · obtain ⟨ha1, hp⟩ := hacc (by omega)
        clear hacc
        obtain ⟨b, off, c', hv, hbl, hc⟩ := HL.out.cell (by omega)
        obtain ⟨rfl, rfl⟩ : a = some ⟨b, off, none⟩ ∧ cp = c' := by cases hv; exact ⟨rfl, rfl⟩
        have hck := hc k hlt
        have Hc := Lib.hid hc
        clear hc hv hten
        rw [drop_at hlt] at heq
        obtain ⟨c, hcc⟩ : ∃ c, c = l.getD k 0 := ⟨_, rfl⟩
        rw [← hcc] at hck heq
        have Heq := Lib.hid heq
        clear hcc heq
        unfold B8 at hck
        have hcn := c.toNat_lt
        have hcb : (c.toNat : Int) < 256 := by omega
        have hp9 := pow9 (show k ≤ 9 by omega)
        obtain ⟨P, hP⟩ : ∃ P : Nat, P = 128 ^ k := ⟨_, rfl⟩
        rw [← hP] at hp hp9 ha1
        subst hp
        have HP := Lib.hid hP
        clear hP
        have hlt10 : (k : Int) < 10 := by omega
        by_cases h9 : k = 9
        · subst h9
          by_cases hc1 : 1 < (c.toNat : Int) % 128
          · go_wp2
            go_ret2
            exact refcut_none (Heq.out.trans (by rw [cutL, if_pos (.inr ⟨rfl, by omega⟩)]))
          · by_cases hc128 : (c.toNat : Int) < 128
            · by_cases hc0 : c.toNat = 0
              · have hz : ((c.toNat : Int) == 0) = true := by simp [hc0]
                have Hc0 := Lib.hid hc0
                clear hc0
                go_wp2
                go_ret2
                exact refcut_none (Heq.out.trans (by rw [cutL, if_neg (by omega), if_pos (by omega), if_neg (by have := Hc0.out; omega)]))
              · have hz : ((c.toNat : Int) == 0) = false := by simp; omega
                go_wp2
                go_ret2
                exact refcut_some (Heq.out.trans (by rw [cutL, if_neg (by omega), if_pos (by omega), if_pos (by omega)])) (refcut_sum9 ha1 HP.out hc128 (by omega)) (by omega)
            · go_wp2
              go_round
              case rel =>
                refine ⟨10, _, _, by omega, by omega, fun h => absurd h (by omega), fun _ => ?_, rfl, rfl, by go_num, ?_, by first | trivial | rfl⟩
                · rw [Heq.out, cutL, if_pos (.inr ⟨rfl, by omega⟩)]
                · rw [Heq.out, cutL, if_pos (.inr ⟨rfl, by omega⟩), cutL_ten]
              case measure => simp [intOf]; omega
        · have e9 : ((k : Int) == 9) = false := by simp; omega
          have hk9 : k < 9 := by omega
          by_cases hc128 : (c.toNat : Int) < 128
          · by_cases hc0 : c.toNat = 0
            · have hz : ((c.toNat : Int) == 0) = true := by simp [hc0]
              have Hc0 := Lib.hid hc0
              clear hc0
              by_cases hk0 : k = 0
              · have hk1 : ¬ (0 : Int) < k := by omega
                have Hk0 := Lib.hid hk0
                clear hk0
                go_wp2
                go_ret2
                exact refcut_some (Heq.out.trans (by rw [cutL, if_neg (by omega), if_pos (by omega), if_pos (.inl Hk0.out)])) (by rw [(refcut_sum hk9 ha1 HP.out).1, Nat.mod_eq_of_lt (by omega)]) (by omega)
              · have hk1 : (0 : Int) < k := by omega
                go_wp2
                go_ret2
                exact refcut_none (Heq.out.trans (by rw [cutL, if_neg (by omega), if_pos (by omega), if_neg (by have := Hc0.out; omega)]))
            · have hz : ((c.toNat : Int) == 0) = false := by simp; omega
              go_wp2
              all_goals
                go_ret2
                exact refcut_some (Heq.out.trans (by rw [cutL, if_neg (by omega), if_pos (by omega), if_pos (by omega)])) (by rw [(refcut_sum hk9 ha1 HP.out).1, Nat.mod_eq_of_lt (by omega)]) (by omega)
          · go_wp2
            go_round
            case rel =>
              obtain ⟨q1, q2, q3⟩ := refcut_sum (c := c.toNat) hk9 ha1 HP.out
              exact ⟨k + 1, _, _, by omega, by omega, fun _ => ⟨q3, rfl⟩, fun h => absurd h (by omega), by rw [q1], by rw [q2], by go_num, by rw [Heq.out, cutL, if_neg (by omega), if_neg (by omega)], by first | trivial | rfl⟩
            case measure => simp [intOf]; omega
    · go_wp2
      go_ret2
      exact refcut_none (heq.trans (by rw [List.drop_of_length_le (by omega), cutL]))

end Go.Proofs.Ytnomekfemadpeaa

/- The walks of tlv.ToUint, tlv.ToInt and of the references'. No condition. -/
namespace Go.Proofs.Ytnomekfemadpeaa
open Go.RowKit
set_option linter.unusedVariables false

def errOf (b : Bool) : Int := if b then 0 else 2
def toZ (l : List UInt8) : Int := match toU l with
  | some n => zag n
  | none => 0

theorem toZ_some {l : List UInt8} {n : Nat} (h : toU l = some n) : toZ l = zag n := by unfold toZ; rw [h]
theorem toZ_none {l : List UInt8} (h : toU l = none) : toZ l = 0 := by unfold toZ; rw [h]

theorem ret_two {k k' : IntKind} {a b c d : Int} (h : a = b) (h' : c = d) : Ending.returned (.tuple #[.int k a, .int k' c]) = .returned (.tuple #[.int k b, .int k' d]) := by rw [h, h']

set_option maxRecDepth 100000 in
set_option maxHeartbeats 800000 in
theorem ToUint_any (v : Value) (l : List UInt8) (w : World) (hl : Bytes w v l) :
    Calls Try.prog 59 #[v] w fun e w' => e = .returned (.tuple #[.int .u64 (((toU l).getD 0 : Nat) : Int), .int .i64 (errOf (toU l).isSome)]) ∧ Below w.heap.size w w' := by
  go_enter Try.func59, Try.ntmps59
  go_wp2_with fail
  refine (cut_any _ l _ hl).mono ?_
  rintro e w1 ⟨x, r, ok, rfl, hb, hok, hsome⟩
  cases hc : cutL 0 0 l with
  | none =>
    have ht : toU l = none := by unfold toU; rw [hc]
    rw [hc] at hok
    obtain rfl : ok = false := hok
    have Ht := Lib.hid ht
    clear hsome hc ht
    go_wp2
    go_ret2
    exact ⟨by rw [Ht.out]; rfl, hb⟩
  | some nm =>
    obtain ⟨n, m⟩ := nm
    rw [hc] at hok
    obtain rfl : ok = true := hok
    obtain ⟨rfl, hr, _⟩ := hsome n m hc
    obtain ⟨ra, rc, rfl⟩ := hr.len
    have hm := (cutL_lt (by omega) (by simp) hc).2.2
    by_cases h : m = l.length
    · have ht : toU l = some n := by unfold toU; rw [hc]; simp [h]
      have hd : (l.drop m).length = 0 := by simp; omega
      have Ht := Lib.hid ht
      have Hh := Lib.hid h
      generalize (l.drop m).length = q at *
      subst hd
      clear hsome hc ht h hr
      go_wp2
      go_ret2
      exact ⟨by rw [Ht.out]; rfl, hb⟩
    · have ht : toU l = none := by unfold toU; rw [hc]; simp [h]
      have hd : (0 : Int) < (l.drop m).length := by simp; omega
      have Ht := Lib.hid ht
      have Hh := Lib.hid h
      generalize (l.drop m).length = q at *
      clear hsome hc ht h hr
      go_wp2
      go_ret2
      exact ⟨by rw [Ht.out]; rfl, hb⟩

set_option maxRecDepth 100000 in
set_option maxHeartbeats 800000 in
theorem refToUint_any (v : Value) (l : List UInt8) (w : World) (hl : Bytes w v l) :
    Calls Try.prog 51 #[v] w fun e w' => e = .returned (.tuple #[.int .u64 (((toU l).getD 0 : Nat) : Int), .int .i64 (errOf (toU l).isSome)]) ∧ Below w.heap.size w w' := by
  obtain ⟨a, c, hv⟩ := hl.len
  subst hv
  go_enter Try.func51, Try.ntmps51
  go_wp2_with fail
  refine (refcut_any _ l _ hl).mono ?_
  rintro e w1 ⟨rfl, rfl⟩
  cases hc : cutL 0 0 l with
  | none =>
    have ht : toU l = none := by unfold toU; rw [hc]
    have Ht := Lib.hid ht
    clear hc ht
    simp only [Option.getD_none]
    go_wp2
    go_ret2
    exact ⟨by rw [Ht.out]; rfl, Below.refl _ _⟩
  | some nm =>
    obtain ⟨n, m⟩ := nm
    have hm := (cutL_lt (by omega) (by simp) hc).2
    have hm0 : ((m : Int) == 0) = false := by simp; omega
    simp only [Option.getD_some]
    by_cases h : m = l.length
    · have ht : toU l = some n := by unfold toU; rw [hc]; simp [h]
      have Ht := Lib.hid ht
      clear hc ht
      subst h
      go_wp2
      go_ret2
      exact ⟨by rw [Ht.out]; rfl, Below.refl _ _⟩
    · have ht : toU l = none := by unfold toU; rw [hc]; simp [h]
      have hd : ((m : Int) != (l.length : Int)) = true := by rw [bne_iff_ne]; omega
      have Ht := Lib.hid ht
      clear hc ht h
      go_wp2
      go_ret2
      exact ⟨by rw [Ht.out]; rfl, Below.refl _ _⟩

end Go.Proofs.Ytnomekfemadpeaa

/- The walk of slices.Clone at a slice of bytes: a slice of the call's own with the same bytes. Condition: no more than 2^47 bytes. -/
namespace Go.Proofs.Ytnomekfemadpeaa
open Go.RowKit
set_option linter.unusedVariables false

set_option maxRecDepth 100000 in
set_option maxHeartbeats 800000 in
theorem Clone_any (v : Value) (l : List UInt8) (w : World) (hl : Bytes w v l) (hlen : l.length ≤ 140737488355328) :
    Calls Try.prog 56 #[v] w fun e w' => ∃ v', e = .returned v' ∧ Own8 w' w.heap.size 5 v' l ∧ Below w.heap.size w w' := by
  obtain ⟨i0, hi, hz0, hz1, hz2⟩ := info_parts infoU8
  obtain ⟨a, c, hv⟩ := hl.len
  cases a with
  | none =>
    have hl0 : l = [] := by
      obtain ⟨_, a', c', hv', h1, _, h3, _⟩ := hl
      rw [hv'] at hv; cases hv
      have := h3 rfl
      exact List.eq_nil_of_length_eq_zero (by omega)
    subst hl0
    have hc : c = 0 := by
      obtain ⟨_, a', c', hv', h1, _, h3, _⟩ := hl
      rw [hv'] at hv; cases hv
      exact h3 rfl
    subst hc
    subst hv
    have he := fun (w : World) (a : Option Addr) (n c : Nat) => Lib.run_eql_slice_nil (P := Try.prog) w 25 5 a n c 0 0 Try.underlying25
    go_enter Try.func56, Try.ntmps56
    go_wp2
    go_ret
    exact ⟨_, rfl, Own8.nil _ _ _, Below.refl _ _⟩
  | some a =>
    subst hv
    have he := fun (w : World) (a : Option Addr) (n c : Nat) => Lib.run_eql_slice_nil (P := Try.prog) w 25 5 a n c 0 0 Try.underlying25
    have hown0 : Own8 (w.alloc (.cells #[] 5)) w.heap.size 5 (.slice (some ⟨w.heap.size, 0, none⟩) 0 0) [] := World.ownsRow_made w #[] 0 (Nat.le_refl _) (by unfold maxLen; omega) rfl
    have hl0 := hl.of_alloc (.cells #[] 5)
    have HO := Lib.hid hown0
    have HL := Lib.hid hl0
    clear hown0 hl0 hl
    go_enter Try.func56, Try.ntmps56
    go_wp2_with (at_builtin; refine wpList_app8 rfl (.tmp 5) (.tmp 6) 25 rfl w.heap.size 5 i0 Try.underlying25 hi hz0 hz1 hz2 _ [] rfl HO.out _ l rfl HL.out ?c1 ?c2 ?_)
    case c1 => first | omega | (simp; omega)
    case c2 => simp
    intro v1 w1 hown1 hg1 _
    have hbA : Below w.heap.size w w1 := ((Below.refl _ w).alloc (Nat.le_refl _) _).grown hg1 (by simp) (fun j hj => (HO.out.lt j hj).1)
    clear hg1
    go_wp2
    go_ret
    exact ⟨_, rfl, by simpa using hown1, hbA⟩

end Go.Proofs.Ytnomekfemadpeaa

/- The walks of tlv.items: the maker, and the iterator over a record's items. Conditions: no more than 65536 bytes, which lie below what the call made. -/
namespace Go.Proofs.Ytnomekfemadpeaa
open Go.RowKit Go.Shelf
attribute [local go_sem] Oper.semAt_some
set_option linter.unusedVariables false
set_option linter.unusedSimpArgs false

theorem items_any (a : Option Addr) (n c : Nat) (w : World) :
    Calls Try.prog 47 #[.slice a n c] w fun e w' => e = .returned (.func (.func 54) #[] #[.pointer (some ⟨w.heap.size, 0, none⟩)]) ∧ w' = w.alloc (.cells #[.slice a n c] 25) := by
  go_enter Try.func47, Try.ntmps47
  go_wp2
  go_ret
  exact ⟨rfl, rfl⟩

/-- An item, and the slice in which its bytes lie. -/
abbrev encI (x : ItV) : Array Value := #[.agg #[.int .i64 x.1.1, x.2]]

theorem oneI_drop {b : List UInt8} (h : 0 < b.length) : oneI b = match cutL 0 0 (b.drop 1) with
    | none => none
    | some (n, m) => if ((b.drop 1).drop m).length < n then none else some ((((b.getD 0 0).toNat : Int), ((b.drop 1).drop m).take n), ((b.drop 1).drop m).drop n) := by
  cases b with
  | nil => simp at h
  | cons y t => rfl
theorem Bytes.back {w w2 : World} {v : Value} {l : List UInt8} (h : Bytes w2 v l) (hb : Below w.heap.size w w2) (hk : ∀ k, v.ownBlock = some k → k < w.heap.size) : Bytes w v l := by
  obtain ⟨h1, a, c, rfl, h2, h3, h4, h5⟩ := h
  refine ⟨h1, a, c, rfl, h2, h3, h4, fun hne => ?_⟩
  obtain ⟨b, off, rfl, hb2, hc⟩ := h5 hne
  have hlt := hk b rfl
  exact ⟨b, off, rfl, hlt, fun j hj => by rw [← hc j hj]; exact (hb.cell (p := ⟨b, off + j, none⟩) hlt).symm⟩
theorem Bytes.blk {w : World} {v : Value} {l : List UInt8} (h : Bytes w v l) (h0 : 0 < l.length) : ∀ k, v.ownBlock = some k → k < w.heap.size := fun k e => by
  obtain ⟨b, off, c, rfl, hb, _⟩ := h.cell h0
  cases e
  exact hb

theorem cut_bad (v : Value) (l : List UInt8) (w : World) (hl : Bytes w v l) (h : cutL 0 0 l = none) :
    Calls Try.prog 55 #[v] w fun e w' => ∃ (x : Int) (r : Value), e = .returned (.tuple #[.int .u64 x, r, .bool false]) ∧ Below w.heap.size w w' :=
  (cut_any v l w hl).mono fun e w' ⟨x, r, ok, he, hb, hok, _⟩ => ⟨x, r, by rw [he, hok, h]; rfl, hb⟩
theorem cut_good (v : Value) (l d : List UInt8) (w : World) (hl : Bytes w v l) {n m : Nat} (h : cutL 0 0 l = some (n, m)) (hd : l.drop m = d) :
    Calls Try.prog 55 #[v] w fun e w' => ∃ (ra : Option Addr) (rc : Nat), e = .returned (.tuple #[.int .u64 (n : Int), .slice ra d.length rc, .bool true]) ∧ Bytes w' (.slice ra d.length rc) d ∧ (Value.slice ra d.length rc).ownBlock = v.ownBlock ∧ Below w.heap.size w w' :=
  (cut_any v l w hl).mono fun e w' ⟨x, r, ok, he, hb, hok, hs⟩ => by
    obtain ⟨h1, h2, h3⟩ := hs n m h
    rw [hd] at h2
    obtain ⟨ra, rc, rfl⟩ := h2.len
    exact ⟨ra, rc, by rw [he, hok, h, h1]; rfl, h2, h3, hb⟩

/-- What holds ahead of each round of the iterator. -/
def ItemsI (w0 W : World) (n0 bb : Nat) (b : List UInt8) (J : List ItV → World → Prop) (wr : World) : Prop :=
  ∃ (pre : List ItV) (rest : List UInt8) (rv : Value), One wr bb rv 25 ∧ Bytes w0 rv rest ∧ rest.length ≤ 65536 ∧ itemsL b = pre.map (·.1) ++ itemsL rest ∧ Below n0 w0 wr ∧ J pre wr ∧ W.heap.size ≤ wr.heap.size

set_option maxRecDepth 100000 in
set_option maxHeartbeats 3200000 in
theorem items_seq (n : Nat) (hn : 1 ≤ n) (bb n0 : Nat) (v : Value) (b : List UInt8) (hlen : b.length ≤ 65536) (W w0 : World) (hw0 : w0.heap.size = n0) (hb0 : Below n0 w0 W) (hbb : n0 ≤ bb) (hc : One W bb v 25) (hl : Bytes w0 v b) :
    SeqC Fence.wide n Try.prog 54 #[.pointer (some ⟨bb, 0, none⟩)] encI (fun pre x W' => (pre ++ [x]).map (·.1) <+: itemsL b ∧ Own8 W' W.heap.size 5 x.2 x.1.2) (fun k => k = bb) (fun k => k = bb ∨ k < n0)
      (fun xs => xs.map (·.1) = itemsL b) (fun _ => True) (itemsL b).length W := fun l J Jx hJ hJx hY h0 => by
  obtain ⟨i0, hi, hz0, hz1, hz2⟩ := info_parts infoU8
  subst hw0
  refine callsIn_of_wp Try.func54 rfl trivial ?_ rfl
  simp only [Try.ntmps54, List.size_toArray, List.length_cons, List.length_nil, Nat.reduceAdd, Nat.reduceSub, Array.replicate_succ, Array.replicate_zero, List.push_toArray, List.append_toArray, List.nil_append, List.cons_append]
  gi_wp2
  gi_loopw [] (ItemsI w0 W w0.heap.size bb b J) (fun wr => lenV ((wr.cell? ⟨bb, 0, none⟩).getD undef))
  case atStart => exact ⟨[], b, v, hc, hl, hlen, rfl, hb0, h0, Nat.le_refl _⟩
  case round =>
    clear hc hl hlen h0 hb0
    obtain ⟨pre, rest, rv, hc, hl, hlen, hit, hB, hj, hs⟩ := hrel
    obtain ⟨ra, rc, hv⟩ := hl.len
    subst hv
    have hcc := hc.cell
    have hcf := hc.free
    have HI := Lib.hid hit
    have HCC := Lib.hid hc.cell
    clear hit
    by_cases hlt : 0 < rest.length
    · have hlt2 : (0 : Int) < (rest.length : Int) := by omega
      obtain ⟨rb, roff, rc', hv, hbl, hcell⟩ := hl.cell hlt
      obtain ⟨rfl, rfl⟩ : ra = some ⟨rb, roff, none⟩ ∧ rc = rc' := by cases hv; exact ⟨rfl, rfl⟩
      have hc0 := (hB.cell (p := ⟨rb, roff + 0, none⟩) hbl).trans (hcell 0 hlt)
      rw [Nat.add_zero] at hc0
      unfold B8 at hc0
      have hyl := (rest.getD 0 0).toNat_lt
      obtain ⟨tv, hrt, ht, hto⟩ := hl.part (P := Try.prog) (t := 25) Try.underlying25 hi hz1 (some (.int .i64 1)) none 1 rest.length (by omega) (Nat.le_refl _) (.inr ⟨.i64, rfl⟩) (.inl ⟨rfl, rfl⟩)
      rw [List.take_of_length_le (by simp)] at ht
      have hone := oneI_drop hlt
      have htl : (rest.drop 1).length = rest.length - 1 := by simp
      have hne : rest ≠ [] := by intro e; rw [e] at hlt; simp at hlt
      have hbad := itemsL_bad (b := rest) hne
      have hstep := fun x r => itemsL_step (b := rest) (r := r) (x := x)
      clear hcell hv
      have HTL := Lib.hid htl
      have HBAD := Lib.hid hbad
      have HST := Lib.hid hstep
      clear htl hbad hstep hne
      generalize rest.drop 1 = t at *
      generalize rest.getD 0 0 = y at *
      obtain ⟨ta, tc, hv⟩ := ht.len
      subst hv
      have hto' : ∀ k, (Value.slice ta t.length tc).ownBlock = some k → k < w0.heap.size := fun k e => hl.blk hlt k (by rw [← hto]; exact e)
      have HONE := Lib.hid hone
      clear hone hto
      rcases hcut : cutL 0 0 t with _ | ⟨n', m'⟩
      · have hbd : oneI rest = none := by rw [HONE.out, hcut]
        have HCU := Lib.hid hcut
        clear hcut
        · skip
          have hb0 : itemsL rest = [(0, [])] := HBAD.out hbd
          have hpre : (pre ++ [(((0 : Int), ([] : List UInt8)), Value.slice none 0 0)]).map (·.1) = itemsL b := by rw [HI.out, hb0]; simp
          have hY2 := fun w2 (hb2 : Below wr.heap.size wr w2) => hY pre ((0, []), .slice none 0 0) w2 (hJ _ _ _ hj ((Kept.refl _ wr).below hb2)) ⟨by rw [hpre]; exact List.prefix_rfl, Own8.nil _ _ _⟩ (by rw [← hpre]; simp)
          have HP := Lib.hid hpre
          clear hbd hb0 hpre
          gi_wp2_with (refine ⟨trivial, ?_⟩; gi_at_call 55; refine (callsIn_wide.2 (cut_bad _ t _ (ht.of_new hB) HCU.out)).mono ?_; rintro e w2 ⟨x, r, rfl, hb2⟩; obtain ⟨fn, tmps, assign, body, hy, hR⟩ := hY2 w2 hb2; dsimp only [encI] at hy)
          refine hR.mono ?_
          rintro e W3 (⟨rfl, hJ3, hk3⟩ | ⟨rfl, hJx3⟩)
          · gi_wp2
            refine bodyPost_ret (results_none rfl _ _ _) rfl ?_
            exact ⟨⟨_, rfl⟩, .inl ⟨_, HP.out, hJ3⟩⟩
          · gi_wp2
            refine bodyPost_ret (results_none rfl _ _ _) rfl ?_
            exact ⟨⟨_, rfl⟩, .inr ⟨_, trivial, hJx3⟩⟩
      · have HCU := Lib.hid hcut
        have hone := HONE.out
        rw [hcut] at hone
        dsimp only at hone
        have hn64 := (cutL_lt (by omega) (by simp) hcut).1
        clear hcut HONE
        have hdl : (t.drop m').length ≤ 65536 := by have := HTL.out; simp; omega
        obtain ⟨d, hd⟩ : ∃ d, t.drop m' = d := ⟨_, rfl⟩
        rw [hd] at hone hdl
        have HD := Lib.hid hd
        clear hd
        by_cases hfit : d.length < n'
        · have hbd : oneI rest = none := by rw [hone, if_pos hfit]
          have hgt : (d.length : Int) < (n' : Int) := by omega
          clear hone hfit
          · skip
            have hb0 : itemsL rest = [(0, [])] := HBAD.out hbd
            have hpre : (pre ++ [(((0 : Int), ([] : List UInt8)), Value.slice none 0 0)]).map (·.1) = itemsL b := by rw [HI.out, hb0]; simp
            have hY2 := fun w2 (hb2 : Below wr.heap.size wr w2) => hY pre ((0, []), .slice none 0 0) w2 (hJ _ _ _ hj ((Kept.refl _ wr).below hb2)) ⟨by rw [hpre]; exact List.prefix_rfl, Own8.nil _ _ _⟩ (by rw [← hpre]; simp)
            have HP := Lib.hid hpre
            clear hbd hb0 hpre
            gi_wp2_with (refine ⟨trivial, ?_⟩; gi_at_call 55; refine (callsIn_wide.2 (cut_good _ t d _ (ht.of_new hB) HCU.out HD.out)).mono ?_; rintro e w2 ⟨rra, rrc, rfl, hr, hro, hb2⟩; obtain ⟨fn, tmps, assign, body, hy, hR⟩ := hY2 w2 hb2; dsimp only [encI] at hy)
            refine hR.mono ?_
            rintro e W3 (⟨rfl, hJ3, hk3⟩ | ⟨rfl, hJx3⟩)
            · gi_wp2
              refine bodyPost_ret (results_none rfl _ _ _) rfl ?_
              exact ⟨⟨_, rfl⟩, .inl ⟨_, HP.out, hJ3⟩⟩
            · gi_wp2
              refine bodyPost_ret (results_none rfl _ _ _) rfl ?_
              exact ⟨⟨_, rfl⟩, .inr ⟨_, trivial, hJx3⟩⟩
        · have hgt : ¬ (d.length : Int) < (n' : Int) := by omega
          rw [if_neg hfit] at hone
          have hst := HST.out _ _ hone
          have HST2 := Lib.hid hst
          clear hone hst HST HBAD
          gi_wp2_with (refine ⟨trivial, ?_⟩; gi_at_call 55; refine (callsIn_wide.2 (cut_good _ t d _ (ht.of_new hB) HCU.out HD.out)).mono ?_; rintro e w2 ⟨rra, rrc, rfl, hr, hro, hb2⟩)
          have hB2 : Below w0.heap.size w0 w2 := hB.trans (hb2.mono hB.size)
          have hc2 := hc.of_new hb2
          have hco : ∀ w', Grew w2 w' → w'.cell? ⟨bb, 0, none⟩ = some (.slice (some ⟨rb, roff, none⟩) rest.length rc) := fun w' h => (hc2.of_new h).cell
          have hcy : ∀ w', Grew w2 w' → w'.cell? ⟨rb, roff, none⟩ = some (.int .u8 (y.toNat : Int)) := fun w' h => (Below.cell h (p := ⟨rb, roff, none⟩) (by have := hB2.size; show rb < w2.heap.size; omega)).trans ((hb2.cell (p := ⟨rb, roff, none⟩) (by have := hB.size; show rb < wr.heap.size; omega)).trans hc0)
          obtain ⟨pv, hrp, hpb, hpo⟩ := hr.part (P := Try.prog) (t := 25) Try.underlying25 hi hz1 none (some (.int .u64 (n' : Int))) 0 n' (by omega) (by omega) (.inl ⟨rfl, rfl⟩) (.inr ⟨.u64, rfl⟩)
          rw [List.drop_zero, Nat.sub_zero] at hpb
          obtain ⟨qv, hrq, hqb, hqo⟩ := hr.part (P := Try.prog) (t := 25) Try.underlying25 hi hz1 (some (.int .u64 (n' : Int))) none n' d.length (by omega) (Nat.le_refl _) (.inr ⟨.u64, rfl⟩) (.inl ⟨rfl, rfl⟩)
          rw [List.take_of_length_le (by simp)] at hqb
          have hdt : (d.take n').length ≤ 65536 := by rw [List.length_take]; omega
          have hdd : (d.drop n').length ≤ 65536 := by rw [List.length_drop]; omega
          have hdd3 : (d.drop n').length < rest.length := by have := HD.out; have := HTL.out; rw [List.length_drop, ← HD.out, List.length_drop]; omega
          generalize hdt2 : d.take n' = dt at *
          generalize hdd2 : d.drop n' = dd at *
          have hqo' : ∀ k, qv.ownBlock = some k → k < w0.heap.size := fun k e => hto' k (by rw [← hro, ← hqo]; exact e)
          have hq0 := hqb.back (hB2) hqo'
          obtain ⟨qa, qc, hv⟩ := hq0.len
          subst hv
          clear hdt2 hdd2 hcc hcf hc hc0 hrt
          have hyw : IntKind.i64.wrap (y.toNat : Int) = (y.toNat : Int) := IntWalk.i64_in _ (by omega)
          refine wpIn_region_early (ro := none) (C := Grew w2) 5 8 10 (by kernel_rfl) (by kernel_rfl) (Grew.start _) (fun c a d v w h => by cases d <;> exact h) ?_
          simp only [List.take_succ_cons, List.take_zero, List.drop_succ_cons, List.drop_zero]
          go_simp
          repeat (first
            | (go_big_quiet_want; apply quiet_val; (intro w' hw'; go_simp; first | done | rfl); go_simp; go_big_quiet_on)
            | (go_big_quiet_skip))
          refine wpQuiet_nil ?_
          intro w3 hw3
          refine LateL.cons rfl (wp_enter (f := 56) (args := #[pv]) ?_ (Clone_any pv dt w3 (hpb.of_new hw3) (by omega)) ?_)
          · go_simp
          rintro e w4 ⟨cv, rfl, hcv, hb4⟩
          refine ⟨cv, rfl, below_next hw3 hb4, ?_⟩
          refine LateL.cons rfl (wp_val (v := .agg #[.int .i64 (y.toNat : Int), cv]) ?_ ?_)
          · obtain ⟨ca, cc, hv⟩ := hcv.bytes.len
            subst hv
            go_simp
          refine ⟨below_next hw3 hb4, ?_⟩
          refine LateL.nil ?_
          rw [wF_none]
          have hb24 : Below w2.heap.size w2 w4 := below_next hw3 hb4
          have hpre : (pre ++ [(((y.toNat : Int), dt), cv)]).map (·.1) <+: itemsL b := ⟨itemsL dd, by rw [HI.out, HST2.out]; simp⟩
          have hcv2 : Own8 w4 W.heap.size 5 cv dt := hcv.mono (by have := Below.size hw3; have := hb2.size; omega)
          have hkw : Kept (fun k => ¬ k = bb) wr w4 := (((Kept.refl _ wr).below hb2).below hb24)
          obtain ⟨fn, tmps, assign, body, hy, hR⟩ := hY pre (((y.toNat : Int), dt), cv) w4 (hJ _ _ _ hj hkw) ⟨hpre, hcv2⟩ (by have := hpre.length_le; simp at this; omega)
          dsimp only [encI] at hy
          have HP := Lib.hid hpre
          have hc4 := hc2.of_new hb24
          have hB4 : Below w0.heap.size w0 w4 := below_next' hB2 hb24 hB2.size
          have hs4 : W.heap.size ≤ w4.heap.size := by have := Below.size hb24; have := hb2.size; omega
          clear hpre hcv2 hkw hco hcy hpb hpo hqo hqb hrp hr hro hj hcv hb4 hw3 hb24 hb2 hc2 hB2 hB hs
          gi_wp2
          refine hR.mono ?_
          rintro e W3 (⟨rfl, hJ3, hk3⟩ | ⟨rfl, hJx3⟩)
          · have hc5 := hc4.of_block (hk3.block _ hc4.lt (.inl rfl))
            have hcc := hc5.cell
            have hcf := hc5.free
            have hB5 : Below w0.heap.size w0 W3 := hk3.to_below hB4 hB4.size (fun k hk => .inr hk)
            have hs5 : W.heap.size ≤ W3.heap.size := by have := hk3.size; omega
            have hit2 : itemsL b = (pre ++ [(((y.toNat : Int), dt), cv)]).map (·.1) ++ itemsL dd := by rw [HI.out, HST2.out]; simp
            have HIT := Lib.hid hit2
            clear hit2
            gi_wp2
            refine ⟨⟨_, dd, .slice qa dd.length qc, hc5.set _, hq0, by omega, HIT.out, hB5.setCell (p := ⟨bb, 0, none⟩) hbb _, hJ _ _ _ hJ3 ((Kept.refl _ W3).setCell (p := ⟨bb, 0, none⟩) (fun h => h rfl) _), by simpa [World.setCell] using hs5⟩, ?_⟩
            rw [(hc5.set _).cell, ‹Hid (wr.cell? ⟨bb, 0, none⟩ = _)›.out]
            exact hdd3
          · gi_wp2
            refine bodyPost_ret (results_none rfl _ _ _) rfl ?_
            exact ⟨⟨_, rfl⟩, .inr ⟨_, trivial, hJx3⟩⟩
    · have e0 : rest = [] := List.eq_nil_of_length_eq_zero (by omega)
      have hg : ¬ (0 : Int) < (rest.length : Int) := by omega
      have hfin : pre.map (·.1) = itemsL b := by rw [HI.out, e0]; simp [itemsL_nil]
      have HF := Lib.hid hfin
      clear hfin e0
      gi_wp2
      go_end0
      exact ⟨⟨_, rfl⟩, .inl ⟨pre, HF.out, hj⟩⟩

end Go.Proofs.Ytnomekfemadpeaa

/- The walk of tlv.Decode. Condition: none beyond the argument's reading. -/
namespace Go.Proofs.Ytnomekfemadpeaa
open Go.RowKit Go.Shelf
attribute [local go_sem] Oper.semAt_some
set_option linter.unusedVariables false
set_option linter.unusedSimpArgs false

/-- The slice v of items is the call's own, and so are the items' bytes. -/
def OwnI (w : World) (base : Nat) (v : Value) (l : List ItV) : Prop := w.ownsRow base 47 2 v l.length (flatI l) ∧ ∀ x ∈ l, Own8 w base 5 x.2 x.1.2
theorem OwnI.nil (w : World) (base : Nat) : OwnI w base (.slice none 0 0) [] := ⟨World.ownsRow_nil _ _ _ _, fun _ h => by cases h⟩
theorem OwnI.lt {w : World} {base : Nat} {v : Value} {l : List ItV} (h : OwnI w base v l) : ∀ k, v.ownBlock = some k → base ≤ k ∧ k < w.heap.size := World.ownsRow.lt h.1
theorem OwnI.len {w : World} {base : Nat} {v : Value} {l : List ItV} (h : OwnI w base v l) : ∃ a c, v = .slice a l.length c := by
  rcases h.1.2 with ⟨h1, h2⟩ | ⟨g, cap, cur, rfl, _⟩
  · rw [h1, show l.length = 0 by omega]; exact ⟨_, _, rfl⟩
  · exact ⟨_, _, rfl⟩
theorem OwnI.items {w : World} {base : Nat} {v : Value} {l : List ItV} (h : OwnI w base v l) : Items w v (l.map (·.1)) := by
  obtain ⟨h1, a, c, rfl, h2, h3, h4, h5⟩ := Row.of_owns h.1
  refine ⟨a, c, by simp, by simpa using h2, h3, h4, fun h0 => ?_⟩
  have h0' : 0 < l.length := by simpa using h0
  obtain ⟨b, off, rfl, hb, hc⟩ := h5 (by omega)
  refine ⟨b, off, rfl, hb, fun i hi => ?_⟩
  have hi' : i < l.length := by simpa using hi
  obtain ⟨f1, f2⟩ := flatI_at hi'
  have e : (l.map (·.1)).getD i (0, []) = (l.getD i ((0, []), undef)).1 := by simp [List.getD, hi']
  rw [e]
  refine ⟨(hc _ (by omega)).trans f1, _, (by rw [Nat.add_assoc]; exact (hc _ (by omega)).trans f2), ?_⟩
  have hm : l.getD i ((0, []), undef) ∈ l := by
    rw [List.getD_eq_getElem?_getD, List.getElem?_eq_getElem hi']; exact List.getElem_mem hi'
  exact (h.2 _ hm).bytes
theorem Own8.blk {w w' : World} {base e : Nat} {v : Value} {l : List UInt8} (h : Own8 w base e v l) (hk : ∀ k, v.ownBlock = some k → w'.heap[k]? = w.heap[k]?) : Own8 w' base e v l := by
  refine ⟨h.1, ?_⟩
  rcases h.2 with h | ⟨g, cap, cur, hv, hb, hh, hr⟩
  · exact .inl h
  · exact .inr ⟨g, cap, cur, hv, hb, (hk g (by rw [hv]; rfl)).trans hh, hr⟩
/-- It stays, while only other blocks are written. -/
theorem OwnI.keep {w w' : World} {base : Nat} {v : Value} {l : List ItV} (h : OwnI w base v l) (hk : ∀ k, base ≤ k → k < w.heap.size → w'.heap[k]? = w.heap[k]?) : OwnI w' base v l := by
  refine ⟨⟨h.1.1, ?_⟩, fun x hx => (h.2 x hx).blk fun k hk2 => hk k ((h.2 x hx).lt k hk2).1 ((h.2 x hx).lt k hk2).2⟩
  rcases h.1.2 with h2 | ⟨g, cap, cur, hv, hb, hh, hr⟩
  · exact .inl h2
  · exact .inr ⟨g, cap, cur, hv, hb, (hk g hb (Array.getElem?_eq_some_iff.1 hh).1).trans hh, hr⟩


/-- 'append(out, x)' of an item, out the call's own. -/
theorem run_appI {w : World} (base ty : Nat) (v : Value) (l : List ItV) (x : ItV) (hown : OwnI w base v l) (hx : Own8 w base 5 x.2 x.1.2) (g : Nat) (hg : w.heap[g]? = some (.cells #[.int .i64 x.1.1, x.2] 47 (0, 0))) (hlen : l.length + 1 ≤ 1099511627776) (hbase : base ≤ w.heap.size) :
    ∃ v' w', (Builtin.append_ #[43, 43] ty #[v, .slice (some ⟨g, 0, none⟩) 1 1]).run Try.prog w = .ok v' w' ∧ OwnI w' base v' (l ++ [x]) ∧ w.grownBy w' v.ownBlock ∧ (∀ k, v'.ownBlock = some k → v.ownBlock = some k ∨ w.heap.size ≤ k) := by
  obtain ⟨i, hi, hz, hsize, hby⟩ := info_parts infoItem
  obtain ⟨v', w', h1, h2, h3, _, h5⟩ := run_append_own_at (P := Try.prog) w base 43 ty 47 i _ 2 32 Try.underlying43 hi hz hsize hby (by simp [Value.cells]) (by decide) v l.length (flatI l) hown.1 ⟨g, 0, none⟩ 1 1 [.int .i64 x.1.1, x.2] (by simp)
    (fun j u hj => by
      have hjl : j < 2 := by
        rcases Nat.lt_or_ge j 2 with h | h
        · exact h
        · rw [List.getElem?_eq_none (by simpa using h)] at hj; cases hj
      have hadd : (⟨g, 0, none⟩ : Addr).add j = ⟨g, j, none⟩ := by unfold Addr.add; split <;> simp_all
      rw [hadd]
      simp only [World.cell?, hg]
      match j, hjl with
      | 0, _ => simpa using hj
      | 1, _ => simpa using hj)
    (fun u hu => by
      obtain ⟨a, c, he⟩ := hx.bytes.len
      simp at hu
      rcases hu with rfl | rfl
      · rfl
      · rw [he]; rfl) (by unfold maxLen; omega) (by omega) hbase
  refine ⟨v', w', h1, ⟨?_, ?_⟩, h3, ?_⟩
  · rw [flatI_snoc, List.length_append]; exact h2
  · have diff : ∀ (y : ItV), Own8 w base 5 y.2 y.1.2 → Own8 w' base 5 y.2 y.1.2 := fun y hy => hy.blk fun k hk => h3.block k (hy.lt k hk).2 (fun e => by
      have hy2 : ∃ cur, w.heap[k]? = some (.cells cur 5 (0, 0)) := by
        rcases hy.2 with ⟨h, _⟩ | ⟨g2, cap, cur, hv, hb, hh, hr⟩
        · rw [h] at hk; cases hk
        · rw [hv] at hk; cases hk; exact ⟨cur, hh⟩
      have ho2 : ∃ cur, w.heap[k]? = some (.cells cur 47 (0, 0)) := by
        rcases hown.1.2 with ⟨h, _⟩ | ⟨g2, cap, cur, hv, hb, hh, hr⟩
        · rw [h] at e; cases e
        · rw [hv] at e; cases e; exact ⟨cur, hh⟩
      obtain ⟨c1, q1⟩ := hy2
      obtain ⟨c2, q2⟩ := ho2
      rw [q1] at q2
      simp at q2)
    intro y hy
    rcases List.mem_append.1 hy with hy | hy
    · exact diff y (hown.2 y hy)
    · have : y = x := by simpa using hy
      subst this
      exact diff y hx
  · intro k hk
    rcases h5 with h5 | h5
    · exact .inl (by rw [← h5]; exact hk)
    · rw [h5] at hk; cases hk; exact .inr (Nat.le_refl _)

theorem wp_appI {w : World} {o : Oper} {a : Act} {K : Act → World → Prop} {Q : Exit → Act → World → Prop} (s y : Operand)
    (ho : o.op = .call { callee := .builtin .append, args := #[s, y], argTypes := #[43, 43] }) (base : Nat)
    (v : Value) (l : List ItV) (x : ItV) (g : Nat) (hs : a.eval s = v) (hown : OwnI w base v l) (hy : a.eval y = .slice (some ⟨g, 0, none⟩) 1 1) (hx : Own8 w base 5 x.2 x.1.2) (hg : w.heap[g]? = some (.cells #[.int .i64 x.1.1, x.2] 47 (0, 0)))
    (hlen : l.length + 1 ≤ 1099511627776) (hbase : base ≤ w.heap.size)
    (h : ∀ v' w', OwnI w' base v' (l ++ [x]) → w.grownBy w' v.ownBlock → (∀ k, v'.ownBlock = some k → v.ownBlock = some k ∨ w.heap.size ≤ k) → K (a.put o.dst v') w') : o.wp Try.prog a w K Q := by
  obtain ⟨v', w', hr, h2, h3, h4⟩ := run_appI base o.type v l x hown hx g hg hlen hbase
  unfold Oper.wp execOp
  simp only [ho, resolve, invoke, builtin, Sem.run_bind, Sem.run_pure, Result.andThen_ok, List.map_toArray, List.map_cons, List.map_nil, hs, hy, hr]
  exact h v' w' h2 h3 h4

theorem results_cell2 {P : Program} {fn : Func} {p q : Tmp} {t1 t2 : TypeId} (h : fn.results = #[.cell p t1, .cell q t2]) (tmps : Array Value) (w : World) (b c : Nat) (v u : Value) (hp : tmps.getD p undef = .pointer (some ⟨b, 0, none⟩)) (hq : tmps.getD q undef = .pointer (some ⟨c, 0, none⟩))
    (h1 : w.cell? ⟨b, 0, none⟩ = some v) (h2 : w.cell? ⟨c, 0, none⟩ = some u) (a1 : (isAgg t1).run P w = .ok false w) (a2 : (isAgg t2).run P w = .ok false w) : (results fn tmps).run P w = .ok (.tuple #[v, u]) w := by
  have hp' : tmps[p]?.getD undef = .pointer (some ⟨b, 0, none⟩) := by simpa using hp
  have hq' : tmps[q]?.getD undef = .pointer (some ⟨c, 0, none⟩) := by simpa using hq
  have l1 : (loadVar t1 ⟨b, 0, none⟩).run P w = .ok v w := by simp [loadVar, Sem.run_bind, a1, go_sem, h1]
  have l2 : (loadVar t2 ⟨c, 0, none⟩).run P w = .ok u w := by simp [loadVar, Sem.run_bind, a2, go_sem, h2]
  simp [results, h, hp', hq', asAddr, l1, l2]

/-- What Decode hands back. -/
def DecPost (w : World) (r : Option (List It)) (e : Ending) (w' : World) : Prop :=
  ∃ v, e = .returned (.tuple #[v, .int .i64 (if r.isSome then 0 else 2)]) ∧ Items w' v (r.getD []) ∧ Below w.heap.size w w'

/-- .. the items in blocks of the call's own. -/
def DecPostO (w : World) (r : Option (List It)) (e : Ending) (w' : World) : Prop :=
  ∃ v pre base, e = .returned (.tuple #[v, .int .i64 (if r.isSome then 0 else 2)]) ∧ OwnI w' base v pre ∧ pre.map (·.1) = r.getD [] ∧ Below w.heap.size w w' ∧ w.heap.size ≤ base
theorem DecPostO.post {w : World} {r : Option (List It)} {e : Ending} {w' : World} (h : DecPostO w r e w') : DecPost w r e w' := by
  obtain ⟨v, pre, base, h1, h2, h3, h4, _⟩ := h
  exact ⟨v, h1, h3 ▸ h2.items, h4⟩

/-- What holds ahead of each round. -/
def DecI (w : World) (b : List UInt8) (pre : List ItV) (W : World) : Prop :=
  ∃ (ov : Value), One W (w.heap.size + 2) ov 43 ∧ One W (w.heap.size + 3) (.int .i64 (lastN (pre.map (·.1)) 0)) 3 ∧ One W w.heap.size (.slice none 0 0) 43 ∧ One W (w.heap.size + 1) (.int .i64 0) 32 ∧
    OwnI W (w.heap.size + 7) ov pre ∧ checkF (pre.map (·.1)) 0 = some (pre.map (·.1)) ∧ Below w.heap.size w W ∧ w.heap.size + 5 ≤ W.heap.size
/-- .. and how a round may leave. -/
def DecX (w : World) (b : List UInt8) (c : Code) (pre : List ItV) (W : World) : Prop :=
  c = .ret ∧ One W w.heap.size (.slice none 0 0) 43 ∧ One W (w.heap.size + 1) (.int .i64 2) 32 ∧ checkF (itemsL b) 0 = none ∧ Below w.heap.size w W ∧ w.heap.size + 5 ≤ W.heap.size

theorem DecI.keep {w : World} {b : List UInt8} {pre : List ItV} {A B : World} (h : DecI w b pre A) (hk : Kept (fun k => k ≠ w.heap.size + 4 ∧ k ≠ w.heap.size + 6) A B) : DecI w b pre B := by
  obtain ⟨ov, h1, h2, h3, h4, h5, h6, h7, h8⟩ := h
  exact ⟨ov, h1.of_block (hk.block _ h1.lt (by omega)), h2.of_block (hk.block _ h2.lt (by omega)), h3.of_block (hk.block _ h3.lt (by omega)), h4.of_block (hk.block _ h4.lt (by omega)),
    h5.keep (fun k h1 h2 => hk.block k h2 (by omega)), h6, hk.to_below h7 (by omega) (fun k hk2 => by omega), Nat.le_trans h8 hk.size⟩
theorem DecX.keep {w : World} {b : List UInt8} {c : Code} {pre : List ItV} {A B : World} (h : DecX w b c pre A) (hk : Kept (fun k => k ≠ w.heap.size + 4 ∧ k ≠ w.heap.size + 6) A B) : DecX w b c pre B := by
  obtain ⟨h0, h1, h2, h3, h7, h8⟩ := h
  exact ⟨h0, h1.of_block (hk.block _ h1.lt (by omega)), h2.of_block (hk.block _ h2.lt (by omega)), h3, hk.to_below h7 (by omega) (fun k hk2 => by omega), Nat.le_trans h8 hk.size⟩

/-- A round's variable: the item. -/
def DecG (w : World) (tm : Value → Value → Array Value) (x : ItV) (a : Act) (W : World) : Prop :=
  ∃ g, w.heap.size + 7 ≤ g ∧ W.heap[g]? = some (.cells #[.int .i64 x.1.1, x.2] 47 (0, 0)) ∧ a = { tmps := tm (.pointer (some ⟨g, 0, none⟩)) (.agg #[.int .i64 x.1.1, x.2]), defers := [] }

set_option maxRecDepth 100000 in
set_option maxHeartbeats 3200000 in
theorem Decode_own (v : Value) (b : List UInt8) (w : World) (hl : Bytes w v b) :
    Calls Try.prog 31 #[v] w (DecPostO w (decL b)) := by
  have hle := hl.le
  obtain ⟨va, vc, hv⟩ := hl.len
  subst hv
  by_cases hbig : 65536 < b.length
  · have t0 : (65536 : Int) < (b.length : Int) := by omega
    have hd : decL b = none := by unfold decL; rw [if_pos hbig]
    have HD := Lib.hid hd
    clear hd hbig
    go_enter Try.func31, Try.ntmps31
    go_wp2
    generalize hW1 : (w.alloc _).alloc _ = W1
    obtain ⟨o1, o2, hb⟩ : One W1 w.heap.size (.slice none 0 0) 43 ∧ One W1 (w.heap.size + 1) (.int .i64 2) 32 ∧ Below w.heap.size w W1 := by
      subst hW1
      refine ⟨(Below.heap_alloc _ _ _ (by simp)).trans (heap_alloc_new _ _), ?_, ((Below.refl _ w).alloc (Nat.le_refl _) _).alloc (by simp) _⟩
      have := heap_alloc_new (w.alloc (.cells #[.slice none 0 0] 43)) (.cells #[.int .i64 2] 32)
      rwa [World.size_alloc] at this
    clear hW1
    refine bodyPost_ret (results_cell2 rfl _ _ w.heap.size (w.heap.size + 1) _ _ rfl rfl o1.cell o2.cell (by kernel_rfl) (by kernel_rfl)) rfl ?_
    rw [HD.out]
    exact ⟨_, [], w.heap.size, rfl, OwnI.nil W1 _, rfl, hb, Nat.le_refl _⟩
  have t0 : ¬ (65536 : Int) < (b.length : Int) := by omega
  have hd : decL b = checkF (itemsL b) 0 := by unfold decL; rw [if_neg hbig]
  have HD := Lib.hid hd
  clear hd
  refine (callsIn_wide (n := 3)).1 ?_
  refine callsIn_of_wp_marks Try.func31 rfl trivial ?_ rfl
  simp only [Try.ntmps31, List.size_toArray, List.length_cons, List.length_nil, Nat.reduceAdd, Nat.reduceSub, Array.replicate_succ, Array.replicate_zero, List.push_toArray, List.append_toArray, List.nil_append, List.cons_append]
  gi_wp2_with (refine ⟨trivial, ?_⟩; gi_at_call 47; refine (callsIn_wide.2 (items_any _ _ _ _)).mono ?_; rintro e w' ⟨rfl, rfl⟩)
  generalize hW0 : (((( w.alloc _).alloc _).alloc _).alloc _).alloc _ = W0
  obtain ⟨hsz, hB0, o1, o2, o3, o4, o5⟩ : W0.heap.size = w.heap.size + 5 ∧ Below w.heap.size w W0 ∧ One W0 w.heap.size (.slice none 0 0) 43 ∧ One W0 (w.heap.size + 1) (.int .i64 0) 32 ∧ One W0 (w.heap.size + 2) (.slice none 0 0) 43 ∧
      One W0 (w.heap.size + 3) (.int .i64 0) 3 ∧ One W0 (w.heap.size + 4) (.slice va b.length vc) 25 := by
    subst hW0
    have nw : ∀ (A : World) (o : Obj) (k : Nat), A.heap.size = k → (A.alloc o).heap[k]? = some o := fun A o k h => h ▸ heap_alloc_new A o
    have od : ∀ (A : World) (o : Obj) (k : Nat) (q : Obj), k < A.heap.size → A.heap[k]? = some q → (A.alloc o).heap[k]? = some q := fun A o k q h e => (Below.heap_alloc _ _ _ h).trans e
    refine ⟨by simp, (((((Below.refl _ w).alloc (Nat.le_refl _) _).alloc (by simp) _).alloc (by simp; omega) _).alloc (by simp; omega) _).alloc (by simp; omega) _, ?_, ?_, ?_, ?_, ?_⟩
    · exact od _ _ _ _ (by simp <;> omega) (od _ _ _ _ (by simp <;> omega) (od _ _ _ _ (by simp <;> omega) (od _ _ _ _ (by simp) (nw _ _ _ rfl))))
    · exact od _ _ _ _ (by simp <;> omega) (od _ _ _ _ (by simp <;> omega) (od _ _ _ _ (by simp) (nw _ _ _ (by simp))))
    · exact od _ _ _ _ (by simp <;> omega) (od _ _ _ _ (by simp) (nw _ _ _ (by simp)))
    · exact od _ _ _ _ (by simp) (nw _ _ _ (by simp))
    · exact nw _ _ _ (by simp)
  clear hW0
  refine wpIn_rangeFunc_var (F := Fence.wide) (n := 3) rfl (by omega) (gf := 54) (lb := #[.pointer (some ⟨w.heap.size + 4, 0, none⟩)]) rfl trivial
    (enters_of Try.func54 (by kernel_rfl) rfl)
    (encs := encI) (It := fun pre x W' => (pre ++ [x]).map (·.1) <+: itemsL b ∧ Own8 W' (w.heap.size + 7) 5 x.2 x.1.2) (O := fun k => k = w.heap.size + 4) (U := fun k => k = w.heap.size + 4 ∨ k < w.heap.size)
    (S := fun xs => xs.map (·.1) = itemsL b) (Sp := fun _ => True) (N := (itemsL b).length)
    (fun W1 hb1 hs1 => by
      have e1 := o5.of_block (hb1.block _ (by omega))
      have := items_seq 2 (by omega) (w.heap.size + 4) w.heap.size _ b (by omega) W1 w rfl (hB0.trans (hb1.mono (by omega))) (by omega) e1 hl
      rw [hs1, hsz] at this
      exact this)
    (by omega) (by omega) (by omega) (fun _ => rfl)
    (DecI w b) (DecX w b)
    (fun s A B hs hk => hs.keep (hk.mono fun k _ h => ⟨h.1, by rw [hsz]; exact h.2⟩))
    (fun c s A B hs hk => hs.keep (hk.mono fun k _ h => ⟨h.1, by rw [hsz]; exact h.2⟩))
    (fun pre x A B hs hk => ⟨hs.1, hs.2.blk fun k hk2 => hk.block k (hs.2.lt k hk2).2 (by have := (hs.2.lt k hk2).1; omega)⟩)
    ⟨_, o3, o4, o1, o2, OwnI.nil _ _, rfl, hB0, by omega⟩
    (DecG w fun p y => #[.slice va b.length vc, undef, .pointer (some ⟨w.heap.size, 0, none⟩), .pointer (some ⟨w.heap.size + 1, 0, none⟩), .pointer (some ⟨w.heap.size + 1 + 1, 0, none⟩), .pointer (some ⟨w.heap.size + 1 + 1 + 1, 0, none⟩), p, .slice va b.length vc, .int .i64 (b.length : Int), .bool false, .slice va b.length vc,
      .func (.func 54) #[] #[.pointer (some ⟨w.heap.size + 1 + 1 + 1 + 1, 0, none⟩)], y, undef, undef, undef, undef, undef, undef, undef, undef, undef, undef, undef, undef, undef, undef, undef, undef])
    (fun x a A B hg hk => by
      obtain ⟨g, h1, h2, h3⟩ := hg
      exact ⟨g, h1, (hk.block g (Array.getElem?_eq_some_iff.1 h2).1 (by omega)).trans h2, h3⟩)
    ?assign ?body ?done ?stop
  case assign =>
    rintro l pre ⟨⟨k, d⟩, u⟩ W K _ ⟨_, hx8⟩ hs2 hK
    obtain ⟨ua, uc, hv⟩ := hx8.bytes.len
    dsimp only at hv
    subst hv
    gi_wp2
    refine hK _ _ ((Below.refl _ W).alloc (Nat.le_refl _) _) ⟨W.heap.size, by omega, heap_alloc_new _ _, rfl⟩
  case body =>
    rintro l pre ⟨⟨k, d⟩, u⟩ a' W ⟨ov, h1, h2, h3, h4, h5, h6, h7, h8⟩ ⟨hpre, hx8⟩ ⟨g, hg1, hg2, rfl⟩ hlen hW2
    obtain ⟨ua, uc, hv⟩ := hx8.bytes.len
    dsimp only at hv hx8 hg2
    subst hv
    obtain ⟨oa, oc, hv⟩ := h5.len
    subst hv
    have c1 : W.cell? ⟨g, 0, none⟩ = some (.int .i64 k) := by simp [World.cell?, hg2]
    have c2 : W.cell? ⟨g, 1, none⟩ = some (.slice ua d.length uc) := by simp [World.cell?, hg2]
    have c3 := h2.cell
    have f3 := h2.free
    have c4 := h1.cell
    have f4 := h1.free
    have c5 := h3.cell
    have f5 := h3.free
    have c6 := h4.cell
    have f6 := h4.free
    have hsn := checkF_snoc (x := (k, d)) h6
    have hlk := lastN_ok h6 (by omega) (by omega)
    have hls := lastN_snoc (pre.map (·.1)) 0 (k, d)
    have hmap : (pre ++ [((k, d), Value.slice ua d.length uc)]).map (·.1) = pre.map (·.1) ++ [(k, d)] := by simp
    rw [← hmap] at hsn hls
    have hll : pre.length ≤ 65536 := by have q1 := hpre.length_le; have q2 := itemsL_len b; rw [List.length_map, List.length_append] at q1; omega
    have hsetc : ∀ q, q ≠ w.heap.size + 3 → (W.setCell ⟨w.heap.size + 1 + 1 + 1, 0, none⟩ (.int .i64 k)).heap[q]? = W.heap[q]? := fun q hq => Below.heap_setCell _ _ _ _ (by show q ≠ w.heap.size + 1 + 1 + 1; omega)
    have hssz : (W.setCell ⟨w.heap.size + 1 + 1 + 1, 0, none⟩ (.int .i64 k)).heap.size = W.heap.size := by simp [World.setCell]
    have HS := Lib.hid hsn
    have HLS := Lib.hid hls
    have HSZ := Lib.hid hsz
    dsimp only at hsn
    clear hsn hls hmap hsz
    generalize hla : lastN (pre.map (·.1)) 0 = last at *
    have HLA := Lib.hid hla
    clear hla
    by_cases hbad : k ≤ last ∨ 63 < k
    · have hnone : checkF (itemsL b) 0 = none := by
        obtain ⟨t, ht⟩ := hpre
        rw [← ht]
        refine checkF_none_append _ _ _ ?_
        rw [HS.out, if_pos hbad]
      have HN := Lib.hid hnone
      clear hnone
      by_cases hb1 : k ≤ last
      · clear hbad
        gi_wp2
        refine ⟨((Kept.refl _ W).setCell (p := ⟨w.heap.size, 0, none⟩) (fun h => by have := HSZ.out; dsimp only at h; omega) _).setCell (p := ⟨w.heap.size + 1, 0, none⟩) (fun h => by have := HSZ.out; dsimp only at h; omega) _, rfl, (h3.set _).other (by show w.heap.size + 1 ≠ w.heap.size; omega) _, (h4.other (by show w.heap.size ≠ w.heap.size + 1; omega) _).set _, HN.out, (h7.setCell (p := ⟨w.heap.size, 0, none⟩) (Nat.le_refl _) _).setCell (p := ⟨w.heap.size + 1, 0, none⟩) (by show w.heap.size ≤ w.heap.size + 1; omega) _, by simp only [World.size_setCell]; exact h8⟩
      · have hb2 : 63 < k := hbad.resolve_left hb1
        clear hbad
        gi_wp2
        refine ⟨((Kept.refl _ W).setCell (p := ⟨w.heap.size, 0, none⟩) (fun h => by have := HSZ.out; dsimp only at h; omega) _).setCell (p := ⟨w.heap.size + 1, 0, none⟩) (fun h => by have := HSZ.out; dsimp only at h; omega) _, rfl, (h3.set _).other (by show w.heap.size + 1 ≠ w.heap.size; omega) _, (h4.other (by show w.heap.size ≠ w.heap.size + 1; omega) _).set _, HN.out, (h7.setCell (p := ⟨w.heap.size, 0, none⟩) (Nat.le_refl _) _).setCell (p := ⟨w.heap.size + 1, 0, none⟩) (by show w.heap.size ≤ w.heap.size + 1; omega) _, by simp only [World.size_setCell]; exact h8⟩
    · have hb1 : ¬ k ≤ last := fun h => hbad (.inl h)
      have hb2 : ¬ 63 < k := fun h => hbad (.inr h)
      have hok := HS.out
      rw [if_neg hbad] at hok
      have HOK := Lib.hid hok
      clear hok hbad
      obtain ⟨Y, hY⟩ : ∃ Y, (W.setCell ⟨w.heap.size + 1 + 1 + 1, 0, none⟩ (.int .i64 k)).alloc (.cells #[.int .i64 k, .slice ua d.length uc] 47) = Y := ⟨_, rfl⟩
      have hYo : ∀ q, q ≠ w.heap.size + 3 → q < W.heap.size → Y.heap[q]? = W.heap[q]? := fun q e1 e2 => by rw [← hY]; exact (Below.heap_alloc _ _ _ (by rw [hssz]; exact e2)).trans (hsetc q e1)
      have hYs : Y.heap.size = W.heap.size + 1 := by rw [← hY]; simp [World.setCell]
      have hYn : Y.heap[W.heap.size]? = some (.cells #[.int .i64 k, .slice ua d.length uc] 47 (0, 0)) := by
        have e := heap_alloc_new (W.setCell ⟨w.heap.size + 1 + 1 + 1, 0, none⟩ (.int .i64 k)) (.cells #[.int .i64 k, .slice ua d.length uc] 47)
        rw [hssz, hY] at e
        exact e
      have hY3 : One Y (w.heap.size + 3) (.int .i64 k) 3 := by
        rw [← hY]
        exact (Below.heap_alloc _ _ _ (by rw [hssz]; exact h2.lt)).trans (h2.set _)
      have hYB : Below w.heap.size w Y := by rw [← hY]; exact (h7.setCell (p := ⟨w.heap.size + 1 + 1 + 1, 0, none⟩) (by show w.heap.size ≤ w.heap.size + 1 + 1 + 1; omega) _).alloc (by rw [hssz]; omega) _
      have hYk : Kept (fun q => q ≠ w.heap.size + 3) W Y := by rw [← hY]; exact ((Kept.refl _ W).setCell (p := ⟨w.heap.size + 1 + 1 + 1, 0, none⟩) (fun h => h rfl) _).alloc _
      have y5 : OwnI Y (w.heap.size + 7) (.slice oa pre.length oc) pre := h5.keep fun q e1 e2 => hYo q (by omega) e2
      have y8 : Own8 Y (w.heap.size + 7) 5 (.slice ua d.length uc) d := hx8.blk fun q e1 => hYo q (by have := (hx8.lt q e1).1; omega) (hx8.lt q e1).2
      have y1 := h1.of_block (hYo _ (by omega) h1.lt)
      have y3 := h3.of_block (hYo _ (by omega) h3.lt)
      have y4 := h4.of_block (hYo _ (by omega) h4.lt)
      have hbase : w.heap.size + 7 ≤ Y.heap.size := by rw [hYs]; have := HSZ.out; omega
      have hWs := HSZ.out
      have HY := Lib.hid hY
      have HYS := Lib.hid hYs
      have HYO := Lib.hid hYo
      have HYN := Lib.hid hYn
      have HWS := Lib.hid hWs
      clear hY hYs hYo hYn hssz hsetc hWs hx8 hg2 h5
      gi_wp2_with ((with_reducible refine wpListIn_round (o := ⟨some 27, Op.call _, _, _, _, _⟩) ?_ ?_ ?_); rfl; (intro c hc; cases hc); rw [HY.out]; refine wp_appI (.tmp 24) (.tmp 26) rfl (w.heap.size + 7) _ pre ((k, d), .slice ua d.length uc) W.heap.size rfl y5 rfl y8 HYN.out (by omega) hbase ?_; intro v8 w8 ho8 hg8 hv8; obtain ⟨na, nc, hn8⟩ := ho8.len; subst hn8; have z1 := y1.grown hg8 (fun e => by have := (y5.lt _ e.symm).1; omega); have zc := z1.cell; have zf := z1.free)
      have e8 : w.heap.size ≤ w8.heap.size := Nat.le_trans hYB.size hg8.size
      have z3 := y3.grown hg8 (fun e => by have := (y5.lt _ e.symm).1; omega)
      have z4 := y4.grown hg8 (fun e => by have := (y5.lt _ e.symm).1; omega)
      have z2 := hY3.grown hg8 (fun e => by have := (y5.lt _ e.symm).1; omega)
      have hS := HSZ.out
      have ho9 : OwnI w8 (w.heap.size + 7) (.slice na (pre.length + 1) nc) (pre ++ [((k, d), .slice ua d.length uc)]) := by rw [List.length_append] at ho8; exact ho8
      refine ⟨((hYk.mono fun q _ h => ?_).grown hg8 (fun r e => ?_)).setCell (p := ⟨w.heap.size + 1 + 1, 0, none⟩) (fun h => ?_) _, _, z1.set _, ?_, z3.other (by show w.heap.size + 1 + 1 ≠ w.heap.size; omega) _, z4.other (by show w.heap.size + 1 + 1 ≠ w.heap.size + 1; omega) _, ho9.keep (fun q e1 e2 => Below.heap_setCell _ ⟨w.heap.size + 1 + 1, 0, none⟩ _ _ (by show q ≠ w.heap.size + 1 + 1; omega)), HOK.out, ((hYB.grown hg8 hYB.size (fun r e => ?_)).setCell (p := ⟨w.heap.size + 1 + 1, 0, none⟩) (by show w.heap.size ≤ w.heap.size + 1 + 1; omega) _), ?_⟩
      · omega
      · have := (y5.lt r e).1; omega
      · dsimp only at h; omega
      · rw [HLS.out]; exact z2.other (by show w.heap.size + 1 + 1 ≠ w.heap.size + 3; omega) _
      · have := (y5.lt r e).1; omega
      · simp only [World.size_setCell]; have := hg8.size; omega
  case done =>
    rintro xs W hxs ⟨ov, h1, h2, h3, h4, h5, h6, h7, h8⟩ hW2 hD
    obtain ⟨oa, oc, hv⟩ := h5.len
    subst hv
    have c4 := h1.cell
    have f4 := h1.free
    have c5 := h3.cell
    have f5 := h3.free
    have c6 := h4.cell
    have f6 := h4.free
    have HX := Lib.hid hxs
    clear hxs
    have HS0 := Lib.hid hsz
    clear hsz
    gi_wp2
    have hsz := HS0.out
    generalize hWx : (W.setCell ⟨w.heap.size, 0, none⟩ _).setCell _ _ = Wx
    obtain ⟨g1, g2, g5, g7, gs, gD⟩ : One Wx w.heap.size (.slice oa xs.length oc) 43 ∧ One Wx (w.heap.size + 1) (.int .i64 0) 32 ∧ OwnI Wx (w.heap.size + 7) (.slice oa xs.length oc) xs ∧ Below w.heap.size w Wx ∧ Wx.heap.size = W.heap.size ∧ Wx.heap[W0.heap.size]? = some (.deferred (some [])) := by
      subst hWx
      refine ⟨(h3.set _).other (by show w.heap.size + 1 ≠ w.heap.size; omega) _, (h4.other (by show w.heap.size ≠ w.heap.size + 1; omega) _).set _, h5.keep fun q e1 e2 => ?_, (h7.setCell (p := ⟨w.heap.size, 0, none⟩) (Nat.le_refl _) _).setCell (p := ⟨w.heap.size + 1, 0, none⟩) (by show w.heap.size ≤ w.heap.size + 1; omega) _, by simp only [World.size_setCell], ?_⟩
      · exact (Below.heap_setCell _ ⟨w.heap.size + 1, 0, none⟩ _ _ (by show q ≠ w.heap.size + 1; omega)).trans (Below.heap_setCell _ ⟨w.heap.size, 0, none⟩ _ _ (by show q ≠ w.heap.size; omega))
      · exact ((Below.heap_setCell _ ⟨w.heap.size + 1, 0, none⟩ _ _ (by show W0.heap.size ≠ w.heap.size + 1; omega)).trans (Below.heap_setCell _ ⟨w.heap.size, 0, none⟩ _ _ (by show W0.heap.size ≠ w.heap.size; omega))).trans hD
    refine ⟨by simp, .inl ⟨_, _, rfl, run_takeDeferred gD, ?_⟩⟩
    have q1 := g1.of_block (w' := Wx.putObj W0.heap.size (.deferred none)) (World.putObj_heap_other (by omega))
    have q2 := g2.of_block (w' := Wx.putObj W0.heap.size (.deferred none)) (World.putObj_heap_other (by omega))
    refine ⟨_, results_cell2 rfl _ _ w.heap.size (w.heap.size + 1) _ _ rfl rfl q1.cell q2.cell (by kernel_rfl) (by kernel_rfl), ?_⟩
    have hI := g5.keep (w' := Wx.putObj W0.heap.size (.deferred none)) fun q e1 e2 => World.putObj_heap_other (by omega)
    rw [HD.out, ← HX.out, h6]
    exact ⟨_, xs, w.heap.size + 7, by simp, hI, rfl, g7.grown (grownBy_putObj' _ _ _) g7.size (fun k e => by cases e; omega), by omega⟩
  case stop =>
    rintro c pre W _ ⟨rfl, h1, h2, h3, h7, h8⟩ hW2 hD
    gi_wp2
    refine ⟨by simp, .inl ⟨_, _, rfl, run_takeDeferred hD, ?_⟩⟩
    have g1 := h1.of_block (w' := W.putObj W0.heap.size (.deferred none)) (World.putObj_heap_other (by omega))
    have g2 := h2.of_block (w' := W.putObj W0.heap.size (.deferred none)) (World.putObj_heap_other (by omega))
    refine ⟨_, results_cell2 rfl _ _ w.heap.size (w.heap.size + 1) _ _ rfl rfl g1.cell g2.cell (by kernel_rfl) (by kernel_rfl), ?_⟩
    rw [HD.out, h3]
    exact ⟨_, [], w.heap.size, rfl, OwnI.nil _ _, rfl, h7.grown (grownBy_putObj' _ _ _) h7.size (fun k e => by cases e; omega), Nat.le_refl _⟩

theorem Decode_any (v : Value) (b : List UInt8) (w : World) (hl : Bytes w v b) :
    Calls Try.prog 31 #[v] w (DecPost w (decL b)) := (Decode_own v b w hl).mono fun _ _ h => h.post

end Go.Proofs.Ytnomekfemadpeaa

/- The walks of tlv.Encode and of the reference's. No condition. -/
namespace Go.Proofs.Ytnomekfemadpeaa
open Go.RowKit
set_option linter.unusedVariables false

/-- What Encode comes to. -/
def EncPost (w : World) (r : Option (List UInt8)) (e : Ending) (w' : World) : Prop :=
  Below w.heap.size w w' ∧ ∃ v, match r with
    | none => e = .returned (.tuple #[.slice none 0 0, .int .i64 1])
    | some c => e = .returned (.tuple #[v, .int .i64 0]) ∧ Own8 w' w.heap.size 5 v c

theorem enc_none {w w' : World} {r : Option (List UInt8)} (h : r = none) (hb : Below w.heap.size w w') : EncPost w r (.returned (.tuple #[.slice none 0 0, .int .i64 1])) w' := by
  subst h; exact ⟨hb, .slice none 0 0, rfl⟩
theorem enc_some {w w' : World} {r : Option (List UInt8)} {c : List UInt8} {v : Value} (h : r = some c) (hb : Below w.heap.size w w') (hv : Own8 w' w.heap.size 5 v c) : EncPost w r (.returned (.tuple #[v, .int .i64 0])) w' := by
  subst h; exact ⟨hb, v, rfl, hv⟩

set_option maxRecDepth 100000 in
set_option maxHeartbeats 1600000 in
theorem Encode_any (v : Value) (l : List It) (w : World) (hl : Items w v l) :
    Calls Try.prog 19 #[v] w (EncPost w (encL l)) := by
  obtain ⟨i0, hi, hz0, hz1, hz2⟩ := info_parts infoU8
  obtain ⟨a, cp, rfl⟩ := hl.len
  have HL := Lib.hid hl
  have hll := hl.le
  clear hl
  go_enter Try.func19, Try.ntmps19
  go_wp2
  go_loopw [4, 5, 10] (fun ov lv iv wr => ∃ (k : Nat) (last : Int) (out : List UInt8), k ≤ l.length ∧ out.length ≤ 65536 ∧ 0 ≤ last ∧ last ≤ 63 ∧ lv = .int .i64 last ∧ iv = .int .i64 k ∧ encL l = encF (l.drop k) last out ∧
      Own8 wr w.heap.size 5 ov out ∧ Below w.heap.size w wr)
    (fun _ _ iv _ => l.length - (intOf iv).toNat)
  case atStart => exact ⟨0, 0, [], by omega, by simp, by omega, by omega, rfl, rfl, rfl, Own8.nil _ _ _, Below.refl _ _⟩
  case round =>
    obtain ⟨k, last, out, hk, ho, hla, hlb, rfl, rfl, heq, hown, hb⟩ := hrel
    have hsz := hb.size
    by_cases hlt : k < l.length
    · obtain ⟨b, off, c', hv, hbl, hc⟩ := HL.out.cell (by omega)
      obtain ⟨rfl, rfl⟩ : a = some ⟨b, off, none⟩ ∧ cp = c' := by cases hv; exact ⟨rfl, rfl⟩
      obtain ⟨hc1, u, hc2, hu⟩ := hc k hlt
      have hc1 := (hb.cell (p := ⟨b, off + k * 2, none⟩) hbl).trans hc1
      have hc2 := (hb.cell (p := ⟨b, off + k * 2 + 1, none⟩) hbl).trans hc2
      rw [drop_at_it hlt] at heq
      generalize l.getD k (0, []) = x at *
      obtain ⟨ua, uc, rfl⟩ := hu.len
      obtain ⟨oa, oc, rfl⟩ := hown.bytes.len
      have Hc := Lib.hid hc
      have Hu := Lib.hid hu
      have Heq := Lib.hid heq
      clear hc hv hu heq
      by_cases hx1 : x.1 ≤ last
      · go_wp2
        go_ret2
        exact enc_none (Heq.out.trans (by rw [encF, if_pos (.inl hx1)])) (hb.alloc hsz _)
      · by_cases hx2 : 63 < x.1
        · go_wp2
          go_ret2
          exact enc_none (Heq.out.trans (by rw [encF, if_pos (.inr (.inl hx2))])) (hb.alloc hsz _)
        · by_cases hx3 : 65536 - (out.length : Int) < x.2.length
          · go_wp2
            go_ret2
            exact enc_none (Heq.out.trans (by rw [encF, if_pos (.inr (.inr hx3))])) (hb.alloc hsz _)
          · go_wp2
            have hown0 := hown.alloc (.cells #[.int .i64 x.1, .slice ua x.2.length uc] 47)
            have hb0 := hb.alloc hsz (.cells #[.int .i64 x.1, .slice ua x.2.length uc] 47)
            have hk0 : (wr.alloc (.cells #[.int .i64 x.1, .slice ua x.2.length uc] 47)).cell? ⟨wr.heap.size, 1, none⟩ = some (.slice ua x.2.length uc) := by go_simp
            have hs0 : wr.heap.size < (wr.alloc (.cells #[.int .i64 x.1, .slice ua x.2.length uc] 47)).heap.size := by simp
            have one1 : ∀ W : World, Bytes (W.alloc (.cells #[.int .u8 (IntKind.u8.wrap x.1)] 5)) (.slice (some ⟨W.heap.size, 0, none⟩) 1 1) [UInt8.ofNat x.1.toNat] := fun W => by
              have e : Value.int .u8 (IntKind.u8.wrap x.1) = B8 (UInt8.ofNat x.1.toNat) := by unfold B8; congr 1; simp [IntKind.wrap_u8']; omega
              rw [e]; exact Bytes.one _ _ _
            generalize wr.alloc (.cells #[.int .i64 x.1, .slice ua x.2.length uc] 47) = W0 at *
            go_cut [4] (fun ov W => Own8 W w.heap.size 5 ov (out ++ [UInt8.ofNat x.1.toNat] ++ uint x.2.length ++ x.2) ∧ Below w.heap.size w W)
            case first =>
              have hlto := hown.lt
              have hul := uint_len10 (n := x.2.length) (by omega)
              have hw64 : IntKind.u64.wrap (x.2.length : Int) = (x.2.length : Int) := by simp [IntKind.wrap, IntKind.bits, IntKind.signed]; omega
              go_region_held3 (fun w' => w'.cell? ⟨wr.heap.size, 1, none⟩ = some (.slice ua x.2.length uc))
                (first
                  | go_keep
                  | exact grownBy.cell_of hg3 (by assumption) (fun k hk => by rcases hn2 k hk with h | h; (rcases hn1 k h with h | h; (have := (hlto k h).2; exact Nat.ne_of_lt this); (simp at h; show k ≠ wr.heap.size; omega)); (show k ≠ wr.heap.size; omega))
                  | exact grownBy.cell_of hg2 (by assumption) (fun k hk => by rcases hn1 k hk with h | h; (have := (hlto k h).2; exact Nat.ne_of_lt this); (simp at h; show k ≠ wr.heap.size; omega))
                  | exact grownBy.cell_of hg1 (by assumption) (fun k hk => by have := (hlto k hk).2; exact Nat.ne_of_lt this)
                  | exact (hb2.cell (p := ⟨wr.heap.size, 1, none⟩) (by show wr.heap.size < _; omega)).trans (by assumption))
                (first
                  | (refine step_app8 rfl (.tmp 34) (.tmp 37) 25 rfl w.heap.size 5 i0 Try.underlying25 hi hz0 hz1 hz2 _ out rfl ?own _ [UInt8.ofNat x.1.toNat] rfl ?byt ?len ?bas ?_; (case own => exact hown0.alloc _); (case byt => exact one1 _); (case len => first | omega | (simp; omega)); (case bas => first | omega | (simp; omega)); intro v1 w1 hown1 hg1 hn1; have hsz1 : W0.heap.size < w1.heap.size := Nat.lt_of_lt_of_le (by simp) hg1.size; have hbA : Below w.heap.size w w1 := ((hb0.alloc (by omega) _).drew).grown hg1 (by simp; omega) (fun j hj => (hlto j hj).1))
                  | (refine step_app8 rfl (.tmp 38) (.tmp 43) 25 rfl w.heap.size 5 i0 Try.underlying25 hi hz0 hz1 hz2 _ (out ++ [UInt8.ofNat x.1.toNat]) rfl ?own2 _ (uint x.2.length) rfl ?byt2 ?len2 ?bas2 ?_; (case own2 => exact hown1.new hb2); (case byt2 => exact ho2.bytes); (case len2 => simp; omega); (case bas2 => omega); intro v3 w3 hown3 hg2 hn2; have hsz3 := hg2.size; have hbC : Below w.heap.size w w3 := hbB.grown hg2 (by omega) (fun j hj => (hown1.lt j hj).1))
                  | (refine step_app8 rfl (.tmp 44) (.tmp 46) 25 rfl w.heap.size 5 i0 Try.underlying25 hi hz0 hz1 hz2 _ (out ++ [UInt8.ofNat x.1.toNat] ++ uint x.2.length) rfl ?own3 _ x.2 rfl ?byt3 ?len3 ?bas3 ?_; (case own3 => exact hown3); (case byt3 => exact Hu.out.of_new hbC); (case len3 => simp; omega); (case bas3 => omega); intro v4 w4 hown4 hg3 hn3; have hbD : Below w.heap.size w w4 := hbC.grown hg3 (by omega) (fun j hj => (hown3.lt j hj).1))
                  | (go_simp; go_at_call 38; refine (Uint_at _ x.2.length _ rfl (by omega)).mono ?_; rintro e w2 ⟨v2, rfl, ho2, hb2⟩; have hsz2 := hb2.size; have hbB : Below w.heap.size w w2 := hbA.trans (hb2.mono (by omega))))
              go_wp2_with fail
              go_meet
              exact ⟨hown4, hbD⟩
            case rest =>
              obtain ⟨hown', hb'⟩ := hcut
              clear hown hb hown0 hb0 hk0 hs0 one1
              have Heq2 := Heq.out
              rw [encF, if_neg (by omega)] at Heq2
              generalize out ++ [UInt8.ofNat x.1.toNat] ++ uint x.2.length ++ x.2 = out' at *
              obtain ⟨oa', oc', hoe⟩ := hown'.bytes.len
              subst hoe
              have Heq3 := Lib.hid Heq2
              clear Heq2 Heq
              have hk1 : k + 1 ≤ l.length := hlt
              have ho1 : ¬ (65536 : Int) < out'.length → out'.length ≤ 65536 := by omega
              by_cases hx4 : (65536 : Int) < out'.length
              · go_wp2
                go_ret2
                exact enc_none (Heq3.out.trans (if_pos (by omega))) hb'
              · go_wp2
                go_roundw
                case rel =>
                  refine ⟨k + 1, x.1, out', hk1, by omega, by omega, by omega, rfl, by go_num, Heq3.out.trans (if_neg (by omega)), hown', hb'⟩
                case measure => simp [intOf]; omega
    · obtain ⟨oa, oc, rfl⟩ := hown.bytes.len
      have Heq := Lib.hid heq
      clear heq
      go_wp2
      go_ret2
      exact enc_some (Heq.out.trans (by rw [List.drop_of_length_le (by omega)]; rfl)) hb hown

end Go.Proofs.Ytnomekfemadpeaa

/- The walk of the reference's Encode, and of the law's awake. No condition. -/
namespace Go.Proofs.Ytnomekfemadpeaa
open Go.RowKit
set_option linter.unusedVariables false

set_option maxRecDepth 100000 in
set_option maxHeartbeats 3200000 in
theorem refEncode_any (v : Value) (l : List It) (w : World) (hl : Items w v l) :
    Calls Try.prog 22 #[v] w (EncPost w (rencL l)) := by
  obtain ⟨i0, hi, hz0, hz1, hz2⟩ := info_parts infoU8
  obtain ⟨a, cp, rfl⟩ := hl.len
  have HL := Lib.hid hl
  have hll := hl.le
  clear hl
  go_enter Try.func22, Try.ntmps22
  by_cases hmany : (63 : Int) < l.length
  · go_wp2
    go_ret2
    exact enc_none (by rw [rencL, if_pos (by omega)]) (Below.refl _ _)
  · go_wp2
    go_loopw [4, 5, 6] (fun ov lv iv wr => ∃ (k : Nat) (last : Int) (out : List UInt8), k ≤ l.length ∧ out.length ≤ 65536 ∧ 0 ≤ last ∧ last ≤ 63 ∧ lv = .int .i64 last ∧ iv = .int .i64 k ∧ rencL l = rencF (l.drop k) last out ∧
        Own8 wr w.heap.size 5 ov out ∧ Below w.heap.size w wr)
      (fun _ _ iv _ => l.length - (intOf iv).toNat)
    case atStart => exact ⟨0, 0, [], by omega, by simp, by omega, by omega, rfl, rfl, by rw [rencL, if_neg (by omega)]; rfl, Own8.nil _ _ _, Below.refl _ _⟩
    case round =>
      obtain ⟨k, last, out, hk, ho, hla, hlb, rfl, rfl, heq, hown, hb⟩ := hrel
      have hsz := hb.size
      by_cases hlt : k < l.length
      · obtain ⟨b, off, c', hv, hbl, hc⟩ := HL.out.cell (by omega)
        obtain ⟨rfl, rfl⟩ : a = some ⟨b, off, none⟩ ∧ cp = c' := by cases hv; exact ⟨rfl, rfl⟩
        obtain ⟨hc1', u, hc2', hu⟩ := hc k hlt
        have hc1 := (hb.cell (p := ⟨b, off + k * 2, none⟩) hbl).trans hc1'
        have hc2 := (hb.cell (p := ⟨b, off + k * 2 + 1, none⟩) hbl).trans hc2'
        rw [drop_at_it hlt] at heq
        generalize l.getD k (0, []) = x at *
        obtain ⟨ua, uc, rfl⟩ := hu.len
        obtain ⟨oa, oc, hoe⟩ := hown.bytes.len
        subst hoe
        have Hc := Lib.hid hc
        have Hu := Lib.hid hu
        have Heq := Lib.hid heq
        have Hw1 := Lib.hid hc1'
        have Hw2 := Lib.hid hc2'
        clear hc hv hu heq hc1' hc2'
        by_cases hx1 : x.1 ≤ last
        · go_wp2
          go_ret2
          exact enc_none (Heq.out.trans (by rw [rencF, if_pos (.inl hx1)])) hb
        · by_cases hx2 : 63 < x.1
          · go_wp2
            go_ret2
            exact enc_none (Heq.out.trans (by rw [rencF, if_pos (.inr (.inl hx2))])) hb
          · by_cases hx3 : (65536 : Int) < x.2.length
            · go_wp2
              go_ret2
              exact enc_none (Heq.out.trans (by rw [rencF, if_pos (.inr (.inr (by omega)))])) hb
            · have hul := uint_len10 (n := x.2.length) (by omega)
              have hk1 : k + 1 ≤ l.length := hlt
              have hx1p : 0 ≤ x.1 := by omega
              have one1 : ∀ W : World, Bytes (W.alloc (.cells #[.int .u8 x.1] 5)) (.slice (some ⟨W.heap.size, 0, none⟩) 1 1) [UInt8.ofNat x.1.toNat] := fun W => by
                have e : Value.int .u8 x.1 = B8 (UInt8.ofNat x.1.toNat) := by unfold B8; congr 1; simp; omega
                rw [e]; exact Bytes.one _ _ _
              have Hone := Lib.hid one1
              clear one1
              go_wp2_with (at_builtin; refine wpList_app8 rfl (.tmp 45) (.tmp 48) 25 rfl w.heap.size 5 i0 Try.underlying25 hi hz0 hz1 hz2 _ out rfl (hown.alloc _) _ [UInt8.ofNat x.1.toNat] rfl ?c1 ?c2 ?c3 ?_)
              case c1 => exact Hone.out _
              case c2 => first | omega | (simp; omega)
              case c3 => first | omega | (simp; omega)
              intro v1 w1 hown1 hg1 _
              have hbA : Below w.heap.size w w1 := (hb.alloc hsz _).grown hg1 (by simp; omega) (fun j hj => (hown.lt j hj).1)
              have hc1 := (hbA.cell (p := ⟨b, off + k * 2, none⟩) hbl).trans Hw1.out
              have hc2 := (hbA.cell (p := ⟨b, off + k * 2 + 1, none⟩) hbl).trans Hw2.out
              clear hg1 hb hown
              have hszA := hbA.size
              go_wp2_with fail
              refine (refUint_at _ x.2.length _ rfl (by omega)).mono ?_
              rintro e w2 ⟨v2, rfl, ho2, hb2⟩
              have hbB : Below w.heap.size w w2 := hbA.trans (hb2.mono hszA)
              have hown2 := hown1.new hb2
              have hszB := hbB.size
              go_wp2_with (at_builtin; refine wpList_app8 rfl (.tmp 50) (.tmp 58) 25 rfl w.heap.size 5 i0 Try.underlying25 hi hz0 hz1 hz2 _ (out ++ [UInt8.ofNat x.1.toNat]) rfl hown2 _ (uint x.2.length) rfl ho2.bytes ?d2 hszB ?_)
              case d2 => simp; omega
              intro v3 w3 hown3 hg3 _
              have hbC : Below w.heap.size w w3 := hbB.grown hg3 hszB (fun j hj => (hown2.lt j hj).1)
              have hc1 := (hbC.cell (p := ⟨b, off + k * 2, none⟩) hbl).trans Hw1.out
              have hc2 := (hbC.cell (p := ⟨b, off + k * 2 + 1, none⟩) hbl).trans Hw2.out
              have hszC := hbC.size
              have hu3 := Hu.out.of_new hbC
              clear hg3 hb2 ho2 hown1 hown2 hbA hbB
              go_wp2_with (at_builtin; refine wpList_app8 rfl (.tmp 60) (.tmp 65) 25 rfl w.heap.size 5 i0 Try.underlying25 hi hz0 hz1 hz2 _ _ rfl hown3 _ x.2 rfl hu3 ?e2 hszC ?_)
              case e2 => simp; omega
              intro v4 w4 hown4 hg4 _
              have hbD : Below w.heap.size w w4 := hbC.grown hg4 hszC (fun j hj => (hown3.lt j hj).1)
              have Heq2 := Heq.out
              rw [rencF, if_neg (by omega)] at Heq2
              clear hg4 hu3 hown3 hbC hc1 hc2
              simp only [List.append_assoc, List.cons_append, List.nil_append] at hown4 Heq2
              generalize out ++ UInt8.ofNat x.1.toNat :: (uint x.2.length ++ x.2) = out' at *
              obtain ⟨oa', oc', hoe⟩ := hown4.bytes.len
              subst hoe
              have Heq3 := Lib.hid Heq2
              clear Heq2 Heq
              by_cases hx4 : (65536 : Int) < out'.length
              · go_wp2
                go_ret2
                exact enc_none (Heq3.out.trans (if_pos (by omega))) hbD
              · go_wp2
                go_roundw
                case rel => exact ⟨k + 1, x.1, out', hk1, by omega, by omega, by omega, rfl, by go_num, Heq3.out.trans (if_neg (by omega)), hown4, hbD⟩
                case measure => simp [intOf]; omega
      · obtain ⟨oa, oc, rfl⟩ := hown.bytes.len
        have Heq := Lib.hid heq
        clear heq
        go_wp2
        go_ret2
        exact enc_some (Heq.out.trans (by rw [List.drop_of_length_le (by omega)]; rfl)) hb hown

end Go.Proofs.Ytnomekfemadpeaa

/- The walk of the reference's Decode. No condition. -/
namespace Go.Proofs.Ytnomekfemadpeaa
open Go.RowKit
set_option linter.unusedVariables false
set_option linter.unusedSimpArgs false

/-- What holds ahead of each round of the reference's Decode. -/
def RDecI (w : World) (b : List UInt8) (ov lv rv : Value) (W : World) : Prop :=
  ∃ (pre : List ItV) (last : Int) (rest : List UInt8), OwnI W w.heap.size ov pre ∧ Bytes w rv rest ∧ lv = .int .i64 last ∧ 0 ≤ last ∧ last ≤ 63 ∧ pre.length + rest.length ≤ 65536 ∧
    checkF (itemsL b) 0 = (checkF (itemsL rest) last).map (pre.map (·.1) ++ ·) ∧ Below w.heap.size w W

theorem refcut_bad {v : Value} {l : List UInt8} {w : World} (hl : Bytes w v l) (h : cutL 0 0 l = none) :
    Calls Try.prog 50 #[v] w fun e w' => e = .returned (.tuple #[.int .u64 0, .int .i64 0]) ∧ w' = w :=
  (refcut_any v l w hl).mono fun e w' h2 => by unfold RefCutPost at h2; rw [h] at h2; exact h2
theorem refcut_good {v : Value} {l : List UInt8} {w : World} (hl : Bytes w v l) {n m : Nat} (h : cutL 0 0 l = some (n, m)) :
    Calls Try.prog 50 #[v] w fun e w' => e = .returned (.tuple #[.int .u64 n, .int .i64 m]) ∧ w' = w :=
  (refcut_any v l w hl).mono fun e w' h2 => by unfold RefCutPost at h2; rw [h] at h2; exact h2

set_option maxRecDepth 100000 in
set_option maxHeartbeats 3200000 in
theorem refDecode_own (v : Value) (b : List UInt8) (w : World) (hl : Bytes w v b) :
    Calls Try.prog 34 #[v] w (DecPostO w (decL b)) := by
  obtain ⟨i0, hi, hz0, hz1, hz2⟩ := info_parts infoU8
  have hle := hl.le
  obtain ⟨va, vc, hv⟩ := hl.len
  subst hv
  by_cases hbig : 65536 < b.length
  · have t0 : (65536 : Int) < (b.length : Int) := by omega
    have hd : decL b = none := by unfold decL; rw [if_pos hbig]
    have HD := Lib.hid hd
    clear hd hbig hl
    go_enter Try.func34, Try.ntmps34
    go_wp2
    go_ret2
    rw [HD.out]
    exact ⟨_, [], w.heap.size, rfl, OwnI.nil _ _, rfl, Below.refl _ _, Nat.le_refl _⟩
  have t0 : ¬ (65536 : Int) < (b.length : Int) := by omega
  have hd : decL b = checkF (itemsL b) 0 := by unfold decL; rw [if_neg hbig]
  have HD := Lib.hid hd
  clear hd
  have HL := Lib.hid hl
  clear hl
  go_enter Try.func34, Try.ntmps34
  go_wp2
  go_loopw [4, 5, 6] (RDecI w b) (fun _ _ rv _ => lenV rv)
  case atStart => exact ⟨[], 0, b, OwnI.nil _ _, HL.out, rfl, by omega, by omega, by simp; omega, by simp, Below.refl _ _⟩
  case round =>
    obtain ⟨pre, last, rest, hown, hl, rfl, hla, hlb, hlen, heq, hb⟩ := hrel
    obtain ⟨ra, rc, hv⟩ := hl.len
    subst hv
    obtain ⟨oa, oc, hv⟩ := hown.len
    subst hv
    have HEQ := Lib.hid heq
    clear heq
    by_cases hlt : 0 < rest.length
    · have hlt2 : (0 : Int) < (rest.length : Int) := by omega
      obtain ⟨rb, roff, rc', hv, hbl, hcell⟩ := hl.cell hlt
      obtain ⟨rfl, rfl⟩ : ra = some ⟨rb, roff, none⟩ ∧ rc = rc' := by cases hv; exact ⟨rfl, rfl⟩
      have hc0 := (hb.cell (p := ⟨rb, roff + 0, none⟩) hbl).trans (hcell 0 hlt)
      rw [Nat.add_zero] at hc0
      unfold B8 at hc0
      have hyl := (rest.getD 0 0).toNat_lt
      obtain ⟨tv, hrt, ht, hto⟩ := hl.part (P := Try.prog) (t := 25) Try.underlying25 hi hz1 (some (.int .i64 1)) none 1 rest.length (by omega) (Nat.le_refl _) (.inr ⟨.i64, rfl⟩) (.inl ⟨rfl, rfl⟩)
      rw [List.take_of_length_le (by simp)] at ht
      have hone := oneI_drop hlt
      have htl : (rest.drop 1).length = rest.length - 1 := by simp
      have hne : rest ≠ [] := by intro e; rw [e] at hlt; simp at hlt
      have hbad := itemsL_bad (b := rest) hne
      have hstep := fun x r => itemsL_step (b := rest) (r := r) (x := x)
      have hone' : ∀ n m, cutL 0 0 (rest.drop 1) = some (n, m) → m ≤ (rest.drop 1).length ∧ 0 < m ∧ n < 18446744073709551616 := fun n m h => by have := cutL_lt (by omega) (by omega) h; omega
      clear hcell hv
      have HTL := Lib.hid htl
      have HBAD := Lib.hid hbad
      have HST := Lib.hid hstep
      have HPART := Lib.hid hl
      clear htl hbad hstep hne
      have hrd : ∀ m, (rest.drop 1).drop m = rest.drop (1 + m) := fun m => by rw [List.drop_drop]
      have HRD := Lib.hid hrd
      clear hrd
      generalize hty : rest.drop 1 = t at *
      generalize rest.getD 0 0 = y at *
      obtain ⟨ta, tc, hv⟩ := ht.len
      subst hv
      have HONE := Lib.hid hone
      clear hone hto hl
      have HTY := Lib.hid hty
      clear hty
      have hyn : checkF [((0 : Int), ([] : List UInt8))] last = none := by simp [checkF]; omega
      have hord : ∀ (x : It) (r : List It), (x.1 ≤ last ∨ 63 < x.1) → checkF (x :: r) last = none := fun x r h => by simp only [checkF, if_pos h]
      have hnone : checkF (itemsL rest) last = none → decL b = none := fun h => by rw [HD.out, HEQ.out, h]; rfl
      have hbadk : (((y.toNat : Nat) : Int) ≤ last ∨ 63 < ((y.toNat : Nat) : Int)) → decL b = none := fun h => hnone (by
        cases ho : oneI rest with
        | none => rw [HBAD.out ho]; exact hyn
        | some p =>
          obtain ⟨x, r⟩ := p
          rw [HST.out _ _ ho]
          refine hord x _ ?_
          have h1 := HONE.out
          rw [ho] at h1
          split at h1
          · cases h1
          · split at h1
            · cases h1
            · cases h1; exact h)
      have HORD := Lib.hid hord
      have HNO := Lib.hid hnone
      have HYN := Lib.hid hyn
      clear hord hnone hyn
      rcases hcut : cutL 0 0 t with _ | ⟨n, m⟩
      · have hbd : oneI rest = none := by rw [HONE.out, hcut]
        have hdn : decL b = none := HNO.out (by rw [HBAD.out hbd]; exact HYN.out)
        have HDN := Lib.hid hdn
        have HCU := Lib.hid hcut
        clear hcut hdn hbd hbadk
        have hl2 := ht.of_new hb
        by_cases h1 : ((y.toNat : Nat) : Int) ≤ last
        · go_wp2_with (refine (refcut_bad hl2 HCU.out).mono ?_; rintro e w2 ⟨rfl, rfl⟩)
          go_ret2
          rw [HDN.out]
          exact ⟨_, [], w.heap.size, rfl, OwnI.nil _ _, rfl, hb, Nat.le_refl _⟩
        · by_cases h2 : 63 < ((y.toNat : Nat) : Int)
          · go_wp2_with (refine (refcut_bad hl2 HCU.out).mono ?_; rintro e w2 ⟨rfl, rfl⟩)
            go_ret2
            rw [HDN.out]
            exact ⟨_, [], w.heap.size, rfl, OwnI.nil _ _, rfl, hb, Nat.le_refl _⟩
          · go_wp2_with (refine (refcut_bad hl2 HCU.out).mono ?_; rintro e w2 ⟨rfl, rfl⟩)
            go_ret2
            rw [HDN.out]
            exact ⟨_, [], w.heap.size, rfl, OwnI.nil _ _, rfl, hb, Nat.le_refl _⟩
      · obtain ⟨q1', q2, q3⟩ := hone' n m hcut
        have q1 : (m : Int) ≤ (rest.length : Int) - 1 := by have := HTL.out; omega
        clear q1' hone'
        have HCU := Lib.hid hcut
        clear hcut
        have hm0 : ((m : Int) == 0) = false := beq_eq_false_iff_ne.2 (by omega)
        have hl2 := ht.of_new hb
        by_cases hk : ((y.toNat : Nat) : Int) ≤ last ∨ 63 < ((y.toNat : Nat) : Int)
        · have HDN := Lib.hid (hbadk hk)
          clear hbadk
          by_cases h1 : ((y.toNat : Nat) : Int) ≤ last
          · clear hk
            go_wp2_with (refine (refcut_good hl2 HCU.out).mono ?_; rintro e w2 ⟨rfl, rfl⟩)
            go_ret2
            rw [HDN.out]
            exact ⟨_, [], w.heap.size, rfl, OwnI.nil _ _, rfl, hb, Nat.le_refl _⟩
          · have h2 := hk.resolve_left h1
            clear hk
            go_wp2_with (refine (refcut_good hl2 HCU.out).mono ?_; rintro e w2 ⟨rfl, rfl⟩)
            go_ret2
            rw [HDN.out]
            exact ⟨_, [], w.heap.size, rfl, OwnI.nil _ _, rfl, hb, Nat.le_refl _⟩
        clear hbadk
        have h1 : ¬ ((y.toNat : Nat) : Int) ≤ last := fun h => hk (.inl h)
        have h2 : ¬ 63 < ((y.toNat : Nat) : Int) := fun h => hk (.inr h)
        clear hk
        have hr60 : rest.length ≤ 65536 := by omega
        have s1 : IntKind.i64.wrap ((rest.length : Int) - 1) = (rest.length : Int) - 1 := IntWalk.i64_in _ (by omega)
        have s2 : IntKind.i64.wrap ((rest.length : Int) - 1 - (m : Int)) = (rest.length : Int) - 1 - (m : Int) := IntWalk.i64_in _ (by omega)
        have s3 : IntKind.u64.wrap ((rest.length : Int) - 1 - (m : Int)) = (rest.length : Int) - 1 - (m : Int) := IntWalk.u64_in _ (by omega)
        by_cases h3 : (rest.length : Int) - 1 - (m : Int) < (n : Int)
        · have hbd : oneI rest = none := by
            rw [HONE.out, HCU.out]
            simp only
            rw [if_pos (by simp only [List.length_drop]; have := HTL.out; omega)]
          have HDN := Lib.hid (HNO.out (by rw [HBAD.out hbd]; exact HYN.out))
          clear hbd
          go_wp2_with (refine (refcut_good hl2 HCU.out).mono ?_; rintro e w2 ⟨rfl, rfl⟩)
          go_ret2
          rw [HDN.out]
          exact ⟨_, [], w.heap.size, rfl, OwnI.nil _ _, rfl, hb, Nat.le_refl _⟩
        · have hone2 : oneI rest = some ((((y.toNat : Nat) : Int), (t.drop m).take n), (t.drop m).drop n) := by
            rw [HONE.out, HCU.out]
            simp only
            rw [if_neg (by simp only [List.length_drop]; have := HTL.out; omega)]
          obtain ⟨b1, hr1, hb1, _⟩ := HPART.out.part (P := Try.prog) (t := 25) Try.underlying25 hi hz1 (some (.int .i64 (1 + (m : Int)))) (some (.int .i64 (1 + (m : Int) + (n : Int)))) (1 + m) (1 + m + n) (by omega) (by omega) (.inr ⟨.i64, by congr 1⟩) (.inr ⟨.i64, by congr 1⟩)
          obtain ⟨b2, hr2, hb2, _⟩ := HPART.out.part (P := Try.prog) (t := 25) Try.underlying25 hi hz1 (some (.int .i64 (1 + (m : Int) + (n : Int)))) none (1 + m + n) rest.length (by omega) (Nat.le_refl _) (.inr ⟨.i64, by congr 1⟩) (.inl ⟨rfl, rfl⟩)
          have e1 : (rest.drop (1 + m)).take (1 + m + n - (1 + m)) = (t.drop m).take n := by rw [HRD.out, show 1 + m + n - (1 + m) = n by omega]
          have e2 : (rest.drop (1 + m + n)).take (rest.length - (1 + m + n)) = (t.drop m).drop n := by rw [HRD.out, List.take_of_length_le (by simp), List.drop_drop]
          rw [e1] at hb1
          rw [e2] at hb2
          have hstep := HST.out _ _ hone2
          have hdl : ((t.drop m).take n).length = n := by simp only [List.length_take, List.length_drop]; have := HTL.out; omega
          have hdr : ((t.drop m).drop n).length = rest.length - 1 - m - n := by simp only [List.length_drop]; have := HTL.out; omega
          generalize (t.drop m).take n = d at *
          generalize (t.drop m).drop n = rr at *
          obtain ⟨da, dc, hv⟩ := hb1.len
          subst hv
          obtain ⟨rra, rrc, hv⟩ := hb2.len
          subst hv
          have hO0 : Own8 (wr.alloc (.cells #[] 5)) wr.heap.size 5 (.slice (some ⟨wr.heap.size, 0, none⟩) 0 0) [] := World.ownsRow_made wr #[] 0 (Nat.le_refl _) (by unfold maxLen; omega) rfl
          have HO := Lib.hid hO0
          have HB := Lib.hid ((hb1.of_new hb).of_alloc (.cells #[] 5))
          have HB2 := Lib.hid hb2
          have HOW := Lib.hid hown
          have HST2 := Lib.hid hstep
          have hnr : (n : Int) ≤ (rest.length : Int) - 1 - (m : Int) := by omega
          have hdl2 : d.length ≤ 65536 := by omega
          have hrl : rr.length < rest.length := by omega
          have hpl : pre.length + 1 + rr.length ≤ 65536 := by omega
          have hwb := hb.size
          have HBE := Lib.hid hb
          clear hb1 hb2 hown hO0 hstep hone2 e1 e2 hb hdl hdr
          go_wp2_with (first | (refine (refcut_good hl2 HCU.out).mono ?_; rintro e w2 ⟨rfl, hq⟩; subst w2) | (at_builtin; go_loud (refine wpList_app8 rfl (.tmp 61) (.tmp 62) 25 rfl wr.heap.size 5 i0 Try.underlying25 hi hz0 hz1 hz2 _ [] rfl HO.out _ d rfl HB.out ?c1 ?c2 ?_)))
          case c1 => simp; omega
          case c2 => simp
          intro v1 w1 hown1 hg1 _
          have hbn : Below wr.heap.size wr w1 := ((Below.refl _ wr).alloc (Nat.le_refl _) _).grown hg1 (by simp) (fun j hj => (HO.out.lt j hj).1)
          obtain ⟨v1a, v1c, hv⟩ := hown1.bytes.len
          subst hv
          have hown2 : OwnI w1 w.heap.size (.slice oa pre.length oc) pre := HOW.out.keep fun k _ hk2 => hbn.block k hk2
          obtain ⟨Y, hY⟩ : ∃ Y, w1.alloc (.cells #[.int .i64 (y.toNat : Int), .slice v1a d.length v1c] 47) = Y := ⟨_, rfl⟩
          have hYn : Y.heap[w1.heap.size]? = some (.cells #[.int .i64 (y.toNat : Int), .slice v1a d.length v1c] 47 (0, 0)) := by rw [← hY]; exact heap_alloc_new w1 _
          have hYb : Below w1.heap.size w1 Y := by rw [← hY]; exact (Below.refl _ w1).alloc (Nat.le_refl _) _
          have hYo : OwnI Y w.heap.size (.slice oa pre.length oc) pre := hown2.keep fun k _ hk2 => hYb.block k hk2
          have hY8 : Own8 Y w.heap.size 5 (.slice v1a d.length v1c) d := (hown1.new hYb).mono hwb
          have hYs : w.heap.size ≤ Y.heap.size := by have q1 := hbn.size; have q2 := hYb.size; omega
          have hYB : Below w.heap.size w Y := below_next' (below_next HBE.out (hbn.mono (Nat.le_refl _))) hYb (by have q1 := hbn.size; omega)
          have HY := Lib.hid hY
          have HYN := Lib.hid hYn
          have HYO := Lib.hid hYo
          have HY8 := Lib.hid hY8
          have HYB := Lib.hid hYB
          clear hY hYn hYo hY8 hYb hYB hown2 hown1 hg1 hbn HO HB
          go_wp2_with (at_builtin; rw [HY.out]; go_loud (refine wpList_plain rfl fun K hK => wp_appI (.tmp 59) (.tmp 65) rfl w.heap.size _ pre ((y.toNat, d), .slice v1a d.length v1c) w1.heap.size rfl HYO.out rfl HY8.out HYN.out (by omega) hYs fun v2 w3 ho2 hg2 hv2 => hK _ _ ?_))
          obtain ⟨v2a, v2c, hv⟩ := ho2.len
          rw [List.length_append] at hv
          subst hv
          have HO2 := Lib.hid ho2
          clear ho2
          go_wp2
          have hc2 : checkF (itemsL rest) last = (checkF (itemsL rr) (y.toNat : Int)).map ((((y.toNat : Nat) : Int), d) :: ·) := by
            rw [HST2.out]
            simp only [checkF]
            rw [if_neg (by omega)]
          refine ⟨⟨pre ++ [(((y.toNat : Int), d), .slice v1a d.length v1c)], _, rr, HO2.out, HB2.out, rfl, by omega, by omega, by simp; omega, ?_, ?_⟩, hrl⟩
          · rw [HEQ.out, hc2]
            cases checkF (itemsL rr) (y.toNat : Int) <;> simp
          · exact HYB.out.grown hg2 (by have := HYB.out.size; omega) (fun k e => (HYO.out.lt k e).1)
    · have hn : ¬ (0 : Int) < (rest.length : Int) := by omega
      have hr : rest = [] := List.eq_nil_of_length_eq_zero (by omega)
      have hd : decL b = some (pre.map (·.1)) := by rw [HD.out, HEQ.out, hr]; simp [itemsL_nil, checkF]
      have HDN := Lib.hid hd
      clear hd hr
      go_wp2
      go_ret2
      rw [HDN.out]
      exact ⟨_, pre, w.heap.size, rfl, hown, rfl, hb, Nat.le_refl _⟩

theorem refDecode_any (v : Value) (b : List UInt8) (w : World) (hl : Bytes w v b) :
    Calls Try.prog 34 #[v] w (DecPost w (decL b)) := (refDecode_own v b w hl).mono fun _ _ h => h.post

end Go.Proofs.Ytnomekfemadpeaa

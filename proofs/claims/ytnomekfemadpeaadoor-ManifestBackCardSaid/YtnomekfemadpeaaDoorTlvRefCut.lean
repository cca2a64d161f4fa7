/- The walk of the reference's cut. No condition. -/
import Derived.Test.YtnomekfemadpeaaDoorTlvCut
namespace Go.Proofs.YtnomekfemadpeaaDoor
open Go.RowKit

/-- What the reference's cut comes to. -/
def RefCutPost (w : World) (l : List UInt8) (e : Ending) (w' : World) : Prop :=
  e = .returned (.tuple #[.int .u64 (((cutL 0 0 l).getD (0, 0)).1 : Int), .int .i64 (((cutL 0 0 l).getD (0, 0)).2 : Int)]) ∧ w' = w

theorem refcut_none {w : World} {l : List UInt8} (h : cutL 0 0 l = none) : RefCutPost w l (.returned (.tuple #[.int .u64 0, .int .i64 0])) w := by
  unfold RefCutPost; rw [h]; exact ⟨rfl, rfl⟩

theorem refcut_some {w : World} {l : List UInt8} {x y : Int} {n m : Nat} (h : cutL 0 0 l = some (n, m)) (hx : x = n) (hy : y = m) : RefCutPost w l (.returned (.tuple #[.int .u64 x, .int .i64 y])) w := by
  unfold RefCutPost; rw [h]; subst hx; subst hy; exact ⟨rfl, rfl⟩

theorem wrap_u64 {n : Int} (h0 : 0 ≤ n) (h1 : n < 18446744073709551616) : IntKind.u64.wrap n = n := by simp [IntKind.wrap, IntKind.bits, IntKind.signed]; omega

theorem refcut_sum {k acc c P : Nat} (hk : k < 9) (ha : acc < P) (hP : P = 128 ^ k) :
    IntKind.u64.wrap ((acc : Int) + IntKind.u64.wrap ((c : Int) % 128 * (P : Int))) = ((acc + c % 128 * 128 ^ k : Nat) : Int) ∧ IntKind.u64.wrap ((P : Int) * 128) = ((128 ^ (k + 1) : Nat) : Int) ∧ acc + c % 128 * 128 ^ k < 128 ^ (k + 1) := by
  have h1 := pow9 (show k + 1 ≤ 9 by omega)
  have h2 : c % 128 * 128 ^ k ≤ 127 * 128 ^ k := Nat.mul_le_mul_right _ (by omega)
  have e : (c : Int) % 128 * (P : Int) = ((c % 128 * 128 ^ k : Nat) : Int) := by rw [hP]; simp
  rw [e, Nat.pow_succ] at *
  rw [hP] at ha ⊢
  generalize c % 128 * 128 ^ k = z at *
  generalize 128 ^ k = q at *
  refine ⟨?_, ?_, by omega⟩
  · rw [wrap_u64 (n := (z : Int)) (by omega) (by omega), wrap_u64 (by omega) (by omega)]; simp
  · rw [wrap_u64 (by omega) (by omega)]; simp

theorem refcut_sum9 {acc c P : Nat} (ha : acc < P) (hP : P = 128 ^ 9) (hc : (c : Int) < 128) (h1 : ¬ 1 < (c : Int) % 128) :
    IntKind.u64.wrap ((acc : Int) + IntKind.u64.wrap ((c : Int) % 128 * (P : Int))) = ((acc + c * 128 ^ 9 : Nat) : Int) := by
  have hc1 : c ≤ 1 := by omega
  subst hP
  have e : (c : Int) % 128 * ((128 ^ 9 : Nat) : Int) = ((c * 128 ^ 9 : Nat) : Int) := by rw [show (c : Int) % 128 = c from by omega]; simp
  rw [e, wrap_u64 (n := ((c * 128 ^ 9 : Nat) : Int)) (by omega) (by omega), wrap_u64 (by omega) (by omega)]
  simp

set_option maxRecDepth 100000 in
set_option maxHeartbeats 1600000 in
theorem refcut_any (v : Value) (l : List UInt8) (w : World) (hl : Bytes w v l) :
    Calls Tryd.prog 79 #[v] w (RefCutPost w l) := by
  obtain ⟨a, cp, rfl⟩ := hl.len
  have HL := Lib.hid hl
  clear hl
  go_enter Tryd.func79, Tryd.ntmps79
  go_wp2
  go_loopw [4, 5, 6] (fun nv pv iv wr => ∃ (k acc : Nat) (p : Int), k ≤ l.length ∧ k ≤ 10 ∧ (k ≤ 9 → acc < 128 ^ k ∧ p = ((128 ^ k : Nat) : Int)) ∧ (k = 10 → cutL 0 0 l = none) ∧ nv = .int .u64 acc ∧ pv = .int .u64 p ∧ iv = .int .i64 k ∧ cutL 0 0 l = cutL k acc (l.drop k) ∧ wr = w)
    (fun _ _ iv _ => l.length - (intOf iv).toNat)
  case atStart => exact ⟨0, 0, 1, by omega, by omega, by simp, by simp, rfl, rfl, rfl, rfl, rfl⟩
  case round =>
    obtain ⟨k, acc, p, hk, hk10, hacc, hten, rfl, rfl, rfl, heq, rfl⟩ := hrel
    by_cases hlt : k < l.length
    · by_cases h10 : k = 10
      · have hn := hten h10
        have Hn := Lib.hid hn
        clear hn heq hacc hten
        subst h10
        go_wp2
        go_ret2
        exact refcut_none Hn.out
      · obtain ⟨ha1, hp⟩ := hacc (by omega)
        clear hacc
        obtain ⟨b, off, c', hv, hbl, hc⟩ := HL.out.cell (by omega)
        obtain ⟨rfl, rfl⟩ : a = some ⟨b, off, none⟩ ∧ cp = c' := by cases hv; exact ⟨rfl, rfl⟩
        have hck := hc k hlt
        have Hc := Lib.hid hc
        clear hc hv hten
        rw [drop_at hlt] at heq
        obtain ⟨c, hcc⟩ : ∃ c, c = l.getD k 0 := ⟨_, rfl⟩
        rw [← hcc] at hck heq
        have Heq := Lib.hid heq
        clear hcc heq
        unfold B8 at hck
        have hcn := c.toNat_lt
        have hcb : (c.toNat : Int) < 256 := by omega
        have hp9 := pow9 (show k ≤ 9 by omega)
        obtain ⟨P, hP⟩ : ∃ P : Nat, P = 128 ^ k := ⟨_, rfl⟩
        rw [← hP] at hp hp9 ha1
        subst hp
        have HP := Lib.hid hP
        clear hP
        have hlt10 : (k : Int) < 10 := by omega
        by_cases h9 : k = 9
        · subst h9
          by_cases hc1 : 1 < (c.toNat : Int) % 128
          · go_wp2
            go_ret2
            exact refcut_none (Heq.out.trans (by rw [cutL, if_pos (.inr ⟨rfl, by omega⟩)]))
          · by_cases hc128 : (c.toNat : Int) < 128
            · by_cases hc0 : c.toNat = 0
              · have hz : ((c.toNat : Int) == 0) = true := by simp [hc0]
                have Hc0 := Lib.hid hc0
                clear hc0
                go_wp2
                go_ret2
                exact refcut_none (Heq.out.trans (by rw [cutL, if_neg (by omega), if_pos (by omega), if_neg (by have := Hc0.out; omega)]))
              · have hz : ((c.toNat : Int) == 0) = false := by simp; omega
                go_wp2
                go_ret2
                exact refcut_some (Heq.out.trans (by rw [cutL, if_neg (by omega), if_pos (by omega), if_pos (by omega)])) (refcut_sum9 ha1 HP.out hc128 (by omega)) (by omega)
            · go_wp2
              go_round
              case rel =>
                refine ⟨10, _, _, by omega, by omega, fun h => absurd h (by omega), fun _ => ?_, rfl, rfl, by go_num, ?_, by first | trivial | rfl⟩
                · rw [Heq.out, cutL, if_pos (.inr ⟨rfl, by omega⟩)]
                · rw [Heq.out, cutL, if_pos (.inr ⟨rfl, by omega⟩), cutL_ten]
              case measure => simp [intOf]; omega
        · have e9 : ((k : Int) == 9) = false := by simp; omega
          have hk9 : k < 9 := by omega
          by_cases hc128 : (c.toNat : Int) < 128
          · by_cases hc0 : c.toNat = 0
            · have hz : ((c.toNat : Int) == 0) = true := by simp [hc0]
              have Hc0 := Lib.hid hc0
              clear hc0
              by_cases hk0 : k = 0
              · have hk1 : ¬ (0 : Int) < k := by omega
                have Hk0 := Lib.hid hk0
                clear hk0
                go_wp2
                go_ret2
                exact refcut_some (Heq.out.trans (by rw [cutL, if_neg (by omega), if_pos (by omega), if_pos (.inl Hk0.out)])) (by rw [(refcut_sum hk9 ha1 HP.out).1, Nat.mod_eq_of_lt (by omega)]) (by omega)
              · have hk1 : (0 : Int) < k := by omega
                go_wp2
                go_ret2
                exact refcut_none (Heq.out.trans (by rw [cutL, if_neg (by omega), if_pos (by omega), if_neg (by have := Hc0.out; omega)]))
            · have hz : ((c.toNat : Int) == 0) = false := by simp; omega
              go_wp2
              all_goals
                go_ret2
                exact refcut_some (Heq.out.trans (by rw [cutL, if_neg (by omega), if_pos (by omega), if_pos (by omega)])) (by rw [(refcut_sum hk9 ha1 HP.out).1, Nat.mod_eq_of_lt (by omega)]) (by omega)
          · go_wp2
            go_round
            case rel =>
              obtain ⟨q1, q2, q3⟩ := refcut_sum (c := c.toNat) hk9 ha1 HP.out
              exact ⟨k + 1, _, _, by omega, by omega, fun _ => ⟨q3, rfl⟩, fun h => absurd h (by omega), by rw [q1], by rw [q2], by go_num, by rw [Heq.out, cutL, if_neg (by omega), if_neg (by omega)], by first | trivial | rfl⟩
            case measure => simp [intOf]; omega
    · go_wp2
      go_ret2
      exact refcut_none (heq.trans (by rw [List.drop_of_length_le (by omega), cutL]))

end Go.Proofs.YtnomekfemadpeaaDoor

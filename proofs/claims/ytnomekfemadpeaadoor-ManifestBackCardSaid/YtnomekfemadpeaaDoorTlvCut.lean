/- The walks of tlv.cut and of the reference's cut. No condition. -/
import Derived.Test.YtnomekfemadpeaaDoorTlvUint
import Derived.Deep.QuietTactic
import Derived.BigQuiet
namespace Go.Proofs.YtnomekfemadpeaaDoor
open Go.RowKit

/-- What both cuts come to at a list that has none. -/
def CutPost (w : World) (v : Value) (l : List UInt8) (e : Ending) (w' : World) : Prop :=
  ∃ (x : Int) (r : Value) (ok : Bool), e = .returned (.tuple #[.int .u64 x, r, .bool ok]) ∧ Below w.heap.size w w' ∧ ok = (cutL 0 0 l).isSome ∧
    ∀ n m, cutL 0 0 l = some (n, m) → x = (n : Int) ∧ Bytes w' r (l.drop m) ∧ r.ownBlock = v.ownBlock

theorem cut_none {w w' : World} {v r : Value} {l : List UInt8} {x : Int} (h : cutL 0 0 l = none) (hb : Below w.heap.size w w') : CutPost w v l (.returned (.tuple #[.int .u64 x, r, .bool false])) w' :=
  ⟨_, _, _, rfl, hb, by rw [h]; rfl, fun n m h' => by rw [h] at h'; cases h'⟩

theorem cut_some {w w' : World} {v r : Value} {l : List UInt8} {x : Int} {n m : Nat} (h : cutL 0 0 l = some (n, m)) (hb : Below w.heap.size w w') (hx : x = n) (hr : Bytes w' r (l.drop m)) (ho : r.ownBlock = v.ownBlock) :
    CutPost w v l (.returned (.tuple #[.int .u64 x, r, .bool true])) w' :=
  ⟨_, _, _, rfl, hb, by rw [h]; rfl, fun n' m' h' => by rw [h] at h'; cases h'; exact ⟨hx, hr, ho⟩⟩

theorem cut_fin {w w' : World} {v r : Value} {l : List UInt8} {x : Int} {k acc : Nat} {c : UInt8} {ok : Bool} (heq : cutL 0 0 l = cutL k acc (c :: l.drop (k + 1))) (h1 : ¬ (k = 10 ∨ (k = 9 ∧ 1 < c.toNat))) (h2 : c.toNat < 128)
    (hx : x = ((acc + c.toNat * 128 ^ k : Nat) : Int)) (hok : ok = decide (k = 0 ∨ 0 < c.toNat)) (hr : Bytes w r (l.drop (k + 1))) (hb : Below w.heap.size w w') (ho : r.ownBlock = v.ownBlock) :
    CutPost w v l (.returned (.tuple #[.int .u64 x, r, .bool ok])) w' := by
  rw [cutL, if_neg h1, if_pos h2] at heq
  by_cases h : k = 0 ∨ 0 < c.toNat
  · rw [if_pos h] at heq
    have : ok = true := by rw [hok]; simpa using h
    subst this
    exact cut_some heq hb hx (hr.of_new hb) ho
  · rw [if_neg h] at heq
    have : ok = false := by rw [hok]; simpa using h
    subst this
    exact cut_none heq hb

set_option maxRecDepth 100000 in
set_option maxHeartbeats 1600000 in
theorem cut_any (v : Value) (l : List UInt8) (w : World) (hl : Bytes w v l) :
    Calls Tryd.prog 94 #[v] w (CutPost w v l) := by
  obtain ⟨i0, hi, hz0, hz1, hz2⟩ := info_parts infoU8
  obtain ⟨a, cp, rfl⟩ := hl.len
  have HL := Lib.hid hl
  clear hl
  go_enter Tryd.func94, Tryd.ntmps94
  go_wp2
  go_loopw [5, 10] (fun nv iv wr => ∃ (k acc : Nat), k ≤ l.length ∧ k ≤ 10 ∧ (k ≤ 9 → acc < 128 ^ k) ∧ nv = .int .u64 acc ∧ iv = .int .i64 k ∧ cutL 0 0 l = cutL k acc (l.drop k) ∧ wr = w)
    (fun _ iv _ => l.length - (intOf iv).toNat)
  case atStart => exact ⟨0, 0, by omega, by omega, by simp, rfl, rfl, rfl, rfl⟩
  case round =>
    obtain ⟨k, acc, hk, hk10, hacc, rfl, rfl, heq, rfl⟩ := hrel
    have Hacc := Lib.hid hacc
    clear hacc
    by_cases hlt : k < l.length
    · obtain ⟨r, hrun, hr, hob⟩ := HL.out.part (P := Tryd.prog) (t := 22) Tryd.underlying22 hi hz1 (some (.int .i64 ((k : Int) + 1))) none (k + 1) l.length hlt (Nat.le_refl _) (.inr ⟨.i64, by simp⟩) (.inl ⟨rfl, rfl⟩)
      rw [List.take_of_length_le (by simp)] at hr
      have Hr := Lib.hid hr
      have Hob := Lib.hid hob
      clear hr hob
      obtain ⟨b, off, c', hv, hbl, hc⟩ := HL.out.cell (by omega)
      obtain ⟨rfl, rfl⟩ : a = some ⟨b, off, none⟩ ∧ cp = c' := by cases hv; exact ⟨rfl, rfl⟩
      have hck := hc k hlt
      have Hc := Lib.hid hc
      clear hc hv
      rw [drop_at hlt] at heq
      obtain ⟨c, hcc⟩ : ∃ c, c = l.getD k 0 := ⟨_, rfl⟩
      rw [← hcc] at hck heq
      have Heq := Lib.hid heq
      clear hcc heq
      unfold B8 at hck
      have hcn := c.toNat_lt
      have hcb : (c.toNat : Int) < 256 := by omega
      by_cases h10 : k = 10
      · subst h10
        go_wp2
        go_ret3
        exact cut_none (Heq.out.trans (by rw [cutL, if_pos (.inl rfl)])) (Below.refl _ _)
      · by_cases h9 : k = 9
        · subst h9
          have hrun9 : ∀ W : World, (Instr.slice 22 (.slice (some ⟨b, off, none⟩) l.length cp) (some (.int .i64 10)) none none).run Tryd.prog W = .ok r W := hrun
          clear hrun
          by_cases hc1 : (1 : Int) < c.toNat
          · go_wp2
            go_ret3
            exact cut_none (Heq.out.trans (by rw [cutL, if_pos (.inr ⟨rfl, by omega⟩)])) (Below.refl _ _)
          · go_wp2
            go_quiet (fail)
            go_wp2
            go_ret3
            exact cut_fin Heq.out (by omega) (by omega) (by rw [cut_sum9 acc c.toNat (by have := Hacc.out (by omega); omega) (by omega)]) (by simp) Hr.out (below_drewn _) Hob.out
        · have hkb : k < 9 := by omega
          have e10 : ((k : Int) == 10) = false := by simp; omega
          have e9 : ((k : Int) == 9) = false := by simp; omega
          have hacc := Hacc.out (by omega)
          by_cases hc128 : (c.toNat : Int) < 128
          · by_cases hk0 : k = 0
            · subst hk0
              have hrun0 : ∀ W : World, (Instr.slice 22 (.slice (some ⟨b, off, none⟩) l.length cp) (some (.int .i64 1)) none none).run Tryd.prog W = .ok r W := hrun
              have hck0 : wr.cell? ⟨b, off, none⟩ = some (.int .u8 (c.toNat : Int)) := hck
              clear hrun hck
              have Hacc' := Lib.hid hacc
              clear hacc
              go_wp2
              go_quiet (fail)
              go_wp2
              go_ret3
              exact cut_fin Heq.out (by omega) (by omega) (by rw [cut_sum0 acc c.toNat Hacc'.out (by omega)]) (by simp) Hr.out (below_drewn _) Hob.out
            · have e0 : ((k : Int) == 0) = false := by simp; omega
              have Hacc' := Lib.hid hacc
              clear hacc
              go_wp2
              go_quiet (fail)
              go_wp2
              go_ret3
              exact cut_fin Heq.out (by omega) (by omega) (by rw [cut_sum k acc c.toNat hkb Hacc'.out (by omega), Nat.mod_eq_of_lt (by omega)]) (by simp [hk0]) Hr.out (below_drewn _) Hob.out
          · have Hacc' := Lib.hid hacc
            clear hacc
            go_wp2
            go_round
            case rel =>
              refine ⟨k + 1, acc + c.toNat % 128 * 128 ^ k, by omega, by omega, fun _ => ?_, ?_, by go_num, ?_, by first | trivial | rfl⟩
              · have h1 : c.toNat % 128 * 128 ^ k ≤ 127 * 128 ^ k := Nat.mul_le_mul_right _ (by omega)
                have h2 := Hacc'.out
                rw [Nat.pow_succ]; omega
              · rw [cut_sum k acc c.toNat hkb Hacc'.out (by omega)]
              · rw [Heq.out, cutL, if_neg (by omega), if_neg (by omega)]
            case measure => simp [intOf]; omega
    · go_wp2
      go_ret3
      exact cut_none (heq.trans (by rw [List.drop_of_length_le (by omega), cutL])) (Below.refl _ _)

end Go.Proofs.YtnomekfemadpeaaDoor

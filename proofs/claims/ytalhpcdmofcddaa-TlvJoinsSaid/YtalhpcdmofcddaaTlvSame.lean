/- The walk of the reference's Same: are two lists of items one? No condition. -/
import Derived.Test.YtalhpcdmofcddaaTlvRefDec
import Derived.Test.YtalhpcdmofcddaaTlvAwake
import Derived.Deep.QuietTactic
import Derived.BigQuiet
namespace Go.Proofs.Ytalhpcdmofcddaa
open Go.RowKit
set_option linter.unusedVariables false
set_option linter.unusedSimpArgs false

set_option maxRecDepth 100000 in
set_option maxHeartbeats 1600000 in
theorem Same_any (v u : Value) (l m : List It) (w : World) (hl : Items w v l) (hm : Items w u m) :
    Calls Try.prog 27 #[v, u] w fun e w' => e = .returned (.bool (decide (l = m))) ∧ Below w.heap.size w w' := by
  have hll := hl.le
  have hml := hm.le
  obtain ⟨a, cp, rfl⟩ := hl.len
  obtain ⟨b, cq, rfl⟩ := hm.len
  by_cases hn : ¬ l.length = m.length
  · have hd : decide (l = m) = false := decide_eq_false fun e => hn (by rw [e])
    have hnb : ((l.length : Int) == (m.length : Int)) = false := beq_eq_false_iff_ne.2 (by omega)
    have HD := Lib.hid hd
    clear hd hl hm
    go_enter Try.func27, Try.ntmps27
    go_wp2
    go_ret
    rw [HD.out]
    exact ⟨rfl, Below.refl _ _⟩
  have HL := Lib.hid hl
  have HM := Lib.hid hm
  replace hn : l.length = m.length := Classical.not_not.1 hn
  have HN := Lib.hid hn
  rw [← hn]
  clear hl hm hn
  go_enter Try.func27, Try.ntmps27
  go_wp2
  go_loopw [4, 5] (fun _ iv wr => ∃ (k : Nat), k ≤ l.length ∧ iv = .int .i64 k ∧ l.take k = m.take k ∧ Below w.heap.size w wr)
    (fun _ iv _ => l.length - (intOf iv).toNat)
  case atStart => exact ⟨0, by omega, rfl, rfl, Below.refl _ _⟩
  case round =>
    obtain ⟨k, hk, rfl, heq, hb⟩ := hrel
    by_cases hlt : k < l.length
    · have hlt2 : k < m.length := by have := HN.out; omega
      obtain ⟨lb, loff, lc, hv, hbl, hc⟩ := HL.out.cell (by omega)
      obtain ⟨rfl, rfl⟩ : a = some ⟨lb, loff, none⟩ ∧ cp = lc := by cases hv; exact ⟨rfl, rfl⟩
      obtain ⟨mb, moff, mc, hv2, hbm, hc2⟩ := HM.out.cell (by have := HN.out; omega)
      obtain ⟨rfl, rfl⟩ : b = some ⟨mb, moff, none⟩ ∧ cq = mc := by cases hv2; exact ⟨rfl, rfl⟩
      obtain ⟨x1', xu, x2', hxu⟩ := hc k hlt
      obtain ⟨y1', yu, y2', hyu⟩ := hc2 k hlt2
      have x1 := (hb.cell (p := ⟨lb, loff + k * 2, none⟩) hbl).trans x1'
      have x2 := (hb.cell (p := ⟨lb, loff + k * 2 + 1, none⟩) hbl).trans x2'
      have y1 := (hb.cell (p := ⟨mb, moff + k * 2, none⟩) hbm).trans y1'
      have y2 := (hb.cell (p := ⟨mb, moff + k * 2 + 1, none⟩) hbm).trans y2'
      have ht : ∀ q : Bool, l.getD k (0, []) = m.getD k (0, []) → l.take (k + 1) = m.take (k + 1) := fun _ e => by
        rw [List.take_add_one, List.take_add_one, heq]
        simp only [List.getD_eq_getElem?_getD, List.getElem?_eq_getElem hlt, List.getElem?_eq_getElem hlt2, Option.getD_some] at e
        rw [List.getElem?_eq_getElem hlt, List.getElem?_eq_getElem hlt2, e]
      have hne : l.getD k (0, []) ≠ m.getD k (0, []) → decide (l = m) = false := fun e => decide_eq_false fun q => e (by rw [q])
      have HB := Lib.hid hb
      have HT := Lib.hid ht
      have HNE := Lib.hid hne
      generalize l.getD k (0, []) = x at *
      generalize m.getD k (0, []) = y at *
      obtain ⟨xn, xb⟩ := x
      obtain ⟨yn, yb⟩ := y
      dsimp only at *
      have hxs := fun n => ((hxu.of_new hb).of_new (below_drewn n)).str
      have hys := fun n => ((hyu.of_new hb).of_new (below_drewn n)).str
      have hk1 : (k : Int) < (l.length : Int) := by omega
      clear hlt2 hml
      clear hc hc2 hv hv2 ht hne hb x1' x2' y1' y2' heq hxu hyu
      by_cases h1 : xn = yn
      · by_cases h2 : xb = yb
        · subst h1
          subst h2
          have hq : (xb == xb) = true := by simp
          have HR := Lib.hid (HT.out true rfl)
          have hb1 : (xn == xn) = true := by simp
          go_wp2
          go_quiet (fail)
          go_wp2
          go_roundw
          case rel => exact ⟨k + 1, hlt, by go_num, HR.out, HB.out.trans (below_drewn _)⟩
          case measure => simp [intOf]; omega
        · have hq : (xb == yb) = false := beq_eq_false_iff_ne.2 h2
          have hb1 : (xn == yn) = true := by simp [h1]
          have HD := Lib.hid (HNE.out (by simp [h2]))
          clear h2
          go_wp2
          go_quiet (fail)
          go_wp2
          go_ret
          rw [HD.out]
          exact ⟨rfl, HB.out.trans (below_drewn _)⟩
      · have hb1 : (xn == yn) = false := by simp [h1]
        have HD := Lib.hid (HNE.out (by simp [h1]))
        have hd1 : decide (xn = yn) = false := by simp [h1]
        go_wp2
        go_quiet (fail)
        go_wp2
        go_ret
        rw [HD.out]
        exact ⟨rfl, HB.out.trans (below_drewn _)⟩
    · have hd : decide (l = m) = true := decide_eq_true (by
        have e := HN.out
        rw [List.take_of_length_le (by omega), List.take_of_length_le (by omega)] at heq; exact heq)
      have HD := Lib.hid hd
      clear hd heq
      have hk1 : ¬ (k : Int) < (l.length : Int) := by omega
      go_wp2
      go_ret
      rw [HD.out]
      exact ⟨rfl, hb⟩

end Go.Proofs.Ytalhpcdmofcddaa

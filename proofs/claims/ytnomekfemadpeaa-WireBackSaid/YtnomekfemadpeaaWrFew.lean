/- The walks of wire's small functions: within, has, most; of slices.Contains and slices.ContainsFunc at numbers and at members; of the document's IsId and Right of a member. No condition. -/
import Derived.Test.YtnomekfemadpeaaGb
import Derived.Laws.EntriesVeiled
namespace Go.Proofs.Ytnomekfemadpeaa
open Go.RowKit
set_option linter.unusedVariables false
set_option linter.unusedSimpArgs false
set_option maxRecDepth 100000

theorem within_any (n lo hi : Int) (w : World) : Calls Try.prog 42 #[.int .i64 n, .int .i64 lo, .int .i64 hi] w fun e w' => e = .returned (.bool (withinB n lo hi)) ∧ w = w' := by
  go_enter Try.func42, Try.ntmps42
  by_cases h1 : lo ≤ n
  · have e : withinB n lo hi = decide (n ≤ hi) := by simp [withinB, h1]
    rw [e]
    clear e
    go_wp2
    go_ret
    exact ⟨rfl, rfl⟩
  · have e : withinB n lo hi = false := by simp [withinB, h1]
    rw [e]
    clear e
    go_wp2
    go_ret
    exact ⟨rfl, rfl⟩

theorem ints_laid (w : World) (l : List Int) (e : TypeId) (hl : l.length ≤ maxLen) : Ints (w.alloc (.cells (l.map I64).toArray e)) (.slice (some ⟨w.heap.size, 0, none⟩) l.length l.length) l := by
  refine ⟨by simp, _, l.length, rfl, Nat.le_refl _, hl, (fun h => by cases h), fun _ => ⟨w.heap.size, 0, rfl, by simp, fun j hj => ?_⟩⟩
  rw [Nat.zero_add]
  simp only [World.cell?, heap_alloc_new w _]
  simp

/-- What has comes to. -/
def IntsPost (w : World) (l : List Int) (e : Ending) (w' : World) : Prop := ∃ v, e = .returned v ∧ Ints w' v l ∧ Below w.heap.size w w'
theorem intsPost_lit (w : World) (l : List Int) (n : Nat) (cs : Array Value) (e : TypeId) (hn : l.length = n) (hl : n ≤ 8) (hc : cs = (l.map I64).toArray) : IntsPost w l (.returned (.slice (some ⟨w.heap.size, 0, none⟩) n n)) (w.alloc (.cells cs e)) := by
  subst hn
  subst hc
  exact ⟨_, rfl, ints_laid w l e (by unfold maxLen; omega), (Below.refl _ _).alloc (Nat.le_refl _) _⟩
set_option maxHeartbeats 3200000 in
theorem has_any (k : Int) (w : World) : Calls Try.prog 17 #[.int .i64 k] w (IntsPost w (hasL k)) := by
  rcases kinds k with h | h | h | h | h | h | h | h | h | h | h | h
  case inr.inr.inr.inr.inr.inr.inr.inr.inr.inr.inr =>
    rw [hasL_none h]
    have t1 : (k == 1) = false := beq_eq_false_iff_ne.2 (by omega)
    have t2 : (k == 2) = false := beq_eq_false_iff_ne.2 (by omega)
    have t3 : (k == 3) = false := beq_eq_false_iff_ne.2 (by omega)
    have t4 : (k == 4) = false := beq_eq_false_iff_ne.2 (by omega)
    have t5 : (k == 5) = false := beq_eq_false_iff_ne.2 (by omega)
    have t6 : (k == 6) = false := beq_eq_false_iff_ne.2 (by omega)
    have t7 : (k == 7) = false := beq_eq_false_iff_ne.2 (by omega)
    have t8 : (k == 8) = false := beq_eq_false_iff_ne.2 (by omega)
    have t9 : (k == 9) = false := beq_eq_false_iff_ne.2 (by omega)
    have t10 : (k == 10) = false := beq_eq_false_iff_ne.2 (by omega)
    have t11 : (k == 11) = false := beq_eq_false_iff_ne.2 (by omega)
    clear h
    go_enter Try.func17, Try.ntmps17
    go_wp2
    go_ret
    exact ⟨_, rfl, Row.of_nil 1, Below.refl _ _⟩
  all_goals
    subst h
    go_enter Try.func17, Try.ntmps17
    go_wp2
    go_ret
    exact intsPost_lit w _ _ _ _ rfl (by decide) rfl

set_option maxHeartbeats 1600000 in
theorem most_any (k : Int) (w : World) : Calls Try.prog 45 #[.int .i64 k] w fun e w' => e = .returned (.int .i64 (mostL k)) ∧ w = w' := by
  by_cases h1 : k = 1
  · subst h1
    go_enter Try.func45, Try.ntmps45
    go_wp2
    go_ret
    exact ⟨rfl, rfl⟩
  by_cases h4 : k = 4
  · subst h4
    go_enter Try.func45, Try.ntmps45
    go_wp2
    go_ret
    exact ⟨rfl, rfl⟩
  by_cases h10 : k = 10
  · subst h10
    go_enter Try.func45, Try.ntmps45
    go_wp2
    go_ret
    exact ⟨rfl, rfl⟩
  have e : mostL k = 0 := by simp [mostL, h1, h4, h10]
  rw [e]
  have t1 : (k == 1) = false := beq_eq_false_iff_ne.2 h1
  have t4 : (k == 4) = false := beq_eq_false_iff_ne.2 h4
  have t10 : (k == 10) = false := beq_eq_false_iff_ne.2 h10
  clear h1 h4 h10 e
  go_enter Try.func45, Try.ntmps45
  go_wp2
  go_ret
  exact ⟨rfl, rfl⟩

theorem IsId_any (n : Int) (w : World) : Calls Try.prog 26 #[.int .i64 n] w fun e w' => e = .returned (.bool (idB n)) ∧ w = w' := by
  go_enter Try.func26, Try.ntmps26
  by_cases h1 : 1 ≤ n
  · have e : idB n = decide (n ≤ 65536) := by simp [idB, withinB, h1]
    rw [e]
    clear e
    go_wp2
    go_ret
    exact ⟨rfl, rfl⟩
  · have e : idB n = false := by simp [idB, withinB, h1]
    rw [e]
    clear e
    go_wp2
    go_ret
    exact ⟨rfl, rfl⟩

/-- An index that tells whether there is one. -/
def IdxPost (w : World) (b : Bool) (e : Ending) (w' : World) : Prop := ∃ r : Int, e = .returned (.int .i64 r) ∧ decide (0 ≤ r) = b ∧ Below w.heap.size w w'

theorem drop_int {l : List Int} {k : Nat} (h : k < l.length) : l.drop k = l.getD k 0 :: l.drop (k + 1) := by
  rw [List.drop_eq_getElem_cons h]; simp [List.getD, List.getElem?_eq_getElem h]
theorem drop_mem {l : List MemL} {k : Nat} (h : k < l.length) : l.drop k = l.getD k mem0 :: l.drop (k + 1) := by
  rw [List.drop_eq_getElem_cons h]; simp [List.getD, List.getElem?_eq_getElem h]

set_option maxHeartbeats 1600000 in
theorem Index_any (v : Value) (l : List Int) (x : Int) (w : World) (hl : Ints w v l) : Calls Try.prog 40 #[v, .int .i64 x] w (IdxPost w (decide (x ∈ l))) := by
  obtain ⟨a, c, hv⟩ := hl.len
  subst hv
  have hle := hl.le
  have HL := Lib.hid hl
  clear hl
  go_enter Try.func40, Try.ntmps40
  go_wp2
  go_loop [5, 8] (fun _ iv => ∃ k : Nat, k ≤ l.length ∧ iv = .int .i64 k ∧ (x ∈ l ↔ x ∈ l.drop k)) (fun _ iv => l.length - (intOf iv).toNat)
  case atStart => exact ⟨0, Nat.zero_le _, rfl, Iff.rfl⟩
  case round =>
    obtain ⟨k, hk, rfl, hm⟩ := hrel
    by_cases hlt : k < l.length
    · obtain ⟨b, off, c', hv, hbl, hc⟩ := HL.out.cell (by omega)
      obtain ⟨rfl, rfl⟩ : a = some ⟨b, off, none⟩ ∧ c = c' := by cases hv; exact ⟨rfl, rfl⟩
      replace hc := hc k hlt
      rw [drop_int hlt] at hm
      generalize l.getD k 0 = y at *
      have HM := Lib.hid hm
      clear hv hm
      by_cases hy : x = y
      · have t : (x == y) = true := beq_iff_eq.2 hy
        have HY := Lib.hid hy
        clear hy
        go_wp2
        go_ret
        exact ⟨(k : Int), rfl, by rw [decide_eq_true (show (0 : Int) ≤ (k : Int) by omega), decide_eq_true (HM.out.2 (by rw [HY.out]; exact List.mem_cons_self))], Below.refl _ _⟩
      · have t : (x == y) = false := beq_eq_false_iff_ne.2 hy
        have HY := Lib.hid hy
        clear hy
        go_wp2
        go_round
        case rel => exact ⟨k + 1, by omega, by go_num, HM.out.trans ⟨fun h => by rcases List.mem_cons.1 h with h | h; exact absurd h HY.out; exact h, fun h => List.mem_cons_of_mem _ h⟩⟩
        case measure => simp [intOf]; omega
    · rw [List.drop_of_length_le (by omega)] at hm
      have HM := Lib.hid hm
      clear hm
      go_wp2
      go_ret
      exact ⟨-1, rfl, by rw [decide_eq_false (by omega), decide_eq_false (fun h => by have := HM.out.1 h; simp at this)], Below.refl _ _⟩

theorem Contains_any (v : Value) (l : List Int) (x : Int) (w : World) (hl : Ints w v l) : Calls Try.prog 23 #[v, .int .i64 x] w fun e w' => e = .returned (.bool (decide (x ∈ l))) ∧ Below w.heap.size w w' := by
  obtain ⟨B, hB⟩ : ∃ B, decide (x ∈ l) = B := ⟨_, rfl⟩
  have hI := Index_any v l x w hl
  rw [hB] at hI ⊢
  clear hB
  go_enter Try.func23, Try.ntmps23
  go_wp2_with fail
  refine hI.mono ?_
  rintro e w1 ⟨r, rfl, hr, hb⟩
  have HR := Lib.hid hr
  clear hr
  go_wp2
  go_ret
  exact ⟨ret_bool HR.out, hb⟩

end Go.Proofs.Ytnomekfemadpeaa

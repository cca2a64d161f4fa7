/- The walks of wire's bare and fits, of its closures, of slices.ContainsFunc at numbers and at members, and of the document's Right of a member. No condition. -/
import Derived.Test.YtnomekfemadpeaaWrFew
namespace Go.Proofs.Ytnomekfemadpeaa
open Go.RowKit
set_option linter.unusedVariables false
set_option linter.unusedSimpArgs false
set_option maxRecDepth 100000

theorem odd_any (n : Int) (w : World) : Calls Try.prog 41 #[.int .i64 n] w fun e w' => e = .returned (.bool (!idB n)) ∧ w = w' := by
  obtain ⟨B, hB⟩ : ∃ B, idB n = B := ⟨_, rfl⟩
  have hI := within_any n 1 65536 w
  rw [show withinB n 1 65536 = idB n from rfl, hB] at hI
  rw [hB]
  clear hB
  go_enter Try.func41, Try.ntmps41
  go_wp2_with fail
  refine hI.mono ?_
  rintro e w1 ⟨rfl, rfl⟩
  go_wp2
  go_ret
  exact ⟨rfl, rfl⟩

/-- The function value oddId. -/
def oddV : Value := .func (.func 41) #[] #[]

set_option maxHeartbeats 1600000 in
theorem oddMember_any (x : MemL) (g : Nat) (w : World) (hg : w.cell? ⟨g, 0, none⟩ = some (.func (.func 41) #[] #[])) :
    Calls Try.prog 43 #[.agg #[.int .i64 x.id, .int .i64 x.inc, .int .i64 x.state, .int .i64 x.since], .pointer (some ⟨g, 0, none⟩)] w fun e w' => e = .returned (.bool (!memB0 x)) ∧ Below w.heap.size w w' := by
  have hgl := World.block_lt_of_cell? _ _ hg
  have hgl : g < w.heap.size := hgl
  have i1 := fun w' => odd_any x.id w'
  have i2 := fun w' => within_any x.inc 0 1073741824 w'
  have i3 := fun w' => within_any x.state 1 3 w'
  have he : memB0 x = (idB x.id && withinB x.inc 0 1073741824 && withinB x.state 1 3 && decide (x.since = 0)) := rfl
  rw [he]
  clear he
  have hb : Below w.heap.size w (w.alloc (.cells #[.int .i64 x.id, .int .i64 x.inc, .int .i64 x.state, .int .i64 x.since] 37)) := (Below.refl _ _).alloc (Nat.le_refl _) _
  obtain ⟨xi, xj, xs, xt⟩ := x
  dsimp only at *
  generalize idB xi = A at *
  generalize withinB xj 0 1073741824 = B at *
  generalize withinB xs 1 3 = C at *
  cases A
  · go_enter Try.func43, Try.ntmps43
    go_wp2_with (first | (go_at_call 41; refine (i1 _).mono ?_; rintro e w2 ⟨rfl, rfl⟩))
    go_ret
    exact ⟨rfl, hb⟩
  cases B
  · go_enter Try.func43, Try.ntmps43
    go_wp2_with (first | (go_at_call 41; refine (i1 _).mono ?_; rintro e w2 ⟨rfl, rfl⟩) | (go_at_call 42; refine (i2 _).mono ?_; rintro e w2 ⟨rfl, rfl⟩))
    go_ret
    exact ⟨rfl, hb⟩
  cases C
  · go_enter Try.func43, Try.ntmps43
    go_wp2_with (first | (go_at_call 41; refine (i1 _).mono ?_; rintro e w2 ⟨rfl, rfl⟩) | (go_at_call 42; with_reducible refine (i2 _).mono ?_; rintro e w2 ⟨rfl, rfl⟩) | (go_at_call 42; with_reducible refine (i3 _).mono ?_; rintro e w2 ⟨rfl, rfl⟩))
    go_ret
    exact ⟨rfl, hb⟩
  · by_cases ht : xt = 0
    · subst ht
      go_enter Try.func43, Try.ntmps43
      go_wp2_with (first | (go_at_call 41; refine (i1 _).mono ?_; rintro e w2 ⟨rfl, rfl⟩) | (go_at_call 42; with_reducible refine (i2 _).mono ?_; rintro e w2 ⟨rfl, rfl⟩) | (go_at_call 42; with_reducible refine (i3 _).mono ?_; rintro e w2 ⟨rfl, rfl⟩))
      go_ret
      exact ⟨rfl, hb⟩
    · have t : (xt != 0) = true := by simp [ht]
      rw [decide_eq_false ht]
      clear ht
      go_enter Try.func43, Try.ntmps43
      go_wp2_with (first | (go_at_call 41; refine (i1 _).mono ?_; rintro e w2 ⟨rfl, rfl⟩) | (go_at_call 42; with_reducible refine (i2 _).mono ?_; rintro e w2 ⟨rfl, rfl⟩) | (go_at_call 42; with_reducible refine (i3 _).mono ?_; rintro e w2 ⟨rfl, rfl⟩))
      go_ret
      exact ⟨rfl, hb⟩

set_option maxHeartbeats 1600000 in
theorem IndexFunc_any (v : Value) (l : List Int) (w : World) (hl : Ints w v l) : Calls Try.prog 52 #[v, .func (.func 41) #[] #[]] w (IdxPost w (!l.all idB)) := by
  obtain ⟨a, c, hv⟩ := hl.len
  subst hv
  have hle := hl.le
  have HL := Lib.hid hl
  clear hl
  go_enter Try.func52, Try.ntmps52
  go_wp2
  go_loop [5, 8] (fun _ iv => ∃ k : Nat, k ≤ l.length ∧ iv = .int .i64 k ∧ l.all idB = (l.drop k).all idB) (fun _ iv => l.length - (intOf iv).toNat)
  case atStart => exact ⟨0, Nat.zero_le _, rfl, rfl⟩
  case round =>
    obtain ⟨k, hk, rfl, hm⟩ := hrel
    by_cases hlt : k < l.length
    · obtain ⟨b, off, c', hv, hbl, hc⟩ := HL.out.cell (by omega)
      obtain ⟨rfl, rfl⟩ : a = some ⟨b, off, none⟩ ∧ c = c' := by cases hv; exact ⟨rfl, rfl⟩
      replace hc := hc k hlt
      rw [drop_int hlt, List.all_cons] at hm
      generalize l.getD k 0 = y at *
      have hO := fun w' => odd_any y w'
      generalize idB y = B at *
      have HM := Lib.hid hm
      clear hv hm
      cases B with
      | false =>
        go_wp2_with (first | (go_at_call 41; refine (hO _).mono ?_; rintro e w2 ⟨rfl, rfl⟩))
        go_ret
        exact ⟨(k : Int), rfl, by rw [decide_eq_true (show (0 : Int) ≤ (k : Int) by omega), HM.out]; rfl, Below.refl _ _⟩
      | true =>
        go_wp2_with (first | (go_at_call 41; refine (hO _).mono ?_; rintro e w2 ⟨rfl, rfl⟩))
        go_round
        case rel => exact ⟨k + 1, by omega, by go_num, by rw [HM.out]; rfl⟩
        case measure => simp [intOf]; omega
    · rw [List.drop_of_length_le (by omega)] at hm
      have HM := Lib.hid hm
      clear hm
      go_wp2
      go_ret
      exact ⟨-1, rfl, by rw [decide_eq_false (by omega), HM.out]; rfl, Below.refl _ _⟩

theorem ContainsFunc_any (v : Value) (l : List Int) (w : World) (hl : Ints w v l) : Calls Try.prog 44 #[v, .func (.func 41) #[] #[]] w fun e w' => e = .returned (.bool (!l.all idB)) ∧ Below w.heap.size w w' := by
  obtain ⟨B, hB⟩ : ∃ B, (!l.all idB) = B := ⟨_, rfl⟩
  have hI := IndexFunc_any v l w hl
  rw [hB] at hI ⊢
  clear hB
  go_enter Try.func44, Try.ntmps44
  go_wp2_with fail
  refine hI.mono ?_
  rintro e w1 ⟨r, rfl, hr, hb⟩
  have HR := Lib.hid hr
  clear hr
  go_wp2
  go_ret
  exact ⟨ret_bool HR.out, hb⟩

set_option maxHeartbeats 1600000 in
theorem IndexFuncM_any (v : Value) (l : List MemL) (g : Nat) (w : World) (hl : Mems w v l) (hg : w.cell? ⟨g, 0, none⟩ = some (.func (.func 41) #[] #[])) :
    Calls Try.prog 53 #[v, .func (.func 43) #[] #[.pointer (some ⟨g, 0, none⟩)]] w (IdxPost w (!l.all memB0)) := by
  obtain ⟨a, c, hv⟩ := hl.len
  subst hv
  have hle := hl.le
  have HL := Lib.hid hl
  have HG := Lib.hid hg
  have hgl : g < w.heap.size := World.block_lt_of_cell? _ _ hg
  clear hl hg
  go_enter Try.func53, Try.ntmps53
  go_wp2
  go_loopw [5, 8] (fun _ iv W => ∃ k : Nat, k ≤ l.length ∧ iv = .int .i64 k ∧ l.all memB0 = (l.drop k).all memB0 ∧ Below w.heap.size w W) (fun _ iv _ => l.length - (intOf iv).toNat)
  case atStart => exact ⟨0, Nat.zero_le _, rfl, rfl, Below.refl _ _⟩
  case round =>
    obtain ⟨k, hk, rfl, hm, hb⟩ := hrel
    by_cases hlt : k < l.length
    · obtain ⟨b, off, c', hv, hbl, hc⟩ := HL.out.cell (by omega)
      obtain ⟨rfl, rfl⟩ : a = some ⟨b, off, none⟩ ∧ c = c' := by cases hv; exact ⟨rfl, rfl⟩
      replace hc := (hc k hlt).of_new hb
      rw [drop_mem hlt, List.all_cons] at hm
      generalize l.getD k mem0 = y at *
      have hO := oddMember_any y g wr ((hb.cell (p := ⟨g, 0, none⟩) hgl).trans HG.out)
      generalize memB0 y = B at *
      obtain ⟨c0, c1, c2, c3⟩ := hc
      have HM := Lib.hid hm
      clear hv hm
      cases B with
      | false =>
        go_wp2_with (first | (go_at_call 43; refine hO.mono ?_; rintro e w2 ⟨rfl, hb2⟩))
        go_ret
        exact ⟨(k : Int), rfl, by rw [decide_eq_true (show (0 : Int) ≤ (k : Int) by omega), HM.out]; rfl, below_next hb hb2⟩
      | true =>
        go_wp2_with (first | (go_at_call 43; refine hO.mono ?_; rintro e w2 ⟨rfl, hb2⟩))
        go_roundw
        case rel => exact ⟨k + 1, by omega, by go_num, by rw [HM.out]; rfl, below_next hb hb2⟩
        case measure => simp [intOf]; omega
    · rw [List.drop_of_length_le (by omega)] at hm
      have HM := Lib.hid hm
      clear hm
      go_wp2
      go_ret
      exact ⟨-1, rfl, by rw [decide_eq_false (by omega), HM.out]; rfl, hb⟩

theorem ContainsFuncM_any (v : Value) (l : List MemL) (g : Nat) (w : World) (hl : Mems w v l) (hg : w.cell? ⟨g, 0, none⟩ = some (.func (.func 41) #[] #[])) :
    Calls Try.prog 46 #[v, .func (.func 43) #[] #[.pointer (some ⟨g, 0, none⟩)]] w fun e w' => e = .returned (.bool (!l.all memB0)) ∧ Below w.heap.size w w' := by
  obtain ⟨B, hB⟩ : ∃ B, (!l.all memB0) = B := ⟨_, rfl⟩
  have hI := IndexFuncM_any v l g w hl hg
  rw [hB] at hI ⊢
  clear hB
  go_enter Try.func46, Try.ntmps46
  go_wp2_with fail
  refine hI.mono ?_
  rintro e w1 ⟨r, rfl, hr, hb⟩
  have HR := Lib.hid hr
  clear hr
  go_wp2
  go_ret
  exact ⟨ret_bool HR.out, hb⟩

end Go.Proofs.Ytnomekfemadpeaa

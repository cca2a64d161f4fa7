/- The walk of tracker.New. No condition. -/
import Derived.Test.YtjmjaailmlnkjaaDoorTrVal
import Derived.Test.YtjmjaailmlnkjaaDoorKit
import Derived.Carry
namespace Go.Proofs.YtjmjaailmlnkjaaDoor
open Go.RowKit
set_option linter.unusedVariables false
set_option linter.unusedSimpArgs false
set_option maxRecDepth 100000

def within (n lo hi : Int) : Bool := decide (lo ≤ n ∧ n ≤ hi)
theorem within_any (n lo hi : Int) (w : World) : Calls Tryd.prog 8 #[.int .i64 n, .int .i64 lo, .int .i64 hi] w fun e w' => e = .returned (.bool (within n lo hi)) ∧ w' = w := by
  by_cases h1 : lo ≤ n
  · by_cases h2 : n ≤ hi
    · have e : within n lo hi = true := decide_eq_true ⟨h1, h2⟩
      rw [e]
      clear e
      go_enter Tryd.func8, Tryd.ntmps8
      go_wp2
      go_ret
      exact ⟨rfl, rfl⟩
    · have e : within n lo hi = false := decide_eq_false (fun h => h2 h.2)
      rw [e]
      clear e
      go_enter Tryd.func8, Tryd.ntmps8
      go_wp2
      go_ret
      exact ⟨rfl, rfl⟩
  · have e : within n lo hi = false := decide_eq_false (fun h => h1 h.1)
    rw [e]
    clear e
    go_enter Tryd.func8, Tryd.ntmps8
    go_wp2
    go_ret
    exact ⟨rfl, rfl⟩

def newOk (a b : Int) : Bool := within a 1 1000 && within b 1 64
theorem newOk_iff {a b : Int} : newOk a b = true ↔ (1 ≤ a ∧ a ≤ 1000) ∧ (1 ≤ b ∧ b ≤ 64) := by simp [newOk, within]
/-- What New hands back. -/
def NewPost (w : World) (a b : Int) (e : Ending) (w' : World) : Prop :=
  Below w.heap.size w w' ∧ ((newOk a b = true ∧ ∃ t mb, e = .returned (.tuple #[.pointer (some ⟨t, 0, none⟩), .int .i64 0]) ∧ TabP w' t a b mb [] ∧ w.heap.size ≤ t ∧ w.heap.size ≤ mb) ∨ (newOk a b = false ∧ e = .returned (.tuple #[.pointer none, .int .i64 1])))

theorem build_table (a b : Int) (k : Nat) (W : World) : (Instr.build 39 #[(0, .int .i64 a), (1, .int .i64 b), (2, .map (some k))]).run Tryd.prog W = .ok (.agg #[.int .i64 a, .int .i64 b, .map (some k)]) W := by kernel_rfl

set_option maxHeartbeats 800000 in
theorem New_any (a b : Int) (w : World) : Calls Tryd.prog 4 #[.int .i64 a, .int .i64 b] w (NewPost w a b) := by
  unfold NewPost
  have hb := build_table a b
  have hmm := @run_makeMap Tryd.prog
  rcases hp : within a 1 1000 with _ | _
  · have hn : newOk a b = false := by simp [newOk, hp]
    have HN := Lib.hid hn
    clear hn
    go_enter Tryd.func4, Tryd.ntmps4
    go_wp2_with (go_at_call 8; refine (within_any _ _ _ _).mono ?_; rintro e w1 ⟨rfl, rfl⟩)
    go_ret2
    exact ⟨Below.refl _ _, .inr ⟨HN.out, rfl⟩⟩
  · rcases hq : within b 1 64 with _ | _
    · have hn : newOk a b = false := by simp [newOk, hq]
      have HN := Lib.hid hn
      clear hn
      go_enter Tryd.func4, Tryd.ntmps4
      go_wp2_with (go_at_call 8; refine (within_any _ _ _ _).mono ?_; rintro e w1 ⟨rfl, rfl⟩)
      go_ret2
      exact ⟨Below.refl _ _, .inr ⟨HN.out, rfl⟩⟩
    · have hn : newOk a b = true := by simp [newOk, hp, hq]
      have HN := Lib.hid hn
      clear hn
      go_enter Tryd.func4, Tryd.ntmps4
      go_wp2_with (go_at_call 8; refine (within_any _ _ _ _).mono ?_; rintro e w1 ⟨rfl, rfl⟩)
      go_ret2
      have h1 : (w1.alloc (.map #[] 0)).heap.size = w1.heap.size + 1 := by simp
      have hB1 : Below w1.heap.size w1 (w1.alloc (.map #[] 0)) := (Below.refl _ w1).alloc (Nat.le_refl _) _
      refine ⟨hB1.alloc (by omega) _, .inl ⟨HN.out, w1.heap.size + 1, w1.heap.size, rfl, ⟨?_, ?_, (fun x hx => by cases hx), ?_⟩, Nat.le_succ _, Nat.le_refl _⟩⟩
      · have := heap_alloc_new (w1.alloc (.map #[] 0)) (.cells #[.int .i64 a, .int .i64 b, .map (some w1.heap.size)] 39 (0, 0))
        rwa [h1] at this
      · exact (mapL_made (KT := KDig) w1).of_new ((Below.refl _ _).alloc (Nat.le_refl _) _)
      · simp

theorem New_ok (a b : Int) (w : World) (h : newOk a b = true) : Calls Tryd.prog 4 #[.int .i64 a, .int .i64 b] w fun e w' => ∃ t mb, e = .returned (.tuple #[.pointer (some ⟨t, 0, none⟩), .int .i64 0]) ∧ TabP w' t a b mb [] ∧ w.heap.size ≤ t ∧ w.heap.size ≤ mb ∧ Below w.heap.size w w' :=
  (New_any a b w).mono fun e w' ⟨h1, h2⟩ => by
    rcases h2 with ⟨_, t, mb, h3, h4, h5, h6⟩ | ⟨h3, _⟩
    · exact ⟨t, mb, h3, h4, h5, h6, h1⟩
    · rw [h] at h3; cases h3
theorem New_bad (a b : Int) (w : World) (h : newOk a b = false) : Calls Tryd.prog 4 #[.int .i64 a, .int .i64 b] w fun e w' => e = .returned (.tuple #[.pointer none, .int .i64 1]) ∧ Below w.heap.size w w' :=
  (New_any a b w).mono fun e w' ⟨h1, h2⟩ => by
    rcases h2 with ⟨h3, _⟩ | ⟨_, h3⟩
    · rw [h] at h3; cases h3
    · exact ⟨h3, h1⟩

end Go.Proofs.YtjmjaailmlnkjaaDoor

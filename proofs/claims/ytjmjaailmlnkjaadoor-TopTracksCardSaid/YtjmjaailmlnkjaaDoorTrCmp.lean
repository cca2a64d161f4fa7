/- The walks of cmp.Compare, cmp.Or, and of what package tracker hands to slices to compare peers. No condition. -/
import Derived.Test.YtjmjaailmlnkjaaDoorTrVal
import Derived.Test.YtjmjaailmlnkjaaDoorInts
import Derived.Test.YtjmjaailmlnkjaaDoorKit
import Derived.Sort.Grow
namespace Go.Proofs.YtjmjaailmlnkjaaDoor
open Go.RowKit Go.Sort
set_option linter.unusedVariables false
set_option linter.unusedSimpArgs false
set_option maxRecDepth 100000

def cmpI (a b : Int) : Int := if a < b then -1 else if b < a then 1 else 0
def orL (l : List Int) : Int := (l.find? (fun x => !decide (x = 0))).getD 0
theorem orL_two (a b : Int) : orL [a, b] = if a = 0 then b else a := by
  unfold orL
  by_cases h : a = 0
  · by_cases h2 : b = 0 <;> simp [h, h2]
  · simp [h]

theorem isNaN_any (x : Int) (w : World) : Calls Tryd.prog 36 #[.int .i64 x] w fun e w' => e = .returned (.bool false) ∧ w' = w := by
  have h : ((x != x) = false) := by simp
  go_enter Tryd.func36, Tryd.ntmps36
  go_wp2
  go_ret
  exact ⟨by simp, rfl⟩

theorem CmpI_any (a b : Int) (w : World) : Calls Tryd.prog 23 #[.int .i64 a, .int .i64 b] w fun e w' => e = .returned (.int .i64 (cmpI a b)) ∧ w' = w := by
  have h3 : (a < b ∧ cmpI a b = -1) ∨ (¬ a < b ∧ b < a ∧ cmpI a b = 1) ∨ (¬ a < b ∧ ¬ b < a ∧ cmpI a b = 0) := by
    unfold cmpI
    by_cases h1 : a < b
    · simp [h1]
    · by_cases h2 : b < a <;> simp [h1, h2]
  generalize cmpI a b = r at *
  go_enter Tryd.func23, Tryd.ntmps23
  rcases h3 with ⟨h1, rfl⟩ | ⟨h1, h2, rfl⟩ | ⟨h1, h2, rfl⟩
  all_goals
    go_wp2_with (go_at_call 36; refine (isNaN_any _ _).mono ?_; rintro e w' ⟨rfl, rfl⟩)
    go_ret
    exact ⟨rfl, rfl⟩

set_option maxHeartbeats 800000 in
theorem Or_any (v : Value) (l : List Int) (w : World) (hl : Ints w v l) : Calls Tryd.prog 22 #[v] w fun e w' => e = .returned (.int .i64 (orL l)) ∧ w' = w := by
  obtain ⟨a, c, hv⟩ := hl.len
  subst hv
  have hle := hl.le
  have HL := Lib.hid hl
  clear hl
  go_enter Tryd.func22, Tryd.ntmps22
  go_wp2
  go_loopw [5, 8] (fun _ iv W => ∃ k : Nat, k ≤ l.length ∧ iv = .int .i64 (k : Int) ∧ orL l = orL (l.drop k) ∧ W = w) (fun _ iv _ => l.length - (intOf iv).toNat)
  case atStart => exact ⟨0, Nat.zero_le _, rfl, rfl, rfl⟩
  case round =>
    obtain ⟨k, hk, rfl, hm, rfl⟩ := hrel
    by_cases hlt : k < l.length
    · obtain ⟨b, off, c', hv, hb, hc⟩ := HL.out.cell (by omega)
      obtain ⟨rfl, rfl⟩ : a = some ⟨b, off, none⟩ ∧ c = c' := by cases hv; exact ⟨rfl, rfl⟩
      have hck := hc k hlt
      have hdr : l.drop k = l.getD k 0 :: l.drop (k + 1) := by rw [List.drop_eq_getElem_cons hlt]; simp [List.getD, hlt]
      rw [hdr] at hm
      obtain ⟨x, hx⟩ : ∃ x, l.getD k 0 = x := ⟨_, rfl⟩
      rw [hx] at hck hm
      have hki : (k : Int) < (l.length : Int) := by omega
      have hm2 : (x ≠ 0 → orL l = x) ∧ (x = 0 → orL l = orL (l.drop (k + 1))) := by
        rw [hm]
        refine ⟨fun h => by simp [orL, h], fun h => by simp [orL, h]⟩
      have HM := Lib.hid hm2
      clear hc hv hdr hx hm hm2
      by_cases h0 : x = 0
      · subst h0
        have t0 : ((0 : Int) != 0) = false := rfl
        go_wp2
        go_roundw
        case rel => exact ⟨k + 1, by omega, by go_num, HM.out.2 rfl, trivial⟩
        case measure => simp [intOf]; omega
      · have t0 : (x != 0) = true := by simp [h0]
        go_wp2
        go_ret
        exact ⟨ret_int (HM.out.1 h0).symm, rfl⟩
    · rw [List.drop_of_length_le (by omega)] at hm
      have HM := Lib.hid hm
      have hki : ¬ (k : Int) < (l.length : Int) := by omega
      clear hm
      go_wp2
      go_ret
      exact ⟨ret_int (HM.out.trans rfl).symm, rfl⟩

theorem below_eq {P : Program} {f : FuncId} {args : Array Value} {w : World} {v : Value} (h : Calls P f args w fun e w' => e = .returned v ∧ w' = w) : Calls P f args w fun e w' => e = .returned v ∧ Below w.heap.size w w' := h.mono fun e w' ⟨h1, h2⟩ => ⟨h1, by rw [h2]; exact Below.refl _ _⟩
/-- By their ids: what sorts peers. -/
theorem PeersCmp_any (p q : PeerL) (w : World) : Calls Tryd.prog 31 #[RPeer.V p, RPeer.V q] w fun e w' => e = .returned (.int .i64 (cmpI p.id q.id)) ∧ ∃ os, w' = grow w os := by
  have hC := fun w' => CmpI_any p.id q.id w'
  generalize cmpI p.id q.id = r at *
  have HC := Lib.hid hC
  clear hC
  rw [show RPeer.V p = .agg #[.int .i64 p.id, .int .i64 p.till, .bool p.seed] from rfl, show RPeer.V q = .agg #[.int .i64 q.id, .int .i64 q.till, .bool q.seed] from rfl]
  go_enter Tryd.func31, Tryd.ntmps31
  go_wp2_with (go_at_call 23; refine (HC.out _).mono ?_; rintro e w' ⟨rfl, rfl⟩)
  go_ret
  exact ⟨rfl, _, by rw [alloc_eq_grow, alloc_eq_grow, grow_grow]⟩

theorem two_ints (w : World) (x y : Int) (t : TypeId) : Ints (w.alloc (.cells #[.int .i64 x, .int .i64 y] t)) (.slice (some ⟨w.heap.size, 0, none⟩) 2 2) [x, y] := by
  refine ⟨rfl, some ⟨w.heap.size, 0, none⟩, 2, rfl, Nat.le_refl _, by unfold maxLen; omega, fun h => (nomatch h), fun _ => ⟨_, 0, rfl, by simp, fun j hj => ?_⟩⟩
  simp only [World.cell?, heap_alloc_new]
  simp only [List.length_cons, List.length_nil] at hj
  match j, hj with
  | 0, _ => rfl
  | 1, _ => rfl
def firstC (p q : PeerL) : Int := orL [cmpI p.till q.till, cmpI q.id p.id]
theorem firstC_goes (p q : PeerL) : decide (firstC p q < 0) = goesP p q := by
  unfold firstC goesP goesK
  rw [orL_two]
  unfold cmpI
  by_cases h1 : p.till < q.till
  · simp [h1]
  · by_cases h2 : q.till < p.till
    · have h3 : ¬ p.till = q.till := by omega
      simp [h1, h2, h3]
    · have h3 : p.till = q.till := by omega
      by_cases h4 : q.id < p.id
      · simp [h3, h4]
      · by_cases h5 : p.id < q.id <;> simp [h3, h4, h5]

set_option maxHeartbeats 1600000 in
/-- Which of two peers goes first. -/
theorem FirstCmp_any (p q : PeerL) (w : World) : Calls Tryd.prog 21 #[RPeer.V p, RPeer.V q] w fun e w' => e = .returned (.int .i64 (firstC p q)) ∧ Below w.heap.size w w' := by
  unfold firstC
  rw [show RPeer.V p = .agg (RPeer.cells p).toArray from rfl, show RPeer.V q = .agg (RPeer.cells q).toArray from rfl]
  go_enter Tryd.func21, Tryd.ntmps21
  go_upto_region 1 with (fail)
  generalize hW : (w.alloc _).alloc _ = W
  obtain ⟨h0, h1, hb, hs⟩ : RPeer.O W w.heap.size p ∧ RPeer.O W (w.heap.size + 1) q ∧ Below w.heap.size w W ∧ W.heap.size = w.heap.size + 2 := by
    subst hW
    refine ⟨(RPeer.o_new w (RPeer_ok p)).of_new ((Below.refl _ _).alloc (Nat.le_refl _) _), ?_, ((Below.refl _ w).alloc (Nat.le_refl _) _).alloc (by simp) _, by simp⟩
    have := RPeer.o_new (w.alloc (.cells (RPeer.cells p).toArray 50)) (RPeer_ok q)
    rwa [World.size_alloc] at this
  clear hW
  have p0 := RPeer_id h0
  have p1 := RPeer_till h0
  have q0 := RPeer_id h1
  have q1 := RPeer_till h1
  have HB := Lib.hid hb
  have HS := Lib.hid hs
  clear h0 h1 hb hs
  have p0' := fun w' (h : Grew W w') => Grew.cell h p0
  have p1' := fun w' (h : Grew W w') => Grew.cell h p1
  have q0' := fun w' (h : Grew W w') => Grew.cell h q0
  have q1' := fun w' (h : Grew W w') => Grew.cell h q1
  refine wp_region_grew_tail 10 (by kernel_rfl) (by kernel_rfl) ?_
  simp only [List.take_succ_cons, List.take_zero, List.drop_succ_cons, List.drop_zero]
  repeat (first
    | (go_big_quiet_want; (with_reducible apply quiet_load_at (ty := 29) (x := .tmp _)); rfl; rfl; assumption; go_simp; go_big_quiet_on)
    | (go_big_quiet_want; apply quiet_val; (intro w' hw'; go_simp; first | done | rfl); go_simp; go_big_quiet_on)
    | (go_big_quiet_want; apply quiet_call (f := 23); (intro w' hw'; go_simp; first | done | rfl); (intro w' hw'; exact Grew.call hw' (below_eq (CmpI_any _ _ w'))); go_simp; go_big_quiet_on)
    | (go_big_quiet_skip))
  refine wpQuiet_nil ?_
  intro w9 hw9
  have HB9 := Lib.hid (below_next HB.out hw9)
  clear p0 p1 q0 q1 p0' p1' q0' q1' hw9
  go_wp2_with (first | (go_at_call 22; refine (Or_any _ [cmpI p.till q.till, cmpI q.id p.id] _ (two_ints w9 _ _ _)).mono ?_; rintro e w' ⟨rfl, rfl⟩))
  go_ret
  exact ⟨rfl, HB9.out.alloc (by have := HB9.out.size; omega) _⟩

end Go.Proofs.YtjmjaailmlnkjaaDoor

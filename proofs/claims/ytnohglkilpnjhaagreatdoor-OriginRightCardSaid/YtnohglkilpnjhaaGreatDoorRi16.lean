/- Texts of this claim, one behind the other: each begins with a comment that says what it proves and asks. -/
import Derived.Test.YtnohglkilpnjhaaGreatDoorRi15
import Derived.Deep.DeepCutAuto
import Derived.Deep.Cut
import Derived.Deep.QuietTactic
import Derived.BigQuiet
import Derived.Deep.RegionHeld3
import Derived.Deep.AppendLies
/- The walks of wire's bare and fits, of its closures, of slices.ContainsFunc at numbers and at members, and of the document's Right of a member. No condition. -/
namespace Go.Proofs.YtnohglkilpnjhaaGreatDoor
open Go.RowKit
set_option linter.unusedVariables false
set_option linter.unusedSimpArgs false
set_option maxRecDepth 100000

theorem odd_any (n : Int) (w : World) : Calls Tryz.prog 127 #[.int .i64 n] w fun e w' => e = .returned (.bool (!idB n)) ∧ w = w' := by
  obtain ⟨B, hB⟩ : ∃ B, idB n = B := ⟨_, rfl⟩
  have hI := wwithin_any n 1 65536 w
  rw [show withinB n 1 65536 = idB n from rfl, hB] at hI
  rw [hB]
  clear hB
  go_enter Tryz.func127, Tryz.ntmps127
  go_wp2_with fail
  refine hI.mono ?_
  rintro e w1 ⟨rfl, rfl⟩
  go_wp2
  go_ret
  exact ⟨rfl, rfl⟩

set_option maxHeartbeats 1600000 in
theorem oddMember_any (x : MemL) (g : Nat) (w : World) (hg : w.cell? ⟨g, 0, none⟩ = some (.func (.func 127) #[] #[])) :
    Calls Tryz.prog 129 #[.agg #[.int .i64 x.id, .int .i64 x.inc, .int .i64 x.state, .int .i64 x.since], .pointer (some ⟨g, 0, none⟩)] w fun e w' => e = .returned (.bool (!memB0 x)) ∧ Below w.heap.size w w' := by
  have hgl := World.block_lt_of_cell? _ _ hg
  have hgl : g < w.heap.size := hgl
  have i1 := fun w' => odd_any x.id w'
  have i2 := fun w' => wwithin_any x.inc 0 1073741824 w'
  have i3 := fun w' => wwithin_any x.state 1 3 w'
  have he : memB0 x = (idB x.id && withinB x.inc 0 1073741824 && withinB x.state 1 3 && decide (x.since = 0)) := rfl
  rw [he]
  clear he
  have hb : Below w.heap.size w (w.alloc (.cells #[.int .i64 x.id, .int .i64 x.inc, .int .i64 x.state, .int .i64 x.since] 113)) := (Below.refl _ _).alloc (Nat.le_refl _) _
  obtain ⟨xi, xj, xs, xt⟩ := x
  dsimp only at *
  generalize idB xi = A at *
  generalize withinB xj 0 1073741824 = B at *
  generalize withinB xs 1 3 = C at *
  cases A
  · go_enter Tryz.func129, Tryz.ntmps129
    go_wp2_with (first | (go_at_call 127; refine (i1 _).mono ?_; rintro e w2 ⟨rfl, rfl⟩))
    go_ret
    exact ⟨rfl, hb⟩
  cases B
  · go_enter Tryz.func129, Tryz.ntmps129
    go_wp2_with (first | (go_at_call 127; refine (i1 _).mono ?_; rintro e w2 ⟨rfl, rfl⟩) | (go_at_call 128; refine (i2 _).mono ?_; rintro e w2 ⟨rfl, rfl⟩))
    go_ret
    exact ⟨rfl, hb⟩
  cases C
  · go_enter Tryz.func129, Tryz.ntmps129
    go_wp2_with (first | (go_at_call 127; refine (i1 _).mono ?_; rintro e w2 ⟨rfl, rfl⟩) | (go_at_call 128; with_reducible refine (i2 _).mono ?_; rintro e w2 ⟨rfl, rfl⟩) | (go_at_call 128; with_reducible refine (i3 _).mono ?_; rintro e w2 ⟨rfl, rfl⟩))
    go_ret
    exact ⟨rfl, hb⟩
  · by_cases ht : xt = 0
    · subst ht
      go_enter Tryz.func129, Tryz.ntmps129
      go_wp2_with (first | (go_at_call 127; refine (i1 _).mono ?_; rintro e w2 ⟨rfl, rfl⟩) | (go_at_call 128; with_reducible refine (i2 _).mono ?_; rintro e w2 ⟨rfl, rfl⟩) | (go_at_call 128; with_reducible refine (i3 _).mono ?_; rintro e w2 ⟨rfl, rfl⟩))
      go_ret
      exact ⟨rfl, hb⟩
    · have t : (xt != 0) = true := by simp [ht]
      rw [decide_eq_false ht]
      clear ht
      go_enter Tryz.func129, Tryz.ntmps129
      go_wp2_with (first | (go_at_call 127; refine (i1 _).mono ?_; rintro e w2 ⟨rfl, rfl⟩) | (go_at_call 128; with_reducible refine (i2 _).mono ?_; rintro e w2 ⟨rfl, rfl⟩) | (go_at_call 128; with_reducible refine (i3 _).mono ?_; rintro e w2 ⟨rfl, rfl⟩))
      go_ret
      exact ⟨rfl, hb⟩

set_option maxHeartbeats 1600000 in
theorem IndexFunc_any (v : Value) (l : List Int) (w : World) (hl : Ints w v l) : Calls Tryz.prog 166 #[v, .func (.func 127) #[] #[]] w (IdxPost w (!l.all idB)) := by
  obtain ⟨a, c, hv⟩ := hl.len
  subst hv
  have hle := hl.le
  have HL := Lib.hid hl
  clear hl
  go_enter Tryz.func166, Tryz.ntmps166
  go_wp2
  go_loop [5, 8] (fun _ iv => ∃ k : Nat, k ≤ l.length ∧ iv = .int .i64 k ∧ l.all idB = (l.drop k).all idB) (fun _ iv => l.length - (intOf iv).toNat)
  case atStart => exact ⟨0, Nat.zero_le _, rfl, rfl⟩
  case round =>
    obtain ⟨k, hk, rfl, hm⟩ := hrel
    by_cases hlt : k < l.length
    · obtain ⟨b, off, c', hv, hbl, hc⟩ := HL.out.cell (by omega)
      obtain ⟨rfl, rfl⟩ : a = some ⟨b, off, none⟩ ∧ c = c' := by cases hv; exact ⟨rfl, rfl⟩
      replace hc := hc k hlt
      rw [drop_int hlt, List.all_cons] at hm
      generalize l.getD k 0 = y at *
      have hO := fun w' => odd_any y w'
      generalize idB y = B at *
      have HM := Lib.hid hm
      clear hv hm
      cases B with
      | false =>
        go_wp2_with (first | (go_at_call 127; refine (hO _).mono ?_; rintro e w2 ⟨rfl, rfl⟩))
        go_ret
        exact ⟨(k : Int), rfl, by rw [decide_eq_true (show (0 : Int) ≤ (k : Int) by omega), HM.out]; rfl, Below.refl _ _⟩
      | true =>
        go_wp2_with (first | (go_at_call 127; refine (hO _).mono ?_; rintro e w2 ⟨rfl, rfl⟩))
        go_round
        case rel => exact ⟨k + 1, by omega, by go_num, by rw [HM.out]; rfl⟩
        case measure => simp [intOf]; omega
    · rw [List.drop_of_length_le (by omega)] at hm
      have HM := Lib.hid hm
      clear hm
      go_wp2
      go_ret
      exact ⟨-1, rfl, by rw [decide_eq_false (by omega), HM.out]; rfl, Below.refl _ _⟩

theorem ContainsFunc_any (v : Value) (l : List Int) (w : World) (hl : Ints w v l) : Calls Tryz.prog 130 #[v, .func (.func 127) #[] #[]] w fun e w' => e = .returned (.bool (!l.all idB)) ∧ Below w.heap.size w w' := by
  obtain ⟨B, hB⟩ : ∃ B, (!l.all idB) = B := ⟨_, rfl⟩
  have hI := IndexFunc_any v l w hl
  rw [hB] at hI ⊢
  clear hB
  go_enter Tryz.func130, Tryz.ntmps130
  go_wp2_with fail
  refine hI.mono ?_
  rintro e w1 ⟨r, rfl, hr, hb⟩
  have HR := Lib.hid hr
  clear hr
  go_wp2
  go_ret
  exact ⟨ret_bool HR.out, hb⟩

set_option maxHeartbeats 1600000 in
theorem IndexFuncM_any (v : Value) (l : List MemL) (g : Nat) (w : World) (hl : Mems w v l) (hg : w.cell? ⟨g, 0, none⟩ = some (.func (.func 127) #[] #[])) :
    Calls Tryz.prog 167 #[v, .func (.func 129) #[] #[.pointer (some ⟨g, 0, none⟩)]] w (IdxPost w (!l.all memB0)) := by
  obtain ⟨a, c, hv⟩ := hl.len
  subst hv
  have hle := hl.le
  have HL := Lib.hid hl
  have HG := Lib.hid hg
  have hgl : g < w.heap.size := World.block_lt_of_cell? _ _ hg
  clear hl hg
  go_enter Tryz.func167, Tryz.ntmps167
  go_wp2
  go_loopw [5, 8] (fun _ iv W => ∃ k : Nat, k ≤ l.length ∧ iv = .int .i64 k ∧ l.all memB0 = (l.drop k).all memB0 ∧ Below w.heap.size w W) (fun _ iv _ => l.length - (intOf iv).toNat)
  case atStart => exact ⟨0, Nat.zero_le _, rfl, rfl, Below.refl _ _⟩
  case round =>
    obtain ⟨k, hk, rfl, hm, hb⟩ := hrel
    by_cases hlt : k < l.length
    · obtain ⟨b, off, c', hv, hbl, hc⟩ := HL.out.cell (by omega)
      obtain ⟨rfl, rfl⟩ : a = some ⟨b, off, none⟩ ∧ c = c' := by cases hv; exact ⟨rfl, rfl⟩
      replace hc := (hc k hlt).of_new hb
      rw [drop_mem hlt, List.all_cons] at hm
      generalize l.getD k mem0 = y at *
      have hO := oddMember_any y g wr ((hb.cell (p := ⟨g, 0, none⟩) hgl).trans HG.out)
      generalize memB0 y = B at *
      obtain ⟨c0, c1, c2, c3⟩ := hc
      have HM := Lib.hid hm
      clear hv hm
      cases B with
      | false =>
        go_wp2_with (first | (go_at_call 129; refine hO.mono ?_; rintro e w2 ⟨rfl, hb2⟩))
        go_ret
        exact ⟨(k : Int), rfl, by rw [decide_eq_true (show (0 : Int) ≤ (k : Int) by omega), HM.out]; rfl, below_next hb hb2⟩
      | true =>
        go_wp2_with (first | (go_at_call 129; refine hO.mono ?_; rintro e w2 ⟨rfl, hb2⟩))
        go_roundw
        case rel => exact ⟨k + 1, by omega, by go_num, by rw [HM.out]; rfl, below_next hb hb2⟩
        case measure => simp [intOf]; omega
    · rw [List.drop_of_length_le (by omega)] at hm
      have HM := Lib.hid hm
      clear hm
      go_wp2
      go_ret
      exact ⟨-1, rfl, by rw [decide_eq_false (by omega), HM.out]; rfl, hb⟩

theorem ContainsFuncM_any (v : Value) (l : List MemL) (g : Nat) (w : World) (hl : Mems w v l) (hg : w.cell? ⟨g, 0, none⟩ = some (.func (.func 127) #[] #[])) :
    Calls Tryz.prog 132 #[v, .func (.func 129) #[] #[.pointer (some ⟨g, 0, none⟩)]] w fun e w' => e = .returned (.bool (!l.all memB0)) ∧ Below w.heap.size w w' := by
  obtain ⟨B, hB⟩ : ∃ B, (!l.all memB0) = B := ⟨_, rfl⟩
  have hI := IndexFuncM_any v l g w hl hg
  rw [hB] at hI ⊢
  clear hB
  go_enter Tryz.func132, Tryz.ntmps132
  go_wp2_with fail
  refine hI.mono ?_
  rintro e w1 ⟨r, rfl, hr, hb⟩
  have HR := Lib.hid hr
  clear hr
  go_wp2
  go_ret
  exact ⟨ret_bool HR.out, hb⟩

end Go.Proofs.YtnohglkilpnjhaaGreatDoor

/- The walks of wire's bare and fits: whether a message has nothing of an item, whether what it has may be; of the document's Right of a member. No condition. -/
namespace Go.Proofs.YtnohglkilpnjhaaGreatDoor
open Go.RowKit
set_option linter.unusedVariables false
set_option linter.unusedSimpArgs false
set_option maxRecDepth 100000

/-- A message boxed at a call's head. -/
theorem msg_boxed (w : World) {m : MsgL} {s : MsgS} (h : m.hash.length = 32) : ∃ W, w.alloc (.cells (msgCells m s).toArray 37) = W ∧ MsgO W w.heap.size m s ∧ Below w.heap.size w W :=
  ⟨_, rfl, msg_alloc w h, (Below.refl _ w).alloc (Nat.le_refl _) _⟩
theorem eqz (n : Nat) : ((n : Int) == 0) = decide (n = 0) := by
  rw [Bool.eq_iff_iff]; simp

set_option maxHeartbeats 3200000 in
theorem bare_any (m : MsgL) (s : MsgS) (i : Int) (w : World) (hm : MsgR w m s) (h1 : 1 ≤ i) (h2 : i ≤ 8) :
    Calls Tryz.prog 81 #[MsgV m s, .int .i64 i] w fun e w' => e = .returned (.bool (bareB m i)) ∧ Below w.heap.size w w' := by
  obtain ⟨W, hW, ho, hb⟩ := msg_boxed w (s := s) hm.hash
  rw [show MsgV m s = .agg (msgCells m s).toArray from rfl]
  obtain ⟨ai, ci, hi⟩ := hm.ids.len
  obtain ⟨ab, cb, hby⟩ := hm.bytes.len
  obtain ⟨ap, cp, hp⟩ := hm.proof.len
  obtain ⟨am, cm, hme⟩ := hm.members.len
  have e2 := ho.hash
  have e3 := ho.piece
  have e4 := ho.ids
  have e5 := ho.bytes
  have e6 := ho.proof
  have e7 := ho.members
  have e8 := ho.seed
  rw [hi] at e4
  rw [hby] at e5
  rw [hp] at e6
  rw [hme] at e7
  have h32 := hm.hash
  have hgd := guard_dig
  have heq := run_eql_dig m.hash zero32 h32 rfl
  rw [show (List.map B8 zero32).toArray = #[.int .u8 0, .int .u8 0, .int .u8 0, .int .u8 0, .int .u8 0, .int .u8 0, .int .u8 0, .int .u8 0, .int .u8 0, .int .u8 0, .int .u8 0, .int .u8 0, .int .u8 0, .int .u8 0, .int .u8 0, .int .u8 0, .int .u8 0, .int .u8 0, .int .u8 0, .int .u8 0, .int .u8 0, .int .u8 0, .int .u8 0, .int .u8 0, .int .u8 0, .int .u8 0, .int .u8 0, .int .u8 0, .int .u8 0, .int .u8 0, .int .u8 0, .int .u8 0] from rfl] at heq
  have HW := Lib.hid hW
  clear hW hm hi hby hp hme h32 ho
  rcases (show i = 1 ∨ i = 2 ∨ i = 3 ∨ i = 4 ∨ i = 5 ∨ i = 6 ∨ i = 7 ∨ i = 8 by omega) with rfl | rfl | rfl | rfl | rfl | rfl | rfl | rfl
  · clear e2 e3 e4 e5 e6 e7 e8 heq
    go_enter Tryz.func81, Tryz.ntmps81
    go_wp2
    go_ret
    rw [HW.out]
    exact ⟨rfl, hb⟩
  · clear e3 e4 e5 e6 e7 e8
    rw [show bareB m 2 = decide (m.hash = zero32) from rfl]
    generalize decide (m.hash = zero32) = z at *
    generalize m.hash = h at *
    go_enter Tryz.func81, Tryz.ntmps81
    go_upto_region 5 with (fail)
    rw [HW.out]
    go_wp2_with (first | ((with_reducible apply wpList_load_at (ty := 31) (x := .tmp _)); rfl; rfl; rfl; assumption))
    go_ret
    exact ⟨rfl, hb⟩
  · clear e2 e4 e5 e6 e7 e8 heq
    rw [show bareB m 3 = decide (m.piece = 0) from rfl]
    have hd : decide (m.piece = 0) = (m.piece == 0) := rfl
    rw [hd]
    generalize m.piece = n at *
    clear hd
    go_enter Tryz.func81, Tryz.ntmps81
    go_upto_region 7 with (fail)
    rw [HW.out]
    go_wp2
    go_ret
    exact ⟨rfl, hb⟩
  · clear e2 e3 e5 e6 e7 e8 heq
    rw [show bareB m 4 = decide (m.ids.length = 0) from rfl, ← eqz]
    generalize m.ids.length = n at *
    go_enter Tryz.func81, Tryz.ntmps81
    go_upto_region 9 with (fail)
    rw [HW.out]
    go_wp2
    go_ret
    exact ⟨rfl, hb⟩
  · clear e2 e3 e4 e6 e7 e8 heq
    rw [show bareB m 5 = decide (m.bytes.length = 0) from rfl, ← eqz]
    generalize m.bytes.length = n at *
    go_enter Tryz.func81, Tryz.ntmps81
    go_upto_region 11 with (fail)
    rw [HW.out]
    go_wp2
    go_ret
    exact ⟨rfl, hb⟩
  · clear e2 e3 e4 e5 e7 e8 heq
    rw [show bareB m 6 = decide (m.proof.length = 0) from rfl, ← eqz]
    generalize m.proof.length = n at *
    go_enter Tryz.func81, Tryz.ntmps81
    go_upto_region 13 with (fail)
    rw [HW.out]
    go_wp2
    go_ret
    exact ⟨rfl, hb⟩
  · clear e2 e3 e4 e5 e6 e8 heq
    rw [show bareB m 7 = decide (m.members.length = 0) from rfl, ← eqz]
    generalize m.members.length = n at *
    go_enter Tryz.func81, Tryz.ntmps81
    go_upto_region 15 with (fail)
    rw [HW.out]
    go_wp2
    go_ret
    exact ⟨rfl, hb⟩
  · clear e2 e3 e4 e5 e6 e7 heq
    rw [show bareB m 8 = !m.seed from rfl]
    generalize m.seed = n at *
    go_enter Tryz.func81, Tryz.ntmps81
    go_upto_region 16 with (fail)
    rw [HW.out]
    go_wp2
    go_ret
    exact ⟨rfl, hb⟩

set_option maxHeartbeats 3200000 in
theorem fits_any (m : MsgL) (s : MsgS) (i : Int) (w : World) (hm : MsgR w m s) (h1 : 1 ≤ i) (h2 : i ≤ 8) :
    Calls Tryz.prog 80 #[MsgV m s, .int .i64 i] w fun e w' => e = .returned (.bool (fitsB m i)) ∧ Below w.heap.size w w' := by
  obtain ⟨W, hW, ho, hb⟩ := msg_boxed w (s := s) hm.hash
  rw [show MsgV m s = .agg (msgCells m s).toArray from rfl]
  have hmW := hm.of_new hb
  have hi := hmW.ids
  have hme := hmW.members
  obtain ⟨ai, ci, hvi⟩ := hi.len
  obtain ⟨ab, cb, hvb⟩ := hm.bytes.len
  obtain ⟨ap, cp, hvp⟩ := hm.proof.len
  obtain ⟨am, cm, hvm⟩ := hme.len
  have e0 := ho.kind
  have e3 := ho.piece
  have e4 := ho.ids
  have e5 := ho.bytes
  have e6 := ho.proof
  have e7 := ho.members
  have hls := ho.lt
  rw [hvi] at e4 hi
  rw [hvb] at e5
  rw [hvp] at e6
  rw [hvm] at e7 hme
  have HW := Lib.hid hW
  have HI := Lib.hid hi
  have HM := Lib.hid hme
  clear hW hm hmW hvi hvb hvp hvm ho hi hme
  have hbF : Below w.heap.size w (W.alloc (.cells #[.func (.func 127) #[] #[]] 130)) := hb.alloc hb.size _
  have hbG : Below W.heap.size W (W.alloc (.cells #[.func (.func 127) #[] #[]] 130)) := (Below.refl _ _).alloc (Nat.le_refl _) _
  rcases (show i = 3 ∨ i = 4 ∨ i = 5 ∨ i = 6 ∨ i = 7 ∨ (i = 1 ∨ i = 2 ∨ i = 8) by omega) with rfl | rfl | rfl | rfl | rfl | h8
  · rw [show fitsB m 3 = withinB m.piece 0 1023 from rfl]
    have hI := fun w' => wwithin_any m.piece 0 1023 w'
    generalize withinB m.piece 0 1023 = B at *
    clear e0 e4 e5 e6 e7
    generalize m.piece = n at *
    go_enter Tryz.func80, Tryz.ntmps80
    go_upto_region 1 with (fail)
    rw [HW.out]
    go_wp2_with (first | (go_at_call 128; refine (hI _).mono ?_; rintro e w2 ⟨rfl, rfl⟩))
    go_ret
    exact ⟨rfl, hbF⟩
  · rw [show fitsB m 4 = (decide (m.ids.length ≤ 64) && m.ids.all idB) from rfl]
    have hC := fun w' (h : Below W.heap.size W w') => ContainsFunc_any _ m.ids w' (HI.out.of_new h)
    generalize m.ids.all idB = B at *
    generalize m.ids.length = n at *
    clear e0 e3 e5 e6 e7
    by_cases hn : n ≤ 64
    · rw [decide_eq_true hn]
      have t : (n : Int) ≤ 64 := by omega
      go_enter Tryz.func80, Tryz.ntmps80
      go_upto_region 1 with (fail)
      rw [HW.out]
      go_wp2_with (first | (go_at_call 130; refine (hC _ hbG).mono ?_; rintro e w2 ⟨rfl, hb2⟩))
      go_ret
      exact ⟨ret_bool (by simp), below_next hbF hb2⟩
    · rw [decide_eq_false hn]
      have t : ¬ (n : Int) ≤ 64 := by omega
      clear hC
      go_enter Tryz.func80, Tryz.ntmps80
      go_upto_region 1 with (fail)
      rw [HW.out]
      go_wp2
      go_ret
      exact ⟨rfl, hbF⟩
  · rw [show fitsB m 5 = withinB m.bytes.length 1 (mostL m.kind) from rfl]
    have hI := fun w' => wwithin_any m.bytes.length 1 (mostL m.kind) w'
    have hM := fun w' => most_any m.kind w'
    generalize withinB m.bytes.length 1 (mostL m.kind) = B at *
    generalize mostL m.kind = q at *
    generalize m.bytes.length = n at *
    generalize m.kind = k at *
    clear e3 e4 e6 e7
    go_enter Tryz.func80, Tryz.ntmps80
    go_upto_region 1 with (fail)
    rw [HW.out]
    go_upto_region 9 with (fail)
    generalize hWF : W.alloc _ = WF at *
    have f0 : ∀ w', Grew WF w' → w'.cell? ⟨w.heap.size, 0, none⟩ = some (.int .i64 k) := fun w' hw' => hw'.cell ((hbG.cell (p := ⟨w.heap.size, 0, none⟩) hls).trans e0)
    have f5 : ∀ w', Grew WF w' → w'.cell? ⟨w.heap.size, 35, none⟩ = some (.slice ab n cb) := fun w' hw' => hw'.cell ((hbG.cell (p := ⟨w.heap.size, 35, none⟩) hls).trans e5)
    clear e0 e5 hWF
    refine wp_region_grew (by kernel_rfl) (by kernel_rfl) ?_
    repeat (first
      | (go_big_quiet_want; apply quiet_call (f := 128); (intro w' hw'; go_simp; first | done | rfl); (intro w' hw'; exact Grew.same hw' (hI w')); go_simp; go_big_quiet_on)
      | (go_big_quiet_want; apply quiet_call (f := 131); (intro w' hw'; go_simp; first | done | rfl); (intro w' hw'; exact Grew.same hw' (hM w')); go_simp; go_big_quiet_on)
      | (go_big_quiet_want; (with_reducible apply quiet_load_at (ty := 31) (x := .tmp _)); rfl; rfl; assumption; go_simp; go_big_quiet_on)
      | (go_big_quiet_want; apply quiet_val; (intro w' hw'; go_simp; first | done | rfl); go_simp; go_big_quiet_on)
      | (go_big_quiet_skip))
    refine wpQuiet_nil ?_
    intro w9 hw9
    go_wp2
    go_ret
    exact ⟨rfl, below_next hbF hw9⟩
  · rw [show fitsB m 6 = decide (m.proof.length ≤ 10) from rfl]
    generalize m.proof.length = n at *
    have hd : decide (n ≤ 10) = decide ((n : Int) ≤ 10) := by rw [Bool.eq_iff_iff]; simp; omega
    rw [hd]
    clear e0 e3 e4 e5 e7 hd
    go_enter Tryz.func80, Tryz.ntmps80
    go_upto_region 1 with (fail)
    rw [HW.out]
    go_wp2
    go_ret
    exact ⟨rfl, hbF⟩
  · rw [show fitsB m 7 = (withinB m.members.length 1 65 && m.members.all memB0) from rfl]
    have hI := fun w' => wwithin_any m.members.length 1 65 w'
    have hC := fun w' (h : Below W.heap.size W w') g hg => ContainsFuncM_any _ m.members g w' (HM.out.of_new h) hg
    generalize m.members.all memB0 = B at *
    generalize withinB m.members.length 1 65 = A at *
    generalize m.members.length = n at *
    clear e0 e3 e4 e5 e6
    cases A
    · clear hC
      go_enter Tryz.func80, Tryz.ntmps80
      go_upto_region 1 with (fail)
      rw [HW.out]
      go_wp2_with (first | (go_at_call 128; refine (hI _).mono ?_; rintro e w2 ⟨rfl, rfl⟩))
      go_ret
      exact ⟨rfl, hbF⟩
    · go_enter Tryz.func80, Tryz.ntmps80
      go_upto_region 1 with (fail)
      rw [HW.out]
      go_wp2_with (first | (go_at_call 128; refine (hI _).mono ?_; rintro e w2 ⟨rfl, rfl⟩) | (go_at_call 132; refine (hC _ hbG W.heap.size (by go_simp)).mono ?_; rintro e w3 ⟨rfl, hb3⟩))
      go_ret
      exact ⟨ret_bool (by simp), below_next hbF hb3⟩
  · have e : fitsB m i = true := by unfold fitsB; rcases h8 with rfl | rfl | rfl <;> rfl
    rw [e]
    clear e0 e3 e4 e5 e6 e7 e
    rcases h8 with rfl | rfl | rfl
    all_goals
      go_enter Tryz.func80, Tryz.ntmps80
      go_upto_region 1 with (fail)
      rw [HW.out]
      go_wp2
      go_ret
      exact ⟨rfl, hbF⟩

end Go.Proofs.YtnohglkilpnjhaaGreatDoor

/- The walk of wire.Right: whether a message may be. No condition. -/
namespace Go.Proofs.YtnohglkilpnjhaaGreatDoor
open Go.RowKit
set_option linter.unusedVariables false
set_option linter.unusedSimpArgs false
set_option maxRecDepth 100000

theorem rightF_step (m : MsgL) {k : Nat} (h1 : k ≤ 8) : rightF m (9 - k) k = (itemB m k && rightF m (9 - (k + 1)) ((k + 1 : Nat) : Int)) := by
  rw [show 9 - k = (9 - (k + 1)) + 1 by omega, rightF]
  simp
theorem rightF_end (m : MsgL) (k : Int) : rightF m (9 - 9) k = true := rfl
theorem wrightB_from (m : MsgL) : wrightB m = rightF m (9 - 1) ((1 : Nat) : Int) := rfl

set_option maxHeartbeats 3200000 in
theorem WRight_any (m : MsgL) (s : MsgS) (w : World) (hm : MsgR w m s) :
    Calls Tryz.prog 38 #[MsgV m s] w fun e w' => e = .returned (.bool (wrightB m)) ∧ Below w.heap.size w w' := by
  obtain ⟨W, hW, ho, hb⟩ := msg_boxed w (s := s) hm.hash
  obtain ⟨V, hV⟩ : ∃ V, MsgV m s = V := ⟨_, rfl⟩
  have hH := has_any m.kind W
  have e0 := ho.kind
  have hls := ho.lt
  have HM := Lib.hid hm
  have HO := Lib.hid ho
  have HW := Lib.hid hW
  obtain ⟨B, hB⟩ : ∃ B, wrightB m = B := ⟨_, rfl⟩
  rw [hB]
  have HB := Lib.hid (hB.symm.trans (wrightB_from m))
  rw [show MsgV m s = .agg (msgCells m s).toArray from rfl] at hV ⊢
  clear hW hm ho hB hV
  go_enter Tryz.func38, Tryz.ntmps38
  go_upto_region 1 with (fail)
  rw [HW.out]
  go_wp2_with (first | (go_at_call 78; refine hH.mono ?_; rintro e w2 ⟨v2, rfl, hv2, hb2⟩; obtain ⟨a2, c2, hv⟩ := hv2.len; subst hv; have HV := Lib.hid hv2; have HO2 := Lib.hid (HO.out.of_new hb2); have hbA := below_next hb hb2; clear hv2 hb2))
  go_loopw [4, 5] (fun iv _ W' => ∃ k : Nat, 1 ≤ k ∧ k ≤ 9 ∧ iv = .int .i64 k ∧ B = rightF m (9 - k) k ∧ Below w2.heap.size w2 W') (fun iv _ _ => 9 - (intOf iv).toNat)
  case atStart => exact ⟨1, by omega, by omega, rfl, HB.out, Below.refl _ _⟩
  case round =>
    obtain ⟨k, hk1, hk9, rfl, hm, hbk⟩ := hrel
    by_cases hlt : k ≤ 8
    · rw [rightF_step m hlt] at hm
      have hbw := below_next hbA hbk
      have HOk := Lib.hid (HO2.out.of_new hbk)
      have hC := Contains_any _ (hasL m.kind) k wr (HV.out.of_new hbk)
      have hF := fun w' (h : Below wr.heap.size wr w') => fits_any m s k w' (HM.out.of_new (below_next hbw h)) (by omega) (by omega)
      have hR := fun w' (h : Below wr.heap.size wr w') => bare_any m s k w' (HM.out.of_new (below_next hbw h)) (by omega) (by omega)
      generalize hQ : rightF m (9 - (k + 1)) ((k + 1 : Nat) : Int) = Q at *
      have HQ := Lib.hid hQ
      unfold itemB at hm
      clear hQ
      by_cases hin : (k : Int) ∈ hasL m.kind
      · rw [decide_eq_true hin] at hC
        rw [if_pos hin] at hm
        clear hin hR
        generalize fitsB m k = F at *
        have HN := Lib.hid hm
        clear hm
        cases F with
        | false =>
          go_wp2_with (first
            | (go_at_call 79; refine hC.mono ?_; rintro e w3 ⟨rfl, hb3⟩; have HO3 := Lib.hid (HOk.out.of_new hb3))
            | ((with_reducible refine wpList_met (o := ⟨some 18, _, _, _, _, _⟩) ?_ ?_); rfl; intro K hK; refine wp_load_msg (g := w.heap.size) (m := m) (s := s) rfl rfl HO3.out (hK _ _ ?_))
            | (go_at_call 80; refine (hF _ hb3).mono ?_; rintro e w4 ⟨rfl, hb4⟩))
          go_ret
          exact ⟨ret_bool (by rw [HN.out]; rfl), below_next (below_next hbw hb3) hb4⟩
        | true =>
          go_wp2_with (first
            | (go_at_call 79; refine hC.mono ?_; rintro e w3 ⟨rfl, hb3⟩; have HO3 := Lib.hid (HOk.out.of_new hb3))
            | ((with_reducible refine wpList_met (o := ⟨some 18, _, _, _, _, _⟩) ?_ ?_); rfl; intro K hK; refine wp_load_msg (g := w.heap.size) (m := m) (s := s) rfl rfl HO3.out (hK _ _ ?_))
            | (go_at_call 80; refine (hF _ hb3).mono ?_; rintro e w4 ⟨rfl, hb4⟩))
          go_roundw
          case rel => exact ⟨k + 1, by omega, by omega, by go_num, by rw [HN.out, HQ.out]; rfl, below_next (below_next hbk hb3) hb4⟩
          case measure => simp [intOf]; omega
      · rw [decide_eq_false hin] at hC
        rw [if_neg hin] at hm
        clear hin hF
        generalize bareB m k = F at *
        have HN := Lib.hid hm
        clear hm
        cases F with
        | false =>
          go_wp2_with (first
            | (go_at_call 79; refine hC.mono ?_; rintro e w3 ⟨rfl, hb3⟩; have HO3 := Lib.hid (HOk.out.of_new hb3))
            | ((with_reducible refine wpList_met (o := ⟨some 27, _, _, _, _, _⟩) ?_ ?_); rfl; intro K hK; refine wp_load_msg (g := w.heap.size) (m := m) (s := s) rfl rfl HO3.out (hK _ _ ?_))
            | (go_at_call 81; refine (hR _ hb3).mono ?_; rintro e w4 ⟨rfl, hb4⟩))
          go_ret
          exact ⟨ret_bool (by rw [HN.out]; rfl), below_next (below_next hbw hb3) hb4⟩
        | true =>
          go_wp2_with (first
            | (go_at_call 79; refine hC.mono ?_; rintro e w3 ⟨rfl, hb3⟩; have HO3 := Lib.hid (HOk.out.of_new hb3))
            | ((with_reducible refine wpList_met (o := ⟨some 27, _, _, _, _, _⟩) ?_ ?_); rfl; intro K hK; refine wp_load_msg (g := w.heap.size) (m := m) (s := s) rfl rfl HO3.out (hK _ _ ?_))
            | (go_at_call 81; refine (hR _ hb3).mono ?_; rintro e w4 ⟨rfl, hb4⟩))
          go_roundw
          case rel => exact ⟨k + 1, by omega, by omega, by go_num, by rw [HN.out, HQ.out]; rfl, below_next (below_next hbk hb3) hb4⟩
          case measure => simp [intOf]; omega
    · obtain rfl : k = 9 := by omega
      rw [rightF_end] at hm
      have HN := Lib.hid hm
      clear hm
      go_wp2
      go_ret
      exact ⟨ret_bool HN.out.symm, below_next hbA hbk⟩

end Go.Proofs.YtnohglkilpnjhaaGreatDoor

/- How many bytes a message has; in plain Lean. No condition. -/
namespace Go.Proofs.YtnohglkilpnjhaaGreatDoor
set_option linter.unusedVariables false
set_option linter.unusedSimpArgs false

theorem itB_le (x : It) (h : x.2.length ≤ 65536) : (itB x).length ≤ 4 + x.2.length := by
  have := uint_len 2 x.2.length (by omega)
  simp [itB]; omega
theorem uints_le (l : List Int) : (uintsL l).length ≤ 10 * l.length := by
  induction l with
  | nil => simp [uintsL]
  | cons n l ih =>
    have e : uintsL (n :: l) = uint (u64L n) ++ uintsL l := by simp [uintsL]
    have := uint_len10 (u64L_lt n)
    rw [e, List.length_append, List.length_cons]; omega
theorem flat32 : ∀ l : List (List UInt8), (∀ d ∈ l, d.length = 32) → l.flatten.length = 32 * l.length
  | [], _ => rfl
  | d :: l, h => by rw [List.flatten_cons, List.length_append, h d (by simp), flat32 l (fun x hx => h x (by simp [hx])), List.length_cons]; omega
theorem mems_le (l : List MemL) : (l.flatMap memU).length ≤ 30 * l.length := by
  induction l with
  | nil => simp
  | cons x l ih =>
    have := uints_le [x.id, x.inc, x.state]
    rw [List.flatMap_cons, List.length_append, List.length_cons]
    unfold memU at *
    simp only [List.length_cons, List.length_nil] at this
    omega
theorem itemsM_le {m : MsgL} (hr : wrightB m = true) (hh : m.hash.length = 32) (hp : ∀ d ∈ m.proof, d.length = 32) : (flatB (itemsM m)).length ≤ 20000 := by
  have hk := right_kind hr
  have i3 := item_of hr (i := 3) (by omega) (by omega)
  have i4 := item_of hr (i := 4) (by omega) (by omega)
  have i5 := item_of hr (i := 5) (by omega) (by omega)
  have i6 := item_of hr (i := 6) (by omega) (by omega)
  have i7 := item_of hr (i := 7) (by omega) (by omega)
  clear hr
  obtain ⟨kind, hash, piece, ids, bytes, proof, members, seed⟩ := m
  dsimp only at hk hh hp
  have l1 := uints_le [kind]
  have l3 := uints_le [piece]
  have l4 := uints_le ids
  have l6 := flat32 proof hp
  have l7 := mems_le members
  have l8 := uints_le [if seed = true then 1 else 0]
  simp only [List.length_cons, List.length_nil] at l1 l3 l8
  rcases kinds kind with h | h | h | h | h | h | h | h | h | h | h | h
  case inr.inr.inr.inr.inr.inr.inr.inr.inr.inr.inr => omega
  all_goals
    subst h
    simp only [itemB, hasL, bareB, fitsB, withinB, mostL] at i3 i4 i5 i6 i7
    simp at i3 i4 i5 i6 i7
  case inl =>
    have b1 : (itB ((1 : Int), uintsL [1])).length ≤ 4 + (uintsL [1]).length := itB_le (1, uintsL [1]) (by dsimp only; omega)
    have b2 : (itB ((2 : Int), hash)).length ≤ 4 + (hash).length := itB_le (2, hash) (by dsimp only; omega)
    have b5 : (itB ((5 : Int), bytes)).length ≤ 4 + (bytes).length := itB_le (5, bytes) (by dsimp only; omega)
    show (flatB [((1 : Int), uintsL [1]), ((2 : Int), hash), ((5 : Int), bytes)]).length ≤ 20000
    simp only [flatB, List.flatMap_cons, List.flatMap_nil, List.length_append, List.length_nil]
    omega
  case inr.inl =>
    have b1 : (itB ((1 : Int), uintsL [2])).length ≤ 4 + (uintsL [2]).length := itB_le (1, uintsL [2]) (by dsimp only; omega)
    have b2 : (itB ((2 : Int), hash)).length ≤ 4 + (hash).length := itB_le (2, hash) (by dsimp only; omega)
    have b3 : (itB ((3 : Int), uintsL [piece])).length ≤ 4 + (uintsL [piece]).length := itB_le (3, uintsL [piece]) (by dsimp only; omega)
    show (flatB [((1 : Int), uintsL [2]), ((2 : Int), hash), ((3 : Int), uintsL [piece])]).length ≤ 20000
    simp only [flatB, List.flatMap_cons, List.flatMap_nil, List.length_append, List.length_nil]
    omega
  case inr.inr.inl =>
    have b1 : (itB ((1 : Int), uintsL [3])).length ≤ 4 + (uintsL [3]).length := itB_le (1, uintsL [3]) (by dsimp only; omega)
    have b2 : (itB ((2 : Int), hash)).length ≤ 4 + (hash).length := itB_le (2, hash) (by dsimp only; omega)
    have b3 : (itB ((3 : Int), uintsL [piece])).length ≤ 4 + (uintsL [piece]).length := itB_le (3, uintsL [piece]) (by dsimp only; omega)
    show (flatB [((1 : Int), uintsL [3]), ((2 : Int), hash), ((3 : Int), uintsL [piece])]).length ≤ 20000
    simp only [flatB, List.flatMap_cons, List.flatMap_nil, List.length_append, List.length_nil]
    omega
  case inr.inr.inr.inl =>
    have b1 : (itB ((1 : Int), uintsL [4])).length ≤ 4 + (uintsL [4]).length := itB_le (1, uintsL [4]) (by dsimp only; omega)
    have b2 : (itB ((2 : Int), hash)).length ≤ 4 + (hash).length := itB_le (2, hash) (by dsimp only; omega)
    have b3 : (itB ((3 : Int), uintsL [piece])).length ≤ 4 + (uintsL [piece]).length := itB_le (3, uintsL [piece]) (by dsimp only; omega)
    have b5 : (itB ((5 : Int), bytes)).length ≤ 4 + (bytes).length := itB_le (5, bytes) (by dsimp only; omega)
    have b6 : (itB ((6 : Int), proof.flatten)).length ≤ 4 + (proof.flatten).length := itB_le (6, proof.flatten) (by dsimp only; omega)
    show (flatB [((1 : Int), uintsL [4]), ((2 : Int), hash), ((3 : Int), uintsL [piece]), ((5 : Int), bytes), ((6 : Int), proof.flatten)]).length ≤ 20000
    simp only [flatB, List.flatMap_cons, List.flatMap_nil, List.length_append, List.length_nil]
    omega
  case inr.inr.inr.inr.inl =>
    have b1 : (itB ((1 : Int), uintsL [5])).length ≤ 4 + (uintsL [5]).length := itB_le (1, uintsL [5]) (by dsimp only; omega)
    have b2 : (itB ((2 : Int), hash)).length ≤ 4 + (hash).length := itB_le (2, hash) (by dsimp only; omega)
    have b3 : (itB ((3 : Int), uintsL [piece])).length ≤ 4 + (uintsL [piece]).length := itB_le (3, uintsL [piece]) (by dsimp only; omega)
    show (flatB [((1 : Int), uintsL [5]), ((2 : Int), hash), ((3 : Int), uintsL [piece])]).length ≤ 20000
    simp only [flatB, List.flatMap_cons, List.flatMap_nil, List.length_append, List.length_nil]
    omega
  case inr.inr.inr.inr.inr.inl =>
    have b1 : (itB ((1 : Int), uintsL [6])).length ≤ 4 + (uintsL [6]).length := itB_le (1, uintsL [6]) (by dsimp only; omega)
    have b2 : (itB ((2 : Int), hash)).length ≤ 4 + (hash).length := itB_le (2, hash) (by dsimp only; omega)
    have b8 : (itB ((8 : Int), uintsL [if seed = true then 1 else 0])).length ≤ 4 + (uintsL [if seed = true then 1 else 0]).length := itB_le (8, uintsL [if seed = true then 1 else 0]) (by dsimp only; omega)
    show (flatB [((1 : Int), uintsL [6]), ((2 : Int), hash), ((8 : Int), uintsL [if seed = true then 1 else 0])]).length ≤ 20000
    simp only [flatB, List.flatMap_cons, List.flatMap_nil, List.length_append, List.length_nil]
    omega
  case inr.inr.inr.inr.inr.inr.inl =>
    have b1 : (itB ((1 : Int), uintsL [7])).length ≤ 4 + (uintsL [7]).length := itB_le (1, uintsL [7]) (by dsimp only; omega)
    have b2 : (itB ((2 : Int), hash)).length ≤ 4 + (hash).length := itB_le (2, hash) (by dsimp only; omega)
    have b4 : (itB ((4 : Int), uintsL ids)).length ≤ 4 + (uintsL ids).length := itB_le (4, uintsL ids) (by dsimp only; omega)
    show (flatB [((1 : Int), uintsL [7]), ((2 : Int), hash), ((4 : Int), uintsL ids)]).length ≤ 20000
    simp only [flatB, List.flatMap_cons, List.flatMap_nil, List.length_append, List.length_nil]
    omega
  case inr.inr.inr.inr.inr.inr.inr.inl =>
    have b1 : (itB ((1 : Int), uintsL [8])).length ≤ 4 + (uintsL [8]).length := itB_le (1, uintsL [8]) (by dsimp only; omega)
    have b7 : (itB ((7 : Int), members.flatMap memU)).length ≤ 4 + (members.flatMap memU).length := itB_le (7, members.flatMap memU) (by dsimp only; omega)
    show (flatB [((1 : Int), uintsL [8]), ((7 : Int), members.flatMap memU)]).length ≤ 20000
    simp only [flatB, List.flatMap_cons, List.flatMap_nil, List.length_append, List.length_nil]
    omega
  case inr.inr.inr.inr.inr.inr.inr.inr.inl =>
    have b1 : (itB ((1 : Int), uintsL [9])).length ≤ 4 + (uintsL [9]).length := itB_le (1, uintsL [9]) (by dsimp only; omega)
    have b2 : (itB ((2 : Int), hash)).length ≤ 4 + (hash).length := itB_le (2, hash) (by dsimp only; omega)
    show (flatB [((1 : Int), uintsL [9]), ((2 : Int), hash)]).length ≤ 20000
    simp only [flatB, List.flatMap_cons, List.flatMap_nil, List.length_append, List.length_nil]
    omega
  case inr.inr.inr.inr.inr.inr.inr.inr.inr.inl =>
    have b1 : (itB ((1 : Int), uintsL [10])).length ≤ 4 + (uintsL [10]).length := itB_le (1, uintsL [10]) (by dsimp only; omega)
    have b2 : (itB ((2 : Int), hash)).length ≤ 4 + (hash).length := itB_le (2, hash) (by dsimp only; omega)
    have b5 : (itB ((5 : Int), bytes)).length ≤ 4 + (bytes).length := itB_le (5, bytes) (by dsimp only; omega)
    show (flatB [((1 : Int), uintsL [10]), ((2 : Int), hash), ((5 : Int), bytes)]).length ≤ 20000
    simp only [flatB, List.flatMap_cons, List.flatMap_nil, List.length_append, List.length_nil]
    omega
  case inr.inr.inr.inr.inr.inr.inr.inr.inr.inr.inl =>
    have b1 : (itB ((1 : Int), uintsL [11])).length ≤ 4 + (uintsL [11]).length := itB_le (1, uintsL [11]) (by dsimp only; omega)
    have b2 : (itB ((2 : Int), hash)).length ≤ 4 + (hash).length := itB_le (2, hash) (by dsimp only; omega)
    show (flatB [((1 : Int), uintsL [11]), ((2 : Int), hash)]).length ≤ 20000
    simp only [flatB, List.flatMap_cons, List.flatMap_nil, List.length_append, List.length_nil]
    omega

theorem checkF_items (m : MsgL) : checkF (itemsM m) 0 = some (itemsM m) := by
  unfold itemsM
  rcases kinds m.kind with h | h | h | h | h | h | h | h | h | h | h | h
  case inr.inr.inr.inr.inr.inr.inr.inr.inr.inr.inr => rw [hasL_none h]; rfl
  all_goals
    rw [h]
    simp [hasL, checkF]
theorem encM_some {m : MsgL} (hr : wrightB m = true) (hh : m.hash.length = 32) (hp : ∀ d ∈ m.proof, d.length = 32) : ∃ b, encM m = some b := by
  refine ⟨flatB (itemsM m), ?_⟩
  unfold encM encL
  rw [if_pos hr, encF_of (itemsM m) 0 [] (checkF_items m) (by have := itemsM_le hr hh hp; simp; omega)]
  simp

end Go.Proofs.YtnohglkilpnjhaaGreatDoor

/- The walks of wire.uints and body, and of the document's num: numbers as bytes, a message's item as bytes. Conditions: no more than 1000 numbers, hashes, members; the numbers' bytes fit. -/
namespace Go.Proofs.YtnohglkilpnjhaaGreatDoor
open Go.RowKit
set_option linter.unusedVariables false
set_option linter.unusedSimpArgs false
set_option maxRecDepth 100000

theorem u64_conv (y : Int) : IntKind.u64.wrap y = ((u64L y : Nat) : Int) := by simp [u64L, IntKind.wrap, IntKind.bits, IntKind.signed]; omega
theorem u64_conv' (y : Int) : y % 18446744073709551616 = ((u64L y : Nat) : Int) := by simp [u64L]; omega
theorem uintsL_take {l : List Int} {k : Nat} (h : k < l.length) : uintsL (l.take (k + 1)) = uintsL (l.take k) ++ uint (u64L (l.getD k 0)) := by
  rw [List.take_add_one, List.getElem?_eq_getElem h, ← uintsL_snoc]
  simp [List.getD, List.getElem?_eq_getElem h]
theorem uintsL_len (l : List Int) : (uintsL l).length ≤ 10 * l.length := by
  induction l with
  | nil => simp [uintsL]
  | cons x r ih =>
    have := uint_len10 (u64L_lt x)
    simp only [uintsL, List.flatMap_cons, List.length_append, List.length_cons] at *; omega

/-- What uints comes to. -/
def UintsPost (w : World) (c : List UInt8) (e : Ending) (w' : World) : Prop := ∃ v, e = .returned v ∧ Own8 w' w.heap.size 5 v c ∧ Below w.heap.size w w'
theorem num_any (n : Int) (w : World) : Calls Tryz.prog 45 #[.int .i64 n] w (UintsPost w (uint (u64L n))) := by
  have hU := fun w' x (hx : x = ((u64L n : Nat) : Int)) => refUint_at x (u64L n) w' hx (u64L_lt n)
  have HU := Lib.hid hU
  clear hU
  go_enter Tryz.func45, Tryz.ntmps45
  go_wp2_with (first | (go_at_call 89; refine (HU.out _ _ (by first | exact u64_conv n | exact u64_conv' n)).mono ?_; rintro e w2 ⟨v2, rfl, ho2, hb2⟩; have HO2 := Lib.hid ho2; have HB2 := Lib.hid hb2; clear ho2 hb2))
  go_ret
  exact ⟨_, rfl, HO2.out, HB2.out⟩

theorem flat_take {l : List (List UInt8)} {k : Nat} (h : k < l.length) : (l.take (k + 1)).flatten = (l.take k).flatten ++ l.getD k [] := by
  rw [List.take_add_one, List.getElem?_eq_getElem h, List.flatten_append]
  simp [List.getD, List.getElem?_eq_getElem h]
theorem flat_len {l : List (List UInt8)} (h : Dig32 l) : l.flatten.length = 32 * l.length := by
  induction l with
  | nil => rfl
  | cons x r ih =>
    have := ih (fun d hd => h d (.tail _ hd))
    have := h x (.head _)
    simp only [List.flatten_cons, List.length_append, List.length_cons]; omega
theorem memU_take {l : List MemL} {k : Nat} (h : k < l.length) : (l.take (k + 1)).flatMap memU = (l.take k).flatMap memU ++ memU (l.getD k mem0) := by
  rw [List.take_add_one, List.getElem?_eq_getElem h, List.flatMap_append]
  simp [List.getD, List.getElem?_eq_getElem h]
theorem memU_len (l : List MemL) : (l.flatMap memU).length ≤ 30 * l.length := by
  induction l with
  | nil => simp
  | cons x r ih =>
    have := uintsL_len [x.id, x.inc, x.state]
    simp only [List.flatMap_cons, List.length_append, List.length_cons, memU, List.length_nil] at *; omega

/-- What body comes to: bytes that lie in the message, or in what the call made. -/
def BodyPost (w : World) (five : Prop) (u : Value) (c : List UInt8) (e : Ending) (w' : World) : Prop := ∃ v, e = .returned v ∧ Bytes w' v c ∧ Below w.heap.size w w' ∧ ∀ k, v.ownBlock = some k → (five ∧ u.ownBlock = some k) ∨ (w.heap.size ≤ k ∧ k < w'.heap.size)
theorem UintsPost.body {five : Prop} {w w2 : World} {u : Value} {c : List UInt8} (hb : Below w.heap.size w w2) : ∀ e w', UintsPost w2 c e w' → BodyPost w five u c e w' := by
  rintro e w' ⟨v, rfl, ho, hb2⟩
  refine ⟨v, rfl, ho.bytes, below_next hb hb2, fun k hk => .inr ?_⟩
  have := ho.lt k hk
  have := hb.size
  exact ⟨by omega, by omega⟩

end Go.Proofs.YtnohglkilpnjhaaGreatDoor

/- The walk of wire.Encode: a message as bytes. Conditions: no more than 1000 numbers, hashes, members. -/
namespace Go.Proofs.YtnohglkilpnjhaaGreatDoor
open Go.RowKit
set_option linter.unusedVariables false
set_option linter.unusedSimpArgs false
set_option maxRecDepth 100000

/-- The items of the first kinds, with their bytes' values. -/
def ItsOf (m : MsgL) (k : Nat) (l : List ItV) : Prop := l.map (·.1) = ((hasL m.kind).take k).map fun i => (i, bodyL m i)
theorem ItsOf.step {m : MsgL} {k : Nat} {l : List ItV} (h : ItsOf m k l) (hk : k < (hasL m.kind).length) (v : Value) : ItsOf m (k + 1) (l ++ [(((hasL m.kind).getD k 0, bodyL m ((hasL m.kind).getD k 0)), v)]) := by
  unfold ItsOf at *
  rw [List.map_append, h, List.take_add_one, List.getElem?_eq_getElem hk, List.map_append]
  simp [List.getD, List.getElem?_eq_getElem hk]
theorem ItsOf.len {m : MsgL} {k : Nat} {l : List ItV} (h : ItsOf m k l) (hk : k ≤ (hasL m.kind).length) : l.length = k := by
  have := congrArg List.length h
  simpa [hk] using this
theorem right_few {m : MsgL} (h : wrightB m = true) : m.ids.length ≤ 64 ∧ m.proof.length ≤ 10 ∧ m.members.length ≤ 65 := by
  rw [← rrightB_eq] at h
  unfold rrightB rTest1 at h
  simp only [Bool.and_eq_true, Bool.not_eq_true', Bool.or_eq_false_iff, decide_eq_false_iff_not] at h
  omega
end Go.Proofs.YtnohglkilpnjhaaGreatDoor

/- The walks of the document's answer's has and Right of a message, and of Right of a member. No condition. -/
namespace Go.Proofs.YtnohglkilpnjhaaGreatDoor
open Go.RowKit
set_option linter.unusedVariables false
set_option linter.unusedSimpArgs false
set_option maxRecDepth 100000

def HasV (p : Bool × Bool × Bool × Int × Bool × Bool × Bool) : Value := .tuple #[.bool p.1, .bool p.2.1, .bool p.2.2.1, .int .i64 p.2.2.2.1, .bool p.2.2.2.2.1, .bool p.2.2.2.2.2.1, .bool p.2.2.2.2.2.2]
set_option maxHeartbeats 3200000 in
theorem RHas_any (k : Int) (w : World) : Calls Tryz.prog 44 #[.int .i64 k] w fun e w' => e = .returned (HasV (rhasL k)) ∧ w = w' := by
  rcases (show k = 1 ∨ k = 2 ∨ k = 3 ∨ k = 4 ∨ k = 5 ∨ k = 6 ∨ k = 7 ∨ k = 8 ∨ k = 10 ∨ (k ≠ 1 ∧ k ≠ 2 ∧ k ≠ 3 ∧ k ≠ 4 ∧ k ≠ 5 ∧ k ≠ 6 ∧ k ≠ 7 ∧ k ≠ 8 ∧ k ≠ 10) by omega) with h | h | h | h | h | h | h | h | h | h
  case inr.inr.inr.inr.inr.inr.inr.inr.inr =>
    obtain ⟨h1, h2, h3, h4, h5, h6, h7, h8, h10⟩ := h
    rw [show rhasL k = (true, false, false, 0, false, false, false) by simp [rhasL, h1, h2, h3, h4, h5, h6, h7, h8, h10]]
    have t1 : (k == 1) = false := beq_eq_false_iff_ne.2 h1
    have t2 : (k == 2) = false := beq_eq_false_iff_ne.2 h2
    have t3 : (k == 3) = false := beq_eq_false_iff_ne.2 h3
    have t4 : (k == 4) = false := beq_eq_false_iff_ne.2 h4
    have t5 : (k == 5) = false := beq_eq_false_iff_ne.2 h5
    have t6 : (k == 6) = false := beq_eq_false_iff_ne.2 h6
    have t7 : (k == 7) = false := beq_eq_false_iff_ne.2 h7
    have t8 : (k == 8) = false := beq_eq_false_iff_ne.2 h8
    have t10 : (k == 10) = false := beq_eq_false_iff_ne.2 h10
    clear h1 h2 h3 h4 h5 h6 h7 h8 h10
    go_enter Tryz.func44, Tryz.ntmps44
    go_wp2
    refine bodyPost_ret (v := HasV (true, false, false, 0, false, false, false)) (by simp [results, Tryz.results44, go_sem]; rfl) rfl ⟨rfl, rfl⟩
  all_goals
    subst h
    go_enter Tryz.func44, Tryz.ntmps44
    go_wp2
    refine bodyPost_ret (v := HasV (rhasL _)) (by simp [results, Tryz.results44, go_sem]; rfl) rfl ⟨rfl, rfl⟩

set_option maxHeartbeats 1600000 in
theorem RMember_any (x : MemL) (w : World) :
    Calls Tryz.prog 88 #[.agg #[.int .i64 x.id, .int .i64 x.inc, .int .i64 x.state, .int .i64 x.since]] w fun e w' => e = .returned (.bool (memB x)) ∧ Below w.heap.size w w' := by
  have i1 := fun w' => IsId_any x.id w'
  have he : memB x = (idB x.id && withinB x.inc 0 1073741824 && withinB x.state 1 3) := rfl
  rw [he]
  clear he
  have hb : Below w.heap.size w (w.alloc (.cells #[.int .i64 x.id, .int .i64 x.inc, .int .i64 x.state, .int .i64 x.since] 113)) := (Below.refl _ _).alloc (Nat.le_refl _) _
  obtain ⟨xi, xj, xs, xt⟩ := x
  dsimp only at *
  generalize idB xi = A at *
  cases A
  · go_enter Tryz.func88, Tryz.ntmps88
    go_wp2_with (first | (go_at_call 87; refine (i1 _).mono ?_; rintro e w2 ⟨rfl, rfl⟩))
    go_ret
    exact ⟨rfl, hb⟩
  unfold withinB
  by_cases h1 : 0 ≤ xj
  case neg =>
    go_enter Tryz.func88, Tryz.ntmps88
    go_wp2_with (first | (go_at_call 87; refine (i1 _).mono ?_; rintro e w2 ⟨rfl, rfl⟩))
    go_ret
    exact ⟨ret_bool (by simp; omega), hb⟩
  by_cases h2 : xj ≤ 1073741824
  case neg =>
    go_enter Tryz.func88, Tryz.ntmps88
    go_wp2_with (first | (go_at_call 87; refine (i1 _).mono ?_; rintro e w2 ⟨rfl, rfl⟩))
    go_ret
    exact ⟨ret_bool (by simp; omega), hb⟩
  by_cases h3 : 1 ≤ xs
  case neg =>
    go_enter Tryz.func88, Tryz.ntmps88
    go_wp2_with (first | (go_at_call 87; refine (i1 _).mono ?_; rintro e w2 ⟨rfl, rfl⟩))
    go_ret
    exact ⟨ret_bool (by simp; omega), hb⟩
  · go_enter Tryz.func88, Tryz.ntmps88
    go_wp2_with (first | (go_at_call 87; refine (i1 _).mono ?_; rintro e w2 ⟨rfl, rfl⟩))
    go_ret
    exact ⟨ret_bool (by simp [h1, h2, h3]), hb⟩

set_option maxHeartbeats 6400000 in
theorem WRRight_any (m : MsgL) (s : MsgS) (w : World) (hm : MsgR w m s) :
    Calls Tryz.prog 43 #[MsgV m s] w fun e w' => e = .returned (.bool (rrightB m)) ∧ Below w.heap.size w w' := by
  obtain ⟨W, hW, ho, hb⟩ := msg_boxed w (s := s) hm.hash
  have hmW := hm.of_new hb
  have hi := hmW.ids
  have hme := hmW.members
  obtain ⟨ai, ci, hvi⟩ := hi.len
  obtain ⟨ab, cb, hvb⟩ := hm.bytes.len
  obtain ⟨ap, cp, hvp⟩ := hm.proof.len
  obtain ⟨am, cm, hvm⟩ := hme.len
  have li := hi.le
  have lm := hme.le
  have lb := hm.bytes.le
  have e0 := ho.kind
  have eh := ho.hash
  have e3 := ho.piece
  have e4 := ho.ids
  have e5 := ho.bytes
  have e6 := ho.proof
  have e7 := ho.members
  have e8 := ho.seed
  have hls := ho.lt
  rw [hvi] at e4 hi
  rw [hvb] at e5
  rw [hvp] at e6
  rw [hvm] at e7 hme
  have h32 := hm.hash
  have hgd := guard_dig
  have heq := run_neq_dig m.hash zero32 h32 rfl
  rw [show (List.map B8 zero32).toArray = #[.int .u8 0, .int .u8 0, .int .u8 0, .int .u8 0, .int .u8 0, .int .u8 0, .int .u8 0, .int .u8 0, .int .u8 0, .int .u8 0, .int .u8 0, .int .u8 0, .int .u8 0, .int .u8 0, .int .u8 0, .int .u8 0, .int .u8 0, .int .u8 0, .int .u8 0, .int .u8 0, .int .u8 0, .int .u8 0, .int .u8 0, .int .u8 0, .int .u8 0, .int .u8 0, .int .u8 0, .int .u8 0, .int .u8 0, .int .u8 0, .int .u8 0, .int .u8 0] from rfl] at heq
  have hR := RHas_any m.kind W
  have hrr : rrightB m = (!rTest1 m && !rTest2 m && !rTest3 m && m.ids.all idB && m.members.all memB0) := rfl
  unfold rTest1 rTest2 rTest3 at hrr
  have HW := Lib.hid hW
  have HI := Lib.hid hi
  have HM := Lib.hid hme
  have HO := Lib.hid ho
  obtain ⟨V, hV⟩ : ∃ V, MsgV m s = V := ⟨_, rfl⟩
  rw [show MsgV m s = .agg (msgCells m s).toArray from rfl] at hV ⊢
  obtain ⟨F, hF⟩ : ∃ F, rhasL m.kind = F := ⟨_, rfl⟩
  rw [hF] at hR hrr
  obtain ⟨R, hRe⟩ : ∃ R, rrightB m = R := ⟨_, rfl⟩
  rw [hRe] at hrr ⊢
  have HF := Lib.hid hF
  generalize hz : decide (m.hash = zero32) = z at *
  generalize m.kind = k at *
  generalize m.hash = hsh at *
  generalize m.piece = p at *
  generalize m.seed = sd at *
  generalize hnb : m.bytes.length = nb at *
  generalize hnp : m.proof.length = np at *
  generalize hni : m.ids.length = ni at *
  generalize hnm : m.members.length = nm at *
  have HNI := Lib.hid hni
  have HNM := Lib.hid hnm
  have HRR := Lib.hid hrr
  clear hW hm hmW hvi hvb hvp hvm ho hi hme hV hF hRe hz hnb hnp hni hnm hrr
  go_enter Tryz.func43, Tryz.ntmps43
  go_upto_region 1 with (fail)
  rw [HW.out]
  by_cases c1 : k < 1
  · go_wp2
    go_ret
    exact ⟨ret_bool (by rw [HRR.out]; simp [c1]), hb⟩
  by_cases c2 : 11 < k
  · go_wp2
    go_ret
    exact ⟨ret_bool (by rw [HRR.out]; simp [c2]), hb⟩
  by_cases c3 : p < 0
  · go_wp2
    go_ret
    exact ⟨ret_bool (by rw [HRR.out]; simp [c3]), hb⟩
  by_cases c4 : 1023 < p
  · go_wp2
    go_ret
    exact ⟨ret_bool (by rw [HRR.out]; simp [c4]), hb⟩
  by_cases c5 : (64 : Int) < ni
  · go_wp2
    go_ret
    exact ⟨ret_bool (by rw [HRR.out]; simp [c5]), hb⟩
  by_cases c6 : (10 : Int) < np
  · go_wp2
    go_ret
    exact ⟨ret_bool (by rw [HRR.out]; simp [c6]), hb⟩
  by_cases c7 : (65 : Int) < nm
  · go_wp2
    go_ret
    exact ⟨ret_bool (by rw [HRR.out]; simp [c7]), hb⟩
  go_upto_region 4 with (first | (go_at_call 44; refine hR.mono ?_; rintro e w2 ⟨rfl, rfl⟩; unfold HasV))
  have hdec : R = (!((!F.1 && !z) || (!F.2.1 && !decide (p = 0)) || (!F.2.2.1 && decide (0 < (ni : Int))) || (!F.2.2.2.2.1 && decide (0 < (np : Int))) || (!F.2.2.2.2.2.2 && sd)) && (!(decide (F.2.2.2.1 < (nb : Int)) || (decide (0 < F.2.2.2.1) && decide ((nb : Int) = 0)) || (F.2.2.2.2.2.1 != decide (0 < (nm : Int)))) && m.ids.all idB && m.members.all memB0)) := by
    rw [HRR.out]; simp [show ¬ k < 1 by omega, show ¬ 11 < k by omega, show ¬ p < 0 by omega, show ¬ 1023 < p by omega, show ¬ (64 : Int) < ni by omega, show ¬ (10 : Int) < np by omega, show ¬ (65 : Int) < nm by omega, Bool.and_assoc]
  have HRR2 := Lib.hid hdec
  clear hdec HRR hR
  have hF := HF.out
  have hF8 : F = (true, false, false, 128, false, false, false) ∨ F = (true, true, false, 0, false, false, false) ∨ F = (true, true, false, 16384, true, false, false) ∨ F = (true, false, false, 0, false, false, true) ∨ F = (true, false, true, 0, false, false, false) ∨
      F = (false, false, false, 0, false, true, false) ∨ F = (true, false, false, 4096, false, false, false) ∨ F = (true, false, false, 0, false, false, false) := by
    rw [← hF]
    rcases kinds k with h | h | h | h | h | h | h | h | h | h | h | h
    case inr.inr.inr.inr.inr.inr.inr.inr.inr.inr.inr => omega
    all_goals (subst h; simp [rhasL])
  have HF8 := Lib.hid hF8
  clear hF hF8 HF
  go_cut [105] (fun v W' => W' = W ∧ v = .bool ((!F.1 && !z) || (!F.2.1 && !decide (p = 0)) || (!F.2.2.1 && decide (0 < (ni : Int))) || (!F.2.2.2.2.1 && decide (0 < (np : Int))) || (!F.2.2.2.2.2.2 && sd)))
  case first =>
    clear HRR2
    rcases HF8.out with h | h | h | h | h | h | h | h
    all_goals
      as_aux_lemma =>
        subst h
        dsimp only
        go_wp2_with (first
          | ((with_reducible refine wpList_met (o := ⟨some 65, _, _, _, _, _⟩) ?_ ?_); rfl; intro K hK; refine wp_load_at (ty := 31) (x := .tmp 64) rfl rfl eh (hK _ _ ?_)))
        all_goals
          go_meet
          refine ⟨rfl, ?_⟩
          simp [Nat.pos_iff_ne_zero, *]
  case rest =>
    obtain ⟨rfl, rfl⟩ := hcut
    generalize hT : ((!F.1 && !z) || (!F.2.1 && !decide (p = 0)) || (!F.2.2.1 && decide (0 < (ni : Int))) || (!F.2.2.2.2.1 && decide (0 < (np : Int))) || (!F.2.2.2.2.2.2 && sd)) = T at *
    cases T with
    | true =>
      clear hT
      go_wp2
      go_ret
      exact ⟨ret_bool (by rw [HRR2.out]; rfl), hb⟩
    | false =>
    clear hT
    go_upto_region 6 with (fail)
    go_cut [128] (fun v W' => W' = wc ∧ v = .bool (decide (F.2.2.2.1 < (nb : Int)) || (decide (0 < F.2.2.2.1) && decide ((nb : Int) = 0)) || (F.2.2.2.2.2.1 != decide (0 < (nm : Int)))))
    case first =>
      clear HRR2
      rcases HF8.out with h | h | h | h | h | h | h | h
      all_goals
        as_aux_lemma =>
          subst h
          dsimp only
          go_wp2
          all_goals
            go_meet
            refine ⟨rfl, ?_⟩
            simp [Nat.pos_iff_ne_zero, eqz, *]
    case rest =>
     as_aux_lemma =>
      obtain ⟨rfl, rfl⟩ := hcut
      generalize hT : (decide (F.2.2.2.1 < (nb : Int)) || (decide (0 < F.2.2.2.1) && decide ((nb : Int) = 0)) || (F.2.2.2.2.2.1 != decide (0 < (nm : Int)))) = T at *
      cases T with
      | true =>
        clear hT
        go_wp2
        go_ret
        exact ⟨ret_bool (by rw [HRR2.out]; rfl), hb⟩
      | false =>
      clear hT HF8 e0 eh e3 e5 e6 e8 heq
      have HRR3 := Lib.hid (show R = (m.ids.all idB && m.members.all memB0) by rw [HRR2.out]; simp)
      clear HRR2
      go_wp2
      go_loop [10, 11] (fun iv _ => ∃ k : Nat, k ≤ ni ∧ iv = .int .i64 k ∧ m.ids.all idB = (m.ids.drop k).all idB) (fun iv _ => ni - (intOf iv).toNat)
      case atStart => exact ⟨0, by omega, rfl, rfl⟩
      case round =>
        obtain ⟨j, hj, rfl, hmm⟩ := hrel
        by_cases hlt : j < ni
        · have hlt2 : j < m.ids.length := by have := HNI.out; omega
          obtain ⟨b, off, c', hv, hbl, hc⟩ := HI.out.cell (by omega)
          obtain ⟨rfl, rfl⟩ : ai = some ⟨b, off, none⟩ ∧ ci = c' := by cases hv; exact ⟨rfl, rfl⟩
          replace hc := hc j hlt2
          rw [drop_int hlt2, List.all_cons] at hmm
          generalize m.ids.getD j 0 = y at *
          have hO := fun w' => IsId_any y w'
          generalize idB y = B at *
          have HM2 := Lib.hid hmm
          clear hv hmm hlt2
          cases B with
          | false =>
            go_wp2_with (first | (go_at_call 87; refine (hO _).mono ?_; rintro e w2 ⟨rfl, rfl⟩))
            go_ret
            exact ⟨ret_bool (by rw [HRR3.out, HM2.out]; rfl), hb⟩
          | true =>
            go_wp2_with (first | (go_at_call 87; refine (hO _).mono ?_; rintro e w2 ⟨rfl, rfl⟩))
            go_round
            case rel => exact ⟨j + 1, by omega, by go_num, by rw [HM2.out]; rfl⟩
            case measure => simp [intOf]; omega
        · rw [List.drop_of_length_le (by have := HNI.out; omega)] at hmm
          have HRR4 := Lib.hid (show R = m.members.all memB0 by rw [HRR3.out, hmm]; rfl)
          clear hmm HRR3
          go_wp2
          go_loopw [12, 13] (fun iv _ W' => ∃ k : Nat, k ≤ nm ∧ iv = .int .i64 k ∧ m.members.all memB0 = (m.members.drop k).all memB0 ∧ Below w.heap.size w W' ∧ Below wc.heap.size wc W') (fun iv _ _ => nm - (intOf iv).toNat)
          case atStart => exact ⟨0, by omega, rfl, rfl, hb, Below.refl _ _⟩
          case round =>
            obtain ⟨i, hi, rfl, hmm, hbw, hbc⟩ := hrel
            have e7' := (hbc.cell (p := ⟨w.heap.size, 37, none⟩) hls).trans e7
            by_cases hlt : i < nm
            · have hlt2 : i < m.members.length := by have := HNM.out; omega
              obtain ⟨b, off, c', hv, hbl, hc⟩ := HM.out.cell (by omega)
              obtain ⟨rfl, rfl⟩ : am = some ⟨b, off, none⟩ ∧ cm = c' := by cases hv; exact ⟨rfl, rfl⟩
              replace hc := (hc i hlt2).of_new hbc
              rw [drop_mem hlt2, List.all_cons] at hmm
              generalize m.members.getD i mem0 = y at *
              have hO := fun w' => RMember_any y w'
              have hmb : memB0 y = (memB y && decide (y.since = 0)) := rfl
              rw [hmb] at hmm
              generalize memB y = B at *
              obtain ⟨d0, d1, d2, d3⟩ := hc
              obtain ⟨y0, y1, y2, y3⟩ := y
              dsimp only at *
              have HM2 := Lib.hid hmm
              clear hv hmm hlt2 hmb
              cases B with
              | false =>
                go_wp2_with (first | (go_at_call 88; refine (hO _).mono ?_; rintro e w2 ⟨rfl, hb2⟩))
                go_ret
                exact ⟨ret_bool (by rw [HRR4.out, HM2.out]; rfl), below_next hbw hb2⟩
              | true =>
                have d3' := fun w' (h : Below wr.heap.size wr w') => (Grew.cell h d3)
                have e7'' := fun w' (h : Below wr.heap.size wr w') => (Grew.cell h e7')
                by_cases hy3 : y3 = 0
                · have t : (y3 != 0) = false := by simp [hy3]
                  have HY := Lib.hid hy3
                  clear hy3
                  go_wp2_with (first | (go_at_call 88; refine (hO _).mono ?_; rintro e w2 ⟨rfl, hb2⟩; have f3 := d3' _ hb2; have f7 := e7'' _ hb2))
                  go_roundw
                  case rel => exact ⟨i + 1, by omega, by go_num, by rw [HM2.out, HY.out]; rfl, below_next hbw hb2, below_next hbc hb2⟩
                  case measure => simp [intOf]; omega
                · have t : (y3 != 0) = true := by simp [hy3]
                  have HY := Lib.hid hy3
                  clear hy3
                  go_wp2_with (first | (go_at_call 88; refine (hO _).mono ?_; rintro e w2 ⟨rfl, hb2⟩; have f3 := d3' _ hb2; have f7 := e7'' _ hb2))
                  go_ret
                  exact ⟨ret_bool (by rw [HRR4.out, HM2.out, decide_eq_false HY.out]; rfl), below_next hbw hb2⟩
            · rw [List.drop_of_length_le (by have := HNM.out; omega)] at hmm
              have HN := Lib.hid hmm
              clear hmm
              go_wp2
              go_ret
              exact ⟨ret_bool (by rw [HRR4.out, HN.out]; rfl), hbw⟩

end Go.Proofs.YtnohglkilpnjhaaGreatDoor

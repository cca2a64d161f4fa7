/- The walks of the document's answer's has and Right of a message, and of Right of a member. No condition. -/
import Derived.Test.YtnomekfemadpeaaWrRight
namespace Go.Proofs.Ytnomekfemadpeaa
open Go.RowKit
set_option linter.unusedVariables false
set_option linter.unusedSimpArgs false
set_option maxRecDepth 100000

def HasV (p : Bool × Bool × Bool × Int × Bool × Bool × Bool) : Value := .tuple #[.bool p.1, .bool p.2.1, .bool p.2.2.1, .int .i64 p.2.2.2.1, .bool p.2.2.2.2.1, .bool p.2.2.2.2.2.1, .bool p.2.2.2.2.2.2]
theorem ret_has {p q : Bool × Bool × Bool × Int × Bool × Bool × Bool} (h : p = q) : Ending.returned (HasV p) = .returned (HasV q) := by rw [h]

set_option maxHeartbeats 3200000 in
theorem RHas_any (k : Int) (w : World) : Calls Try.prog 20 #[.int .i64 k] w fun e w' => e = .returned (HasV (rhasL k)) ∧ w = w' := by
  rcases (show k = 1 ∨ k = 2 ∨ k = 3 ∨ k = 4 ∨ k = 5 ∨ k = 6 ∨ k = 7 ∨ k = 8 ∨ k = 10 ∨ (k ≠ 1 ∧ k ≠ 2 ∧ k ≠ 3 ∧ k ≠ 4 ∧ k ≠ 5 ∧ k ≠ 6 ∧ k ≠ 7 ∧ k ≠ 8 ∧ k ≠ 10) by omega) with h | h | h | h | h | h | h | h | h | h
  case inr.inr.inr.inr.inr.inr.inr.inr.inr =>
    obtain ⟨h1, h2, h3, h4, h5, h6, h7, h8, h10⟩ := h
    rw [show rhasL k = (true, false, false, 0, false, false, false) by simp [rhasL, h1, h2, h3, h4, h5, h6, h7, h8, h10]]
    have t1 : (k == 1) = false := beq_eq_false_iff_ne.2 h1
    have t2 : (k == 2) = false := beq_eq_false_iff_ne.2 h2
    have t3 : (k == 3) = false := beq_eq_false_iff_ne.2 h3
    have t4 : (k == 4) = false := beq_eq_false_iff_ne.2 h4
    have t5 : (k == 5) = false := beq_eq_false_iff_ne.2 h5
    have t6 : (k == 6) = false := beq_eq_false_iff_ne.2 h6
    have t7 : (k == 7) = false := beq_eq_false_iff_ne.2 h7
    have t8 : (k == 8) = false := beq_eq_false_iff_ne.2 h8
    have t10 : (k == 10) = false := beq_eq_false_iff_ne.2 h10
    clear h1 h2 h3 h4 h5 h6 h7 h8 h10
    go_enter Try.func20, Try.ntmps20
    go_wp2
    refine bodyPost_ret (v := HasV (true, false, false, 0, false, false, false)) (by simp [results, Try.results20, go_sem]; rfl) rfl ⟨rfl, rfl⟩
  all_goals
    subst h
    go_enter Try.func20, Try.ntmps20
    go_wp2
    refine bodyPost_ret (v := HasV (rhasL _)) (by simp [results, Try.results20, go_sem]; rfl) rfl ⟨rfl, rfl⟩

set_option maxHeartbeats 1600000 in
theorem RMember_any (x : MemL) (w : World) :
    Calls Try.prog 27 #[.agg #[.int .i64 x.id, .int .i64 x.inc, .int .i64 x.state, .int .i64 x.since]] w fun e w' => e = .returned (.bool (memB x)) ∧ Below w.heap.size w w' := by
  have i1 := fun w' => IsId_any x.id w'
  have he : memB x = (idB x.id && withinB x.inc 0 1073741824 && withinB x.state 1 3) := rfl
  rw [he]
  clear he
  have hb : Below w.heap.size w (w.alloc (.cells #[.int .i64 x.id, .int .i64 x.inc, .int .i64 x.state, .int .i64 x.since] 37)) := (Below.refl _ _).alloc (Nat.le_refl _) _
  obtain ⟨xi, xj, xs, xt⟩ := x
  dsimp only at *
  generalize idB xi = A at *
  cases A
  · go_enter Try.func27, Try.ntmps27
    go_wp2_with (first | (go_at_call 26; refine (i1 _).mono ?_; rintro e w2 ⟨rfl, rfl⟩))
    go_ret
    exact ⟨rfl, hb⟩
  unfold withinB
  by_cases h1 : 0 ≤ xj
  case neg =>
    go_enter Try.func27, Try.ntmps27
    go_wp2_with (first | (go_at_call 26; refine (i1 _).mono ?_; rintro e w2 ⟨rfl, rfl⟩))
    go_ret
    exact ⟨ret_bool (by simp; omega), hb⟩
  by_cases h2 : xj ≤ 1073741824
  case neg =>
    go_enter Try.func27, Try.ntmps27
    go_wp2_with (first | (go_at_call 26; refine (i1 _).mono ?_; rintro e w2 ⟨rfl, rfl⟩))
    go_ret
    exact ⟨ret_bool (by simp; omega), hb⟩
  by_cases h3 : 1 ≤ xs
  case neg =>
    go_enter Try.func27, Try.ntmps27
    go_wp2_with (first | (go_at_call 26; refine (i1 _).mono ?_; rintro e w2 ⟨rfl, rfl⟩))
    go_ret
    exact ⟨ret_bool (by simp; omega), hb⟩
  · go_enter Try.func27, Try.ntmps27
    go_wp2_with (first | (go_at_call 26; refine (i1 _).mono ?_; rintro e w2 ⟨rfl, rfl⟩))
    go_ret
    exact ⟨ret_bool (by simp [h1, h2, h3]), hb⟩

set_option maxHeartbeats 6400000 in
theorem RRight_any (m : MsgL) (s : MsgS) (w : World) (hm : MsgR w m s) :
    Calls Try.prog 13 #[MsgV m s] w fun e w' => e = .returned (.bool (rrightB m)) ∧ Below w.heap.size w w' := by
  obtain ⟨W, hW, ho, hb⟩ := msg_boxed w (s := s) hm.hash
  have hmW := hm.of_new hb
  have hi := hmW.ids
  have hme := hmW.members
  obtain ⟨ai, ci, hvi⟩ := hi.len
  obtain ⟨ab, cb, hvb⟩ := hm.bytes.len
  obtain ⟨ap, cp, hvp⟩ := hm.proof.len
  obtain ⟨am, cm, hvm⟩ := hme.len
  have li := hi.le
  have lm := hme.le
  have lb := hm.bytes.le
  have e0 := ho.kind
  have eh := ho.hash
  have e3 := ho.piece
  have e4 := ho.ids
  have e5 := ho.bytes
  have e6 := ho.proof
  have e7 := ho.members
  have e8 := ho.seed
  have hls := ho.lt
  rw [hvi] at e4 hi
  rw [hvb] at e5
  rw [hvp] at e6
  rw [hvm] at e7 hme
  have h32 := hm.hash
  have hgd := guard_dig
  have heq := run_neq_dig m.hash zero32 h32 rfl
  rw [show (List.map B8 zero32).toArray = #[.int .u8 0, .int .u8 0, .int .u8 0, .int .u8 0, .int .u8 0, .int .u8 0, .int .u8 0, .int .u8 0, .int .u8 0, .int .u8 0, .int .u8 0, .int .u8 0, .int .u8 0, .int .u8 0, .int .u8 0, .int .u8 0, .int .u8 0, .int .u8 0, .int .u8 0, .int .u8 0, .int .u8 0, .int .u8 0, .int .u8 0, .int .u8 0, .int .u8 0, .int .u8 0, .int .u8 0, .int .u8 0, .int .u8 0, .int .u8 0, .int .u8 0, .int .u8 0] from rfl] at heq
  have hR := RHas_any m.kind W
  have hrr : rrightB m = (!rTest1 m && !rTest2 m && !rTest3 m && m.ids.all idB && m.members.all memB0) := rfl
  unfold rTest1 rTest2 rTest3 at hrr
  have HW := Lib.hid hW
  have HI := Lib.hid hi
  have HM := Lib.hid hme
  have HO := Lib.hid ho
  obtain ⟨V, hV⟩ : ∃ V, MsgV m s = V := ⟨_, rfl⟩
  rw [show MsgV m s = .agg (msgCells m s).toArray from rfl] at hV ⊢
  obtain ⟨F, hF⟩ : ∃ F, rhasL m.kind = F := ⟨_, rfl⟩
  rw [hF] at hR hrr
  obtain ⟨R, hRe⟩ : ∃ R, rrightB m = R := ⟨_, rfl⟩
  rw [hRe] at hrr ⊢
  have HF := Lib.hid hF
  generalize hz : decide (m.hash = zero32) = z at *
  generalize m.kind = k at *
  generalize m.hash = hsh at *
  generalize m.piece = p at *
  generalize m.seed = sd at *
  generalize hnb : m.bytes.length = nb at *
  generalize hnp : m.proof.length = np at *
  generalize hni : m.ids.length = ni at *
  generalize hnm : m.members.length = nm at *
  have HNI := Lib.hid hni
  have HNM := Lib.hid hnm
  have HRR := Lib.hid hrr
  clear hW hm hmW hvi hvb hvp hvm ho hi hme hV hF hRe hz hnb hnp hni hnm hrr
  go_enter Try.func13, Try.ntmps13
  go_upto_region 1 with (fail)
  rw [HW.out]
  by_cases c1 : k < 1
  · go_wp2
    go_ret
    exact ⟨ret_bool (by rw [HRR.out]; simp [c1]), hb⟩
  by_cases c2 : 11 < k
  · go_wp2
    go_ret
    exact ⟨ret_bool (by rw [HRR.out]; simp [c2]), hb⟩
  by_cases c3 : p < 0
  · go_wp2
    go_ret
    exact ⟨ret_bool (by rw [HRR.out]; simp [c3]), hb⟩
  by_cases c4 : 1023 < p
  · go_wp2
    go_ret
    exact ⟨ret_bool (by rw [HRR.out]; simp [c4]), hb⟩
  by_cases c5 : (64 : Int) < ni
  · go_wp2
    go_ret
    exact ⟨ret_bool (by rw [HRR.out]; simp [c5]), hb⟩
  by_cases c6 : (10 : Int) < np
  · go_wp2
    go_ret
    exact ⟨ret_bool (by rw [HRR.out]; simp [c6]), hb⟩
  by_cases c7 : (65 : Int) < nm
  · go_wp2
    go_ret
    exact ⟨ret_bool (by rw [HRR.out]; simp [c7]), hb⟩
  go_upto_region 4 with (first | (go_at_call 20; refine hR.mono ?_; rintro e w2 ⟨rfl, rfl⟩; unfold HasV))
  have hdec : R = (!((!F.1 && !z) || (!F.2.1 && !decide (p = 0)) || (!F.2.2.1 && decide (0 < (ni : Int))) || (!F.2.2.2.2.1 && decide (0 < (np : Int))) || (!F.2.2.2.2.2.2 && sd)) && (!(decide (F.2.2.2.1 < (nb : Int)) || (decide (0 < F.2.2.2.1) && decide ((nb : Int) = 0)) || (F.2.2.2.2.2.1 != decide (0 < (nm : Int)))) && m.ids.all idB && m.members.all memB0)) := by
    rw [HRR.out]; simp [show ¬ k < 1 by omega, show ¬ 11 < k by omega, show ¬ p < 0 by omega, show ¬ 1023 < p by omega, show ¬ (64 : Int) < ni by omega, show ¬ (10 : Int) < np by omega, show ¬ (65 : Int) < nm by omega, Bool.and_assoc]
  have HRR2 := Lib.hid hdec
  clear hdec HRR hR
  have hF := HF.out
  have hF8 : F = (true, false, false, 128, false, false, false) ∨ F = (true, true, false, 0, false, false, false) ∨ F = (true, true, false, 16384, true, false, false) ∨ F = (true, false, false, 0, false, false, true) ∨ F = (true, false, true, 0, false, false, false) ∨
      F = (false, false, false, 0, false, true, false) ∨ F = (true, false, false, 4096, false, false, false) ∨ F = (true, false, false, 0, false, false, false) := by
    rw [← hF]
    rcases kinds k with h | h | h | h | h | h | h | h | h | h | h | h
    case inr.inr.inr.inr.inr.inr.inr.inr.inr.inr.inr => omega
    all_goals (subst h; simp [rhasL])
  have HF8 := Lib.hid hF8
  clear hF hF8 HF
  go_cut [105] (fun v W' => W' = W ∧ v = .bool ((!F.1 && !z) || (!F.2.1 && !decide (p = 0)) || (!F.2.2.1 && decide (0 < (ni : Int))) || (!F.2.2.2.2.1 && decide (0 < (np : Int))) || (!F.2.2.2.2.2.2 && sd)))
  case first =>
    clear HRR2
    rcases HF8.out with h | h | h | h | h | h | h | h
    all_goals
      as_aux_lemma =>
        subst h
        dsimp only
        go_wp2_with (first
          | ((with_reducible refine wpList_met (o := ⟨some 65, _, _, _, _, _⟩) ?_ ?_); rfl; intro K hK; refine wp_load_at (ty := 23) (x := .tmp 64) rfl rfl eh (hK _ _ ?_)))
        all_goals
          go_meet
          refine ⟨rfl, ?_⟩
          simp [Nat.pos_iff_ne_zero, *]
  case rest =>
    obtain ⟨rfl, rfl⟩ := hcut
    generalize hT : ((!F.1 && !z) || (!F.2.1 && !decide (p = 0)) || (!F.2.2.1 && decide (0 < (ni : Int))) || (!F.2.2.2.2.1 && decide (0 < (np : Int))) || (!F.2.2.2.2.2.2 && sd)) = T at *
    cases T with
    | true =>
      clear hT
      go_wp2
      go_ret
      exact ⟨ret_bool (by rw [HRR2.out]; rfl), hb⟩
    | false =>
    clear hT
    go_upto_region 6 with (fail)
    go_cut [128] (fun v W' => W' = wc ∧ v = .bool (decide (F.2.2.2.1 < (nb : Int)) || (decide (0 < F.2.2.2.1) && decide ((nb : Int) = 0)) || (F.2.2.2.2.2.1 != decide (0 < (nm : Int)))))
    case first =>
      clear HRR2
      rcases HF8.out with h | h | h | h | h | h | h | h
      all_goals
        as_aux_lemma =>
          subst h
          dsimp only
          go_wp2
          all_goals
            go_meet
            refine ⟨rfl, ?_⟩
            simp [Nat.pos_iff_ne_zero, eqz, *]
    case rest =>
     as_aux_lemma =>
      obtain ⟨rfl, rfl⟩ := hcut
      generalize hT : (decide (F.2.2.2.1 < (nb : Int)) || (decide (0 < F.2.2.2.1) && decide ((nb : Int) = 0)) || (F.2.2.2.2.2.1 != decide (0 < (nm : Int)))) = T at *
      cases T with
      | true =>
        clear hT
        go_wp2
        go_ret
        exact ⟨ret_bool (by rw [HRR2.out]; rfl), hb⟩
      | false =>
      clear hT HF8 e0 eh e3 e5 e6 e8 heq
      have HRR3 := Lib.hid (show R = (m.ids.all idB && m.members.all memB0) by rw [HRR2.out]; simp)
      clear HRR2
      go_wp2
      go_loop [10, 11] (fun iv _ => ∃ k : Nat, k ≤ ni ∧ iv = .int .i64 k ∧ m.ids.all idB = (m.ids.drop k).all idB) (fun iv _ => ni - (intOf iv).toNat)
      case atStart => exact ⟨0, by omega, rfl, rfl⟩
      case round =>
        obtain ⟨j, hj, rfl, hmm⟩ := hrel
        by_cases hlt : j < ni
        · have hlt2 : j < m.ids.length := by have := HNI.out; omega
          obtain ⟨b, off, c', hv, hbl, hc⟩ := HI.out.cell (by omega)
          obtain ⟨rfl, rfl⟩ : ai = some ⟨b, off, none⟩ ∧ ci = c' := by cases hv; exact ⟨rfl, rfl⟩
          replace hc := hc j hlt2
          rw [drop_int hlt2, List.all_cons] at hmm
          generalize m.ids.getD j 0 = y at *
          have hO := fun w' => IsId_any y w'
          generalize idB y = B at *
          have HM2 := Lib.hid hmm
          clear hv hmm hlt2
          cases B with
          | false =>
            go_wp2_with (first | (go_at_call 26; refine (hO _).mono ?_; rintro e w2 ⟨rfl, rfl⟩))
            go_ret
            exact ⟨ret_bool (by rw [HRR3.out, HM2.out]; rfl), hb⟩
          | true =>
            go_wp2_with (first | (go_at_call 26; refine (hO _).mono ?_; rintro e w2 ⟨rfl, rfl⟩))
            go_round
            case rel => exact ⟨j + 1, by omega, by go_num, by rw [HM2.out]; rfl⟩
            case measure => simp [intOf]; omega
        · rw [List.drop_of_length_le (by have := HNI.out; omega)] at hmm
          have HRR4 := Lib.hid (show R = m.members.all memB0 by rw [HRR3.out, hmm]; rfl)
          clear hmm HRR3
          go_wp2
          go_loopw [12, 13] (fun iv _ W' => ∃ k : Nat, k ≤ nm ∧ iv = .int .i64 k ∧ m.members.all memB0 = (m.members.drop k).all memB0 ∧ Below w.heap.size w W' ∧ Below wc.heap.size wc W') (fun iv _ _ => nm - (intOf iv).toNat)
          case atStart => exact ⟨0, by omega, rfl, rfl, hb, Below.refl _ _⟩
          case round =>
            obtain ⟨i, hi, rfl, hmm, hbw, hbc⟩ := hrel
            have e7' := (hbc.cell (p := ⟨w.heap.size, 37, none⟩) hls).trans e7
            by_cases hlt : i < nm
            · have hlt2 : i < m.members.length := by have := HNM.out; omega
              obtain ⟨b, off, c', hv, hbl, hc⟩ := HM.out.cell (by omega)
              obtain ⟨rfl, rfl⟩ : am = some ⟨b, off, none⟩ ∧ cm = c' := by cases hv; exact ⟨rfl, rfl⟩
              replace hc := (hc i hlt2).of_new hbc
              rw [drop_mem hlt2, List.all_cons] at hmm
              generalize m.members.getD i mem0 = y at *
              have hO := fun w' => RMember_any y w'
              have hmb : memB0 y = (memB y && decide (y.since = 0)) := rfl
              rw [hmb] at hmm
              generalize memB y = B at *
              obtain ⟨d0, d1, d2, d3⟩ := hc
              obtain ⟨y0, y1, y2, y3⟩ := y
              dsimp only at *
              have HM2 := Lib.hid hmm
              clear hv hmm hlt2 hmb
              cases B with
              | false =>
                go_wp2_with (first | (go_at_call 27; refine (hO _).mono ?_; rintro e w2 ⟨rfl, hb2⟩))
                go_ret
                exact ⟨ret_bool (by rw [HRR4.out, HM2.out]; rfl), below_next hbw hb2⟩
              | true =>
                have d3' := fun w' (h : Below wr.heap.size wr w') => (Grew.cell h d3)
                have e7'' := fun w' (h : Below wr.heap.size wr w') => (Grew.cell h e7')
                by_cases hy3 : y3 = 0
                · have t : (y3 != 0) = false := by simp [hy3]
                  have HY := Lib.hid hy3
                  clear hy3
                  go_wp2_with (first | (go_at_call 27; refine (hO _).mono ?_; rintro e w2 ⟨rfl, hb2⟩; have f3 := d3' _ hb2; have f7 := e7'' _ hb2))
                  go_roundw
                  case rel => exact ⟨i + 1, by omega, by go_num, by rw [HM2.out, HY.out]; rfl, below_next hbw hb2, below_next hbc hb2⟩
                  case measure => simp [intOf]; omega
                · have t : (y3 != 0) = true := by simp [hy3]
                  have HY := Lib.hid hy3
                  clear hy3
                  go_wp2_with (first | (go_at_call 27; refine (hO _).mono ?_; rintro e w2 ⟨rfl, hb2⟩; have f3 := d3' _ hb2; have f7 := e7'' _ hb2))
                  go_ret
                  exact ⟨ret_bool (by rw [HRR4.out, HM2.out, decide_eq_false HY.out]; rfl), below_next hbw hb2⟩
            · rw [List.drop_of_length_le (by have := HNM.out; omega)] at hmm
              have HN := Lib.hid hmm
              clear hmm
              go_wp2
              go_ret
              exact ⟨ret_bool (by rw [HRR4.out, HN.out]; rfl), hbw⟩

end Go.Proofs.Ytnomekfemadpeaa

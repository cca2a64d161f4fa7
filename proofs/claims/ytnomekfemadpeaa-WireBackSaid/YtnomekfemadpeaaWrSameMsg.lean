/- The walk of the document's answer's Same at messages. No condition. -/
import Derived.Test.YtnomekfemadpeaaWrSame
import Derived.Test.YtnomekfemadpeaaWrBare
namespace Go.Proofs.Ytnomekfemadpeaa
open Go.RowKit
set_option linter.unusedVariables false
set_option linter.unusedSimpArgs false
set_option maxRecDepth 100000

theorem msg_boxed2 (w : World) {a b : MsgL} {s u : MsgS} (h : a.hash.length = 32) (h2 : b.hash.length = 32) : ∃ W, (w.alloc (.cells (msgCells a s).toArray 29)).alloc (.cells (msgCells b u).toArray 29) = W ∧ MsgO W w.heap.size a s ∧ MsgO W (w.heap.size + 1) b u ∧ Below w.heap.size w W := by
  refine ⟨_, rfl, (msg_alloc w h).of_new ((Below.refl _ _).alloc (Nat.le_refl _) _), ?_, ((Below.refl _ w).alloc (Nat.le_refl _) _).alloc (by simp) _⟩
  have := msg_alloc (w.alloc (.cells (msgCells a s).toArray 29)) (m := b) (s := u) h2
  rwa [World.size_alloc] at this

set_option maxHeartbeats 6400000 in
theorem SameMsg_any (a b : MsgL) (s u : MsgS) (w : World) (ha : MsgR w a s) (hb : MsgR w b u) :
    Calls Try.prog 14 #[MsgV a s, MsgV b u] w fun e w' => e = .returned (.bool (decide (a = b))) ∧ Below w.heap.size w w' := by
  obtain ⟨W, hW, hoa, hob, hbb⟩ := msg_boxed2 w (s := s) (u := u) ha.hash hb.hash
  rw [show MsgV a s = .agg (msgCells a s).toArray from rfl, show MsgV b u = .agg (msgCells b u).toArray from rfl]
  have haW := ha.of_new hbb
  have hbW := hb.of_new hbb
  obtain ⟨va, ca, hva⟩ := haW.bytes.len
  obtain ⟨vb, cb, hvb⟩ := hbW.bytes.len
  have a4 := hoa.ids
  have a6 := hoa.proof
  have a7 := hoa.members
  have b4 := hob.ids
  have b6 := hob.proof
  have b7 := hob.members
  have hS1 := SameInts_any s.vi u.vi a.ids b.ids W haW.ids hbW.ids
  have hS2 := fun w' (h : Below W.heap.size W w') => Same_any s.vp u.vp a.proof b.proof w' (haW.proof.of_new h) (hbW.proof.of_new h)
  have hS3 := fun w' (h : Below W.heap.size W w') => SameMems_any s.vm u.vm a.members b.members w' (haW.members.of_new h) (hbW.members.of_new h)
  obtain ⟨x4, y4, hx4⟩ := haW.ids.len
  obtain ⟨x6, y6, hx6⟩ := haW.proof.len
  obtain ⟨x7, y7, hx7⟩ := haW.members.len
  obtain ⟨z4, t4, hz4⟩ := hbW.ids.len
  obtain ⟨z6, t6, hz6⟩ := hbW.proof.len
  obtain ⟨z7, t7, hz7⟩ := hbW.members.len
  rw [hx4] at a4 hS1
  rw [hz4] at b4 hS1
  rw [hx6] at a6 hS2
  rw [hz6] at b6 hS2
  rw [hx7] at a7 hS3
  rw [hz7] at b7 hS3
  have HA := Lib.hid haW
  have HB := Lib.hid hbW
  have HOA := Lib.hid hoa
  have HOB := Lib.hid hob
  have HW := Lib.hid hW
  have HS1 := Lib.hid hS1
  have HS2 := Lib.hid hS2
  have HS3 := Lib.hid hS3
  have HVA := Lib.hid hva
  have HVB := Lib.hid hvb
  have gla := hoa.lt
  have glb := hob.lt
  have hne : ∀ (q : Prop) [Decidable q], (a = b → q) → ¬ q → decide (a = b) = false := fun q _ h1 h2 => decide_eq_false fun e => h2 (h1 e)
  have HNE := Lib.hid hne
  obtain ⟨D, hD⟩ : ∃ D, decide (a = b) = D := ⟨_, rfl⟩
  have hdn : ∀ (q : Prop), (a = b → q) → ¬ q → D = false := fun q h1 h2 => by rw [← hD]; exact decide_eq_false fun e => h2 (h1 e)
  have hdy : a.kind = b.kind → a.hash = b.hash → a.piece = b.piece → a.ids = b.ids → a.bytes = b.bytes → a.proof = b.proof → a.members = b.members → D = decide (a.seed = b.seed) := fun e1 e2 e3 e4 e5 e6 e7 => by
    rw [← hD]
    obtain ⟨k1, h1, p1, i1, b1, q1, m1, d1⟩ := a
    obtain ⟨k2, h2, p2, i2, b2, q2, m2, d2⟩ := b
    dsimp only at *
    subst e1 e2 e3 e4 e5 e6 e7
    simp
  rw [hD]
  have HDN := Lib.hid hdn
  have HDY := Lib.hid hdy
  clear hW ha hb haW hbW hoa hob hva hvb hS1 hS2 hS3 hx4 hx6 hx7 hz4 hz6 hz7 hne HNE hD hdn hdy
  go_enter Try.func14, Try.ntmps14
  go_upto_region 1 with (fail)
  rw [HW.out]
  go_upto_region 2 with (first | (go_at_call 28; refine HS1.out.mono ?_; rintro e w1 ⟨rfl, hb1⟩))
  have a6' := Grew.cell hb1 a6
  have b6' := Grew.cell hb1 b6
  go_upto_region 3 with (first | (go_at_call 29; refine (HS2.out _ hb1).mono ?_; rintro e w2 ⟨rfl, hb2⟩))
  have hB2 := below_next hb1 hb2
  have a7' := Grew.cell hB2 a7
  have b7' := Grew.cell hB2 b7
  go_upto_region 4 with (first | (go_at_call 30; refine (HS3.out _ hB2).mono ?_; rintro e w3 ⟨rfl, hb3⟩))
  have hB3 := below_next hB2 hb3
  have hF := below_next hbb hB3
  have oa := HOA.out.of_new hB3
  have ob := HOB.out.of_new hB3
  have a0 := oa.kind
  have a1 := oa.hash
  have a3 := oa.piece
  have a5 := oa.bytes
  have a8 := oa.seed
  have b0 := ob.kind
  have b1 := ob.hash
  have b3 := ob.piece
  have b5 := ob.bytes
  have b8 := ob.seed
  rw [HVA.out] at a5
  rw [HVB.out] at b5
  have ra := HA.out.bytes.of_new hB3
  have rb := HB.out.bytes.of_new hB3
  rw [HVA.out] at ra
  rw [HVB.out] at rb
  have s1 := ra.string (P := Try.prog) (t := 25) (d := 9) Try.underlying25 Try.underlying5 Try.underlying9
  have s2 := rb.string (P := Try.prog) (t := 25) (d := 9) Try.underlying25 Try.underlying5 Try.underlying9
  have hgd := guard_dig
  have heq := run_eql_dig a.hash b.hash a1.1 b1.1
  have hse := str_eq a.bytes b.bytes
  have A1 := Lib.hid a1
  have B1 := Lib.hid b1
  clear oa ob ra rb a4 b4 a6 b6 a7 b7 a6' b6' a7' b7' a1 b1 HA HB HOA HOB HW HS1 HS2 HS3
  by_cases c0 : a.kind = b.kind
  case neg =>
    have t : (a.kind == b.kind) = false := beq_eq_false_iff_ne.2 c0
    have HC := Lib.hid (HDN.out _ (fun e => by rw [e]) c0)
    clear c0
    go_wp2
    go_ret
    exact ⟨ret_bool HC.out.symm, hF⟩
  have t0 : (a.kind == b.kind) = true := beq_iff_eq.2 c0
  have C0 := Lib.hid c0
  clear c0
  by_cases c1 : a.hash = b.hash
  case neg =>
    rw [decide_eq_false c1] at heq
    have HC := Lib.hid (HDN.out _ (fun e => by rw [e]) c1)
    clear c1
    go_wp2_with (first
      | ((with_reducible refine wpList_met (o := ⟨some 30, _, _, _, _, _⟩) ?_ ?_); rfl; intro K hK; refine wp_load_at (ty := 23) (x := .tmp 29) rfl rfl A1.out (hK _ _ ?_))
      | ((with_reducible refine wpList_met (o := ⟨some 32, _, _, _, _, _⟩) ?_ ?_); rfl; intro K hK; refine wp_load_at (ty := 23) (x := .tmp 31) rfl rfl B1.out (hK _ _ ?_)))
    go_ret
    exact ⟨ret_bool HC.out.symm, hF⟩
  rw [decide_eq_true c1] at heq
  have C1 := Lib.hid c1
  clear c1
  by_cases c3 : a.piece = b.piece
  case neg =>
    have t : (a.piece == b.piece) = false := beq_eq_false_iff_ne.2 c3
    have HC := Lib.hid (HDN.out _ (fun e => by rw [e]) c3)
    clear c3
    go_wp2_with (first
      | ((with_reducible refine wpList_met (o := ⟨some 30, _, _, _, _, _⟩) ?_ ?_); rfl; intro K hK; refine wp_load_at (ty := 23) (x := .tmp 29) rfl rfl A1.out (hK _ _ ?_))
      | ((with_reducible refine wpList_met (o := ⟨some 32, _, _, _, _, _⟩) ?_ ?_); rfl; intro K hK; refine wp_load_at (ty := 23) (x := .tmp 31) rfl rfl B1.out (hK _ _ ?_)))
    go_ret
    exact ⟨ret_bool HC.out.symm, hF⟩
  have t3 : (a.piece == b.piece) = true := beq_iff_eq.2 c3
  have C3 := Lib.hid c3
  clear c3
  by_cases c4 : a.ids = b.ids
  case neg =>
    rw [decide_eq_false c4]
    have HC := Lib.hid (HDN.out _ (fun e => by rw [e]) c4)
    clear c4
    go_wp2_with (first
      | ((with_reducible refine wpList_met (o := ⟨some 30, _, _, _, _, _⟩) ?_ ?_); rfl; intro K hK; refine wp_load_at (ty := 23) (x := .tmp 29) rfl rfl A1.out (hK _ _ ?_))
      | ((with_reducible refine wpList_met (o := ⟨some 32, _, _, _, _, _⟩) ?_ ?_); rfl; intro K hK; refine wp_load_at (ty := 23) (x := .tmp 31) rfl rfl B1.out (hK _ _ ?_)))
    go_ret
    exact ⟨ret_bool HC.out.symm, hF⟩
  rw [decide_eq_true c4]
  have C4 := Lib.hid c4
  clear c4
  by_cases c5 : a.bytes = b.bytes
  case neg =>
    rw [decide_eq_false c5] at hse
    have t5 : decide (a.bytes = b.bytes) = false := decide_eq_false c5
    have t6 : (a.bytes == b.bytes) = false := by simp [c5]
    have t7 : (a.bytes.toArray == b.bytes.toArray) = false := by simp [c5]
    have HC := Lib.hid (HDN.out _ (fun e => by rw [e]) c5)
    clear c5
    go_wp2_with (first
      | ((with_reducible refine wpList_met (o := ⟨some 30, _, _, _, _, _⟩) ?_ ?_); rfl; intro K hK; refine wp_load_at (ty := 23) (x := .tmp 29) rfl rfl A1.out (hK _ _ ?_))
      | ((with_reducible refine wpList_met (o := ⟨some 32, _, _, _, _, _⟩) ?_ ?_); rfl; intro K hK; refine wp_load_at (ty := 23) (x := .tmp 31) rfl rfl B1.out (hK _ _ ?_)))
    go_ret
    exact ⟨ret_bool HC.out.symm, hF⟩
  rw [decide_eq_true c5] at hse
  have t5 : decide (a.bytes = b.bytes) = true := decide_eq_true c5
  have t6 : (a.bytes == b.bytes) = true := by simp [c5]
  have t7 : (a.bytes.toArray == b.bytes.toArray) = true := by simp [c5]
  have C5 := Lib.hid c5
  clear c5
  by_cases c6 : a.proof = b.proof
  case neg =>
    rw [decide_eq_false c6]
    have HC := Lib.hid (HDN.out _ (fun e => by rw [e]) c6)
    clear c6
    go_wp2_with (first
      | ((with_reducible refine wpList_met (o := ⟨some 30, _, _, _, _, _⟩) ?_ ?_); rfl; intro K hK; refine wp_load_at (ty := 23) (x := .tmp 29) rfl rfl A1.out (hK _ _ ?_))
      | ((with_reducible refine wpList_met (o := ⟨some 32, _, _, _, _, _⟩) ?_ ?_); rfl; intro K hK; refine wp_load_at (ty := 23) (x := .tmp 31) rfl rfl B1.out (hK _ _ ?_)))
    go_ret
    exact ⟨ret_bool HC.out.symm, hF⟩
  rw [decide_eq_true c6]
  have C6 := Lib.hid c6
  clear c6
  by_cases c7 : a.members = b.members
  case neg =>
    rw [decide_eq_false c7]
    have HC := Lib.hid (HDN.out _ (fun e => by rw [e]) c7)
    clear c7
    go_wp2_with (first
      | ((with_reducible refine wpList_met (o := ⟨some 30, _, _, _, _, _⟩) ?_ ?_); rfl; intro K hK; refine wp_load_at (ty := 23) (x := .tmp 29) rfl rfl A1.out (hK _ _ ?_))
      | ((with_reducible refine wpList_met (o := ⟨some 32, _, _, _, _, _⟩) ?_ ?_); rfl; intro K hK; refine wp_load_at (ty := 23) (x := .tmp 31) rfl rfl B1.out (hK _ _ ?_)))
    go_ret
    exact ⟨ret_bool HC.out.symm, hF⟩
  rw [decide_eq_true c7]
  have HC := Lib.hid (HDY.out C0.out C1.out C3.out C4.out C5.out C6.out c7)
  clear c7
  go_wp2_with (first
    | ((with_reducible refine wpList_met (o := ⟨some 30, _, _, _, _, _⟩) ?_ ?_); rfl; intro K hK; refine wp_load_at (ty := 23) (x := .tmp 29) rfl rfl A1.out (hK _ _ ?_))
    | ((with_reducible refine wpList_met (o := ⟨some 32, _, _, _, _, _⟩) ?_ ?_); rfl; intro K hK; refine wp_load_at (ty := 23) (x := .tmp 31) rfl rfl B1.out (hK _ _ ?_)))
  go_ret
  refine ⟨ret_bool ?_, hF⟩
  rw [HC.out, Bool.eq_iff_iff]
  simp

end Go.Proofs.Ytnomekfemadpeaa

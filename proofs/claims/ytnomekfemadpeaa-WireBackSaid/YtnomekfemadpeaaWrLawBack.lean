/- The walk of the law WireBack: it answers true. No condition. -/
import Derived.Test.YtnomekfemadpeaaGa
import Derived.Test.YtnomekfemadpeaaWrDecode
import Derived.Test.YtnomekfemadpeaaWrSameMsg
import Derived.Test.YtnomekfemadpeaaWrLawFew
namespace Go.Proofs.Ytnomekfemadpeaa
open Go.RowKit
set_option linter.unusedVariables false
set_option linter.unusedSimpArgs false
set_option maxRecDepth 100000

set_option maxHeartbeats 6400000 in
theorem WireBack_walk (m : MsgL) (s : MsgS) (v : Value) (b : List UInt8) (w : World) (hm : MsgR w m s) (hl : Bytes w v b) :
    Calls Try.prog 7 #[MsgV m s, v] w fun e w' => e = .returned (.bool true) ∧ Below w.heap.size w w' := by
  obtain ⟨va, vc, hv⟩ := hl.len
  have hle := hl.le
  have HL := Lib.hid hl
  clear hl
  subst hv
  obtain ⟨W, hW, ho, hb⟩ := msg_boxed w (s := s) hm.hash
  rw [show MsgV m s = .agg (msgCells m s).toArray from rfl]
  have HM := Lib.hid hm
  have HO := Lib.hid ho
  have HW := Lib.hid hW
  clear hW hm ho
  go_enter Try.func7, Try.ntmps7
  go_upto_region 1 with (fail)
  rw [HW.out]
  go_wp2_with fail
  refine (awake17_any W).mono ?_
  rintro e w1 ⟨rfl, hb1⟩
  have hbA := below_next hb hb1
  have HO1 := Lib.hid (HO.out.of_new hb1)
  clear hb1
  go_upto_region 3 with (first
    | ((with_reducible refine wpList_plain (o := ⟨some 17, Op.load 29 _, _, _, _, _⟩) rfl fun K hK => ?_); (refine wp_load_msg (g := w.heap.size) (m := m) (s := s) rfl rfl HO1.out (hK _ _ ?_)))
    | (go_at_call 9; refine (few17_any m s _ (HM.out.of_new hbA)).mono ?_; rintro e w2 ⟨rfl, hb2⟩))
  have hbB := below_next hbA hb2
  have HO2 := Lib.hid (HO1.out.of_new hb2)
  clear hb2
  rcases hf : fewB m with _ | _
  · go_wp2
    go_ret
    exact ⟨rfl, hbB⟩
  clear hf
  by_cases hbig : 30000 < b.length
  · have t0 : (30000 : Int) < (b.length : Int) := by omega
    go_wp2
    go_ret
    exact ⟨rfl, hbB⟩
  have t0 : ¬ (30000 : Int) < (b.length : Int) := by omega
  have hE := fun w' (h : Below w.heap.size w w') => Encode17_any m s w' (HM.out.of_new h)
  obtain ⟨C, hC⟩ : ∃ C, encM m = C := ⟨_, rfl⟩
  rw [hC] at hE
  have HE := Lib.hid hE
  have HC := Lib.hid hC
  clear hE hC hbig
  -- the second half, from whatever world
  have hD := fun W (h : Bytes W (.slice va b.length vc) b) => Decode17_any _ b W h
  obtain ⟨R, hR⟩ : ∃ R, decP b = R := ⟨_, rfl⟩
  rw [hR] at hD
  have HD := Lib.hid hD
  have HR := Lib.hid hR
  clear hD hR
  go_upto_region 6 with (first
    | ((with_reducible refine wpList_plain (o := ⟨some 32, Op.load 29 _, _, _, _, _⟩) rfl fun K hK => ?_); (refine wp_load_msg (g := w.heap.size) (m := m) (s := s) rfl rfl HO2.out (hK _ _ ?_)))
    | (go_at_call 10; refine (HE.out _ hbB).mono ?_; intro e w3 hp; obtain ⟨v3, rfl, hv3, hb3⟩ := hp.both; obtain ⟨a3, c3, hv⟩ := hv3.len; subst hv; have HV3 := Lib.hid hv3; have HBC := Lib.hid (below_next hbB hb3); have HO3 := Lib.hid (HO2.out.of_new hb3); clear hp hv3 hb3))
  have HBB := Lib.hid hbB
  clear hbA hbB hb
  have hdm : ∀ c, C = some c → decP c = some m ∧ c.length ≤ 20000 := fun c hc => by
    have h := HC.out.trans hc
    exact ⟨decP_iff.2 ⟨h, HM.out.hash, HM.out.proof.1⟩, encM_le h HM.out.hash HM.out.proof.1⟩
  have HDM := Lib.hid hdm
  clear hdm
  rcases C with _ | c
  case' none =>
    have e0 : errE (none : Option (List UInt8)) = 1 := rfl
    go_upto_region 11 with (fail)
    have HBX := HBC
    clear e0
  case' some =>
    have e0 : errE (some c) = 0 := rfl
    obtain ⟨hdc, hcl⟩ := HDM.out c rfl
    have hdd := fun W h => Decode17_any (.slice a3 c.length c3) c W h
    rw [hdc] at hdd
    have HDD := Lib.hid hdd
    rw [Option.getD_some] at HV3 ⊢
    have hcI : ¬ (20000 : Int) < (c.length : Int) := by omega
    clear hdc hdd hcl
    go_upto_region 8 with (first
      | (go_at_call 15; refine (HDD.out _ HV3.out).mono ?_; rintro e w4 ⟨m4, s4, rfl, hm4, hr4, hb4⟩; rw [Option.getD_some] at hm4; subst m4; have HR4 := Lib.hid hr4; have HB4 := Lib.hid (below_next HBC.out hb4); have HO4 := Lib.hid (HO3.out.of_new hb4); clear hr4 hb4)
      | ((with_reducible refine wpList_plain (o := ⟨some 9, Op.alloc _, _, _, _, _⟩) rfl fun K hK => ?_); (refine wp_alloc_msg rfl fun w5 hF5 hb5 hs5 => hK _ _ ?_); have HF5 := Lib.hid hF5; have HB45 := Lib.hid hb5; have HR5 := Lib.hid (HR4.out.of_new hb5); clear hF5 hb5 hs5)
      | ((with_reducible refine wpList_plain (o := ⟨none, Op.store _ (.tmp 9) (.tmp 41), _, _, _, _⟩) rfl fun K hK => ?_); (refine wp_store_msg (.tmp 9) (.tmp 41) w4.heap.size m msgZ s4 sN rfl rfl rfl HR5.out HF5.out.o fun w6 hO6 hg6 hs6 => hK _ _ ?_); have HO6 := Lib.hid hO6; have HG6 := Lib.hid hg6; clear hO6 hg6 hs6))
    have hb46 : Below w4.heap.size w4 w6 := HB45.out.grown HG6.out (by have := HB45.out.size; omega) (fun k e => by cases e; exact Nat.le_refl _)
    have hb6 := below_next HB4.out hb46
    have HS6 := Lib.hid (SameMsg_any m m s4 s w6 (HR4.out.of_new hb46) (HM.out.of_new hb6))
    have HO46 := Lib.hid (HO4.out.of_new hb46)
    have HB6 := Lib.hid hb6
    clear hb46 hb6
    go_upto_region 11 with (first
      | ((with_reducible refine wpList_plain (o := ⟨some 43, Op.load 29 _, _, _, _, _⟩) rfl fun K hK => ?_); (refine wp_load_msg (g := w4.heap.size) (m := m) (s := s4) rfl rfl HO6.out (hK _ _ ?_)))
      | ((with_reducible refine wpList_plain (o := ⟨some 44, Op.load 29 _, _, _, _, _⟩) rfl fun K hK => ?_); (refine wp_load_msg (g := w.heap.size) (m := m) (s := s) rfl rfl HO46.out (hK _ _ ?_)))
      | (go_at_call 14; refine HS6.out.mono ?_; rintro e w7 ⟨rfl, hb7⟩; have HBX := Lib.hid (below_next HB6.out hb7); clear hb7))
    clear e0
  all_goals
    rcases R with _ | x
    · go_wp2_with (first
        | (go_at_call 15; refine (HD.out _ (HL.out.of_new HBX.out)).mono ?_; rintro e w8 ⟨m8, s8, rfl, hm8, hr8, hb8⟩; have HR8 := Lib.hid hr8; have HB8 := Lib.hid (below_next HBX.out hb8); clear hr8 hb8 hm8)
        | ((with_reducible refine wpList_plain (o := ⟨some 12, Op.alloc _, _, _, _, _⟩) rfl fun K hK => ?_); (refine wp_alloc_msg rfl fun w9 hF9 hb9 hs9 => hK _ _ ?_); have HF9 := Lib.hid hF9; have HB89 := Lib.hid hb9; have HR9 := Lib.hid (HR8.out.of_new hb9); clear hF9 hb9 hs9)
        | ((with_reducible refine wpList_plain (o := ⟨none, Op.store _ (.tmp 12) (.tmp 60), _, _, _, _⟩) rfl fun K hK => ?_); (refine wp_store_msg (.tmp 12) (.tmp 60) w8.heap.size m8 msgZ s8 sN rfl rfl rfl HR9.out HF9.out.o fun wx hOx hgx hsx => hK _ _ ?_); have HBY := Lib.hid (below_next HB8.out (HB89.out.grown hgx (by have := HB89.out.size; omega) (fun k e => by cases e; exact Nat.le_refl _))); clear hOx hgx hsx))
      go_ret
      exact ⟨rfl, HBY.out⟩
    · have hen := (decP_iff.1 HR.out).1
      have hee := fun W s (h : MsgR W x s) => Encode17_any x s W h
      rw [hen] at hee
      have HEE := Lib.hid hee
      have e0 : errE (some b) = 0 := rfl
      have e3 := str_same b
      have e4 : (b == b) = true := by simp
      clear hen hee
      go_upto_region 15 with (first
        | (go_at_call 15; refine (HD.out _ (HL.out.of_new HBX.out)).mono ?_; rintro e w8 ⟨m8, s8, rfl, hm8, hr8, hb8⟩; rw [Option.getD_some] at hm8; subst m8; have HR8 := Lib.hid hr8; have HB8 := Lib.hid (below_next HBX.out hb8); clear hr8 hb8)
        | ((with_reducible refine wpList_plain (o := ⟨some 12, Op.alloc _, _, _, _, _⟩) rfl fun K hK => ?_); (refine wp_alloc_msg rfl fun w9 hF9 hb9 hs9 => hK _ _ ?_); have HF9 := Lib.hid hF9; have HB89 := Lib.hid hb9; have HR9 := Lib.hid (HR8.out.of_new hb9); clear hF9 hb9 hs9)
        | ((with_reducible refine wpList_plain (o := ⟨none, Op.store _ (.tmp 12) (.tmp 60), _, _, _, _⟩) rfl fun K hK => ?_); (refine wp_store_msg (.tmp 12) (.tmp 60) w8.heap.size x msgZ s8 sN rfl rfl rfl HR9.out HF9.out.o fun wx hOx hgx hsx => hK _ _ ?_); have hb8x := HB89.out.grown hgx (by have := HB89.out.size; omega) (fun k e => by cases e; exact Nat.le_refl _); have HOX := Lib.hid hOx; have HRX := Lib.hid (HR8.out.of_new hb8x); have HBY := Lib.hid (below_next HB8.out hb8x); clear hOx hgx hsx hb8x)
        | ((with_reducible refine wpList_plain (o := ⟨some 67, Op.load 29 _, _, _, _, _⟩) rfl fun K hK => ?_); (refine wp_load_msg (g := w8.heap.size) (m := x) (s := s8) rfl rfl HOX.out (hK _ _ ?_)))
        | (go_at_call 10; refine (HEE.out _ _ HRX.out).mono ?_; intro e wy hp; obtain ⟨vy, rfl, hvy, hby⟩ := hp.both; obtain ⟨ay, cy, hv⟩ := hvy.len; subst hv; rw [Option.getD_some] at hvy ⊢; have HVY := Lib.hid hvy; have HBZ := Lib.hid (below_next HBY.out hby); clear hp hvy hby))
      have s1 := (HVY.out).string (P := Try.prog) (t := 25) (d := 9) Try.underlying25 Try.underlying5 Try.underlying9
      have s2 := (Bytes.of_new HL.out HBZ.out).string (P := Try.prog) (t := 25) (d := 9) Try.underlying25 Try.underlying5 Try.underlying9
      go_wp2
      go_ret
      exact ⟨rfl, HBZ.out⟩

end Go.Proofs.Ytnomekfemadpeaa

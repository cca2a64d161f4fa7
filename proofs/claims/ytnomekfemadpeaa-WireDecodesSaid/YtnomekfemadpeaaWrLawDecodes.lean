/- The walk of the law WireDecodes: it answers true. No condition. -/
import Derived.Test.YtnomekfemadpeaaWrRefDecode
import Derived.Test.YtnomekfemadpeaaWrSameMsg
import Derived.Test.YtnomekfemadpeaaWrLawFew
namespace Go.Proofs.Ytnomekfemadpeaa
open Go.RowKit
set_option linter.unusedVariables false
set_option linter.unusedSimpArgs false
set_option maxRecDepth 100000

set_option maxHeartbeats 3200000 in
theorem WireDecodes_walk (v : Value) (b : List UInt8) (w : World) (hl : Bytes w v b) :
    Calls Try.prog 6 #[v] w fun e w' => e = .returned (.bool true) ∧ Below w.heap.size w w' := by
  obtain ⟨va, vc, hv⟩ := hl.len
  have hle := hl.le
  have HL := Lib.hid hl
  clear hl
  subst hv
  obtain ⟨R, hR⟩ : ∃ R, decP b = R := ⟨_, rfl⟩
  have hE := fun W (h : Bytes W (.slice va b.length vc) b) => Decode17_any _ b W h
  have hF := fun W (h : Bytes W (.slice va b.length vc) b) => RDecode17_any _ b W h
  rw [hR] at hE hF
  have HE := Lib.hid hE
  have HF := Lib.hid hF
  clear hE hF hR
  go_enter Try.func6, Try.ntmps6
  go_wp2_with fail
  refine (awake17_any _).mono ?_
  rintro e w1 ⟨rfl, hb⟩
  have HB1 := Lib.hid hb
  by_cases hbig : 30000 < b.length
  · have t0 : (30000 : Int) < (b.length : Int) := by omega
    go_wp2
    go_ret
    exact ⟨rfl, hb⟩
  have t0 : ¬ (30000 : Int) < (b.length : Int) := by omega
  obtain ⟨i, hi⟩ : ∃ i : Int, (if R.isSome = true then (0 : Int) else 2) = i := ⟨_, rfl⟩
  have HI := Lib.hid hi
  clear hb hi
  go_upto_region 5 with (first
    | (go_at_call 15; refine (HE.out _ (HL.out.of_new HB1.out)).mono ?_; rintro e w2 ⟨m2, s2, rfl, hm2, hr2, hb2⟩; rw [HI.out]; have HM2 := Lib.hid hm2; have HR2 := Lib.hid hr2; have HB2 := Lib.hid (below_next HB1.out hb2); clear hm2 hr2 hb2)
    | ((with_reducible refine wpList_plain (o := ⟨some 4, Op.alloc _, _, _, _, _⟩) rfl fun K hK => ?_); (refine wp_alloc_msg rfl fun w3 hF3 hb3 hs3 => hK _ _ ?_); have HF3 := Lib.hid hF3; have HB23 := Lib.hid hb3; have HR3 := Lib.hid (HR2.out.of_new hb3); clear hF3 hb3 hs3)
    | ((with_reducible refine wpList_plain (o := ⟨none, Op.store _ (.tmp 4) (.tmp 17), _, _, _, _⟩) rfl fun K hK => ?_); (refine wp_store_msg (.tmp 4) (.tmp 17) w2.heap.size m2 msgZ s2 sN rfl rfl rfl HR3.out HF3.out.o fun w4 hO4 hg4 hs4 => hK _ _ ?_); have hb24 := HB23.out.grown hg4 (by have := HB23.out.size; omega) (fun k e => by cases e; exact Nat.le_refl _); have HO4 := Lib.hid hO4; have HR4 := Lib.hid (HR2.out.of_new hb24); have HB4 := Lib.hid (below_next HB2.out hb24); clear hO4 hg4 hs4 hb24))
  obtain ⟨G1, hG1⟩ : ∃ G1, w2.heap.size = G1 := ⟨_, rfl⟩
  rw [hG1] at HO4 ⊢
  clear hG1
  go_upto_region 6 with (first
    | (go_at_call 16; refine (HF.out _ (HL.out.of_new HB4.out)).mono ?_; rintro e w5 ⟨m5, s5, rfl, hm5, hr5, hb5⟩; rw [HI.out, hm5, ← HM2.out]; rw [← HM2.out] at hm5; subst m5; have HR5 := Lib.hid hr5; have HB5 := Lib.hid (below_next HB4.out hb5); have HR45 := Lib.hid (HR4.out.of_new hb5); have HO5 := Lib.hid (HO4.out.of_new hb5); clear hr5 hb5)
    | ((with_reducible refine wpList_plain (o := ⟨some 6, Op.alloc _, _, _, _, _⟩) rfl fun K hK => ?_); (refine wp_alloc_msg rfl fun w6 hF6 hb6 hs6 => hK _ _ ?_); have HF6 := Lib.hid hF6; have HB56 := Lib.hid hb6; have HR6 := Lib.hid (HR5.out.of_new hb6); clear hF6 hb6 hs6)
    | ((with_reducible refine wpList_plain (o := ⟨none, Op.store _ (.tmp 6) (.tmp 22), _, _, _, _⟩) rfl fun K hK => ?_); (refine wp_store_msg (.tmp 6) (.tmp 22) w5.heap.size m2 msgZ s5 sN rfl rfl rfl HR6.out HF6.out.o fun w7 hO7 hg7 hs7 => hK _ _ ?_); have hb57 := HB56.out.grown hg7 (by have := HB56.out.size; omega) (fun k e => by cases e; exact Nat.le_refl _); have HO7 := Lib.hid hO7; have HR57 := Lib.hid (HR5.out.of_new hb57); have HR47 := Lib.hid (HR45.out.of_new hb57); have HO57 := Lib.hid (HO5.out.of_new hb57); have HB7 := Lib.hid (below_next HB5.out hb57); clear hO7 hg7 hs7 hb57))
  have hS := SameMsg_any m2 m2 s2 s5 w7 HR47.out HR57.out
  rw [show decide (m2 = m2) = true by simp] at hS
  have HS := Lib.hid hS
  have e0 : (i == i) = true := by simp
  clear hS
  go_wp2_with (first
    | ((with_reducible refine wpList_plain (o := ⟨some 24, Op.load 29 _, _, _, _, _⟩) rfl fun K hK => ?_); (refine wp_load_msg (g := G1) (m := m2) (s := s2) rfl rfl HO57.out (hK _ _ ?_)))
    | ((with_reducible refine wpList_plain (o := ⟨some 25, Op.load 29 _, _, _, _, _⟩) rfl fun K hK => ?_); (refine wp_load_msg (g := w5.heap.size) (m := m2) (s := s5) rfl rfl HO7.out (hK _ _ ?_)))
    | (go_at_call 14; refine HS.out.mono ?_; rintro e w8 ⟨rfl, hb8⟩; have HB8 := Lib.hid (below_next HB7.out hb8); clear hb8))
  go_ret
  exact ⟨rfl, HB8.out⟩

end Go.Proofs.Ytnomekfemadpeaa

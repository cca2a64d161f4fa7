/- The walks of the reference's sign and Text, and of both texts' value. Condition: a hash of 32 bytes. -/
import Derived.Test.YtakdbhehacbokaaDoorShaText
namespace Go.Proofs.YtakdbhehacbokaaDoor
open Go.RowKit
set_option linter.unusedVariables false

theorem hexc_nat (n : Nat) (hn : n < 16) : (hexc n).toNat = if n < 10 then 48 + n else 87 + n := by
  unfold hexc; split <;> simp <;> omega

set_option maxRecDepth 100000 in
theorem sign_any (n : Nat) (w : World) (hn : n < 16) :
    Calls Tryd.prog 34 #[.int .u8 (n : Int)] w fun e w' => e = .returned (.int .u8 ((hexc n).toNat : Int)) ∧ w = w' := by
  have h := hexc_nat n hn
  have n0 : (0 : Int) ≤ (n : Int) := by omega
  have n1 : (n : Int) < 16 := by omega
  by_cases h10 : n < 10
  · rw [if_pos h10] at h
    have H := Lib.hid h
    have t : (n : Int) < 10 := by omega
    clear h
    go_enter Tryd.func34, Tryd.ntmps34
    go_wp2
    go_ret
    exact ⟨ret_int (by rw [H.out]; omega), rfl⟩
  · rw [if_neg h10] at h
    have H := Lib.hid h
    have t : ¬ (n : Int) < 10 := by omega
    clear h
    go_enter Tryd.func34, Tryd.ntmps34
    go_wp2
    go_ret
    exact ⟨ret_int (by rw [H.out]; omega), rfl⟩

set_option maxRecDepth 100000 in
theorem RValue_any (c : UInt8) (w : World) :
    Calls Tryd.prog 33 #[.int .u8 (c.toNat : Int)] w fun e w' => e = .returned (.int .u8 (valN c : Int)) ∧ w = w' := by
  have hc := c.toNat_lt
  have n0 : (0 : Int) ≤ (c.toNat : Int) := by omega
  have n1 : (c.toNat : Int) < 256 := by omega
  have cases : (c.toNat < 48 ∧ valN c = 16) ∨ (48 ≤ c.toNat ∧ c.toNat ≤ 57 ∧ valN c = c.toNat - 48) ∨ (57 < c.toNat ∧ c.toNat < 97 ∧ valN c = 16) ∨ (97 ≤ c.toNat ∧ c.toNat ≤ 102 ∧ valN c = c.toNat - 87) ∨ (102 < c.toNat ∧ valN c = 16) := by
    unfold valN; split <;> (try split) <;> omega
  rcases cases with ⟨h1, h⟩ | ⟨h1, h2, h⟩ | ⟨h1, h2, h⟩ | ⟨h1, h2, h⟩ | ⟨h1, h⟩
  · have t1 : (c.toNat : Int) < 48 := by omega
    have H := Lib.hid h
    clear h
    go_enter Tryd.func33, Tryd.ntmps33
    go_wp2
    go_ret
    exact ⟨ret_int (by rw [H.out]; rfl), rfl⟩
  · have t1 : (48 : Int) ≤ (c.toNat : Int) := by omega
    have t2 : (c.toNat : Int) ≤ 57 := by omega
    have H := Lib.hid h
    clear h
    go_enter Tryd.func33, Tryd.ntmps33
    go_wp2
    go_ret
    exact ⟨ret_int (by rw [H.out]; omega), rfl⟩
  · have t1 : (57 : Int) < (c.toNat : Int) := by omega
    have t2 : (c.toNat : Int) < 97 := by omega
    have H := Lib.hid h
    clear h
    go_enter Tryd.func33, Tryd.ntmps33
    go_wp2
    go_ret
    exact ⟨ret_int (by rw [H.out]; rfl), rfl⟩
  · have t1 : (97 : Int) ≤ (c.toNat : Int) := by omega
    have t2 : (c.toNat : Int) ≤ 102 := by omega
    have H := Lib.hid h
    clear h
    go_enter Tryd.func33, Tryd.ntmps33
    go_wp2
    go_ret
    exact ⟨ret_int (by rw [H.out]; omega), rfl⟩
  · have t1 : (102 : Int) < (c.toNat : Int) := by omega
    have H := Lib.hid h
    clear h
    go_enter Tryd.func33, Tryd.ntmps33
    go_wp2
    go_ret
    exact ⟨ret_int (by rw [H.out]; rfl), rfl⟩

set_option maxRecDepth 100000 in
theorem Value_any (c : UInt8) (w : World) :
    Calls Tryd.prog 32 #[.int .u8 (c.toNat : Int)] w fun e w' => e = .returned (.tuple #[.int .u8 (if valN c < 16 then (valN c : Int) else 0), .bool (decide (valN c < 16))]) ∧ w = w' := by
  have hc := c.toNat_lt
  have n0 : (0 : Int) ≤ (c.toNat : Int) := by omega
  have n1 : (c.toNat : Int) < 256 := by omega
  have cases : (c.toNat < 48 ∧ valN c = 16) ∨ (48 ≤ c.toNat ∧ c.toNat ≤ 57 ∧ valN c = c.toNat - 48) ∨ (57 < c.toNat ∧ c.toNat < 97 ∧ valN c = 16) ∨ (97 ≤ c.toNat ∧ c.toNat ≤ 102 ∧ valN c = c.toNat - 87) ∨ (102 < c.toNat ∧ valN c = 16) := by
    unfold valN; split <;> (try split) <;> omega
  rcases cases with ⟨h1, h⟩ | ⟨h1, h2, h⟩ | ⟨h1, h2, h⟩ | ⟨h1, h2, h⟩ | ⟨h1, h⟩
  · have t1 : (c.toNat : Int) < 48 := by omega
    rw [if_neg (by omega), show decide (valN c < 16) = false by simp; omega]
    clear h
    go_enter Tryd.func32, Tryd.ntmps32
    go_wp2
    go_ret2
    exact ⟨rfl, rfl⟩
  · have t1 : (48 : Int) ≤ (c.toNat : Int) := by omega
    have t2 : (c.toNat : Int) ≤ 57 := by omega
    rw [if_pos (by omega), show decide (valN c < 16) = true by simp; omega, show (valN c : Int) = (c.toNat : Int) - 48 by omega]
    clear h
    go_enter Tryd.func32, Tryd.ntmps32
    go_wp2
    go_ret2
    exact ⟨rfl, rfl⟩
  · have t1 : (57 : Int) < (c.toNat : Int) := by omega
    have t2 : (c.toNat : Int) < 97 := by omega
    rw [if_neg (by omega), show decide (valN c < 16) = false by simp; omega]
    clear h
    go_enter Tryd.func32, Tryd.ntmps32
    go_wp2
    go_ret2
    exact ⟨rfl, rfl⟩
  · have t1 : (97 : Int) ≤ (c.toNat : Int) := by omega
    have t2 : (c.toNat : Int) ≤ 102 := by omega
    rw [if_pos (by omega), show decide (valN c < 16) = true by simp; omega, show (valN c : Int) = (c.toNat : Int) - 97 + 10 by omega]
    clear h
    go_enter Tryd.func32, Tryd.ntmps32
    go_wp2
    go_ret2
    exact ⟨rfl, rfl⟩
  · have t1 : (102 : Int) < (c.toNat : Int) := by omega
    rw [if_neg (by omega), show decide (valN c < 16) = false by simp; omega]
    clear h
    go_enter Tryd.func32, Tryd.ntmps32
    go_wp2
    go_ret2
    exact ⟨rfl, rfl⟩

set_option maxRecDepth 100000 in
set_option maxHeartbeats 800000 in
theorem RText_any (d : List UInt8) (w : World) (hd : d.length = 32) :
    Calls Tryd.prog 26 #[.agg (d.map B8).toArray] w fun e w' => e = .returned (.string ⟨(textL d).toArray⟩) ∧ Below w.heap.size w w' := by
  obtain ⟨i0, hi, hz0, hz1, hz2⟩ := info_parts infoU8
  have HD := Lib.hid hd
  clear hd
  go_enter Tryd.func26, Tryd.ntmps26
  go_wp2
  generalize hW1 : w.alloc _ = W1
  obtain ⟨hR, hb, hz⟩ : Octs W1 w.heap.size 25 d ∧ Below w.heap.size w W1 ∧ w.heap.size + 1 = W1.heap.size := by
    subst hW1
    exact ⟨heap_alloc_new w _, (Below.refl _ w).alloc (Nat.le_refl _) _, by simp⟩
  clear hW1
  go_loopw [3, 4] (fun bv iv wr => ∃ k : Nat, k ≤ 32 ∧ iv = .int .i64 k ∧ Own8 wr (w.heap.size + 1) 5 bv (textL (d.take k)) ∧ Octs wr w.heap.size 25 d ∧ Below w.heap.size w wr ∧ w.heap.size + 1 ≤ wr.heap.size)
    (fun _ iv _ => 32 - (intOf iv).toNat)
  case atStart => exact ⟨0, by omega, rfl, Own8.nil _ _ _, hR, hb, by omega⟩
  case round =>
    clear hR hb hz
    obtain ⟨k, hk, rfl, hO, hR, hb, hz⟩ := hrel
    obtain ⟨X, hX⟩ : ∃ X, X = textL (d.take k) := ⟨_, rfl⟩
    have hXl : X.length = 2 * k := by rw [hX, textL_len, List.length_take, HD.out]; omega
    rw [← hX] at hO
    have EX := Lib.hid hX
    obtain ⟨oa, oc, rfl⟩ := hO.bytes.len
    have HO := Lib.hid hO
    have HB := Lib.hid hb
    clear hX hO hb
    by_cases hlt : k < 32
    · obtain ⟨c, hc⟩ : ∃ c, c = d.getD k 0 := ⟨_, rfl⟩
      have hcell := hR.cell (j := k) (by rw [HD.out]; exact hlt)
      rw [← hc] at hcell
      unfold B8 at hcell
      have hcl := c.toNat_lt
      have hs1 := fun W => sign_any (c.toNat / 16) W (by omega)
      have hs2 := fun W => sign_any (c.toNat % 16) W (by omega)
      rw [show ((c.toNat / 16 : Nat) : Int) = (c.toNat : Int) / 16 by simp] at hs1
      rw [show ((c.toNat % 16 : Nat) : Int) = (c.toNat : Int) % 16 by simp] at hs2
      have HS1 := Lib.hid hs1
      have HS2 := Lib.hid hs2
      have hw1 : IntKind.u8.wrap ((c.toNat : Int) / 16) = (c.toNat : Int) / 16 := by rw [IntKind.wrap_u8']; omega
      have hw2 : IntKind.u8.wrap ((c.toNat : Int) % 16) = (c.toNat : Int) % 16 := by rw [IntKind.wrap_u8']; omega
      have EC := Lib.hid hc
      have HXL := Lib.hid hXl
      have HR := Lib.hid hR
      have c0 : (0 : Int) ≤ (c.toNat : Int) := by omega
      have nk : (0 : Int) ≤ (k : Int) := by omega
      have jk : (k : Int) < 32 := by omega
      clear hc hcl hXl hs1 hs2 hR
      go_wp2
      have HO1 := fun o n => Lib.hid ((HO.out.new (below_drewn n)).alloc o)
      refine wp_region_class_move (C := fun w' => ∃ n, w' = wr.drewN n) 11 (.tmp 3) rfl rfl (by kernel_rfl) (by kernel_rfl) (by kernel_rfl) ⟨1, rfl⟩ (fun _ _ _ h => h) ?_
      simp only [List.take_succ_cons, List.take_zero, List.drop_succ_cons, List.drop_zero]
      go_simp
      (go_big_quiet_want; apply quiet_val; (intro w' hw'; go_simp; first | done | rfl); go_simp; go_big_quiet_on)
      (go_big_quiet_want; apply quiet_val; (intro w' hw'; go_simp; first | done | rfl); go_simp; go_big_quiet_on)
      (go_big_quiet_want; apply quiet_val; (intro w' hw'; obtain ⟨n, rfl⟩ := hw'; go_simp; first | done | rfl); go_simp; go_big_quiet_on)
      (go_big_quiet_want; apply quiet_val; (intro w' hw'; go_simp; first | done | rfl); go_simp; go_big_quiet_on)
      (go_big_quiet_want; apply quiet_call (f := 34); (intro w' hw'; go_simp; first | done | rfl); (intro w' hw'; exact (HS1.out w').mono fun _ _ ⟨he, hq⟩ => ⟨he, hq ▸ hw'⟩); go_simp; go_big_quiet_on)
      (go_big_quiet_want; apply quiet_val; (intro w' hw'; go_simp; first | done | rfl); go_simp; go_big_quiet_on)
      (go_big_quiet_want; apply quiet_val; (intro w' hw'; go_simp; first | done | rfl); go_simp; go_big_quiet_on)
      (go_big_quiet_want; apply quiet_val; (intro w' hw'; obtain ⟨n, rfl⟩ := hw'; go_simp; first | done | rfl); go_simp; go_big_quiet_on)
      (go_big_quiet_want; apply quiet_val; (intro w' hw'; go_simp; first | done | rfl); go_simp; go_big_quiet_on)
      (go_big_quiet_want; apply quiet_call (f := 34); (intro w' hw'; go_simp; first | done | rfl); (intro w' hw'; exact (HS2.out w').mono fun _ _ ⟨he, hq⟩ => ⟨he, hq ▸ hw'⟩); go_simp; go_big_quiet_on)
      refine wpQuiet_nil ?_
      intro nq
      go_wp2_with (at_builtin; refine wpList_app8 rfl (.tmp 9) (.tmp 20) 22 rfl (w.heap.size + 1) 5 i0 Tryd.underlying22 hi hz0 hz1 hz2 _ _ rfl (HO1 _ _).out _ [hexc (c.toNat / 16), hexc (c.toNat % 16)] rfl (two_new _ _ _ _) ?d1 ?d2 ?_)
      case d1 => rw [HXL.out]; simp; omega
      case d2 => simp; omega
      intro v3 w3 ho3 hg3 _
      have hb3 : Below (w.heap.size + 1) wr w3 := ((below_drewn nq).alloc (show _ ≤ wr.heap.size by omega) _).grown hg3 (by rw [World.size_alloc]; show _ ≤ wr.heap.size + 1; omega) (fun j hj => ((HO.out.lt j hj).1))
      go_wp2
      go_roundw
      case rel =>
        refine ⟨k + 1, by omega, by go_num, ?_, HR.out.of_block (hb3.block _ (by omega)), HB.out.trans (hb3.mono (by omega)), by have := hb3.size; omega⟩
        rw [textL_next d k (by rw [HD.out]; exact hlt), ← EX.out, ← EC.out]
        exact ho3
      case measure => simp [intOf]; omega
    · obtain rfl : k = 32 := by omega
      rw [show ((32 : Nat) : Int) = 32 from rfl]
      have eX : X = textL d := by rw [EX.out, List.take_of_length_le (by rw [HD.out]; exact Nat.le_refl _)]
      have HEX := Lib.hid eX
      clear hXl
      have hs := HO.out.bytes.string (P := Tryd.prog) (t := 22) (d := 9) Tryd.underlying22 Tryd.underlying5 Tryd.underlying9
      clear eX
      go_wp2
      go_ret
      refine ⟨?_, HB.out⟩
      rw [HEX.out]
      rfl

end Go.Proofs.YtakdbhehacbokaaDoor

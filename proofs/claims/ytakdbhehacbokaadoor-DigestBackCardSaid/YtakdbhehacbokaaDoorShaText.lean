/- The walks of digest.Text and the reference's Text: a hash as signs. Condition: a hash of 32 bytes. -/
import Derived.Test.YtakdbhehacbokaaDoorShaTextPlain
import Derived.Test.YtakdbhehacbokaaDoorShaAwake
import Derived.Test.YtakdbhehacbokaaDoorQuiet
import Derived.Test.YtakdbhehacbokaaDoorShaCmp
namespace Go.Proofs.YtakdbhehacbokaaDoor
open Go.RowKit
set_option linter.unusedVariables false

theorem index_octs (bs : List UInt8) (h : bs.length = 32) (j : Nat) (hj : j < 32) (W : World) : (Instr.index 25 (.agg (bs.map B8).toArray) (.int .i64 (j : Int))).run Tryd.prog W = .ok (.int .u8 ((bs.getD j 0).toNat : Int)) W := by
  have hp : j < bs.length := by omega
  have h1 : (sizeOf 5).run Tryd.prog W = .ok 1 W := by kernel_rfl
  have hx : ((bs.map B8).toArray)[j]? = some (.int .u8 ((bs.getD j 0).toNat : Int)) := by
    simp [List.getElem?_eq_getElem hp, List.getD_eq_getElem?_getD, B8]
  have h2 : (part 5 (bs.map B8).toArray j).run Tryd.prog W = .ok (.int .u8 ((bs.getD j 0).toNat : Int)) W := run_part_plain W (by kernel_rfl) hx
  have h3 : (j : Int) < 32 := by omega
  simp only [Instr.index, Sem.run_bind, run_underlying Tryd.underlying25, asIntOf, Sem.run_pure, Result.andThen_ok]
  rw [if_pos ⟨by omega, h3⟩]
  simp only [Sem.run_bind, h1, Result.andThen_ok, Int.toNat_natCast, Nat.mul_one, h2]

theorem index_sign0 (W : World) : (Instr.index 9 (.string ⟨#[48, 49, 50, 51, 52, 53, 54, 55, 56, 57, 97, 98, 99, 100, 101, 102]⟩) (.int .u8 0)).run Tryd.prog W = .ok (.int .u8 ((hexc 0).toNat : Int)) W := by kernel_rfl
theorem index_sign1 (W : World) : (Instr.index 9 (.string ⟨#[48, 49, 50, 51, 52, 53, 54, 55, 56, 57, 97, 98, 99, 100, 101, 102]⟩) (.int .u8 1)).run Tryd.prog W = .ok (.int .u8 ((hexc 1).toNat : Int)) W := by kernel_rfl
theorem index_sign2 (W : World) : (Instr.index 9 (.string ⟨#[48, 49, 50, 51, 52, 53, 54, 55, 56, 57, 97, 98, 99, 100, 101, 102]⟩) (.int .u8 2)).run Tryd.prog W = .ok (.int .u8 ((hexc 2).toNat : Int)) W := by kernel_rfl
theorem index_sign3 (W : World) : (Instr.index 9 (.string ⟨#[48, 49, 50, 51, 52, 53, 54, 55, 56, 57, 97, 98, 99, 100, 101, 102]⟩) (.int .u8 3)).run Tryd.prog W = .ok (.int .u8 ((hexc 3).toNat : Int)) W := by kernel_rfl
theorem index_sign4 (W : World) : (Instr.index 9 (.string ⟨#[48, 49, 50, 51, 52, 53, 54, 55, 56, 57, 97, 98, 99, 100, 101, 102]⟩) (.int .u8 4)).run Tryd.prog W = .ok (.int .u8 ((hexc 4).toNat : Int)) W := by kernel_rfl
theorem index_sign5 (W : World) : (Instr.index 9 (.string ⟨#[48, 49, 50, 51, 52, 53, 54, 55, 56, 57, 97, 98, 99, 100, 101, 102]⟩) (.int .u8 5)).run Tryd.prog W = .ok (.int .u8 ((hexc 5).toNat : Int)) W := by kernel_rfl
theorem index_sign6 (W : World) : (Instr.index 9 (.string ⟨#[48, 49, 50, 51, 52, 53, 54, 55, 56, 57, 97, 98, 99, 100, 101, 102]⟩) (.int .u8 6)).run Tryd.prog W = .ok (.int .u8 ((hexc 6).toNat : Int)) W := by kernel_rfl
theorem index_sign7 (W : World) : (Instr.index 9 (.string ⟨#[48, 49, 50, 51, 52, 53, 54, 55, 56, 57, 97, 98, 99, 100, 101, 102]⟩) (.int .u8 7)).run Tryd.prog W = .ok (.int .u8 ((hexc 7).toNat : Int)) W := by kernel_rfl
theorem index_sign8 (W : World) : (Instr.index 9 (.string ⟨#[48, 49, 50, 51, 52, 53, 54, 55, 56, 57, 97, 98, 99, 100, 101, 102]⟩) (.int .u8 8)).run Tryd.prog W = .ok (.int .u8 ((hexc 8).toNat : Int)) W := by kernel_rfl
theorem index_sign9 (W : World) : (Instr.index 9 (.string ⟨#[48, 49, 50, 51, 52, 53, 54, 55, 56, 57, 97, 98, 99, 100, 101, 102]⟩) (.int .u8 9)).run Tryd.prog W = .ok (.int .u8 ((hexc 9).toNat : Int)) W := by kernel_rfl
theorem index_sign10 (W : World) : (Instr.index 9 (.string ⟨#[48, 49, 50, 51, 52, 53, 54, 55, 56, 57, 97, 98, 99, 100, 101, 102]⟩) (.int .u8 10)).run Tryd.prog W = .ok (.int .u8 ((hexc 10).toNat : Int)) W := by kernel_rfl
theorem index_sign11 (W : World) : (Instr.index 9 (.string ⟨#[48, 49, 50, 51, 52, 53, 54, 55, 56, 57, 97, 98, 99, 100, 101, 102]⟩) (.int .u8 11)).run Tryd.prog W = .ok (.int .u8 ((hexc 11).toNat : Int)) W := by kernel_rfl
theorem index_sign12 (W : World) : (Instr.index 9 (.string ⟨#[48, 49, 50, 51, 52, 53, 54, 55, 56, 57, 97, 98, 99, 100, 101, 102]⟩) (.int .u8 12)).run Tryd.prog W = .ok (.int .u8 ((hexc 12).toNat : Int)) W := by kernel_rfl
theorem index_sign13 (W : World) : (Instr.index 9 (.string ⟨#[48, 49, 50, 51, 52, 53, 54, 55, 56, 57, 97, 98, 99, 100, 101, 102]⟩) (.int .u8 13)).run Tryd.prog W = .ok (.int .u8 ((hexc 13).toNat : Int)) W := by kernel_rfl
theorem index_sign14 (W : World) : (Instr.index 9 (.string ⟨#[48, 49, 50, 51, 52, 53, 54, 55, 56, 57, 97, 98, 99, 100, 101, 102]⟩) (.int .u8 14)).run Tryd.prog W = .ok (.int .u8 ((hexc 14).toNat : Int)) W := by kernel_rfl
theorem index_sign15 (W : World) : (Instr.index 9 (.string ⟨#[48, 49, 50, 51, 52, 53, 54, 55, 56, 57, 97, 98, 99, 100, 101, 102]⟩) (.int .u8 15)).run Tryd.prog W = .ok (.int .u8 ((hexc 15).toNat : Int)) W := by kernel_rfl
theorem index_sign (n : Nat) (hn : n < 16) (W : World) : (Instr.index 9 (.string ⟨#[48, 49, 50, 51, 52, 53, 54, 55, 56, 57, 97, 98, 99, 100, 101, 102]⟩) (.int .u8 (n : Int))).run Tryd.prog W = .ok (.int .u8 ((hexc n).toNat : Int)) W := by
  have : n = 0 ∨ n = 1 ∨ n = 2 ∨ n = 3 ∨ n = 4 ∨ n = 5 ∨ n = 6 ∨ n = 7 ∨ n = 8 ∨ n = 9 ∨ n = 10 ∨ n = 11 ∨ n = 12 ∨ n = 13 ∨ n = 14 ∨ n = 15 := by omega
  rcases this with rfl | rfl | rfl | rfl | rfl | rfl | rfl | rfl | rfl | rfl | rfl | rfl | rfl | rfl | rfl | rfl
  · exact index_sign0 W
  · exact index_sign1 W
  · exact index_sign2 W
  · exact index_sign3 W
  · exact index_sign4 W
  · exact index_sign5 W
  · exact index_sign6 W
  · exact index_sign7 W
  · exact index_sign8 W
  · exact index_sign9 W
  · exact index_sign10 W
  · exact index_sign11 W
  · exact index_sign12 W
  · exact index_sign13 W
  · exact index_sign14 W
  · exact index_sign15 W

theorem and_15 (c : UInt8) : bits BinOp.and IntKind.u8 (c.toNat : Int) 15 = (c.toNat : Int) % 16 := by
  rw [show (c.toNat : Int) % 16 = ((c.toNat % 16 : Nat) : Int) from by simp]
  rw [show (15 : Int) = ((15 : Nat) : Int) from rfl, u8_and_nat _ _ c.toNat_lt (by decide)]
  congr 1
  exact Nat.and_two_pow_sub_one_eq_mod c.toNat 4

theorem two_new (w : World) (e : Nat) (x y : UInt8) : Bytes (w.alloc (.cells #[.int .u8 (x.toNat : Int), .int .u8 (y.toNat : Int)] e)) (.slice (some ⟨w.heap.size, 0, none⟩) 2 2) [x, y] := by
  refine ⟨rfl, _, 2, rfl, Nat.le_refl _, by unfold maxLen; omega, (fun h => by cases h), fun _ => ⟨_, 0, rfl, by simp, fun j hj => ?_⟩⟩
  have hb := heap_alloc_new w (.cells #[.int .u8 (x.toNat : Int), .int .u8 (y.toNat : Int)] e)
  simp only [World.cell?, hb]
  match j, hj with
  | 0, _ => rfl
  | 1, _ => rfl

theorem own_cap (w : World) (A : Array Value) (t e n : Nat) (C : Array Value) (hC : C.size = n) (hn : n ≤ 1000) : Own8 ((w.alloc (.cells A t)).alloc (.cells C e)) (w.heap.size + 1) e (.slice (some ⟨w.heap.size + 1, 0, none⟩) 0 n) [] := by
  have h : Own8 ((w.alloc (.cells A t)).alloc (.cells C e)) (w.alloc (.cells A t)).heap.size e (.slice (some ⟨(w.alloc (.cells A t)).heap.size, 0, none⟩) 0 n) [] := World.ownsRow_made _ C n (Nat.le_refl _) (by unfold maxLen; omega) (by rw [hC, Nat.mul_one])
  rwa [World.size_alloc] at h

set_option maxRecDepth 100000 in
set_option maxHeartbeats 800000 in
theorem Text_any (d : List UInt8) (w : World) (hd : d.length = 32) :
    Calls Tryd.prog 25 #[.agg (d.map B8).toArray] w fun e w' => e = .returned (.string ⟨(textL d).toArray⟩) ∧ Below w.heap.size w w' := by
  obtain ⟨i0, hi, hz0, hz1, hz2⟩ := info_parts infoU8
  have HD := Lib.hid hd
  have hix := fun j hj => index_octs d HD.out j hj
  have HIX := Lib.hid hix
  have TL := Lib.hid (textL_len d)
  have hmk : ∀ w : World, (Instr.makeSlice 22 (.int .i64 0) (.int .i64 64)).run Tryd.prog w = .ok (.slice (some ⟨w.heap.size, 0, none⟩) 0 64) (w.alloc (.cells (Array.replicate 64 (.int .u8 0)) 5)) := fun _ => by kernel_rfl
  clear hix hd
  go_enter Tryd.func25, Tryd.ntmps25
  go_wp2_with ((with_reducible refine wpList_load_row (o := ⟨some 7, Op.load 25 (.tmp 1), _, _, _, _⟩) ?g 25 (.tmp 1) ?ho w.heap.size ?hx 25 (d.map B8).toArray (0, 0) _ ?hg Tryd.underlying25 ?hu ?hi ?_); (case g => rfl); (case ho => rfl); (case hx => rfl); (case hu => rfl); (case hg => exact (Below.heap_alloc _ _ _ (by simp)).trans (heap_alloc_new w _)); (case hi => rw [info_dig]; simp [HD.out]))
  generalize hW1 : (w.alloc _).alloc _ = W1
  obtain ⟨hO, hb, hz⟩ : Own8 W1 (w.heap.size + 1) 5 (.slice (some ⟨w.heap.size + 1, 0, none⟩) 0 64) [] ∧ Below w.heap.size w W1 ∧ w.heap.size + 2 = W1.heap.size := by
    subst hW1
    exact ⟨own_cap w _ _ _ 64 _ (by simp) (by decide), ((Below.refl _ w).alloc (Nat.le_refl _) _).alloc (by simp) _, by simp⟩
  clear hW1
  go_loopw [3, 8] (fun bv iv wr => ∃ k : Nat, k ≤ 32 ∧ iv = .int .i64 k ∧ Own8 wr (w.heap.size + 1) 5 bv (textL (d.take k)) ∧ Below w.heap.size w wr ∧ w.heap.size + 2 ≤ wr.heap.size)
    (fun _ iv _ => 32 - (intOf iv).toNat)
  case atStart => exact ⟨0, by omega, rfl, hO, hb, by omega⟩
  case round =>
    clear hO hb hz
    obtain ⟨k, hk, rfl, hO, hb, hz⟩ := hrel
    obtain ⟨X, hX⟩ : ∃ X, X = textL (d.take k) := ⟨_, rfl⟩
    have hXl : X.length = 2 * k := by rw [hX, textL_len, List.length_take, HD.out]; omega
    rw [← hX] at hO
    have EX := Lib.hid hX
    obtain ⟨oa, oc, rfl⟩ := hO.bytes.len
    have HO := Lib.hid hO
    have HB := Lib.hid hb
    clear hX hO hb
    by_cases hlt : k < 32
    · obtain ⟨c, hc⟩ : ∃ c, c = d.getD k 0 := ⟨_, rfl⟩
      have hi1 := HIX.out k hlt
      rw [← hc] at hi1
      have ha := and_15 c
      have hcl := c.toNat_lt
      have hd1 : (c.toNat : Int) / 16 = ((c.toNat / 16 : Nat) : Int) := by simp
      have hs1 := index_sign (c.toNat / 16) (by omega)
      have hs2 := index_sign (c.toNat % 16) (by omega)
      have hd2 : (c.toNat : Int) % 16 = ((c.toNat % 16 : Nat) : Int) := by simp
      rw [← hd1] at hs1
      rw [← hd2] at hs2
      clear hd1 hd2
      have EC := Lib.hid hc
      have HXL := Lib.hid hXl
      have jk : (k : Int) < 32 := by omega
      clear hc hcl hXl
      go_wp2
      have HO1 := fun o n => Lib.hid ((HO.out.new (below_drewn n)).alloc o)
      refine wp_region_class_move (C := fun w' => ∃ n, w' = wr.drewN n) 7 (.tmp 3) rfl rfl (by kernel_rfl) (by kernel_rfl) (by kernel_rfl) ⟨1, rfl⟩ (fun _ _ _ h => h) ?_
      simp only [List.take_succ_cons, List.take_zero, List.drop_succ_cons, List.drop_zero]
      go_simp
      (go_big_quiet_want; apply quiet_val; (intro w' hw'; go_simp; first | done | rfl); go_simp; go_big_quiet_on)
      (go_big_quiet_want; apply quiet_val; (intro w' hw'; go_simp; first | done | rfl); go_simp; go_big_quiet_on)
      (go_big_quiet_want; apply quiet_val; (intro w' hw'; go_simp; first | done | rfl); go_simp; go_big_quiet_on)
      (go_big_quiet_want; apply quiet_val; (intro w' hw'; go_simp; first | done | rfl); go_simp; go_big_quiet_on)
      (go_big_quiet_want; apply quiet_val; (intro w' hw'; go_simp; first | done | rfl); go_simp; go_big_quiet_on)
      (go_big_quiet_want; apply quiet_val; (intro w' hw'; go_simp; first | done | rfl); go_simp; go_big_quiet_on)
      refine wpQuiet_nil ?_
      intro nq
      go_wp2_with (at_builtin; refine wpList_app8 rfl (.tmp 11) (.tmp 18) 22 rfl (w.heap.size + 1) 5 i0 Tryd.underlying22 hi hz0 hz1 hz2 _ _ rfl (HO1 _ _).out _ [hexc (c.toNat / 16), hexc (c.toNat % 16)] rfl (two_new _ _ _ _) ?d1 ?d2 ?_)
      case d1 => rw [HXL.out]; simp; omega
      case d2 => simp; omega
      intro v3 w3 ho3 hg3 _
      have hb3 : Below (w.heap.size + 1) wr w3 := ((below_drewn nq).alloc (show _ ≤ wr.heap.size by omega) _).grown hg3 (by rw [World.size_alloc]; show _ ≤ wr.heap.size + 1; omega) (fun j hj => ((HO.out.lt j hj).1))
      go_wp2
      go_roundw
      case rel =>
        refine ⟨k + 1, by omega, by go_num, ?_, HB.out.trans (hb3.mono (by omega)), by have := hb3.size; omega⟩
        rw [textL_next d k (by rw [HD.out]; exact hlt), ← EX.out, ← EC.out]
        exact ho3
      case measure => simp [intOf]; omega
    · obtain rfl : k = 32 := by omega
      rw [show ((32 : Nat) : Int) = 32 from rfl]
      have eX : X = textL d := by rw [EX.out, List.take_of_length_le (by rw [HD.out]; exact Nat.le_refl _)]
      have HEX := Lib.hid eX
      clear hXl
      have hs := HO.out.bytes.string (P := Tryd.prog) (t := 22) (d := 9) Tryd.underlying22 Tryd.underlying5 Tryd.underlying9
      clear eX
      go_wp2
      go_ret
      refine ⟨?_, HB.out⟩
      rw [HEX.out]
      rfl

end Go.Proofs.YtakdbhehacbokaaDoor

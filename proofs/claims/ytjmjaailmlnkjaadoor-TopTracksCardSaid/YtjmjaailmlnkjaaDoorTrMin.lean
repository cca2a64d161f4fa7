/- The walks of slices.MinFunc at peers, of a blob's first and last peer. No condition. -/
import Derived.Test.YtjmjaailmlnkjaaDoorTrCmp
import Derived.Test.YtjmjaailmlnkjaaDoorTrIter
import Derived.Test.YtjmjaailmlnkjaaDoorTrCollP
namespace Go.Proofs.YtjmjaailmlnkjaaDoor
open Go.RowKit
set_option linter.unusedVariables false
set_option linter.unusedSimpArgs false
set_option maxRecDepth 100000

set_option maxHeartbeats 3200000 in
theorem MinP_any (v : Value) (x : PeerL) (l : List PeerL) (w : World) (hl : RPeer.Row w v (x :: l)) :
    Calls Tryd.prog 20 #[v, .func (.func 21) #[] #[]] w fun e w' => e = .returned (RPeer.V (pickL goesP l x)) ∧ Below w.heap.size w w' := by
  obtain ⟨pb, poff, pc, rfl, hpl, hat⟩ := hl.at_ (by simp)
  have hle := hl.le
  simp only [List.length_cons] at hle ⊢
  have h0 := hat 0 x rfl
  rw [Nat.zero_mul, Nat.add_zero] at h0
  have H0 := Lib.hid h0
  have HAT := Lib.hid (fun k y (h : l[k]? = some y) => hat (k + 1) y (by simpa using h))
  have hn : ¬ ((l.length + 1 : Nat) : Int) < 1 := by omega
  have hn1 : (0 : Int) < ((l.length + 1 : Nat) : Int) := by omega
  obtain ⟨N, hN⟩ : ∃ N, l.length + 1 = N := ⟨_, rfl⟩
  rw [hN] at hle hn hn1 ⊢
  have HN := Lib.hid hN
  clear hl hat h0 hN
  go_enter Tryd.func20, Tryd.ntmps20
  go_upto_region 5 with (first
    | ((with_reducible refine wpList_plain (o := ⟨some 4, Op.alloc _, _, _, _, _⟩) rfl fun K hK => ?_); (refine RPeer.wp_alloc rfl fun w1 ho1 hb1 hs1 => hK _ _ ?_); have HO1 := Lib.hid ho1; have HB1 := Lib.hid hb1; have HS1 := Lib.hid hs1; have HA1 := Lib.hid (H0.out.of_new hb1); clear ho1 hb1 hs1)
    | ((with_reducible refine wpList_plain (o := ⟨some 13, Op.load _ _, _, _, _, _⟩) rfl fun K hK => ?_); (refine HA1.out.wp rfl rfl (hK _ _ ?_)))
    | ((with_reducible refine wpList_plain (o := ⟨some 5, Op.alloc _, _, _, _, _⟩) rfl fun K hK => ?_); (refine RPeer.wp_alloc rfl fun w2 ho2 hb2 hs2 => hK _ _ ?_); have HO2 := Lib.hid ho2; have HB2 := Lib.hid hb2; clear ho2 hb2 hs2)
    | ((with_reducible refine wpList_plain (o := ⟨none, Op.store _ (.tmp 5) (.tmp 13), _, _, _, _⟩) rfl fun K hK => ?_); (refine HO2.out.store (.tmp 5) (.tmp 13) rfl rfl rfl (RPeer_ok x) fun w3 ho3 hg3 hs3 => hK _ _ ?_); have hb3 := HB2.out.grown hg3 (by have := HB2.out.size; omega) (fun k e => by cases e; exact Nat.le_refl _); have HO3 := Lib.hid ho3; have HB3 := Lib.hid hb3; have HR3 := Lib.hid (HO1.out.of_new hb3); clear ho3 hg3 hs3 hb3))
  have hb3 := below_next HB1.out HB3.out
  have hr3 := HR3.out
  have ho3 := HO3.out
  clear hn
  go_loopw [6] (fun iv W => ∃ k m, k ≤ l.length ∧ iv = .int .i64 ((k + 1 : Nat) : Int) ∧ pickL goesP l x = pickL goesP (l.drop k) m ∧ RPeer.O W w1.heap.size m ∧ RPeer.O W w.heap.size PeerL.zero ∧ Below w.heap.size w W) (fun iv _ => N - (intOf iv).toNat)
  case atStart => exact ⟨0, x, Nat.zero_le _, rfl, rfl, ho3, hr3, hb3⟩
  case round =>
    clear ho3 hr3 hb3
    obtain ⟨k, m, hk, rfl, hp, ho, hz, hb⟩ := hrel
    have HO := Lib.hid ho
    have HZ := Lib.hid hz
    have HB := Lib.hid hb
    have HK := Lib.hid hk
    by_cases hlt : k < l.length
    · obtain ⟨y, hy⟩ : ∃ y, l[k]? = some y := ⟨_, List.getElem?_eq_getElem hlt⟩
      have hdr : l.drop k = y :: l.drop (k + 1) := by rw [List.drop_eq_getElem_cons hlt]; rw [List.getElem?_eq_getElem hlt] at hy; cases hy; rfl
      have hp2 : pickL goesP l x = pickL goesP (l.drop (k + 1)) (if goesP y m then y else m) := by rw [hp, hdr]; rfl
      have hA := (HAT.out k y hy).of_new hb
      rw [← firstC_goes] at hp2
      have hC := fun w' => FirstCmp_any y m w'
      generalize firstC y m = c at *
      obtain ⟨jj, hjj⟩ : ∃ jj, k + 1 = jj := ⟨_, rfl⟩
      rw [hjj] at hp2 hA ⊢
      have hKN : (jj : Int) < (N : Int) := by have := HN.out; omega
      have hKl : jj ≤ l.length := by omega
      have HK2 := Lib.hid hjj
      have HP := Lib.hid hp2
      have HA := Lib.hid hA
      have HC := Lib.hid hC
      clear hp hdr hy hA hC hp2 ho hz hb hjj hk
      by_cases hc : c < 0
      · have hd : decide (c < 0) = true := decide_eq_true hc
        go_upto_region 7 with (fail)
        refine wp_region_grew (by kernel_rfl) (by kernel_rfl) ?_
        repeat (first
          | (go_big_quiet_want; (refine RecT.At.quiet (R := RPeer) (p := .tmp 5) (fun w' hw' => (HO.out.of_new hw').at_) rfl rfl ?_); go_simp; go_big_quiet_on)
          | (go_big_quiet_want; (refine RecT.At.quiet (R := RPeer) (p := .tmp 23) (fun w' hw' => HA.out.of_new hw') rfl rfl ?_); go_simp; go_big_quiet_on)
          | (go_big_quiet_want; (with_reducible apply quiet_load_at (ty := 29) (x := .tmp _)); rfl; rfl; assumption; go_simp; go_big_quiet_on)
          | (go_big_quiet_want; apply quiet_val; (intro w' hw'; go_simp; first | done | rfl); go_simp; go_big_quiet_on)
          | (go_big_quiet_want; apply quiet_call (f := 21); (intro w' hw'; go_simp; first | done | rfl); (intro w' hw'; exact Grew.call hw' (HC.out w')); go_simp; go_big_quiet_on)
          | (go_big_quiet_skip))
        refine wpQuiet_nil ?_
        intro w5 hw5
        have HO5 := Lib.hid (HO.out.of_new hw5)
        have HZ5 := Lib.hid (HZ.out.of_new hw5)
        have HB5 := Lib.hid (below_next HB.out hw5)
        have HA5 := Lib.hid (HA.out.of_new hw5)
        clear hw5
        go_wp2_with (first
          | ((with_reducible refine wpList_plain (o := ⟨some 31, Op.load _ _, _, _, _, _⟩) rfl fun K hK => ?_); (refine HA5.out.wp rfl rfl (hK _ _ ?_)))
          | ((with_reducible refine wpList_plain (o := ⟨none, Op.store _ (.tmp 5) (.tmp 31), _, _, _, _⟩) rfl fun K hK => ?_); (refine HO5.out.store (.tmp 5) (.tmp 31) rfl rfl rfl (RPeer_ok y) fun w6 ho6 hg6 hs6 => hK _ _ ?_); have HO6 := Lib.hid ho6; have HG6 := Lib.hid hg6; clear ho6 hg6 hs6))
        have hs1 := HS1.out
        go_roundw
        case rel => exact ⟨jj, y, hKl, by go_num, by rw [HP.out, hd]; rfl, HO6.out, HZ5.out.of_block (HG6.out.block _ HZ5.out.lt (fun e => by have := Option.some.inj e; omega)), HB5.out.grown HG6.out (by have := HB5.out.size; omega) (fun r e => by cases e; omega)⟩
        case measure => simp [intOf]; omega
      · have hd : decide (c < 0) = false := decide_eq_false hc
        go_upto_region 7 with (fail)
        refine wp_region_grew (by kernel_rfl) (by kernel_rfl) ?_
        repeat (first
          | (go_big_quiet_want; (refine RecT.At.quiet (R := RPeer) (p := .tmp 5) (fun w' hw' => (HO.out.of_new hw').at_) rfl rfl ?_); go_simp; go_big_quiet_on)
          | (go_big_quiet_want; (refine RecT.At.quiet (R := RPeer) (p := .tmp 23) (fun w' hw' => HA.out.of_new hw') rfl rfl ?_); go_simp; go_big_quiet_on)
          | (go_big_quiet_want; (with_reducible apply quiet_load_at (ty := 29) (x := .tmp _)); rfl; rfl; assumption; go_simp; go_big_quiet_on)
          | (go_big_quiet_want; apply quiet_val; (intro w' hw'; go_simp; first | done | rfl); go_simp; go_big_quiet_on)
          | (go_big_quiet_want; apply quiet_call (f := 21); (intro w' hw'; go_simp; first | done | rfl); (intro w' hw'; exact Grew.call hw' (HC.out w')); go_simp; go_big_quiet_on)
          | (go_big_quiet_skip))
        refine wpQuiet_nil ?_
        intro w5 hw5
        go_wp2
        go_roundw
        case rel => exact ⟨jj, m, hKl, by go_num, by rw [HP.out, hd]; rfl, HO.out.of_new hw5, HZ.out.of_new hw5, below_next HB.out hw5⟩
        case measure => simp [intOf]; omega
    · have hKN : ¬ ((k + 1 : Nat) : Int) < (N : Int) := by have := HN.out; omega
      rw [List.drop_of_length_le (by omega)] at hp
      have HP := Lib.hid hp
      have hs1 := HS1.out
      clear hp ho hz hb
      go_wp2_with (first
        | ((with_reducible refine wpList_plain (o := ⟨some 32, Op.load _ _, _, _, _, _⟩) rfl fun K hK => ?_); (refine HO.out.at_.wp rfl rfl (hK _ _ ?_)))
        | ((with_reducible refine wpList_plain (o := ⟨none, Op.store _ (.tmp 4) (.tmp 32), _, _, _, _⟩) rfl fun K hK => ?_); (refine HZ.out.store (.tmp 4) (.tmp 32) rfl rfl rfl (RPeer_ok m) fun w6 ho6 hg6 hs6 => hK _ _ ?_); have HO6 := Lib.hid ho6; have HB6 := Lib.hid (HB.out.grown hg6 (by have := HB.out.size; omega) (fun k e => by cases e; exact Nat.le_refl _)); clear ho6 hg6 hs6))
      refine bodyPost_ret (RecT.results1 rfl _ rfl HO6.out) rfl ?_
      exact ⟨by rw [HP.out]; rfl, HB6.out⟩

end Go.Proofs.YtjmjaailmlnkjaaDoor

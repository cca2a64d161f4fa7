/- The walk of the law ManifestBack: it answers true. Condition: the table of constants as the program lays it. -/
import Derived.Test.YtnomekfemadpeaaDoorMfBackPlain
import Derived.Test.YtnomekfemadpeaaDoorMfDecImg
import Derived.Test.YtnomekfemadpeaaDoorMfEncImg
namespace Go.Proofs.YtnomekfemadpeaaDoor
open Go.RowKit
set_option linter.unusedVariables false
set_option linter.unusedSimpArgs false
set_option maxRecDepth 100000

/-- Ahead of each round: so many leaves are done, and so many bytes. -/
def BackI (W2 : World) (b : List UInt8) (kn n : Nat) (tv iv : Value) (W : World) : Prop := ∃ j : Nat, j ≤ n ∧ iv = .int .i64 j ∧ tv = .int .i64 ((min (j * kn) b.length : Nat) : Int) ∧ Below W2.heap.size W2 W

set_option maxHeartbeats 6400000 in
theorem ManifestBack_walk (v : Value) (b : List UInt8) (k : Int) (w : World) (hl : Bytes w v b) (hk1 : -9223372036854775808 ≤ k) (hk2 : k ≤ 9223372036854775807) (hKc : Consts w) :
    Calls Tryd.prog 9 #[v, .int .i64 k] w fun e w' => e = .returned (.bool true) ∧ Below w.heap.size w w' := by
  obtain ⟨va, vc, hv⟩ := hl.len
  subst hv
  have hle := hl.le
  have HL := Lib.hid hl
  clear hl
  go_enter Tryd.func9, Tryd.ntmps9
  go_wp2_with fail
  refine (awake_any _ hKc).mono ?_
  rintro e w1 ⟨rfl, hb1⟩
  by_cases hbig : 4000 < b.length
  · have t0 : (4000 : Int) < (b.length : Int) := by omega
    go_wp2
    go_ret
    exact ⟨rfl, hb1⟩
  have t0 : ¬ (4000 : Int) < (b.length : Int) := by omega
  go_wp2_with fail
  refine (Blob_any _ b k w1 (HL.out.of_new hb1) (hKc.of_new hb1)).mono ?_
  rintro e w2 ⟨rfl, hb2⟩
  have hbA := below_next hb1 hb2
  have hok := blobE_ok b k
  have HA := Lib.hid hbA
  clear hb1 hb2 hbA
  rcases hr : mrightB b.length k with _ | _
  · have hE : blobE b k = (BlobL.zero, 1) := by unfold blobE; rw [hr]; rfl
    rw [hE]
    clear hE hr hok
    dsimp only
    go_wp2_with (first
      | ((with_reducible refine wpList_plain (o := ⟨some 6, Op.alloc _, _, _, _, _⟩) rfl fun K hK => ?_); (refine RBlob.wp_alloc rfl fun w3 ho3 hb3 hs3 => hK _ _ ?_); have HO3 := Lib.hid ho3; have HB3 := Lib.hid hb3; clear ho3 hb3 hs3)
      | ((with_reducible refine wpList_plain (o := ⟨none, Op.store _ (.tmp 6) (.tmp 36), _, _, _, _⟩) rfl fun K hK => ?_); (refine HO3.out.store (.tmp 6) (.tmp 36) rfl rfl rfl BlobL.zero_ok fun w4 ho4 hg4 hs4 => hK _ _ ?_); have hb4 := HB3.out.grown hg4 (by have := HB3.out.size; omega) (fun k e => by cases e; exact Nat.le_refl _); have HB4 := Lib.hid (below_next HA.out hb4); clear ho4 hg4 hs4 hb4))
    go_ret
    exact ⟨rfl, HB4.out⟩
  obtain ⟨kn, rfl⟩ : ∃ kn : Nat, k = (kn : Int) := ⟨k.toNat, by have := right_parts hr; omega⟩
  have hE : blobE b kn = (⟨sumL b, b.length, kn, rootL (leavesL b kn)⟩, 0) := by unfold blobE; rw [hr]; rfl
  have hle1 : leavesE b kn = (leavesL b kn, 0) := by unfold leavesE; rw [if_pos hr]; rfl
  have hwh : wholeB ⟨sumL b, b.length, kn, rootL (leavesL b kn)⟩ b = true := by unfold wholeB; dsimp only; rw [hE]; simp
  have hmc : mcountB b.length (kn : Int) = ((leavesL b kn).length : Int) := by
    have hcnt := count_nat (b := b) (n := kn) (by have := right_parts hr; omega)
    unfold mcountB; rw [if_pos hr, leavesL_len b kn]; exact hcnt.symm
  rw [hE] at hok ⊢
  dsimp only at hok ⊢
  have HR := Lib.hid hr
  have hbk := fun j h => piece_back (j := j) hr h
  obtain ⟨y, hy⟩ : ∃ y : BlobL, y = ⟨sumL b, b.length, kn, rootL (leavesL b kn)⟩ := ⟨_, rfl⟩
  have hys : y.size = b.length := by rw [hy]
  have hyp : y.piece = kn := by rw [hy]
  rw [← hy] at hok hwh hbk ⊢
  have HY := Lib.hid hy
  have HBK := Lib.hid hbk
  have HWH := Lib.hid hwh
  have HMC := Lib.hid hmc
  have HOK := Lib.hid (show RBlob.ok y from hok)
  have HYS := Lib.hid hys
  have HYP := Lib.hid hyp
  have HLE := Lib.hid hle1
  clear hr hE hle1 hwh hmc hok hbk hy hys hyp
  go_upto_region 5 with (first
    | ((with_reducible refine wpList_plain (o := ⟨some 6, Op.alloc _, _, _, _, _⟩) rfl fun K hK => ?_); (refine RBlob.wp_alloc rfl fun w3 ho3 hb3 hs3 => hK _ _ ?_); have HO3 := Lib.hid ho3; have HB3 := Lib.hid hb3; clear ho3 hb3 hs3)
    | ((with_reducible refine wpList_plain (o := ⟨none, Op.store _ (.tmp 6) (.tmp 36), _, _, _, _⟩) rfl fun K hK => ?_); (refine HO3.out.store (.tmp 6) (.tmp 36) rfl rfl rfl HOK.out fun w4 ho4 hg4 hs4 => hK _ _ ?_); have hb4 := HB3.out.grown hg4 (by have := HB3.out.size; omega) (fun k e => by cases e; exact Nat.le_refl _); have HB4 := Lib.hid (below_next HA.out hb4); have HO4 := Lib.hid ho4; clear ho4 hg4 hs4 hb4))
  go_upto_region 8 with (go_at_call 13; refine (Leaves_any _ b kn _ (HL.out.of_new HB4.out) (hKc.of_new HB4.out)).mono ?_; rw [HLE.out]; rintro e w5 ⟨v5, rfl, ho5, hb5⟩; obtain ⟨a5, c5, hv⟩ := ho5.digs.len; subst hv; have HD5 := Lib.hid ho5.digs; have HO5 := Lib.hid (HO4.out.of_new hb5); have HB5 := Lib.hid (below_next HB4.out hb5); clear ho5 hb5)
  go_upto_region 9 with (first
    | ((with_reducible refine wpList_plain (o := ⟨some 48, Op.load _ _, _, _, _, _⟩) rfl fun K hK => ?_); (refine HO5.out.at_.wp rfl rfl (hK _ _ ?_)))
    | (go_at_call 16; refine (Whole_any y _ b _ HOK.out (HL.out.of_new HB5.out) (hKc.of_new HB5.out)).mono ?_; rw [HWH.out]; rintro e w6 ⟨rfl, hb6⟩; have HO6 := Lib.hid (HO5.out.of_new hb6); have HB6 := Lib.hid (below_next HB5.out hb6); have HD6 := Lib.hid (HD5.out.of_new hb6); clear hb6))
  obtain ⟨n, hn⟩ : ∃ n, (leavesL b kn).length = n := ⟨_, rfl⟩
  have HN := Lib.hid hn
  have hcn : mcountB y.size y.piece = (n : Int) := by rw [HYS.out, HYP.out, HMC.out, hn]
  have HCN := Lib.hid hcn
  rw [hn]
  clear hn hcn
  have hnn : ((n : Int) != (n : Int)) = false := by simp
  have hfew : n ≤ 1024 := by have h := leaves_few HR.out; simp only [Int.toNat_natCast] at h; rw [HN.out] at h; exact h
  go_wp2_with (first
    | ((with_reducible refine wpList_met (o := ⟨some 60, Op.load _ _, _, _, _, _⟩) rfl fun K hK => ?_); (refine HO6.out.at_.wp rfl rfl (hK _ _ ?_)))
    | (go_at_call 21; refine (Count_any y _ HOK.out).mono ?_; rw [HCN.out]; rintro e w7 ⟨rfl, hb7⟩; have HO7 := Lib.hid (HO6.out.of_new hb7); have HB7 := Lib.hid (below_next HB6.out hb7); have HD7 := Lib.hid (HD6.out.of_new hb7); clear hb7))
  go_loopw [11, 12, 13, 14, 15, 16, 17, 18] (fun tv iv _ _ _ _ _ _ W' => BackI w7 b kn n tv iv W') (fun _ iv _ _ _ _ _ _ _ => n - (intOf iv).toNat)
  case atStart => exact ⟨0, Nat.zero_le _, rfl, by simp, Below.refl _ _⟩
  case round =>
    obtain ⟨j, hj, rfl, rfl, hb⟩ := hrel
    by_cases hlt : j < n
    · obtain ⟨hsp, hat, hpc⟩ := HBK.out j (by rw [HN.out]; exact hlt)
      have hd7 := HD7.out.of_new hb
      rw [HN.out] at hd7
      have hPE : proofE (leavesL b kn) (j : Int) = (proofL (leavesL b kn) j, 0) := by
        unfold proofE
        rw [if_pos ⟨by omega, by rw [HN.out]; omega, by rw [HN.out]; omega⟩, Int.toNat_natCast]
      have hkn1 : (j + 1) * kn = j * kn + kn := by rw [Nat.add_mul, Nat.one_mul]
      obtain ⟨A, hA⟩ : ∃ A, j * kn = A := ⟨_, rfl⟩
      rw [hA] at hsp hat hpc hkn1 ⊢
      obtain ⟨M, hM⟩ : ∃ M, min kn (b.length - A) = M := ⟨_, rfl⟩
      rw [hM] at hsp hat hpc
      obtain ⟨E, hE⟩ : ∃ E, A + M = E := ⟨_, rfl⟩
      rw [hE] at hat
      obtain ⟨P, hP⟩ : ∃ P, proofL (leavesL b kn) j = P := ⟨_, rfl⟩
      rw [hP] at hPE hpc
      have hS : spanZ y.size y.piece (j : Int) = ((A : Int), (M : Int), 0) := by rw [HYS.out, HYP.out]; exact hsp
      have hjn : (j : Int) < (n : Int) := by omega
      have hto : min A b.length = A := by omega
      have hnext : min ((j + 1) * kn) b.length = E := by rw [hkn1]; omega
      rw [hto]
      have hle4 : b.length ≤ 4000 := by omega
      have hA4 : A ≤ 4000 := by omega
      have hM4 : M ≤ 4000 := by omega
      have hE4 : E ≤ 4000 := by omega
      have hw1 : IntKind.i64.wrap ((A : Int) + (M : Int)) = (E : Int) := by rw [IntKind.wrap_i64]; omega
      have hAM : (A : Int) + (M : Int) = (E : Int) := by omega
      have t5 : ((A : Int) != (A : Int)) = false := by simp
      have t6 : ¬ (b.length : Int) < (E : Int) := by omega
      obtain ⟨i0, hi0, hz0, hz1, hz2⟩ := info_parts infoU8
      obtain ⟨v9, hr9, hrow, _⟩ := (HL.out.of_new (below_next HB7.out hb)).part (P := Tryd.prog) Tryd.underlying22 hi0 hz1 (some (.int .i64 (A : Int))) (some (.int .i64 (E : Int))) A E (by omega) hat (.inr ⟨_, rfl⟩) (.inr ⟨_, rfl⟩)
      rw [show E - A = M by omega] at hrow
      have HSP := Lib.hid hS
      have HPC := Lib.hid hpc
      have HBR := Lib.hid hb
      have HNX := Lib.hid hnext
      have HPE := Lib.hid hPE
      have HD8 := Lib.hid hd7
      have HRW := Lib.hid hrow
      have HAM := Lib.hid hAM
      clear hsp hpc hS hb hto hnext hPE hd7 hrow hA hM hE hP hat hkn1 hAM
      have HOr := Lib.hid (HO7.out.of_new HBR.out)
      go_upto_region 16 with (first
        | ((with_reducible refine wpList_plain (o := ⟨some 71, Op.load _ _, _, _, _, _⟩) rfl fun K hK => ?_); (refine HOr.out.at_.wp rfl rfl (hK _ _ ?_)))
        | (go_at_call 17; refine (Span_any y j _ HOK.out (by omega) (by omega)).mono ?_; rw [HSP.out]; rintro e w8 ⟨rfl, hb8⟩; have HO8 := Lib.hid (HOr.out.of_new hb8); have HD9 := Lib.hid (HD8.out.of_new hb8); have HRW8 := Lib.hid (Bytes.of_new HRW.out hb8); have HB8 := Lib.hid (below_next HBR.out hb8); clear hb8))
      go_upto_region 17 with (go_at_call 37; refine (RProof_any _ (leavesL b kn) j _ HD9.out (by omega) (by omega)).mono ?_; rw [HPE.out]; rintro e w9 ⟨v10, rfl, ho9, hb9⟩; obtain ⟨a9, c9, hv⟩ := ho9.digs.len; subst hv; have HP9 := Lib.hid ho9.digs; have HO9 := Lib.hid (HO8.out.of_new hb9); have HRW9 := Lib.hid (Bytes.of_new HRW8.out hb9); have HB9 := Lib.hid (below_next HB8.out hb9); clear ho9 hb9)
      have hPc := fun w' (h : Below w9.heap.size w9 w') => Piece_any y j v9 ((b.drop A).take M) (.slice a9 P.length c9) P w' HOK.out (by omega) (by omega) (Bytes.of_new HRW9.out h) (HP9.out.of_new h) (hKc.of_new (below_next (below_next HB7.out HB9.out) h))
      simp only [HPC.out] at hPc
      have HPc := Lib.hid hPc
      clear hPc
      go_upto_region 19 with (fail)
      refine wp_region_grew (by kernel_rfl) (by kernel_rfl) ?_
      repeat (first
        | (go_big_quiet_want; (refine RecT.At.quiet (R := RBlob) (p := .tmp 6) (fun w' hw' => (HO9.out.of_new hw').at_) rfl rfl ?_); go_simp; go_big_quiet_on)
        | (go_big_quiet_want; (with_reducible apply quiet_load_at (ty := 25) (x := .tmp _)); rfl; rfl; assumption; go_simp; go_big_quiet_on)
        | (go_big_quiet_want; apply quiet_val; (intro w' hw'; go_simp; first | done | rfl); go_simp; go_big_quiet_on)
        | (go_big_quiet_want; apply quiet_call (f := 24); (intro w' hw'; go_simp; first | done | rfl); (intro w' hw'; exact Grew.call hw' (HPc.out w' hw')); go_simp; go_big_quiet_on)
        | (go_big_quiet_skip))
      refine wpQuiet_nil ?_
      intro w10 hw10
      go_wp2
      go_roundw
      case rel => exact ⟨j + 1, by omega, by go_num, by rw [HNX.out], below_next HB9.out hw10⟩
      case measure => simp [intOf]; omega
    · obtain rfl : j = n := by omega
      have hend : min (j * kn) b.length = b.length := by
        have h1 := leavesL_len b kn
        rw [HN.out] at h1
        obtain ⟨q1, q2, q3, q4, q5⟩ := right_parts HR.out
        have h2 := Nat.div_add_mod (b.length + kn - 1) kn
        have h3 := Nat.mod_lt (b.length + kn - 1) (show 0 < kn by omega)
        rw [← h1, Nat.mul_comm] at h2
        omega
      rw [hend]
      clear hend
      have hjj : ¬ (j : Int) < (j : Int) := by omega
      have him := image_one (y := y) (by rw [HYS.out, HYP.out]; exact HR.out)
      obtain ⟨hc, hcl⟩ := encG_some him (fun x hx => by simp at hx; rw [hx]; exact HOK.out)
      have hce : encGE [y] = 0 := by
        unfold encGE
        unfold encG at hc
        rw [if_pos him] at hc ⊢
        rw [hc]; rfl
      have hcd := imgD_iff.2 ⟨hc, fun x hx => by simp at hx; rw [hx]; exact HOK.out⟩
      generalize flatB (imgIts [y]) = cb at *
      have HBR := Lib.hid hb
      have HOr := Lib.hid (HO7.out.of_new HBR.out)
      have HCE := Lib.hid hce
      have HCG := Lib.hid hc
      have HCD := Lib.hid hcd
      clear hb hc hce hcd him
      go_upto_region 24 with (first
        | ((with_reducible refine wpList_plain (o := ⟨some 118, Op.load _ _, _, _, _, _⟩) rfl fun K hK => ?_); (refine HOr.out.at_.wp rfl rfl (hK _ _ ?_)))
        | ((with_reducible refine wpList_plain (o := ⟨some 119, Op.buildSlice _ _ _, _, _, _, _⟩) rfl fun K hK => ?_); (refine RBlob.wp_build1 (x := y) Tryd.underlying50 (.tmp 118) HOK.out rfl rfl fun w8 ho8 hb8 hs8 => hK _ _ ?_); have HS8 := Lib.hid ho8.row; have HO8 := Lib.hid (HOr.out.of_new hb8); have HB8 := Lib.hid (below_next HBR.out hb8); clear ho8 hb8 hs8)
        | (go_at_call 28; refine (EncImg_any _ [y] _ HS8.out).mono ?_; unfold EncIPost; rw [HCE.out, HCG.out]; rintro e w9 ⟨v9, rfl, hv9, hb9⟩; replace hv9 : Bytes w9 v9 cb := hv9; obtain ⟨a9, c9, hv⟩ := hv9.len; subst hv; have HV9 := Lib.hid hv9; have HO9 := Lib.hid (HO8.out.of_new hb9); have HB9 := Lib.hid (below_next HB8.out hb9); clear hv9 hb9))
      go_upto_region 25 with (first
        | (go_at_call 32; refine (DecImg_any _ cb _ HV9.out).mono ?_; unfold ImgDPost; rw [HCD.out]; rintro e wa ⟨va', rfl, hra, hba⟩; replace hra : RBlob.Row wa va' [y] := hra; obtain ⟨aa, ca, hv⟩ := hra.len; replace hv : va' = .slice aa 1 ca := hv; subst hv; have HRA := Lib.hid hra; have HOA := Lib.hid (HO9.out.of_new hba); have HBA := Lib.hid (below_next HB9.out hba); clear hra hba)
        | ((with_reducible refine wpList_plain (o := ⟨some 21, Op.alloc _, _, _, _, _⟩) rfl fun K hK => ?_); (refine RImg.wp_alloc rfl fun wb hb hbb hsb => hK _ _ ?_); have HB_ := Lib.hid hb; have HBB := Lib.hid hbb; clear hb hbb hsb)
        | ((with_reducible refine wpList_plain (o := ⟨none, Op.store _ (.tmp 21) (.tmp 127), _, _, _, _⟩) rfl fun K hK => ?_); (refine HB_.out.store (.tmp 21) (.tmp 127) rfl rfl rfl (show RImg.ok (.slice aa 1 ca) from rfl) fun wc hc hgc hsc => hK _ _ ?_); have hbc := HBB.out.grown hgc (by have := HBB.out.size; omega) (fun k e => by cases e; exact Nat.le_refl _); have HZC := Lib.hid hc; have HRC := Lib.hid (HRA.out.of_new hbc); have HOC := Lib.hid (HOA.out.of_new hbc); have HBC := Lib.hid (below_next HBA.out hbc); clear hc hgc hsc hbc))
      obtain ⟨pb, poff, pc, hv, hpl, hat⟩ := HRC.out.at_ (by simp)
      obtain ⟨rfl, rfl⟩ : aa = some ⟨pb, poff, none⟩ ∧ ca = pc := by cases hv; exact ⟨rfl, rfl⟩
      have hat0 := hat 0 y rfl
      rw [Nat.zero_mul, Nat.add_zero] at hat0
      have HAT0 := Lib.hid hat0
      have hcz : ∀ w', Grew wc w' → w'.cell? ⟨wa.heap.size, 0, none⟩ = some (.slice (some ⟨pb, poff, none⟩) 1 ca) := fun w' h => Grew.cell h (HZC.out.cell 0)
      have hqe : ∀ w' : World, (binOp .eql 27 (RBlob.V y) (RBlob.V y)).run Tryd.prog w' = .ok (.bool true) w' := fun w' => by
        have := run_eql_blob y y HOK.out HOK.out w'
        rw [decide_eq_true rfl] at this
        exact this
      have hgb : ∀ p q w', (eqGuard .eql 27 p q (RBlob.V y) (RBlob.V y)).run Tryd.prog w' = .ok () w' := fun p q w' => run_guard_blob p q y y w'
      have e3 : ∀ x : Int, (x == x) = true := by simp
      clear hv hat hat0 HRC
      refine wp_region_grew (by kernel_rfl) (by kernel_rfl) ?_
      repeat (first
        | (go_big_quiet_want; (refine RecT.At.quiet (R := RBlob) (p := .tmp 6) (fun w' hw' => (HOC.out.of_new hw').at_) rfl rfl ?_); go_simp; go_big_quiet_on)
        | (go_big_quiet_want; (refine RecT.At.quiet (R := RBlob) (p := .tmp 150) (fun w' hw' => HAT0.out.of_new hw') rfl rfl ?_); go_simp; go_big_quiet_on)
        | (go_big_quiet_want; (with_reducible apply quiet_load_at (ty := 25) (x := .tmp _)); rfl; rfl; assumption; go_simp; go_big_quiet_on)
        | (go_big_quiet_want; apply quiet_val; (intro w' hw'; go_simp; first | done | rfl); go_simp; go_big_quiet_on)
        | (go_big_quiet_skip))
      refine wpQuiet_nil ?_
      intro w9 hw9
      go_wp2
      all_goals
        go_ret
        exact ⟨rfl, below_next HB7.out (below_next HBC.out hw9)⟩

end Go.Proofs.YtnomekfemadpeaaDoor

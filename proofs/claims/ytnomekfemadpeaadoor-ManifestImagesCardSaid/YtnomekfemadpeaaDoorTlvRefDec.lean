/- The walk of the reference's Decode. No condition. -/
import Derived.Test.YtnomekfemadpeaaDoorTlvDecode
import Derived.Test.YtnomekfemadpeaaDoorTlvRefCut
namespace Go.Proofs.YtnomekfemadpeaaDoor
open Go.RowKit
set_option linter.unusedVariables false
set_option linter.unusedSimpArgs false

/-- What holds ahead of each round of the reference's Decode. -/
def RDecI (w : World) (b : List UInt8) (ov lv rv : Value) (W : World) : Prop :=
  ∃ (pre : List ItV) (last : Int) (rest : List UInt8), OwnI W w.heap.size ov pre ∧ Bytes w rv rest ∧ lv = .int .i64 last ∧ 0 ≤ last ∧ last ≤ 63 ∧ pre.length + rest.length ≤ 65536 ∧
    checkF (itemsL b) 0 = (checkF (itemsL rest) last).map (pre.map (·.1) ++ ·) ∧ Below w.heap.size w W

theorem refcut_bad {v : Value} {l : List UInt8} {w : World} (hl : Bytes w v l) (h : cutL 0 0 l = none) :
    Calls Tryd.prog 79 #[v] w fun e w' => e = .returned (.tuple #[.int .u64 0, .int .i64 0]) ∧ w' = w :=
  (refcut_any v l w hl).mono fun e w' h2 => by unfold RefCutPost at h2; rw [h] at h2; exact h2
theorem refcut_good {v : Value} {l : List UInt8} {w : World} (hl : Bytes w v l) {n m : Nat} (h : cutL 0 0 l = some (n, m)) :
    Calls Tryd.prog 79 #[v] w fun e w' => e = .returned (.tuple #[.int .u64 n, .int .i64 m]) ∧ w' = w :=
  (refcut_any v l w hl).mono fun e w' h2 => by unfold RefCutPost at h2; rw [h] at h2; exact h2

set_option maxRecDepth 100000 in
set_option maxHeartbeats 3200000 in
theorem refDecode_own (v : Value) (b : List UInt8) (w : World) (hl : Bytes w v b) :
    Calls Tryd.prog 57 #[v] w (DecPostO w (decL b)) := by
  obtain ⟨i0, hi, hz0, hz1, hz2⟩ := info_parts infoU8
  have hle := hl.le
  obtain ⟨va, vc, hv⟩ := hl.len
  subst hv
  by_cases hbig : 65536 < b.length
  · have t0 : (65536 : Int) < (b.length : Int) := by omega
    have hd : decL b = none := by unfold decL; rw [if_pos hbig]
    have HD := Lib.hid hd
    clear hd hbig hl
    go_enter Tryd.func57, Tryd.ntmps57
    go_wp2
    go_ret2
    rw [HD.out]
    exact ⟨_, [], w.heap.size, rfl, OwnI.nil _ _, rfl, Below.refl _ _, Nat.le_refl _⟩
  have t0 : ¬ (65536 : Int) < (b.length : Int) := by omega
  have hd : decL b = checkF (itemsL b) 0 := by unfold decL; rw [if_neg hbig]
  have HD := Lib.hid hd
  clear hd
  have HL := Lib.hid hl
  clear hl
  go_enter Tryd.func57, Tryd.ntmps57
  go_wp2
  go_loopw [4, 5, 6] (RDecI w b) (fun _ _ rv _ => lenV rv)
  case atStart => exact ⟨[], 0, b, OwnI.nil _ _, HL.out, rfl, by omega, by omega, by simp; omega, by simp, Below.refl _ _⟩
  case round =>
    obtain ⟨pre, last, rest, hown, hl, rfl, hla, hlb, hlen, heq, hb⟩ := hrel
    obtain ⟨ra, rc, hv⟩ := hl.len
    subst hv
    obtain ⟨oa, oc, hv⟩ := hown.len
    subst hv
    have HEQ := Lib.hid heq
    clear heq
    by_cases hlt : 0 < rest.length
    · have hlt2 : (0 : Int) < (rest.length : Int) := by omega
      obtain ⟨rb, roff, rc', hv, hbl, hcell⟩ := hl.cell hlt
      obtain ⟨rfl, rfl⟩ : ra = some ⟨rb, roff, none⟩ ∧ rc = rc' := by cases hv; exact ⟨rfl, rfl⟩
      have hc0 := (hb.cell (p := ⟨rb, roff + 0, none⟩) hbl).trans (hcell 0 hlt)
      rw [Nat.add_zero] at hc0
      unfold B8 at hc0
      have hyl := (rest.getD 0 0).toNat_lt
      obtain ⟨tv, hrt, ht, hto⟩ := hl.part (P := Tryd.prog) (t := 22) Tryd.underlying22 hi hz1 (some (.int .i64 1)) none 1 rest.length (by omega) (Nat.le_refl _) (.inr ⟨.i64, rfl⟩) (.inl ⟨rfl, rfl⟩)
      rw [List.take_of_length_le (by simp)] at ht
      have hone := oneI_drop hlt
      have htl : (rest.drop 1).length = rest.length - 1 := by simp
      have hne : rest ≠ [] := by intro e; rw [e] at hlt; simp at hlt
      have hbad := itemsL_bad (b := rest) hne
      have hstep := fun x r => itemsL_step (b := rest) (r := r) (x := x)
      have hone' : ∀ n m, cutL 0 0 (rest.drop 1) = some (n, m) → m ≤ (rest.drop 1).length ∧ 0 < m ∧ n < 18446744073709551616 := fun n m h => by have := cutL_lt (by omega) (by omega) h; omega
      clear hcell hv
      have HTL := Lib.hid htl
      have HBAD := Lib.hid hbad
      have HST := Lib.hid hstep
      have HPART := Lib.hid hl
      clear htl hbad hstep hne
      have hrd : ∀ m, (rest.drop 1).drop m = rest.drop (1 + m) := fun m => by rw [List.drop_drop]
      have HRD := Lib.hid hrd
      clear hrd
      generalize hty : rest.drop 1 = t at *
      generalize rest.getD 0 0 = y at *
      obtain ⟨ta, tc, hv⟩ := ht.len
      subst hv
      have HONE := Lib.hid hone
      clear hone hto hl
      have HTY := Lib.hid hty
      clear hty
      have hyn : checkF [((0 : Int), ([] : List UInt8))] last = none := by simp [checkF]; omega
      have hord : ∀ (x : It) (r : List It), (x.1 ≤ last ∨ 63 < x.1) → checkF (x :: r) last = none := fun x r h => by simp only [checkF, if_pos h]
      have hnone : checkF (itemsL rest) last = none → decL b = none := fun h => by rw [HD.out, HEQ.out, h]; rfl
      have hbadk : (((y.toNat : Nat) : Int) ≤ last ∨ 63 < ((y.toNat : Nat) : Int)) → decL b = none := fun h => hnone (by
        cases ho : oneI rest with
        | none => rw [HBAD.out ho]; exact hyn
        | some p =>
          obtain ⟨x, r⟩ := p
          rw [HST.out _ _ ho]
          refine hord x _ ?_
          have h1 := HONE.out
          rw [ho] at h1
          split at h1
          · cases h1
          · split at h1
            · cases h1
            · cases h1; exact h)
      have HORD := Lib.hid hord
      have HNO := Lib.hid hnone
      have HYN := Lib.hid hyn
      clear hord hnone hyn
      rcases hcut : cutL 0 0 t with _ | ⟨n, m⟩
      · have hbd : oneI rest = none := by rw [HONE.out, hcut]
        have hdn : decL b = none := HNO.out (by rw [HBAD.out hbd]; exact HYN.out)
        have HDN := Lib.hid hdn
        have HCU := Lib.hid hcut
        clear hcut hdn hbd hbadk
        have hl2 := ht.of_new hb
        by_cases h1 : ((y.toNat : Nat) : Int) ≤ last
        · go_wp2_with (refine (refcut_bad hl2 HCU.out).mono ?_; rintro e w2 ⟨rfl, rfl⟩)
          go_ret2
          rw [HDN.out]
          exact ⟨_, [], w.heap.size, rfl, OwnI.nil _ _, rfl, hb, Nat.le_refl _⟩
        · by_cases h2 : 63 < ((y.toNat : Nat) : Int)
          · go_wp2_with (refine (refcut_bad hl2 HCU.out).mono ?_; rintro e w2 ⟨rfl, rfl⟩)
            go_ret2
            rw [HDN.out]
            exact ⟨_, [], w.heap.size, rfl, OwnI.nil _ _, rfl, hb, Nat.le_refl _⟩
          · go_wp2_with (refine (refcut_bad hl2 HCU.out).mono ?_; rintro e w2 ⟨rfl, rfl⟩)
            go_ret2
            rw [HDN.out]
            exact ⟨_, [], w.heap.size, rfl, OwnI.nil _ _, rfl, hb, Nat.le_refl _⟩
      · obtain ⟨q1', q2, q3⟩ := hone' n m hcut
        have q1 : (m : Int) ≤ (rest.length : Int) - 1 := by have := HTL.out; omega
        clear q1' hone'
        have HCU := Lib.hid hcut
        clear hcut
        have hm0 : ((m : Int) == 0) = false := beq_eq_false_iff_ne.2 (by omega)
        have hl2 := ht.of_new hb
        by_cases hk : ((y.toNat : Nat) : Int) ≤ last ∨ 63 < ((y.toNat : Nat) : Int)
        · have HDN := Lib.hid (hbadk hk)
          clear hbadk
          by_cases h1 : ((y.toNat : Nat) : Int) ≤ last
          · clear hk
            go_wp2_with (refine (refcut_good hl2 HCU.out).mono ?_; rintro e w2 ⟨rfl, rfl⟩)
            go_ret2
            rw [HDN.out]
            exact ⟨_, [], w.heap.size, rfl, OwnI.nil _ _, rfl, hb, Nat.le_refl _⟩
          · have h2 := hk.resolve_left h1
            clear hk
            go_wp2_with (refine (refcut_good hl2 HCU.out).mono ?_; rintro e w2 ⟨rfl, rfl⟩)
            go_ret2
            rw [HDN.out]
            exact ⟨_, [], w.heap.size, rfl, OwnI.nil _ _, rfl, hb, Nat.le_refl _⟩
        clear hbadk
        have h1 : ¬ ((y.toNat : Nat) : Int) ≤ last := fun h => hk (.inl h)
        have h2 : ¬ 63 < ((y.toNat : Nat) : Int) := fun h => hk (.inr h)
        clear hk
        have hr60 : rest.length ≤ 65536 := by omega
        have s1 : IntKind.i64.wrap ((rest.length : Int) - 1) = (rest.length : Int) - 1 := IntWalk.i64_in _ (by omega)
        have s2 : IntKind.i64.wrap ((rest.length : Int) - 1 - (m : Int)) = (rest.length : Int) - 1 - (m : Int) := IntWalk.i64_in _ (by omega)
        have s3 : IntKind.u64.wrap ((rest.length : Int) - 1 - (m : Int)) = (rest.length : Int) - 1 - (m : Int) := IntWalk.u64_in _ (by omega)
        by_cases h3 : (rest.length : Int) - 1 - (m : Int) < (n : Int)
        · have hbd : oneI rest = none := by
            rw [HONE.out, HCU.out]
            simp only
            rw [if_pos (by simp only [List.length_drop]; have := HTL.out; omega)]
          have HDN := Lib.hid (HNO.out (by rw [HBAD.out hbd]; exact HYN.out))
          clear hbd
          go_wp2_with (refine (refcut_good hl2 HCU.out).mono ?_; rintro e w2 ⟨rfl, rfl⟩)
          go_ret2
          rw [HDN.out]
          exact ⟨_, [], w.heap.size, rfl, OwnI.nil _ _, rfl, hb, Nat.le_refl _⟩
        · have hone2 : oneI rest = some ((((y.toNat : Nat) : Int), (t.drop m).take n), (t.drop m).drop n) := by
            rw [HONE.out, HCU.out]
            simp only
            rw [if_neg (by simp only [List.length_drop]; have := HTL.out; omega)]
          obtain ⟨b1, hr1, hb1, _⟩ := HPART.out.part (P := Tryd.prog) (t := 22) Tryd.underlying22 hi hz1 (some (.int .i64 (1 + (m : Int)))) (some (.int .i64 (1 + (m : Int) + (n : Int)))) (1 + m) (1 + m + n) (by omega) (by omega) (.inr ⟨.i64, by congr 1⟩) (.inr ⟨.i64, by congr 1⟩)
          obtain ⟨b2, hr2, hb2, _⟩ := HPART.out.part (P := Tryd.prog) (t := 22) Tryd.underlying22 hi hz1 (some (.int .i64 (1 + (m : Int) + (n : Int)))) none (1 + m + n) rest.length (by omega) (Nat.le_refl _) (.inr ⟨.i64, by congr 1⟩) (.inl ⟨rfl, rfl⟩)
          have e1 : (rest.drop (1 + m)).take (1 + m + n - (1 + m)) = (t.drop m).take n := by rw [HRD.out, show 1 + m + n - (1 + m) = n by omega]
          have e2 : (rest.drop (1 + m + n)).take (rest.length - (1 + m + n)) = (t.drop m).drop n := by rw [HRD.out, List.take_of_length_le (by simp), List.drop_drop]
          rw [e1] at hb1
          rw [e2] at hb2
          have hstep := HST.out _ _ hone2
          have hdl : ((t.drop m).take n).length = n := by simp only [List.length_take, List.length_drop]; have := HTL.out; omega
          have hdr : ((t.drop m).drop n).length = rest.length - 1 - m - n := by simp only [List.length_drop]; have := HTL.out; omega
          generalize (t.drop m).take n = d at *
          generalize (t.drop m).drop n = rr at *
          obtain ⟨da, dc, hv⟩ := hb1.len
          subst hv
          obtain ⟨rra, rrc, hv⟩ := hb2.len
          subst hv
          have hO0 : Own8 (wr.alloc (.cells #[] 5)) wr.heap.size 5 (.slice (some ⟨wr.heap.size, 0, none⟩) 0 0) [] := World.ownsRow_made wr #[] 0 (Nat.le_refl _) (by unfold maxLen; omega) rfl
          have HO := Lib.hid hO0
          have HB := Lib.hid ((hb1.of_new hb).of_alloc (.cells #[] 5))
          have HB2 := Lib.hid hb2
          have HOW := Lib.hid hown
          have HST2 := Lib.hid hstep
          have hnr : (n : Int) ≤ (rest.length : Int) - 1 - (m : Int) := by omega
          have hdl2 : d.length ≤ 65536 := by omega
          have hrl : rr.length < rest.length := by omega
          have hpl : pre.length + 1 + rr.length ≤ 65536 := by omega
          have hwb := hb.size
          have HBE := Lib.hid hb
          clear hb1 hb2 hown hO0 hstep hone2 e1 e2 hb hdl hdr
          go_wp2_with (first | (refine (refcut_good hl2 HCU.out).mono ?_; rintro e w2 ⟨rfl, hq⟩; subst w2) | (at_builtin; go_loud (refine wpList_app8 rfl (.tmp 61) (.tmp 62) 22 rfl wr.heap.size 5 i0 Tryd.underlying22 hi hz0 hz1 hz2 _ [] rfl HO.out _ d rfl HB.out ?c1 ?c2 ?_)))
          case c1 => simp; omega
          case c2 => simp
          intro v1 w1 hown1 hg1 _
          have hbn : Below wr.heap.size wr w1 := ((Below.refl _ wr).alloc (Nat.le_refl _) _).grown hg1 (by simp) (fun j hj => (HO.out.lt j hj).1)
          obtain ⟨v1a, v1c, hv⟩ := hown1.bytes.len
          subst hv
          have hown2 : OwnI w1 w.heap.size (.slice oa pre.length oc) pre := HOW.out.keep fun k _ hk2 => hbn.block k hk2
          obtain ⟨Y, hY⟩ : ∃ Y, w1.alloc (.cells #[.int .i64 (y.toNat : Int), .slice v1a d.length v1c] 79) = Y := ⟨_, rfl⟩
          have hYn : Y.heap[w1.heap.size]? = some (.cells #[.int .i64 (y.toNat : Int), .slice v1a d.length v1c] 79 (0, 0)) := by rw [← hY]; exact heap_alloc_new w1 _
          have hYb : Below w1.heap.size w1 Y := by rw [← hY]; exact (Below.refl _ w1).alloc (Nat.le_refl _) _
          have hYo : OwnI Y w.heap.size (.slice oa pre.length oc) pre := hown2.keep fun k _ hk2 => hYb.block k hk2
          have hY8 : Own8 Y w.heap.size 5 (.slice v1a d.length v1c) d := (hown1.new hYb).mono hwb
          have hYs : w.heap.size ≤ Y.heap.size := by have q1 := hbn.size; have q2 := hYb.size; omega
          have hYB : Below w.heap.size w Y := below_next' (below_next HBE.out (hbn.mono (Nat.le_refl _))) hYb (by have q1 := hbn.size; omega)
          have HY := Lib.hid hY
          have HYN := Lib.hid hYn
          have HYO := Lib.hid hYo
          have HY8 := Lib.hid hY8
          have HYB := Lib.hid hYB
          clear hY hYn hYo hY8 hYb hYB hown2 hown1 hg1 hbn HO HB
          go_wp2_with (at_builtin; rw [HY.out]; go_loud (refine wpList_plain rfl fun K hK => wp_appI (.tmp 59) (.tmp 65) rfl w.heap.size _ pre ((y.toNat, d), .slice v1a d.length v1c) w1.heap.size rfl HYO.out rfl HY8.out HYN.out (by omega) hYs fun v2 w3 ho2 hg2 hv2 => hK _ _ ?_))
          obtain ⟨v2a, v2c, hv⟩ := ho2.len
          rw [List.length_append] at hv
          subst hv
          have HO2 := Lib.hid ho2
          clear ho2
          go_wp2
          have hc2 : checkF (itemsL rest) last = (checkF (itemsL rr) (y.toNat : Int)).map ((((y.toNat : Nat) : Int), d) :: ·) := by
            rw [HST2.out]
            simp only [checkF]
            rw [if_neg (by omega)]
          refine ⟨⟨pre ++ [(((y.toNat : Int), d), .slice v1a d.length v1c)], _, rr, HO2.out, HB2.out, rfl, by omega, by omega, by simp; omega, ?_, ?_⟩, hrl⟩
          · rw [HEQ.out, hc2]
            cases checkF (itemsL rr) (y.toNat : Int) <;> simp
          · exact HYB.out.grown hg2 (by have := HYB.out.size; omega) (fun k e => (HYO.out.lt k e).1)
    · have hn : ¬ (0 : Int) < (rest.length : Int) := by omega
      have hr : rest = [] := List.eq_nil_of_length_eq_zero (by omega)
      have hd : decL b = some (pre.map (·.1)) := by rw [HD.out, HEQ.out, hr]; simp [itemsL_nil, checkF]
      have HDN := Lib.hid hd
      clear hd hr
      go_wp2
      go_ret2
      rw [HDN.out]
      exact ⟨_, pre, w.heap.size, rfl, hown, rfl, hb, Nat.le_refl _⟩

theorem refDecode_any (v : Value) (b : List UInt8) (w : World) (hl : Bytes w v b) :
    Calls Tryd.prog 57 #[v] w (DecPost w (decL b)) := (refDecode_own v b w hl).mono fun _ _ h => h.post

end Go.Proofs.YtnomekfemadpeaaDoor

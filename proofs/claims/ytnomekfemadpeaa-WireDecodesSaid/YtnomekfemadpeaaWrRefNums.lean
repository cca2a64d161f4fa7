/- The walk of the reference's numbers: the numbers that bytes are, so many at most. Condition: no more than 2^20 bytes, no more than 2^20 numbers asked. -/
import Derived.Test.YtnomekfemadpeaaGa
import Derived.Test.YtnomekfemadpeaaWrCollI
import Derived.Test.YtnomekfemadpeaaGc
import Derived.Test.YtnomekfemadpeaaWrNumSeq
namespace Go.Proofs.Ytnomekfemadpeaa
open Go.RowKit Go.Shelf
set_option linter.unusedVariables false
set_option linter.unusedSimpArgs false
set_option maxRecDepth 100000

def RNumsPost (w : World) (r : Option (List Int)) (e : Ending) (w' : World) : Prop :=
  ∃ v, e = .returned (.tuple #[v, .bool r.isSome]) ∧ OwnN w' w.heap.size v (r.getD []) ∧ Below w.heap.size w w'
theorem rnums_none {w w' : World} {r : Option (List Int)} (h : r = none) (hb : Below w.heap.size w w') : RNumsPost w r (.returned (.tuple #[.slice none 0 0, .bool false])) w' :=
  ⟨_, by rw [h]; rfl, by rw [h]; exact OwnN.nil _ _, hb⟩
/-- Ahead of each round. -/
def RNumI (w : World) (b : List UInt8) (most : Nat) (rv ov : Value) (W : World) : Prop :=
  ∃ (pre : List Int) (rest : List UInt8), Bytes w rv rest ∧ rest.length ≤ b.length ∧ numsL b = pre ++ numsL rest ∧ (∀ n ∈ pre, 0 ≤ n) ∧ pre.length ≤ most ∧ OwnN W w.heap.size ov pre ∧ Below w.heap.size w W
/-- .. of the loop within. -/
def RStepI (w1 : World) (rest : List UInt8) (nv mv kv : Value) (W : World) : Prop :=
  ∃ k : Nat, 1 ≤ k ∧ k ≤ 7 ∧ kv = .int .i64 (k : Int) ∧ Below w1.heap.size w1 W ∧
    ((mv = .int .i64 0 ∧ nv = .int .i64 0 ∧ ∀ j, 1 ≤ j → j < k → j ≤ rest.length → toU (rest.take j) = none) ∨
     ∃ n m : Nat, 1 ≤ m ∧ mv = .int .i64 (m : Int) ∧ nv = .int .i64 (n : Int) ∧ numStep rest = some (n, m))

set_option maxHeartbeats 6400000 in
theorem rnumbers_any (v : Value) (b : List UInt8) (most : Nat) (w : World) (hl : Bytes w v b) (hlen : b.length ≤ 1048576) (hmost : most ≤ 1048576) :
    Calls Try.prog 35 #[v, .int .i64 (most : Int)] w (RNumsPost w (rnumsL b most)) := by
  obtain ⟨i0, hi, hz0, hz1, hz2⟩ := info_parts infoU8
  obtain ⟨va, vc, hv⟩ := hl.len
  subst hv
  have HL := Lib.hid hl
  clear hl
  go_enter Try.func35, Try.ntmps35
  go_wp2
  go_loopw [0, 6, 7, 8, 9, 10, 11] (fun rv ov _ _ _ _ _ W' => RNumI w b most rv ov W') (fun rv _ _ _ _ _ _ _ => lenV rv)
  case atStart => exact ⟨[], b, HL.out, Nat.le_refl _, rfl, by simp, Nat.zero_le _, OwnN.nil _ _, Below.refl _ _⟩
  case round =>
    obtain ⟨pre, rest, hl, hle, hit, hpos, hpm, ho, hB⟩ := hrel
    obtain ⟨ra, rc, hv⟩ := hl.len
    subst hv
    obtain ⟨oa, oc, hv⟩ := ho.ints.len
    subst hv
    have HI := Lib.hid hit
    have HPOS := Lib.hid hpos
    have HO := Lib.hid ho
    clear hit hpos ho
    by_cases hlt : 0 < rest.length
    · have hlt2 : (0 : Int) < (rest.length : Int) := by omega
      have HL2 := Lib.hid hl
      have HB := Lib.hid hB
      rename World => wo
      clear hl hB
      go_wp2
      go_loopw [7, 8, 9, 10, 11] (fun nv mv kv _ _ W' => RStepI wo rest nv mv kv W') (fun _ _ kv _ _ _ => 8 - (intOf kv).toNat)
      case atStart => exact ⟨1, by omega, by omega, rfl, Below.refl _ _, .inl ⟨rfl, rfl, fun j h1 h2 => by omega⟩⟩
      case round =>
        obtain ⟨k, hk1, hk7, rfl, hbk, hcase⟩ := hrel
        have hsk := hbk.size
        rcases hcase with ⟨rfl, rfl, hno⟩ | ⟨x, m, hm1, rfl, rfl, hst⟩
        · by_cases hkq : k ≤ 6 ∧ k ≤ rest.length
          · obtain ⟨hk6, hkl⟩ := hkq
            obtain ⟨tv, hrt, ht, _⟩ := HL2.out.part (P := Try.prog) (t := 25) Try.underlying25 hi hz1 none (some (.int .i64 (k : Int))) 0 k (by omega) (by omega) (.inl ⟨rfl, rfl⟩) (.inr ⟨.i64, rfl⟩)
            rw [List.drop_zero, Nat.sub_zero] at ht
            have hTU := refToUint_any tv (rest.take k) wr (ht.of_new (below_next HB.out hbk))
            have hnf := fun x => numStep_found (b := rest) (n := x) (k := k) hk6 hkl
            rcases hu : toU (rest.take k) with _ | x
            · rw [hu, show errOf (none : Option Nat).isSome = 2 from rfl, show (none : Option Nat).getD 0 = 0 from rfl] at hTU
              have HTU := Lib.hid hTU
              have HNO := Lib.hid hno
              have HU := Lib.hid hu
              have HBK := Lib.hid hbk
              clear hTU ht hnf hno hu hbk
              go_wp2_with (go_at_call 51; refine HTU.out.mono ?_; rintro e w3 ⟨rfl, hb3⟩; have HB3 := Lib.hid hb3; clear hb3)
              go_roundw
              case rel =>
                refine ⟨k + 1, by omega, by omega, by go_num, below_next HBK.out HB3.out, .inl ⟨rfl, rfl, fun j h1 h2 h3 => ?_⟩⟩
                rcases Nat.lt_or_ge j k with h | h
                · exact HNO.out j h1 h h3
                · rw [show j = k by omega]; exact HU.out
              case measure => simp only [intOf]; omega
            · have hst := hnf x hu
              have hxl := (numStep_some hst).2.2.2.2.1
              rw [hu, show errOf (some x).isSome = 0 from rfl, show (some x).getD 0 = x from rfl] at hTU
              have HTU := Lib.hid hTU
              have HST := Lib.hid hst
              have HBK := Lib.hid hbk
              clear hTU ht hnf hno hu hst hbk
              go_wp2_with (go_at_call 51; refine HTU.out.mono ?_; rintro e w3 ⟨rfl, hb3⟩; have HB3 := Lib.hid hb3; clear hb3)
              go_roundw
              case rel => exact ⟨k + 1, by omega, by omega, by go_num, below_next HBK.out HB3.out, .inr ⟨x, k, hk1, rfl, rfl, HST.out⟩⟩
              case measure => simp only [intOf]; omega
          · have hsn : numStep rest = none := numStep_none fun j h1 h2 h3 => hno j h1 (by omega) h3
            have hne : rest ≠ [] := fun e => by rw [e] at hlt; simp at hlt
            have HDN := Lib.hid (rnums_bad (most := most) HI.out hne hsn)
            have HBK := Lib.hid hbk
            clear hno hsn hne hbk
            by_cases c2 : (k : Int) ≤ 6
            · have c3 : ¬ ((k : Int) ≤ (rest.length : Int)) := by omega
              clear hkq
              go_wp2
              go_ret2
              exact rnums_none HDN.out (below_next HB.out HBK.out)
            · clear hkq
              go_wp2
              go_ret2
              exact rnums_none HDN.out (below_next HB.out HBK.out)
        · obtain ⟨hcu, -, hm6, hml, hxl, -⟩ := numStep_some hst
          have hnl := numsL_step hst
          have hnb : numsL b = (pre ++ [(x : Int)]) ++ numsL (rest.drop m) := by rw [HI.out, hnl, List.append_assoc]; rfl
          have hmy := rnums_many (most := most) HI.out hst
          obtain ⟨tv, hrt, ht, _⟩ := HL2.out.part (P := Try.prog) (t := 25) Try.underlying25 hi hz1 (some (.int .i64 (m : Int))) none m rest.length (by omega) (Nat.le_refl _) (.inr ⟨.i64, rfl⟩) (.inl ⟨rfl, rfl⟩)
          rw [List.take_of_length_le (by simp)] at ht
          have hdl : (rest.drop m).length < rest.length := by simp; omega
          obtain ⟨R, hR0⟩ : ∃ R, rest.drop m = R := ⟨_, rfl⟩
          rw [hR0] at ht hnb hdl
          obtain ⟨ta, tc, hv⟩ := ht.len
          subst hv
          have HNB := Lib.hid hnb
          have HT := Lib.hid ht
          have HMY := Lib.hid hmy
          have HBK := Lib.hid hbk
          have tm0 : ((m : Int) == 0) = false := beq_eq_false_iff_ne.2 (by omega)
          clear hnl hnb hst hcu hR0 ht hmy hbk
          have hc4 : (k : Int) ≤ 6 ∧ (k : Int) ≤ (rest.length : Int) ∨ (k : Int) ≤ 6 ∧ ¬ (k : Int) ≤ (rest.length : Int) ∨ ¬ (k : Int) ≤ 6 := by omega
          by_cases hpm2 : pre.length < most
          · have hpmI : ¬ (most : Int) ≤ (pre.length : Int) := by omega
            have hpmN : ¬ most ≤ pre.length := by omega
            rcases hc4 with ⟨c1, c2⟩ | ⟨c1, c2⟩ | c1
            all_goals
              go_wp2_with (first
                | ((with_reducible refine wpList_plain (o := ⟨some 52, Op.call _, _, _, _, _⟩) rfl fun K hK => ?_); refine wp_appN (.tmp 49) (.tmp 51) rfl w.heap.size _ pre rfl (((HO.out.of_new HBK.out)).of_new ((Below.refl _ wr).alloc (Nat.le_refl _) _)) _ [(x : Int)] rfl (one_ints wr x _) (by simp; omega) (by have := HB.out.size; simp; omega) fun v4 w4 ho4 hg4 hu4 => hK _ _ ?_; obtain ⟨va4, vc4, hv4⟩ := ho4.ints.len; subst hv4; rw [List.length_append, List.length_singleton] at ho4 ⊢; have HO4 := Lib.hid ho4; have HG4 := Lib.hid hg4; clear ho4 hg4 hu4))
              go_roundw
              case rel =>
                refine ⟨pre ++ [(x : Int)], R, HT.out, by omega, HNB.out, fun n hn => ?_, by simp; omega, HO4.out, ((below_next HB.out HBK.out).alloc (by have := HB.out.size; omega) _).grown HG4.out (by have := HB.out.size; simp; omega) (fun q e => (HO.out.lt q e).1)⟩
                rcases List.mem_append.1 hn with hn | hn
                · exact HPOS.out n hn
                · simp at hn; omega
              case measure => simp only [lenV]; omega
          · have HDN := Lib.hid (HMY.out (by omega))
            have hpmI : (most : Int) ≤ (pre.length : Int) := by omega
            have hpmN : most ≤ pre.length := by omega
            rcases hc4 with ⟨c1, c2⟩ | ⟨c1, c2⟩ | c1
            all_goals
              go_wp2
              go_ret2
              exact rnums_none HDN.out (below_next HB.out HBK.out)
    · obtain rfl : rest = [] := List.length_eq_zero_iff.1 (by omega)
      have HDN := Lib.hid (rnums_all HI.out HPOS.out hpm)
      have HB := Lib.hid hB
      clear hB
      go_wp2
      go_ret2
      exact ⟨_, by rw [HDN.out]; rfl, by rw [HDN.out]; exact HO.out, HB.out⟩

end Go.Proofs.Ytnomekfemadpeaa

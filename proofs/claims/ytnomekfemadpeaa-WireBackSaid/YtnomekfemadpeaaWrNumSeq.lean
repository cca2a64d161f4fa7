/- The walks of wire.numbers: the maker, and the iterator over numbers that bytes are. Condition: the bytes lie below what the call made. -/
import Derived.Test.YtnomekfemadpeaaGa
import Derived.Test.YtnomekfemadpeaaGc
import Derived.Test.YtnomekfemadpeaaGb
import Derived.LoopNIn
import Derived.LoopIn
import Derived.BigFrameIn
import Derived.BigGuardIn
import Derived.Shelf.Abstract
import Derived.Shelf.RegionOpen
namespace Go.Proofs.Ytnomekfemadpeaa
open Go.RowKit Go.Shelf
attribute [local go_sem] Oper.semAt_some
set_option linter.unusedVariables false
set_option linter.unusedSimpArgs false
set_option maxRecDepth 100000

theorem numbers_any (a : Option Addr) (n c : Nat) (w : World) :
    Calls Try.prog 49 #[.slice a n c] w fun e w' => e = .returned (.func (.func 58) #[] #[.pointer (some ⟨w.heap.size, 0, none⟩)]) ∧ w' = w.alloc (.cells #[.slice a n c] 25) := by
  go_enter Try.func49, Try.ntmps49
  go_wp2
  go_ret
  exact ⟨rfl, rfl⟩

abbrev encN (x : Int) : Array Value := #[.int .i64 x]

/-- What holds ahead of each round of the iterator. -/
def NumsI (w0 W : World) (bb : Nat) (b : List UInt8) (J : List Int → World → Prop) (wr : World) : Prop :=
  ∃ (pre : List Int) (rest : List UInt8) (rv : Value), One wr bb rv 25 ∧ Bytes w0 rv rest ∧ rest.length ≤ b.length ∧ numsL b = pre ++ numsL rest ∧ Below w0.heap.size w0 wr ∧ J pre wr
/-- .. and of the loop within. -/
def StepI (w1 : World) (rest : List UInt8) (nv mv kv : Value) (W : World) : Prop :=
  ∃ k : Nat, 1 ≤ k ∧ k ≤ 7 ∧ kv = .int .i64 (k : Int) ∧ Below w1.heap.size w1 W ∧
    ((mv = .int .i64 0 ∧ nv = .int .i64 (-1) ∧ ∀ j, 1 ≤ j → j < k → j ≤ rest.length → toU (rest.take j) = none) ∨
     ∃ n m : Nat, 1 ≤ m ∧ mv = .int .i64 (m : Int) ∧ nv = .int .i64 (n : Int) ∧ numStep rest = some (n, m))

set_option maxHeartbeats 6400000 in
theorem numbers_seq (n : Nat) (hn : 1 ≤ n) (bb n0 : Nat) (v : Value) (b : List UInt8) (hlen : b.length ≤ 1048576) (W w0 : World) (hw0 : w0.heap.size = n0) (hb0 : Below n0 w0 W) (hbb : n0 ≤ bb) (hc : One W bb v 25) (hl : Bytes w0 v b) :
    SeqT Fence.wide n Try.prog 58 #[.pointer (some ⟨bb, 0, none⟩)] encN (fun pre x W' => pre ++ [x] <+: numsL b) (fun xs => xs = numsL b) (fun j => j = bb) n0 (numsL b).length W := fun l J hJ hY h0 => by
  obtain ⟨i0, hi, hz0, hz1, hz2⟩ := info_parts infoU8
  subst hw0
  obtain ⟨G, hG⟩ : ∃ G : Nat → Prop, G = fun j => j = bb := ⟨_, rfl⟩
  have hGF : Fresh (fun j => j = bb) G W := fun j hj => .inr (by rw [hG] at hj; exact hj)
  have hJG := hJ G hGF
  have hYG := fun pre x W1 => hY G pre x W1 hGF
  have h0G := h0 G W hGF (Below.refl _ W)
  have hG1 : G bb := by rw [hG]
  have HG2 := Lib.hid (show ∀ j, G j → j = bb from fun j hj => by rw [hG] at hj; exact hj)
  clear hJ hY h0
  refine (CallsIn.mono (R := fun e W' => (∃ v, e = .returned v) ∧ ∃ xs, xs = numsL b ∧ J G xs W') ?_ (fun e W' h => ⟨h.1, G, by obtain ⟨_, xs, h1, h2⟩ := h; exact ⟨xs, hGF, h1, h2⟩⟩))
  clear hGF hG
  refine callsIn_of_wp Try.func58 rfl trivial ?_ rfl
  simp only [Try.ntmps58, List.size_toArray, List.length_cons, List.length_nil, Nat.reduceAdd, Nat.reduceSub, Array.replicate_succ, Array.replicate_zero, List.push_toArray, List.append_toArray, List.nil_append, List.cons_append]
  gi_wp2
  gi_loopw [3, 4, 5, 6, 7] (fun _ _ _ _ _ W' => NumsI w0 W bb b (J G) W') (fun _ _ _ _ _ wr => lenV ((wr.cell? ⟨bb, 0, none⟩).getD undef))
  case atStart => exact ⟨[], b, v, hc, hl, Nat.le_refl _, rfl, hb0, h0G⟩
  case round =>
    clear hc hl h0G hb0
    obtain ⟨pre, rest, rv, hc, hl, hle, hit, hB, hj⟩ := hrel
    obtain ⟨ra, rc, hv⟩ := hl.len
    subst hv
    have hcc := hc.cell
    have hcf := hc.free
    have HI := Lib.hid hit
    clear hit
    by_cases hlt : 0 < rest.length
    · have hlt2 : (0 : Int) < (rest.length : Int) := by omega
      gi_wp2
      rename World => wo
      have HCC := Lib.hid hc
      have HL := Lib.hid hl
      have HB := Lib.hid hB
      clear hcc hcf hc hl hB
      gi_loopw [3, 4, 5, 6, 7] (fun nv mv kv _ _ W' => StepI wo rest nv mv kv W') (fun _ _ kv _ _ _ => 8 - (intOf kv).toNat)
      case atStart => exact ⟨1, by omega, by omega, rfl, Below.refl _ _, .inl ⟨rfl, rfl, fun j h1 h2 => by omega⟩⟩
      case round =>
        obtain ⟨k, hk1, hk7, rfl, hbk, hcase⟩ := hrel
        have hO := HCC.out.of_new hbk
        have hcc := hO.cell
        have hsk := hbk.size
        rcases hcase with ⟨rfl, rfl, hno⟩ | ⟨x, m, hm1, rfl, rfl, hst⟩
        · by_cases hkq : k ≤ 6 ∧ k ≤ rest.length
          · obtain ⟨hk6, hkl⟩ := hkq
            obtain ⟨tv, hrt, ht, _⟩ := HL.out.part (P := Try.prog) (t := 25) Try.underlying25 hi hz1 none (some (.int .i64 (k : Int))) 0 k (by omega) (by omega) (.inl ⟨rfl, rfl⟩) (.inr ⟨.i64, rfl⟩)
            rw [List.drop_zero, Nat.sub_zero] at ht
            have hTU := ToUint_any tv (rest.take k) wr (ht.of_new (below_next HB.out hbk))
            have hnf := fun x => numStep_found (b := rest) (n := x) (k := k) hk6 hkl
            rcases hu : toU (rest.take k) with _ | x
            · rw [hu, show errOf (none : Option Nat).isSome = 2 from rfl, show (none : Option Nat).getD 0 = 0 from rfl] at hTU
              have HTU := Lib.hid hTU
              have HNO := Lib.hid hno
              have HU := Lib.hid hu
              clear hTU ht hnf hno hu
              by_cases h6 : (6 : Int) ≤ (rest.length : Int)
              all_goals
                gi_wp2_with (first | (refine ⟨trivial, ?_⟩; gi_at_call 59; refine (callsIn_wide.2 HTU.out).mono ?_; rintro e w3 ⟨rfl, hb3⟩))
                refine ⟨⟨k + 1, by omega, by omega, by go_num, below_next hbk hb3, .inl ⟨rfl, rfl, fun j h1 h2 h3 => ?_⟩⟩, by simp only [intOf]; omega⟩
                rcases Nat.lt_or_ge j k with h | h
                · exact HNO.out j h1 h h3
                · rw [show j = k by omega]; exact HU.out
            · have hst := hnf x hu
              have hxl := (numStep_some hst).2.2.2.2.1
              rw [hu, show errOf (some x).isSome = 0 from rfl, show (some x).getD 0 = x from rfl] at hTU
              have HTU := Lib.hid hTU
              have HST := Lib.hid hst
              clear hTU ht hnf hno hu hst
              by_cases h6 : (6 : Int) ≤ (rest.length : Int)
              all_goals
                gi_wp2_with (first | (refine ⟨trivial, ?_⟩; gi_at_call 59; refine (callsIn_wide.2 HTU.out).mono ?_; rintro e w3 ⟨rfl, hb3⟩))
                refine ⟨⟨k + 1, by omega, by omega, by go_num, below_next hbk hb3, .inr ⟨x, k, hk1, rfl, rfl, HST.out⟩⟩, by simp only [intOf]; omega⟩
          · have hsn : numStep rest = none := numStep_none fun j h1 h2 h3 => hno j h1 (by omega) h3
            have hne : rest ≠ [] := fun e => by rw [e] at hlt; simp at hlt
            have hnl := numsL_bad hne hsn
            have hnb : numsL b = pre ++ [-1] := by rw [HI.out, hnl]
            have hyg := hYG pre (-1) wr (fun j hj2 => by rw [HG2.out j hj2]; exact hO.lt) (hJG _ _ _ hj ((Kept.refl _ wo).below hbk)) (by rw [hnb]; exact List.prefix_refl _) (by rw [hnb]; simp)
            dsimp only [encN] at hyg
            have HNB := Lib.hid hnb
            clear hno hsn hne hnl hnb hYG hJG
            have c1 : ¬ ((k : Int) ≤ 6) ∨ ¬ ((k : Int) ≤ (rest.length : Int)) := by omega
            clear hkq
            by_cases h6 : (6 : Int) ≤ (rest.length : Int)
            · have c2 : ¬ ((k : Int) ≤ 6) := by omega
              clear c1
              obtain ⟨fn, tmps, assign, body, hy, hR⟩ := hyg
              gi_wp2
              refine hR.mono ?_
              rintro e W3 ⟨rfl, hJ3, hk3⟩
              gi_wp2
              refine bodyPost_ret (results_none rfl _ _ _) rfl ?_
              exact ⟨⟨_, rfl⟩, _, HNB.out.symm, hJ3⟩
            · have c2 : ¬ ((k : Int) ≤ (rest.length : Int)) := by omega
              clear c1
              obtain ⟨fn, tmps, assign, body, hy, hR⟩ := hyg
              gi_wp2
              refine hR.mono ?_
              rintro e W3 ⟨rfl, hJ3, hk3⟩
              gi_wp2
              refine bodyPost_ret (results_none rfl _ _ _) rfl ?_
              exact ⟨⟨_, rfl⟩, _, HNB.out.symm, hJ3⟩
        · obtain ⟨hcu, -, hm6, hml, hxl, -⟩ := numStep_some hst
          have hnl := numsL_step hst
          have hnb : numsL b = (pre ++ [(x : Int)]) ++ numsL (rest.drop m) := by rw [HI.out, hnl, List.append_assoc]; rfl
          have hyg := hYG pre (x : Int) wr (fun j hj2 => by rw [HG2.out j hj2]; exact hO.lt) (hJG _ _ _ hj ((Kept.refl _ wo).below hbk)) (by rw [hnb]; exact List.prefix_append _ _) (by rw [hnb]; simp)
          dsimp only [encN] at hyg
          obtain ⟨tv, hrt, ht, _⟩ := HL.out.part (P := Try.prog) (t := 25) Try.underlying25 hi hz1 (some (.int .i64 (m : Int))) none m rest.length (by omega) (Nat.le_refl _) (.inr ⟨.i64, rfl⟩) (.inl ⟨rfl, rfl⟩)
          rw [List.take_of_length_le (by simp)] at ht
          have hdl : (rest.drop m).length < rest.length := by simp; omega
          obtain ⟨R, hR0⟩ : ∃ R, rest.drop m = R := ⟨_, rfl⟩
          rw [hR0] at ht hnb hdl
          obtain ⟨ta, tc, hv⟩ := ht.len
          subst hv
          have HNB := Lib.hid hnb
          have HT := Lib.hid ht
          have tm0 : ((m : Int) == 0) = false := beq_eq_false_iff_ne.2 (by omega)
          have HJG := Lib.hid hJG
          clear hnl hnb hst hcu hR0 ht hYG hJG
          have hc4 : ((6 : Int) ≤ (rest.length : Int) ∧ (k : Int) ≤ 6) ∨ ((6 : Int) ≤ (rest.length : Int) ∧ ¬ (k : Int) ≤ 6) ∨ (¬ (6 : Int) ≤ (rest.length : Int) ∧ (k : Int) ≤ (rest.length : Int)) ∨ (¬ (6 : Int) ≤ (rest.length : Int) ∧ ¬ (k : Int) ≤ (rest.length : Int)) := by omega
          rcases hc4 with ⟨c1, c2⟩ | ⟨c1, c2⟩ | ⟨c1, c2⟩ | ⟨c1, c2⟩
          all_goals
            obtain ⟨fn, tmps, assign, body, hy, hR⟩ := hyg
            gi_wp2
            refine hR.mono ?_
            rintro e W3 ⟨rfl, hJ3, hk3⟩
            have o3 := hO.of_block (hk3.block _ hO.lt (.inl hG1))
            have c3 := o3.cell
            have f3 := o3.free
            gi_wp2
            have hB3 : Below w0.heap.size w0 W3 := hk3.to_below (below_next' HB.out hbk HB.out.size) (by have := HB.out.size; have := hbk.size; omega) (fun k hk => .inr hk)
            refine ⟨⟨pre ++ [(x : Int)], R, _, One.set o3 _, HT.out, by omega, HNB.out, hB3.setCell (p := ⟨bb, 0, none⟩) hbb _, HJG.out _ _ _ hJ3 ((Kept.refl _ W3).setCell (p := ⟨bb, 0, none⟩) (fun h => h hG1) _)⟩, ?_⟩
            rw [(One.set o3 _).cell, HCC.out.cell]
            exact hdl
    · have hr0 : rest = [] := List.length_eq_zero_iff.1 (by omega)
      subst hr0
      gi_wp2
      go_end0
      exact ⟨⟨_, rfl⟩, pre, by rw [HI.out]; simp [numsL, numsF], hj⟩

end Go.Proofs.Ytnomekfemadpeaa

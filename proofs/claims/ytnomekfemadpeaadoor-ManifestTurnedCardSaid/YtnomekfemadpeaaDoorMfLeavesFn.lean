/- The walks of Leaves, of manifest and of the document's answer: the hashes of bytes' pieces. Conditions: the table of constants as the program lays it (manifest's); the pieces' length a number of Go. -/
import Derived.Test.YtnomekfemadpeaaDoorMfLeaves
import Derived.Test.YtnomekfemadpeaaDoorMfRight
namespace Go.Proofs.YtnomekfemadpeaaDoor
open Go.RowKit
set_option linter.unusedVariables false
set_option linter.unusedSimpArgs false
set_option maxRecDepth 100000

/-- What Leaves comes to. -/
def leavesE (b : List UInt8) (k : Int) : List (List UInt8) × Int := if mrightB b.length k = true then (leavesL b k.toNat, 0) else ([], 1)
def LeavesPost (w : World) (p : List (List UInt8) × Int) (e : Ending) (w' : World) : Prop :=
  ∃ v, e = .returned (.tuple #[v, .int .i64 p.2]) ∧ OwnD w' w.heap.size v p.1 ∧ Below w.heap.size w w'

theorem count_nat {b : List UInt8} {n : Nat} (hn : 1 ≤ n) : (((b.length + n - 1) / n : Nat) : Int) = ((b.length : Int) + (n : Int) - 1) / (n : Int) := by
  rw [Int.natCast_ediv]; congr 1; omega

set_option maxHeartbeats 1600000 in
theorem Leaves_any (v : Value) (b : List UInt8) (k : Int) (w : World) (hl : Bytes w v b) (hKc : Consts w) :
    Calls Tryd.prog 13 #[v, .int .i64 k] w (LeavesPost w (leavesE b k)) := by
  obtain ⟨va, vc, hv⟩ := hl.len
  subst hv
  have HL := Lib.hid hl
  obtain ⟨E, hE⟩ : ∃ E, leavesE b k = E := ⟨_, rfl⟩
  rw [hE]
  have HE := Lib.hid hE
  clear hE hl
  go_enter Tryd.func13, Tryd.ntmps13
  go_wp2_with ((with_reducible refine wpList_plain (o := ⟨some 9, _, _, _, _, _⟩) rfl fun K hK => wp_build_blob2 (b.length : Int) k rfl rfl rfl (hK _ _ ?_)))
  refine (Right_any ⟨z32, b.length, k, z32⟩ w ⟨rfl, rfl⟩).mono ?_
  rintro e w2 ⟨rfl, hb2⟩
  dsimp only
  rcases hr : mrightB b.length k with _ | _
  · have e : E = ([], 1) := by rw [← HE.out, leavesE, hr]; rfl
    have HE2 := Lib.hid e
    clear e HE hr
    go_wp2
    go_ret2
    rw [HE2.out]
    exact ⟨_, rfl, OwnD.nil _ _, hb2⟩
  · obtain ⟨q1, q2, q3, q4, q5⟩ := right_parts hr
    obtain ⟨n, hn⟩ : ∃ n : Nat, k = (n : Int) := ⟨k.toNat, by omega⟩
    subst hn
    have e : E = (leavesL b n, 0) := by rw [← HE.out, leavesE, hr]; simp
    have HE2 := Lib.hid e
    have hle : (leavesL b n).length ≤ 1048576 := by have := count_nat (b := b) (n := n) (by omega); rw [leavesL_len]; omega
    have hLn := Lib.hid hle
    clear e HE hr q5 hle
    go_wp2_with fail
    refine (leaves_any va b.length vc (n : Int) w2).mono ?_
    rintro e w3 ⟨rfl, hw3⟩
    have hb3 : Below w2.heap.size w2 w3 := by rw [hw3]; exact ((Below.refl _ w2).alloc (Nat.le_refl _) _).alloc (by simp) _
    have o1 : One w3 w2.heap.size (.slice va b.length vc) 22 := by rw [hw3]; exact (Below.heap_alloc _ _ _ (by simp)).trans (heap_alloc_new _ _)
    have o2 : One w3 (w2.heap.size + 1) (.int .i64 (n : Int)) 3 := by
      rw [hw3]
      have := heap_alloc_new (w2.alloc (.cells #[.slice va b.length vc] 22)) (.cells #[.int .i64 (n : Int)] 3)
      rwa [World.size_alloc] at this
    clear hw3
    have hbA := below_next hb2 hb3
    go_wp2_with fail
    refine (CollectD_any 68 _ (leavesL b n) w3.heap.size (fun _ => False) w3 (leavesL_32 b n) hLn.out (Nat.le_refl _) (fun k h => h.elim) (enters_of Tryd.func68 (by kernel_rfl) rfl)
      (fun W1 hb1 hs1 => leaves_seq w2.heap.size (w2.heap.size + 1) _ b n (by omega) (by omega) (by omega) W1 w3 (o1.of_new hb1) (o2.of_new hb1) (HL.out.of_new hbA) (hKc.of_new hbA) hb1)).mono ?_
    rintro e w4 ⟨v4, rfl, ho4, hb4⟩
    obtain ⟨a4, c4, hv4⟩ := ho4.digs.len
    subst hv4
    go_wp2
    go_ret2
    rw [HE2.out]
    have h4 := hbA.size
    exact ⟨_, rfl, ⟨ho4.1, ho4.2.1, ho4.2.2.imp id fun ⟨g, cap, cur, h1, h2, h3⟩ => ⟨g, cap, cur, h1, by omega, h3⟩⟩, below_next hbA hb4⟩

/-- What holds ahead of each round of the document's answer's Leaves. -/
def RLeavesI (w : World) (b : List UInt8) (n : Nat) (ov iv : Value) (W : World) : Prop :=
  ∃ (j : Nat), iv = .int .i64 (j : Int) ∧ j ≤ (leavesL b n).length ∧ OwnD W w.heap.size ov ((leavesL b n).take j) ∧ Below w.heap.size w W

set_option maxHeartbeats 3200000 in
theorem RLeaves_any (v : Value) (b : List UInt8) (k : Int) (w : World) (hl : Bytes w v b) :
    Calls Tryd.prog 14 #[v, .int .i64 k] w (LeavesPost w (leavesE b k)) := by
  obtain ⟨i0, hi, hz0, hz1, hz2⟩ := info_parts infoU8
  obtain ⟨va, vc, hv⟩ := hl.len
  subst hv
  have HL := Lib.hid hl
  obtain ⟨E, hE⟩ : ∃ E, leavesE b k = E := ⟨_, rfl⟩
  rw [hE]
  have HE := Lib.hid hE
  clear hE hl
  go_enter Tryd.func14, Tryd.ntmps14
  go_wp2_with ((with_reducible refine wpList_plain (o := ⟨some 12, _, _, _, _, _⟩) rfl fun K hK => wp_build_blob2 (b.length : Int) k rfl rfl rfl (hK _ _ ?_)))
  refine (RCount_any ⟨z32, b.length, k, z32⟩ w ⟨rfl, rfl⟩).mono ?_
  rintro e w2 ⟨rfl, hb2⟩
  dsimp only
  rcases hr : mrightB b.length k with _ | _
  · have e : E = ([], 1) := by rw [← HE.out, leavesE, hr]; rfl
    have hc : mcountB b.length k = 0 := by rw [mcountB, hr]; rfl
    have HE2 := Lib.hid e
    rw [hc]
    clear e HE hr hc
    go_wp2
    go_ret2
    rw [HE2.out]
    exact ⟨_, rfl, OwnD.nil _ _, hb2⟩
  · obtain ⟨q1, q2, q3, q4, q5⟩ := right_parts hr
    obtain ⟨n, hn⟩ : ∃ n : Nat, k = (n : Int) := ⟨k.toNat, by omega⟩
    subst hn
    have e : E = (leavesL b n, 0) := by rw [← HE.out, leavesE, hr]; simp
    have hcn := count_nat (b := b) (n := n) (by omega)
    have hc : mcountB b.length n = ((leavesL b n).length : Int) := by rw [mcountB, hr, leavesL_len, hcn]; rfl
    have hpos := count_pos q1 q3
    rw [← hcn] at hpos q5
    rw [← leavesL_len] at hpos q5
    have hc0 : (((leavesL b n).length : Int) == 0) = false := beq_eq_false_iff_ne.2 (by omega)
    have HE2 := Lib.hid e
    rw [hc]
    have hlt : ∀ j, j < (leavesL b n).length → j * n < b.length := fun j h => (chunks_lt (by omega)).2 (by rw [chunksL_len, ← leavesL_len]; exact h)
    have hsn : ∀ j, j < (leavesL b n).length → (leavesL b n).take (j + 1) = (leavesL b n).take j ++ [leafL ((b.drop (j * n)).take n)] := fun j h => by
      have := chunks_take (b := b) (k := n) (j := j) (by rw [chunksL_len, ← leavesL_len]; exact h)
      unfold leavesL
      rw [← List.map_take, this, List.map_append, List.map_take]; rfl
    have h32 := leavesL_32 b n
    have HLT := Lib.hid hlt
    have HSN := Lib.hid hsn
    obtain ⟨N, hN⟩ : ∃ N, (leavesL b n).length = N := ⟨_, rfl⟩
    rw [hN] at hpos q5 hc0 HLT HSN ⊢
    have HN := Lib.hid hN
    clear e HE hr hc hcn hlt hsn hN
    go_wp2
    go_loopw [7, 8] (RLeavesI w b n) (fun _ iv _ => N - (intOf iv).toNat)
    case atStart => exact ⟨0, rfl, by omega, by simpa using OwnD.nil _ _, hb2⟩
    case round =>
      obtain ⟨j, rfl, hj, ho, hbw⟩ := hrel
      rw [HN.out] at hj
      obtain ⟨P, hP⟩ : ∃ P, (leavesL b n).take j = P := ⟨_, rfl⟩
      have hol : P.length = j := by rw [← hP, List.length_take, HN.out]; omega
      rw [hP] at ho
      obtain ⟨oa, oc, hv⟩ := ho.digs.len
      subst hv
      have HO := Lib.hid ho
      have HP := Lib.hid hP
      have HOL := Lib.hid hol
      have hol2 : P.length ≤ 1048576 := by omega
      clear hol ho
      have hbL : Bytes wr (.slice va b.length vc) b := HL.out.of_new hbw
      have hsw := hbw.size
      have HBW := Lib.hid hbw
      by_cases hlt : j < N
      · have h1 := HLT.out j hlt
        have h2 := HSN.out j hlt
        rw [HP.out] at h2
        clear hP
        obtain ⟨m, hm⟩ : ∃ m, j * n = m := ⟨_, rfl⟩
        have hmi : (j : Int) * (n : Int) = (m : Int) := by rw [← hm]; simp
        have hm2 : ((j : Int) + 1) * (n : Int) = (m : Int) + (n : Int) := by rw [Int.add_mul, hmi, Int.one_mul]
        rw [hm] at h1 h2
        have hw1 : IntKind.i64.wrap ((j : Int) * (n : Int)) = (m : Int) := by rw [hmi]; exact IntWalk.i64_in _ (by omega)
        have hw2 : IntKind.i64.wrap (((j : Int) + 1) * (n : Int)) = (m : Int) + (n : Int) := by rw [hm2]; exact IntWalk.i64_in _ (by omega)
        have hjN : (j : Int) < (N : Int) := by omega
        obtain ⟨hv, hi', hhv, hpe, hle1, hle2, hcs⟩ : ∃ (hv : Int) (hi' : Nat), hv = (hi' : Int) ∧ (b.drop m).take (hi' - m) = (b.drop m).take n ∧ m ≤ hi' ∧ hi' ≤ b.length ∧ ((hv = (m : Int) + (n : Int) ∧ (m : Int) + (n : Int) < (b.length : Int)) ∨ (hv = (b.length : Int) ∧ (b.length : Int) ≤ (m : Int) + (n : Int))) := by
          by_cases hc : m + n < b.length
          · exact ⟨_, m + n, rfl, by rw [show m + n - m = n by omega], by omega, by omega, .inl ⟨by omega, by omega⟩⟩
          · exact ⟨_, b.length, rfl, by rw [List.take_eq_take_iff]; simp; omega, by omega, Nat.le_refl _, .inr ⟨rfl, by omega⟩⟩
        obtain ⟨pv, hrp, hpp, _⟩ := hbL.part (P := Tryd.prog) (t := 22) Tryd.underlying22 hi hz1 (some (.int .i64 (m : Int))) (some (.int .i64 hv)) m hi' hle1 hle2 (.inr ⟨.i64, rfl⟩) (.inr ⟨.i64, by rw [hhv]⟩)
        rw [hpe] at hpp
        have hxk : ((b.drop m).take n).length ≤ 1048576 := by rw [List.length_take]; omega
        obtain ⟨x, hx⟩ : ∃ x, (b.drop m).take n = x := ⟨_, rfl⟩
        rw [hx] at hpp h2 hxk
        obtain ⟨pa, pc, hv2⟩ := hpp.len
        subst hv2
        have HPP := Lib.hid hpp
        have H2 := Lib.hid h2
        have hx32 : Dig32 [leafL x] := fun d hd => by simp at hd; rw [hd]; exact leafL_len x
        clear hpe hx hm hmi hm2 hpp hbL h1 h2 hbw hhv hle1 hle2
        rcases hcs with ⟨rfl, hcs⟩ | ⟨rfl, hcs⟩
        all_goals
          go_wp2_with (first
            | (go_at_call 26; refine (RLeaf_any _ x _ HPP.out hxk).mono ?_; rintro e w3 ⟨rfl, hb3⟩; have HB3 := Lib.hid hb3; have HO3 := Lib.hid (HO.out.of_new hb3); clear hb3)
            | ((with_reducible refine wpList_plain (o := ⟨some 35, _, _, _, _, _⟩) rfl fun K hK => ?_); refine wp_buildDigs 1 _ [leafL x] rfl rfl (by simp) (by simp) hx32 (by simp only [List.map_toArray, List.map_cons, List.map_nil]; rfl) ?_; intro w4 ho4 hb4 hs4; refine hK _ _ ?_; have HO4 := Lib.hid ho4.digs; have HB4 := Lib.hid hb4; have HO5 := Lib.hid (HO3.out.of_new hb4); clear ho4 hb4 hK)
            | ((with_reducible refine wpList_plain (o := ⟨some 36, _, _, _, _, _⟩) rfl fun K hK => ?_); refine wp_appD (.tmp 21) (.tmp 35) rfl w.heap.size _ P rfl HO5.out _ [leafL x] rfl HO4.out (by simp; omega) (by have := HB3.out.size; have := HB4.out.size; omega) ?_; intro v6 w6 ho6 hg6 hu6; refine hK _ _ ?_; obtain ⟨a6, c6, hv6⟩ := ho6.digs.len; subst hv6; clear hK))
          go_roundw
          case rel =>
            refine ⟨j + 1, by go_num, by have := HN.out; omega, ?_, ?_⟩
            · rw [H2.out]
              rw [List.length_append] at ho6
              exact ho6
            · have hA : Below w.heap.size w w3 := below_next' HBW.out HB3.out hsw
              have hB : Below w.heap.size w _ := below_next' hA HB4.out (by have := HB3.out.size; omega)
              exact hB.grown hg6 (by have := HB3.out.size; have := HB4.out.size; omega) (fun r e => (HO5.out.lt r e).1)
          case measure => simp [intOf]; omega
      · have hjN : ¬ (j : Int) < (N : Int) := by omega
        go_wp2
        go_ret2
        rw [HE2.out]
        have e2 : P = leavesL b n := by rw [← HP.out, List.take_of_length_le (by have := HN.out; omega)]
        exact ⟨_, rfl, e2 ▸ HO.out, HBW.out⟩

end Go.Proofs.YtnomekfemadpeaaDoor

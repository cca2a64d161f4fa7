/- The walk of manifest.blob: what a record tells of a blob. No condition. -/
import Derived.Test.YtnomekfemadpeaaDoorMfImage
import Derived.Test.YtnomekfemadpeaaDoorTlvOwnAt
import Derived.Test.YtnomekfemadpeaaDoorTlvTo
import Derived.Test.YtnomekfemadpeaaDoorGc
import Derived.IntWalk
namespace Go.Proofs.YtnomekfemadpeaaDoor
open Go.RowKit
set_option linter.unusedVariables false
set_option linter.unusedSimpArgs false
set_option maxRecDepth 100000

def BlobDPost (w : World) (r : Option BlobL) (e : Ending) (w' : World) : Prop := e = .returned (.tuple #[BlobV (r.getD BlobL.zero), .bool r.isSome]) ∧ Below w.heap.size w w'
theorem blobD_fail {w w' : World} {r : Option BlobL} (h : r = none) (hb : Below w.heap.size w w') : BlobDPost w r (.returned (.tuple #[RBlob.V BlobL.zero, .bool false])) w' := ⟨by rw [h]; rfl, hb⟩
theorem build_blob0 (w : World) : (Instr.build 27 #[]).run Tryd.prog w = .ok (BlobV BlobL.zero) w := by kernel_rfl
theorem it_four {l : List It} (h : l.length = 4) : ∃ a s p r, l = [a, s, p, r] := by
  match l, h with
  | [a, s, p, r], _ => exact ⟨a, s, p, r, rfl⟩

/-- 32 bytes as a hash in its place. -/
theorem Bytes.dig5 {w : World} {v : Value} {l : List UInt8} (h : Bytes w v l) (h32 : l.length = 32) : ∃ g off c, v = .slice (some ⟨g, off, none⟩) 32 c ∧ DigAt w g off l := by
  obtain ⟨g, off, c, hv, _, hc⟩ := h.cell (by omega)
  exact ⟨g, off, c, by rw [hv, h32], h32, fun j hj => by rw [hc j (by omega)]; simp [List.getElem?_eq_getElem (show j < l.length by omega), List.getD]⟩
theorem run_arrayAt5 (a : Option Addr) (c : Nat) (w : World) : (Instr.arrayAt 25 (.slice a 32 c)).run Tryd.prog w = .ok (.pointer a) w := by
  simp [Instr.arrayAt, run_underlying Tryd.underlying25, Sem.run_bind, Sem.run_pure]

/-- A blob built out of four parts, among operations of any order. -/
theorem quiet_build_blob {W : World} {o : Oper} {a : Act} {K : Act → Prop} {p q r s : Operand} (x y : List UInt8) (n k : Int) (ho : o.op = .build 27 #[(0, p), (1, q), (2, r), (3, s)])
    (hp : a.eval p = .agg (x.map B8).toArray) (hq : a.eval q = .int .i64 n) (hr : a.eval r = .int .i64 k) (hs : a.eval s = .agg (y.map B8).toArray) (hx : x.length = 32) (hy : y.length = 32)
    (hK : K (a.put o.dst (BlobV ⟨x, n, k, y⟩))) : o.quiet Tryd.prog a (Grew W) K := by
  refine quiet_val (fun w _ => ?_) hK
  have := run_build_blob x y n k hx hy w
  unfold execOp
  simp only [ho, List.map_toArray, List.map_cons, List.map_nil, hp, hq, hr, hs, Sem.run_bind, this, Result.andThen_ok, Sem.run_pure]

set_option maxHeartbeats 6400000 in
theorem blobDec_any (v : Value) (b : List UInt8) (w : World) (hl : Bytes w v b) : Calls Tryd.prog 56 #[v] w (BlobDPost w (blobD b)) := by
  obtain ⟨va, vc, hv⟩ := hl.len
  subst hv
  have hD := fun W (h : Bytes W (.slice va b.length vc) b) => Decode_own _ b W h
  have HL := Lib.hid hl
  clear hl
  rcases hd : decL b with _ | l
  · have HDN := Lib.hid (show blobD b = none by unfold blobD; rw [hd]; rfl)
    rw [hd] at hD
    have HDD := Lib.hid hD
    clear hd hD
    go_enter Tryd.func56, Tryd.ntmps56
    go_wp2_with (first
      | ((with_reducible refine wpList_plain (o := ⟨some 2, Op.alloc _, _, _, _, _⟩) rfl fun K hK => ?_); (refine RBlob.wp_alloc rfl fun w1 ho1 hb1 hs1 => hK _ _ ?_); have HO1 := Lib.hid ho1; have HB1 := Lib.hid hb1; clear ho1 hb1 hs1)
      | (go_at_call 55; refine (HDD.out _ (HL.out.of_new HB1.out)).mono ?_; rintro e w2 ⟨v2, pre, base, rfl, hown, hpre, hb2, hbase⟩; have HO2 := Lib.hid (HO1.out.of_new hb2); have HB2 := Lib.hid (below_next HB1.out hb2); clear hown hpre hb2 hbase)
      | ((with_reducible refine wpList_plain (o := ⟨some 44, Op.build _ _, _, _, _, _⟩) rfl fun K hK => ?_); (refine wp_val (v := BlobV BlobL.zero) (by unfold execOp; simp only [List.map_toArray, List.map_nil, build_blob0, Sem.run_bind, Result.andThen_ok, Sem.run_pure]) (hK _ _ ?_)))
      | ((with_reducible refine wpList_plain (o := ⟨none, Op.store _ (.tmp 2) (.tmp 44), _, _, _, _⟩) rfl fun K hK => ?_); (refine HO2.out.store (.tmp 2) (.tmp 44) rfl rfl rfl BlobL.zero_ok fun wF hOF hgF hsF => hK _ _ ?_); have HOF := Lib.hid hOF; have HGF := Lib.hid hgF; clear hOF hgF hsF))
    refine bodyPost_ret (RecT.results2 rfl _ rfl rfl HOF.out) rfl ?_
    exact blobD_fail HDN.out (HB2.out.grown HGF.out (by have := HB2.out.size; omega) (fun k e => by cases e; omega))
  have HDEC := Lib.hid (show blobD b = blobD2 l by unfold blobD; rw [hd]; rfl)
  rw [hd] at hD
  have HDD := Lib.hid hD
  clear hd hD
  go_enter Tryd.func56, Tryd.ntmps56
  go_upto_region 2 with (first
      | ((with_reducible refine wpList_plain (o := ⟨some 2, Op.alloc _, _, _, _, _⟩) rfl fun K hK => ?_); (refine RBlob.wp_alloc rfl fun w1 ho1 hb1 hs1 => hK _ _ ?_); have HO1 := Lib.hid ho1; have HB1 := Lib.hid hb1; clear ho1 hb1 hs1)
      | (go_at_call 55; refine (HDD.out _ (HL.out.of_new HB1.out)).mono ?_; rintro e w2 ⟨v2, pre, base, rfl, hown, hpre, hb2, hbase⟩; have HO2 := Lib.hid (HO1.out.of_new hb2); have HB2 := Lib.hid (below_next HB1.out hb2); clear hb2 hbase))
  rw [Option.getD_some] at hpre
  have hlen : pre.length = l.length := by rw [← hpre]; simp
  obtain ⟨va2, vc2, hv⟩ := hown.len
  subst hv
  rw [hlen]
  have HOWN := Lib.hid hown
  have HPRE := Lib.hid hpre
  have HLEN := Lib.hid hlen
  clear hown hpre hlen
  by_cases h4 : l.length = 4
  case neg =>
    have HDN := Lib.hid (show blobD b = none by
      rw [HDEC.out]
      match l, h4 with
      | [], _ => rfl
      | [_], _ => rfl
      | [_, _], _ => rfl
      | [_, _, _], _ => rfl
      | _ :: _ :: _ :: _ :: _ :: _, _ => rfl)
    have t1 : ((l.length : Int) == 4) = false := beq_eq_false_iff_ne.2 (by omega)
    have t2 : ((l.length : Int) != 4) = true := bne_iff_ne.2 (by omega)
    clear h4
    go_wp2_with (first
      | ((with_reducible refine wpList_plain (o := ⟨some 44, Op.build _ _, _, _, _, _⟩) rfl fun K hK => ?_); (refine wp_val (v := BlobV BlobL.zero) (by unfold execOp; simp only [List.map_toArray, List.map_nil, build_blob0, Sem.run_bind, Result.andThen_ok, Sem.run_pure]) (hK _ _ ?_)))
      | ((with_reducible refine wpList_plain (o := ⟨none, Op.store _ (.tmp 2) (.tmp 44), _, _, _, _⟩) rfl fun K hK => ?_); (refine HO2.out.store (.tmp 2) (.tmp 44) rfl rfl rfl BlobL.zero_ok fun wF hOF hgF hsF => hK _ _ ?_); have HOF := Lib.hid hOF; have HGF := Lib.hid hgF; clear hOF hgF hsF))
    refine bodyPost_ret (RecT.results2 rfl _ rfl rfl HOF.out) rfl ?_
    exact blobD_fail HDN.out (HB2.out.grown HGF.out (by have := HB2.out.size; omega) (fun k e => by cases e; omega))
  obtain ⟨pg, pc, hv, hpg, hcell⟩ := HOWN.out.cellsAt (by rw [HLEN.out, h4]; omega)
  rw [HPRE.out, HLEN.out] at hcell
  rw [HLEN.out] at hv
  obtain ⟨rfl, rfl⟩ : va2 = some ⟨pg, 0, none⟩ ∧ vc2 = pc := by simp only [Value.slice.injEq] at hv; exact ⟨hv.1, hv.2.2⟩
  obtain ⟨a, s, p, r, rfl⟩ := it_four h4
  obtain ⟨-, u0, hu0, hub0, -⟩ := hcell 0 (by simp)
  obtain ⟨-, u1, hu1, hub1, -⟩ := hcell 1 (by simp)
  obtain ⟨-, u2, hu2, hub2, -⟩ := hcell 2 (by simp)
  obtain ⟨hn3, u3, hu3, hub3, -⟩ := hcell 3 (by simp)
  simp only [List.getD_cons_zero, List.getD_cons_succ, Nat.zero_mul, Nat.zero_add, Nat.one_mul] at hu0 hub0 hu1 hub1 hu2 hub2 hn3 hu3 hub3
  clear hcell hv h4
  rw [show [a, s, p, r].length = 4 from rfl]
  by_cases hr4 : r.1 = 4
  case neg =>
    have HDN := Lib.hid (show blobD b = none by rw [HDEC.out]; simp [blobD2, hr4])
    have t1 : (r.1 == 4) = false := beq_eq_false_iff_ne.2 hr4
    have t2 : (r.1 != 4) = true := bne_iff_ne.2 hr4
    clear hub0 hub1 hub2 hub3
    go_wp2_with (first
      | ((with_reducible refine wpList_plain (o := ⟨some 44, Op.build _ _, _, _, _, _⟩) rfl fun K hK => ?_); (refine wp_val (v := BlobV BlobL.zero) (by unfold execOp; simp only [List.map_toArray, List.map_nil, build_blob0, Sem.run_bind, Result.andThen_ok, Sem.run_pure]) (hK _ _ ?_)))
      | ((with_reducible refine wpList_plain (o := ⟨none, Op.store _ (.tmp 2) (.tmp 44), _, _, _, _⟩) rfl fun K hK => ?_); (refine HO2.out.store (.tmp 2) (.tmp 44) rfl rfl rfl BlobL.zero_ok fun wF hOF hgF hsF => hK _ _ ?_); have HOF := Lib.hid hOF; have HGF := Lib.hid hgF; clear hOF hgF hsF))
    refine bodyPost_ret (RecT.results2 rfl _ rfl rfl HOF.out) rfl ?_
    exact blobD_fail HDN.out (HB2.out.grown HGF.out (by have := HB2.out.size; omega) (fun k e => by cases e; omega))
  rw [hr4] at hn3
  obtain ⟨a0, c0, hv0⟩ := hub0.len
  obtain ⟨a1, c1, hv1⟩ := hub1.len
  obtain ⟨a2, c2, hv2⟩ := hub2.len
  obtain ⟨a3, c3, hv3⟩ := hub3.len
  subst hv0 hv1 hv2 hv3
  by_cases hd0 : a.2.length = 32
  case neg =>
    have HDN := Lib.hid (show blobD b = none by rw [HDEC.out]; simp [blobD2, hd0])
    have t1 : ((a.2.length : Int) == 32) = false := beq_eq_false_iff_ne.2 (by omega)
    have t2 : ((a.2.length : Int) != 32) = true := bne_iff_ne.2 (by omega)
    clear hub0 hub1 hub2 hub3 hd0 hr4
    go_wp2_with (first
      | ((with_reducible refine wpList_plain (o := ⟨some 44, Op.build _ _, _, _, _, _⟩) rfl fun K hK => ?_); (refine wp_val (v := BlobV BlobL.zero) (by unfold execOp; simp only [List.map_toArray, List.map_nil, build_blob0, Sem.run_bind, Result.andThen_ok, Sem.run_pure]) (hK _ _ ?_)))
      | ((with_reducible refine wpList_plain (o := ⟨none, Op.store _ (.tmp 2) (.tmp 44), _, _, _, _⟩) rfl fun K hK => ?_); (refine HO2.out.store (.tmp 2) (.tmp 44) rfl rfl rfl BlobL.zero_ok fun wF hOF hgF hsF => hK _ _ ?_); have HOF := Lib.hid hOF; have HGF := Lib.hid hgF; clear hOF hgF hsF))
    refine bodyPost_ret (RecT.results2 rfl _ rfl rfl HOF.out) rfl ?_
    exact blobD_fail HDN.out (HB2.out.grown HGF.out (by have := HB2.out.size; omega) (fun k e => by cases e; omega))
  by_cases hd3 : r.2.length = 32
  case neg =>
    have HDN := Lib.hid (show blobD b = none by rw [HDEC.out]; simp [blobD2, hd3])
    have t1 : ((r.2.length : Int) == 32) = false := beq_eq_false_iff_ne.2 (by omega)
    have t2 : ((r.2.length : Int) != 32) = true := bne_iff_ne.2 (by omega)
    have t3 : ((a.2.length : Int) == 32) = true := beq_iff_eq.2 (by omega)
    have t4 : ((a.2.length : Int) != 32) = false := by rw [hd0]; rfl
    clear hub0 hub1 hub2 hub3 hd0 hd3 hr4
    go_wp2_with (first
      | ((with_reducible refine wpList_plain (o := ⟨some 44, Op.build _ _, _, _, _, _⟩) rfl fun K hK => ?_); (refine wp_val (v := BlobV BlobL.zero) (by unfold execOp; simp only [List.map_toArray, List.map_nil, build_blob0, Sem.run_bind, Result.andThen_ok, Sem.run_pure]) (hK _ _ ?_)))
      | ((with_reducible refine wpList_plain (o := ⟨none, Op.store _ (.tmp 2) (.tmp 44), _, _, _, _⟩) rfl fun K hK => ?_); (refine HO2.out.store (.tmp 2) (.tmp 44) rfl rfl rfl BlobL.zero_ok fun wF hOF hgF hsF => hK _ _ ?_); have HOF := Lib.hid hOF; have HGF := Lib.hid hgF; clear hOF hgF hsF))
    refine bodyPost_ret (RecT.results2 rfl _ rfl rfl HOF.out) rfl ?_
    exact blobD_fail HDN.out (HB2.out.grown HGF.out (by have := HB2.out.size; omega) (fun k e => by cases e; omega))
  rw [hd0] at hu0
  rw [hd3] at hu3
  obtain ⟨g0, o0, x0, hv0, hdg0⟩ := hub0.dig5 hd0
  obtain ⟨g3, o3, x3, hv3, hdg3⟩ := hub3.dig5 hd3
  obtain ⟨rfl, rfl⟩ : a0 = some ⟨g0, o0, none⟩ ∧ c0 = x0 := by simp only [Value.slice.injEq] at hv0; exact ⟨hv0.1, hv0.2.2⟩
  obtain ⟨rfl, rfl⟩ : a3 = some ⟨g3, o3, none⟩ ∧ c3 = x3 := by simp only [Value.slice.injEq] at hv3; exact ⟨hv3.1, hv3.2.2⟩
  have q0 : w2.cell? ⟨pg, 1, none⟩ = some (.slice (some ⟨g0, o0, none⟩) 32 c0) := hu0
  have q1 : w2.cell? ⟨pg, 3, none⟩ = some (.slice a1 s.2.length c1) := hu1
  have q2 : w2.cell? ⟨pg, 5, none⟩ = some (.slice a2 p.2.length c2) := hu2
  have q3 : w2.cell? ⟨pg, 7, none⟩ = some (.slice (some ⟨g3, o3, none⟩) 32 c3) := hu3
  have q4 : w2.cell? ⟨pg, 6, none⟩ = some (.int .i64 4) := hn3
  have hT1 := fun W h => ToUint_any (.slice a1 s.2.length c1) s.2 W h
  have hT2 := fun W h => ToUint_any (.slice a2 p.2.length c2) p.2 W h
  have hb2d : blobD b = if (toU s.2).isSome ∧ (toU p.2).isSome ∧ max ((toU s.2).getD 0) ((toU p.2).getD 0) ≤ 1048576 then some ⟨a.2, ((toU s.2).getD 0 : Nat), ((toU p.2).getD 0 : Nat), r.2⟩ else none := by
    rw [HDEC.out]
    simp only [blobD2]
    rw [if_pos ⟨hr4, hd0, hd3⟩]
  have hu1l := fun n => toU_lt (l := s.2) (n := n)
  have hu2l := fun n => toU_lt (l := p.2) (n := n)
  obtain ⟨O1, hO1⟩ : ∃ O1, toU s.2 = O1 := ⟨_, rfl⟩
  obtain ⟨O2, hO2⟩ : ∃ O2, toU p.2 = O2 := ⟨_, rfl⟩
  rw [hO1] at hT1 hb2d hu1l
  rw [hO2] at hT2 hb2d hu2l
  have HT1 := Lib.hid hT1
  have HT2 := Lib.hid hT2
  have HBD := Lib.hid hb2d
  have HB1s := Lib.hid hub1
  have HB2s := Lib.hid hub2
  have HG0 := Lib.hid hdg0
  have HG3 := Lib.hid hdg3
  have HL0 := Lib.hid hd0
  have HL3 := Lib.hid hd3
  have HUL1 := Lib.hid hu1l
  have HUL2 := Lib.hid hu2l
  clear hu0 hu1 hu2 hu3 hn3 hub0 hub1 hub2 hub3 hv0 hv3 hdg0 hdg3 hd0 hd3 hr4 hT1 hT2 hb2d hO1 hO2 hu1l hu2l
  go_upto_region 5 with (go_at_call 78; refine (HT1.out _ HB1s.out).mono ?_; rintro e w3 ⟨rfl, hb3⟩; have q0 := Grew.cell hb3 q0; have q2 := Grew.cell hb3 q2; have q3 := Grew.cell hb3 q3; have HB3 := Lib.hid hb3; have HO3 := Lib.hid (HO2.out.of_new hb3); have HBB3 := Lib.hid (below_next HB2.out hb3); clear hb3)
  go_upto_region 6 with (go_at_call 78; refine (HT2.out _ (HB2s.out.of_new HB3.out)).mono ?_; rintro e w4 ⟨rfl, hb4⟩; have q0 := Grew.cell hb4 q0; have q3 := Grew.cell hb4 q3; have HB4 := Lib.hid hb4; have HO4 := Lib.hid (HO3.out.of_new hb4); have HBB4 := Lib.hid (below_next HBB3.out hb4); clear hb4)
  rcases O1 with _ | n
  · have HDN := Lib.hid (show blobD b = none by rw [HBD.out]; simp)
    have e0 : errOf (none : Option Nat).isSome = 2 := rfl
    go_wp2_with (first
      | ((with_reducible refine wpList_plain (o := ⟨some 73, Op.build _ _, _, _, _, _⟩) rfl fun K hK => ?_); (refine wp_val (v := BlobV BlobL.zero) (by unfold execOp; simp only [List.map_toArray, List.map_nil, build_blob0, Sem.run_bind, Result.andThen_ok, Sem.run_pure]) (hK _ _ ?_)))
      | ((with_reducible refine wpList_plain (o := ⟨none, Op.store _ (.tmp 2) (.tmp 73), _, _, _, _⟩) rfl fun K hK => ?_); (refine HO4.out.store (.tmp 2) (.tmp 73) rfl rfl rfl BlobL.zero_ok fun wF hOF hgF hsF => hK _ _ ?_); have HOF := Lib.hid hOF; have HGF := Lib.hid hgF; clear hOF hgF hsF))
    refine bodyPost_ret (RecT.results2 rfl _ rfl rfl HOF.out) rfl ?_
    exact blobD_fail HDN.out (HBB4.out.grown HGF.out (by have := HBB4.out.size; omega) (fun k e => by cases e; omega))
  rcases O2 with _ | k
  · have HDN := Lib.hid (show blobD b = none by rw [HBD.out]; simp)
    have e0 : errOf (none : Option Nat).isSome = 2 := rfl
    have e1 : errOf (some n : Option Nat).isSome = 0 := rfl
    go_wp2_with (first
      | ((with_reducible refine wpList_plain (o := ⟨some 73, Op.build _ _, _, _, _, _⟩) rfl fun K hK => ?_); (refine wp_val (v := BlobV BlobL.zero) (by unfold execOp; simp only [List.map_toArray, List.map_nil, build_blob0, Sem.run_bind, Result.andThen_ok, Sem.run_pure]) (hK _ _ ?_)))
      | ((with_reducible refine wpList_plain (o := ⟨none, Op.store _ (.tmp 2) (.tmp 73), _, _, _, _⟩) rfl fun K hK => ?_); (refine HO4.out.store (.tmp 2) (.tmp 73) rfl rfl rfl BlobL.zero_ok fun wF hOF hgF hsF => hK _ _ ?_); have HOF := Lib.hid hOF; have HGF := Lib.hid hgF; clear hOF hgF hsF))
    refine bodyPost_ret (RecT.results2 rfl _ rfl rfl HOF.out) rfl ?_
    exact blobD_fail HDN.out (HBB4.out.grown HGF.out (by have := HBB4.out.size; omega) (fun k e => by cases e; omega))
  have e1 : errOf (some n : Option Nat).isSome = 0 := rfl
  have e2 : errOf (some k : Option Nat).isSome = 0 := rfl
  have hn64 := HUL1.out n rfl
  have hk64 := HUL2.out k rfl
  by_cases hmx : max n k ≤ 1048576
  case neg =>
    have HDN := Lib.hid (show blobD b = none by rw [HBD.out]; simp only [Option.isSome_some, Option.getD_some]; rw [if_neg (by rintro ⟨_, _, h⟩; exact hmx h)])
    rcases Nat.lt_or_ge n k with hnk | hnk
    all_goals
      have hi1 : (n : Int) < (k : Int) ∨ ¬ (n : Int) < (k : Int) := by omega
      have hi2 : (1048576 : Int) < (if (n : Int) < (k : Int) then (k : Int) else (n : Int)) := by split <;> omega
      have hi3 : (1048576 : Int) < (if n < k then (k : Int) else (n : Int)) := by split <;> omega
    · have hi4 : (n : Int) < (k : Int) := by omega
      have hi5 : (1048576 : Int) < (k : Int) := by omega
      clear hmx hi1 hi2 hi3
      go_wp2_with (first
        | ((with_reducible refine wpList_plain (o := ⟨some 73, Op.build _ _, _, _, _, _⟩) rfl fun K hK => ?_); (refine wp_val (v := BlobV BlobL.zero) (by unfold execOp; simp only [List.map_toArray, List.map_nil, build_blob0, Sem.run_bind, Result.andThen_ok, Sem.run_pure]) (hK _ _ ?_)))
        | ((with_reducible refine wpList_plain (o := ⟨none, Op.store _ (.tmp 2) (.tmp 73), _, _, _, _⟩) rfl fun K hK => ?_); (refine HO4.out.store (.tmp 2) (.tmp 73) rfl rfl rfl BlobL.zero_ok fun wF hOF hgF hsF => hK _ _ ?_); have HOF := Lib.hid hOF; have HGF := Lib.hid hgF; clear hOF hgF hsF))
      refine bodyPost_ret (RecT.results2 rfl _ rfl rfl HOF.out) rfl ?_
      exact blobD_fail HDN.out (HBB4.out.grown HGF.out (by have := HBB4.out.size; omega) (fun k e => by cases e; omega))
    · have hi4 : ¬ n < k := by omega
      have hi6 : ¬ (n : Int) < (k : Int) := by omega
      have hi5 : (1048576 : Int) < (n : Int) := by omega
      clear hmx hi1 hi2 hi3
      go_wp2_with (first
        | ((with_reducible refine wpList_plain (o := ⟨some 73, Op.build _ _, _, _, _, _⟩) rfl fun K hK => ?_); (refine wp_val (v := BlobV BlobL.zero) (by unfold execOp; simp only [List.map_toArray, List.map_nil, build_blob0, Sem.run_bind, Result.andThen_ok, Sem.run_pure]) (hK _ _ ?_)))
        | ((with_reducible refine wpList_plain (o := ⟨none, Op.store _ (.tmp 2) (.tmp 73), _, _, _, _⟩) rfl fun K hK => ?_); (refine HO4.out.store (.tmp 2) (.tmp 73) rfl rfl rfl BlobL.zero_ok fun wF hOF hgF hsF => hK _ _ ?_); have HOF := Lib.hid hOF; have HGF := Lib.hid hgF; clear hOF hgF hsF))
      refine bodyPost_ret (RecT.results2 rfl _ rfl rfl HOF.out) rfl ?_
      exact blobD_fail HDN.out (HBB4.out.grown HGF.out (by have := HBB4.out.size; omega) (fun k e => by cases e; omega))
  have hnl : n ≤ 1048576 ∧ k ≤ 1048576 := by omega
  have HDS := Lib.hid (show blobD b = some ⟨a.2, (n : Int), (k : Int), r.2⟩ by rw [HBD.out]; simp only [Option.isSome_some, Option.getD_some]; rw [if_pos ⟨trivial, trivial, hmx⟩])
  have HNL := Lib.hid hnl
  have hn1 : ¬ (1048576 : Int) < (n : Int) := by omega
  have hk1 : ¬ (1048576 : Int) < (k : Int) := by omega
  have hw1 : IntKind.i64.wrap (n : Int) = (n : Int) := IntWalk.i64_in _ (by omega)
  have hw2 : IntKind.i64.wrap (k : Int) = (k : Int) := IntWalk.i64_in _ (by omega)
  have hq0 : ∀ w', Grew w4 w' → w'.cell? ⟨pg, 1, none⟩ = some (.slice (some ⟨g0, o0, none⟩) 32 c0) := fun w' h => Grew.cell h q0
  have hq3 : ∀ w', Grew w4 w' → w'.cell? ⟨pg, 7, none⟩ = some (.slice (some ⟨g3, o3, none⟩) 32 c3) := fun w' h => Grew.cell h q3
  have hA0 := run_arrayAt5 (some ⟨g0, o0, none⟩) c0
  have hA3 := run_arrayAt5 (some ⟨g3, o3, none⟩) c3
  have hd0 : DigAt w4 g0 o0 a.2 := (HG0.out.of_new HB3.out).of_new HB4.out
  have hd3 : DigAt w4 g3 o3 r.2 := (HG3.out.of_new HB3.out).of_new HB4.out
  have hbu := run_build_blob a.2 r.2 (n : Int) (k : Int) HL0.out HL3.out
  have HOK := Lib.hid (show RBlob.ok (⟨a.2, (n : Int), (k : Int), r.2⟩ : BlobL) from ⟨HL0.out, HL3.out⟩)
  have hnk2 : ((n : Int) < (k : Int) ∧ n < k) ∨ (¬ (n : Int) < (k : Int) ∧ ¬ n < k) := by omega
  clear hmx hnl
  rcases hnk2 with ⟨hnk, hnk2⟩ | ⟨hnk, hnk2⟩
  all_goals
    go_upto_region 8 with (fail)
    refine wp_region_grew_tail 17 (by kernel_rfl) (by kernel_rfl) ?_
    simp only [List.take_succ_cons, List.take_zero, List.drop_succ_cons, List.drop_zero]
    repeat (first
      | (go_big_quiet_want; (with_reducible apply quiet_load_at (ty := 25) (x := .tmp _)); rfl; rfl; assumption; go_simp; go_big_quiet_on)
      | (go_big_quiet_want; apply quiet_val; (intro w' hw'; go_simp; first | done | rfl); go_simp; go_big_quiet_on)
      | (go_big_quiet_skip))
    go_big_quiet_want
    refine quiet_build_blob a.2 r.2 (n : Int) (k : Int) rfl rfl rfl rfl rfl HL0.out HL3.out ?_
    go_simp
    go_big_quiet_on
    refine wpQuiet_nil ?_
    intro w5 hw5
    have HO5 := Lib.hid (HO4.out.of_new hw5)
    have HBB5 := Lib.hid (below_next HBB4.out hw5)
    clear hw5
    go_wp2_with (first
      | ((with_reducible refine wpList_plain (o := ⟨none, Op.store _ (.tmp 2) (.tmp 90), _, _, _, _⟩) rfl fun K hK => ?_); (refine HO5.out.store (.tmp 2) (.tmp 90) rfl rfl rfl HOK.out fun wF hOF hgF hsF => hK _ _ ?_); have HOF := Lib.hid hOF; have HGF := Lib.hid hgF; clear hOF hgF hsF))
    refine bodyPost_ret (RecT.results2 rfl _ rfl rfl HOF.out) rfl ?_
    exact ⟨by rw [HDS.out]; rfl, HBB5.out.grown HGF.out (by have := HBB5.out.size; omega) (fun k e => by cases e; omega)⟩

end Go.Proofs.YtnomekfemadpeaaDoor

/- Texts of this claim, one behind the other: each begins with a comment that says what it proves and asks. -/
import Derived.Test.YtnohglkilpnjhaaGreatDoorRi16
/- The walk of the document's answer's Encode of a message. No condition. -/
namespace Go.Proofs.YtnohglkilpnjhaaGreatDoor
open Go.RowKit
set_option linter.unusedVariables false
set_option linter.unusedSimpArgs false
set_option maxRecDepth 100000

theorem right_bytes5 {m : MsgL} {a b c d e f : Bool} {n : Int} (hr : wrightB m = true) (hF : rhasL m.kind = (a, b, c, n, d, e, f)) : 0 < n → 0 < m.bytes.length := fun hn => by
  rw [← rrightB_eq] at hr
  unfold rrightB rTest3 at hr
  rw [hF] at hr
  simp only [Bool.and_eq_true, Bool.not_eq_true', Bool.or_eq_false_iff] at hr
  obtain ⟨⟨⟨_, ⟨_, h3⟩, _⟩, _⟩, _⟩ := hr
  rw [decide_eq_true hn, Bool.true_and, decide_eq_false_iff_not] at h3
  omega
theorem ownIt_one (w : World) (base : Nat) (i : Int) (bs : List UInt8) (v : Value) (hb : base ≤ w.heap.size) (hv : Bytes w v bs) (hk : ∀ k, v.ownBlock = some k → k < w.heap.size) :
    OwnIt (w.alloc (.cells #[.int .i64 i, v] 110)) base (.slice (some ⟨w.heap.size, 0, none⟩) 1 1) [((i, bs), v)] :=
  ⟨World.ownsRow_lit w #[.int .i64 i, v] 1 hb (by unfold maxLen; omega) rfl, fun x hx => by
    have : x = ((i, bs), v) := by simpa using hx
    subst this
    refine ⟨hv.of_alloc _, fun k e => ⟨by rw [World.size_alloc]; have := hk k e; omega, fun e2 => ?_⟩⟩
    have h1 : w.heap.size = k := by cases e2; rfl
    have := hk k e
    omega⟩
theorem it_apart2 {wj wx : World} {B : Nat} {v lv : Value} {l : List ItV} {o : Obj} (hown : OwnIt wj B lv l) (hs : wj.heap.size ≤ wx.heap.size) (hk : ∀ k, v.ownBlock = some k → k < B ∧ k < wj.heap.size ∨ (wj.heap.size ≤ k ∧ k < wx.heap.size)) : ∀ k, v.ownBlock = some k → k < (wx.alloc o).heap.size ∧ lv.ownBlock ≠ some k := fun k e => by
  rw [World.size_alloc]
  rcases hk k e with ⟨h1, h2⟩ | ⟨h1, h2⟩
  · exact ⟨by omega, fun e2 => by have := (hown.lt _ e2).1; omega⟩
  · exact ⟨by omega, fun e2 => by have := (hown.lt _ e2).2; omega⟩
theorem bytes_blk {w : World} {v : Value} {l : List UInt8} (h : Bytes w v l) (h0 : 0 < l.length) : ∀ k, v.ownBlock = some k → k < w.heap.size := fun k e => by
  obtain ⟨_, a, c, rfl, _, _, _, h5⟩ := h
  obtain ⟨b, off, rfl, hb, _⟩ := h5 (by omega)
  cases e; exact hb
theorem memAt_new (w : World) (x : MemL) : MemAt (w.alloc (.cells #[.int .i64 x.id, .int .i64 x.inc, .int .i64 x.state, .int .i64 x.since] 113)) w.heap.size 0 x := by
  have h := heap_alloc_new w (.cells #[.int .i64 x.id, .int .i64 x.inc, .int .i64 x.state, .int .i64 x.since] 113)
  refine ⟨?_, ?_, ?_, ?_⟩ <;> simp only [World.cell?, h] <;> rfl

set_option maxHeartbeats 6400000 in
theorem REnc_A (m : MsgL) (s : MsgS) (w : World) (hm : MsgR w m s) (hr : wrightB m = true) (hF : rhasL m.kind = (true, false, false, 128, false, false, false)) :
    Calls Tryz.prog 14 #[MsgV m s] w (EncPost w (rencL (ritemsM m))) := by
  obtain ⟨i0, hi, hz0, hz1, hz2⟩ := info_parts infoU8
  obtain ⟨W, hW, ho, hb⟩ := msg_boxed w (s := s) hm.hash
  rw [show MsgV m s = .agg (msgCells m s).toArray from rfl]
  have hR := WRRight_any m s W (hm.of_new hb)
  rw [rrightB_eq, hr] at hR
  have hH := fun w' => RHas_any m.kind w'
  rw [hF] at hH
  have hits : ritemsM m = [(1, uint (u64L m.kind)), (2, m.hash), (5, m.bytes)] := by unfold ritemsM; rw [hF]; simp
  rw [hits]
  have hls := ho.lt
  have hsW := hb.size
  obtain ⟨hi1, hp1, hm1⟩ := right_few hr
  have hN := fun n w' => num_any n w'
  have HM := Lib.hid hm
  have HO := Lib.hid ho
  have HW := Lib.hid hW
  have HH := Lib.hid hH
  have HN := Lib.hid hN
  have HBN := Lib.hid (right_bytes5 hr hF (by decide))
  clear hW hm ho hH hN hits hF hr
  go_enter Tryz.func14, Tryz.ntmps14
  go_upto_region 1 with (fail)
  rw [HW.out]
  go_upto_region 4 with (first
    | ((with_reducible refine wpList_plain (o := ⟨some 21, Op.load 37 _, _, _, _, _⟩) rfl fun K hK => ?_); (refine wp_load_msg (g := w.heap.size) (m := m) (s := s) rfl rfl HO.out (hK _ _ ?_)))
    | (go_at_call 43; refine hR.mono ?_; rintro e w2 ⟨rfl, hb2⟩))
  have hbA := below_next hb hb2
  have HO2 := Lib.hid (HO.out.of_new hb2)
  have e0 := HO2.out.kind
  have hs2 := hb2.size
  clear hR hb2
  go_upto_region 5 with (first | (go_at_call 44; refine (HH.out _).mono ?_; rintro e w3 ⟨rfl, rfl⟩; unfold HasV))
  clear HH
  go_upto_region 6 with (first
    | (go_at_call 45; refine (HN.out _ _).mono ?_; rintro e w4 ⟨v4, rfl, hv4, hb4⟩; obtain ⟨a4, c4, hv⟩ := hv4.bytes.len; subst hv; have HV4 := Lib.hid hv4; have HB4 := Lib.hid hb4; have hs4 := hb4.size; clear hv4 hb4))
  generalize hW5 : w4.alloc _ = W5
  obtain ⟨hown, hb5, hs5⟩ : OwnIt W5 W.heap.size (.slice (some ⟨w4.heap.size, 0, none⟩) 1 1) [((1, uint (u64L m.kind)), .slice a4 (uint (u64L m.kind)).length c4)] ∧ Below w4.heap.size w4 W5 ∧ w4.heap.size < W5.heap.size := by
    subst hW5
    exact ⟨ownIt_one w4 W.heap.size 1 _ _ (by omega) HV4.out.bytes (fun k hk => (HV4.out.lt k hk).2), (Below.refl _ _).alloc (Nat.le_refl _) _, by simp⟩
  have HW5 := Lib.hid hown
  have hbB := below_next (below_next hbA HB4.out) hb5
  have HO5 := Lib.hid ((HO2.out.of_new HB4.out).of_new hb5)
  have hln : ([((1, uint (u64L m.kind)), .slice a4 (uint (u64L m.kind)).length c4)] : List ItV).length = 1 := rfl
  clear hW5 hown hb5 e0 hbA HB4 HO2 HV4
  obtain ⟨L1, hL1⟩ : ∃ L : List ItV, [((1, uint (u64L m.kind)), .slice a4 (uint (u64L m.kind)).length c4)] = L := ⟨_, rfl⟩
  rw [hL1] at HW5
  have HLN1 := Lib.hid (show L1.length = 1 by rw [← hL1]; simp)
  have hmp1 : L1.map (·.1) = [((1 : Int), uint (u64L m.kind))] := by rw [← hL1]; rfl
  have HMP1 := Lib.hid hmp1
  clear hL1 hmp1
  clear hln
  have hcW := hbB.size
  have hms := HO5.out.lt
  have hd1 := HO5.out.hash
  have HD1 := Lib.hid hd1
  clear hd1
  have HOx := HW5
  go_upto_region 8 with (first
    | ((with_reducible refine wpList_plain (o := ⟨some 47, _, _, _, _, _⟩) rfl fun K hK => ?_); refine wp_appIt (.tmp 42) (.tmp 46) rfl W.heap.size _ L1 ((2, m.hash), .slice (some ⟨w.heap.size, 1, none⟩) 32 32) W5.heap.size rfl (HOx.out.of_new ((Below.refl _ W5).alloc (Nat.le_refl _) _)) rfl (Bytes.of_new (HD1.out.bytes) ((Below.refl _ W5).alloc (Nat.le_refl _) _)) (it_apart2 HOx.out (Nat.le_refl _) (fun k hk => .inl (by cases hk; exact ⟨hls, hms⟩))) (heap_alloc_new W5 _) (by have := HLN1.out; omega) (by simp; omega) ?_; intro v7 w7 ho7 hg7 hn7; refine hK _ _ ?_; obtain ⟨a7, c7, hv0⟩ := ho7.len; have hv7 : v7 = .slice a7 2 c7 := (by rw [hv0, List.length_append, HLN1.out]; rfl); clear hv0; subst hv7; have HW7 := Lib.hid ho7; have HG7 := Lib.hid hg7; clear ho7 hg7 hn7 hK))
  have hgw7 : Below W5.heap.size W5 w7 ∨ True := .inr trivial
  clear hgw7
  have hB7 : Below w.heap.size w w7 := (hbB.alloc hbB.size _).grown HG7.out (by simp; have := hbB.size; omega) (fun j hj => by have := (HOx.out.lt j hj).1; omega)
  have HM7 := Lib.hid (HO5.out.of_block (w' := w7) ((HG7.out.block _ (by simp; have := HO5.out.lt; omega) (fun e => by have := (HOx.out.lt _ e.symm).1; omega)).trans (Below.heap_alloc _ _ _ HO5.out.lt)))
  have hsz7 := HG7.out.size
  rw [World.size_alloc] at hsz7
  clear hcW hms HOx
  obtain ⟨L2, hL2⟩ : ∃ L : List ItV, L1 ++ [((2, m.hash), .slice (some ⟨w.heap.size, 1, none⟩) 32 32)] = L := ⟨_, rfl⟩
  rw [hL2] at HW7
  have HLN2 := Lib.hid (show L2.length = 2 by rw [← hL2, List.length_append, HLN1.out]; rfl)
  have hmp2 : L2.map (·.1) = [((1 : Int), uint (u64L m.kind)), ((2 : Int), m.hash)] := by rw [← hL2]; rw [List.map_append, HMP1.out]; rfl
  have HMP2 := Lib.hid hmp2
  clear hL2 hmp2
  have hcW := hB7.size
  have hms := HM7.out.lt
  have e5 := HM7.out.bytes
  obtain ⟨ab, cb, hvb⟩ := HM.out.bytes.len
  rw [hvb] at e5
  have HVB := Lib.hid hvb
  clear hvb
  have HOx := HW7
  go_upto_region 19 with (first
    | ((with_reducible refine wpList_plain (o := ⟨some 84, _, _, _, _, _⟩) rfl fun K hK => ?_); refine wp_appIt (.tmp 79) (.tmp 83) rfl W.heap.size _ L2 ((5, m.bytes), .slice ab m.bytes.length cb) w7.heap.size rfl (HOx.out.of_new ((Below.refl _ w7).alloc (Nat.le_refl _) _)) rfl (Bytes.of_new (HVB.out ▸ (HM.out.bytes.of_new hB7)) ((Below.refl _ w7).alloc (Nat.le_refl _) _)) (it_apart2 HOx.out (Nat.le_refl _) (fun k hk => .inl (by rw [← HVB.out] at hk; have := bytes_blk HM.out.bytes HBN.out k hk; exact ⟨by omega, by omega⟩))) (heap_alloc_new w7 _) (by have := HLN2.out; omega) (by simp; omega) ?_; intro v8 w8 ho8 hg8 hn8; refine hK _ _ ?_; obtain ⟨a8, c8, hv0⟩ := ho8.len; have hv8 : v8 = .slice a8 3 c8 := (by rw [hv0, List.length_append, HLN2.out]; rfl); clear hv0; subst hv8; have HW8 := Lib.hid ho8; have HG8 := Lib.hid hg8; clear ho8 hg8 hn8 hK))
  have hgw8 : Below w7.heap.size w7 w8 ∨ True := .inr trivial
  clear hgw8
  have hB8 : Below w.heap.size w w8 := (hB7.alloc hB7.size _).grown HG8.out (by simp; have := hB7.size; omega) (fun j hj => by have := (HOx.out.lt j hj).1; omega)
  have HM8 := Lib.hid (HM7.out.of_block (w' := w8) ((HG8.out.block _ (by simp; have := HM7.out.lt; omega) (fun e => by have := (HOx.out.lt _ e.symm).1; omega)).trans (Below.heap_alloc _ _ _ HM7.out.lt)))
  have hsz8 := HG8.out.size
  rw [World.size_alloc] at hsz8
  clear hcW hms HOx
  obtain ⟨L3, hL3⟩ : ∃ L : List ItV, L2 ++ [((5, m.bytes), .slice ab m.bytes.length cb)] = L := ⟨_, rfl⟩
  rw [hL3] at HW8
  have HLN3 := Lib.hid (show L3.length = 3 by rw [← hL3, List.length_append, HLN2.out]; rfl)
  have hmp3 : L3.map (·.1) = [((1 : Int), uint (u64L m.kind)), ((2 : Int), m.hash), ((5 : Int), m.bytes)] := by rw [← hL3]; rw [List.map_append, HMP2.out]; rfl
  have HMP3 := Lib.hid hmp3
  clear hL3 hmp3
  have hI := HW8.out.items
  rw [HMP3.out] at hI
  have hEn := refEncode_any _ _ w8 hI
  rcases hen : rencL [((1 : Int), uint (u64L m.kind)), ((2 : Int), m.hash), ((5 : Int), m.bytes)] with _ | c
  · rw [hen] at hEn
    have HEN := Lib.hid hen
    clear hI hen
    go_upto_region 41 with (fail)
    go_wp2_with fail
    refine hEn.mono ?_
    rintro e w4 ⟨hb4, v4, rfl⟩
    clear hEn
    go_wp2
    go_ret2
    exact enc_none HEN.out (below_next hB8 hb4)
  · rw [hen] at hEn
    have HEN := Lib.hid hen
    clear hI hen
    go_upto_region 41 with (fail)
    go_wp2_with fail
    refine hEn.mono ?_
    rintro e w4 ⟨hb4, v4, rfl, ho4⟩
    clear hEn
    have HO4 := Lib.hid (ho4.mono hB8.size)
    clear ho4
    go_wp2
    go_ret2
    exact enc_some HEN.out (below_next hB8 hb4) HO4.out

set_option maxHeartbeats 6400000 in
theorem REnc_A2 (m : MsgL) (s : MsgS) (w : World) (hm : MsgR w m s) (hr : wrightB m = true) (hF : rhasL m.kind = (true, false, false, 4096, false, false, false)) :
    Calls Tryz.prog 14 #[MsgV m s] w (EncPost w (rencL (ritemsM m))) := by
  obtain ⟨i0, hi, hz0, hz1, hz2⟩ := info_parts infoU8
  obtain ⟨W, hW, ho, hb⟩ := msg_boxed w (s := s) hm.hash
  rw [show MsgV m s = .agg (msgCells m s).toArray from rfl]
  have hR := WRRight_any m s W (hm.of_new hb)
  rw [rrightB_eq, hr] at hR
  have hH := fun w' => RHas_any m.kind w'
  rw [hF] at hH
  have hits : ritemsM m = [(1, uint (u64L m.kind)), (2, m.hash), (5, m.bytes)] := by unfold ritemsM; rw [hF]; simp
  rw [hits]
  have hls := ho.lt
  have hsW := hb.size
  obtain ⟨hi1, hp1, hm1⟩ := right_few hr
  have hN := fun n w' => num_any n w'
  have HM := Lib.hid hm
  have HO := Lib.hid ho
  have HW := Lib.hid hW
  have HH := Lib.hid hH
  have HN := Lib.hid hN
  have HBN := Lib.hid (right_bytes5 hr hF (by decide))
  clear hW hm ho hH hN hits hF hr
  go_enter Tryz.func14, Tryz.ntmps14
  go_upto_region 1 with (fail)
  rw [HW.out]
  go_upto_region 4 with (first
    | ((with_reducible refine wpList_plain (o := ⟨some 21, Op.load 37 _, _, _, _, _⟩) rfl fun K hK => ?_); (refine wp_load_msg (g := w.heap.size) (m := m) (s := s) rfl rfl HO.out (hK _ _ ?_)))
    | (go_at_call 43; refine hR.mono ?_; rintro e w2 ⟨rfl, hb2⟩))
  have hbA := below_next hb hb2
  have HO2 := Lib.hid (HO.out.of_new hb2)
  have e0 := HO2.out.kind
  have hs2 := hb2.size
  clear hR hb2
  go_upto_region 5 with (first | (go_at_call 44; refine (HH.out _).mono ?_; rintro e w3 ⟨rfl, rfl⟩; unfold HasV))
  clear HH
  go_upto_region 6 with (first
    | (go_at_call 45; refine (HN.out _ _).mono ?_; rintro e w4 ⟨v4, rfl, hv4, hb4⟩; obtain ⟨a4, c4, hv⟩ := hv4.bytes.len; subst hv; have HV4 := Lib.hid hv4; have HB4 := Lib.hid hb4; have hs4 := hb4.size; clear hv4 hb4))
  generalize hW5 : w4.alloc _ = W5
  obtain ⟨hown, hb5, hs5⟩ : OwnIt W5 W.heap.size (.slice (some ⟨w4.heap.size, 0, none⟩) 1 1) [((1, uint (u64L m.kind)), .slice a4 (uint (u64L m.kind)).length c4)] ∧ Below w4.heap.size w4 W5 ∧ w4.heap.size < W5.heap.size := by
    subst hW5
    exact ⟨ownIt_one w4 W.heap.size 1 _ _ (by omega) HV4.out.bytes (fun k hk => (HV4.out.lt k hk).2), (Below.refl _ _).alloc (Nat.le_refl _) _, by simp⟩
  have HW5 := Lib.hid hown
  have hbB := below_next (below_next hbA HB4.out) hb5
  have HO5 := Lib.hid ((HO2.out.of_new HB4.out).of_new hb5)
  have hln : ([((1, uint (u64L m.kind)), .slice a4 (uint (u64L m.kind)).length c4)] : List ItV).length = 1 := rfl
  clear hW5 hown hb5 e0 hbA HB4 HO2 HV4
  obtain ⟨L1, hL1⟩ : ∃ L : List ItV, [((1, uint (u64L m.kind)), .slice a4 (uint (u64L m.kind)).length c4)] = L := ⟨_, rfl⟩
  rw [hL1] at HW5
  have HLN1 := Lib.hid (show L1.length = 1 by rw [← hL1]; simp)
  have hmp1 : L1.map (·.1) = [((1 : Int), uint (u64L m.kind))] := by rw [← hL1]; rfl
  have HMP1 := Lib.hid hmp1
  clear hL1 hmp1
  clear hln
  have hcW := hbB.size
  have hms := HO5.out.lt
  have hd1 := HO5.out.hash
  have HD1 := Lib.hid hd1
  clear hd1
  have HOx := HW5
  go_upto_region 8 with (first
    | ((with_reducible refine wpList_plain (o := ⟨some 47, _, _, _, _, _⟩) rfl fun K hK => ?_); refine wp_appIt (.tmp 42) (.tmp 46) rfl W.heap.size _ L1 ((2, m.hash), .slice (some ⟨w.heap.size, 1, none⟩) 32 32) W5.heap.size rfl (HOx.out.of_new ((Below.refl _ W5).alloc (Nat.le_refl _) _)) rfl (Bytes.of_new (HD1.out.bytes) ((Below.refl _ W5).alloc (Nat.le_refl _) _)) (it_apart2 HOx.out (Nat.le_refl _) (fun k hk => .inl (by cases hk; exact ⟨hls, hms⟩))) (heap_alloc_new W5 _) (by have := HLN1.out; omega) (by simp; omega) ?_; intro v7 w7 ho7 hg7 hn7; refine hK _ _ ?_; obtain ⟨a7, c7, hv0⟩ := ho7.len; have hv7 : v7 = .slice a7 2 c7 := (by rw [hv0, List.length_append, HLN1.out]; rfl); clear hv0; subst hv7; have HW7 := Lib.hid ho7; have HG7 := Lib.hid hg7; clear ho7 hg7 hn7 hK))
  have hgw7 : Below W5.heap.size W5 w7 ∨ True := .inr trivial
  clear hgw7
  have hB7 : Below w.heap.size w w7 := (hbB.alloc hbB.size _).grown HG7.out (by simp; have := hbB.size; omega) (fun j hj => by have := (HOx.out.lt j hj).1; omega)
  have HM7 := Lib.hid (HO5.out.of_block (w' := w7) ((HG7.out.block _ (by simp; have := HO5.out.lt; omega) (fun e => by have := (HOx.out.lt _ e.symm).1; omega)).trans (Below.heap_alloc _ _ _ HO5.out.lt)))
  have hsz7 := HG7.out.size
  rw [World.size_alloc] at hsz7
  clear hcW hms HOx
  obtain ⟨L2, hL2⟩ : ∃ L : List ItV, L1 ++ [((2, m.hash), .slice (some ⟨w.heap.size, 1, none⟩) 32 32)] = L := ⟨_, rfl⟩
  rw [hL2] at HW7
  have HLN2 := Lib.hid (show L2.length = 2 by rw [← hL2, List.length_append, HLN1.out]; rfl)
  have hmp2 : L2.map (·.1) = [((1 : Int), uint (u64L m.kind)), ((2 : Int), m.hash)] := by rw [← hL2]; rw [List.map_append, HMP1.out]; rfl
  have HMP2 := Lib.hid hmp2
  clear hL2 hmp2
  have hcW := hB7.size
  have hms := HM7.out.lt
  have e5 := HM7.out.bytes
  obtain ⟨ab, cb, hvb⟩ := HM.out.bytes.len
  rw [hvb] at e5
  have HVB := Lib.hid hvb
  clear hvb
  have HOx := HW7
  go_upto_region 19 with (first
    | ((with_reducible refine wpList_plain (o := ⟨some 84, _, _, _, _, _⟩) rfl fun K hK => ?_); refine wp_appIt (.tmp 79) (.tmp 83) rfl W.heap.size _ L2 ((5, m.bytes), .slice ab m.bytes.length cb) w7.heap.size rfl (HOx.out.of_new ((Below.refl _ w7).alloc (Nat.le_refl _) _)) rfl (Bytes.of_new (HVB.out ▸ (HM.out.bytes.of_new hB7)) ((Below.refl _ w7).alloc (Nat.le_refl _) _)) (it_apart2 HOx.out (Nat.le_refl _) (fun k hk => .inl (by rw [← HVB.out] at hk; have := bytes_blk HM.out.bytes HBN.out k hk; exact ⟨by omega, by omega⟩))) (heap_alloc_new w7 _) (by have := HLN2.out; omega) (by simp; omega) ?_; intro v8 w8 ho8 hg8 hn8; refine hK _ _ ?_; obtain ⟨a8, c8, hv0⟩ := ho8.len; have hv8 : v8 = .slice a8 3 c8 := (by rw [hv0, List.length_append, HLN2.out]; rfl); clear hv0; subst hv8; have HW8 := Lib.hid ho8; have HG8 := Lib.hid hg8; clear ho8 hg8 hn8 hK))
  have hgw8 : Below w7.heap.size w7 w8 ∨ True := .inr trivial
  clear hgw8
  have hB8 : Below w.heap.size w w8 := (hB7.alloc hB7.size _).grown HG8.out (by simp; have := hB7.size; omega) (fun j hj => by have := (HOx.out.lt j hj).1; omega)
  have HM8 := Lib.hid (HM7.out.of_block (w' := w8) ((HG8.out.block _ (by simp; have := HM7.out.lt; omega) (fun e => by have := (HOx.out.lt _ e.symm).1; omega)).trans (Below.heap_alloc _ _ _ HM7.out.lt)))
  have hsz8 := HG8.out.size
  rw [World.size_alloc] at hsz8
  clear hcW hms HOx
  obtain ⟨L3, hL3⟩ : ∃ L : List ItV, L2 ++ [((5, m.bytes), .slice ab m.bytes.length cb)] = L := ⟨_, rfl⟩
  rw [hL3] at HW8
  have HLN3 := Lib.hid (show L3.length = 3 by rw [← hL3, List.length_append, HLN2.out]; rfl)
  have hmp3 : L3.map (·.1) = [((1 : Int), uint (u64L m.kind)), ((2 : Int), m.hash), ((5 : Int), m.bytes)] := by rw [← hL3]; rw [List.map_append, HMP2.out]; rfl
  have HMP3 := Lib.hid hmp3
  clear hL3 hmp3
  have hI := HW8.out.items
  rw [HMP3.out] at hI
  have hEn := refEncode_any _ _ w8 hI
  rcases hen : rencL [((1 : Int), uint (u64L m.kind)), ((2 : Int), m.hash), ((5 : Int), m.bytes)] with _ | c
  · rw [hen] at hEn
    have HEN := Lib.hid hen
    clear hI hen
    go_upto_region 41 with (fail)
    go_wp2_with fail
    refine hEn.mono ?_
    rintro e w4 ⟨hb4, v4, rfl⟩
    clear hEn
    go_wp2
    go_ret2
    exact enc_none HEN.out (below_next hB8 hb4)
  · rw [hen] at hEn
    have HEN := Lib.hid hen
    clear hI hen
    go_upto_region 41 with (fail)
    go_wp2_with fail
    refine hEn.mono ?_
    rintro e w4 ⟨hb4, v4, rfl, ho4⟩
    clear hEn
    have HO4 := Lib.hid (ho4.mono hB8.size)
    clear ho4
    go_wp2
    go_ret2
    exact enc_some HEN.out (below_next hB8 hb4) HO4.out

set_option maxHeartbeats 6400000 in
theorem REnc_B (m : MsgL) (s : MsgS) (w : World) (hm : MsgR w m s) (hr : wrightB m = true) (hF : rhasL m.kind = (true, true, false, 0, false, false, false)) :
    Calls Tryz.prog 14 #[MsgV m s] w (EncPost w (rencL (ritemsM m))) := by
  obtain ⟨i0, hi, hz0, hz1, hz2⟩ := info_parts infoU8
  obtain ⟨W, hW, ho, hb⟩ := msg_boxed w (s := s) hm.hash
  rw [show MsgV m s = .agg (msgCells m s).toArray from rfl]
  have hR := WRRight_any m s W (hm.of_new hb)
  rw [rrightB_eq, hr] at hR
  have hH := fun w' => RHas_any m.kind w'
  rw [hF] at hH
  have hits : ritemsM m = [(1, uint (u64L m.kind)), (2, m.hash), (3, uint (u64L m.piece))] := by unfold ritemsM; rw [hF]; simp
  rw [hits]
  have hls := ho.lt
  have hsW := hb.size
  obtain ⟨hi1, hp1, hm1⟩ := right_few hr
  have hN := fun n w' => num_any n w'
  have HM := Lib.hid hm
  have HO := Lib.hid ho
  have HW := Lib.hid hW
  have HH := Lib.hid hH
  have HN := Lib.hid hN
  clear hW hm ho hH hN hits hF hr
  go_enter Tryz.func14, Tryz.ntmps14
  go_upto_region 1 with (fail)
  rw [HW.out]
  go_upto_region 4 with (first
    | ((with_reducible refine wpList_plain (o := ⟨some 21, Op.load 37 _, _, _, _, _⟩) rfl fun K hK => ?_); (refine wp_load_msg (g := w.heap.size) (m := m) (s := s) rfl rfl HO.out (hK _ _ ?_)))
    | (go_at_call 43; refine hR.mono ?_; rintro e w2 ⟨rfl, hb2⟩))
  have hbA := below_next hb hb2
  have HO2 := Lib.hid (HO.out.of_new hb2)
  have e0 := HO2.out.kind
  have hs2 := hb2.size
  clear hR hb2
  go_upto_region 5 with (first | (go_at_call 44; refine (HH.out _).mono ?_; rintro e w3 ⟨rfl, rfl⟩; unfold HasV))
  clear HH
  go_upto_region 6 with (first
    | (go_at_call 45; refine (HN.out _ _).mono ?_; rintro e w4 ⟨v4, rfl, hv4, hb4⟩; obtain ⟨a4, c4, hv⟩ := hv4.bytes.len; subst hv; have HV4 := Lib.hid hv4; have HB4 := Lib.hid hb4; have hs4 := hb4.size; clear hv4 hb4))
  generalize hW5 : w4.alloc _ = W5
  obtain ⟨hown, hb5, hs5⟩ : OwnIt W5 W.heap.size (.slice (some ⟨w4.heap.size, 0, none⟩) 1 1) [((1, uint (u64L m.kind)), .slice a4 (uint (u64L m.kind)).length c4)] ∧ Below w4.heap.size w4 W5 ∧ w4.heap.size < W5.heap.size := by
    subst hW5
    exact ⟨ownIt_one w4 W.heap.size 1 _ _ (by omega) HV4.out.bytes (fun k hk => (HV4.out.lt k hk).2), (Below.refl _ _).alloc (Nat.le_refl _) _, by simp⟩
  have HW5 := Lib.hid hown
  have hbB := below_next (below_next hbA HB4.out) hb5
  have HO5 := Lib.hid ((HO2.out.of_new HB4.out).of_new hb5)
  have hln : ([((1, uint (u64L m.kind)), .slice a4 (uint (u64L m.kind)).length c4)] : List ItV).length = 1 := rfl
  clear hW5 hown hb5 e0 hbA HB4 HO2 HV4
  obtain ⟨L1, hL1⟩ : ∃ L : List ItV, [((1, uint (u64L m.kind)), .slice a4 (uint (u64L m.kind)).length c4)] = L := ⟨_, rfl⟩
  rw [hL1] at HW5
  have HLN1 := Lib.hid (show L1.length = 1 by rw [← hL1]; simp)
  have hmp1 : L1.map (·.1) = [((1 : Int), uint (u64L m.kind))] := by rw [← hL1]; rfl
  have HMP1 := Lib.hid hmp1
  clear hL1 hmp1
  clear hln
  have hcW := hbB.size
  have hms := HO5.out.lt
  have hd1 := HO5.out.hash
  have HD1 := Lib.hid hd1
  clear hd1
  have HOx := HW5
  go_upto_region 8 with (first
    | ((with_reducible refine wpList_plain (o := ⟨some 47, _, _, _, _, _⟩) rfl fun K hK => ?_); refine wp_appIt (.tmp 42) (.tmp 46) rfl W.heap.size _ L1 ((2, m.hash), .slice (some ⟨w.heap.size, 1, none⟩) 32 32) W5.heap.size rfl (HOx.out.of_new ((Below.refl _ W5).alloc (Nat.le_refl _) _)) rfl (Bytes.of_new (HD1.out.bytes) ((Below.refl _ W5).alloc (Nat.le_refl _) _)) (it_apart2 HOx.out (Nat.le_refl _) (fun k hk => .inl (by cases hk; exact ⟨hls, hms⟩))) (heap_alloc_new W5 _) (by have := HLN1.out; omega) (by simp; omega) ?_; intro v7 w7 ho7 hg7 hn7; refine hK _ _ ?_; obtain ⟨a7, c7, hv0⟩ := ho7.len; have hv7 : v7 = .slice a7 2 c7 := (by rw [hv0, List.length_append, HLN1.out]; rfl); clear hv0; subst hv7; have HW7 := Lib.hid ho7; have HG7 := Lib.hid hg7; clear ho7 hg7 hn7 hK))
  have hgw7 : Below W5.heap.size W5 w7 ∨ True := .inr trivial
  clear hgw7
  have hB7 : Below w.heap.size w w7 := (hbB.alloc hbB.size _).grown HG7.out (by simp; have := hbB.size; omega) (fun j hj => by have := (HOx.out.lt j hj).1; omega)
  have HM7 := Lib.hid (HO5.out.of_block (w' := w7) ((HG7.out.block _ (by simp; have := HO5.out.lt; omega) (fun e => by have := (HOx.out.lt _ e.symm).1; omega)).trans (Below.heap_alloc _ _ _ HO5.out.lt)))
  have hsz7 := HG7.out.size
  rw [World.size_alloc] at hsz7
  clear hcW hms HOx
  obtain ⟨L2, hL2⟩ : ∃ L : List ItV, L1 ++ [((2, m.hash), .slice (some ⟨w.heap.size, 1, none⟩) 32 32)] = L := ⟨_, rfl⟩
  rw [hL2] at HW7
  have HLN2 := Lib.hid (show L2.length = 2 by rw [← hL2, List.length_append, HLN1.out]; rfl)
  have hmp2 : L2.map (·.1) = [((1 : Int), uint (u64L m.kind)), ((2 : Int), m.hash)] := by rw [← hL2]; rw [List.map_append, HMP1.out]; rfl
  have HMP2 := Lib.hid hmp2
  clear hL2 hmp2
  have hcW := hB7.size
  have hms := HM7.out.lt
  have e3 := HM7.out.piece
  have HOy := HW7
  go_upto_region 10 with (first
    | (go_at_call 45; refine (HN.out _ _).mono ?_; rintro e wy ⟨vy, rfl, hvy, hby⟩; obtain ⟨ay, cy, hv⟩ := hvy.bytes.len; subst hv; have HVY := Lib.hid hvy; have HBY := Lib.hid hby; have hsy := hby.size; have HOx := Lib.hid (HOy.out.of_new hby); clear hvy hby)
    | ((with_reducible refine wpList_plain (o := ⟨some 55, _, _, _, _, _⟩) rfl fun K hK => ?_); refine wp_appIt (.tmp 49) (.tmp 54) rfl W.heap.size _ L2 ((3, uint (u64L m.piece)), .slice ay (uint (u64L m.piece)).length cy) wy.heap.size rfl (HOx.out.of_new ((Below.refl _ wy).alloc (Nat.le_refl _) _)) rfl (Bytes.of_new (HVY.out.bytes) ((Below.refl _ wy).alloc (Nat.le_refl _) _)) (it_apart2 HOy.out hsy (fun k hk => .inr ⟨(HVY.out.lt k hk).1, (HVY.out.lt k hk).2⟩)) (heap_alloc_new wy _) (by have := HLN2.out; omega) (by simp; omega) ?_; intro v8 w8 ho8 hg8 hn8; refine hK _ _ ?_; obtain ⟨a8, c8, hv0⟩ := ho8.len; have hv8 : v8 = .slice a8 3 c8 := (by rw [hv0, List.length_append, HLN2.out]; rfl); clear hv0; subst hv8; have HW8 := Lib.hid ho8; have HG8 := Lib.hid hg8; clear ho8 hg8 hn8 hK))
  have hgw8 : Below wy.heap.size wy w8 ∨ True := .inr trivial
  clear hgw8
  have hB8 : Below w.heap.size w w8 := ((below_next hB7 HBY.out).alloc (below_next hB7 HBY.out).size _).grown HG8.out (by simp; have := (below_next hB7 HBY.out).size; omega) (fun j hj => by have := (HOx.out.lt j hj).1; omega)
  have HM8 := Lib.hid ((HM7.out.of_new HBY.out).of_block (w' := w8) ((HG8.out.block _ (by simp; have := (HM7.out.of_new HBY.out).lt; omega) (fun e => by have := (HOx.out.lt _ e.symm).1; omega)).trans (Below.heap_alloc _ _ _ (HM7.out.of_new HBY.out).lt)))
  have hsz8 := HG8.out.size
  rw [World.size_alloc] at hsz8
  clear hcW hms HOx
  obtain ⟨L3, hL3⟩ : ∃ L : List ItV, L2 ++ [((3, uint (u64L m.piece)), .slice ay (uint (u64L m.piece)).length cy)] = L := ⟨_, rfl⟩
  rw [hL3] at HW8
  have HLN3 := Lib.hid (show L3.length = 3 by rw [← hL3, List.length_append, HLN2.out]; rfl)
  have hmp3 : L3.map (·.1) = [((1 : Int), uint (u64L m.kind)), ((2 : Int), m.hash), ((3 : Int), uint (u64L m.piece))] := by rw [← hL3]; rw [List.map_append, HMP2.out]; rfl
  have HMP3 := Lib.hid hmp3
  clear hL3 hmp3
  have hI := HW8.out.items
  rw [HMP3.out] at hI
  have hEn := refEncode_any _ _ w8 hI
  rcases hen : rencL [((1 : Int), uint (u64L m.kind)), ((2 : Int), m.hash), ((3 : Int), uint (u64L m.piece))] with _ | c
  · rw [hen] at hEn
    have HEN := Lib.hid hen
    clear hI hen
    go_upto_region 41 with (fail)
    go_wp2_with fail
    refine hEn.mono ?_
    rintro e w4 ⟨hb4, v4, rfl⟩
    clear hEn
    go_wp2
    go_ret2
    exact enc_none HEN.out (below_next hB8 hb4)
  · rw [hen] at hEn
    have HEN := Lib.hid hen
    clear hI hen
    go_upto_region 41 with (fail)
    go_wp2_with fail
    refine hEn.mono ?_
    rintro e w4 ⟨hb4, v4, rfl, ho4⟩
    clear hEn
    have HO4 := Lib.hid (ho4.mono hB8.size)
    clear ho4
    go_wp2
    go_ret2
    exact enc_some HEN.out (below_next hB8 hb4) HO4.out

set_option maxHeartbeats 6400000 in
theorem REnc_C (m : MsgL) (s : MsgS) (w : World) (hm : MsgR w m s) (hr : wrightB m = true) (hF : rhasL m.kind = (true, true, false, 16384, true, false, false)) :
    Calls Tryz.prog 14 #[MsgV m s] w (EncPost w (rencL (ritemsM m))) := by
  obtain ⟨i0, hi, hz0, hz1, hz2⟩ := info_parts infoU8
  obtain ⟨W, hW, ho, hb⟩ := msg_boxed w (s := s) hm.hash
  rw [show MsgV m s = .agg (msgCells m s).toArray from rfl]
  have hR := WRRight_any m s W (hm.of_new hb)
  rw [rrightB_eq, hr] at hR
  have hH := fun w' => RHas_any m.kind w'
  rw [hF] at hH
  have hits : ritemsM m = [(1, uint (u64L m.kind)), (2, m.hash), (3, uint (u64L m.piece)), (5, m.bytes), (6, m.proof.flatten)] := by unfold ritemsM; rw [hF]; simp
  rw [hits]
  have hls := ho.lt
  have hsW := hb.size
  obtain ⟨hi1, hp1, hm1⟩ := right_few hr
  have hN := fun n w' => num_any n w'
  have HM := Lib.hid hm
  have HO := Lib.hid ho
  have HW := Lib.hid hW
  have HH := Lib.hid hH
  have HN := Lib.hid hN
  have HBN := Lib.hid (right_bytes5 hr hF (by decide))
  clear hW hm ho hH hN hits hF hr
  go_enter Tryz.func14, Tryz.ntmps14
  go_upto_region 1 with (fail)
  rw [HW.out]
  go_upto_region 4 with (first
    | ((with_reducible refine wpList_plain (o := ⟨some 21, Op.load 37 _, _, _, _, _⟩) rfl fun K hK => ?_); (refine wp_load_msg (g := w.heap.size) (m := m) (s := s) rfl rfl HO.out (hK _ _ ?_)))
    | (go_at_call 43; refine hR.mono ?_; rintro e w2 ⟨rfl, hb2⟩))
  have hbA := below_next hb hb2
  have HO2 := Lib.hid (HO.out.of_new hb2)
  have e0 := HO2.out.kind
  have hs2 := hb2.size
  clear hR hb2
  go_upto_region 5 with (first | (go_at_call 44; refine (HH.out _).mono ?_; rintro e w3 ⟨rfl, rfl⟩; unfold HasV))
  clear HH
  go_upto_region 6 with (first
    | (go_at_call 45; refine (HN.out _ _).mono ?_; rintro e w4 ⟨v4, rfl, hv4, hb4⟩; obtain ⟨a4, c4, hv⟩ := hv4.bytes.len; subst hv; have HV4 := Lib.hid hv4; have HB4 := Lib.hid hb4; have hs4 := hb4.size; clear hv4 hb4))
  generalize hW5 : w4.alloc _ = W5
  obtain ⟨hown, hb5, hs5⟩ : OwnIt W5 W.heap.size (.slice (some ⟨w4.heap.size, 0, none⟩) 1 1) [((1, uint (u64L m.kind)), .slice a4 (uint (u64L m.kind)).length c4)] ∧ Below w4.heap.size w4 W5 ∧ w4.heap.size < W5.heap.size := by
    subst hW5
    exact ⟨ownIt_one w4 W.heap.size 1 _ _ (by omega) HV4.out.bytes (fun k hk => (HV4.out.lt k hk).2), (Below.refl _ _).alloc (Nat.le_refl _) _, by simp⟩
  have HW5 := Lib.hid hown
  have hbB := below_next (below_next hbA HB4.out) hb5
  have HO5 := Lib.hid ((HO2.out.of_new HB4.out).of_new hb5)
  have hln : ([((1, uint (u64L m.kind)), .slice a4 (uint (u64L m.kind)).length c4)] : List ItV).length = 1 := rfl
  clear hW5 hown hb5 e0 hbA HB4 HO2 HV4
  obtain ⟨L1, hL1⟩ : ∃ L : List ItV, [((1, uint (u64L m.kind)), .slice a4 (uint (u64L m.kind)).length c4)] = L := ⟨_, rfl⟩
  rw [hL1] at HW5
  have HLN1 := Lib.hid (show L1.length = 1 by rw [← hL1]; simp)
  have hmp1 : L1.map (·.1) = [((1 : Int), uint (u64L m.kind))] := by rw [← hL1]; rfl
  have HMP1 := Lib.hid hmp1
  clear hL1 hmp1
  clear hln
  have hcW := hbB.size
  have hms := HO5.out.lt
  have hd1 := HO5.out.hash
  have HD1 := Lib.hid hd1
  clear hd1
  have HOx := HW5
  go_upto_region 8 with (first
    | ((with_reducible refine wpList_plain (o := ⟨some 47, _, _, _, _, _⟩) rfl fun K hK => ?_); refine wp_appIt (.tmp 42) (.tmp 46) rfl W.heap.size _ L1 ((2, m.hash), .slice (some ⟨w.heap.size, 1, none⟩) 32 32) W5.heap.size rfl (HOx.out.of_new ((Below.refl _ W5).alloc (Nat.le_refl _) _)) rfl (Bytes.of_new (HD1.out.bytes) ((Below.refl _ W5).alloc (Nat.le_refl _) _)) (it_apart2 HOx.out (Nat.le_refl _) (fun k hk => .inl (by cases hk; exact ⟨hls, hms⟩))) (heap_alloc_new W5 _) (by have := HLN1.out; omega) (by simp; omega) ?_; intro v7 w7 ho7 hg7 hn7; refine hK _ _ ?_; obtain ⟨a7, c7, hv0⟩ := ho7.len; have hv7 : v7 = .slice a7 2 c7 := (by rw [hv0, List.length_append, HLN1.out]; rfl); clear hv0; subst hv7; have HW7 := Lib.hid ho7; have HG7 := Lib.hid hg7; clear ho7 hg7 hn7 hK))
  have hgw7 : Below W5.heap.size W5 w7 ∨ True := .inr trivial
  clear hgw7
  have hB7 : Below w.heap.size w w7 := (hbB.alloc hbB.size _).grown HG7.out (by simp; have := hbB.size; omega) (fun j hj => by have := (HOx.out.lt j hj).1; omega)
  have HM7 := Lib.hid (HO5.out.of_block (w' := w7) ((HG7.out.block _ (by simp; have := HO5.out.lt; omega) (fun e => by have := (HOx.out.lt _ e.symm).1; omega)).trans (Below.heap_alloc _ _ _ HO5.out.lt)))
  have hsz7 := HG7.out.size
  rw [World.size_alloc] at hsz7
  clear hcW hms HOx
  obtain ⟨L2, hL2⟩ : ∃ L : List ItV, L1 ++ [((2, m.hash), .slice (some ⟨w.heap.size, 1, none⟩) 32 32)] = L := ⟨_, rfl⟩
  rw [hL2] at HW7
  have HLN2 := Lib.hid (show L2.length = 2 by rw [← hL2, List.length_append, HLN1.out]; rfl)
  have hmp2 : L2.map (·.1) = [((1 : Int), uint (u64L m.kind)), ((2 : Int), m.hash)] := by rw [← hL2]; rw [List.map_append, HMP1.out]; rfl
  have HMP2 := Lib.hid hmp2
  clear hL2 hmp2
  have hcW := hB7.size
  have hms := HM7.out.lt
  have e3 := HM7.out.piece
  have HOy := HW7
  go_upto_region 10 with (first
    | (go_at_call 45; refine (HN.out _ _).mono ?_; rintro e wy ⟨vy, rfl, hvy, hby⟩; obtain ⟨ay, cy, hv⟩ := hvy.bytes.len; subst hv; have HVY := Lib.hid hvy; have HBY := Lib.hid hby; have hsy := hby.size; have HOx := Lib.hid (HOy.out.of_new hby); clear hvy hby)
    | ((with_reducible refine wpList_plain (o := ⟨some 55, _, _, _, _, _⟩) rfl fun K hK => ?_); refine wp_appIt (.tmp 49) (.tmp 54) rfl W.heap.size _ L2 ((3, uint (u64L m.piece)), .slice ay (uint (u64L m.piece)).length cy) wy.heap.size rfl (HOx.out.of_new ((Below.refl _ wy).alloc (Nat.le_refl _) _)) rfl (Bytes.of_new (HVY.out.bytes) ((Below.refl _ wy).alloc (Nat.le_refl _) _)) (it_apart2 HOy.out hsy (fun k hk => .inr ⟨(HVY.out.lt k hk).1, (HVY.out.lt k hk).2⟩)) (heap_alloc_new wy _) (by have := HLN2.out; omega) (by simp; omega) ?_; intro v8 w8 ho8 hg8 hn8; refine hK _ _ ?_; obtain ⟨a8, c8, hv0⟩ := ho8.len; have hv8 : v8 = .slice a8 3 c8 := (by rw [hv0, List.length_append, HLN2.out]; rfl); clear hv0; subst hv8; have HW8 := Lib.hid ho8; have HG8 := Lib.hid hg8; clear ho8 hg8 hn8 hK))
  have hgw8 : Below wy.heap.size wy w8 ∨ True := .inr trivial
  clear hgw8
  have hB8 : Below w.heap.size w w8 := ((below_next hB7 HBY.out).alloc (below_next hB7 HBY.out).size _).grown HG8.out (by simp; have := (below_next hB7 HBY.out).size; omega) (fun j hj => by have := (HOx.out.lt j hj).1; omega)
  have HM8 := Lib.hid ((HM7.out.of_new HBY.out).of_block (w' := w8) ((HG8.out.block _ (by simp; have := (HM7.out.of_new HBY.out).lt; omega) (fun e => by have := (HOx.out.lt _ e.symm).1; omega)).trans (Below.heap_alloc _ _ _ (HM7.out.of_new HBY.out).lt)))
  have hsz8 := HG8.out.size
  rw [World.size_alloc] at hsz8
  clear hcW hms HOx
  obtain ⟨L3, hL3⟩ : ∃ L : List ItV, L2 ++ [((3, uint (u64L m.piece)), .slice ay (uint (u64L m.piece)).length cy)] = L := ⟨_, rfl⟩
  rw [hL3] at HW8
  have HLN3 := Lib.hid (show L3.length = 3 by rw [← hL3, List.length_append, HLN2.out]; rfl)
  have hmp3 : L3.map (·.1) = [((1 : Int), uint (u64L m.kind)), ((2 : Int), m.hash), ((3 : Int), uint (u64L m.piece))] := by rw [← hL3]; rw [List.map_append, HMP2.out]; rfl
  have HMP3 := Lib.hid hmp3
  clear hL3 hmp3
  have hcW := hB8.size
  have hms := HM8.out.lt
  have e5 := HM8.out.bytes
  obtain ⟨ab, cb, hvb⟩ := HM.out.bytes.len
  rw [hvb] at e5
  have HVB := Lib.hid hvb
  clear hvb
  have HOx := HW8
  go_upto_region 19 with (first
    | ((with_reducible refine wpList_plain (o := ⟨some 84, _, _, _, _, _⟩) rfl fun K hK => ?_); refine wp_appIt (.tmp 79) (.tmp 83) rfl W.heap.size _ L3 ((5, m.bytes), .slice ab m.bytes.length cb) w8.heap.size rfl (HOx.out.of_new ((Below.refl _ w8).alloc (Nat.le_refl _) _)) rfl (Bytes.of_new (HVB.out ▸ (HM.out.bytes.of_new hB8)) ((Below.refl _ w8).alloc (Nat.le_refl _) _)) (it_apart2 HOx.out (Nat.le_refl _) (fun k hk => .inl (by rw [← HVB.out] at hk; have := bytes_blk HM.out.bytes HBN.out k hk; exact ⟨by omega, by omega⟩))) (heap_alloc_new w8 _) (by have := HLN3.out; omega) (by simp; omega) ?_; intro v9 w9 ho9 hg9 hn9; refine hK _ _ ?_; obtain ⟨a9, c9, hv0⟩ := ho9.len; have hv9 : v9 = .slice a9 4 c9 := (by rw [hv0, List.length_append, HLN3.out]; rfl); clear hv0; subst hv9; have HW9 := Lib.hid ho9; have HG9 := Lib.hid hg9; clear ho9 hg9 hn9 hK))
  have hgw9 : Below w8.heap.size w8 w9 ∨ True := .inr trivial
  clear hgw9
  have hB9 : Below w.heap.size w w9 := (hB8.alloc hB8.size _).grown HG9.out (by simp; have := hB8.size; omega) (fun j hj => by have := (HOx.out.lt j hj).1; omega)
  have HM9 := Lib.hid (HM8.out.of_block (w' := w9) ((HG9.out.block _ (by simp; have := HM8.out.lt; omega) (fun e => by have := (HOx.out.lt _ e.symm).1; omega)).trans (Below.heap_alloc _ _ _ HM8.out.lt)))
  have hsz9 := HG9.out.size
  rw [World.size_alloc] at hsz9
  clear hcW hms HOx
  obtain ⟨L4, hL4⟩ : ∃ L : List ItV, L3 ++ [((5, m.bytes), .slice ab m.bytes.length cb)] = L := ⟨_, rfl⟩
  rw [hL4] at HW9
  have HLN4 := Lib.hid (show L4.length = 4 by rw [← hL4, List.length_append, HLN3.out]; rfl)
  have hmp4 : L4.map (·.1) = [((1 : Int), uint (u64L m.kind)), ((2 : Int), m.hash), ((3 : Int), uint (u64L m.piece)), ((5 : Int), m.bytes)] := by rw [← hL4]; rw [List.map_append, HMP3.out]; rfl
  have HMP4 := Lib.hid hmp4
  clear hL4 hmp4
  have hcW := hB9.size
  have hms := HM9.out.lt
  have e6 := HM9.out.proof
  have hpp := HM.out.proof
  obtain ⟨ap, cp, hvp⟩ := hpp.len
  rw [hvp] at e6 hpp
  have HP := Lib.hid (hpp.of_new hB9)
  have E6 := Lib.hid e6
  clear hvp hpp e6
  go_wp2
  go_loopw [15, 16] (fun ov iv W' => ∃ k : Nat, k ≤ m.proof.length ∧ iv = .int .i64 k ∧ Own8 W' w9.heap.size 5 ov (m.proof.take k).flatten ∧ Below w9.heap.size w9 W') (fun _ iv _ => m.proof.length - (intOf iv).toNat)
  case atStart => exact ⟨0, Nat.zero_le _, rfl, Own8.nil _ _ _, Below.refl _ _⟩
  case round =>
    obtain ⟨k, hk, rfl, ho, hbr⟩ := hrel
    have e6 := (hbr.cell (p := ⟨w.heap.size, 36, none⟩) hms).trans E6.out
    obtain ⟨oa, oc, hv⟩ := ho.bytes.len
    subst hv
    have hol := flat_len (l := m.proof.take k) (fun d hd => HP.out.1 d (List.mem_of_mem_take hd))
    rw [List.length_take] at hol
    have hsz := hbr.size
    by_cases hlt : k < m.proof.length
    · obtain ⟨pb, poff, pc, hv⟩ := HP.out.shape (by omega)
      obtain ⟨rfl, rfl⟩ : ap = some ⟨pb, poff, none⟩ ∧ cp = pc := by cases hv; exact ⟨rfl, rfl⟩
      have hd := (HP.out.digAt hlt).of_new hbr
      have hst := flat_take hlt
      generalize m.proof.getD k [] = d at *
      have hol2 : (m.proof.take k).flatten.length ≤ 32000 := by omega
      clear hol
      generalize (m.proof.take k).flatten = out at *
      have HOO := Lib.hid ho
      have HST := Lib.hid hst
      have HDD := Lib.hid hd
      have hdl := hd.1
      have HDL := Lib.hid hdl
      clear hv ho hst hd hdl
      go_wp2_with (first
        | (at_builtin; refine wpList_app8 rfl (.tmp 93) (.tmp 98) 33 rfl w9.heap.size 5 i0 Tryz.underlying33 hi hz0 hz1 hz2 _ out rfl HOO.out _ d rfl HDD.out.bytes (by have := HDL.out; omega) (by omega) ?_; intro v3 w3 ho3 hg3 hn3; obtain ⟨a3, c3, hv3⟩ := ho3.bytes.len; subst hv3; have HO3 := Lib.hid ho3; have HG3 := Lib.hid hg3; clear ho3 hg3 hn3))
      go_roundw
      case rel =>
        refine ⟨k + 1, by omega, by go_num, ?_, hbr.grown HG3.out (by omega) (fun j hj => (HOO.out.lt j hj).1)⟩
        rw [HST.out]
        have h := HO3.out
        rw [List.length_append] at h
        exact h
      case measure => simp [intOf]; omega
    · obtain ⟨out, hout⟩ : ∃ out, (m.proof.take k).flatten = out := ⟨_, rfl⟩
      rw [hout] at ho ⊢
      rw [List.take_of_length_le (by omega)] at hout
      have HOUT := Lib.hid hout
      have HOO := Lib.hid ho
      have HOx := Lib.hid (HW9.out.of_new hbr)
      have hbW := below_next hB9 hbr
      have HOm := Lib.hid (HM9.out.of_new hbr)
      clear ho hout hol
      have HOy := HW9
      go_upto_region 26 with (first
        | ((with_reducible refine wpList_plain (o := ⟨some 104, _, _, _, _, _⟩) rfl fun K hK => ?_); refine wp_appIt (.tmp 100) (.tmp 103) rfl W.heap.size _ L4 ((6, m.proof.flatten), .slice oa out.length oc) wr.heap.size rfl (HOx.out.of_new ((Below.refl _ wr).alloc (Nat.le_refl _) _)) rfl (Bytes.of_new ((HOUT.out ▸ HOO.out.bytes : Bytes wr (.slice oa out.length oc) (m.proof.flatten))) ((Below.refl _ wr).alloc (Nat.le_refl _) _)) (it_apart2 HOy.out hsz (fun k hk => .inr ⟨(HOO.out.lt k hk).1, (HOO.out.lt k hk).2⟩)) (heap_alloc_new wr _) (by have := HLN4.out; omega) (by simp; omega) ?_; intro v10 w10 ho10 hg10 hn10; refine hK _ _ ?_; obtain ⟨a10, c10, hv0⟩ := ho10.len; have hv10 : v10 = .slice a10 5 c10 := (by rw [hv0, List.length_append, HLN4.out]; rfl); clear hv0; subst hv10; have HW10 := Lib.hid ho10; have HG10 := Lib.hid hg10; clear ho10 hg10 hn10 hK))
      have hgw10 : Below wr.heap.size wr w10 ∨ True := .inr trivial
      clear hgw10
      have hB10 : Below w.heap.size w w10 := (hbW.alloc hbW.size _).grown HG10.out (by simp; have := hbW.size; omega) (fun j hj => by have := (HOx.out.lt j hj).1; omega)
      have HM10 := Lib.hid (HOm.out.of_block (w' := w10) ((HG10.out.block _ (by simp; have := HOm.out.lt; omega) (fun e => by have := (HOx.out.lt _ e.symm).1; omega)).trans (Below.heap_alloc _ _ _ HOm.out.lt)))
      have hsz10 := HG10.out.size
      rw [World.size_alloc] at hsz10
      clear hcW hms HOx
      obtain ⟨L5, hL5⟩ : ∃ L : List ItV, L4 ++ [((6, m.proof.flatten), .slice oa out.length oc)] = L := ⟨_, rfl⟩
      rw [hL5] at HW10
      have HLN5 := Lib.hid (show L5.length = 5 by rw [← hL5, List.length_append, HLN4.out]; rfl)
      have hmp5 : L5.map (·.1) = [((1 : Int), uint (u64L m.kind)), ((2 : Int), m.hash), ((3 : Int), uint (u64L m.piece)), ((5 : Int), m.bytes), ((6 : Int), m.proof.flatten)] := by rw [← hL5]; rw [List.map_append, HMP4.out]; rfl
      have HMP5 := Lib.hid hmp5
      clear hL5 hmp5
      have hI := HW10.out.items
      rw [HMP5.out] at hI
      have hEn := refEncode_any _ _ w10 hI
      rcases hen : rencL [((1 : Int), uint (u64L m.kind)), ((2 : Int), m.hash), ((3 : Int), uint (u64L m.piece)), ((5 : Int), m.bytes), ((6 : Int), m.proof.flatten)] with _ | c
      · rw [hen] at hEn
        have HEN := Lib.hid hen
        clear hI hen
        go_upto_region 41 with (fail)
        go_wp2_with fail
        refine hEn.mono ?_
        rintro e w4 ⟨hb4, v4, rfl⟩
        clear hEn
        go_wp2
        go_ret2
        exact enc_none HEN.out (below_next hB10 hb4)
      · rw [hen] at hEn
        have HEN := Lib.hid hen
        clear hI hen
        go_upto_region 41 with (fail)
        go_wp2_with fail
        refine hEn.mono ?_
        rintro e w4 ⟨hb4, v4, rfl, ho4⟩
        clear hEn
        have HO4 := Lib.hid (ho4.mono hB10.size)
        clear ho4
        go_wp2
        go_ret2
        exact enc_some HEN.out (below_next hB10 hb4) HO4.out

set_option maxHeartbeats 6400000 in
theorem REnc_D0 (m : MsgL) (s : MsgS) (w : World) (hm : MsgR w m s) (hr : wrightB m = true) (hF : rhasL m.kind = (true, false, false, 0, false, false, true)) (hsd : m.seed = false) :
    Calls Tryz.prog 14 #[MsgV m s] w (EncPost w (rencL (ritemsM m))) := by
  obtain ⟨i0, hi, hz0, hz1, hz2⟩ := info_parts infoU8
  obtain ⟨W, hW, ho, hb⟩ := msg_boxed w (s := s) hm.hash
  rw [show MsgV m s = .agg (msgCells m s).toArray from rfl]
  have hR := WRRight_any m s W (hm.of_new hb)
  rw [rrightB_eq, hr] at hR
  have hH := fun w' => RHas_any m.kind w'
  rw [hF] at hH
  have hits : ritemsM m = [(1, uint (u64L m.kind)), (2, m.hash), (8, uint (u64L 0))] := by unfold ritemsM; rw [hF]; simp [hsd]
  rw [hits]
  have hls := ho.lt
  have hsW := hb.size
  obtain ⟨hi1, hp1, hm1⟩ := right_few hr
  have hN := fun n w' => num_any n w'
  have HM := Lib.hid hm
  have HO := Lib.hid ho
  have HW := Lib.hid hW
  have HH := Lib.hid hH
  have HN := Lib.hid hN
  clear hW hm ho hH hN hits hF hr
  go_enter Tryz.func14, Tryz.ntmps14
  go_upto_region 1 with (fail)
  rw [HW.out]
  go_upto_region 4 with (first
    | ((with_reducible refine wpList_plain (o := ⟨some 21, Op.load 37 _, _, _, _, _⟩) rfl fun K hK => ?_); (refine wp_load_msg (g := w.heap.size) (m := m) (s := s) rfl rfl HO.out (hK _ _ ?_)))
    | (go_at_call 43; refine hR.mono ?_; rintro e w2 ⟨rfl, hb2⟩))
  have hbA := below_next hb hb2
  have HO2 := Lib.hid (HO.out.of_new hb2)
  have e0 := HO2.out.kind
  have hs2 := hb2.size
  clear hR hb2
  go_upto_region 5 with (first | (go_at_call 44; refine (HH.out _).mono ?_; rintro e w3 ⟨rfl, rfl⟩; unfold HasV))
  clear HH
  go_upto_region 6 with (first
    | (go_at_call 45; refine (HN.out _ _).mono ?_; rintro e w4 ⟨v4, rfl, hv4, hb4⟩; obtain ⟨a4, c4, hv⟩ := hv4.bytes.len; subst hv; have HV4 := Lib.hid hv4; have HB4 := Lib.hid hb4; have hs4 := hb4.size; clear hv4 hb4))
  generalize hW5 : w4.alloc _ = W5
  obtain ⟨hown, hb5, hs5⟩ : OwnIt W5 W.heap.size (.slice (some ⟨w4.heap.size, 0, none⟩) 1 1) [((1, uint (u64L m.kind)), .slice a4 (uint (u64L m.kind)).length c4)] ∧ Below w4.heap.size w4 W5 ∧ w4.heap.size < W5.heap.size := by
    subst hW5
    exact ⟨ownIt_one w4 W.heap.size 1 _ _ (by omega) HV4.out.bytes (fun k hk => (HV4.out.lt k hk).2), (Below.refl _ _).alloc (Nat.le_refl _) _, by simp⟩
  have HW5 := Lib.hid hown
  have hbB := below_next (below_next hbA HB4.out) hb5
  have HO5 := Lib.hid ((HO2.out.of_new HB4.out).of_new hb5)
  have hln : ([((1, uint (u64L m.kind)), .slice a4 (uint (u64L m.kind)).length c4)] : List ItV).length = 1 := rfl
  clear hW5 hown hb5 e0 hbA HB4 HO2 HV4
  obtain ⟨L1, hL1⟩ : ∃ L : List ItV, [((1, uint (u64L m.kind)), .slice a4 (uint (u64L m.kind)).length c4)] = L := ⟨_, rfl⟩
  rw [hL1] at HW5
  have HLN1 := Lib.hid (show L1.length = 1 by rw [← hL1]; simp)
  have hmp1 : L1.map (·.1) = [((1 : Int), uint (u64L m.kind))] := by rw [← hL1]; rfl
  have HMP1 := Lib.hid hmp1
  clear hL1 hmp1
  clear hln
  have hcW := hbB.size
  have hms := HO5.out.lt
  have hd1 := HO5.out.hash
  have HD1 := Lib.hid hd1
  clear hd1
  have HOx := HW5
  go_upto_region 8 with (first
    | ((with_reducible refine wpList_plain (o := ⟨some 47, _, _, _, _, _⟩) rfl fun K hK => ?_); refine wp_appIt (.tmp 42) (.tmp 46) rfl W.heap.size _ L1 ((2, m.hash), .slice (some ⟨w.heap.size, 1, none⟩) 32 32) W5.heap.size rfl (HOx.out.of_new ((Below.refl _ W5).alloc (Nat.le_refl _) _)) rfl (Bytes.of_new (HD1.out.bytes) ((Below.refl _ W5).alloc (Nat.le_refl _) _)) (it_apart2 HOx.out (Nat.le_refl _) (fun k hk => .inl (by cases hk; exact ⟨hls, hms⟩))) (heap_alloc_new W5 _) (by have := HLN1.out; omega) (by simp; omega) ?_; intro v7 w7 ho7 hg7 hn7; refine hK _ _ ?_; obtain ⟨a7, c7, hv0⟩ := ho7.len; have hv7 : v7 = .slice a7 2 c7 := (by rw [hv0, List.length_append, HLN1.out]; rfl); clear hv0; subst hv7; have HW7 := Lib.hid ho7; have HG7 := Lib.hid hg7; clear ho7 hg7 hn7 hK))
  have hgw7 : Below W5.heap.size W5 w7 ∨ True := .inr trivial
  clear hgw7
  have hB7 : Below w.heap.size w w7 := (hbB.alloc hbB.size _).grown HG7.out (by simp; have := hbB.size; omega) (fun j hj => by have := (HOx.out.lt j hj).1; omega)
  have HM7 := Lib.hid (HO5.out.of_block (w' := w7) ((HG7.out.block _ (by simp; have := HO5.out.lt; omega) (fun e => by have := (HOx.out.lt _ e.symm).1; omega)).trans (Below.heap_alloc _ _ _ HO5.out.lt)))
  have hsz7 := HG7.out.size
  rw [World.size_alloc] at hsz7
  clear hcW hms HOx
  obtain ⟨L2, hL2⟩ : ∃ L : List ItV, L1 ++ [((2, m.hash), .slice (some ⟨w.heap.size, 1, none⟩) 32 32)] = L := ⟨_, rfl⟩
  rw [hL2] at HW7
  have HLN2 := Lib.hid (show L2.length = 2 by rw [← hL2, List.length_append, HLN1.out]; rfl)
  have hmp2 : L2.map (·.1) = [((1 : Int), uint (u64L m.kind)), ((2 : Int), m.hash)] := by rw [← hL2]; rw [List.map_append, HMP1.out]; rfl
  have HMP2 := Lib.hid hmp2
  clear hL2 hmp2
  have hcW := hB7.size
  have hms := HM7.out.lt
  have e8 := HM7.out.seed
  rw [hsd] at e8
  have HOy := HW7
  go_upto_region 41 with (first
    | (go_at_call 45; refine (HN.out _ _).mono ?_; rintro e wy ⟨vy, rfl, hvy, hby⟩; obtain ⟨ay, cy, hv⟩ := hvy.bytes.len; subst hv; have HVY := Lib.hid hvy; have HBY := Lib.hid hby; have hsy := hby.size; have HOx := Lib.hid (HOy.out.of_new hby); clear hvy hby)
    | ((with_reducible refine wpList_plain (o := ⟨some 146, _, _, _, _, _⟩) rfl fun K hK => ?_); refine wp_appIt (.tmp 141) (.tmp 145) rfl W.heap.size _ L2 ((8, uint (u64L 0)), .slice ay (uint (u64L 0)).length cy) wy.heap.size rfl (HOx.out.of_new ((Below.refl _ wy).alloc (Nat.le_refl _) _)) rfl (Bytes.of_new (HVY.out.bytes) ((Below.refl _ wy).alloc (Nat.le_refl _) _)) (it_apart2 HOy.out hsy (fun k hk => .inr ⟨(HVY.out.lt k hk).1, (HVY.out.lt k hk).2⟩)) (heap_alloc_new wy _) (by have := HLN2.out; omega) (by simp; omega) ?_; intro v8 w8 ho8 hg8 hn8; refine hK _ _ ?_; obtain ⟨a8, c8, hv0⟩ := ho8.len; have hv8 : v8 = .slice a8 3 c8 := (by rw [hv0, List.length_append, HLN2.out]; rfl); clear hv0; subst hv8; have HW8 := Lib.hid ho8; have HG8 := Lib.hid hg8; clear ho8 hg8 hn8 hK))
  have hgw8 : Below wy.heap.size wy w8 ∨ True := .inr trivial
  clear hgw8
  have hB8 : Below w.heap.size w w8 := ((below_next hB7 HBY.out).alloc (below_next hB7 HBY.out).size _).grown HG8.out (by simp; have := (below_next hB7 HBY.out).size; omega) (fun j hj => by have := (HOx.out.lt j hj).1; omega)
  have HM8 := Lib.hid ((HM7.out.of_new HBY.out).of_block (w' := w8) ((HG8.out.block _ (by simp; have := (HM7.out.of_new HBY.out).lt; omega) (fun e => by have := (HOx.out.lt _ e.symm).1; omega)).trans (Below.heap_alloc _ _ _ (HM7.out.of_new HBY.out).lt)))
  have hsz8 := HG8.out.size
  rw [World.size_alloc] at hsz8
  clear hcW hms HOx
  obtain ⟨L3, hL3⟩ : ∃ L : List ItV, L2 ++ [((8, uint (u64L 0)), .slice ay (uint (u64L 0)).length cy)] = L := ⟨_, rfl⟩
  rw [hL3] at HW8
  have HLN3 := Lib.hid (show L3.length = 3 by rw [← hL3, List.length_append, HLN2.out]; rfl)
  have hmp3 : L3.map (·.1) = [((1 : Int), uint (u64L m.kind)), ((2 : Int), m.hash), ((8 : Int), uint (u64L 0))] := by rw [← hL3]; rw [List.map_append, HMP2.out]; rfl
  have HMP3 := Lib.hid hmp3
  clear hL3 hmp3
  have hI := HW8.out.items
  rw [HMP3.out] at hI
  have hEn := refEncode_any _ _ w8 hI
  rcases hen : rencL [((1 : Int), uint (u64L m.kind)), ((2 : Int), m.hash), ((8 : Int), uint (u64L 0))] with _ | c
  · rw [hen] at hEn
    have HEN := Lib.hid hen
    clear hI hen
    go_upto_region 41 with (fail)
    go_wp2_with fail
    refine hEn.mono ?_
    rintro e w4 ⟨hb4, v4, rfl⟩
    clear hEn
    go_wp2
    go_ret2
    exact enc_none HEN.out (below_next hB8 hb4)
  · rw [hen] at hEn
    have HEN := Lib.hid hen
    clear hI hen
    go_upto_region 41 with (fail)
    go_wp2_with fail
    refine hEn.mono ?_
    rintro e w4 ⟨hb4, v4, rfl, ho4⟩
    clear hEn
    have HO4 := Lib.hid (ho4.mono hB8.size)
    clear ho4
    go_wp2
    go_ret2
    exact enc_some HEN.out (below_next hB8 hb4) HO4.out

set_option maxHeartbeats 6400000 in
theorem REnc_D1 (m : MsgL) (s : MsgS) (w : World) (hm : MsgR w m s) (hr : wrightB m = true) (hF : rhasL m.kind = (true, false, false, 0, false, false, true)) (hsd : m.seed = true) :
    Calls Tryz.prog 14 #[MsgV m s] w (EncPost w (rencL (ritemsM m))) := by
  obtain ⟨i0, hi, hz0, hz1, hz2⟩ := info_parts infoU8
  obtain ⟨W, hW, ho, hb⟩ := msg_boxed w (s := s) hm.hash
  rw [show MsgV m s = .agg (msgCells m s).toArray from rfl]
  have hR := WRRight_any m s W (hm.of_new hb)
  rw [rrightB_eq, hr] at hR
  have hH := fun w' => RHas_any m.kind w'
  rw [hF] at hH
  have hits : ritemsM m = [(1, uint (u64L m.kind)), (2, m.hash), (8, uint (u64L 1))] := by unfold ritemsM; rw [hF]; simp [hsd]
  rw [hits]
  have hls := ho.lt
  have hsW := hb.size
  obtain ⟨hi1, hp1, hm1⟩ := right_few hr
  have hN := fun n w' => num_any n w'
  have HM := Lib.hid hm
  have HO := Lib.hid ho
  have HW := Lib.hid hW
  have HH := Lib.hid hH
  have HN := Lib.hid hN
  clear hW hm ho hH hN hits hF hr
  go_enter Tryz.func14, Tryz.ntmps14
  go_upto_region 1 with (fail)
  rw [HW.out]
  go_upto_region 4 with (first
    | ((with_reducible refine wpList_plain (o := ⟨some 21, Op.load 37 _, _, _, _, _⟩) rfl fun K hK => ?_); (refine wp_load_msg (g := w.heap.size) (m := m) (s := s) rfl rfl HO.out (hK _ _ ?_)))
    | (go_at_call 43; refine hR.mono ?_; rintro e w2 ⟨rfl, hb2⟩))
  have hbA := below_next hb hb2
  have HO2 := Lib.hid (HO.out.of_new hb2)
  have e0 := HO2.out.kind
  have hs2 := hb2.size
  clear hR hb2
  go_upto_region 5 with (first | (go_at_call 44; refine (HH.out _).mono ?_; rintro e w3 ⟨rfl, rfl⟩; unfold HasV))
  clear HH
  go_upto_region 6 with (first
    | (go_at_call 45; refine (HN.out _ _).mono ?_; rintro e w4 ⟨v4, rfl, hv4, hb4⟩; obtain ⟨a4, c4, hv⟩ := hv4.bytes.len; subst hv; have HV4 := Lib.hid hv4; have HB4 := Lib.hid hb4; have hs4 := hb4.size; clear hv4 hb4))
  generalize hW5 : w4.alloc _ = W5
  obtain ⟨hown, hb5, hs5⟩ : OwnIt W5 W.heap.size (.slice (some ⟨w4.heap.size, 0, none⟩) 1 1) [((1, uint (u64L m.kind)), .slice a4 (uint (u64L m.kind)).length c4)] ∧ Below w4.heap.size w4 W5 ∧ w4.heap.size < W5.heap.size := by
    subst hW5
    exact ⟨ownIt_one w4 W.heap.size 1 _ _ (by omega) HV4.out.bytes (fun k hk => (HV4.out.lt k hk).2), (Below.refl _ _).alloc (Nat.le_refl _) _, by simp⟩
  have HW5 := Lib.hid hown
  have hbB := below_next (below_next hbA HB4.out) hb5
  have HO5 := Lib.hid ((HO2.out.of_new HB4.out).of_new hb5)
  have hln : ([((1, uint (u64L m.kind)), .slice a4 (uint (u64L m.kind)).length c4)] : List ItV).length = 1 := rfl
  clear hW5 hown hb5 e0 hbA HB4 HO2 HV4
  obtain ⟨L1, hL1⟩ : ∃ L : List ItV, [((1, uint (u64L m.kind)), .slice a4 (uint (u64L m.kind)).length c4)] = L := ⟨_, rfl⟩
  rw [hL1] at HW5
  have HLN1 := Lib.hid (show L1.length = 1 by rw [← hL1]; simp)
  have hmp1 : L1.map (·.1) = [((1 : Int), uint (u64L m.kind))] := by rw [← hL1]; rfl
  have HMP1 := Lib.hid hmp1
  clear hL1 hmp1
  clear hln
  have hcW := hbB.size
  have hms := HO5.out.lt
  have hd1 := HO5.out.hash
  have HD1 := Lib.hid hd1
  clear hd1
  have HOx := HW5
  go_upto_region 8 with (first
    | ((with_reducible refine wpList_plain (o := ⟨some 47, _, _, _, _, _⟩) rfl fun K hK => ?_); refine wp_appIt (.tmp 42) (.tmp 46) rfl W.heap.size _ L1 ((2, m.hash), .slice (some ⟨w.heap.size, 1, none⟩) 32 32) W5.heap.size rfl (HOx.out.of_new ((Below.refl _ W5).alloc (Nat.le_refl _) _)) rfl (Bytes.of_new (HD1.out.bytes) ((Below.refl _ W5).alloc (Nat.le_refl _) _)) (it_apart2 HOx.out (Nat.le_refl _) (fun k hk => .inl (by cases hk; exact ⟨hls, hms⟩))) (heap_alloc_new W5 _) (by have := HLN1.out; omega) (by simp; omega) ?_; intro v7 w7 ho7 hg7 hn7; refine hK _ _ ?_; obtain ⟨a7, c7, hv0⟩ := ho7.len; have hv7 : v7 = .slice a7 2 c7 := (by rw [hv0, List.length_append, HLN1.out]; rfl); clear hv0; subst hv7; have HW7 := Lib.hid ho7; have HG7 := Lib.hid hg7; clear ho7 hg7 hn7 hK))
  have hgw7 : Below W5.heap.size W5 w7 ∨ True := .inr trivial
  clear hgw7
  have hB7 : Below w.heap.size w w7 := (hbB.alloc hbB.size _).grown HG7.out (by simp; have := hbB.size; omega) (fun j hj => by have := (HOx.out.lt j hj).1; omega)
  have HM7 := Lib.hid (HO5.out.of_block (w' := w7) ((HG7.out.block _ (by simp; have := HO5.out.lt; omega) (fun e => by have := (HOx.out.lt _ e.symm).1; omega)).trans (Below.heap_alloc _ _ _ HO5.out.lt)))
  have hsz7 := HG7.out.size
  rw [World.size_alloc] at hsz7
  clear hcW hms HOx
  obtain ⟨L2, hL2⟩ : ∃ L : List ItV, L1 ++ [((2, m.hash), .slice (some ⟨w.heap.size, 1, none⟩) 32 32)] = L := ⟨_, rfl⟩
  rw [hL2] at HW7
  have HLN2 := Lib.hid (show L2.length = 2 by rw [← hL2, List.length_append, HLN1.out]; rfl)
  have hmp2 : L2.map (·.1) = [((1 : Int), uint (u64L m.kind)), ((2 : Int), m.hash)] := by rw [← hL2]; rw [List.map_append, HMP1.out]; rfl
  have HMP2 := Lib.hid hmp2
  clear hL2 hmp2
  have hcW := hB7.size
  have hms := HM7.out.lt
  have e8 := HM7.out.seed
  rw [hsd] at e8
  have HOy := HW7
  go_upto_region 41 with (first
    | (go_at_call 45; refine (HN.out _ _).mono ?_; rintro e wy ⟨vy, rfl, hvy, hby⟩; obtain ⟨ay, cy, hv⟩ := hvy.bytes.len; subst hv; have HVY := Lib.hid hvy; have HBY := Lib.hid hby; have hsy := hby.size; have HOx := Lib.hid (HOy.out.of_new hby); clear hvy hby)
    | ((with_reducible refine wpList_plain (o := ⟨some 146, _, _, _, _, _⟩) rfl fun K hK => ?_); refine wp_appIt (.tmp 141) (.tmp 145) rfl W.heap.size _ L2 ((8, uint (u64L 1)), .slice ay (uint (u64L 1)).length cy) wy.heap.size rfl (HOx.out.of_new ((Below.refl _ wy).alloc (Nat.le_refl _) _)) rfl (Bytes.of_new (HVY.out.bytes) ((Below.refl _ wy).alloc (Nat.le_refl _) _)) (it_apart2 HOy.out hsy (fun k hk => .inr ⟨(HVY.out.lt k hk).1, (HVY.out.lt k hk).2⟩)) (heap_alloc_new wy _) (by have := HLN2.out; omega) (by simp; omega) ?_; intro v8 w8 ho8 hg8 hn8; refine hK _ _ ?_; obtain ⟨a8, c8, hv0⟩ := ho8.len; have hv8 : v8 = .slice a8 3 c8 := (by rw [hv0, List.length_append, HLN2.out]; rfl); clear hv0; subst hv8; have HW8 := Lib.hid ho8; have HG8 := Lib.hid hg8; clear ho8 hg8 hn8 hK))
  have hgw8 : Below wy.heap.size wy w8 ∨ True := .inr trivial
  clear hgw8
  have hB8 : Below w.heap.size w w8 := ((below_next hB7 HBY.out).alloc (below_next hB7 HBY.out).size _).grown HG8.out (by simp; have := (below_next hB7 HBY.out).size; omega) (fun j hj => by have := (HOx.out.lt j hj).1; omega)
  have HM8 := Lib.hid ((HM7.out.of_new HBY.out).of_block (w' := w8) ((HG8.out.block _ (by simp; have := (HM7.out.of_new HBY.out).lt; omega) (fun e => by have := (HOx.out.lt _ e.symm).1; omega)).trans (Below.heap_alloc _ _ _ (HM7.out.of_new HBY.out).lt)))
  have hsz8 := HG8.out.size
  rw [World.size_alloc] at hsz8
  clear hcW hms HOx
  obtain ⟨L3, hL3⟩ : ∃ L : List ItV, L2 ++ [((8, uint (u64L 1)), .slice ay (uint (u64L 1)).length cy)] = L := ⟨_, rfl⟩
  rw [hL3] at HW8
  have HLN3 := Lib.hid (show L3.length = 3 by rw [← hL3, List.length_append, HLN2.out]; rfl)
  have hmp3 : L3.map (·.1) = [((1 : Int), uint (u64L m.kind)), ((2 : Int), m.hash), ((8 : Int), uint (u64L 1))] := by rw [← hL3]; rw [List.map_append, HMP2.out]; rfl
  have HMP3 := Lib.hid hmp3
  clear hL3 hmp3
  have hI := HW8.out.items
  rw [HMP3.out] at hI
  have hEn := refEncode_any _ _ w8 hI
  rcases hen : rencL [((1 : Int), uint (u64L m.kind)), ((2 : Int), m.hash), ((8 : Int), uint (u64L 1))] with _ | c
  · rw [hen] at hEn
    have HEN := Lib.hid hen
    clear hI hen
    go_upto_region 41 with (fail)
    go_wp2_with fail
    refine hEn.mono ?_
    rintro e w4 ⟨hb4, v4, rfl⟩
    clear hEn
    go_wp2
    go_ret2
    exact enc_none HEN.out (below_next hB8 hb4)
  · rw [hen] at hEn
    have HEN := Lib.hid hen
    clear hI hen
    go_upto_region 41 with (fail)
    go_wp2_with fail
    refine hEn.mono ?_
    rintro e w4 ⟨hb4, v4, rfl, ho4⟩
    clear hEn
    have HO4 := Lib.hid (ho4.mono hB8.size)
    clear ho4
    go_wp2
    go_ret2
    exact enc_some HEN.out (below_next hB8 hb4) HO4.out

set_option maxHeartbeats 6400000 in
theorem REnc_E (m : MsgL) (s : MsgS) (w : World) (hm : MsgR w m s) (hr : wrightB m = true) (hF : rhasL m.kind = (true, false, true, 0, false, false, false)) :
    Calls Tryz.prog 14 #[MsgV m s] w (EncPost w (rencL (ritemsM m))) := by
  obtain ⟨i0, hi, hz0, hz1, hz2⟩ := info_parts infoU8
  obtain ⟨W, hW, ho, hb⟩ := msg_boxed w (s := s) hm.hash
  rw [show MsgV m s = .agg (msgCells m s).toArray from rfl]
  have hR := WRRight_any m s W (hm.of_new hb)
  rw [rrightB_eq, hr] at hR
  have hH := fun w' => RHas_any m.kind w'
  rw [hF] at hH
  have hits : ritemsM m = [(1, uint (u64L m.kind)), (2, m.hash), (4, uintsL m.ids)] := by unfold ritemsM; rw [hF]; simp
  rw [hits]
  have hls := ho.lt
  have hsW := hb.size
  obtain ⟨hi1, hp1, hm1⟩ := right_few hr
  have hN := fun n w' => num_any n w'
  have HM := Lib.hid hm
  have HO := Lib.hid ho
  have HW := Lib.hid hW
  have HH := Lib.hid hH
  have HN := Lib.hid hN
  clear hW hm ho hH hN hits hF hr
  go_enter Tryz.func14, Tryz.ntmps14
  go_upto_region 1 with (fail)
  rw [HW.out]
  go_upto_region 4 with (first
    | ((with_reducible refine wpList_plain (o := ⟨some 21, Op.load 37 _, _, _, _, _⟩) rfl fun K hK => ?_); (refine wp_load_msg (g := w.heap.size) (m := m) (s := s) rfl rfl HO.out (hK _ _ ?_)))
    | (go_at_call 43; refine hR.mono ?_; rintro e w2 ⟨rfl, hb2⟩))
  have hbA := below_next hb hb2
  have HO2 := Lib.hid (HO.out.of_new hb2)
  have e0 := HO2.out.kind
  have hs2 := hb2.size
  clear hR hb2
  go_upto_region 5 with (first | (go_at_call 44; refine (HH.out _).mono ?_; rintro e w3 ⟨rfl, rfl⟩; unfold HasV))
  clear HH
  go_upto_region 6 with (first
    | (go_at_call 45; refine (HN.out _ _).mono ?_; rintro e w4 ⟨v4, rfl, hv4, hb4⟩; obtain ⟨a4, c4, hv⟩ := hv4.bytes.len; subst hv; have HV4 := Lib.hid hv4; have HB4 := Lib.hid hb4; have hs4 := hb4.size; clear hv4 hb4))
  generalize hW5 : w4.alloc _ = W5
  obtain ⟨hown, hb5, hs5⟩ : OwnIt W5 W.heap.size (.slice (some ⟨w4.heap.size, 0, none⟩) 1 1) [((1, uint (u64L m.kind)), .slice a4 (uint (u64L m.kind)).length c4)] ∧ Below w4.heap.size w4 W5 ∧ w4.heap.size < W5.heap.size := by
    subst hW5
    exact ⟨ownIt_one w4 W.heap.size 1 _ _ (by omega) HV4.out.bytes (fun k hk => (HV4.out.lt k hk).2), (Below.refl _ _).alloc (Nat.le_refl _) _, by simp⟩
  have HW5 := Lib.hid hown
  have hbB := below_next (below_next hbA HB4.out) hb5
  have HO5 := Lib.hid ((HO2.out.of_new HB4.out).of_new hb5)
  have hln : ([((1, uint (u64L m.kind)), .slice a4 (uint (u64L m.kind)).length c4)] : List ItV).length = 1 := rfl
  clear hW5 hown hb5 e0 hbA HB4 HO2 HV4
  obtain ⟨L1, hL1⟩ : ∃ L : List ItV, [((1, uint (u64L m.kind)), .slice a4 (uint (u64L m.kind)).length c4)] = L := ⟨_, rfl⟩
  rw [hL1] at HW5
  have HLN1 := Lib.hid (show L1.length = 1 by rw [← hL1]; simp)
  have hmp1 : L1.map (·.1) = [((1 : Int), uint (u64L m.kind))] := by rw [← hL1]; rfl
  have HMP1 := Lib.hid hmp1
  clear hL1 hmp1
  clear hln
  have hcW := hbB.size
  have hms := HO5.out.lt
  have hd1 := HO5.out.hash
  have HD1 := Lib.hid hd1
  clear hd1
  have HOx := HW5
  go_upto_region 8 with (first
    | ((with_reducible refine wpList_plain (o := ⟨some 47, _, _, _, _, _⟩) rfl fun K hK => ?_); refine wp_appIt (.tmp 42) (.tmp 46) rfl W.heap.size _ L1 ((2, m.hash), .slice (some ⟨w.heap.size, 1, none⟩) 32 32) W5.heap.size rfl (HOx.out.of_new ((Below.refl _ W5).alloc (Nat.le_refl _) _)) rfl (Bytes.of_new (HD1.out.bytes) ((Below.refl _ W5).alloc (Nat.le_refl _) _)) (it_apart2 HOx.out (Nat.le_refl _) (fun k hk => .inl (by cases hk; exact ⟨hls, hms⟩))) (heap_alloc_new W5 _) (by have := HLN1.out; omega) (by simp; omega) ?_; intro v7 w7 ho7 hg7 hn7; refine hK _ _ ?_; obtain ⟨a7, c7, hv0⟩ := ho7.len; have hv7 : v7 = .slice a7 2 c7 := (by rw [hv0, List.length_append, HLN1.out]; rfl); clear hv0; subst hv7; have HW7 := Lib.hid ho7; have HG7 := Lib.hid hg7; clear ho7 hg7 hn7 hK))
  have hgw7 : Below W5.heap.size W5 w7 ∨ True := .inr trivial
  clear hgw7
  have hB7 : Below w.heap.size w w7 := (hbB.alloc hbB.size _).grown HG7.out (by simp; have := hbB.size; omega) (fun j hj => by have := (HOx.out.lt j hj).1; omega)
  have HM7 := Lib.hid (HO5.out.of_block (w' := w7) ((HG7.out.block _ (by simp; have := HO5.out.lt; omega) (fun e => by have := (HOx.out.lt _ e.symm).1; omega)).trans (Below.heap_alloc _ _ _ HO5.out.lt)))
  have hsz7 := HG7.out.size
  rw [World.size_alloc] at hsz7
  clear hcW hms HOx
  obtain ⟨L2, hL2⟩ : ∃ L : List ItV, L1 ++ [((2, m.hash), .slice (some ⟨w.heap.size, 1, none⟩) 32 32)] = L := ⟨_, rfl⟩
  rw [hL2] at HW7
  have HLN2 := Lib.hid (show L2.length = 2 by rw [← hL2, List.length_append, HLN1.out]; rfl)
  have hmp2 : L2.map (·.1) = [((1 : Int), uint (u64L m.kind)), ((2 : Int), m.hash)] := by rw [← hL2]; rw [List.map_append, HMP1.out]; rfl
  have HMP2 := Lib.hid hmp2
  clear hL2 hmp2
  have hcW := hB7.size
  have hms := HM7.out.lt
  have e4 := HM7.out.ids
  have hii := HM.out.ids
  obtain ⟨ai, ci, hvi⟩ := hii.len
  rw [hvi] at e4 hii
  have HI := Lib.hid (hii.of_new hB7)
  have E4 := Lib.hid e4
  clear hvi hii e4
  go_wp2
  go_loopw [13, 14] (fun ov iv W' => ∃ k : Nat, k ≤ m.ids.length ∧ iv = .int .i64 k ∧ Own8 W' w7.heap.size 5 ov (uintsL (m.ids.take k)) ∧ Below w7.heap.size w7 W') (fun _ iv _ => m.ids.length - (intOf iv).toNat)
  case atStart => exact ⟨0, Nat.zero_le _, rfl, Own8.nil _ _ _, Below.refl _ _⟩
  case round =>
    obtain ⟨k, hk, rfl, ho, hbr⟩ := hrel
    have e4 := (hbr.cell (p := ⟨w.heap.size, 34, none⟩) hms).trans E4.out
    obtain ⟨oa, oc, hv⟩ := ho.bytes.len
    subst hv
    have hol := uintsL_len (m.ids.take k)
    rw [List.length_take] at hol
    have hsz := hbr.size
    by_cases hlt : k < m.ids.length
    · obtain ⟨b, off, c', hv, hbl, hc⟩ := HI.out.cell (by omega)
      obtain ⟨rfl, rfl⟩ : ai = some ⟨b, off, none⟩ ∧ ci = c' := by cases hv; exact ⟨rfl, rfl⟩
      replace hc := (hbr.cell (p := ⟨b, off + k, none⟩) hbl).trans (hc k hlt)
      have hst := uintsL_take hlt
      generalize m.ids.getD k 0 = y at *
      generalize uintsL (m.ids.take k) = out at *
      have h10 := uint_len10 (u64L_lt y)
      have HOO := Lib.hid ho
      have HST := Lib.hid hst
      clear hv ho hst
      go_wp2_with (first
        | (go_at_call 45; refine (HN.out _ _).mono ?_; rintro e wp ⟨vp, rfl, hop, hbp⟩; obtain ⟨a2, c2, hv2⟩ := hop.bytes.len; subst hv2; have HOP := Lib.hid hop; have HBP := Lib.hid hbp; have hsp := hbp.size; clear hop hbp)
        | (at_builtin; refine wpList_app8 rfl (.tmp 64) (.tmp 70) 33 rfl w7.heap.size 5 i0 Tryz.underlying33 hi hz0 hz1 hz2 _ out rfl (HOO.out.new HBP.out) _ (uint (u64L y)) rfl HOP.out.bytes (by omega) (by omega) ?_; intro v3 w3 ho3 hg3 hn3; obtain ⟨a3, c3, hv3⟩ := ho3.bytes.len; subst hv3; have HO3 := Lib.hid ho3; have HG3 := Lib.hid hg3; clear ho3 hg3 hn3))
      go_roundw
      case rel =>
        refine ⟨k + 1, by omega, by go_num, ?_, (below_next hbr HBP.out).grown HG3.out (by omega) (fun j hj => (HOO.out.lt j hj).1)⟩
        rw [HST.out]
        have h := HO3.out
        rw [List.length_append] at h
        exact h
      case measure => simp [intOf]; omega
    · obtain ⟨out, hout⟩ : ∃ out, uintsL (m.ids.take k) = out := ⟨_, rfl⟩
      rw [hout] at ho ⊢
      rw [List.take_of_length_le (by omega)] at hout
      have HOUT := Lib.hid hout
      have HOO := Lib.hid ho
      have HOx := Lib.hid (HW7.out.of_new hbr)
      have hbW := below_next hB7 hbr
      have HOm := Lib.hid (HM7.out.of_new hbr)
      clear ho hout hol
      have HOy := HW7
      go_upto_region 17 with (first
        | ((with_reducible refine wpList_plain (o := ⟨some 76, _, _, _, _, _⟩) rfl fun K hK => ?_); refine wp_appIt (.tmp 72) (.tmp 75) rfl W.heap.size _ L2 ((4, uintsL m.ids), .slice oa out.length oc) wr.heap.size rfl (HOx.out.of_new ((Below.refl _ wr).alloc (Nat.le_refl _) _)) rfl (Bytes.of_new ((HOUT.out ▸ HOO.out.bytes : Bytes wr (.slice oa out.length oc) (uintsL m.ids))) ((Below.refl _ wr).alloc (Nat.le_refl _) _)) (it_apart2 HOy.out hsz (fun k hk => .inr ⟨(HOO.out.lt k hk).1, (HOO.out.lt k hk).2⟩)) (heap_alloc_new wr _) (by have := HLN2.out; omega) (by simp; omega) ?_; intro v8 w8 ho8 hg8 hn8; refine hK _ _ ?_; obtain ⟨a8, c8, hv0⟩ := ho8.len; have hv8 : v8 = .slice a8 3 c8 := (by rw [hv0, List.length_append, HLN2.out]; rfl); clear hv0; subst hv8; have HW8 := Lib.hid ho8; have HG8 := Lib.hid hg8; clear ho8 hg8 hn8 hK))
      have hgw8 : Below wr.heap.size wr w8 ∨ True := .inr trivial
      clear hgw8
      have hB8 : Below w.heap.size w w8 := (hbW.alloc hbW.size _).grown HG8.out (by simp; have := hbW.size; omega) (fun j hj => by have := (HOx.out.lt j hj).1; omega)
      have HM8 := Lib.hid (HOm.out.of_block (w' := w8) ((HG8.out.block _ (by simp; have := HOm.out.lt; omega) (fun e => by have := (HOx.out.lt _ e.symm).1; omega)).trans (Below.heap_alloc _ _ _ HOm.out.lt)))
      have hsz8 := HG8.out.size
      rw [World.size_alloc] at hsz8
      clear hcW hms HOx
      obtain ⟨L3, hL3⟩ : ∃ L : List ItV, L2 ++ [((4, uintsL m.ids), .slice oa out.length oc)] = L := ⟨_, rfl⟩
      rw [hL3] at HW8
      have HLN3 := Lib.hid (show L3.length = 3 by rw [← hL3, List.length_append, HLN2.out]; rfl)
      have hmp3 : L3.map (·.1) = [((1 : Int), uint (u64L m.kind)), ((2 : Int), m.hash), ((4 : Int), uintsL m.ids)] := by rw [← hL3]; rw [List.map_append, HMP2.out]; rfl
      have HMP3 := Lib.hid hmp3
      clear hL3 hmp3
      have hI := HW8.out.items
      rw [HMP3.out] at hI
      have hEn := refEncode_any _ _ w8 hI
      rcases hen : rencL [((1 : Int), uint (u64L m.kind)), ((2 : Int), m.hash), ((4 : Int), uintsL m.ids)] with _ | c
      · rw [hen] at hEn
        have HEN := Lib.hid hen
        clear hI hen
        go_upto_region 41 with (fail)
        go_wp2_with fail
        refine hEn.mono ?_
        rintro e w4 ⟨hb4, v4, rfl⟩
        clear hEn
        go_wp2
        go_ret2
        exact enc_none HEN.out (below_next hB8 hb4)
      · rw [hen] at hEn
        have HEN := Lib.hid hen
        clear hI hen
        go_upto_region 41 with (fail)
        go_wp2_with fail
        refine hEn.mono ?_
        rintro e w4 ⟨hb4, v4, rfl, ho4⟩
        clear hEn
        have HO4 := Lib.hid (ho4.mono hB8.size)
        clear ho4
        go_wp2
        go_ret2
        exact enc_some HEN.out (below_next hB8 hb4) HO4.out

set_option maxHeartbeats 6400000 in
theorem REnc_G (m : MsgL) (s : MsgS) (w : World) (hm : MsgR w m s) (hr : wrightB m = true) (hF : rhasL m.kind = (false, false, false, 0, false, true, false)) :
    Calls Tryz.prog 14 #[MsgV m s] w (EncPost w (rencL (ritemsM m))) := by
  obtain ⟨i0, hi, hz0, hz1, hz2⟩ := info_parts infoU8
  obtain ⟨W, hW, ho, hb⟩ := msg_boxed w (s := s) hm.hash
  rw [show MsgV m s = .agg (msgCells m s).toArray from rfl]
  have hR := WRRight_any m s W (hm.of_new hb)
  rw [rrightB_eq, hr] at hR
  have hH := fun w' => RHas_any m.kind w'
  rw [hF] at hH
  have hits : ritemsM m = [(1, uint (u64L m.kind)), (7, m.members.flatMap memU)] := by unfold ritemsM; rw [hF]; simp
  rw [hits]
  have hls := ho.lt
  have hsW := hb.size
  obtain ⟨hi1, hp1, hm1⟩ := right_few hr
  have hN := fun n w' => num_any n w'
  have HM := Lib.hid hm
  have HO := Lib.hid ho
  have HW := Lib.hid hW
  have HH := Lib.hid hH
  have HN := Lib.hid hN
  clear hW hm ho hH hN hits hF hr
  go_enter Tryz.func14, Tryz.ntmps14
  go_upto_region 1 with (fail)
  rw [HW.out]
  go_upto_region 4 with (first
    | ((with_reducible refine wpList_plain (o := ⟨some 21, Op.load 37 _, _, _, _, _⟩) rfl fun K hK => ?_); (refine wp_load_msg (g := w.heap.size) (m := m) (s := s) rfl rfl HO.out (hK _ _ ?_)))
    | (go_at_call 43; refine hR.mono ?_; rintro e w2 ⟨rfl, hb2⟩))
  have hbA := below_next hb hb2
  have HO2 := Lib.hid (HO.out.of_new hb2)
  have e0 := HO2.out.kind
  have hs2 := hb2.size
  clear hR hb2
  go_upto_region 5 with (first | (go_at_call 44; refine (HH.out _).mono ?_; rintro e w3 ⟨rfl, rfl⟩; unfold HasV))
  clear HH
  go_upto_region 6 with (first
    | (go_at_call 45; refine (HN.out _ _).mono ?_; rintro e w4 ⟨v4, rfl, hv4, hb4⟩; obtain ⟨a4, c4, hv⟩ := hv4.bytes.len; subst hv; have HV4 := Lib.hid hv4; have HB4 := Lib.hid hb4; have hs4 := hb4.size; clear hv4 hb4))
  generalize hW5 : w4.alloc _ = W5
  obtain ⟨hown, hb5, hs5⟩ : OwnIt W5 W.heap.size (.slice (some ⟨w4.heap.size, 0, none⟩) 1 1) [((1, uint (u64L m.kind)), .slice a4 (uint (u64L m.kind)).length c4)] ∧ Below w4.heap.size w4 W5 ∧ w4.heap.size < W5.heap.size := by
    subst hW5
    exact ⟨ownIt_one w4 W.heap.size 1 _ _ (by omega) HV4.out.bytes (fun k hk => (HV4.out.lt k hk).2), (Below.refl _ _).alloc (Nat.le_refl _) _, by simp⟩
  have HW5 := Lib.hid hown
  have hbB := below_next (below_next hbA HB4.out) hb5
  have HO5 := Lib.hid ((HO2.out.of_new HB4.out).of_new hb5)
  have hln : ([((1, uint (u64L m.kind)), .slice a4 (uint (u64L m.kind)).length c4)] : List ItV).length = 1 := rfl
  clear hW5 hown hb5 e0 hbA HB4 HO2 HV4
  obtain ⟨L1, hL1⟩ : ∃ L : List ItV, [((1, uint (u64L m.kind)), .slice a4 (uint (u64L m.kind)).length c4)] = L := ⟨_, rfl⟩
  rw [hL1] at HW5
  have HLN1 := Lib.hid (show L1.length = 1 by rw [← hL1]; simp)
  have hmp1 : L1.map (·.1) = [((1 : Int), uint (u64L m.kind))] := by rw [← hL1]; rfl
  have HMP1 := Lib.hid hmp1
  clear hL1 hmp1
  clear hln
  have hcW := hbB.size
  have hms := HO5.out.lt
  have e7 := HO5.out.members
  have hme := HM.out.members
  obtain ⟨am, cm, hvm⟩ := hme.len
  rw [hvm] at e7 hme
  have HMM := Lib.hid (hme.of_new hbB)
  have E7 := Lib.hid e7
  clear hvm hme e7
  go_wp2
  go_loopw [17, 18, 19] (fun ov iv _ W' => ∃ k : Nat, k ≤ m.members.length ∧ iv = .int .i64 k ∧ Own8 W' W5.heap.size 5 ov ((m.members.take k).flatMap memU) ∧ Below W5.heap.size W5 W') (fun _ iv _ _ => m.members.length - (intOf iv).toNat)
  case atStart => exact ⟨0, Nat.zero_le _, rfl, Own8.nil _ _ _, Below.refl _ _⟩
  case round =>
    obtain ⟨k, hk, rfl, ho, hbr⟩ := hrel
    have e7 := (hbr.cell (p := ⟨w.heap.size, 37, none⟩) hms).trans E7.out
    obtain ⟨oa, oc, hv⟩ := ho.bytes.len
    subst hv
    have hol := memU_len (m.members.take k)
    rw [List.length_take] at hol
    have hsz := hbr.size
    by_cases hlt : k < m.members.length
    · obtain ⟨pb, poff, pc, hv, hpbl, hcell⟩ := HMM.out.cell (by omega)
      obtain ⟨rfl, rfl⟩ : am = some ⟨pb, poff, none⟩ ∧ cm = pc := by cases hv; exact ⟨rfl, rfl⟩
      obtain ⟨d0, d1, d2, d3⟩ := (hcell k hlt).of_new hbr
      have hst := memU_take hlt
      generalize m.members.getD k mem0 = x at *
      have hol2 : ((m.members.take k).flatMap memU).length ≤ 30000 := by omega
      clear hol
      generalize (m.members.take k).flatMap memU = out at *
      have hmu : memU x = uint (u64L x.id) ++ uint (u64L x.inc) ++ uint (u64L x.state) := by simp [memU, uintsL]
      rw [hmu, ← List.append_assoc, ← List.append_assoc] at hst
      have u1 := uint_len10 (u64L_lt x.id)
      have u2 := uint_len10 (u64L_lt x.inc)
      have u3 := uint_len10 (u64L_lt x.state)
      have HOO := Lib.hid ho
      have HST := Lib.hid hst
      clear hv ho hst hcell hmu
      go_upto_region 32 with (fail)
      generalize hWa : wr.alloc _ = wa
      obtain ⟨hma, hba, hsa⟩ : MemAt wa wr.heap.size 0 x ∧ Below wr.heap.size wr wa ∧ wr.heap.size < wa.heap.size := by
        subst hWa
        exact ⟨memAt_new wr x, (Below.refl _ _).alloc (Nat.le_refl _) _, by simp⟩
      obtain ⟨f0, f1, f2, f3⟩ := hma
      have HOa := Lib.hid (HOO.out.new hba)
      have hbra := below_next hbr hba
      clear hWa d0 d1 d2 d3 e7
      go_upto_region 33 with (first
        | (go_at_call 45; refine (HN.out _ _).mono ?_; rintro e wp ⟨vp, rfl, hop, hbp⟩; obtain ⟨a2, c2, hv2⟩ := hop.bytes.len; subst hv2; have HOP := Lib.hid hop; have HBP := Lib.hid hbp; have hsp := hbp.size; clear hop hbp)
        | (at_builtin; refine wpList_app8 rfl (.tmp 118) (.tmp 121) 33 rfl W5.heap.size 5 i0 Tryz.underlying33 hi hz0 hz1 hz2 _ out rfl (HOa.out.new HBP.out) _ (uint (u64L x.id)) rfl HOP.out.bytes (by omega) (by omega) ?_; intro v3 w3 ho3 hg3 hn3; obtain ⟨a3, c3, hv3⟩ := ho3.bytes.len; rw [List.length_append] at hv3; subst hv3; have HO3 := Lib.hid ho3; have HG3 := Lib.hid hg3; have hs3 := hg3.size; have HN3 := Lib.hid hn3; clear ho3 hg3 hn3))
      have hk3 : ∀ (o : Nat) (u : Value), wa.cell? ⟨wr.heap.size, o, none⟩ = some u → w3.cell? ⟨wr.heap.size, o, none⟩ = some u := fun o u h => grownBy.cell_of HG3.out (Grew.cell HBP.out h) (fun j hj => by have := (HOO.out.lt j hj).2; exact Nat.ne_of_lt this)
      have g1 := hk3 _ _ f1
      have g2 := hk3 _ _ f2
      have hb3 := (below_next hbra HBP.out).grown HG3.out (by omega) (fun j hj => (HOO.out.lt j hj).1)
      have hl3 := HO3.out.lt
      have HL3 := Lib.hid hl3
      have hnw3 : ∀ j, (Value.slice a3 (out.length + (uint (u64L x.id)).length) c3).ownBlock = some j → j ≠ wr.heap.size := fun j hj => by
        rcases HN3.out j hj with h | h
        · have := (HOO.out.lt j h).2; omega
        · omega
      have HNW3 := Lib.hid hnw3
      clear hk3 f0 f1 f2 f3 hl3 hnw3
      go_upto_region 34 with (first
        | (go_at_call 45; refine (HN.out _ _).mono ?_; rintro e wp2 ⟨vp, rfl, hop, hbp⟩; obtain ⟨a2, c2, hv2⟩ := hop.bytes.len; subst hv2; have HOP2 := Lib.hid hop; have HBP2 := Lib.hid hbp; have hsp2 := hbp.size; clear hop hbp)
        | (at_builtin; refine wpList_app8 rfl (.tmp 123) (.tmp 126) 33 rfl W5.heap.size 5 i0 Tryz.underlying33 hi hz0 hz1 hz2 _ (out ++ uint (u64L x.id)) rfl (HO3.out.new HBP2.out) _ (uint (u64L x.inc)) rfl HOP2.out.bytes (by simp; omega) (by omega) ?_; intro v4 w4x ho4 hg4 hn4; obtain ⟨a4x, c4x, hv4⟩ := ho4.bytes.len; rw [List.length_append, List.length_append] at hv4; subst hv4; have HO4 := Lib.hid ho4; have HG4 := Lib.hid hg4; have hs4x := hg4.size; clear ho4 hg4 hn4))
      have g2' : w4x.cell? ⟨wr.heap.size, 2, none⟩ = some (.int .i64 x.state) := grownBy.cell_of HG4.out (Grew.cell HBP2.out g2) (fun j hj => HNW3.out j hj)
      have hb4 := (below_next hb3 HBP2.out).grown HG4.out (by omega) (fun j hj => (HO3.out.lt j hj).1)
      clear g1 g2
      go_wp2_with (first
        | (go_at_call 45; refine (HN.out _ _).mono ?_; rintro e wp3 ⟨vp, rfl, hop, hbp⟩; obtain ⟨a2, c2, hv2⟩ := hop.bytes.len; subst hv2; have HOP3 := Lib.hid hop; have HBP3 := Lib.hid hbp; have hsp3 := hbp.size; clear hop hbp)
        | (at_builtin; refine wpList_app8 rfl (.tmp 128) (.tmp 131) 33 rfl W5.heap.size 5 i0 Tryz.underlying33 hi hz0 hz1 hz2 _ (out ++ uint (u64L x.id) ++ uint (u64L x.inc)) rfl (HO4.out.new HBP3.out) _ (uint (u64L x.state)) rfl HOP3.out.bytes (by simp; omega) (by omega) ?_; intro v5 w5x ho5 hg5 hn5; obtain ⟨a5x, c5x, hv5⟩ := ho5.bytes.len; rw [List.length_append, List.length_append, List.length_append] at hv5; subst hv5; have HO5 := Lib.hid ho5; have HG5 := Lib.hid hg5; clear ho5 hg5 hn5))
      go_roundw
      case rel =>
        refine ⟨k + 1, by omega, by go_num, ?_, (below_next hb4 HBP3.out).grown HG5.out (by omega) (fun j hj => (HO4.out.lt j hj).1)⟩
        rw [HST.out]
        have h := HO5.out
        exact h
      case measure => simp [intOf]; omega
    · obtain ⟨out, hout⟩ : ∃ out, (m.members.take k).flatMap memU = out := ⟨_, rfl⟩
      rw [hout] at ho ⊢
      rw [List.take_of_length_le (by omega)] at hout
      have HOUT := Lib.hid hout
      have HOO := Lib.hid ho
      have HOx := Lib.hid (HW5.out.of_new hbr)
      have hbW := below_next hbB hbr
      have HOm := Lib.hid (HO5.out.of_new hbr)
      clear ho hout hol
      have HOy := HW5
      go_upto_region 36 with (first
        | ((with_reducible refine wpList_plain (o := ⟨some 137, _, _, _, _, _⟩) rfl fun K hK => ?_); refine wp_appIt (.tmp 133) (.tmp 136) rfl W.heap.size _ L1 ((7, m.members.flatMap memU), .slice oa out.length oc) wr.heap.size rfl (HOx.out.of_new ((Below.refl _ wr).alloc (Nat.le_refl _) _)) rfl (Bytes.of_new ((HOUT.out ▸ HOO.out.bytes : Bytes wr (.slice oa out.length oc) (m.members.flatMap memU))) ((Below.refl _ wr).alloc (Nat.le_refl _) _)) (it_apart2 HOy.out hsz (fun k hk => .inr ⟨(HOO.out.lt k hk).1, (HOO.out.lt k hk).2⟩)) (heap_alloc_new wr _) (by have := HLN1.out; omega) (by simp; omega) ?_; intro v7 w7 ho7 hg7 hn7; refine hK _ _ ?_; obtain ⟨a7, c7, hv0⟩ := ho7.len; have hv7 : v7 = .slice a7 2 c7 := (by rw [hv0, List.length_append, HLN1.out]; rfl); clear hv0; subst hv7; have HW7 := Lib.hid ho7; have HG7 := Lib.hid hg7; clear ho7 hg7 hn7 hK))
      have hgw7 : Below wr.heap.size wr w7 ∨ True := .inr trivial
      clear hgw7
      have hB7 : Below w.heap.size w w7 := (hbW.alloc hbW.size _).grown HG7.out (by simp; have := hbW.size; omega) (fun j hj => by have := (HOx.out.lt j hj).1; omega)
      have HM7 := Lib.hid (HOm.out.of_block (w' := w7) ((HG7.out.block _ (by simp; have := HOm.out.lt; omega) (fun e => by have := (HOx.out.lt _ e.symm).1; omega)).trans (Below.heap_alloc _ _ _ HOm.out.lt)))
      have hsz7 := HG7.out.size
      rw [World.size_alloc] at hsz7
      clear hcW hms HOx
      obtain ⟨L2, hL2⟩ : ∃ L : List ItV, L1 ++ [((7, m.members.flatMap memU), .slice oa out.length oc)] = L := ⟨_, rfl⟩
      rw [hL2] at HW7
      have HLN2 := Lib.hid (show L2.length = 2 by rw [← hL2, List.length_append, HLN1.out]; rfl)
      have hmp2 : L2.map (·.1) = [((1 : Int), uint (u64L m.kind)), ((7 : Int), m.members.flatMap memU)] := by rw [← hL2]; rw [List.map_append, HMP1.out]; rfl
      have HMP2 := Lib.hid hmp2
      clear hL2 hmp2
      have hI := HW7.out.items
      rw [HMP2.out] at hI
      have hEn := refEncode_any _ _ w7 hI
      rcases hen : rencL [((1 : Int), uint (u64L m.kind)), ((7 : Int), m.members.flatMap memU)] with _ | c
      · rw [hen] at hEn
        have HEN := Lib.hid hen
        clear hI hen
        go_upto_region 41 with (fail)
        go_wp2_with fail
        refine hEn.mono ?_
        rintro e w4 ⟨hb4, v4, rfl⟩
        clear hEn
        go_wp2
        go_ret2
        exact enc_none HEN.out (below_next hB7 hb4)
      · rw [hen] at hEn
        have HEN := Lib.hid hen
        clear hI hen
        go_upto_region 41 with (fail)
        go_wp2_with fail
        refine hEn.mono ?_
        rintro e w4 ⟨hb4, v4, rfl, ho4⟩
        clear hEn
        have HO4 := Lib.hid (ho4.mono hB7.size)
        clear ho4
        go_wp2
        go_ret2
        exact enc_some HEN.out (below_next hB7 hb4) HO4.out

set_option maxHeartbeats 6400000 in
theorem REnc_H (m : MsgL) (s : MsgS) (w : World) (hm : MsgR w m s) (hr : wrightB m = true) (hF : rhasL m.kind = (true, false, false, 0, false, false, false)) :
    Calls Tryz.prog 14 #[MsgV m s] w (EncPost w (rencL (ritemsM m))) := by
  obtain ⟨i0, hi, hz0, hz1, hz2⟩ := info_parts infoU8
  obtain ⟨W, hW, ho, hb⟩ := msg_boxed w (s := s) hm.hash
  rw [show MsgV m s = .agg (msgCells m s).toArray from rfl]
  have hR := WRRight_any m s W (hm.of_new hb)
  rw [rrightB_eq, hr] at hR
  have hH := fun w' => RHas_any m.kind w'
  rw [hF] at hH
  have hits : ritemsM m = [(1, uint (u64L m.kind)), (2, m.hash)] := by unfold ritemsM; rw [hF]; simp
  rw [hits]
  have hls := ho.lt
  have hsW := hb.size
  obtain ⟨hi1, hp1, hm1⟩ := right_few hr
  have hN := fun n w' => num_any n w'
  have HM := Lib.hid hm
  have HO := Lib.hid ho
  have HW := Lib.hid hW
  have HH := Lib.hid hH
  have HN := Lib.hid hN
  clear hW hm ho hH hN hits hF hr
  go_enter Tryz.func14, Tryz.ntmps14
  go_upto_region 1 with (fail)
  rw [HW.out]
  go_upto_region 4 with (first
    | ((with_reducible refine wpList_plain (o := ⟨some 21, Op.load 37 _, _, _, _, _⟩) rfl fun K hK => ?_); (refine wp_load_msg (g := w.heap.size) (m := m) (s := s) rfl rfl HO.out (hK _ _ ?_)))
    | (go_at_call 43; refine hR.mono ?_; rintro e w2 ⟨rfl, hb2⟩))
  have hbA := below_next hb hb2
  have HO2 := Lib.hid (HO.out.of_new hb2)
  have e0 := HO2.out.kind
  have hs2 := hb2.size
  clear hR hb2
  go_upto_region 5 with (first | (go_at_call 44; refine (HH.out _).mono ?_; rintro e w3 ⟨rfl, rfl⟩; unfold HasV))
  clear HH
  go_upto_region 6 with (first
    | (go_at_call 45; refine (HN.out _ _).mono ?_; rintro e w4 ⟨v4, rfl, hv4, hb4⟩; obtain ⟨a4, c4, hv⟩ := hv4.bytes.len; subst hv; have HV4 := Lib.hid hv4; have HB4 := Lib.hid hb4; have hs4 := hb4.size; clear hv4 hb4))
  generalize hW5 : w4.alloc _ = W5
  obtain ⟨hown, hb5, hs5⟩ : OwnIt W5 W.heap.size (.slice (some ⟨w4.heap.size, 0, none⟩) 1 1) [((1, uint (u64L m.kind)), .slice a4 (uint (u64L m.kind)).length c4)] ∧ Below w4.heap.size w4 W5 ∧ w4.heap.size < W5.heap.size := by
    subst hW5
    exact ⟨ownIt_one w4 W.heap.size 1 _ _ (by omega) HV4.out.bytes (fun k hk => (HV4.out.lt k hk).2), (Below.refl _ _).alloc (Nat.le_refl _) _, by simp⟩
  have HW5 := Lib.hid hown
  have hbB := below_next (below_next hbA HB4.out) hb5
  have HO5 := Lib.hid ((HO2.out.of_new HB4.out).of_new hb5)
  have hln : ([((1, uint (u64L m.kind)), .slice a4 (uint (u64L m.kind)).length c4)] : List ItV).length = 1 := rfl
  clear hW5 hown hb5 e0 hbA HB4 HO2 HV4
  obtain ⟨L1, hL1⟩ : ∃ L : List ItV, [((1, uint (u64L m.kind)), .slice a4 (uint (u64L m.kind)).length c4)] = L := ⟨_, rfl⟩
  rw [hL1] at HW5
  have HLN1 := Lib.hid (show L1.length = 1 by rw [← hL1]; simp)
  have hmp1 : L1.map (·.1) = [((1 : Int), uint (u64L m.kind))] := by rw [← hL1]; rfl
  have HMP1 := Lib.hid hmp1
  clear hL1 hmp1
  clear hln
  have hcW := hbB.size
  have hms := HO5.out.lt
  have hd1 := HO5.out.hash
  have HD1 := Lib.hid hd1
  clear hd1
  have HOx := HW5
  go_upto_region 8 with (first
    | ((with_reducible refine wpList_plain (o := ⟨some 47, _, _, _, _, _⟩) rfl fun K hK => ?_); refine wp_appIt (.tmp 42) (.tmp 46) rfl W.heap.size _ L1 ((2, m.hash), .slice (some ⟨w.heap.size, 1, none⟩) 32 32) W5.heap.size rfl (HOx.out.of_new ((Below.refl _ W5).alloc (Nat.le_refl _) _)) rfl (Bytes.of_new (HD1.out.bytes) ((Below.refl _ W5).alloc (Nat.le_refl _) _)) (it_apart2 HOx.out (Nat.le_refl _) (fun k hk => .inl (by cases hk; exact ⟨hls, hms⟩))) (heap_alloc_new W5 _) (by have := HLN1.out; omega) (by simp; omega) ?_; intro v7 w7 ho7 hg7 hn7; refine hK _ _ ?_; obtain ⟨a7, c7, hv0⟩ := ho7.len; have hv7 : v7 = .slice a7 2 c7 := (by rw [hv0, List.length_append, HLN1.out]; rfl); clear hv0; subst hv7; have HW7 := Lib.hid ho7; have HG7 := Lib.hid hg7; clear ho7 hg7 hn7 hK))
  have hgw7 : Below W5.heap.size W5 w7 ∨ True := .inr trivial
  clear hgw7
  have hB7 : Below w.heap.size w w7 := (hbB.alloc hbB.size _).grown HG7.out (by simp; have := hbB.size; omega) (fun j hj => by have := (HOx.out.lt j hj).1; omega)
  have HM7 := Lib.hid (HO5.out.of_block (w' := w7) ((HG7.out.block _ (by simp; have := HO5.out.lt; omega) (fun e => by have := (HOx.out.lt _ e.symm).1; omega)).trans (Below.heap_alloc _ _ _ HO5.out.lt)))
  have hsz7 := HG7.out.size
  rw [World.size_alloc] at hsz7
  clear hcW hms HOx
  obtain ⟨L2, hL2⟩ : ∃ L : List ItV, L1 ++ [((2, m.hash), .slice (some ⟨w.heap.size, 1, none⟩) 32 32)] = L := ⟨_, rfl⟩
  rw [hL2] at HW7
  have HLN2 := Lib.hid (show L2.length = 2 by rw [← hL2, List.length_append, HLN1.out]; rfl)
  have hmp2 : L2.map (·.1) = [((1 : Int), uint (u64L m.kind)), ((2 : Int), m.hash)] := by rw [← hL2]; rw [List.map_append, HMP1.out]; rfl
  have HMP2 := Lib.hid hmp2
  clear hL2 hmp2
  have hI := HW7.out.items
  rw [HMP2.out] at hI
  have hEn := refEncode_any _ _ w7 hI
  rcases hen : rencL [((1 : Int), uint (u64L m.kind)), ((2 : Int), m.hash)] with _ | c
  · rw [hen] at hEn
    have HEN := Lib.hid hen
    clear hI hen
    go_upto_region 41 with (fail)
    go_wp2_with fail
    refine hEn.mono ?_
    rintro e w4 ⟨hb4, v4, rfl⟩
    clear hEn
    go_wp2
    go_ret2
    exact enc_none HEN.out (below_next hB7 hb4)
  · rw [hen] at hEn
    have HEN := Lib.hid hen
    clear hI hen
    go_upto_region 41 with (fail)
    go_wp2_with fail
    refine hEn.mono ?_
    rintro e w4 ⟨hb4, v4, rfl, ho4⟩
    clear hEn
    have HO4 := Lib.hid (ho4.mono hB7.size)
    clear ho4
    go_wp2
    go_ret2
    exact enc_some HEN.out (below_next hB7 hb4) HO4.out

set_option maxHeartbeats 1600000 in
theorem REnc_no (m : MsgL) (s : MsgS) (w : World) (hm : MsgR w m s) (hr : wrightB m = false) :
    Calls Tryz.prog 14 #[MsgV m s] w (EncPost w none) := by
  obtain ⟨W, hW, ho, hb⟩ := msg_boxed w (s := s) hm.hash
  rw [show MsgV m s = .agg (msgCells m s).toArray from rfl]
  have hR := WRRight_any m s W (hm.of_new hb)
  rw [rrightB_eq, hr] at hR
  have HO := Lib.hid ho
  have HW := Lib.hid hW
  clear hW hm ho hr
  go_enter Tryz.func14, Tryz.ntmps14
  go_upto_region 1 with (fail)
  rw [HW.out]
  go_wp2_with (first
    | ((with_reducible refine wpList_plain (o := ⟨some 21, Op.load 37 _, _, _, _, _⟩) rfl fun K hK => ?_); (refine wp_load_msg (g := w.heap.size) (m := m) (s := s) rfl rfl HO.out (hK _ _ ?_)))
    | (go_at_call 43; refine hR.mono ?_; rintro e w2 ⟨rfl, hb2⟩))
  go_ret2
  exact enc_none rfl (below_next hb hb2)

theorem REncode17_any (m : MsgL) (s : MsgS) (w : World) (hm : MsgR w m s) :
    Calls Tryz.prog 14 #[MsgV m s] w (EncPost w (encM m)) := by
  rw [← rencM_eq]
  unfold rencM
  rw [rrightB_eq]
  rcases hr : wrightB m with _ | _
  · exact REnc_no m s w hm hr
  · rw [if_pos rfl]
    have hk := right_kind hr
    rcases kinds m.kind with h | h | h | h | h | h | h | h | h | h | h | h
    case inr.inr.inr.inr.inr.inr.inr.inr.inr.inr.inr => omega
    · exact REnc_A m s w hm hr (by rw [h]; rfl)
    · exact REnc_B m s w hm hr (by rw [h]; rfl)
    · exact REnc_B m s w hm hr (by rw [h]; rfl)
    · exact REnc_C m s w hm hr (by rw [h]; rfl)
    · exact REnc_B m s w hm hr (by rw [h]; rfl)
    · rcases hsd : m.seed with _ | _
      · exact REnc_D0 m s w hm hr (by rw [h]; rfl) hsd
      · exact REnc_D1 m s w hm hr (by rw [h]; rfl) hsd
    · exact REnc_E m s w hm hr (by rw [h]; rfl)
    · exact REnc_G m s w hm hr (by rw [h]; rfl)
    · exact REnc_H m s w hm hr (by rw [h]; rfl)
    · exact REnc_A2 m s w hm hr (by rw [h]; rfl)
    · exact REnc_H m s w hm hr (by rw [h]; rfl)

end Go.Proofs.YtnohglkilpnjhaaGreatDoor

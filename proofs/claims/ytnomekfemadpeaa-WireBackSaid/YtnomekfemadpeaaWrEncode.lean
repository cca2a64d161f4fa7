/- The walk of wire.Encode: a message as bytes. Conditions: no more than 1000 numbers, hashes, members. -/
import Derived.Test.YtnomekfemadpeaaWrBody
import Derived.Test.YtnomekfemadpeaaGb
import Derived.Test.YtnomekfemadpeaaGc
namespace Go.Proofs.Ytnomekfemadpeaa
open Go.RowKit
set_option linter.unusedVariables false
set_option linter.unusedSimpArgs false
set_option maxRecDepth 100000

/-- The items of the first kinds, with their bytes' values. -/
def ItsOf (m : MsgL) (k : Nat) (l : List ItV) : Prop := l.map (·.1) = ((hasL m.kind).take k).map fun i => (i, bodyL m i)
theorem ItsOf.step {m : MsgL} {k : Nat} {l : List ItV} (h : ItsOf m k l) (hk : k < (hasL m.kind).length) (v : Value) : ItsOf m (k + 1) (l ++ [(((hasL m.kind).getD k 0, bodyL m ((hasL m.kind).getD k 0)), v)]) := by
  unfold ItsOf at *
  rw [List.map_append, h, List.take_add_one, List.getElem?_eq_getElem hk, List.map_append]
  simp [List.getD, List.getElem?_eq_getElem hk]
theorem ItsOf.len {m : MsgL} {k : Nat} {l : List ItV} (h : ItsOf m k l) (hk : k ≤ (hasL m.kind).length) : l.length = k := by
  have := congrArg List.length h
  simpa [hk] using this
theorem has_mem {k i : Int} (h : i ∈ hasL k) : 1 ≤ i ∧ i ≤ 8 := by
  unfold hasL at h
  repeat' split at h
  all_goals
    simp at h
    try omega
theorem has_few (k : Int) : (hasL k).length ≤ 5 := by
  unfold hasL
  repeat' split
  all_goals simp

/-- The item's bytes lie neither in the row of items nor in what is made next. -/
theorem body_apart {w w3 wr w4 : World} {m : MsgL} {s : MsgS} {i : Int} {v lv : Value} {l : List ItV} {o : Obj} (hm : MsgR w m s) (h5 : i = 5 → 0 < m.bytes.length) (hown : OwnIt wr w3.heap.size lv l) (h1 : w.heap.size ≤ w3.heap.size) (h2 : wr.heap.size ≤ w4.heap.size) (h4 : w.heap.size ≤ w4.heap.size)
    (hk : ∀ k, v.ownBlock = some k → (i = 5 ∧ s.vb.ownBlock = some k) ∨ (wr.heap.size ≤ k ∧ k < w4.heap.size)) : ∀ k, v.ownBlock = some k → k < (w4.alloc o).heap.size ∧ lv.ownBlock ≠ some k := fun k e => by
  rw [World.size_alloc]
  rcases hk k e with ⟨hi, hb⟩ | ⟨h3, h5⟩
  · have hp := h5 hi
    obtain ⟨_, a, c, hv, _, _, _, h6⟩ := hm.bytes
    obtain ⟨b, off, rfl, hbl, _⟩ := h6 (by omega)
    rw [hv] at hb
    cases hb
    exact ⟨Nat.lt_succ_of_lt (Nat.lt_of_lt_of_le hbl h4), fun e2 => by have h : w3.heap.size ≤ b := (hown.lt _ e2).1; omega⟩
  · exact ⟨by omega, fun e2 => by have := (hown.lt _ e2).2; omega⟩
theorem right_few {m : MsgL} (h : rightB m = true) : m.ids.length ≤ 64 ∧ m.proof.length ≤ 10 ∧ m.members.length ≤ 65 := by
  rw [← rrightB_eq] at h
  unfold rrightB rTest1 at h
  simp only [Bool.and_eq_true, Bool.not_eq_true', Bool.or_eq_false_iff, decide_eq_false_iff_not] at h
  omega
theorem right_bytes {m : MsgL} (h : rightB m = true) (h5 : 5 ∈ hasL m.kind) : 0 < m.bytes.length := by
  rw [rightB_eq] at h
  simp only [Bool.and_eq_true] at h
  have := h.2.2.2.2.1
  unfold itemB at this
  rw [if_pos h5] at this
  simp [fitsB, withinB] at this
  omega

set_option maxHeartbeats 3200000 in
theorem Encode17_any (m : MsgL) (s : MsgS) (w : World) (hm : MsgR w m s) :
    Calls Try.prog 10 #[MsgV m s] w (EncPost w (encM m)) := by
  obtain ⟨W, hW, ho, hb⟩ := msg_boxed w (s := s) hm.hash
  rw [show MsgV m s = .agg (msgCells m s).toArray from rfl]
  have hR := Right_any m s W (hm.of_new hb)
  have hls := ho.lt
  have HM := Lib.hid hm
  have HO := Lib.hid ho
  have HW := Lib.hid hW
  clear hW hm ho
  go_enter Try.func10, Try.ntmps10
  go_upto_region 1 with (fail)
  rw [HW.out]
  rcases hr : rightB m with _ | _
  · rw [hr] at hR
    have HE := Lib.hid (show encM m = none by unfold encM; rw [hr]; rfl)
    clear hr
    go_wp2_with (first
      | ((with_reducible refine wpList_plain (o := ⟨some 7, Op.load 29 _, _, _, _, _⟩) rfl fun K hK => ?_); (refine wp_load_msg (g := w.heap.size) (m := m) (s := s) rfl rfl HO.out (hK _ _ ?_)))
      | (go_at_call 12; refine hR.mono ?_; rintro e w2 ⟨rfl, hb2⟩))
    go_ret2
    exact enc_none HE.out (below_next hb hb2)
  rw [hr] at hR
  have HE := Lib.hid (show encM m = encL (itemsM m) by unfold encM; rw [hr]; rfl)
  obtain ⟨hi1, hp1, hm1⟩ := right_few hr
  have hbn := right_bytes hr
  have HBN := Lib.hid hbn
  clear hr hbn
  go_upto_region 4 with (first
    | ((with_reducible refine wpList_plain (o := ⟨some 7, Op.load 29 _, _, _, _, _⟩) rfl fun K hK => ?_); (refine wp_load_msg (g := w.heap.size) (m := m) (s := s) rfl rfl HO.out (hK _ _ ?_)))
    | (go_at_call 12; refine hR.mono ?_; rintro e w2 ⟨rfl, hb2⟩))
  have hbA := below_next hb hb2
  have HO2 := Lib.hid (HO.out.of_new hb2)
  have e0 := HO2.out.kind
  have hH := has_any m.kind w2
  have hl2 := HO2.out.lt
  go_wp2_with (first | (go_at_call 17; refine hH.mono ?_; rintro e w3 ⟨v3, rfl, hv3, hb3⟩; obtain ⟨a3, c3, hv⟩ := hv3.len; subst hv; have HV := Lib.hid hv3; have HO3 := Lib.hid (HO2.out.of_new hb3); have hbB := below_next hbA hb3; have hs3 := hb3.size; clear hv3))
  have hfew := has_few m.kind
  clear hH hR e0
  go_loopw [4, 6, 14] (fun lv _ iv W' => ∃ (k : Nat) (l : List ItV), k ≤ (hasL m.kind).length ∧ iv = .int .i64 k ∧ ItsOf m k l ∧ OwnIt W' w3.heap.size lv l ∧ Below w3.heap.size w3 W') (fun _ _ iv _ => (hasL m.kind).length - (intOf iv).toNat)
  case atStart => exact ⟨0, [], Nat.zero_le _, rfl, rfl, OwnIt.nil _ _, Below.refl _ _⟩
  case round =>
    obtain ⟨k, l, hk, rfl, hit, hown, hbr⟩ := hrel
    obtain ⟨la, lc, hv⟩ := hown.len
    subst hv
    have hll := hit.len hk
    have hsz := hbr.size
    have hbw := below_next hbB hbr
    by_cases hlt : k < (hasL m.kind).length
    · obtain ⟨pb, poff, pc, hv, hpbl, hcell⟩ := HV.out.cell (by omega)
      obtain ⟨rfl, rfl⟩ : a3 = some ⟨pb, poff, none⟩ ∧ c3 = pc := by cases hv; exact ⟨rfl, rfl⟩
      have hc := (hbr.cell (p := ⟨pb, poff + k, none⟩) hpbl).trans (hcell k hlt)
      have hmem : (hasL m.kind).getD k 0 ∈ hasL m.kind := by
        rw [List.getD_eq_getElem?_getD, List.getElem?_eq_getElem hlt]; exact List.getElem_mem hlt
      have hst := fun v => hit.step hlt v
      obtain ⟨j1, j2⟩ := has_mem hmem
      have h5 : (hasL m.kind).getD k 0 = 5 → 0 < m.bytes.length := fun e => HBN.out (e ▸ hmem)
      have hB := body_any m s ((hasL m.kind).getD k 0) wr (HM.out.of_new hbw) j1 j2 (by omega) (by omega) (by omega)
      generalize (hasL m.kind).getD k 0 = i at *
      have HOr := Lib.hid (HO3.out.of_new hbr)
      have HB := Lib.hid hB
      have HST := Lib.hid hst
      have HWN := Lib.hid hown
      have HLL := Lib.hid hll
      have H5 := Lib.hid h5
      clear hv hcell hmem hst hB hit hown hll h5
      go_wp2_with (first
        | ((with_reducible refine wpList_plain (o := ⟨some 20, Op.load 29 _, _, _, _, _⟩) rfl fun K hK => ?_); (refine wp_load_msg (g := w.heap.size) (m := m) (s := s) rfl rfl HOr.out (hK _ _ ?_)))
        | (go_at_call 18; refine HB.out.mono ?_; rintro e w4 ⟨v4, rfl, hv4, hb4, hk4⟩; obtain ⟨a4, c4, hv⟩ := hv4.len; subst hv; have HV4 := Lib.hid hv4; have HB4 := Lib.hid hb4; have HK4 := Lib.hid hk4; have hs4 := hb4.size; clear hv4 hb4 hk4)
        | ((with_reducible refine wpList_plain (o := ⟨some 25, _, _, _, _, _⟩) rfl fun K hK => ?_); refine wp_appIt (.tmp 18) (.tmp 24) rfl w3.heap.size _ l ((i, bodyL m i), .slice a4 (bodyL m i).length c4) w4.heap.size rfl ((HWN.out.of_new HB4.out).of_new ((Below.refl _ w4).alloc (Nat.le_refl _) _)) rfl (HV4.out.of_new ((Below.refl _ w4).alloc (Nat.le_refl _) _)) (body_apart HM.out H5.out HWN.out (by omega) (by omega) (by omega) HK4.out) (heap_alloc_new w4 _) (by have := HLL.out; omega) (by simp; omega) ?_; intro v5 w5 ho5 hg5 hn5; refine hK _ _ ?_; obtain ⟨a5, c5, hv5⟩ := ho5.len; subst hv5; have HO5 := Lib.hid ho5; have HG5 := Lib.hid hg5; clear ho5 hg5 hn5 hK))
      go_roundw
      case rel =>
        refine ⟨k + 1, l ++ [((i, bodyL m i), .slice a4 (bodyL m i).length c4)], by omega, by go_num, HST.out _, ?_, (below_next hbr ((HB4.out).alloc HB4.out.size _)).grown HG5.out (by simp; omega) (fun j hj => (HWN.out.lt j hj).1)⟩
        have h := HO5.out
        rw [List.length_append] at h
        exact h
      case measure => simp [intOf]; omega
    · obtain rfl : k = (hasL m.kind).length := by omega
      have hits : l.map (·.1) = itemsM m := by rw [hit, List.take_length]; rfl
      have hI := hown.items
      rw [hits] at hI
      have hEn := Encode_any _ _ wr hI
      rcases hen : encL (itemsM m) with _ | c
      · rw [hen] at hEn
        have HEN := Lib.hid hen
        clear hits hI hit hown hll hen
        go_wp2_with fail
        refine hEn.mono ?_
        rintro e w4 ⟨hb4, v4, rfl⟩
        clear hEn
        go_wp2
        go_ret2
        exact enc_none (HE.out.trans HEN.out) (below_next hbw hb4)
      · rw [hen] at hEn
        have HEN := Lib.hid hen
        clear hits hI hit hown hll hen
        go_wp2_with fail
        refine hEn.mono ?_
        rintro e w4 ⟨hb4, v4, rfl, ho4⟩
        clear hEn
        have HO4 := Lib.hid (ho4.mono hbw.size)
        clear ho4
        go_wp2
        go_ret2
        exact enc_some (HE.out.trans HEN.out) (below_next hbw hb4) HO4.out

end Go.Proofs.Ytnomekfemadpeaa

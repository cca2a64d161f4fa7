/- The walk of manifest.Image: whether an image may be. No condition. -/
import Derived.Test.YtnomekfemadpeaaDoorMfImgPlain
import Derived.Test.YtnomekfemadpeaaDoorMapL
import Derived.Test.YtnomekfemadpeaaDoorRec
import Derived.Test.YtnomekfemadpeaaDoorGc
import Derived.Carry
namespace Go.Proofs.YtnomekfemadpeaaDoor
open Go.RowKit
set_option linter.unusedVariables false
set_option linter.unusedSimpArgs false
set_option maxRecDepth 100000

def RBlob : RecT 27 BlobL where
  n := 66
  bytes := 80
  zero := BlobL.zero
  cells := BlobL.cells
  ok := BlobL.ok
  pos := by decide
  small := by decide
  few := by decide
  zok := BlobL.zero_ok
  len := fun h => BlobL.cells_len h
  one := fun {x} _ v hv => Array.all_eq_true_iff_forall_mem.1 (cells_one x) v (by simpa using hv)
  agg := ⟨_, Tryd.underlying27, rfl⟩
  info := by kernel_rfl
theorem RecT.O.blobO {w : World} {g : Nat} {x : BlobL} (h : RBlob.O w g x) : BlobO w g x := h
theorem RecT.At.dig5 {w : World} {g off : Nat} {x : BlobL} (h : RBlob.At w g off x) : DigAt w g off x.dig := ⟨h.1.1, fun j hj => by
  have := h.2.2 j (by show j < 66; omega)
  rw [this]
  show x.cells[j]? = _
  unfold BlobL.cells
  rw [List.getElem?_append_left (by simp [h.1.1]; omega)]⟩
theorem BlobO.rec {w : World} {g : Nat} {x : BlobL} (h : BlobO w g x) : RBlob.O w g x := h

set_option maxHeartbeats 1600000 in
theorem oddBlob_any (x : BlobL) (w : World) (hx : x.ok) :
    Calls Tryd.prog 60 #[BlobV x] w fun e w' => e = .returned (.bool (!mrightB x.size x.piece)) ∧ Below w.heap.size w w' := by
  obtain ⟨W, hW⟩ : ∃ W, w.alloc (.cells x.cells.toArray 27) = W := ⟨_, rfl⟩
  have ho : BlobO W w.heap.size x := by rw [← hW]; exact blob_alloc w hx
  have hb : Below w.heap.size w W := by rw [← hW]; exact (Below.refl _ w).alloc (Nat.le_refl _) _
  have hR := Right_any x W hx
  obtain ⟨B, hB⟩ : ∃ B, mrightB x.size x.piece = B := ⟨_, rfl⟩
  rw [hB] at hR ⊢
  have HO := Lib.hid ho
  have HW := Lib.hid hW
  have HB := Lib.hid hb
  have HR := Lib.hid hR
  rw [show BlobV x = .agg x.cells.toArray from rfl]
  clear hB ho hW hb hR
  go_enter Tryd.func60, Tryd.ntmps60
  go_upto_region 1 with (fail)
  rw [HW.out]
  go_wp2_with (first
    | ((with_reducible refine wpList_plain (o := ⟨some 3, Op.load _ _, _, _, _, _⟩) rfl fun K hK => ?_); (refine wp_load_blob (g := w.heap.size) (x := x) rfl rfl HO.out (hK _ _ ?_)))
    | (go_at_call 19; refine HR.out.mono ?_; rintro e w2 ⟨rfl, hb2⟩; have HB2 := Lib.hid (below_next HB.out hb2); clear hb2))
  go_ret
  exact ⟨rfl, HB2.out⟩

def IdxPost5 (w : World) (r : Bool) (e : Ending) (w' : World) : Prop := ∃ i : Int, e = .returned (.int .i64 i) ∧ decide (0 ≤ i) = r ∧ Below w.heap.size w w'
set_option maxHeartbeats 1600000 in
theorem IndexFuncB_any (v : Value) (l : List BlobL) (w : World) (hl : RBlob.Row w v l) : Calls Tryd.prog 82 #[v, .func (.func 60) #[] #[]] w (IdxPost5 w (!rightsB l)) := by
  obtain ⟨a, c, hv⟩ := hl.len
  subst hv
  have hle := hl.le
  have HL := Lib.hid hl
  clear hl
  go_enter Tryd.func82, Tryd.ntmps82
  go_wp2
  go_loopw [5, 8] (fun _ iv W => ∃ k : Nat, k ≤ l.length ∧ iv = .int .i64 k ∧ rightsB l = rightsB (l.drop k) ∧ Below w.heap.size w W) (fun _ iv _ => l.length - (intOf iv).toNat)
  case atStart => exact ⟨0, Nat.zero_le _, rfl, rfl, Below.refl _ _⟩
  case round =>
    obtain ⟨k, hk, rfl, hm, hb⟩ := hrel
    by_cases hlt : k < l.length
    · obtain ⟨b, off, c', hv, hbl, hc⟩ := HL.out.at_ (by omega)
      obtain ⟨rfl, rfl⟩ : a = some ⟨b, off, none⟩ ∧ c = c' := by cases hv; exact ⟨rfl, rfl⟩
      obtain ⟨y, hy⟩ : ∃ y, l[k]? = some y := ⟨_, List.getElem?_eq_getElem hlt⟩
      have hat := (hc k y hy).of_new hb
      have hdr : l.drop k = y :: l.drop (k + 1) := by rw [List.drop_eq_getElem_cons hlt]; rw [List.getElem?_eq_getElem hlt] at hy; cases hy; rfl
      have hm2 : rightsB l = (mrightB y.size y.piece && rightsB (l.drop (k + 1))) := by rw [hm, hdr]; rfl
      have hO := fun w' => oddBlob_any y w' hat.1
      generalize mrightB y.size y.piece = B at *
      have HM := Lib.hid hm2
      have HAT := Lib.hid hat
      have HO := Lib.hid hO
      have HB := Lib.hid hb
      have hki : (k : Int) < (l.length : Int) := by omega
      clear hv hm hm2 hc hy hdr hO hat hb
      cases B with
      | false =>
        go_wp2_with (first
          | ((with_reducible refine wpList_plain (o := ⟨some 15, Op.load _ _, _, _, _, _⟩) rfl fun K hK => ?_); (refine HAT.out.wp rfl rfl (hK _ _ ?_)))
          | (go_at_call 60; refine (HO.out _).mono ?_; rintro e w2 ⟨rfl, hb2⟩; have HB2 := Lib.hid (below_next HB.out hb2); clear hb2))
        go_ret
        exact ⟨(k : Int), rfl, by rw [decide_eq_true (show (0 : Int) ≤ (k : Int) by omega), HM.out]; rfl, HB2.out⟩
      | true =>
        go_wp2_with (first
          | ((with_reducible refine wpList_plain (o := ⟨some 15, Op.load _ _, _, _, _, _⟩) rfl fun K hK => ?_); (refine HAT.out.wp rfl rfl (hK _ _ ?_)))
          | (go_at_call 60; refine (HO.out _).mono ?_; rintro e w2 ⟨rfl, hb2⟩; have HB2 := Lib.hid (below_next HB.out hb2); clear hb2))
        go_roundw
        case rel => exact ⟨k + 1, by omega, by go_num, by rw [HM.out]; rfl, HB2.out⟩
        case measure => simp [intOf]; omega
    · rw [List.drop_of_length_le (by omega)] at hm
      have HM := Lib.hid hm
      have HB := Lib.hid hb
      have hki : ¬ (k : Int) < (l.length : Int) := by omega
      clear hm hb
      go_wp2
      go_ret
      exact ⟨-1, rfl, by rw [decide_eq_false (by omega), HM.out]; rfl, HB.out⟩
theorem ret_int5 {a b : Int} (h : b = a) : Ending.returned (.int .i64 a) = .returned (.int .i64 b) := by rw [h]
theorem ret_bool5 {a b : Bool} (h : a = b) : Ending.returned (.bool a) = .returned (.bool b) := by rw [h]
theorem ContainsFuncB_any (v : Value) (l : List BlobL) (w : World) (hl : RBlob.Row w v l) : Calls Tryd.prog 61 #[v, .func (.func 60) #[] #[]] w fun e w' => e = .returned (.bool (!rightsB l)) ∧ Below w.heap.size w w' := by
  obtain ⟨B, hB⟩ : ∃ B, (!rightsB l) = B := ⟨_, rfl⟩
  have hI := IndexFuncB_any v l w hl
  rw [hB] at hI ⊢
  clear hB
  go_enter Tryd.func61, Tryd.ntmps61
  go_wp2_with fail
  refine hI.mono ?_
  rintro e w1 ⟨r, rfl, hr, hb⟩
  have HR := Lib.hid hr
  clear hr
  go_wp2
  go_ret
  exact ⟨ret_bool5 HR.out, hb⟩

/-- The map of what was seen. -/
def seenL (ds : List (List UInt8)) : List (List UInt8 × Value) := ds.reverse.map fun d => (d, .bool true)
theorem seenL_get (ds : List (List UInt8)) (d : List UInt8) : (getL (seenL ds) d).getD (.bool false) = .bool (decide (d ∈ ds)) := by
  have h : ∀ l : List (List UInt8), (getL (l.map fun d => (d, Value.bool true)) d).getD (.bool false) = .bool (decide (d ∈ l)) := by
    intro l
    induction l with
    | nil => rfl
    | cons x l ih =>
      by_cases hx : x = d
      · subst hx
        simp [getL]
      · have e : getL ((x :: l).map fun d => (d, Value.bool true)) d = getL (l.map fun d => (d, Value.bool true)) d := by
          simp [getL, hx]
        rw [e, ih]
        simp [show ¬ d = x from fun e => hx e.symm]
  unfold seenL
  rw [h]
  simp
theorem seenL_put {ds : List (List UInt8)} {d : List UInt8} (h : d ∉ ds) : putM (seenL ds) d (.bool true) = seenL (ds ++ [d]) := by
  unfold putM
  have : delL (seenL ds) d = seenL ds := by
    unfold delL
    rw [List.filter_eq_self]
    intro p hp
    obtain ⟨x, hx, rfl⟩ := List.mem_map.1 hp
    simp only [List.mem_reverse] at hx
    have : x ≠ d := fun e => h (e ▸ hx)
    simp [this]
  rw [this]
  simp [seenL]
theorem nodup_snoc {ds : List (List UInt8)} {d : List UInt8} : (ds ++ [d]).Nodup ↔ ds.Nodup ∧ d ∉ ds := by
  rw [List.nodup_append]
  simp
  intro _
  constructor
  · intro h2 h
    exact h2 d h rfl
  · intro h2 a ha e
    exact h2 (e ▸ ha)
theorem zero_bool (w : World) : (zeroValue 4).run Tryd.prog w = .ok (.bool false) w := by kernel_rfl

/-- Ahead of each round. -/
def ImgI (w2 : World) (bm : Nat) (l : List BlobL) (k : Nat) (W : World) : Prop := MapL KDig W bm (seenL (digs (l.take k))) ∧ (digs (l.take k)).Nodup ∧ Kept (fun q => q ≠ bm) w2 W
theorem digs_step {l : List BlobL} {k : Nat} {x : BlobL} (h : l[k]? = some x) : digs (l.take (k + 1)) = digs (l.take k) ++ [x.dig] := by
  have hk : k < l.length := (List.getElem?_eq_some_iff.1 h).1
  unfold digs
  rw [List.take_add_one, h]; simp
theorem digs_dup {l : List BlobL} {k : Nat} {x : BlobL} (h : l[k]? = some x) (hm : x.dig ∈ digs (l.take k)) : ¬ (digs l).Nodup := fun hn => by
  have : (digs (l.take (k + 1))).Nodup := hn.sublist ((List.take_sublist _ _).map _)
  rw [digs_step h] at this
  exact (nodup_snoc.1 this).2 hm

set_option maxHeartbeats 3200000 in
theorem Image_any (v : Value) (l : List BlobL) (w : World) (hl : RBlob.Row w v l) : Calls Tryd.prog 35 #[.agg #[v]] w fun e w' => e = .returned (.int .i64 (imageE l)) ∧ Below w.heap.size w w' := by
  have hmm := @run_makeMap Tryd.prog
  obtain ⟨a, c, hv⟩ := hl.len
  subst hv
  have hle := hl.le
  obtain ⟨W, hW⟩ : ∃ W, w.alloc (.cells #[.slice a l.length c] 52) = W := ⟨_, rfl⟩
  have ho : One W w.heap.size (.slice a l.length c) 52 := by rw [← hW]; exact heap_alloc_new w _
  have hb : Below w.heap.size w W := by rw [← hW]; exact (Below.refl _ w).alloc (Nat.le_refl _) _
  have hc1 := ho.cell
  have HL := Lib.hid (hl.of_new hb)
  have HO := Lib.hid ho
  have HW := Lib.hid hW
  have HB := Lib.hid hb
  clear hl ho hW hb
  by_cases h1 : l.length < 1
  · have HE := Lib.hid (show imageE l = 1 by unfold imageE; rw [if_pos (.inl h1)])
    have h1i : (l.length : Int) < 1 := by omega
    clear h1
    go_enter Tryd.func35, Tryd.ntmps35
    go_upto_region 1 with (fail)
    rw [HW.out]
    go_wp2
    go_ret
    exact ⟨ret_int5 HE.out, HB.out⟩
  have h1i : ¬ (l.length : Int) < 1 := by omega
  by_cases h2 : 16 < l.length
  · have HE := Lib.hid (show imageE l = 1 by unfold imageE; rw [if_pos (.inr (.inl h2))])
    have h2i : (16 : Int) < (l.length : Int) := by omega
    clear h1 h2
    go_enter Tryd.func35, Tryd.ntmps35
    go_upto_region 1 with (fail)
    rw [HW.out]
    go_wp2
    go_ret
    exact ⟨ret_int5 HE.out, HB.out⟩
  have h2i : ¬ (16 : Int) < (l.length : Int) := by omega
  have hC := ContainsFuncB_any _ l W HL.out
  rcases hr : rightsB l with _ | _
  · have HE := Lib.hid (show imageE l = 1 by unfold imageE; rw [if_pos (.inr (.inr hr))])
    rw [hr] at hC
    have HC := Lib.hid hC
    clear h1 h2 hC hr
    go_enter Tryd.func35, Tryd.ntmps35
    go_upto_region 1 with (fail)
    rw [HW.out]
    go_wp2_with (go_at_call 61; refine HC.out.mono ?_; rintro e w2 ⟨rfl, hb2⟩; have HB2 := Lib.hid (below_next HB.out hb2); clear hb2)
    go_ret
    exact ⟨ret_int5 HE.out, HB2.out⟩
  have HE := Lib.hid (show imageE l = if (digs l).Nodup then 0 else 5 by
    unfold imageE
    rw [if_neg]
    rintro (h | h | h)
    · exact h1 h
    · exact h2 h
    · rw [hr] at h; cases h)
  rw [hr] at hC
  have HC := Lib.hid hC
  have h2l : (l.length : Int) ≤ 16 := by omega
  clear h1 h2 hC hr
  go_enter Tryd.func35, Tryd.ntmps35
  go_upto_region 1 with (fail)
  rw [HW.out]
  go_upto_region 5 with (go_at_call 61; refine HC.out.mono ?_; rintro e w2 ⟨rfl, hb2⟩; have HB2 := Lib.hid (below_next HB.out hb2); have HL2 := Lib.hid (HL.out.of_new hb2); have HO2 := Lib.hid (HO.out.of_new hb2); clear hb2)
  generalize hW3 : w2.alloc (.map #[] 0) = w3
  have hM3 : MapL KDig w3 w2.heap.size [] := by rw [← hW3]; exact mapL_made w2
  have hb3 : Below w2.heap.size w2 w3 := by rw [← hW3]; exact (Below.refl _ w2).alloc (Nat.le_refl _) _
  have HM3 := Lib.hid hM3
  have HK3 := Lib.hid ((Kept.refl (fun q => q ≠ w2.heap.size) w2).below hb3)
  have hc3 := (HO2.out.of_new hb3).cell
  have hO2 := HO2.out.lt
  have hBS := HB2.out.size
  obtain ⟨bm, hbm⟩ : ∃ bm, w2.heap.size = bm := ⟨_, rfl⟩
  have HBM := Lib.hid hbm
  rw [hbm] at HM3 HK3 hO2 hBS ⊢
  clear hW3 hM3 hb3 hbm hc1
  go_wp2
  go_loopw [6, 27] (fun _ iv W' => ∃ k : Nat, k ≤ l.length ∧ iv = .int .i64 k ∧ ImgI w2 bm l k W') (fun _ iv _ => l.length - (intOf iv).toNat)
  case atStart => exact ⟨0, Nat.zero_le _, rfl, HM3.out, by simp [digs], HK3.out⟩
  case round =>
    obtain ⟨k, hk, rfl, hM, hnd, hK⟩ := hrel
    have hbw : Below w.heap.size w wr := hK.to_below HB2.out (by have := HBM.out; omega) (fun q hq => by have := HBM.out; omega)
    by_cases hlt : k < l.length
    · obtain ⟨b, off, c', hv, hbl, hc⟩ := HL2.out.at_ (by omega)
      obtain ⟨rfl, rfl⟩ : a = some ⟨b, off, none⟩ ∧ c = c' := by cases hv; exact ⟨rfl, rfl⟩
      obtain ⟨y, hy⟩ : ∃ y, l[k]? = some y := ⟨_, List.getElem?_eq_getElem hlt⟩
      have hat := (hc k y hy).of_block (hK.block b hbl (by have := HBM.out; omega))
      have hyo := hat.1
      have hki : (k : Int) < (l.length : Int) := by omega
      have HY := Lib.hid hy
      have HM := Lib.hid hM
      have HND := Lib.hid hnd
      have HK := Lib.hid hK
      have HAT := Lib.hid hat
      have HYO := Lib.hid hyo
      have HBW := Lib.hid hbw
      clear hv hc hy hM hnd hK hat hyo hbw
      go_upto_region 8 with (first
        | ((with_reducible refine wpList_plain (o := ⟨some 30, Op.load _ _, _, _, _, _⟩) rfl fun K hK => ?_); (refine HAT.out.wp rfl rfl (hK _ _ ?_)))
        | ((with_reducible refine wpList_plain (o := ⟨some 6, Op.alloc _, _, _, _, _⟩) rfl fun K hK => ?_); (refine RBlob.wp_alloc rfl fun w4 ho4 hb4 hs4 => hK _ _ ?_); have HO4 := Lib.hid ho4; have HB4 := Lib.hid hb4; clear ho4 hb4 hs4)
        | ((with_reducible refine wpList_plain (o := ⟨none, Op.store _ (.tmp 6) (.tmp 30), _, _, _, _⟩) rfl fun K hK => ?_); (refine HO4.out.store (.tmp 6) (.tmp 30) rfl rfl rfl HYO.out fun w5 ho5 hg5 hs5 => hK _ _ ?_); have hb5 := HB4.out.grown hg5 (by have := HB4.out.size; omega) (fun k e => by cases e; exact Nat.le_refl _); have HO5 := Lib.hid ho5; have HB5 := Lib.hid hb5; have HM5 := Lib.hid (HM.out.of_new hb5); clear ho5 hg5 hs5 hb5))
      have hd := HO5.out.blobO.dig
      have hdl : y.dig.length = 32 := HYO.out.1
      have hlk : (Instr.lookup 87 (.map (some bm)) (.agg (y.dig.map B8).toArray) false).run Tryd.prog w5 = .ok (.bool (decide (y.dig ∈ digs (l.take k)))) w5 := by
        have h := MapL.look HM5.out (e := 4) (t := 87) Tryd.underlying87 (zero_bool _) (x := y.dig) hdl
        rw [seenL_get] at h
        exact h
      have HD := Lib.hid hd
      by_cases hin : y.dig ∈ digs (l.take k)
      · have hn := digs_dup HY.out hin
        rw [show decide (y.dig ∈ digs (l.take k)) = true by simp [hin]] at hlk
        have HN := Lib.hid (show imageE l = 5 by rw [HE.out, if_neg hn])
        clear hin hn hd
        go_wp2_with (first
          | ((with_reducible refine wpList_plain (o := ⟨some 33, Op.load _ _, _, _, _, _⟩) rfl fun K hK => ?_); (refine wp_load_at (ty := 25) (x := .tmp 32) rfl rfl HD.out (hK _ _ ?_))))
        go_ret
        exact ⟨ret_int5 HN.out, below_next HBW.out HB5.out⟩
      · rw [show decide (y.dig ∈ digs (l.take k)) = false by simp [hin]] at hlk
        obtain ⟨w6, hpu, hm6, hg6, hs6⟩ := MapL.put HM5.out (e := 4) (t := 87) Tryd.underlying87 (x := y.dig) hdl (.bool true) (by simp [seenL, digs]; omega)
        rw [seenL_put hin, ← digs_step HY.out] at hm6
        have hpu' : (Instr.mapUpdate 87 (.map (some bm)) (.agg (y.dig.map B8).toArray) (.bool true)).run Tryd.prog w5 = .ok () w6 := hpu
        have HM6 := Lib.hid hm6
        have HK6 := Lib.hid ((HK.out.below HB5.out).grown hg6 (fun r e => by cases e; simp))
        have HND6 := Lib.hid (show (digs (l.take (k + 1))).Nodup by rw [digs_step HY.out]; exact nodup_snoc.2 ⟨HND.out, hin⟩)
        clear hpu hm6 hg6 hs6 hin hd
        go_wp2_with (first
          | ((with_reducible refine wpList_plain (o := ⟨some 33, Op.load _ _, _, _, _, _⟩) rfl fun K hK => ?_); (refine wp_load_at (ty := 25) (x := .tmp 32) rfl rfl HD.out (hK _ _ ?_)))
          | ((with_reducible refine wpList_plain (o := ⟨some 37, Op.load _ _, _, _, _, _⟩) rfl fun K hK => ?_); (refine wp_load_at (ty := 25) (x := .tmp 36) rfl rfl HD.out (hK _ _ ?_))))
        go_roundw
        case rel => exact ⟨k + 1, by omega, by go_num, HM6.out, HND6.out, HK6.out⟩
        case measure => simp [intOf]; omega
    · obtain rfl : k = l.length := by omega
      rw [List.take_length] at hnd
      have HN := Lib.hid (show imageE l = 0 by rw [HE.out, if_pos hnd])
      have HBW := Lib.hid hbw
      clear hM hnd hK hbw
      go_wp2
      go_ret
      exact ⟨ret_int5 HN.out, HBW.out⟩

end Go.Proofs.YtnomekfemadpeaaDoor

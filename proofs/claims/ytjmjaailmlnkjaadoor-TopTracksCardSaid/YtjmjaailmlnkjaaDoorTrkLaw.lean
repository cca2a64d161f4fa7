/- The walk of the law TopTracks: it answers true. Condition: the table of constants as the program lays it. -/
import Derived.Test.YtjmjaailmlnkjaaDoorTrkPlain
import Derived.Test.YtjmjaailmlnkjaaDoorGb
import Derived.Test.YtjmjaailmlnkjaaDoorTrNew
import Derived.Test.YtjmjaailmlnkjaaDoorTrAnn
import Derived.Test.YtjmjaailmlnkjaaDoorMet
namespace Go.Proofs.YtjmjaailmlnkjaaDoor
open Go.RowKit
set_option linter.unusedVariables false
set_option linter.unusedSimpArgs false
set_option maxRecDepth 100000

/-- One byte in a block just made. -/
theorem one_byte (w : World) (x : UInt8) (t : TypeId) (f : Nat × Nat) : Bytes (w.alloc (.cells #[.int .u8 (x.toNat : Int)] t f)) (.slice (some ⟨w.heap.size, 0, none⟩) 1 1) [x] := by
  refine ⟨rfl, some ⟨w.heap.size, 0, none⟩, 1, rfl, Nat.le_refl _, by unfold maxLen; omega, fun h => (nomatch h), fun _ => ⟨_, 0, rfl, by simp, fun j hj => ?_⟩⟩
  simp only [List.length_singleton, Nat.mul_one] at hj
  have hj0 : j = 0 := by omega
  subst hj0
  have h := heap_alloc_new w (.cells #[.int .u8 (x.toNat : Int)] t f)
  simp only [World.cell?, h]
  rfl

/-- Ahead of each round of the first loop. -/
structure TrkI (w : World) (t mb dg sm : Nat) (D : List UInt8) (k : Nat) (P : List PeerL) (S : List Int) (E : EntL) (W : World) : Prop where
  inv : TInv k P S
  tab : tabOf E = oneT D P
  ok : EntOk 3 64 E
  mem : TabP W t 3 64 mb E
  own : ∀ j, ownE mb E j → w.heap.size ≤ j ∧ j ≠ sm ∧ j ≠ dg
  dig : DigO W dg D
  seen : MapL KInt W sm (bmL S)
  below : Below w.heap.size w W
  apart : t ≠ sm ∧ dg ≠ sm ∧ w.heap.size ≤ sm
def TrkR (w : World) (t mb dg sm : Nat) (D : List UInt8) (l : List Int) (iv : Value) (W : World) : Prop :=
  ∃ k P S E, k ≤ l.length ∧ iv = .int .i64 ((k : Nat) : Int) ∧ TrkI w t mb dg sm D k P S E W

/-- Behind an announcement. -/
theorem TrkI.ann {w t mb dg sm D k P S E wr w5 w8 E8 Q} {n : Int} (hI : TrkI w t mb dg sm D k P S E wr) (hD : D.length = 32) (hw5 : Below wr.heap.size wr w5) (hT : TabP w8 t 3 64 mb E8) (hs : TabStep mb E E8 w5 w8)
    {id : Int} (ha : annT 3 64 (oneT D P) D id 0 10 false = (oneT D Q, n)) (hE : tabOf E8 = (annT 3 64 (tabOf E) D id 0 10 false).1) :
    tabOf E8 = oneT D Q ∧ EntOk 3 64 E8 ∧ (∀ j, ownE mb E8 j → w.heap.size ≤ j ∧ j ≠ sm ∧ j ≠ dg) ∧ DigO w8 dg D ∧ MapL KInt w8 sm (bmL S) ∧ Below w.heap.size w w8 := by
  have h1 : tabOf E8 = oneT D Q := by rw [hE, hI.tab, ha]
  have hsl := hI.seen.lt
  have hdl := hI.dig.lt
  have hs5 := hw5.size
  refine ⟨h1, ?_, fun j hj => ?_, ?_, ?_, hs.below (below_next hI.below hw5) (below_next hI.below hw5).size (fun j hj => (hI.own j hj).1)⟩
  · unfold EntOk
    rw [hE]
    exact TabOk.ann hI.ok (by decide) (by decide) hD id 0 10 false
  · rcases hs.own j hj with h | h
    · exact hI.own j h
    · have := hI.below.size
      exact ⟨by omega, by omega, by omega⟩
  · exact (hI.dig.of_new hw5).of_block (hs.kept.block _ (by omega) (fun h => (hI.own _ h).2.2 rfl))
  · exact (hI.seen.of_new hw5).of_block (hs.kept.block _ (by omega) (fun h => (hI.own _ h).2.1 rfl))

set_option maxHeartbeats 6400000 in
theorem TopTracks_walk (v : Value) (l : List Int) (seed : Nat) (w : World) (hl : Ints w v l) (hlb : ∀ n ∈ l, inI64 n) (hseed : seed < 18446744073709551616) (hKc : Consts w) :
    Calls Tryd.prog 3 #[v, .int .u64 (seed : Int)] w fun e w' => e = .returned (.bool true) ∧ Below w.heap.size w w' := by
  obtain ⟨a, c, hv⟩ := hl.len
  subst hv
  have hle := hl.le
  have HL := Lib.hid hl
  have HLB := Lib.hid hlb
  have HK := Lib.hid hKc
  clear hl hlb hKc
  have hmm := @run_makeMap Tryd.prog
  go_enter Tryd.func3, Tryd.ntmps3
  go_upto_region 4 with (go_at_call 4; go_must (refine (New_ok 3 64 _ (by decide)).mono ?_); rintro e w2 ⟨t, mb, rfl, hT2, ht2, hmb2, hb2⟩; have HB2 := Lib.hid hb2; have HT2 := Lib.hid hT2; have HM2 := Lib.hid hmb2; have HTT := Lib.hid ht2; clear hb2 hT2 ht2 hmb2)
  by_cases h60 : 60 < l.length
  · have t1 : (60 : Int) < (l.length : Int) := by omega
    go_wp2
    go_ret
    exact ⟨rfl, HB2.out⟩
  have t1 : ¬ (60 : Int) < (l.length : Int) := by omega
  obtain ⟨D, hD⟩ : ∃ D, sumL [(120 : UInt8)] = D := ⟨_, rfl⟩
  have hD32 : D.length = 32 := by rw [← hD]; exact sumL_len _
  have HD := Lib.hid hD
  have HD32 := Lib.hid hD32
  clear hD hD32
  go_upto_region 6 with (fail)
  have HBY := Lib.hid (show Bytes _ _ _ from one_byte w2 120 5 (1, 2))
  have HB3 := Lib.hid ((Below.refl w2.heap.size w2).alloc (Nat.le_refl _) (.cells #[.int .u8 ((120 : UInt8).toNat : Int)] 5 (1, 2)))
  have kc := fun (w : World) (C : Array Value) (n c : Nat) => Lib.run_convert_bytes_const (P := Tryd.prog) w 31 5 C n c Tryd.underlying31 Tryd.underlying5
  go_upto_region 7 with (first
    | (go_at_call 5; refine (Sum_any _ [120] _ HBY.out (by simp) ((HK.out.of_new HB2.out).of_new HB3.out)).mono ?_; rw [HD.out]; rintro e w4 ⟨rfl, hb4⟩; have HB4 := Lib.hid (below_next HB3.out hb4); clear hb4)
    | ((with_reducible refine wpList_plain (o := ⟨some 7, Op.alloc _, _, _, _, _⟩) rfl fun K hK => ?_); (refine wp_alloc_dig rfl fun w5 h5 hb5 hs5 => hK _ _ ?_); have H5 := Lib.hid h5; have HB5 := Lib.hid hb5; clear h5 hb5 hs5)
    | ((with_reducible refine wpList_plain (o := ⟨none, Op.store _ (.tmp 7) (.tmp 30), _, _, _, _⟩) rfl fun K hK => ?_); (refine wp_store_digO (.tmp 7) (.tmp 30) w4.heap.size D dig0 rfl rfl rfl HD32.out H5.out fun w6 h6 hg6 hs6 => hK _ _ ?_); have HB6 := Lib.hid (HB5.out.grown hg6 (by have := HB5.out.size; omega) (fun k e => by cases e; exact Nat.le_refl _)); have H6 := Lib.hid h6; clear h6 hg6 hs6))
  go_upto_region 8 with (fail)
  obtain ⟨w7, hw7⟩ : ∃ w7, w6.alloc (.map #[] 0) = w7 := ⟨_, rfl⟩
  have hb7 : Below w6.heap.size w6 w7 := by rw [← hw7]; exact (Below.refl _ w6).alloc (Nat.le_refl _) _
  have hm7 : MapL KInt w7 w6.heap.size [] := by rw [← hw7]; exact mapL_made w6
  rw [hw7]
  obtain ⟨dg, hdg⟩ : ∃ dg, w4.heap.size = dg := ⟨_, rfl⟩
  obtain ⟨sm, hsm⟩ : ∃ sm, w6.heap.size = sm := ⟨_, rfl⟩
  rw [hdg, hsm]
  have hst : TrkI w t mb dg sm D 0 [] [] [] w7 := by
    have h3 := HB3.out.size
    have h34 := HB4.out.size
    have h46 := HB6.out.size
    have hd6 := H6.out.lt
    have hbw : Below w2.heap.size w2 w7 := below_next (below_next HB4.out HB6.out) hb7
    exact ⟨TInv.start, rfl, TabOk.nil (by decide), HT2.out.of_new hbw, fun j hj => (by rcases hj with rfl | ⟨x, hx, _⟩; (have h1 := HT2.out.own_lt (.inl rfl); have h2 := HM2.out; exact ⟨h2, by omega, by omega⟩); cases hx), by rw [← hdg]; exact H6.out.of_new hb7, by rw [← hsm]; exact hm7, below_next HB2.out hbw, by have h1 := HT2.out.lt; have h2 := HB2.out.size; omega⟩
  have HST := Lib.hid hst
  clear hst
  clear hb7 hm7 hw7 hdg hsm
  go_wp2
  go_loopw [9, 10] (fun iv _ W => TrkR w t mb dg sm D l iv W) (fun iv _ _ => l.length - (intOf iv).toNat)
  case atStart => exact ⟨0, [], [], [], Nat.zero_le _, rfl, HST.out⟩
  case round =>
    obtain ⟨k, P, S, E, hk, rfl, hI⟩ := hrel
    by_cases hlt : k < l.length
    · have hki : (k : Int) < (l.length : Int) := by omega
      obtain ⟨bb, off, c', hv, hbl, hc⟩ := HL.out.cell (by omega)
      obtain ⟨rfl, rfl⟩ : a = some ⟨bb, off, none⟩ ∧ c = c' := by cases hv; exact ⟨rfl, rfl⟩
      have hck := (hI.below.cell (p := ⟨bb, off + k, none⟩) hbl).trans (hc k hlt)
      obtain ⟨x, hx⟩ : ∃ x, l.getD k 0 = x := ⟨_, rfl⟩
      rw [hx] at hck
      have hc0 := hc k hlt
      rw [hx] at hc0
      have HC0 := Lib.hid hc0
      have hck2 := fun w' (h : Grew wr w') => Grew.cell h hck
      have hdg : DigAt wr dg 0 D := hI.dig.at_
      have HI := Lib.hid hI
      have HCK := Lib.hid hck
      have hxb : -9223372036854775808 ≤ x ∧ x ≤ 9223372036854775807 := by
        rw [← hx]
        have : l.getD k 0 = l[k] := by simp [List.getD, hlt]
        rw [this]
        exact HLB.out _ (List.getElem_mem hlt)
      have HXB := Lib.hid hxb
      clear hv hc hx hI hck hxb hc0
      go_upto_region 11 with (fail)
      refine wp_region_grew_tail 6 (by kernel_rfl) (by kernel_rfl) ?_
      simp only [List.take_succ_cons, List.take_zero, List.drop_succ_cons, List.drop_zero]
      repeat (first
        | (go_big_quiet_want; (with_reducible apply quiet_load_at (ty := 29) (x := .tmp _)); rfl; rfl; assumption; go_simp; go_big_quiet_on)
        | (go_big_quiet_want; apply quiet_val; (intro w' hw'; go_simp; first | done | rfl); go_simp; go_big_quiet_on)
        | (go_big_quiet_skip))
      refine wpQuiet_nil ?_
      intro w5 hw5
      have HT5 := Lib.hid (HI.out.mem.of_new hw5)
      have HW5 := Lib.hid hw5
      have HCK5 := Lib.hid (hck2 w5 hw5)
      clear hck2 hdg hw5
      by_cases hx : 1 ≤ x ∧ x ≤ 65536
      · obtain ⟨Q, hann, hQ⟩ := HI.out.inv.step (d := D) (by omega) hx
        have HAN := Lib.hid hann
        have hann2 := hann
        rw [← HI.out.tab] at hann2
        have HAN2 := Lib.hid hann2
        have HQ := Lib.hid hQ
        clear hann hann2 hQ
        go_upto_region 12 with (go_at_call 6; refine (Announce_any t mb 3 64 E D x 0 10 false _ HT5.out HI.out.ok (by decide) (by decide) HD32.out).mono ?_; unfold AnnPost; rintro e w8 ⟨E8, h8, he8, hT8, hs8⟩; rw [HAN2.out] at he8; subst he8; have HE8 := Lib.hid h8; have HT8 := Lib.hid hT8; have HS8 := Lib.hid hs8; clear h8 hT8 hs8)
        have hA := HI.out.ann HD32.out HW5.out HT8.out HS8.out HAN.out HE8.out
        obtain ⟨h1, h2, h3, h4, h5, h6⟩ := hA
        obtain ⟨w9, hput, hm9, hg9, hs9⟩ := h5.put (t := 32) Tryd.underlying32 (KT := KInt) (x := x) HXB.out (.bool true) (by rw [bmL_len]; have := HI.out.inv.small; omega)
        replace hput : (Instr.mapUpdate 32 (.map (some sm)) (.int .i64 x) (.bool true)).run Tryd.prog w8 = .ok () w9 := hput
        rw [bmL_put] at hm9
        have hck8 : w8.cell? ⟨bb, off + k, none⟩ = some (.int .i64 x) := (h6.cell (p := ⟨bb, off + k, none⟩) hbl).trans HC0.out
        have h9 : TrkI w t mb dg sm D (k + 1) Q (addS S x) E8 w9 := by
          refine ⟨HQ.out, h1, h2, ?_, h3, ?_, hm9, ?_, HI.out.apart⟩
          · exact HT8.out.kept (U := fun j => j ≠ sm) ((Kept.refl _ w8).grown hg9 (fun r e => by cases e; exact fun h => h rfl)) HI.out.apart.1 (fun j hj => (h3 j hj).2.1)
          · exact h4.of_block (hg9.block _ h4.lt (fun e => HI.out.apart.2.1 (by cases e; rfl)))
          · exact h6.grown hg9 h6.size (fun r e => by cases e; exact HI.out.apart.2.2)
        have H9 := Lib.hid h9
        clear h1 h2 h3 h4 h5 h6 hm9 hg9 hs9 h9
        go_wp2
        go_roundw
        case rel => exact ⟨k + 1, Q, _, E8, by omega, by go_num, H9.out⟩
        case measure => simp [intOf]; omega
      · have hann := ann_not (d := D) (P := P) hx
        have HAN := Lib.hid hann
        have hann2 := hann
        rw [← HI.out.tab] at hann2
        have HAN2 := Lib.hid hann2
        clear hann hann2
        go_upto_region 12 with (go_at_call 6; refine (Announce_any t mb 3 64 E D x 0 10 false _ HT5.out HI.out.ok (by decide) (by decide) HD32.out).mono ?_; unfold AnnPost; rintro e w8 ⟨E8, h8, he8, hT8, hs8⟩; rw [HAN2.out] at he8; subst he8; have HE8 := Lib.hid h8; have HT8 := Lib.hid hT8; have HS8 := Lib.hid hs8; clear h8 hT8 hs8)
        have hA := HI.out.ann HD32.out HW5.out HT8.out HS8.out (HAN.out.trans (by rw [← HI.out.tab])) HE8.out
        obtain ⟨h1, h2, h3, h4, h5, h6⟩ := hA
        have h9 : TrkI w t mb dg sm D (k + 1) P S E8 w8 := ⟨HI.out.inv.bad, h1, h2, HT8.out, h3, h4, h5, h6, HI.out.apart⟩
        have H9 := Lib.hid h9
        clear h1 h2 h3 h4 h5 h6 h9
        go_wp2
        go_roundw
        case rel => exact ⟨k + 1, P, S, E8, by omega, by go_num, H9.out⟩
        case measure => simp [intOf]; omega
    · obtain rfl : k = l.length := by omega
      have hki : ¬ (l.length : Int) < (l.length : Int) := by omega
      obtain ⟨n, hn⟩ : ∃ n, l.length = n := ⟨_, rfl⟩
      have HNL := Lib.hid hn
      have HI := Lib.hid hI
      rw [hn] at hki t1 ⊢
      clear hI hk hlt hn
      go_wp2
      go_loopw [11, 12, 13, 14] (fun iv _ _ _ W => ∃ k : Nat, k ≤ n ∧ iv = .int .i64 (k : Int) ∧ Below wr.heap.size wr W) (fun iv _ _ _ _ => n - (intOf iv).toNat)
      case atStart => exact ⟨0, Nat.zero_le _, rfl, Below.refl _ _⟩
      case round =>
        rename World => w9
        obtain ⟨k, hk, rfl, hb9⟩ := hrel
        by_cases hlt : k < n
        · have hki : (k : Int) < (n : Int) := by omega
          have hlt2 : k < l.length := by rw [HNL.out]; exact hlt
          obtain ⟨bb, off, c', hv, hbl, hc⟩ := HL.out.cell (by omega)
          rw [HNL.out] at hv
          obtain ⟨rfl, rfl⟩ : a = some ⟨bb, off, none⟩ ∧ c = c' := by cases hv; exact ⟨rfl, rfl⟩
          have hck := ((below_next HI.out.below hb9).cell (p := ⟨bb, off + k, none⟩) hbl).trans (hc k hlt2)
          obtain ⟨x, hx⟩ : ∃ x, l.getD k 0 = x := ⟨_, rfl⟩
          rw [hx] at hck
          have hc0 := hc k hlt2
          rw [hx] at hc0
          have HC0 := Lib.hid hc0
          have hxb : -9223372036854775808 ≤ x ∧ x ≤ 9223372036854775807 := by
            rw [← hx]
            have : l.getD k 0 = l[k] := by simp [List.getD, hlt2]
            rw [this]
            exact HLB.out _ (List.getElem_mem hlt2)
          have HXB := Lib.hid hxb
          have hsn := HI.out.seen.of_new hb9
          have hlk := hsn.look (t := 32) Tryd.underlying32 (Tryd.zeroValue4 _) (KT := KInt) (x := x) hxb
          rw [bmL_get] at hlk
          by_cases hS : x ∈ S
          · rw [decide_eq_true hS] at hlk
            replace hlk : (Instr.lookup 32 (.map (some sm)) (.int .i64 x) false).run Tryd.prog _ = .ok (.bool true) _ := hlk
            have hck2 := fun w' (h : Grew w9 w') => Grew.cell h hck
            have hdg : DigAt w9 dg 0 D := (HI.out.dig.of_new hb9).at_
            have HS := Lib.hid hS
            have HB9 := Lib.hid hb9
            have HC9 := Lib.hid hck
            clear hv hc hx hS hxb hsn hb9 hc0
            go_upto_region 18 with (fail)
            clear hck hlk
            refine wp_region_grew_tail 7 (by kernel_rfl) (by kernel_rfl) ?_
            simp only [List.take_succ_cons, List.take_zero, List.drop_succ_cons, List.drop_zero]
            repeat (first
              | (go_big_quiet_want; (with_reducible apply quiet_load_at (ty := 29) (x := .tmp _)); rfl; rfl; assumption; go_simp; go_big_quiet_on)
              | (go_big_quiet_want; apply quiet_val; (intro w' hw'; go_simp; first | done | rfl); go_simp; go_big_quiet_on)
              | (go_big_quiet_skip))
            refine wpQuiet_nil ?_
            intro w5 hw5
            have hb5 := below_next HB9.out hw5
            have HT5 := Lib.hid (HI.out.mem.of_new hb5)
            have HB5 := Lib.hid hb5
            have hpe : peersT D (tabOf E) = P := by rw [HI.out.tab]; exact peersT_one
            have HPE := Lib.hid hpe
            have hhe := HI.out.inv.heard (by omega) HS.out seed
            obtain ⟨l2, hl2⟩ : ∃ l2, sampleL seed (othersL P x) 100 = l2 := ⟨_, rfl⟩
            rw [hl2] at hhe
            have HL2 := Lib.hid hl2
            have HHE := Lib.hid hhe
            clear hck2 hdg hw5 hb5 hpe hl2 hhe
            go_upto_region 19 with (go_at_call 7; refine (Ask_any t mb 3 64 E D x 100 seed _ HT5.out HI.out.ok (by decide) HD32.out hseed).mono ?_; rw [HPE.out, HL2.out]; rintro e w6 ⟨v6, rfl, hi6, hb6⟩; obtain ⟨a6, c6, hv6⟩ := hi6.len; subst hv6; have HI6 := Lib.hid hi6; have HB6 := Lib.hid (below_next HB5.out hb6); clear hi6 hb6)
            have hck6 : w6.cell? ⟨bb, off + k, none⟩ = some (.int .i64 x) := ((below_next HI.out.below HB6.out).cell (p := ⟨bb, off + k, none⟩) hbl).trans HC0.out
            have hck10 : (w6.alloc (.map #[] 0)).cell? ⟨bb, off + k, none⟩ = some (.int .i64 x) := ((Below.refl w6.heap.size w6).alloc (Nat.le_refl _) _ |>.cell (p := ⟨bb, off + k, none⟩) (World.block_lt_of_cell? _ _ hck6)).trans hck6
            obtain ⟨w11, hput, hm11, hg11, hs11⟩ := (mapL_made (KT := KInt) w6).put (t := 32) Tryd.underlying32 (x := x) HXB.out (.bool true) (by simp)
            replace hput : (Instr.mapUpdate 32 (.map (some w6.heap.size)) (.int .i64 x) (.bool true)).run Tryd.prog (w6.alloc (.map #[] 0)) = .ok () w11 := hput
            have hm11' : MapL KInt w11 w6.heap.size (bmL [x]) := hm11
            have hb11 : Below w6.heap.size w6 w11 := ((Below.refl _ w6).alloc (Nat.le_refl _) _).grown hg11 (by simp) (fun r e => by cases e; exact Nat.le_refl _)
            have HM11 := Lib.hid hm11'
            have HB11 := Lib.hid hb11
            clear hm11 hm11' hb11 hg11 hs11
            go_upto_region 20 with (fail)
            clear hput hck6 hck10
            go_wp2
            go_loopw [14] (fun jv W => ∃ j : Nat, j ≤ l2.length ∧ jv = .int .i64 (j : Int) ∧ MapL KInt W w6.heap.size (bmL (gotS (l2.take j) [x])) ∧ Below w6.heap.size w6 W) (fun jv _ => l2.length - (intOf jv).toNat)
            case atStart => exact ⟨0, Nat.zero_le _, rfl, HM11.out, HB11.out⟩
            case round =>
              rename World => w12
              obtain ⟨j, hj, rfl, hm12, hb12⟩ := hrel
              by_cases hjl : j < l2.length
              · have hji : (j : Int) < (l2.length : Int) := by omega
                obtain ⟨b6, o6, c6', hv, hbl6, hc6⟩ := HI6.out.cell (by omega)
                obtain ⟨rfl, rfl⟩ : a6 = some ⟨b6, o6, none⟩ ∧ c6 = c6' := by cases hv; exact ⟨rfl, rfl⟩
                have hcj := (hb12.cell (p := ⟨b6, o6 + j, none⟩) hbl6).trans (hc6 j hjl)
                obtain ⟨y, hy⟩ : ∃ y, l2.getD j 0 = y := ⟨_, rfl⟩
                rw [hy] at hcj
                have hyl : l2[j]? = some y := by rw [← hy]; simp [List.getD, hjl]
                have hyb := HI.out.inv.heard_id HL2.out (List.mem_of_getElem? hyl)
                have htk : l2.take (j + 1) = l2.take j ++ [y] := by rw [List.take_add_one, hyl]; rfl
                have hgl := gotS_len (l2.take j) [x]
                rw [List.length_take] at hgl
                have hsm := HHE.out
                have hss := HI.out.inv.small
                have hnl := HNL.out
                have hl2b : l2.length ≤ 60 := by have := hsm.1; omega
                obtain ⟨w13, hput, hm13, hg13, hs13⟩ := hm12.put (t := 32) Tryd.underlying32 (KT := KInt) (x := y) (show _ ∧ _ by omega) (.bool true) (by rw [bmL_len]; simp at hgl; omega)
                replace hput : (Instr.mapUpdate 32 (.map (some w6.heap.size)) (.int .i64 y) (.bool true)).run Tryd.prog _ = .ok () w13 := hput
                rw [bmL_put, ← gotS_snoc, ← htk] at hm13
                have HM13 := Lib.hid hm13
                have HB13 := Lib.hid (hb12.grown hg13 hb12.size (fun r e => by cases e; exact Nat.le_refl _))
                clear hv hc6 hy hyl hyb htk hgl hsm hss hm13 hg13 hs13 hm12 hb12
                go_wp2
                go_roundw
                case rel => exact ⟨j + 1, by omega, by go_num, HM13.out, HB13.out⟩
                case measure => simp [intOf]; omega
              · obtain rfl : j = l2.length := by omega
                rw [List.take_length] at hm12
                obtain ⟨N, hN⟩ : ∃ N, l2.length = N := ⟨_, rfl⟩
                have hhe := HHE.out
                rw [hN] at hhe ⊢
                have hji : ¬ (N : Int) < (N : Int) := by omega
                have hln1 := fun ty => hm12.len (t := 32) Tryd.underlying32 ty
                have hsn := (HI.out.seen.of_new HB6.out).of_new hb12
                have hln2 := fun ty => hsn.len (t := 32) Tryd.underlying32 ty
                rw [bmL_len, hhe.2, ← hhe.1] at hln1
                rw [bmL_len, ← hhe.1] at hln2
                have HB12 := Lib.hid (below_next HB6.out hb12)
                have hws : wrap64 (N : Int) = (N : Int) := by
                  have h2 := HI.out.inv.small
                  have h3 := HNL.out
                  unfold wrap64; omega
                clear hhe hN hm12 hb12 hsn hj hjl
                go_wp2
                go_roundw
                case rel => exact ⟨k + 1, by omega, by go_num, HB12.out⟩
                case measure => simp [intOf]; omega
          · rw [decide_eq_false hS] at hlk
            replace hlk : (Instr.lookup 32 (.map (some sm)) (.int .i64 x) false).run Tryd.prog _ = .ok (.bool false) _ := hlk
            have HB9 := Lib.hid hb9
            clear hv hc hx hS hxb hsn hb9 hc0
            go_wp2
            go_roundw
            case rel => exact ⟨k + 1, by omega, by go_num, HB9.out⟩
            case measure => simp [intOf]; omega
        · obtain rfl : k = n := by omega
          have hki : ¬ (k : Int) < (k : Int) := by omega
          go_wp2
          go_ret
          exact ⟨rfl, below_next HI.out.below hb9⟩

end Go.Proofs.YtjmjaailmlnkjaaDoor

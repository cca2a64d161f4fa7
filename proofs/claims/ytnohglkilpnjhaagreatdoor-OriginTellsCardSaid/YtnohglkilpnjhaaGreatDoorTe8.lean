/- Texts of this claim, one behind the other: each begins with a comment that says what it proves and asks. -/
import Derived.Test.YtnohglkilpnjhaaGreatDoorTe7
import Derived.Outline
import Derived.Test.YtnohglkilpnjhaaGreatDoorProg
import Derived.LoopNIn
import Derived.LoopIn
import Derived.Shelf.Abstract
import Derived.Shelf.RegionOpen
/- The walk of digest.Tagged: the hash of parts, of a kind. Conditions: the table of constants as the program lays it; no more than 40 parts of no more than 2^20 bytes. -/
namespace Go.Proofs.YtnohglkilpnjhaaGreatDoor
open Go.RowKit
set_option linter.unusedVariables false

theorem Own8.one (w : World) (A : Array Value) (t e : Nat) (x : UInt8) : Own8 ((w.alloc (.cells A t)).alloc (.cells #[.int .u8 (x.toNat : Int)] e)) (w.heap.size + 1) e (.slice (some ⟨w.heap.size + 1, 0, none⟩) 1 1) [x] := by
  refine ⟨rfl, .inr ⟨w.heap.size + 1, 1, #[.int .u8 (x.toNat : Int)], rfl, Nat.le_refl _, ?_, Nat.le_refl _, by unfold maxLen; omega, rfl, rfl⟩⟩
  have := heap_alloc_new (w.alloc (.cells A t)) (.cells #[.int .u8 (x.toNat : Int)] e)
  rwa [World.size_alloc] at this

theorem len8_byte (n j : Nat) : Value.int .u8 ((n : Int) / 2 ^ (8 * j) % 256) = B8 (UInt8.ofNat (n / 256 ^ j % 256)) := by
  unfold B8
  congr 1
  rw [UInt8.toNat_ofNat', Nat.mod_mod, show (256 : Nat) ^ j = 2 ^ (8 * j) from by rw [Nat.pow_mul]]
  simp

/-- The i-th part of a slice of parts. -/
theorem PartsV.at_ {w : World} {v : Value} {ps : List (List UInt8)} (h : PartsV w v ps) (h0 : 0 < ps.length) : ∃ b off c, v = .slice (some ⟨b, off, none⟩) ps.length c ∧ b < w.heap.size ∧ ∀ i, i < ps.length → ∃ a c, w.cell? ⟨b, off + i, none⟩ = some (.slice a (ps.getD i []).length c) ∧ Bytes w (.slice a (ps.getD i []).length c) (ps.getD i []) := by
  obtain ⟨a, c, rfl, _, _, _, h4⟩ := h
  obtain ⟨b, off, rfl, hb, hc⟩ := h4 h0
  refine ⟨b, off, c, rfl, hb, fun i hi => ?_⟩
  obtain ⟨u, hu, hub⟩ := hc i hi
  obtain ⟨a', c', rfl⟩ := hub.len
  exact ⟨a', c', hu, hub⟩

set_option maxRecDepth 100000 in
set_option maxHeartbeats 1600000 in
theorem Tagged_any (tag : UInt8) (v : Value) (ps : List (List UInt8)) (w : World) (hp : PartsV w v ps) (h40 : ps.length ≤ 40) (hm : ∀ p ∈ ps, p.length ≤ 1048576) (hK : Consts w) :
    Calls Tryz.prog 112 #[.int .u8 (tag.toNat : Int), v] w fun e w' => e = .returned (.agg ((sumL (partsL tag ps)).map B8).toArray) ∧ Below w.heap.size w w' := by
  obtain ⟨i0, hi, hz0, hz1, hz2⟩ := info_parts infoU8
  obtain ⟨va, vc, hv⟩ := hp.len
  subst hv
  have HP := Lib.hid hp
  have HK := Lib.hid hK
  have HM := Lib.hid hm
  have htot : ∀ k, (partsL tag (ps.take k)).length ≤ 41943401 := fun k => by
    have h1 := partsL_len tag (ps.take k) 1048576 (fun p hp => hm p (List.mem_of_mem_take hp))
    have h2 : (ps.take k).length ≤ 40 := by rw [List.length_take]; omega
    have h3 : (ps.take k).length * (8 + 1048576) ≤ 40 * (8 + 1048576) := Nat.mul_le_mul_right _ h2
    omega
  have HT := Lib.hid htot
  clear hp hK hm htot
  go_enter Tryz.func112, Tryz.ntmps112
  go_wp2
  generalize hW1 : (w.alloc _).alloc _ = W1
  obtain ⟨hO, hR, hb, hz⟩ : Own8 W1 (w.heap.size + 1) 5 (.slice (some ⟨w.heap.size + 1, 0, none⟩) 1 1) [tag] ∧ Octs W1 w.heap.size 31 (List.replicate 32 0) ∧ Below w.heap.size w W1 ∧ w.heap.size + 2 = W1.heap.size := by
    subst hW1
    exact ⟨Own8.one w _ _ _ tag, (Below.heap_alloc _ _ _ (by simp)).trans (heap_alloc_new w _), ((Below.refl _ w).alloc (Nat.le_refl _) _).alloc (by simp) _, by simp⟩
  clear hW1
  go_loopw [5, 13] (fun bv iv wr => ∃ k : Nat, k ≤ ps.length ∧ iv = .int .i64 k ∧ Own8 wr (w.heap.size + 1) 5 bv (partsL tag (ps.take k)) ∧ Octs wr w.heap.size 31 (List.replicate 32 0) ∧ Below w.heap.size w wr ∧ w.heap.size + 2 ≤ wr.heap.size)
    (fun _ iv _ => ps.length - (intOf iv).toNat)
  case atStart => exact ⟨0, by omega, rfl, hO, hR, hb, by omega⟩
  case round =>
    clear hO hR hb hz
    obtain ⟨k, hk, rfl, hO, hR, hb, hz⟩ := hrel
    obtain ⟨X, hX⟩ : ∃ X, X = partsL tag (ps.take k) := ⟨_, rfl⟩
    have hXl : X.length ≤ 41943401 := by rw [hX]; exact HT.out k
    rw [← hX] at hO
    obtain ⟨oa, oc, rfl⟩ := hO.bytes.len
    have HO := Lib.hid hO
    have HR := Lib.hid hR
    have HB := Lib.hid hb
    have EX := Lib.hid hX
    clear hO hR hb hX
    by_cases hlt : k < ps.length
    · obtain ⟨pb, poff, pc, hpv, hpb, hat⟩ := HP.out.at_ (by omega)
      obtain ⟨rfl, rfl⟩ : va = some ⟨pb, poff, none⟩ ∧ vc = pc := by cases hpv; exact ⟨rfl, rfl⟩
      obtain ⟨ua, uc, hcell, hu⟩ := hat k hlt
      obtain ⟨p, hp⟩ : ∃ p, p = ps.getD k [] := ⟨_, rfl⟩
      rw [← hp] at hcell hu
      have hpl : p.length ≤ 1048576 := by
        rw [hp, List.getD_eq_getElem?_getD, List.getElem?_eq_getElem hlt]; exact HM.out _ (List.getElem_mem hlt)
      have hc1 : wr.cell? ⟨pb, poff + k, none⟩ = some (.slice ua p.length uc) := (HB.out.cell (p := ⟨pb, poff + k, none⟩) hpb).trans hcell
      have HU := Lib.hid hu
      have EP := Lib.hid hp
      clear hpv hat hcell hu hp
      obtain ⟨wo, rfl⟩ : ∃ wo : World, wo = wr := ⟨_, rfl⟩
      go_wp2
      go_loopw [5, 8, 17] (fun bv _ jv wx => ∃ j : Nat, j ≤ 8 ∧ jv = .int .i64 j ∧ Own8 wx (w.heap.size + 1) 5 bv (X ++ (len8 p.length).take j) ∧ Below (w.heap.size + 1) wo wx)
        (fun _ _ jv _ => 8 - (intOf jv).toNat)
      case atStart => exact ⟨0, by omega, rfl, by simpa using HO.out, Below.refl _ _⟩
      case round =>
        obtain ⟨j, hj, rfl, hown, hbx⟩ := hrel
        obtain ⟨Y, hY⟩ : ∃ Y, Y = X ++ (len8 p.length).take j := ⟨_, rfl⟩
        have hYl : Y.length = X.length + j := by rw [hY, List.length_append, List.length_take, len8_len]; omega
        rw [← hY] at hown
        have EY := Lib.hid hY
        obtain ⟨ya, yc, rfl⟩ := hown.bytes.len
        have HY := Lib.hid hown
        have hsx := hbx.size
        clear hY hown
        by_cases hjt : j < 8
        · have HY1 := Lib.hid (HY.out.alloc (.cells #[.int .u8 ((p.length : Int) / 2 ^ (8 * j) % 256)] 5))
          have one1 : ∀ W : World, Bytes (W.alloc (.cells #[.int .u8 ((p.length : Int) / 2 ^ (8 * j) % 256)] 5)) (.slice (some ⟨W.heap.size, 0, none⟩) 1 1) [UInt8.ofNat (p.length / 256 ^ j % 256)] := fun W => by
            rw [len8_byte]; exact Bytes.one W _ 5
          have HYL := Lib.hid hYl
          clear hYl
          go_wp2_with (at_builtin; refine wpList_app8 rfl (.tmp 20) (.tmp 28) 33 rfl (w.heap.size + 1) 5 i0 Tryz.underlying33 hi hz0 hz1 hz2 _ _ rfl HY1.out _ [UInt8.ofNat (p.length / 256 ^ j % 256)] rfl (one1 wr) ?d1 ?d2 ?_)
          case d1 => rw [HYL.out]; simp; omega
          case d2 => simp; omega
          intro v3 w3 ho3 hg3 _
          have hb3 := app_kept HY1.out HY.out (by omega) hg3
          go_wp2
          go_roundw
          case rel =>
            refine ⟨j + 1, by omega, by go_num, ?_, hbx.trans hb3⟩
            rw [len8_next _ _ hjt, ← List.append_assoc, ← EY.out]
            exact ho3
          case measure => simp [intOf]; omega
        · obtain rfl : j = 8 := by omega
          have eY : Y = X ++ len8 p.length := by rw [EY.out, List.take_of_length_le (by rw [len8_len]; omega)]
          rw [show ((8 : Nat) : Int) = 8 from rfl]
          have HYL := Lib.hid hYl
          have HE := Lib.hid eY
          have HU1 := Lib.hid ((HU.out.of_new (HB.out.trans (hbx.mono (by omega)))))
          clear hYl eY hjt
          go_wp2_with (at_builtin; refine wpList_app8 rfl (.tmp 31) (.tmp 32) 33 rfl (w.heap.size + 1) 5 i0 Tryz.underlying33 hi hz0 hz1 hz2 _ _ rfl HY.out _ p rfl HU1.out ?d1 ?d2 ?_)
          case d1 => rw [HYL.out]; omega
          case d2 => omega
          intro v3 w3 ho3 hg3 _
          have hb3 : Below (w.heap.size + 1) wr w3 := (Below.refl _ _).grown hg3 (by omega) (fun q hq => (HY.out.lt q hq).1)
          go_wp2
          go_roundw
          case rel =>
            refine ⟨k + 1, by omega, by go_num, ?_, HR.out.of_block ((hbx.trans hb3).block _ (by omega)), HB.out.trans ((hbx.trans hb3).mono (by omega)), by have := hb3.size; omega⟩
            rw [partsTo_next _ _ _ hlt, ← EX.out, ← EP.out, ← HE.out]
            exact ho3
          case measure => simp [intOf]; omega
    · obtain rfl : k = ps.length := by omega
      have eX : X = partsL tag ps := by rw [EX.out, List.take_length]
      have HEX := Lib.hid eX
      have HDL := Lib.hid (sumL_len X)
      have HKr := Lib.hid (HK.out.of_new HB.out)
      clear eX hlt hk
      go_wp2_with fail
      refine (Sum_any _ X _ HO.out.bytes (by omega) HKr.out).mono ?_
      rintro e w2 ⟨rfl, hb2⟩
      have hR2 := Lib.hid (HR.out.of_block (hb2.block _ (by omega)))
      have hbF := Lib.hid (below_next HB.out hb2)
      clear hb2
      go_wp2_with ((with_reducible refine wpList_store_octs (op := ⟨none, Op.store 31 (.tmp 4) (.tmp 36), _, _, _, _⟩) 31 (.tmp 4) (.tmp 36) w.heap.size 31 (List.replicate 32 (0 : UInt8)) (sumL X) ?g ?ho ?hx ?hy ?hh ?hi ?hs ?_); (case g => rfl); (case ho => rfl); (case hx => rfl); (case hy => rfl); (case hh => exact hR2.out); (case hi => rw [HDL.out]; kernel_rfl); (case hs => rw [HDL.out]; rfl))
      rw [← HEX.out]
      refine bodyPost_ret (results_cell rfl _ rfl (run_loadVar_row _ _ 31 _ ((sumL X).map B8).toArray (0, 0) _ (setRow_heap _ _ _ _ _ _ hR2.out) Tryz.underlying31 rfl (by rw [info_dig]; simp [sumL_len]))) rfl ⟨rfl, ?_⟩
      exact hbF.out.trans (below_setRow' _ _ _ (Nat.le_refl _))

end Go.Proofs.YtnohglkilpnjhaaGreatDoor

/- The walk of the reference's chunk: the state behind a chunk. Condition: 64 bytes or more. -/
namespace Go.Proofs.YtnohglkilpnjhaaGreatDoor
open Go.RowKit
set_option linter.unusedVariables false

attribute [local go_sem] w32_add w32_xor w32_and w32_or

theorem w32_not (x : UInt32) : bits BinOp.xor IntKind.u32 (if IntKind.u32.signed = true then -1 else IntKind.u32.max) (w32 x) = w32 (~~~x) := by
  have e : (if IntKind.u32.signed = true then -1 else IntKind.u32.max) = w32 4294967295 := rfl
  rw [e, w32_xor]
  congr 1
attribute [local go_sem] w32_not

end Go.Proofs.YtnohglkilpnjhaaGreatDoor

/- The walk of the reference's Sum: the hash of bytes. Condition: no more than 2^40 bytes. -/
namespace Go.Proofs.YtnohglkilpnjhaaGreatDoor
open Go.RowKit
set_option linter.unusedVariables false

theorem Words.lt {w : World} {g t : Nat} {ws : List UInt32} (h : Words w g t ws) : g < w.heap.size := (Array.getElem?_eq_some_iff.1 h).1

end Go.Proofs.YtnohglkilpnjhaaGreatDoor

/- The walks of the reference's Parts and Tagged, and of the law's few. Conditions: no more than 40 parts of no more than 2^20 bytes. -/
namespace Go.Proofs.YtnohglkilpnjhaaGreatDoor
open Go.RowKit
set_option linter.unusedVariables false

theorem Own8.first (w : World) (e : Nat) (x : UInt8) : Own8 (w.alloc (.cells #[.int .u8 (x.toNat : Int)] e)) w.heap.size e (.slice (some ⟨w.heap.size, 0, none⟩) 1 1) [x] :=
  ⟨rfl, .inr ⟨w.heap.size, 1, #[.int .u8 (x.toNat : Int)], rfl, Nat.le_refl _, heap_alloc_new w _, Nat.le_refl _, by unfold maxLen; omega, rfl, rfl⟩⟩

end Go.Proofs.YtnohglkilpnjhaaGreatDoor

/- The walks of Leaf and Node, of merkle and of the document's answer: the hash of a piece, and of two hashes. Conditions: the table of constants as the program lays it (merkle's); a piece of no more than 2^20 bytes; hashes of 32 bytes. -/
namespace Go.Proofs.YtnohglkilpnjhaaGreatDoor
open Go.RowKit
set_option linter.unusedVariables false
set_option linter.unusedSimpArgs false

def leafL (b : List UInt8) : List UInt8 := sumL (partsL 0 [b])
def nodeL (x y : List UInt8) : List UInt8 := sumL (partsL 1 [x, y])
def noneL : List UInt8 := sumL (partsL 2 [])
theorem leafL_len (b : List UInt8) : (leafL b).length = 32 := sumL_len _
theorem nodeL_len (x y : List UInt8) : (nodeL x y).length = 32 := sumL_len _
theorem noneL_len : noneL.length = 32 := sumL_len _

theorem parts_one {W : World} {g t : Nat} {u : Value} {b : List UInt8} (h : W.heap[g]? = some (.cells #[u] t (0, 0))) (hu : Bytes W u b) : PartsV W (.slice (some ⟨g, 0, none⟩) 1 1) [b] := by
  refine ⟨_, 1, rfl, Nat.le_refl _, by unfold maxLen; omega, (fun h => by cases h), fun _ => ⟨g, 0, rfl, (Array.getElem?_eq_some_iff.1 h).1, fun i hi => ?_⟩⟩
  obtain rfl : i = 0 := by simp at hi; omega
  exact ⟨u, by simp [World.cell?, h], hu⟩
theorem parts_two {W : World} {g t : Nat} {u v : Value} {a b : List UInt8} (h : W.heap[g]? = some (.cells #[u, v] t (0, 0))) (hu : Bytes W u a) (hv : Bytes W v b) : PartsV W (.slice (some ⟨g, 0, none⟩) 2 2) [a, b] := by
  refine ⟨_, 2, rfl, Nat.le_refl _, by unfold maxLen; omega, (fun h => by cases h), fun _ => ⟨g, 0, rfl, (Array.getElem?_eq_some_iff.1 h).1, fun i hi => ?_⟩⟩
  match i, hi with
  | 0, _ => exact ⟨u, by simp [World.cell?, h], hu⟩
  | 1, _ => exact ⟨v, by simp [World.cell?, h], hv⟩
theorem bytes_octs {W : World} {g t : Nat} {bs : List UInt8} (h : Octs W g t bs) (hl : bs.length = 32) : Bytes W (.slice (some ⟨g, 0, none⟩) 32 32) bs := by
  refine ⟨by simp, _, 32, ?_, by omega, by unfold maxLen; omega, (fun h => by cases h), fun _ => ⟨g, 0, rfl, (Array.getElem?_eq_some_iff.1 h).1, fun j hj => ?_⟩⟩
  · rw [hl]
  · rw [Nat.zero_add, h.cell (by omega)]
    rw [List.getElem?_map, List.getElem?_eq_getElem (by omega)]
    simp [List.getD, List.getElem?_eq_getElem (show j < bs.length by omega)]

set_option maxRecDepth 100000 in
set_option maxHeartbeats 800000 in
theorem Leaf_any (v : Value) (b : List UInt8) (w : World) (hb : Bytes w v b) (hl : b.length ≤ 1048576) (hK : Consts w) :
    Calls Tryz.prog 70 #[v] w fun e w' => e = .returned (.agg ((leafL b).map B8).toArray) ∧ Below w.heap.size w w' := by
  have HDL := Lib.hid (sumL_len (partsL 0 [b]))
  obtain ⟨va, vc, hv⟩ := hb.len
  subst hv
  have HB := Lib.hid hb
  clear hb
  go_enter Tryz.func70, Tryz.ntmps70
  go_wp2_with fail
  generalize hW1 : (w.alloc _).alloc _ = W1
  obtain ⟨hR, hP, hb1, hz⟩ : Octs W1 w.heap.size 31 (List.replicate 32 0) ∧ PartsV W1 (.slice (some ⟨w.heap.size + 1, 0, none⟩) 1 1) [b] ∧ Below w.heap.size w W1 ∧ w.heap.size + 2 = W1.heap.size := by
    subst hW1
    refine ⟨(Below.heap_alloc _ _ _ (by simp)).trans (heap_alloc_new w _), parts_one (t := 33) (u := .slice va b.length vc) ?_ ((HB.out.of_alloc _).of_alloc _), ((Below.refl _ w).alloc (Nat.le_refl _) _).alloc (by simp) _, by simp⟩
    have := heap_alloc_new (w.alloc (.cells ((List.replicate 32 (0 : UInt8)).map B8).toArray 31)) (.cells #[.slice va b.length vc] 33)
    rwa [World.size_alloc] at this
  clear hW1
  refine (Tagged_any 0 _ [b] W1 hP (by simp) (by simpa using hl) (hK.of_new hb1)).mono ?_
  rintro e w2 ⟨rfl, hb2⟩
  have hR2 := Lib.hid (hR.of_block (hb2.block _ (by omega)))
  have hbF := Lib.hid (below_next hb1 (hb2.mono (by omega)))
  clear hb2 hb1 hR hP
  go_wp2_with ((with_reducible refine wpList_store_octs (op := ⟨none, Op.store 31 (.tmp 2) (.tmp 5), _, _, _, _⟩) 31 (.tmp 2) (.tmp 5) (w.heap.size) 31 (List.replicate 32 (0 : UInt8)) (sumL (partsL 0 [b])) ?g ?ho ?hx ?hy ?hh ?hi ?hs ?_); (case g => rfl); (case ho => rfl); (case hx => rfl); (case hy => rfl); (case hh => exact hR2.out); (case hi => rw [HDL.out]; kernel_rfl); (case hs => rw [HDL.out]; rfl))
  refine bodyPost_ret (results_cell rfl _ rfl (run_loadVar_row _ _ 31 _ ((sumL (partsL 0 [b])).map B8).toArray (0, 0) _ (setRow_heap _ _ _ _ _ _ hR2.out) Tryz.underlying31 rfl (by rw [info_dig]; simp [sumL_len]))) rfl ⟨rfl, ?_⟩
  exact hbF.out.trans (below_setRow' _ _ _ (Nat.le_refl _))

set_option maxRecDepth 100000 in
set_option maxHeartbeats 800000 in
theorem Node_any (x y : List UInt8) (w : World) (hx : x.length = 32) (hy : y.length = 32) (hK : Consts w) :
    Calls Tryz.prog 111 #[.agg (x.map B8).toArray, .agg (y.map B8).toArray] w fun e w' => e = .returned (.agg ((nodeL x y).map B8).toArray) ∧ Below w.heap.size w w' := by
  have HDL := Lib.hid (sumL_len (partsL 1 [x, y]))
  have HX := Lib.hid hx
  have HY := Lib.hid hy
  clear hx hy
  go_enter Tryz.func111, Tryz.ntmps111
  go_upto_region 1 with (fail)
  generalize hW0 : ((w.alloc _).alloc _).alloc _ = W0
  obtain ⟨hO1, hO2, hO3, hb0, hz0⟩ : Octs W0 w.heap.size 31 x ∧ Octs W0 (w.heap.size + 1) 31 y ∧ Octs W0 (w.heap.size + 1 + 1) 31 (List.replicate 32 0) ∧ Below w.heap.size w W0 ∧ w.heap.size + 3 = W0.heap.size := by
    subst hW0
    refine ⟨(Below.heap_alloc _ _ _ (by simp; omega)).trans ((Below.heap_alloc _ _ _ (by simp)).trans (heap_alloc_new w _)), ?_, ?_, (((Below.refl _ w).alloc (Nat.le_refl _) _).alloc (by simp) _).alloc (by simp; omega) _, by simp⟩
    · refine (Below.heap_alloc _ _ _ (by simp)).trans ?_
      have := heap_alloc_new (w.alloc (.cells (x.map B8).toArray 31)) (.cells (y.map B8).toArray 31)
      rwa [World.size_alloc] at this
    · have := heap_alloc_new ((w.alloc (.cells (x.map B8).toArray 31)).alloc (.cells (y.map B8).toArray 31)) (.cells ((List.replicate 32 (0 : UInt8)).map B8).toArray 31)
      rwa [World.size_alloc, World.size_alloc] at this
  clear hW0
  refine wp_region_grew_tail 2 (by kernel_rfl) (by kernel_rfl) ?_
  simp only [List.take_succ_cons, List.take_zero, List.drop_succ_cons, List.drop_zero]
  (go_big_quiet_want; apply quiet_val; (intro w' hw'; go_simp; first | done | rfl); go_simp; go_big_quiet_on)
  (go_big_quiet_want; apply quiet_val; (intro w' hw'; go_simp; first | done | rfl); go_simp; go_big_quiet_on)
  refine wpQuiet_nil ?_
  intro w1 hw1
  have HO1 := Lib.hid (hw1.octs hO1)
  have HO2 := Lib.hid (hw1.octs hO2)
  have HO3 := Lib.hid (hw1.octs hO3)
  have HB1 := Lib.hid (hb0.trans (hw1.mono (by omega)) : Below w.heap.size w w1)
  have hz1 : w.heap.size + 3 ≤ w1.heap.size := by have := Below.size hw1; omega
  clear hw1 hO1 hO2 hO3 hb0
  go_wp2_with fail
  generalize hW2 : w1.alloc _ = w2
  obtain ⟨hP, hR, hb2, hz2⟩ : PartsV w2 (.slice (some ⟨w1.heap.size, 0, none⟩) 2 2) [x, y] ∧ Octs w2 (w.heap.size + 1 + 1) 31 (List.replicate 32 0) ∧ Below w.heap.size w w2 ∧ w1.heap.size + 1 = w2.heap.size := by
    subst hW2
    refine ⟨parts_two (t := 33) (heap_alloc_new w1 _) ((bytes_octs HO1.out HX.out).of_alloc _) ((bytes_octs HO2.out HY.out).of_alloc _), (HO3.out.of_block (Below.heap_alloc _ _ _ (by omega))), HB1.out.alloc (by omega) _, by simp⟩
  clear hW2
  refine (Tagged_any 1 _ [x, y] w2 hP (by simp) (by have := HX.out; have := HY.out; simp; omega) (hK.of_new hb2)).mono ?_
  rintro e w3 ⟨rfl, hb3⟩
  have hR2 := Lib.hid (hR.of_block (hb3.block _ (by omega)))
  have hbF := Lib.hid (hb2.trans (hb3.mono (by omega)) : Below w.heap.size w w3)
  clear hb3 hb2 hR hP
  go_wp2_with ((with_reducible refine wpList_store_octs (op := ⟨none, Op.store 31 (.tmp 4) (.tmp 8), _, _, _, _⟩) 31 (.tmp 4) (.tmp 8) (w.heap.size + 1 + 1) 31 (List.replicate 32 (0 : UInt8)) (sumL (partsL 1 [x, y])) ?g ?ho ?hx ?hy ?hh ?hi ?hs ?_); (case g => rfl); (case ho => rfl); (case hx => rfl); (case hy => rfl); (case hh => exact hR2.out); (case hi => rw [HDL.out]; kernel_rfl); (case hs => rw [HDL.out]; rfl))
  refine bodyPost_ret (results_cell rfl _ rfl (run_loadVar_row _ _ 31 _ ((sumL (partsL 1 [x, y])).map B8).toArray (0, 0) _ (setRow_heap _ _ _ _ _ _ hR2.out) Tryz.underlying31 rfl (by rw [info_dig]; simp [sumL_len]))) rfl ⟨rfl, ?_⟩
  exact hbF.out.trans (below_setRow' _ _ _ (by omega))

end Go.Proofs.YtnohglkilpnjhaaGreatDoor

/- The rows above leaves, in plain Lean. No condition. -/
namespace Go.Proofs.YtnohglkilpnjhaaGreatDoor
open Go.RowKit
set_option linter.unusedVariables false
set_option linter.unusedSimpArgs false

/-- The row above one. -/
def aboveL : List (List UInt8) → List (List UInt8)
  | a :: b :: t => nodeL a b :: aboveL t
  | l => l

theorem aboveL_len : ∀ l : List (List UInt8), (aboveL l).length = (l.length + 1) / 2
  | [] => by simp [aboveL]
  | [_] => by simp [aboveL]
  | a :: b :: t => by
    have := aboveL_len t
    simp only [aboveL, List.length_cons]
    omega
theorem aboveL_32 : ∀ l : List (List UInt8), Dig32 l → Dig32 (aboveL l)
  | [], _ => fun _ h => by simp [aboveL] at h
  | [a], h => h
  | a :: b :: t, h => fun d hd => by
    simp only [aboveL, List.mem_cons] at hd
    rcases hd with rfl | hd
    · exact nodeL_len _ _
    · exact aboveL_32 t (fun d hd => h d (by simp [hd])) d hd
theorem aboveL_at : ∀ (l : List (List UInt8)) (k : Nat), 2 * k + 1 < l.length → (aboveL l).getD k [] = nodeL (l.getD (2 * k) []) (l.getD (2 * k + 1) [])
  | [], _, h => by simp at h
  | [_], _, h => by simp at h
  | a :: b :: t, 0, _ => by simp [aboveL]
  | a :: b :: t, k + 1, h => by
    simp only [List.length_cons] at h
    have := aboveL_at t k (by omega)
    simp only [aboveL, List.getD_cons_succ]
    rw [this, show 2 * (k + 1) = 2 * k + 1 + 1 by omega]
    simp only [List.getD_cons_succ]
theorem aboveL_last : ∀ (l : List (List UInt8)), l.length % 2 = 1 → (aboveL l).getD (l.length / 2) [] = l.getD (l.length - 1) []
  | [], h => by simp at h
  | [_], _ => by simp [aboveL]
  | a :: b :: t, h => by
    simp only [List.length_cons] at h
    have := aboveL_last t (by omega)
    simp only [aboveL, List.length_cons]
    rw [show (t.length + 1 + 1) / 2 = t.length / 2 + 1 by omega, List.getD_cons_succ, this, show t.length + 1 + 1 - 1 = (t.length - 1) + 1 + 1 by omega, List.getD_cons_succ, List.getD_cons_succ]

/-- The rows from one on, up to the root's. -/
def rowsP : Nat → List (List UInt8) → List (List (List UInt8))
  | 0, l => [l]
  | f + 1, l => if l.length ≤ 1 then [l] else l :: rowsP f (aboveL l)
def rowsL (l : List (List UInt8)) : List (List (List UInt8)) := rowsP l.length l
theorem rowsP_more (f g : Nat) (l : List (List UInt8)) (hf : l.length ≤ f) (hg : l.length ≤ g) : rowsP f l = rowsP g l := by
  induction f generalizing g l with
  | zero =>
    cases g with
    | zero => rfl
    | succ g => simp only [rowsP]; rw [if_pos (by omega)]
  | succ f ih =>
    cases g with
    | zero => simp only [rowsP]; rw [if_pos (by omega)]
    | succ g =>
      simp only [rowsP]
      split
      · rfl
      · rw [ih g _ (by rw [aboveL_len]; omega) (by rw [aboveL_len]; omega)]
theorem rowsL_step {l : List (List UInt8)} (h : 1 < l.length) : rowsL l = l :: rowsL (aboveL l) := by
  unfold rowsL
  obtain ⟨k, hk⟩ : ∃ k, l.length = k + 1 := ⟨l.length - 1, by omega⟩
  rw [hk, rowsP, if_neg (by omega), rowsP_more k _ _ (by rw [aboveL_len]; omega) (Nat.le_refl _)]
theorem rowsL_end {l : List (List UInt8)} (h : l.length ≤ 1) : rowsL l = [l] := by
  unfold rowsL
  match l, h with
  | [], _ => rfl
  | [_], _ => rfl

/-- The row while the one above is laid into it. -/
def contL (l : List (List UInt8)) (k : Nat) : List (List UInt8) := (aboveL l).take k ++ l.drop k

theorem contL_len {l : List (List UInt8)} {k : Nat} (h : k ≤ l.length / 2) : (contL l k).length = l.length := by
  unfold contL
  rw [List.length_append, List.length_take, List.length_drop, aboveL_len]
  omega
theorem contL_at {l : List (List UInt8)} {k i : Nat} (h : k ≤ l.length / 2) (hi : k ≤ i) : (contL l k).getD i [] = l.getD i [] := by
  unfold contL
  have e : ((aboveL l).take k).length = k := by rw [List.length_take, aboveL_len]; omega
  rw [List.getD_eq_getElem?_getD, List.getElem?_append_right (by omega), e, List.getElem?_drop, show k + (i - k) = i by omega, List.getD_eq_getElem?_getD]
theorem contL_set {l : List (List UInt8)} {k : Nat} (h : k < (l.length + 1) / 2) (hk : k ≤ l.length / 2) : (contL l k).set k ((aboveL l).getD k []) = (aboveL l).take (k + 1) ++ l.drop (k + 1) := by
  unfold contL
  have e : ((aboveL l).take k).length = k := by rw [List.length_take, aboveL_len]; omega
  rw [List.set_append_right _ _ (by omega), e, Nat.sub_self, List.drop_eq_getElem_cons (show k < l.length by omega), List.set_cons_zero]
  have hk2 : k < (aboveL l).length := by rw [aboveL_len]; omega
  rw [List.getD_eq_getElem?_getD, List.getElem?_eq_getElem hk2, Option.getD_some, ← List.take_append_getElem hk2, List.append_assoc]
  rfl

end Go.Proofs.YtnohglkilpnjhaaGreatDoor

/- A range over a function whose iterator makes a block of its own (g, of which its caller cannot know the number) and writes it in place between the rounds. No condition. -/
namespace Go.Proofs.YtnohglkilpnjhaaGreatDoor
open Go.RowKit
set_option linter.unusedVariables false
set_option linter.unusedSimpArgs false

/-- The contract of an iterator that makes a block g of its own and then turns that block alone; a round must leave g alone; It is what it tells the round about memory. -/
def SeqG {α : Type} (F : Fence) (n : Nat) (P : Program) (f : Nat) (lb : Array Value) (encs : Nat → α → Array Value) (It : Nat → List α → α → World → Prop) (S Sp : List α → Prop) (n0 N : Nat) (W : World) : Prop :=
  ∀ (l : Nat) (J Jx : Nat → List α → World → Prop), (∀ g, W.heap.size ≤ g → AbidesC (fun k => k = g) (J g)) → (∀ g, W.heap.size ≤ g → AbidesC (fun k => k = g) (Jx g)) →
    (∀ g pre x W1, W.heap.size ≤ g → J g pre W1 → It g pre x W1 → pre.length < N → YieldAt F (n - 1) P l (encs g x) W1 fun e W' =>
      (e = .returned (.bool true) ∧ J g (pre ++ [x]) W' ∧ Kept (fun k => k = g ∨ k < n0) W1 W') ∨ (e = .returned (.bool false) ∧ Jx g (pre ++ [x]) W')) →
    (∀ g W', W.heap.size ≤ g → Below W.heap.size W W' → J g [] W') →
    CallsIn F n P f (#[.func (.yield l) #[] #[]] ++ lb) W fun e W' => (∃ v, e = .returned v) ∧ ∃ g, W.heap.size ≤ g ∧ ((∃ xs, S xs ∧ J g xs W') ∨ (∃ pre, Sp pre ∧ Jx g pre W'))

variable {F : Fence} {n : Nat} {P : Program}

/-- THE LAW. -/
theorem wpIn_rangeFunc_block {α : Type} {g : Operand} {ps : Array Tmp} {assign body : Code} {Q : Exit → Act → World → Prop} {a : Act} {w : World}
    (hro : F.round = none) (h1 : 1 ≤ n) {gf : Nat} {lb : Array Value} (hg : a.eval g = .func (.func gf) #[] lb) (hFg : F.fn gf) (eg : ∀ args w, (callFunc gf args).run P w = .ok (.enter gf args) w)
    {encs : Nat → α → Array Value} {It : Nat → List α → α → World → Prop} {S Sp : List α → Prop} {n0 N : Nat} (hn0 : n0 ≤ w.heap.size)
    (hseq : ∀ W1, Below w.heap.size w W1 → W1.heap.size = w.heap.size + 2 → SeqG F (n - 1) P gf lb encs It S Sp n0 N W1)
    (hps : ∀ g x, (encs g x).size = ps.size)
    (I : Nat → List α → World → Prop) (Ix : Code → Nat → List α → World → Prop)
    (hI : ∀ g s A B, w.heap.size + 2 ≤ g → I g s A → Kept (fun k => k ≠ g ∧ k ≠ w.heap.size + 1) A B → I g s B) (hIx : ∀ c g s A B, w.heap.size + 2 ≤ g → Ix c g s A → Kept (fun k => k ≠ g ∧ k ≠ w.heap.size + 1) A B → Ix c g s B)
    (hIt : ∀ g pre x A B, w.heap.size + 2 ≤ g → It g pre x A → Kept (fun k => k ≠ w.heap.size + 1) A B → It g pre x B)
    (h0 : ∀ g W', w.heap.size + 2 ≤ g → Below w.heap.size w W' → I g [] W') (a₁ : Nat → α → Act)
    (hassign : ∀ (l : Nat) (g : Nat) (x : α) (W : World) (K : Act → World → Prop), K (a₁ g x) W →
      assign.wpIn (F.inRound l) (n - 1 - 1) P (Exit.then K (fun _ _ _ => False)) { tmps := (ps.zip (encs g x)).foldl (fun t (p, v) => t.setIfInBounds p v) a.tmps, defers := [] } W)
    (hbody : ∀ (l : Nat) (g : Nat) (pre : List α) (x : α) (W : World), w.heap.size + 2 ≤ g → I g pre W → It g pre x W → pre.length < N → w.heap.size + 2 ≤ W.heap.size → body.wpIn (F.inRound l) (n - 1 - 1) P (postC w.heap.size (fun k => k = g ∨ k < n0) (I g) (fun c => Ix c g) (pre ++ [x]) W) (a₁ g x) W)
    (hdone : ∀ (g : Nat) (xs : List α) (W : World), w.heap.size + 2 ≤ g → S xs → I g xs W → w.heap.size + 2 ≤ W.heap.size → W.heap[w.heap.size]? = some (.deferred (some [])) → Q .normal { a with defers := { target := .collected w.heap.size, args := #[] } :: a.defers } W)
    (hstop : ∀ (g : Nat) (c : Code) (pre : List α) (W : World), w.heap.size + 2 ≤ g → Sp pre → Ix c g pre W → w.heap.size + 2 ≤ W.heap.size → W.heap[w.heap.size]? = some (.deferred (some [])) → c.wpIn F n P Q { a with defers := { target := .collected w.heap.size, args := #[] } :: a.defers } W) :
    (Code.rangeFunc g ps assign body).wpIn F n P Q a w := by
  refine wpIn_rangeFunc ?_
  intro fn hfn
  rw [hro]
  obtain ⟨rec, hrec⟩ : ∃ rec : LoopState → Option Code → Loop, rec = fun st pe => { state := st, pending := pe, fn, tmps := a.tmps, params := ps, assign, body, defers := w.heap.size } := ⟨_, rfl⟩
  obtain ⟨W1, hW1⟩ : ∃ W1, (w.alloc (.deferred (some []))).alloc (.loop (rec .ready none)) = W1 := ⟨_, rfl⟩
  have hL1 : W1.heap[w.heap.size + 1]? = some (.loop (rec .ready none)) := by
    rw [← hW1]; have := World.alloc_heap_new (w.alloc (.deferred (some []))) (.loop (rec .ready none)); rwa [World.size_alloc] at this
  have hK1 : W1.heap[w.heap.size]? = some (.deferred (some [])) := by
    rw [← hW1]; exact (Below.heap_alloc _ _ _ (by simp)).trans (World.alloc_heap_new w _)
  have hb1 : Below w.heap.size w W1 := by
    rw [← hW1]; exact ((Below.refl _ w).alloc (Nat.le_refl _) _).alloc (by simp) _
  have hs1 : W1.heap.size = w.heap.size + 2 := by rw [← hW1]; simp
  refine ⟨w.heap.size + 1, [{ target := .collected w.heap.size, args := #[] }], W1, { target := .fn (.func gf) lb, args := #[.func (.yield (w.heap.size + 1)) #[] #[]] }, W1, gf,
    #[.func (.yield (w.heap.size + 1)) #[] #[]] ++ lb, W1, ?_, ?_, ?_, ?_, fun _ => h1, ?_⟩
  · rw [← hW1, hrec]; exact run_enterLoop_outer _ _ _ _ _
  · simp only [resolve, hg]
    simp [go_sem]
  · intro f' hf'; simp [Target.leads] at hf'; subst hf'; exact hFg
  · simp [invoke, go_sem, eg]
  · have put : ∀ (U : Nat → Prop) (W : World) (o : Obj), ¬ U (w.heap.size + 1) → Kept U W (W.putObj (w.heap.size + 1) o) := fun U W o h => (Kept.refl U W).putObj h o
    have kl : ∀ {g : Nat} {A B : World} {o : Obj}, W1.heap.size ≤ g → A.heap[w.heap.size + 1]? = some o → Kept (fun k => ¬ k = g) A B → B.heap[w.heap.size + 1]? = some o := fun hg hl hk => (hk.block _ (Array.getElem?_eq_some_iff.1 hl).1 (by omega)).trans hl
    have kd : ∀ {g : Nat} {A B : World} {o : Obj}, W1.heap.size ≤ g → A.heap[w.heap.size]? = some o → Kept (fun k => ¬ k = g) A B → B.heap[w.heap.size]? = some o := fun hg hl hk => (hk.block _ (Array.getElem?_eq_some_iff.1 hl).1 (by omega)).trans hl
    refine (hseq W1 hb1 hs1 (w.heap.size + 1)
      (fun g pre W => I g pre W ∧ W.heap[w.heap.size + 1]? = some (.loop (rec .ready none)) ∧ W.heap[w.heap.size]? = some (.deferred (some [])))
      (fun g pre W => ∃ c, Ix c g pre W ∧ W.heap[w.heap.size + 1]? = some (.loop (rec .done (some c))) ∧ W.heap[w.heap.size]? = some (.deferred (some [])))
      (fun g hg s A B hs hk => ⟨hI g s A B (by omega) hs.1 (hk.mono fun _ _ h => h.1), kl hg hs.2.1 hk, kd hg hs.2.2 hk⟩)
      (fun g hg s A B hs hk => by
        obtain ⟨c, hc, hl, hd⟩ := hs
        exact ⟨c, hIx c g s A B (by omega) hc (hk.mono fun _ _ h => h.1), kl hg hl hk, kd hg hd hk⟩)
      ?_ (fun g W' hg hb => ⟨h0 g W' (by omega) (hb1.trans (hb.mono (by omega))), (hb.block _ (by omega)).trans hL1, (hb.block _ (by omega)).trans hK1⟩)).mono ?_
    · -- ONE ROUND
      rintro g pre x W hgs ⟨hi, hl, hk⟩ hit hlen
      have hg2 : w.heap.size + 2 ≤ g := by omega
      have hlt : w.heap.size + 1 < W.heap.size := (Array.getElem?_eq_some_iff.1 hl).1
      have hy := run_yield (P := P) (args := encs g x) hl (by rw [hrec]; exact hps g x)
      rw [hrec] at hy
      refine ⟨fn, _, assign, body, hy, roundIn_of_wpIn hfn (hassign _ g x W _ ⟨_, run_beginRound hl (by rw [hrec]), ?_⟩)⟩
      have hl2 : (W.putObj (w.heap.size + 1) (.loop { rec .ready none with state := .busy })).heap[w.heap.size + 1]? = some (.loop { rec .ready none with state := .busy }) := World.putObj_heap_same hlt
      have hk2 : (W.putObj (w.heap.size + 1) (.loop { rec .ready none with state := .busy })).heap[w.heap.size]? = some (.deferred (some [])) := (World.putObj_heap_other (by omega)).trans hk
      refine wpIn_mono (hbody _ g pre x _ hg2 (hI _ _ _ _ hg2 hi (put _ _ _ (fun h => h.2 rfl))) (hIt _ _ _ _ _ hg2 hit (put _ _ _ (fun h => h rfl))) hlen (by simp; omega)) ?_
      have hsz2 : (W.putObj (w.heap.size + 1) (.loop { rec .ready none with state := .busy })).heap.size = W.heap.size := by simp
      have fin : ∀ (jump : Option Code) (W3 : World), Kept (fun k => k = w.heap.size ∨ k = w.heap.size + 1) (W.putObj (w.heap.size + 1) (.loop { rec .ready none with state := .busy })) W3 →
          (Instr.endRound (w.heap.size + 1) jump).run P W3 = .ok (.bool jump.isNone) (W3.putObj (w.heap.size + 1) (.loop (rec (if jump.isNone then .ready else .done) jump))) ∧
          (W3.putObj (w.heap.size + 1) (.loop (rec (if jump.isNone then .ready else .done) jump))).heap[w.heap.size + 1]? = some (.loop (rec (if jump.isNone then .ready else .done) jump)) ∧
          (W3.putObj (w.heap.size + 1) (.loop (rec (if jump.isNone then .ready else .done) jump))).heap[w.heap.size]? = some (.deferred (some [])) := fun jump W3 hk3 => by
        have hl3 := (hk3.block (w.heap.size + 1) (by rw [hsz2]; exact hlt) (.inr rfl)).trans hl2
        have hd3 := (hk3.block w.heap.size (by rw [hsz2]; omega) (.inl rfl)).trans hk2
        have := run_endRound (P := P) jump hl3
        rw [hrec] at this ⊢
        exact ⟨this, World.putObj_heap_same (Array.getElem?_eq_some_iff.1 hl3).1, (World.putObj_heap_other (by omega)).trans hd3⟩
      rintro e a3 W3 hp
      cases e with
      | normal =>
        obtain ⟨hk3, hi3⟩ := hp
        obtain ⟨hr, hl4, hk4⟩ := fin none W3 (hk3.mono fun _ _ h => .inr h)
        exact ⟨_, _, hr, .inl ⟨rfl, ⟨hI _ _ _ _ hg2 hi3 (put _ _ _ (fun h => h.2 rfl)), hl4, hk4⟩, ((put (fun k => k = g ∨ k < n0) W _ (by omega)).trans (hk3.mono fun _ _ h => .inl h)).trans (put (fun k => k = g ∨ k < n0) _ _ (by omega))⟩⟩
      | ret =>
        obtain ⟨hk3, hi3⟩ := hp
        obtain ⟨hr, hl4, hk4⟩ := fin (some .ret) W3 hk3
        exact ⟨_, _, hr, .inr ⟨rfl, .ret, hIx _ _ _ _ _ hg2 hi3 (put _ _ _ (fun h => h.2 rfl)), hl4, hk4⟩⟩
      | exit id =>
        obtain ⟨hk3, hi3⟩ := hp
        obtain ⟨hr, hl4, hk4⟩ := fin (some (.exit id)) W3 hk3
        exact ⟨_, _, hr, .inr ⟨rfl, .exit id, hIx _ _ _ _ _ hg2 hi3 (put _ _ _ (fun h => h.2 rfl)), hl4, hk4⟩⟩
      | goto t =>
        obtain ⟨hk3, hi3⟩ := hp
        obtain ⟨hr, hl4, hk4⟩ := fin (some (.goto t)) W3 hk3
        exact ⟨_, _, hr, .inr ⟨rfl, .goto t, hIx _ _ _ _ _ hg2 hi3 (put _ _ _ (fun h => h.2 rfl)), hl4, hk4⟩⟩
      | panic ch => exact hp.elim
      | outgrown => exact hp.elim
    · -- BEHIND THE ITERATOR
      rintro e W2 ⟨⟨v, rfl⟩, g, hgs, (⟨xs, hS, hi, hl, hk⟩ | ⟨pre, hSp, c, hi, hl, hk⟩)⟩
      all_goals have hg2 : w.heap.size + 2 ≤ g := by omega
      · have hlt := (Array.getElem?_eq_some_iff.1 hl).1
        exact ⟨none, _, by have := run_endLoop (P := P) hl (by rw [hrec]; simp); rw [hrec] at this; exact this, hdone g xs _ hg2 hS (hI _ _ _ _ hg2 hi (put _ _ _ (fun h => h.2 rfl))) (by simp; omega) ((World.putObj_heap_other (by omega)).trans hk)⟩
      · have hlt := (Array.getElem?_eq_some_iff.1 hl).1
        exact ⟨some c, _, by have := run_endLoop (P := P) hl (by rw [hrec]; simp); rw [hrec] at this; exact this, hstop g c pre _ hg2 hSp (hIx c _ _ _ _ hg2 hi (put _ _ _ (fun h => h.2 rfl))) (by simp; omega) ((World.putObj_heap_other (by omega)).trans hk)⟩

end Go.Proofs.YtnohglkilpnjhaaGreatDoor

/- The walk of merkle.places: the places of a leaf in the rows. Conditions: a place in a tree of no more than 1024 leaves. -/
namespace Go.Proofs.YtnohglkilpnjhaaGreatDoor
open Go.RowKit Go.Shelf
attribute [local go_sem] Oper.semAt_some
set_option linter.unusedVariables false
set_option linter.unusedSimpArgs false

/-- The places of leaf i of n in the rows, with how many each has. -/
def walkP : Nat → Nat → Nat → List (Nat × Nat)
  | 0, _, _ => []
  | f + 1, n, i => if n ≤ 1 then [] else (n, i) :: walkP f ((n + 1) / 2) (i / 2)

def walkN (n i : Nat) : List (Nat × Nat) := walkP 1024 n i

theorem walkP_more (f g n i : Nat) (hf : n ≤ f) (hg : n ≤ g) : walkP f n i = walkP g n i := by
  induction f generalizing g n i with
  | zero =>
    cases g with
    | zero => rfl
    | succ g => simp only [walkP]; rw [if_pos (by omega)]
  | succ f ih =>
    cases g with
    | zero => simp only [walkP]; rw [if_pos (by omega)]
    | succ g =>
      simp only [walkP]
      split
      · rfl
      · rw [ih g _ _ (by omega) (by omega)]

theorem walkN_step {n i : Nat} (h : 1 < n) (hn : n ≤ 1024) : walkN n i = (n, i) :: walkN ((n + 1) / 2) (i / 2) := by
  unfold walkN
  rw [walkP, if_neg (by omega), walkP_more 1023 1024 _ _ (by omega) (by omega)]
theorem walkN_end {n i : Nat} (h : n ≤ 1) : walkN n i = [] := by
  unfold walkN
  rw [walkP, if_pos h]

end Go.Proofs.YtnohglkilpnjhaaGreatDoor

/- The walk of slices.Clone of hashes. No condition. -/
namespace Go.Proofs.YtnohglkilpnjhaaGreatDoor
open Go.RowKit
set_option linter.unusedVariables false

set_option maxRecDepth 100000 in
set_option maxHeartbeats 800000 in
/-- slices.Clone of hashes. -/
theorem DClone_any (v : Value) (l : List (List UInt8)) (w : World) (hl : Digs w v l) (hlen : l.length ≤ 1099511627776) :
    Calls Tryz.prog 162 #[v] w fun e w' => ∃ v', e = .returned v' ∧ OwnD w' w.heap.size v' l ∧ Below w.heap.size w w' := by
  obtain ⟨a, c, hv⟩ := hl.len
  have he := fun (w : World) (a : Option Addr) (n c : Nat) => Lib.run_eql_slice_nil (P := Tryz.prog) w 34 31 a n c 0 0 Tryz.underlying34
  cases a with
  | none =>
    have hl0 : l = [] := by
      obtain ⟨_, _, a', c', hv', h1, _, h3, _⟩ := hl
      rw [hv'] at hv; cases hv
      have := h3 rfl
      exact List.eq_nil_of_length_eq_zero (by omega)
    subst hl0
    have hc : c = 0 := by
      obtain ⟨_, _, a', c', hv', h1, _, h3, _⟩ := hl
      rw [hv'] at hv; cases hv
      exact h3 rfl
    subst hc
    subst hv
    go_enter Tryz.func162, Tryz.ntmps162
    go_wp2
    go_ret
    exact ⟨_, rfl, OwnD.nil _ _, Below.refl _ _⟩
  | some a =>
    subst hv
    have HO := Lib.hid (ownD_empty w)
    have HL := Lib.hid (hl.of_new ((Below.refl _ w).alloc (Nat.le_refl _) (.cells #[] 31)))
    clear hl
    go_enter Tryz.func162, Tryz.ntmps162
    go_wp2_with (at_builtin; refine wpList_appD rfl (.tmp 5) (.tmp 6) 34 rfl w.heap.size Tryz.underlying34 _ [] rfl HO.out _ l rfl HL.out ?c1 ?c2 ?_)
    case c1 => first | omega | (simp; omega)
    case c2 => simp
    intro v1 w1 hown1 hg1 _
    have hbA : Below w.heap.size w w1 := ((Below.refl _ w).alloc (Nat.le_refl _) _).grown hg1 (by simp) (fun j hj => by cases hj; exact Nat.le_refl _)
    clear hg1
    go_wp2
    go_ret
    exact ⟨_, rfl, by simpa using hown1, hbA⟩

end Go.Proofs.YtnohglkilpnjhaaGreatDoor

/- The walk of merkle.rows: the rows above leaves. Conditions: the table of constants as the program lays it; some leaves, no more than 2048. -/
namespace Go.Proofs.YtnohglkilpnjhaaGreatDoor
open Go.RowKit Go.Shelf
attribute [local go_sem] Oper.semAt_some
set_option linter.unusedVariables false
set_option linter.unusedSimpArgs false

theorem or_ones : (List.range 1024).all (fun k => bits .or .i64 (((k : Nat) : Int) * 2) 1 == ((k : Nat) : Int) * 2 + 1 && IntKind.i64.wrap (((k : Nat) : Int) * 2) == ((k : Nat) : Int) * 2) = true := by decide +kernel
theorem and_ones : (List.range 2049).all (fun k => bits .and .i64 ((k : Nat) : Int) 1 == ((k % 2 : Nat) : Int)) = true := by decide +kernel
theorem and_one (k : Nat) (h : k ≤ 2048) : bits .and .i64 (k : Int) 1 = ((k % 2 : Nat) : Int) := by
  have := List.all_eq_true.1 and_ones k (List.mem_range.2 (by omega))
  simpa using this
theorem or_one (k : Nat) (h : k < 1024) : bits .or .i64 ((k : Int) * 2) 1 = (k : Int) * 2 + 1 ∧ IntKind.i64.wrap ((k : Int) * 2) = (k : Int) * 2 := by
  have := List.all_eq_true.1 or_ones k (List.mem_range.2 h)
  simpa using this

abbrev encR (g : Nat) (x : List (List UInt8) × Nat) : Array Value := #[.slice (some ⟨g, 0, none⟩) x.1.length x.2]

set_option maxRecDepth 100000 in
set_option maxHeartbeats 1600000 in
theorem rows_seq (n : Nat) (hn : 1 ≤ n) (bl n0 : Nat) (v : Value) (l0 : List (List UInt8)) (h1 : 0 < l0.length) (hlen : l0.length ≤ 2048) (W : World) (w0 : World) (hK : Consts w0) (hw0 : w0.heap.size = n0) (hb0 : Below n0 w0 W) (hc : W.cell? ⟨bl, 0, none⟩ = some v) (hl : Digs W v l0) :
    SeqG Fence.wide n Tryz.prog 161 #[.pointer (some ⟨bl, 0, none⟩)] encR (fun g pre x W' => (pre ++ [x]).map (·.1) <+: rowsL l0 ∧ OwnD W' W.heap.size (.slice (some ⟨g, 0, none⟩) x.1.length x.2) x.1)
      (fun xs => xs.map (·.1) = rowsL l0) (fun _ => True) n0 (rowsL l0).length W := fun l J Jx hJ hJx hY h0 => by
  obtain ⟨va, vc, hv⟩ := hl.len
  subst hv
  have HL := Lib.hid hl
  clear hl
  refine callsIn_of_wp Tryz.func161 rfl trivial ?_ rfl
  simp only [Tryz.ntmps161, List.size_toArray, List.length_cons, List.length_nil, Nat.reduceAdd, Nat.reduceSub, Array.replicate_succ, Array.replicate_zero, List.push_toArray, List.append_toArray, List.nil_append, List.cons_append]
  gi_wp2_with (refine ⟨trivial, ?_⟩; gi_at_call 162; refine (callsIn_wide.2 (DClone_any _ l0 _ HL.out (by omega))).mono ?_; rintro e w1 ⟨v1, rfl, ho1, hb1⟩)
  obtain ⟨g, cap, rfl, hg⟩ : ∃ g cap, v1 = .slice (some ⟨g, 0, none⟩) l0.length cap ∧ W.heap.size ≤ g := by
    rcases ho1.2.2 with ⟨_, h⟩ | ⟨g, cap, cur, hv, hb, _⟩
    · omega
    · exact ⟨g, cap, hv, hb⟩
  have hj0 := h0 g w1 hg hb1
  have hB1 : Below n0 w0 w1 := hb0.trans (hb1.mono (by have := hb0.size; omega))
  have hn0 : n0 ≤ W.heap.size := by have := hb0.size; omega
  clear h0 hb1 hc
  gi_loopw [3] (fun v wr => ∃ (pre : List (List (List UInt8) × Nat)) (cur : List (List UInt8)) (cap : Nat), v = .slice (some ⟨g, 0, none⟩) cur.length cap ∧ rowsL l0 = pre.map (·.1) ++ rowsL cur ∧ 0 < cur.length ∧ cur.length ≤ 2048 ∧
      OwnD wr W.heap.size (.slice (some ⟨g, 0, none⟩) cur.length cap) cur ∧ Below n0 w0 wr ∧ J g pre wr)
    (fun v _ => match v with | .slice _ n _ => n | _ => 0)
  case atStart => exact ⟨[], l0, cap, rfl, rfl, h1, hlen, ho1, hB1, hj0⟩
  case round =>
    clear ho1 hj0 h1 hlen hB1
    obtain ⟨pre, cur, cap, rfl, hrow, h1, hlen, ho, hB, hj⟩ := hrel
    have HR := Lib.hid hrow
    have HO := Lib.hid ho
    have HB := Lib.hid hB
    clear hrow ho hB
    by_cases hlt : 1 < cur.length
    · obtain ⟨fn, tmps, assign, body, hy, hR⟩ := hY g pre (cur, cap) wr hg hj ⟨by rw [HR.out, rowsL_step hlt]; simp, HO.out⟩ (by rw [HR.out, rowsL_step hlt]; simp)
      dsimp only [encR] at hy
      have ht : ((1 : Int) < (cur.length : Int)) := by omega
      gi_wp2
      refine hR.mono ?_
      rintro e W3 (⟨rfl, hJ3, hk3⟩ | ⟨rfl, hJx3⟩)
      · have ho3 : OwnD W3 W.heap.size (.slice (some ⟨g, 0, none⟩) cur.length cap) cur := by
          refine ⟨HO.out.1, HO.out.2.1, ?_⟩
          rcases HO.out.2.2 with ⟨h, _⟩ | ⟨g', cap', cur', hv, hb, hh, hr⟩
          · cases h
          · cases hv
            exact .inr ⟨g, cap, cur', rfl, hb, (hk3.block g (Array.getElem?_eq_some_iff.1 hh).1 (.inl rfl)).trans hh, hr⟩
        have hB3 : Below n0 w0 W3 := Kept.to_below HB.out hk3 (by have := HB.out.size; omega) (fun k hk => .inr hk)
        have HO3 := Lib.hid ho3
        have HB3 := Lib.hid hB3
        clear ho3 hB3
        gi_wp2
        refine wpIn_wide.2 ?_
        go_loopw [17] (fun iv wr => ∃ k : Nat, k ≤ cur.length / 2 ∧ iv = .int .i64 (k : Int) ∧ OwnD wr W.heap.size (.slice (some ⟨g, 0, none⟩) cur.length cap) (contL cur k) ∧ Below n0 w0 wr ∧ Kept (fun k => ¬ k = g) W3 wr)
          (fun iv _ => cur.length - (intOf iv).toNat)
        case atStart => exact ⟨0, by omega, rfl, by simpa [contL] using HO3.out, HB3.out, Kept.refl _ _⟩
        case round =>
          obtain ⟨k, hk, rfl, ho4, hb4, hk4⟩ := hrel
          by_cases hlt2 : k < cur.length / 2
          · have t1 : ((k : Int) < (cur.length : Int) / 2) := by omega
            obtain ⟨e1, e2⟩ := or_one k (by omega)
            have e3 : ((k : Int) * 2).toNat = 2 * k := by omega
            have e4 : ((k : Int) * 2 + 1).toNat = 2 * k + 1 := by omega
            have b1 : (0 : Int) ≤ (k : Int) * 2 := by omega
            have b2 : (k : Int) * 2 < (cur.length : Int) := by omega
            have b3 : (0 : Int) ≤ (k : Int) * 2 + 1 := by omega
            have b4 : (k : Int) * 2 + 1 < (cur.length : Int) := by omega
            have b5 : k < cur.length := by omega
            have hcl := contL_len hk
            obtain ⟨bb, boff, bc, hbv, hbl, hat⟩ := ho4.digs.at_ (by omega)
            obtain ⟨rfl, rfl⟩ : bb = g ∧ boff = 0 := by
              simp only [Value.slice.injEq, Option.some.injEq, Addr.mk.injEq] at hbv
              exact ⟨hbv.1.1.symm, hbv.1.2.1.symm⟩
            have hglt : bb < wr.heap.size := hbl
            have d1 : (cur.getD (2 * k) []).length = 32 := HO.out.1.getD (by omega)
            have d2 : (cur.getD (2 * k + 1) []).length = 32 := HO.out.1.getD (by omega)
            have hx1 : ∀ j, j < 32 → wr.cell? ⟨bb, 2 * k * 32 + j, none⟩ = ((cur.getD (2 * k) []).map B8)[j]? := fun j hj => by
              have := hat (2 * k) (by omega) j hj
              rwa [Nat.zero_add, contL_at hk (by omega)] at this
            have hx2 : ∀ j, j < 32 → wr.cell? ⟨bb, (2 * k + 1) * 32 + j, none⟩ = ((cur.getD (2 * k + 1) []).map B8)[j]? := fun j hj => by
              have := hat (2 * k + 1) (by omega) j hj
              rwa [Nat.zero_add, contL_at hk (by omega)] at this
            have HX1 := Lib.hid hx1
            have HX2 := Lib.hid hx2
            have HB4 := Lib.hid hb4
            have HO4 := Lib.hid ho4
            have D1 := Lib.hid d1
            have D2 := Lib.hid d2
            have HCL := Lib.hid hcl
            clear hx1 hx2 hat hbv hb4 ho4 d1 d2 hcl
            go_upto_region 6 with (fail)
            refine wp_region_grew_tail 14 (by kernel_rfl) (by kernel_rfl) ?_
            simp only [List.take_succ_cons, List.take_zero, List.drop_succ_cons, List.drop_zero]
            (go_big_quiet_want; apply quiet_val; (intro w' hw'; go_simp; first | done | rfl); go_simp; go_big_quiet_on)
            (go_big_quiet_want; apply quiet_val; (intro w' hw'; go_simp; first | done | rfl); go_simp; go_big_quiet_on)
            (go_big_quiet_want; apply quiet_val; (intro w' hw'; go_simp; first | done | rfl); go_simp; go_big_quiet_on)
            (go_big_quiet_want; apply quiet_val; (intro w' hw'; go_simp; first | done | rfl); go_simp; go_big_quiet_on)
            (go_big_quiet_want; apply quiet_val; (intro w' hw'; go_simp; first | done | rfl); go_simp; go_big_quiet_on)
            (go_big_quiet_want; apply quiet_val; (intro w' hw'; go_simp; first | done | rfl); go_simp; go_big_quiet_on)
            (go_big_quiet_want; (with_reducible refine quiet_load_dig (.tmp 25) bb (2 * k * 32) (cur.getD (2 * k) []) ?_ ?_ ?_ ?_ ?_ ?_); rfl; rfl; exact D1.out; exact hglt; exact HX1.out; go_simp; go_big_quiet_on)
            (go_big_quiet_want; apply quiet_val; (intro w' hw'; go_simp; first | done | rfl); go_simp; go_big_quiet_on)
            (go_big_quiet_want; apply quiet_val; (intro w' hw'; go_simp; first | done | rfl); go_simp; go_big_quiet_on)
            (go_big_quiet_want; apply quiet_val; (intro w' hw'; go_simp; first | done | rfl); go_simp; go_big_quiet_on)
            (go_big_quiet_want; apply quiet_val; (intro w' hw'; go_simp; first | done | rfl); go_simp; go_big_quiet_on)
            (go_big_quiet_want; apply quiet_val; (intro w' hw'; go_simp; first | done | rfl); go_simp; go_big_quiet_on)
            (go_big_quiet_want; (with_reducible refine quiet_load_dig (.tmp 31) bb ((2 * k + 1) * 32) (cur.getD (2 * k + 1) []) ?_ ?_ ?_ ?_ ?_ ?_); rfl; rfl; exact D2.out; exact hglt; exact HX2.out; go_simp; go_big_quiet_on)
            (go_big_quiet_want; apply quiet_call (f := 111); (intro w' hw'; go_simp; first | done | rfl); (intro w' hw'; exact Grew.call hw' (Node_any _ _ _ D1.out D2.out (hK.of_new (by rw [hw0]; exact HB4.out.trans (Below.mono hw' (by have := HB4.out.size; omega)))))); go_simp; go_big_quiet_on)
            refine wpQuiet_nil ?_
            intro w5 hw5
            have HO5 := Lib.hid (OwnD.of_new HO4.out hw5)
            have HW5 := Lib.hid hw5
            clear hw5
            go_wp2_with ((with_reducible refine wpList_store_dig (op := ⟨none, Op.store 31 (.tmp 34) (.tmp 33), _, _, _, _⟩) (.tmp 34) (.tmp 33) W.heap.size bb cur.length cap (contL cur k) k (nodeL (cur.getD (2 * k) []) (cur.getD (2 * k + 1) [])) ?g ?ho ?hx ?hy ?hh ?hi ?hd ?_); (case g => rfl); (case ho => rfl); (case hx => rfl); (case hy => simp only [List.getD_eq_getElem?_getD]; rfl); (case hh => exact HO5.out); (case hi => rw [HCL.out]; exact b5); (case hd => exact nodeL_len _ _); intro cs hcs)
            have hset := contL_set (l := cur) (k := k) (by omega) hk
            rw [aboveL_at cur k (by omega)] at hset
            refine ⟨⟨k + 1, by omega, by simp, ?_, ?_, ?_⟩, by simp [intOf]; omega⟩
            · show OwnD _ _ _ ((aboveL cur).take (k + 1) ++ cur.drop (k + 1))
              rw [← hset]; exact hcs
            · exact (HB4.out.trans (Below.mono HW5.out (by have := HB4.out.size; omega))).trans (below_setRow' _ _ _ (by omega))
            · exact (hk4.below HW5.out).grown (grown_setRow _ _ _) (fun r e => by cases e; simp)
          · obtain rfl : k = cur.length / 2 := by omega
            have t1 : ¬ (((cur.length / 2 : Nat) : Int) < (cur.length : Int) / 2) := by omega
            have HB4 := Lib.hid hb4
            have HO4 := Lib.hid ho4
            have HK4 := Lib.hid hk4
            clear hb4 ho4 hk4
            have hcap : cur.length ≤ cap := by
              rcases HO.out.2.2 with ⟨h, _⟩ | ⟨g', cap', cur', hv, hb, hh, hn, _⟩
              · cases h
              · cases hv; exact hn
            have c1 : ((cur.length : Int) + 1) / 2 ≤ (cap : Int) := by omega
            have c0 : (0 : Int) ≤ ((cur.length : Int) + 1) / 2 := by omega
            have hand := and_one cur.length hlen
            go_wp2
            refine wpIn_wide.2 ?_
            by_cases hodd : cur.length % 2 = 1
            · rw [hodd] at hand
              have hcl := contL_len hk
              have f1 : (0 : Int) ≤ (cur.length : Int) - 1 := by omega
              have f2 : (cur.length : Int) - 1 < (cur.length : Int) := by omega
              have f3 : ((cur.length : Int) - 1).toNat = cur.length - 1 := by omega
              have f4 : cur.length / 2 < cur.length := by omega
              obtain ⟨bb, boff, bc, hbv, hbl, hat⟩ := HO4.out.digs.at_ (by omega)
              obtain ⟨rfl, rfl⟩ : bb = g ∧ boff = 0 := by
                simp only [Value.slice.injEq, Option.some.injEq, Addr.mk.injEq] at hbv
                exact ⟨hbv.1.1.symm, hbv.1.2.1.symm⟩
              have hx1 : ∀ j, j < 32 → wr.cell? ⟨bb, (cur.length - 1) * 32 + j, none⟩ = ((cur.getD (cur.length - 1) []).map B8)[j]? := fun j hj => by
                have := hat (cur.length - 1) (by omega) j hj
                rwa [Nat.zero_add, contL_at hk (by omega)] at this
              have HX1 := Lib.hid hx1
              have D1 := Lib.hid (HO.out.1.getD (show cur.length - 1 < cur.length by omega))
              have HCL := Lib.hid hcl
              clear hx1 hat hbv hcl
              go_upto_region 9 with (fail)
              go_wp2_with (first
                | ((with_reducible refine wpList_load_dig (op := ⟨some 49, Op.load 31 (.tmp 48), _, _, _, _⟩) (.tmp 48) bb ((cur.length - 1) * 32) (cur.getD (cur.length - 1) []) ?g ?ho ?hx ?hd ?hc ?_); (case g => rfl); (case ho => rfl); (case hx => rfl); (case hd => exact D1.out); (case hc => exact HX1.out))
                | ((with_reducible refine wpList_store_dig (op := ⟨none, Op.store 31 (.tmp 50) (.tmp 49), _, _, _, _⟩) (.tmp 50) (.tmp 49) W.heap.size bb cur.length cap (contL cur (cur.length / 2)) (cur.length / 2) (cur.getD (cur.length - 1) []) ?g ?ho ?hx ?hy ?hh ?hi ?hd ?_); (case g => rfl); (case ho => rfl); (case hx => rfl); (case hy => simp only [List.getD_eq_getElem?_getD]; rfl); (case hh => exact HO4.out); (case hi => rw [HCL.out]; exact f4); (case hd => exact D1.out); intro cs hcs))
              have hset := contL_set (l := cur) (k := cur.length / 2) (by omega) hk
              rw [aboveL_last cur hodd, List.take_of_length_le (by rw [aboveL_len]; omega)] at hset
              refine ⟨⟨pre ++ [(cur, cap)], aboveL cur, cap, by rw [aboveL_len], by rw [HR.out, rowsL_step hlt]; simp, by rw [aboveL_len]; omega, by rw [aboveL_len]; omega, ?_,
                HB4.out.trans (below_setRow' _ _ _ (by omega)), hJ bb hg _ _ _ hJ3 (HK4.out.grown (grown_setRow _ _ _) (fun r e => by cases e; simp))⟩, by simp; omega⟩
              rw [hset] at hcs
              have := OwnD.first (m := (aboveL cur).length) hcs (by rw [List.length_append]; omega)
              rwa [List.take_left' rfl] at this
            · rw [show cur.length % 2 = 0 by omega] at hand
              go_wp2
              go_roundw
              case rel =>
                have hc0 : contL cur (cur.length / 2) = aboveL cur ++ cur.drop (cur.length / 2) := by
                  unfold contL
                  rw [List.take_of_length_le (by rw [aboveL_len]; omega)]
                refine ⟨pre ++ [(cur, cap)], aboveL cur, cap, by rw [aboveL_len], by rw [HR.out, rowsL_step hlt]; simp, by rw [aboveL_len]; omega, by rw [aboveL_len]; omega, ?_, HB4.out, hJ g hg _ _ _ hJ3 HK4.out⟩
                have := OwnD.first (m := (aboveL cur).length) HO4.out (by rw [contL_len hk, aboveL_len]; omega)
                rwa [hc0, List.take_left' rfl] at this
              case measure => simp; omega
      · gi_wp2
        refine bodyPost_ret (results_none rfl _ _ _) rfl ?_
        exact ⟨⟨_, rfl⟩, g, hg, .inr ⟨_, trivial, hJx3⟩⟩
    · obtain ⟨fn, tmps, assign, body, hy, hR⟩ := hY g pre (cur, cap) wr hg hj ⟨by rw [HR.out, rowsL_end (by omega)]; simp, HO.out⟩ (by rw [HR.out, rowsL_end (by omega)]; simp)
      dsimp only [encR] at hy
      have ht : ¬ ((1 : Int) < (cur.length : Int)) := by omega
      gi_wp2
      refine hR.mono ?_
      rintro e W3 (⟨rfl, hJ3, hk3⟩ | ⟨rfl, hJx3⟩)
      · gi_wp2
        go_end0
        exact ⟨⟨_, rfl⟩, g, hg, .inl ⟨pre ++ [(cur, cap)], by rw [HR.out, rowsL_end (by omega)]; simp, hJ3⟩⟩
      · gi_wp2
        go_end0
        exact ⟨⟨_, rfl⟩, g, hg, .inr ⟨_, trivial, hJx3⟩⟩

end Go.Proofs.YtnohglkilpnjhaaGreatDoor

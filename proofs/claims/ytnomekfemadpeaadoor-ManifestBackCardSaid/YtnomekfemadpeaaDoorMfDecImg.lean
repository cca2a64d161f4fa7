/- The walk of manifest.Decode: the image that bytes are. No condition. -/
import Derived.Test.YtnomekfemadpeaaDoorMfBlobDec
import Derived.Test.YtnomekfemadpeaaDoorMfImage
import Derived.Test.YtnomekfemadpeaaDoorTlvOwnAt
import Derived.Test.YtnomekfemadpeaaDoorGa
import Derived.IntWalk
namespace Go.Proofs.YtnomekfemadpeaaDoor
open Go.RowKit
set_option linter.unusedVariables false
set_option linter.unusedSimpArgs false
set_option maxRecDepth 100000

/-- An image as a value of one cell: the slice of its blobs. -/
def RImg : RecT 52 Value where
  n := 1
  bytes := 24
  zero := .slice none 0 0
  cells := fun v => [v]
  ok := fun v => v.oneCell' = true
  pos := by decide
  small := by decide
  few := by decide
  zok := rfl
  len := fun _ => rfl
  one := fun {x} h v hv => by simp at hv; rw [hv]; exact h
  agg := ⟨_, Tryd.underlying52, rfl⟩
  info := by kernel_rfl
/-- An item: its number, and the slice in which its bytes lie. -/
def RItem : RecT 79 (Int × Value) where
  n := 2
  bytes := 32
  zero := (0, .slice none 0 0)
  cells := fun x => [.int .i64 x.1, x.2]
  ok := fun x => x.2.oneCell' = true
  pos := by decide
  small := by decide
  few := by decide
  zok := rfl
  len := fun _ => rfl
  one := fun {x} h v hv => by simp at hv; rcases hv with rfl | rfl; rfl; exact h
  agg := ⟨_, Tryd.underlying79, rfl⟩
  info := by kernel_rfl
theorem RImg_one {w : World} {g : Nat} {v : Value} (h : RImg.O w g v) : One w g v 52 := h.1
theorem one_RImg {w : World} {g : Nat} {v : Value} (h : One w g v 52) (hv : v.oneCell' = true) : RImg.O w g v := ⟨h, hv⟩
theorem RItem_at {w : World} {g k : Nat} {n : Int} {u : Value} (hg : g < w.heap.size) (hu : u.oneCell' = true) (h0 : w.cell? ⟨g, k * 2, none⟩ = some (.int .i64 n)) (h1 : w.cell? ⟨g, k * 2 + 1, none⟩ = some u) : RItem.At w g (k * 2) (n, u) :=
  ⟨hu, hg, fun j hj => by
    have hj2 : j < 2 := hj
    match j, hj2 with
    | 0, _ => exact h0
    | 1, _ => exact h1⟩
theorem RItem_num {w : World} {g : Nat} {x : Int × Value} (h : RItem.O w g x) : w.cell? ⟨g, 0, none⟩ = some (.int .i64 x.1) := h.cell 0
theorem RItem_val {w : World} {g : Nat} {x : Int × Value} (h : RItem.O w g x) : w.cell? ⟨g, 1, none⟩ = some x.2 := h.cell 1

theorem blobsD_append : ∀ (a : List It) (i : Nat) (b : List It), blobsD i (a ++ b) = (blobsD i a).bind fun xs => (blobsD (i + a.length) b).map (xs ++ ·)
  | [], i, b => by simp [blobsD]
  | x :: a, i, b => by
    have ih := blobsD_append a (i + 1) b
    simp only [List.cons_append, blobsD, ih, List.length_cons]
    rw [show i + (a.length + 1) = i + 1 + a.length by omega]
    cases blobD x.2 with
    | none => rfl
    | some y =>
      simp only [Option.bind_some]
      split
      · cases blobsD (i + 1) a with
        | none => rfl
        | some xs => cases blobsD (i + 1 + a.length) b <;> rfl
      · rfl
theorem blobsD_snoc {l : List It} {k : Nat} {x : It} {xs : List BlobL} {y : BlobL} (hx : l[k]? = some x) (h : blobsD 0 (l.take k) = some xs) (hb : blobD x.2 = some y) (hn : x.1 = ((k + 1 : Nat) : Int)) : blobsD 0 (l.take (k + 1)) = some (xs ++ [y]) := by
  have hk : k < l.length := (List.getElem?_eq_some_iff.1 hx).1
  rw [List.take_add_one, hx, blobsD_append, h, Option.bind_some, List.length_take, Nat.zero_add, Nat.min_eq_left (by omega)]
  simp [blobsD, hb, hn]
theorem blobsD_stop {l : List It} {k : Nat} {x : It} (hx : l[k]? = some x) (hb : blobD x.2 = none ∨ x.1 ≠ ((k + 1 : Nat) : Int)) : blobsD 0 l = none := by
  have hk : k < l.length := (List.getElem?_eq_some_iff.1 hx).1
  have hd : l = l.take k ++ (x :: l.drop (k + 1)) := by
    rw [List.getElem?_eq_getElem hk] at hx
    cases hx
    rw [← List.drop_eq_getElem_cons hk, List.take_append_drop]
  have hl : (l.take k).length = k := by simp; omega
  rw [hd, blobsD_append, hl, Nat.zero_add]
  cases blobsD 0 (l.take k) with
  | none => rfl
  | some xs =>
    simp only [Option.bind_some, blobsD]
    rcases hb with hb | hb
    · rw [hb]; rfl
    · cases blobD x.2 with
      | none => rfl
      | some y => simp only [Option.bind_some]; rw [if_neg hb]; rfl
theorem blobsD_len : ∀ (l : List It) (i : Nat) (xs : List BlobL), blobsD i l = some xs → xs.length = l.length
  | [], i, xs, h => by simp [blobsD] at h; subst h; rfl
  | x :: l, i, xs, h => by
    simp only [blobsD] at h
    cases hb : blobD x.2 with
    | none => rw [hb] at h; cases h
    | some y =>
      rw [hb, Option.bind_some] at h
      split at h
      · cases hr : blobsD (i + 1) l with
        | none => rw [hr] at h; cases h
        | some r => rw [hr] at h; simp at h; subst h; simp [blobsD_len l (i + 1) r hr]
      · cases h
theorem blobD_ok5 {b : List UInt8} {x : BlobL} (h : blobD b = some x) : RBlob.ok x := (blobD_back h).2.1

def ImgDPost (w : World) (r : Option (List BlobL)) (e : Ending) (w' : World) : Prop := ∃ v, e = .returned (.tuple #[.agg #[v], .int .i64 (if r.isSome then 0 else 2)]) ∧ RBlob.Row w' v (r.getD []) ∧ Below w.heap.size w w'
theorem imgD_fail {w w' : World} {r : Option (List BlobL)} (h : r = none) (hb : Below w.heap.size w w') : ImgDPost w r (.returned (.tuple #[RImg.V (.slice none 0 0), .int .i64 2])) w' := ⟨_, by rw [h]; rfl, by rw [h]; exact RecT.Row.nil _, hb⟩
theorem build_img0 (w : World) : (Instr.build 52 #[]).run Tryd.prog w = .ok (.agg #[.slice none 0 0]) w := by kernel_rfl

theorem flatB_ge : ∀ l : List It, l.length ≤ (flatB l).length
  | [] => by simp [flatB]
  | x :: l => by
    have ih := flatB_ge l
    rw [flatB_cons, List.length_append, List.length_cons]
    have : 1 ≤ (itB x).length := by unfold itB; simp
    omega
theorem below_set {w2 w10 : World} {g : Nat} (h : Below g w2 w10) (v : Value) : Below g w2 (w10.setCell ⟨g, 0, none⟩ v) :=
  h.trans ⟨rfl, rfl, rfl, by simp [World.setCell], fun k hk => Below.heap_setCell _ _ _ _ (by show k ≠ g; omega)⟩
/-- Ahead of each round. -/
def DecIM (W2 : World) (g : Nat) (l : List It) (iv : Value) (W : World) : Prop := ∃ (k : Nat) (xs : List BlobL) (v : Value), k ≤ l.length ∧ iv = .int .i64 k ∧ blobsD 0 (l.take k) = some xs ∧ One W g v 52 ∧ RBlob.Own W (g + 1) v xs ∧ Below W2.heap.size W2 W

set_option maxHeartbeats 6400000 in
theorem DecImg_any (v : Value) (b : List UInt8) (w : World) (hl : Bytes w v b) : Calls Tryd.prog 32 #[v] w (ImgDPost w (imgD b)) := by
  obtain ⟨va, vc, hv⟩ := hl.len
  subst hv
  have hD := fun W (h : Bytes W (.slice va b.length vc) b) => Decode_own _ b W h
  have HL := Lib.hid hl
  clear hl
  rcases hd : decL b with _ | l
  · have HDN := Lib.hid (show imgD b = none by unfold imgD; rw [hd]; rfl)
    rw [hd] at hD
    have HDD := Lib.hid hD
    clear hd hD
    go_enter Tryd.func32, Tryd.ntmps32
    go_wp2_with (first
      | ((with_reducible refine wpList_plain (o := ⟨some 2, Op.alloc _, _, _, _, _⟩) rfl fun K hK => ?_); (refine RImg.wp_alloc rfl fun w1 ho1 hb1 hs1 => hK _ _ ?_); have HO1 := Lib.hid ho1; have HB1 := Lib.hid hb1; clear ho1 hb1 hs1)
      | (go_at_call 55; refine (HDD.out _ (HL.out.of_new HB1.out)).mono ?_; rintro e w2 ⟨v2, pre, base, rfl, hown, hpre, hb2, hbase⟩; have HO2 := Lib.hid (HO1.out.of_new hb2); have HB2 := Lib.hid (below_next HB1.out hb2); clear hown hpre hb2 hbase)
      | ((with_reducible refine wpList_plain (o := ⟨some 18, Op.build _ _, _, _, _, _⟩) rfl fun K hK => ?_); (refine wp_val (v := RImg.V (.slice none 0 0)) (by unfold execOp; simp only [List.map_toArray, List.map_nil, build_img0, Sem.run_bind, Result.andThen_ok, Sem.run_pure]; rfl) (hK _ _ ?_)))
      | ((with_reducible refine wpList_plain (o := ⟨none, Op.store _ (.tmp 2) (.tmp 18), _, _, _, _⟩) rfl fun K hK => ?_); (refine HO2.out.store (.tmp 2) (.tmp 18) rfl rfl rfl (show RImg.ok (.slice none 0 0) from rfl) fun wF hOF hgF hsF => hK _ _ ?_); have HOF := Lib.hid hOF; have HGF := Lib.hid hgF; clear hOF hgF hsF))
    refine bodyPost_ret (RecT.results2 rfl _ rfl rfl HOF.out) rfl ?_
    exact imgD_fail HDN.out (HB2.out.grown HGF.out (by have := HB2.out.size; omega) (fun k e => by cases e; omega))
  have HDEC := Lib.hid (show imgD b = (blobsD 0 l).bind okI by unfold imgD; rw [hd]; rfl)
  have hEB := encL_decL hd
  have hble : b.length ≤ 65536 := encL_le hEB
  have hll : l.length ≤ 65536 := by
    have hfl : b = flatB l := by have := (encF_parts l 0 [] b (by simp) hEB).1; simpa using this
    have := flatB_ge l
    rw [← hfl] at this; omega
  clear hEB
  rw [hd] at hD
  have HDD := Lib.hid hD
  clear hd hD
  go_enter Tryd.func32, Tryd.ntmps32
  go_upto_region 4 with (first
      | ((with_reducible refine wpList_plain (o := ⟨some 2, Op.alloc _, _, _, _, _⟩) rfl fun K hK => ?_); (refine RImg.wp_alloc rfl fun w1 ho1 hb1 hs1 => hK _ _ ?_); have HO1 := Lib.hid ho1; have HB1 := Lib.hid hb1; clear ho1 hb1 hs1)
      | (go_at_call 55; refine (HDD.out _ (HL.out.of_new HB1.out)).mono ?_; rintro e w2 ⟨v2, pre, base, rfl, hown, hpre, hb2, hbase⟩; have HO2 := Lib.hid (HO1.out.of_new hb2); have HB2 := Lib.hid (below_next HB1.out hb2); clear hb2 hbase))
  rw [Option.getD_some] at hpre
  have hlen : pre.length = l.length := by rw [← hpre]; simp
  obtain ⟨va2, vc2, hv⟩ := hown.len
  subst hv
  rw [hlen]
  have HOWN := Lib.hid hown
  have HPRE := Lib.hid hpre
  have HLEN := Lib.hid hlen
  obtain ⟨g, hg⟩ : ∃ g, w2.heap.size = g := ⟨_, rfl⟩
  have HG := Lib.hid hg
  have hwg : w.heap.size < g := by rw [← hg]; exact HO2.out.lt
  clear hown hpre hlen hg
  go_wp2_with (first
      | ((with_reducible refine wpList_plain (o := ⟨some 6, Op.alloc _, _, _, _, _⟩) rfl fun K hK => ?_); (refine RImg.wp_alloc rfl fun w3 ho3 hb3 hs3 => hK _ _ ?_); rw [HG.out] at ho3 hs3 ⊢; have HO3 := Lib.hid ho3; have HB3 := Lib.hid hb3; have HS3 := Lib.hid hs3; clear ho3 hb3 hs3))
  go_loopw [7, 8, 9, 10, 22] (fun _ _ _ _ iv W' => DecIM w2 g l iv W') (fun _ _ _ _ iv _ => l.length - (intOf iv).toNat)
  case atStart => exact ⟨0, [], _, Nat.zero_le _, rfl, rfl, RImg_one HO3.out, RecT.Own.nil _ _, HB3.out⟩
  case round =>
    obtain ⟨k, xs, v, hk, rfl, hxs, hone, hown, hbr⟩ := hrel
    have hgl := hone.lt
    by_cases hlt : k < l.length
    · obtain ⟨x, hx⟩ : ∃ x, l[k]? = some x := ⟨_, List.getElem?_eq_getElem hlt⟩
      obtain ⟨pg, pc, hv, hpg, hcell⟩ := HOWN.out.cellsAt (by rw [HLEN.out]; omega)
      rw [HPRE.out, HLEN.out] at hcell
      rw [HLEN.out] at hv
      obtain ⟨rfl, rfl⟩ : va2 = some ⟨pg, 0, none⟩ ∧ vc2 = pc := by simp only [Value.slice.injEq] at hv; exact ⟨hv.1, hv.2.2⟩
      obtain ⟨hn, u, hu, hub, -⟩ := hcell k hlt
      rw [show l.getD k (0, []) = x by simp [List.getD, hx]] at hn hub
      have hat : RItem.At wr pg (k * 2) (x.1, u) := (RItem_at hpg (by obtain ⟨a, c, h⟩ := hub.len; rw [h]; rfl) hn hu).of_new hbr
      have hubr := hub.of_new hbr
      have hB := fun W h => blobDec_any u x.2 W h
      have hki : (k : Int) < (l.length : Int) := by omega
      have hwk : IntKind.i64.wrap ((k : Int) + 1) = (k : Int) + 1 := IntWalk.i64_in _ (by omega)
      have HX := Lib.hid hx
      have HXS := Lib.hid hxs
      have HONE := Lib.hid hone
      have HWN := Lib.hid hown
      have HBR := Lib.hid hbr
      have HAT := Lib.hid hat
      have HUB := Lib.hid hubr
      have HB := Lib.hid hB
      have HYO := Lib.hid hat.1
      clear hv hcell hn hu hub hubr hat hB hx hxs hone hown hbr
      go_upto_region 8 with (first
        | ((with_reducible refine wpList_plain (o := ⟨some 26, Op.load _ _, _, _, _, _⟩) rfl fun K hK => ?_); (refine HAT.out.wp rfl rfl (hK _ _ ?_)))
        | ((with_reducible refine wpList_plain (o := ⟨some 8, Op.alloc _, _, _, _, _⟩) rfl fun K hK => ?_); (refine RItem.wp_alloc rfl fun w4 ho4 hb4 hs4 => hK _ _ ?_); have HO4 := Lib.hid ho4; have HB4 := Lib.hid hb4; clear ho4 hb4 hs4)
        | ((with_reducible refine wpList_plain (o := ⟨none, Op.store _ (.tmp 8) (.tmp 26), _, _, _, _⟩) rfl fun K hK => ?_); (refine HO4.out.store (.tmp 8) (.tmp 26) rfl rfl rfl HYO.out fun w5 ho5 hg5 hs5 => hK _ _ ?_); have hb5 := HB4.out.grown hg5 (by have := HB4.out.size; omega) (fun k e => by cases e; exact Nat.le_refl _); have HO5 := Lib.hid ho5; have HB5 := Lib.hid hb5; clear ho5 hg5 hs5 hb5))
      have HR5 := Lib.hid ((HO2.out.of_new HBR.out).of_new HB5.out)
      have HB25 := Lib.hid (below_next HBR.out HB5.out)
      have HUB5 := Lib.hid (HUB.out.of_new HB5.out)
      have hc8 := RItem_val HO5.out
      have HONE5 := Lib.hid (HONE.out.of_new HB5.out)
      have HWN5 := Lib.hid (HWN.out.of_new HB5.out)
      have hstop := fun h => blobsD_stop HX.out h
      rcases hbd : blobD x.2 with _ | y
      · have HDN := Lib.hid (show imgD b = none by rw [HDEC.out, hstop (.inl hbd)]; rfl)
        rw [hbd] at HB
        have HYB := Lib.hid (show RBlob.ok (Option.getD (none : Option BlobL) BlobL.zero) from BlobL.zero_ok)
        clear hbd hstop
        go_upto_region 9 with (first
          | (go_at_call 56; refine (HB.out _ HUB5.out).mono ?_; rintro e w6 ⟨rfl, hb6⟩; have HO6 := Lib.hid (HO5.out.of_new hb6); have HB6 := Lib.hid hb6; clear hb6)
          | ((with_reducible refine wpList_plain (o := ⟨some 9, Op.alloc _, _, _, _, _⟩) rfl fun K hK => ?_); (refine RBlob.wp_alloc rfl fun w7 ho7 hb7 hs7 => hK _ _ ?_); have HO7 := Lib.hid ho7; have HB7 := Lib.hid hb7; have hs67 := HB6.out.size; clear ho7 hb7 hs7)
          | ((with_reducible refine wpList_plain (o := ⟨none, Op.store _ (.tmp 9) (.tmp 31), _, _, _, _⟩) rfl fun K hK => ?_); (refine HO7.out.store (.tmp 9) (.tmp 31) rfl rfl rfl HYB.out fun w8 ho8 hg8 hs8 => hK _ _ ?_); have hb8 := HB7.out.grown hg8 (by have := HB7.out.size; omega) (fun k e => by cases e; exact Nat.le_refl _); have HO8 := Lib.hid ho8; have HB8 := Lib.hid (below_next HB6.out hb8); have HI8 := Lib.hid (HO6.out.of_new hb8); clear ho8 hg8 hs8 hb8))
        have HRR := Lib.hid (HR5.out.of_new HB8.out)
        have HBW := Lib.hid (below_next HB2.out (below_next HB25.out HB8.out))
        have hwn8 := RItem_num HI8.out
        go_wp2_with (first
              | ((with_reducible refine wpList_plain (o := ⟨some 42, Op.build _ _, _, _, _, _⟩) rfl fun K hK => ?_); (refine wp_val (v := RImg.V (.slice none 0 0)) (by unfold execOp; simp only [List.map_toArray, List.map_nil, build_img0, Sem.run_bind, Result.andThen_ok, Sem.run_pure]; rfl) (hK _ _ ?_)))
              | ((with_reducible refine wpList_plain (o := ⟨none, Op.store _ (.tmp 2) (.tmp 42), _, _, _, _⟩) rfl fun K hK => ?_); (refine HRR.out.store (.tmp 2) (.tmp 42) rfl rfl rfl (show RImg.ok (.slice none 0 0) from rfl) fun wF hOF hgF hsF => hK _ _ ?_); have HOF := Lib.hid hOF; have HGF := Lib.hid hgF; clear hOF hgF hsF))
        refine bodyPost_ret (RecT.results2 rfl _ rfl rfl HOF.out) rfl ?_
        exact imgD_fail HDN.out (HBW.out.grown HGF.out (by have := HBW.out.size; omega) (fun k e => by cases e; omega))
      · rw [hbd] at HB
        have HYB := Lib.hid (show RBlob.ok (Option.getD (some y) BlobL.zero) from blobD_ok5 hbd)
        have HBD := Lib.hid hbd
        have HST := Lib.hid hstop
        clear hbd hstop
        go_upto_region 9 with (first
          | (go_at_call 56; refine (HB.out _ HUB5.out).mono ?_; rintro e w6 ⟨rfl, hb6⟩; have HO6 := Lib.hid (HO5.out.of_new hb6); have HB6 := Lib.hid hb6; clear hb6)
          | ((with_reducible refine wpList_plain (o := ⟨some 9, Op.alloc _, _, _, _, _⟩) rfl fun K hK => ?_); (refine RBlob.wp_alloc rfl fun w7 ho7 hb7 hs7 => hK _ _ ?_); have HO7 := Lib.hid ho7; have HB7 := Lib.hid hb7; have hs67 := HB6.out.size; clear ho7 hb7 hs7)
          | ((with_reducible refine wpList_plain (o := ⟨none, Op.store _ (.tmp 9) (.tmp 31), _, _, _, _⟩) rfl fun K hK => ?_); (refine HO7.out.store (.tmp 9) (.tmp 31) rfl rfl rfl HYB.out fun w8 ho8 hg8 hs8 => hK _ _ ?_); have hb8 := HB7.out.grown hg8 (by have := HB7.out.size; omega) (fun k e => by cases e; exact Nat.le_refl _); have HO8 := Lib.hid ho8; have HB8 := Lib.hid (below_next HB6.out hb8); have HI8 := Lib.hid (HO6.out.of_new hb8); clear ho8 hg8 hs8 hb8))
        have HRR := Lib.hid (HR5.out.of_new HB8.out)
        have HBW := Lib.hid (below_next HB2.out (below_next HB25.out HB8.out))
        have hwn8 := RItem_num HI8.out
        by_cases hxn : x.1 = (k : Int) + 1
        case neg =>
          have HDN := Lib.hid (show imgD b = none by rw [HDEC.out, HST.out (.inr (by intro h; exact hxn (by rw [h]; omega)))]; rfl)
          have t1 : (x.1 == (k : Int) + 1) = false := beq_eq_false_iff_ne.2 hxn
          have t2 : (x.1 != (k : Int) + 1) = true := bne_iff_ne.2 hxn
          go_wp2_with (first
                | ((with_reducible refine wpList_plain (o := ⟨some 42, Op.build _ _, _, _, _, _⟩) rfl fun K hK => ?_); (refine wp_val (v := RImg.V (.slice none 0 0)) (by unfold execOp; simp only [List.map_toArray, List.map_nil, build_img0, Sem.run_bind, Result.andThen_ok, Sem.run_pure]; rfl) (hK _ _ ?_)))
                | ((with_reducible refine wpList_plain (o := ⟨none, Op.store _ (.tmp 2) (.tmp 42), _, _, _, _⟩) rfl fun K hK => ?_); (refine HRR.out.store (.tmp 2) (.tmp 42) rfl rfl rfl (show RImg.ok (.slice none 0 0) from rfl) fun wF hOF hgF hsF => hK _ _ ?_); have HOF := Lib.hid hOF; have HGF := Lib.hid hgF; clear hOF hgF hsF))
          refine bodyPost_ret (RecT.results2 rfl _ rfl rfl HOF.out) rfl ?_
          exact imgD_fail HDN.out (HBW.out.grown HGF.out (by have := HBW.out.size; omega) (fun k e => by cases e; omega))
        have HXN := Lib.hid hxn
        rw [hxn] at hwn8
        clear hxn
        have hone8 := HONE5.out.of_new HB8.out
        have hcg := hone8.cell
        have HONE8 := Lib.hid hone8
        have HWN8 := Lib.hid (HWN5.out.of_new HB8.out)
        have HLX := Lib.hid (show xs.length = k by have := blobsD_len _ _ _ HXS.out; rw [List.length_take] at this; omega)
        clear hone8
        go_upto_region 12 with (first
          | ((with_reducible refine wpList_plain (o := ⟨some 45, Op.load _ _, _, _, _, _⟩) rfl fun K hK => ?_); (refine HO8.out.at_.wp rfl rfl (hK _ _ ?_)))
          | ((with_reducible refine wpList_plain (o := ⟨some 46, Op.buildSlice _ _ _, _, _, _, _⟩) rfl fun K hK => ?_); (refine RBlob.wp_build1 (x := Option.getD (some y) BlobL.zero) Tryd.underlying50 (.tmp 45) HYB.out rfl rfl fun w9 ho9 hb9 hs9 => hK _ _ ?_); have HO9 := Lib.hid ho9; have HB9 := Lib.hid (below_next HB8.out hb9); have HONE9 := Lib.hid (HONE8.out.of_new hb9); have HWN9 := Lib.hid (HWN8.out.of_new hb9); clear ho9 hb9 hs9)
          | ((with_reducible refine wpList_plain (o := ⟨some 47, _, _, _, _, _⟩) rfl fun K hK => ?_); (refine HWN9.out.app Tryd.underlying50 (.tmp 44) (.tmp 46) rfl rfl rfl HO9.out.row (by have := HLX.out; simp; omega) (by have := HONE9.out.lt; omega) fun v' w10 hoA hgA hkA => hK _ _ ?_); obtain ⟨a10, c10, hv10⟩ := hoA.row.len; subst hv10; have hone10 := HONE9.out.grown hgA (fun e => by have := (HWN9.out.lt g e.symm).1; omega); have hcg10 := hone10.cell; have hfg10 := hone10.free; have HONE10 := Lib.hid hone10; have HOA := Lib.hid hoA; have HGA := Lib.hid hgA; clear hoA hgA hkA hone10))
        generalize hW11 : w10.setCell _ _ = w11
        have hone11 : One w11 g (.slice a10 (xs ++ [Option.getD (some y) BlobL.zero]).length c10) 52 := by
          subst hW11
          have h := HONE10.out.set (.slice a10 (xs.length + 1) c10)
          rw [show (xs ++ [Option.getD (some y) BlobL.zero]).length = xs.length + 1 by simp]
          exact h
        have hown11 : RBlob.Own w11 (g + 1) (.slice a10 (xs ++ [Option.getD (some y) BlobL.zero]).length c10) (xs ++ [Option.getD (some y) BlobL.zero]) := by
          subst hW11
          exact HOA.out.kept fun q hq => Below.heap_setCell _ _ _ _ (by have := (HOA.out.lt q hq).1; show q ≠ g; omega)
        have hb11 : Below w2.heap.size w2 w11 := by
          subst hW11
          have h9 : Below w2.heap.size w2 w9 := (below_next HB25.out HB9.out)
          have h10 := h9.grown HGA.out (by have := h9.size; omega) (fun q hq => by have := (HWN9.out.lt q hq).1; have := HG.out; omega)
          rw [HG.out] at h10 ⊢
          exact below_set h10 _
        have hst := blobsD_snoc HX.out HXS.out HBD.out (by rw [HXN.out]; omega)
        clear hW11 hcg10 hfg10 hcg
        go_wp2
        go_roundw
        case rel => exact ⟨k + 1, _, _, by omega, by go_num, hst, hone11, hown11, hb11⟩
        case measure => simp [intOf]; omega
    · obtain rfl : k = l.length := by omega
      rw [List.take_length] at hxs
      have hI := Image_any v xs wr hown.row
      have hokI := HDEC.out
      rw [hxs, Option.bind_some] at hokI
      unfold okI at hokI
      have hone' : RImg.O wr g v := one_RImg hone (by obtain ⟨a, c, h⟩ := hown.row.len; rw [h]; rfl)
      obtain ⟨E, hE⟩ : ∃ E, imageE xs = E := ⟨_, rfl⟩
      rw [hE] at hI hokI
      have HI := Lib.hid hI
      have HIMG := Lib.hid hone'
      have HWN := Lib.hid hown
      have HRW := Lib.hid (HO2.out.of_new hbr)
      have HBWR := Lib.hid (below_next HB2.out hbr)
      have HOK := Lib.hid hokI
      have hki : ¬ (l.length : Int) < (l.length : Int) := by omega
      clear hI hokI hE hxs hown hbr hone hone'
      by_cases h0 : E = 0
      · subst h0
        have HOK2 := Lib.hid (show imgD b = some xs by rw [HOK.out, if_pos rfl])
        clear HOK
        go_upto_region 15 with (first
          | ((with_reducible refine wpList_plain (o := ⟨some 50, Op.load _ _, _, _, _, _⟩) rfl fun K hK => ?_); (refine HIMG.out.at_.wp rfl rfl (hK _ _ ?_)))
          | (go_at_call 35; refine HI.out.mono ?_; rintro e w3 ⟨rfl, hb3⟩; have HB3 := Lib.hid hb3; have HRR := Lib.hid (HRW.out.of_new hb3); have HIM3 := Lib.hid (HIMG.out.of_new hb3); have HWN3 := Lib.hid (HWN.out.of_new hb3); have HBW := Lib.hid (below_next HBWR.out hb3); clear hb3))
        have hvok := HIMG.out.2
        have HVOK := Lib.hid hvok
        clear hvok
        go_wp2_with (first
          | ((with_reducible refine wpList_plain (o := ⟨some 54, Op.load _ _, _, _, _, _⟩) rfl fun K hK => ?_); (refine HIM3.out.at_.wp rfl rfl (hK _ _ ?_)))
          | ((with_reducible refine wpList_plain (o := ⟨none, Op.store _ (.tmp 2) (.tmp 54), _, _, _, _⟩) rfl fun K hK => ?_); (refine HRR.out.store (.tmp 2) (.tmp 54) rfl rfl rfl HVOK.out fun wF hOF hgF hsF => hK _ _ ?_); have HOF := Lib.hid hOF; have HGF := Lib.hid hgF; clear hOF hgF hsF))
        refine bodyPost_ret (RecT.results2 rfl _ rfl rfl HOF.out) rfl ?_
        refine ⟨v, by rw [HOK2.out]; rfl, ?_, HBW.out.grown HGF.out (by have := HBW.out.size; omega) (fun k e => by cases e; omega)⟩
        rw [HOK2.out]
        exact HWN3.out.row.of_kept HGF.out (fun q hq => by have := (HWN3.out.lt q hq).1; intro e; cases e; omega)
      · have HDN := Lib.hid (show imgD b = none by rw [HOK.out, if_neg h0])
        have t1 : (E == 0) = false := beq_eq_false_iff_ne.2 h0
        have t2 : (E != 0) = true := bne_iff_ne.2 h0
        clear HOK h0
        go_upto_region 14 with (first
          | ((with_reducible refine wpList_plain (o := ⟨some 50, Op.load _ _, _, _, _, _⟩) rfl fun K hK => ?_); (refine HIMG.out.at_.wp rfl rfl (hK _ _ ?_)))
          | (go_at_call 35; refine HI.out.mono ?_; rintro e w3 ⟨rfl, hb3⟩; have HRR := Lib.hid (HRW.out.of_new hb3); have HBW := Lib.hid (below_next HBWR.out hb3); clear hb3))
        go_wp2_with (first
              | ((with_reducible refine wpList_plain (o := ⟨some 53, Op.build _ _, _, _, _, _⟩) rfl fun K hK => ?_); (refine wp_val (v := RImg.V (.slice none 0 0)) (by unfold execOp; simp only [List.map_toArray, List.map_nil, build_img0, Sem.run_bind, Result.andThen_ok, Sem.run_pure]; rfl) (hK _ _ ?_)))
              | ((with_reducible refine wpList_plain (o := ⟨none, Op.store _ (.tmp 2) (.tmp 53), _, _, _, _⟩) rfl fun K hK => ?_); (refine HRR.out.store (.tmp 2) (.tmp 53) rfl rfl rfl (show RImg.ok (.slice none 0 0) from rfl) fun wF hOF hgF hsF => hK _ _ ?_); have HOF := Lib.hid hOF; have HGF := Lib.hid hgF; clear hOF hgF hsF))
        refine bodyPost_ret (RecT.results2 rfl _ rfl rfl HOF.out) rfl ?_
        exact imgD_fail HDN.out (HBW.out.grown HGF.out (by have := HBW.out.size; omega) (fun k e => by cases e; omega))

end Go.Proofs.YtnomekfemadpeaaDoor

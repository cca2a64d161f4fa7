/- Texts of this claim, one behind the other: each begins with a comment that says what it proves and asks. -/
import Derived.Test.YtnohglkilpnjhaaGreatDoorGi22
/- The walk of the laws' awake. Condition: the table of the hash's constants. -/
namespace Go.Proofs.YtnohglkilpnjhaaGreatDoor
open Go.RowKit
set_option linter.unusedVariables false
set_option linter.unusedSimpArgs false
set_option maxRecDepth 100000

theorem right_one : mrightB ((([7] : List UInt8).length : Nat) : Int) 16 = true := by decide
theorem pub_one : ∃ S nm, pubL OrgL.zero [[7]] 16 = (S, nm, 0) ∧ nm.length = 32 ∧ (imgAt S nm).isSome = true := by
  have hb : blobsL 16 [[7]] = [(blobE [7] 16).1] := rfl
  have he : encGE (blobsL 16 [[7]]) = 0 := by
    have h1 : imageE (blobsL 16 [[7]]) = 0 := by
      rw [hb]
      refine image_one ?_
      unfold blobE
      rw [if_pos right_one]
      exact right_one
    obtain ⟨h2, _⟩ := encG_some h1 (blobsL_ok 16 [[7]])
    unfold encGE
    rw [if_pos h1]
    unfold encG at h2
    rw [if_pos h1] at h2
    rw [h2]; rfl
  refine ⟨⟨[(nameL (blobsL 16 [[7]]), blobsL 16 [[7]])], (contsL 16 [[7]]).foldl addC [], []⟩, nameL (blobsL 16 [[7]]), ?_, nameL_len _, ?_⟩
  · unfold pubL
    rw [if_pos (by unfold layersOk; simp only [List.all_cons, List.all_nil, Bool.and_true]; exact right_one), if_pos he, if_neg (by simp [imgAt, OrgL.zero]), if_neg (by simp [OrgL.zero])]
    rfl
  · simp [imgAt]
theorem take_ask {S : OrgL} {nm : List UInt8} {most each life : Int} (h : (imgAt S nm).isSome = true) : ∃ bs, takeO S most each life 3 1 (mk0 9 nm) 0 = (S, { mk0 10 nm with bytes := bs }, true, 0) := by
  obtain ⟨xs, hx⟩ := Option.isSome_iff_exists.1 h
  refine ⟨(encG xs).getD [], ?_⟩
  have hr : wrightB (mk0 9 nm) = true := by
    rw [wrightB_eq]
    simp [itemB, hasL, mk0, fitsB, bareB]
  have hok : takeOk 3 1 (mk0 9 nm) = true := takeOk_iff.2 ⟨by omega, by omega, hr⟩
  unfold takeO
  rw [if_pos hok, if_pos (show (mk0 9 nm).kind = 9 from rfl)]
  have ht : tellL S nm = { mk0 10 nm with bytes := (encG xs).getD [] } := by unfold tellL; rw [hx]
  show (S, tellL S nm, true, 0) = _
  rw [ht]
theorem parts_one19 {w : World} : PartsV ((w.alloc (.cells #[.int .u8 7] 5)).alloc (.cells #[.slice (some ⟨w.heap.size, 0, none⟩) 1 1] 33)) (.slice (some ⟨w.heap.size + 1, 0, none⟩) 1 1) [[7]] := by
  have h1 := heap_alloc_new w (.cells #[.int .u8 7] 5)
  have hs : (w.alloc (.cells #[.int .u8 7] 5)).heap.size = w.heap.size + 1 := by simp
  have h2 := heap_alloc_new (w.alloc (.cells #[.int .u8 7] 5)) (.cells #[.slice (some ⟨w.heap.size, 0, none⟩) 1 1] 33)
  rw [hs] at h2
  refine ⟨_, 1, rfl, by simp, by unfold maxLen; omega, (fun h => by cases h), fun _ => ⟨w.heap.size + 1, 0, rfl, by simp, fun i hi => ?_⟩⟩
  obtain rfl : i = 0 := by simp at hi; omega
  refine ⟨.slice (some ⟨w.heap.size, 0, none⟩) 1 1, by simp only [World.cell?, h2]; rfl, ?_⟩
  have hb : Bytes (w.alloc (.cells #[.int .u8 7] 5)) (.slice (some ⟨w.heap.size, 0, none⟩) 1 1) [7] := by
    refine ⟨rfl, _, 1, rfl, by simp, by unfold maxLen; omega, (fun h => by cases h), fun _ => ⟨w.heap.size, 0, rfl, by simp, fun j hj => ?_⟩⟩
    obtain rfl : j = 0 := by simp at hj; omega
    simp only [World.cell?, h1]; rfl
  exact hb.of_new ((Below.refl _ _).alloc (Nat.le_refl _) _)

theorem mk0_ok {k : Int} {d : List UInt8} (h : inI64 k) : (mk0 k d).ok := ⟨h, (by show inI64 0; unfold inI64; omega), (fun n hn => by cases hn), fun x hx => by cases hx⟩
set_option maxHeartbeats 3200000 in
theorem oawake_any (w : World) (hKc : Consts w) : Calls Tryz.prog 9 #[] w fun e w' => e = .returned (.bool true) ∧ Below w.heap.size w w' := by
  obtain ⟨S, nm, hpub, hn32, hsome⟩ := pub_one
  obtain ⟨bs, htake⟩ := take_ask (most := 5) (each := 5) (life := 10) hsome
  have HPUB := Lib.hid hpub
  have HN32 := Lib.hid hn32
  have HTAKE := Lib.hid htake
  have HKC := Lib.hid hKc
  have hokS : OrgOk 5 5 S := by
    have := (OrgOk.zero (most := 5) (each := 5) (by omega)).pub [[7]] 16
    rw [hpub] at this
    exact this
  have HOK := Lib.hid hokS
  have HZ := Lib.hid (OrgOk.zero (most := 5) (each := 5) (by omega))
  clear hpub hn32 hsome htake hKc hokS
  go_enter Tryz.func9, Tryz.ntmps9
  go_upto_region 4 with (go_at_call 11; refine (ONew_ok 5 5 10 _ (by decide)).mono ?_; rintro e w1 ⟨o, F, rfl, ho1, hf1, hb1⟩; have HO1 := Lib.hid ho1; have HF1 := Lib.hid hf1; have HB1 := Lib.hid hb1; clear ho1 hf1 hb1)
  go_upto_region 5 with (first
    | (go_at_call 12; have hb2 : Below w1.heap.size w1 _ := ((Below.refl _ w1).alloc (Nat.le_refl _) (.cells #[.int .u8 7] 5)).alloc (by simp) (.cells #[.slice (some ⟨w1.heap.size, 0, none⟩) 1 1] 33); refine (OPublish_any o 5 5 10 OrgL.zero F _ [[7]] 16 _ (HO1.out.of_new hb2) HZ.out parts_one19 (by decide) ((HKC.out.of_new HB1.out).of_new hb2)).mono ?_; unfold PubPost; rw [HPUB.out]; rintro e w3 ⟨F3, rfl, ho3, hs3⟩; have HO3 := Lib.hid ho3; have HB3 := Lib.hid (hs3.below (below_next HB1.out hb2) (by have := HB1.out.size; have := hb2.size; omega) HF1.out); have HF3 := Lib.hid (fun k hk => (hs3.own k hk).elim (HF1.out k) (fun h => Nat.le_trans (Nat.le_trans HB1.out.size hb2.size) h)); clear hb2 ho3 hs3)
    | ((with_reducible refine wpList_plain (o := ⟨some 3, Op.alloc _, _, _, _, _⟩) rfl fun K hK => ?_); (refine wp_alloc_dig rfl fun w4 ho4 hb4 hs4 => hK _ _ ?_); have HO4 := Lib.hid ho4; have HB4 := Lib.hid hb4; clear ho4 hb4 hs4)
    | ((with_reducible refine wpList_plain (o := ⟨none, Op.store _ (.tmp 3) (.tmp 23), _, _, _, _⟩) rfl fun K hK => ?_); (refine wp_store_digO (.tmp 3) (.tmp 23) w3.heap.size nm dig0 rfl rfl rfl HN32.out HO4.out fun w5 ho5 hg5 hs5 => hK _ _ ?_); have hb5 := HB4.out.grown hg5 (by have := HB4.out.size; omega) (fun k e => by cases e; exact Nat.le_refl _); have HDG := Lib.hid ho5.at_; have HB5 := Lib.hid hb5; clear ho5 hg5 hs5 hb5))
  obtain ⟨g3, hg3⟩ : ∃ g, w3.heap.size = g := ⟨_, rfl⟩
  rw [hg3] at HDG ⊢
  clear hg3
  have HO5 := Lib.hid (HO3.out.of_new HB5.out)
  have HBW := Lib.hid (below_next HB3.out HB5.out)
  have hT := fun W h1 h2 => OTake_any o 5 5 10 S F3 3 1 (mk0 9 nm) sN 0 W h1 HOK.out (by omega) (by omega) (msgR_0 W 9 HN32.out) (mk0_ok (by unfold inI64; omega)) (by omega) h2
  rw [HTAKE.out] at hT
  have HT := Lib.hid hT
  clear hT
  go_upto_region 6 with (first
    | ((with_reducible refine wpList_plain (o := ⟨some 27, Op.load _ _, _, _, _, _⟩) rfl fun K hK => ?_); (refine wp_load_at (ty := 31) (x := .tmp 3) rfl rfl HDG.out (hK _ _ ?_)))
    | ((with_reducible refine wpList_plain (o := ⟨some 28, Op.build _ _, _, _, _, _⟩) rfl fun K hK => ?_); (refine wp_build_m1 9 nm HN32.out rfl rfl rfl (hK _ _ ?_)))
    | (go_at_call 13; refine (HT.out _ HO5.out (HKC.out.of_new HBW.out)).mono ?_; unfold TakePost; rintro e w6 ⟨F6, s6, rfl, hr6, -, -, hb6, -⟩; have HR6 := Lib.hid hr6; have HB6 := Lib.hid (below_next HBW.out (hb6 (by show (9 : Int) ≠ 6; decide))); clear hr6 hb6)
    | ((with_reducible refine wpList_plain (o := ⟨some 5, Op.alloc _, _, _, _, _⟩) rfl fun K hK => ?_); (refine wp_alloc_msg rfl fun w7 ho7 hb7 hs7 => hK _ _ ?_); have HO7 := Lib.hid ho7.o; have HB7 := Lib.hid hb7; have HR7 := Lib.hid (HR6.out.of_new hb7); clear ho7 hb7 hs7)
    | ((with_reducible refine wpList_plain (o := ⟨none, Op.store _ (.tmp 5) (.tmp 30), _, _, _, _⟩) rfl fun K hK => ?_); (refine wp_store_msg (.tmp 5) (.tmp 30) w6.heap.size _ msgZ s6 sN rfl rfl rfl HR7.out HO7.out fun w8 ho8 hg8 hs8 => hK _ _ ?_); have HO8 := Lib.hid ho8; have HB8 := Lib.hid (below_next HB6.out (HB7.out.grown hg8 (by have := HB7.out.size; omega) (fun k e => by cases e; exact Nat.le_refl _))); clear ho8 hg8 hs8))
  have hk := HO8.out.kind
  rw [show (({ mk0 10 nm with bytes := bs } : MsgL)).kind = 10 from rfl] at hk
  go_wp2
  go_ret
  exact ⟨rfl, HB8.out⟩

end Go.Proofs.YtnohglkilpnjhaaGreatDoor

/- A step of the laws as a value: in a block, at a place, in a slice. No condition. -/
namespace Go.Proofs.YtnohglkilpnjhaaGreatDoor
open Go.RowKit
set_option linter.unusedVariables false
set_option linter.unusedSimpArgs false
set_option maxRecDepth 100000

/-- A step: what to do, how many, from whom, when, the layers' value, the message with its slices' values, the seed. -/
structure S19 where
  act : Int
  n : Int
  frm : Int
  now : Int
  vl : Value
  m : MsgL
  s : MsgS
  seed : Nat
def S19.cells (x : S19) : List Value := [.int .i64 x.act, .int .i64 x.n, .int .i64 x.frm, .int .i64 x.now, x.vl] ++ (msgCells x.m x.s ++ [.int .u64 (x.seed : Int)])
def S19.zero : S19 := ⟨0, 0, 0, 0, .slice none 0 0, msgZ, sN, 0⟩
/-- What lies behind a step's slices. -/
structure S19R (w : World) (x : S19) (ls : List (List UInt8)) : Prop where
  parts : PartsV w x.vl ls
  msg : MsgR w x.m x.s
  ok : x.m.ok
  act : inI64 x.act
  n : inI64 x.n
  frm : inI64 x.frm
  now : inI64 x.now
  seed : x.seed < 18446744073709551616
theorem S19R.of_new {w w' : World} {x : S19} {ls : List (List UInt8)} (h : S19R w x ls) (hb : Below w.heap.size w w') : S19R w' x ls := ⟨h.parts.of_new hb, h.msg.of_new hb, h.ok, h.act, h.n, h.frm, h.now, h.seed⟩
theorem S19.len {x : S19} (h : x.m.hash.length = 32) : x.cells.length = 45 := by simp [S19.cells, msgCells_len h]
/-- A step at a place. -/
def StepAt (w : World) (g off : Nat) (x : S19) : Prop := x.m.hash.length = 32 ∧ g < w.heap.size ∧ ∀ j, j < 45 → w.cell? ⟨g, off + j, none⟩ = x.cells[j]?
theorem StepAt.of_new {w w' : World} {g off : Nat} {x : S19} (h : StepAt w g off x) (hb : Below w.heap.size w w') : StepAt w' g off x := ⟨h.1, Nat.lt_of_lt_of_le h.2.1 hb.size, fun j hj => (hb.cell (p := ⟨g, off + j, none⟩) h.2.1).trans (h.2.2 j hj)⟩
/-- Block g is one. -/
def StepO (w : World) (g : Nat) (x : S19) : Prop := w.heap[g]? = some (.cells x.cells.toArray 40 (0, 0)) ∧ x.m.hash.length = 32
theorem StepO.lt {w : World} {g : Nat} {x : S19} (h : StepO w g x) : g < w.heap.size := (Array.getElem?_eq_some_iff.1 h.1).1
theorem StepO.of_block {w w' : World} {g : Nat} {x : S19} (h : StepO w g x) (e : w'.heap[g]? = w.heap[g]?) : StepO w' g x := ⟨e.trans h.1, h.2⟩
theorem StepO.of_new {w w' : World} {g : Nat} {x : S19} (h : StepO w g x) (hb : Below w.heap.size w w') : StepO w' g x := h.of_block (hb.block _ h.lt)
theorem StepO.at_ {w : World} {g : Nat} {x : S19} (h : StepO w g x) : StepAt w g 0 x := ⟨h.2, h.lt, fun j hj => by simp only [World.cell?, h.1, Nat.zero_add]; simp⟩
theorem info_step : (Tryz.prog.info? 40).map (fun i => (i.zero, i.size, i.bytes)) = some (some (.agg S19.zero.cells.toArray), 45, 216) := by kernel_rfl
theorem StepAt.load {w : World} {g off : Nat} {x : S19} (h : StepAt w g off x) : (loadVar 40 ⟨g, off, none⟩).run Tryz.prog w = .ok (.agg x.cells.toArray) w := by
  obtain ⟨i, hi, hz, hsize, hby⟩ := info_parts info_step
  have hl := run_loadCells_list (P := Tryz.prog) w ⟨g, off, none⟩ x.cells (fun j v hv => by
    have hj : j < 45 := by rw [← S19.len h.1]; exact (List.getElem?_eq_some_iff.1 hv).1
    have hadd : (⟨g, off, none⟩ : Addr).add j = ⟨g, off + j, none⟩ := by unfold Addr.add; split <;> simp_all
    rw [hadd, h.2.2 j hj, hv])
  rw [S19.len h.1] at hl
  have ha : (Go.isAgg 40).run Tryz.prog w = .ok true w := by
    simp only [Go.isAgg, Sem.run_bind, run_underlying Tryz.underlying40, Result.andThen_ok]; rfl
  simp [loadVar, ha, sizeOf, typeInfo, hi, hsize, hl]
theorem StepAt.wp {w : World} {g off : Nat} {x : S19} {o : Oper} {a : Act} {K : Act → World → Prop} {Q : Exit → Act → World → Prop} {p : Operand} (h : StepAt w g off x) (ho : o.op = .load 40 p) (hp : a.eval p = .pointer (some ⟨g, off, none⟩)) (hK : K (a.put o.dst (.agg x.cells.toArray)) w) : o.wp Tryz.prog a w K Q := by
  refine wp_val (v := .agg x.cells.toArray) ?_ hK
  have := h.load
  unfold execOp
  simp only [ho, hp, Instr.loadAt, Instr.sureAddr, Sem.run_bind, Sem.run_pure, Result.andThen_ok, this]

section
variable {w : World} {g off : Nat} {x : S19}
theorem StepAt.c (h : StepAt w g off x) (j : Nat) (hj : j < 45) {u : Value} (hu : x.cells[j]? = some u) : w.cell? ⟨g, off + j, none⟩ = some u := (h.2.2 j hj).trans hu
theorem StepAt.act (h : StepAt w g off x) : w.cell? ⟨g, off, none⟩ = some (.int .i64 x.act) := h.c 0 (by omega) rfl
theorem StepAt.n (h : StepAt w g off x) : w.cell? ⟨g, off + 1, none⟩ = some (.int .i64 x.n) := h.c 1 (by omega) rfl
theorem StepAt.frm (h : StepAt w g off x) : w.cell? ⟨g, off + 2, none⟩ = some (.int .i64 x.frm) := h.c 2 (by omega) rfl
theorem StepAt.now (h : StepAt w g off x) : w.cell? ⟨g, off + 3, none⟩ = some (.int .i64 x.now) := h.c 3 (by omega) rfl
theorem StepAt.vl (h : StepAt w g off x) : w.cell? ⟨g, off + 4, none⟩ = some x.vl := h.c 4 (by omega) rfl
theorem S19.msg_at {x : S19} (h : x.m.hash.length = 32) {j : Nat} (hj : j < 39) : x.cells[5 + j]? = (msgCells x.m x.s)[j]? := by
  unfold S19.cells
  rw [List.getElem?_append_right (by simp)]
  simp only [List.length_cons, List.length_nil, Nat.zero_add, Nat.add_sub_cancel_left]
  rw [List.getElem?_append_left (by rw [msgCells_len h]; exact hj)]
theorem StepAt.msgc (h : StepAt w g off x) {j : Nat} (hj : j < 39) : w.cell? ⟨g, off + (5 + j), none⟩ = (msgCells x.m x.s)[j]? := (h.2.2 (5 + j) (by omega)).trans (S19.msg_at h.1 hj)
theorem StepAt.kind (h : StepAt w g off x) : w.cell? ⟨g, off + 5, none⟩ = some (.int .i64 x.m.kind) := (h.msgc (j := 0) (by omega)).trans rfl
theorem StepAt.hash (h : StepAt w g off x) : DigAt w g (off + 6) x.m.hash := ⟨h.1, fun j hj => by
  have h1 := h.msgc (j := 1 + j) (by omega)
  rw [show off + 6 + j = off + (5 + (1 + j)) by omega, h1]
  show (Value.int .i64 x.m.kind :: (x.m.hash.map B8 ++ _))[1 + j]? = _
  rw [Nat.add_comm 1 j, List.getElem?_cons_succ, List.getElem?_append_left (by simp [h.1]; exact hj)]⟩
theorem StepAt.tail (h : StepAt w g off x) (j : Nat) (hj : j < 6) : w.cell? ⟨g, off + (38 + j), none⟩ = [.int .i64 x.m.piece, x.s.vi, x.s.vb, x.s.vp, x.s.vm, .bool x.m.seed][j]? := by
  have h1 := h.msgc (j := 33 + j) (by omega)
  rw [show 38 + j = 5 + (33 + j) by omega, h1, msgCells_tail h.1]
theorem StepAt.vi (h : StepAt w g off x) : w.cell? ⟨g, off + 39, none⟩ = some x.s.vi := h.tail 1 (by omega)
theorem StepAt.vb (h : StepAt w g off x) : w.cell? ⟨g, off + 40, none⟩ = some x.s.vb := h.tail 2 (by omega)
theorem StepAt.vp (h : StepAt w g off x) : w.cell? ⟨g, off + 41, none⟩ = some x.s.vp := h.tail 3 (by omega)
theorem StepAt.vm (h : StepAt w g off x) : w.cell? ⟨g, off + 42, none⟩ = some x.s.vm := h.tail 4 (by omega)
theorem StepAt.seed (h : StepAt w g off x) : w.cell? ⟨g, off + 44, none⟩ = some (.int .u64 (x.seed : Int)) := by
  refine h.c 44 (by omega) ?_
  unfold S19.cells
  rw [List.getElem?_append_right (by simp)]
  simp only [List.length_cons, List.length_nil, Nat.zero_add]
  rw [List.getElem?_append_right (by rw [msgCells_len h.1]; omega), msgCells_len h.1]
  rfl
end

/-- A slice of steps. -/
def StepsV (w : World) (v : Value) (l : List (S19 × List (List UInt8))) : Prop :=
  ∃ (a : Option Addr) (c : Nat), v = .slice a l.length c ∧ l.length ≤ c ∧ c ≤ maxLen ∧ (∀ p ∈ l, S19R w p.1 p.2) ∧
    (0 < l.length → ∃ b off, a = some ⟨b, off, none⟩ ∧ b < w.heap.size ∧ ∀ i p, l[i]? = some p → StepAt w b (off + i * 45) p.1)
theorem StepsV.of_new {w w' : World} {v : Value} {l : List (S19 × List (List UInt8))} (h : StepsV w v l) (hb : Below w.heap.size w w') : StepsV w' v l := by
  obtain ⟨a, c, h1, h2, h3, h4, h5⟩ := h
  refine ⟨a, c, h1, h2, h3, fun p hp => (h4 p hp).of_new hb, fun h0 => ?_⟩
  obtain ⟨b, off, e, hlt, hat⟩ := h5 h0
  exact ⟨b, off, e, Nat.lt_of_lt_of_le hlt hb.size, fun i p hi => (hat i p hi).of_new hb⟩
theorem StepsV.len {w : World} {v : Value} {l : List (S19 × List (List UInt8))} (h : StepsV w v l) : ∃ a c, v = .slice a l.length c := by
  obtain ⟨a, c, h1, _⟩ := h
  exact ⟨a, c, h1⟩
theorem StepsV.le {w : World} {v : Value} {l : List (S19 × List (List UInt8))} (h : StepsV w v l) : l.length ≤ 9223372036854775807 := by
  obtain ⟨a, c, h1, h2, h3, _⟩ := h
  unfold maxLen at h3
  omega

end Go.Proofs.YtnohglkilpnjhaaGreatDoor

/- The walk of the laws' much. Condition: the steps as they lie. -/
namespace Go.Proofs.YtnohglkilpnjhaaGreatDoor
open Go.RowKit
set_option linter.unusedVariables false
set_option linter.unusedSimpArgs false
set_option maxRecDepth 100000

/-- No step has more layers than it may. -/
def FewSt (l : List (S19 × List (List UInt8))) : Prop := ∀ i p, i < 100 → l[i]? = some p → p.2.length ≤ 20
def MuchPost (l : List (S19 × List (List UInt8))) (w : World) (e : Ending) (w' : World) : Prop := ∃ b, e = .returned (.bool b) ∧ w' = w ∧ (b = false → FewSt l)
set_option maxHeartbeats 6400000 in
theorem much_any (v : Value) (l : List (S19 × List (List UInt8))) (w : World) (hl : StepsV w v l) :
    Calls Tryz.prog 10 #[v] w (MuchPost l w) := by
  have hle := hl.le
  obtain ⟨va, vc, hv, _, _, hall, hat⟩ := hl
  subst hv
  have HALL := Lib.hid hall
  have HAT := Lib.hid hat
  clear hall hat
  obtain ⟨n, hn⟩ : ∃ n, l.length = n := ⟨_, rfl⟩
  rw [hn] at hle HAT ⊢
  have HN := Lib.hid hn
  clear hn
  go_enter Tryz.func10, Tryz.ntmps10
  go_wp2
  go_loopw [3, 4, 5] (fun nv iv _ W' => ∃ i s : Nat, i ≤ n ∧ s ≤ 40000 ∧ nv = .int .i64 (s : Int) ∧ iv = .int .i64 (i : Int) ∧ (∀ j p, j < i → l[j]? = some p → p.2.length ≤ 20) ∧ W' = w) (fun _ iv _ _ => n - (intOf iv).toNat)
  case atStart => exact ⟨0, 0, Nat.zero_le _, by omega, rfl, rfl, (fun j p hj => absurd hj (Nat.not_lt_zero _)), rfl⟩
  case round =>
    obtain ⟨i, s, hi, hs, rfl, rfl, hlow, rfl⟩ := hrel
    have HLOW := Lib.hid hlow
    clear hlow
    by_cases hlt : i < n
    case neg =>
      have hii : ¬ (i : Int) < (n : Int) := by omega
      have hfew : FewSt l := fun j p hj hp => HLOW.out j p (by have := (List.getElem?_eq_some_iff.1 hp).1; rw [HN.out] at this; omega) hp
      have HF := Lib.hid hfew
      clear hfew
      go_wp2
      go_ret
      exact ⟨_, rfl, rfl, fun _ => HF.out⟩
    have hii : (i : Int) < (n : Int) := by omega
    by_cases h100 : i < 100
    case neg =>
      have h1i : ¬ (i : Int) < 100 := by omega
      have hfew : FewSt l := fun j p hj hp => HLOW.out j p (by omega) hp
      have HF := Lib.hid hfew
      clear hfew
      go_wp2
      go_ret
      exact ⟨_, rfl, rfl, fun _ => HF.out⟩
    have h1i : (i : Int) < 100 := by omega
    obtain ⟨b, off, rfl, hbl, hst⟩ := HAT.out (by omega)
    obtain ⟨p, hp⟩ : ∃ p, l[i]? = some p := ⟨_, List.getElem?_eq_getElem (by rw [HN.out]; exact hlt)⟩
    have hs19 := HALL.out p (List.mem_of_getElem? hp)
    have hat := hst i p hp
    obtain ⟨la, lc, hlv⟩ := hs19.parts.len
    obtain ⟨ia, ic, hiv⟩ := hs19.msg.ids.len
    obtain ⟨ba, bc, hbv⟩ := hs19.msg.bytes.len
    obtain ⟨pa, pc, hpv⟩ := hs19.msg.proof.len
    obtain ⟨ma, mc, hmv⟩ := hs19.msg.members.len
    have c4 := hat.vl
    have c39 := hat.vi
    have c40 := hat.vb
    have c41 := hat.vp
    have c42 := hat.vm
    have hpt := hs19.parts
    rw [hlv] at c4 hpt
    rw [hiv] at c39
    rw [hbv] at c40
    rw [hpv] at c41
    rw [hmv] at c42
    obtain ⟨nI, hnI⟩ : ∃ k, p.1.m.ids.length = k := ⟨_, rfl⟩
    obtain ⟨nB, hnB⟩ : ∃ k, p.1.m.bytes.length = k := ⟨_, rfl⟩
    obtain ⟨nP, hnP⟩ : ∃ k, p.1.m.proof.length = k := ⟨_, rfl⟩
    obtain ⟨nM, hnM⟩ : ∃ k, p.1.m.members.length = k := ⟨_, rfl⟩
    obtain ⟨nL, hnL⟩ : ∃ k, p.2.length = k := ⟨_, rfl⟩
    rw [hnI] at c39
    rw [hnB] at c40
    rw [hnP] at c41
    rw [hnM] at c42
    rw [hnL] at c4 hpt
    have HNL := Lib.hid hnL
    have HP := Lib.hid hp
    have HPT := Lib.hid hpt
    clear hs19 hat hlv hiv hbv hpv hmv hnI hnB hnP hnM hnL hp hst hpt
    by_cases t1 : (20 : Int) < (nL : Int)
    · go_wp2
      go_ret
      exact ⟨true, rfl, rfl, fun h => by cases h⟩
    by_cases t2 : (20000 : Int) < (nB : Int)
    · go_wp2
      go_ret
      exact ⟨true, rfl, rfl, fun h => by cases h⟩
    by_cases t3 : (200 : Int) < (nI : Int)
    · go_wp2
      go_ret
      exact ⟨true, rfl, rfl, fun h => by cases h⟩
    by_cases t4 : (50 : Int) < (nP : Int)
    · go_wp2
      go_ret
      exact ⟨true, rfl, rfl, fun h => by cases h⟩
    by_cases t5 : (200 : Int) < (nM : Int)
    · go_wp2
      go_ret
      exact ⟨true, rfl, rfl, fun h => by cases h⟩
    go_wp2
    clear t2 t3 t4 t5 c39 c40 c41 c42
    go_loopw [3, 5] (fun nv kv W' => ∃ k s : Nat, k ≤ nL ∧ s ≤ 40000 ∧ nv = .int .i64 (s : Int) ∧ kv = .int .i64 (k : Int) ∧ W' = wr) (fun _ kv _ => nL - (intOf kv).toNat)
    case atStart => exact ⟨0, s, Nat.zero_le _, hs, rfl, rfl, rfl⟩
    case round =>
      obtain ⟨k, s2, hk, hs2, rfl, rfl, rfl⟩ := hrel
      by_cases hkl : k < nL
      · have hkk : (k : Int) < (nL : Int) := by omega
        obtain ⟨qb, qoff, qc, hqv, hqb, hqat⟩ := HPT.out.at_ (by rw [HNL.out]; omega)
        rw [HNL.out] at hqv hqat
        obtain ⟨rfl, rfl⟩ : la = some ⟨qb, qoff, none⟩ ∧ lc = qc := by cases hqv; exact ⟨rfl, rfl⟩
        obtain ⟨ua, uc, hcell, hub⟩ := hqat k hkl
        obtain ⟨nb, hnb⟩ : ∃ q, (p.2.getD k []).length = q := ⟨_, rfl⟩
        rw [hnb] at hcell
        clear hqv hqat hub hnb
        by_cases t6 : (3000 : Int) < (nb : Int)
        · go_wp2
          go_ret
          exact ⟨true, rfl, rfl, fun h => by cases h⟩
        by_cases t7 : (30000 : Int) < (s2 : Int)
        · go_wp2
          go_ret
          exact ⟨true, rfl, rfl, fun h => by cases h⟩
        go_wp2
        go_roundw
        case rel => exact ⟨k + 1, s2 + nb, by omega, by omega, by go_num, by go_num, by first | trivial | rfl⟩
        case measure => simp [intOf]; omega
      · obtain rfl : k = nL := by omega
        have hkk : ¬ (k : Int) < (k : Int) := by omega
        go_wp2
        go_roundw
        case rel =>
          refine ⟨i + 1, s2, by omega, hs2, by go_num, by go_num, fun j q hj hq => ?_, by first | trivial | rfl⟩
          rcases Nat.lt_or_ge j i with h | h
          · exact HLOW.out j q h hq
          · obtain rfl : j = i := by omega
            rw [HP.out] at hq
            cases hq
            rw [HNL.out]; omega
        case measure => simp [intOf]; omega

end Go.Proofs.YtnohglkilpnjhaaGreatDoor

/- An origin alone, as it goes on from call to call; a law step's cells. No condition. -/
namespace Go.Proofs.YtnohglkilpnjhaaGreatDoor
open Go.RowKit
set_option linter.unusedVariables false
set_option linter.unusedSimpArgs false
set_option maxRecDepth 100000

/-- An origin alone. -/
structure OneI (W : World) (o : Nat) (most each life : Int) (S : OrgL) (F : Nat → Prop) (w : World) : Prop where
  org : OrgP w o most each life S F
  ok : OrgOk most each S
  own : ∀ k, F k → W.heap.size ≤ k
  below : Below W.heap.size W w
section
variable {W w w' : World} {o : Nat} {most each life : Int} {S S' : OrgL} {F F' : Nat → Prop}
theorem OneI.new (h : OneI W o most each life S F w) (hb : Below w.heap.size w w') : OneI W o most each life S F w' := ⟨h.org.of_new hb, h.ok, h.own, below_next h.below hb⟩
theorem OneI.step (h : OneI W o most each life S F w) (ho : OrgP w' o most each life S' F') (hk : OrgOk most each S') (hs : OStep F F' w w') : OneI W o most each life S' F' w' :=
  ⟨ho, hk, fun k hf => (hs.own k hf).elim (h.own k) (fun e => Nat.le_trans h.below.size e), hs.below h.below h.below.size h.own⟩
theorem OneI.block (hs : OStep F F' w w') (hO : OrgP w o most each life S F) {cur : Array Value} {ty : TypeId} {f : Nat × Nat} {g : Nat} (he : w.heap[g]? = some (.cells cur ty f)) : w'.heap[g]? = w.heap[g]? :=
  hs.kept.block g (Array.getElem?_eq_some_iff.1 he).1 fun hf => hO.cells_ne hf he
end

end Go.Proofs.YtnohglkilpnjhaaGreatDoor

/- The plain law of OriginNames: what was published is there, and is told, whatever is published behind. No condition. -/
namespace Go.Proofs.YtnohglkilpnjhaaGreatDoor
open Go.RowKit
set_option linter.unusedVariables false
set_option linter.unusedSimpArgs false

theorem pub_name32 (S : OrgL) (ls : List (List UInt8)) (k : Int) : (pubL S ls k).2.1.length = 32 := by
  unfold pubL
  repeat' split
  all_goals first
    | rfl
    | exact nameL_len _
end Go.Proofs.YtnohglkilpnjhaaGreatDoor

/- The plain law of OriginGives: what was published first is there, and each of its pieces is given, by its proof. No condition. -/
namespace Go.Proofs.YtnohglkilpnjhaaGreatDoor
open Go.RowKit
set_option linter.unusedVariables false
set_option linter.unusedSimpArgs false

theorem addCs_apart : ∀ (l cs : List (BlobL × List UInt8)), (cs ++ l).Pairwise (fun p q => p.1.dig ≠ q.1.dig) → l.foldl addC cs = cs ++ l
  | [], cs, _ => by simp
  | p :: l, cs, h => by
    have h1 : contIn cs p.1.dig = none := contIn_none.2 fun q hq => (List.pairwise_append.1 h).2.2 q hq p (by simp)
    have h2 : addC cs p = cs ++ [p] := by unfold addC; rw [h1]; rfl
    rw [List.foldl_cons, h2, addCs_apart l (cs ++ [p]) (by rw [List.append_assoc]; exact h), List.append_assoc]; rfl
theorem image_nodup {l : List BlobL} (h : imageE l = 0) : (digs l).Nodup := by
  unfold imageE at h
  split at h
  · exact absurd h (by decide)
  · split at h
    · assumption
    · exact absurd h (by decide)
theorem image_err (l : List BlobL) : imageE l = 0 ∨ imageE l = 1 ∨ imageE l = 5 := by
  unfold imageE
  split
  · exact .inr (.inl rfl)
  · split
    · exact .inl rfl
    · exact .inr (.inr rfl)
theorem conts_apart {k : Int} {ls : List (List UInt8)} (h : imageE (blobsL k ls) = 0) : (contsL k ls).Pairwise (fun p q => p.1.dig ≠ q.1.dig) := by
  have h1 := image_nodup h
  unfold digs blobsL at h1
  rw [List.map_map] at h1
  unfold contsL
  rw [List.pairwise_map]
  exact List.pairwise_map.1 h1
/-- An origin of one image. -/
def firstS (k : Int) (ls : List (List UInt8)) : OrgL := ⟨[(nameL (blobsL k ls), blobsL k ls)], contsL k ls, []⟩
theorem pub_zero (ls : List (List UInt8)) (k : Int) :
    (layersOk k ls = true ∧ imageE (blobsL k ls) = 0 ∧ pubL OrgL.zero ls k = (firstS k ls, nameL (blobsL k ls), 0)) ∨ ∃ e, pubL OrgL.zero ls k = (OrgL.zero, dig0, e) ∧ (e = 1 ∨ e = 5) := by
  by_cases h1 : layersOk k ls = true
  case neg => exact .inr ⟨1, by unfold pubL; rw [if_neg h1], .inl rfl⟩
  by_cases h2 : encGE (blobsL k ls) = 0
  case neg =>
    refine .inr ⟨encGE (blobsL k ls), by unfold pubL; rw [if_pos h1, if_neg h2], ?_⟩
    unfold encGE at h2 ⊢
    split
    · rename_i h3
      rw [if_pos h3] at h2
      split
      · rename_i h4
        rw [if_pos h4] at h2
        exact absurd rfl h2
      · exact .inl rfl
    · rename_i h3
      rcases image_err (blobsL k ls) with h | h | h
      · exact absurd h h3
      · exact .inl h
      · exact .inr h
  refine .inl ⟨h1, encGE_image h2, ?_⟩
  have h3 : (imgAt OrgL.zero (nameL (blobsL k ls))).isSome = false := rfl
  have h4 : ¬ 64 ≤ OrgL.zero.imgs.length := by simp [OrgL.zero]
  unfold pubL
  rw [if_pos h1, if_pos h2, h3, if_neg (by simp), if_neg h4]
  have h5 := addCs_apart (contsL k ls) [] (by rw [List.nil_append]; exact conts_apart (encGE_image h2))
  unfold firstS
  rw [show OrgL.zero.conts = [] from rfl, h5]
  rfl
theorem first_img (k : Int) (ls : List (List UInt8)) : imgAt (firstS k ls) (nameL (blobsL k ls)) = some (blobsL k ls) := by
  unfold imgAt firstS
  rw [List.find?_cons_of_pos (by simp)]; rfl
theorem first_cont {k : Int} {ls : List (List UInt8)} (h : imageE (blobsL k ls) = 0) {b : List UInt8} (hb : b ∈ ls) : contAt (firstS k ls) (blobE b k).1.dig = some ((blobE b k).1, b) :=
  contIn_some (conts_apart h) (p := ((blobE b k).1, b)) (List.mem_map.2 ⟨b, hb, rfl⟩)

theorem want_right {d : List UInt8} {i : Int} (h : 0 ≤ i ∧ i ≤ 1023) : wrightB { mk0 3 d with piece := i } = true := by
  rw [wrightB_eq]; simp [itemB, hasL, mk0, fitsB, bareB, withinB]; omega
theorem take_want {S : OrgL} {most each life : Int} {d : List UInt8} {i : Int} (h : 0 ≤ i ∧ i ≤ 1023) : takeO S most each life 1 0 { mk0 3 d with piece := i } 0 = (S, giveL S d i, true, 0) := by
  have hok : takeOk 1 0 { mk0 3 d with piece := i } = true := by
    unfold takeOk
    rw [want_right h]; rfl
  unfold takeO
  rw [if_pos hok, if_neg (by simp [mk0]), if_pos (show ({ mk0 3 d with piece := i } : MsgL).kind = 3 from rfl)]
  rfl

/-- A piece that there is. -/
theorem gives_piece {S : OrgL} {most each life : Int} {b d : List UInt8} {kn j : Nat} (hr : mrightB b.length (kn : Int) = true) (h : contAt S d = some (⟨sumL b, b.length, kn, rootL (leavesL b kn)⟩, b)) (hj : j < (leavesL b kn).length) :
    takeO S most each life 1 0 { mk0 3 d with piece := (j : Int) } 0 = (S, { mk0 4 d with piece := (j : Int), bytes := (b.drop (j * kn)).take (min kn (b.length - j * kn)), proof := proofL (leavesL b kn) j }, true, 0) := by
  have hfew := leaves_few hr
  rw [Int.toNat_natCast] at hfew
  obtain ⟨hs, h2, _⟩ := piece_back hr hj
  rw [take_want (by omega), giveL_some h]
  have hp : proofE (leavesL b kn) (j : Int) = (proofL (leavesL b kn) j, 0) := by
    unfold proofE
    rw [if_pos (by omega), Int.toNat_natCast]
  unfold giveM
  dsimp only
  simp only [hs, if_true, Int.toNat_natCast, hp]
/-- Behind the last one. -/
theorem gives_end {S : OrgL} {most each life : Int} {b d : List UInt8} {kn n : Nat} (hr : mrightB b.length (kn : Int) = true) (h : contAt S d = some (⟨sumL b, b.length, kn, rootL (leavesL b kn)⟩, b)) (hn : (leavesL b kn).length = n) (h2 : n < 1024) :
    takeO S most each life 1 0 { mk0 3 d with piece := (n : Int) } 0 = (S, chokeL d (n : Int), true, 0) := by
  rw [take_want (by omega), giveL_some h]
  have hcnt := count_nat (b := b) (n := kn) (by have := right_parts hr; omega)
  have hmc : mcountB b.length kn = (n : Int) := by unfold mcountB; rw [if_pos hr, ← hn, leavesL_len b kn]; exact hcnt.symm
  have hs : (spanZ (b.length : Int) (kn : Int) (n : Int)).2.2 = 1 := by
    unfold spanZ
    rw [hmc, if_pos (by omega)]
  dsimp only
  rw [hs, if_neg (by decide)]
/-- The pieces, one behind the other. -/
theorem pieces_step {b : List UInt8} {kn j : Nat} : b.take (j * kn) ++ (b.drop (j * kn)).take (min kn (b.length - j * kn)) = b.take ((j + 1) * kn) := by
  have e : (b.drop (j * kn)).take (min kn (b.length - j * kn)) = (b.drop (j * kn)).take kn := by
    rcases Nat.le_total kn (b.length - j * kn) with h | h
    · rw [Nat.min_eq_left h]
    · rw [Nat.min_eq_right h, List.take_of_length_le (by simp), List.take_of_length_le (by simp; omega)]
  rw [e, Nat.add_mul, Nat.one_mul, List.take_add]
theorem pieces_all {b : List UInt8} {kn n : Nat} (hr : mrightB b.length (kn : Int) = true) (hn : (leavesL b kn).length = n) : b.take (n * kn) = b := by
  refine List.take_of_length_le ?_
  have h1 := leavesL_len b kn
  rw [hn] at h1
  obtain ⟨q1, q2, q3, q4, q5⟩ := right_parts hr
  have h2 := Nat.div_add_mod (b.length + kn - 1) kn
  have h3 := Nat.mod_lt (b.length + kn - 1) (show 0 < kn by omega)
  rw [← h1, Nat.mul_comm] at h2
  omega

end Go.Proofs.YtnohglkilpnjhaaGreatDoor

/- The walk of the law OriginGives: it answers true. Condition: the table of the hash's constants. -/
namespace Go.Proofs.YtnohglkilpnjhaaGreatDoor
open Go.RowKit
set_option linter.unusedVariables false
set_option linter.unusedSimpArgs false
set_option maxRecDepth 100000

/-- A step that has layers alone. -/
def stepL (v : Value) : S19 := { S19.zero with vl := v }
theorem run_build_stepL (u : Option Addr) (n c : Nat) (w : World) : (Instr.build 40 #[(4, .slice u n c)]).run Tryz.prog w = .ok (.agg (stepL (.slice u n c)).cells.toArray) w := by kernel_rfl
theorem wp_build_stepL {w : World} {o : Oper} {a : Act} {K : Act → World → Prop} {Q : Exit → Act → World → Prop} {p : Operand} (u : Option Addr) (n c : Nat) (ho : o.op = .build 40 #[(4, p)]) (hp : a.eval p = .slice u n c)
    (hK : K (a.put o.dst (.agg (stepL (.slice u n c)).cells.toArray)) w) : o.wp Tryz.prog a w K Q := by
  refine wp_val ?_ hK
  have := run_build_stepL u n c w
  unfold execOp
  simp only [ho, List.map_toArray, List.map_cons, List.map_nil, hp, Sem.run_bind, this, Result.andThen_ok, Sem.run_pure]
theorem wp_build_step1 {w : World} {o : Oper} {a : Act} {K : Act → World → Prop} {Q : Exit → Act → World → Prop} (y : Operand) {x : S19} (h32 : x.m.hash.length = 32) (ho : o.op = .buildSlice 22 1 #[(0, y)]) (hy : a.eval y = .agg x.cells.toArray)
    (hK : ∀ w', StepAt w' w.heap.size 0 x → Below w.heap.size w w' → w'.heap.size = w.heap.size + 1 → K (a.put o.dst (.slice (some ⟨w.heap.size, 0, none⟩) 1 1)) w') : o.wp Tryz.prog a w K Q := by
  obtain ⟨i, hi, hz, hsize, hby⟩ := info_parts info_step
  refine wp_buildSlice 22 40 1 #[(0, y)] ho x.cells.toArray i _ Tryz.underlying22 hi hz (by rw [hsize]; omega) (by rw [hsize]; omega) ?_ (hK _ (StepO.at_ (show StepO _ w.heap.size x from ⟨heap_alloc_new w _, h32⟩)) ((Below.refl _ w).alloc (Nat.le_refl _) _) (by simp))
  rw [hsize]
  simp only [List.map_toArray, List.map_cons, List.map_nil, hy]
  rw [show [((0 : Nat), Value.agg x.cells.toArray)] = ([Value.agg x.cells.toArray].zipIdx 0).map (fun x => (x.2, x.1)) from rfl]
  rw [Great.fill_whole (by omega) _ _ (fun v hv => by
    simp only [List.mem_cons, List.not_mem_nil, or_false] at hv
    subst hv
    simp [Value.cells, S19.len h32]) (by simp)]
  simp [Value.cells]
theorem steps_one {w : World} {g : Nat} {v : Value} {ls : List (List UInt8)} (h : StepAt w g 0 (stepL v)) (hp : PartsV w v ls) : StepsV w (.slice (some ⟨g, 0, none⟩) 1 1) [(stepL v, ls)] := by
  refine ⟨_, _, rfl, Nat.le_refl _, by unfold maxLen; omega, fun p hq => ?_, fun _ => ⟨g, 0, rfl, h.2.1, fun i p hi => ?_⟩⟩
  · rw [List.mem_singleton.1 hq]
    exact ⟨hp, msgR_zero _, mk0_ok (k := 0) (d := dig0) (by unfold inI64; omega), by show inI64 0; unfold inI64; omega, by show inI64 0; unfold inI64; omega, by show inI64 0; unfold inI64; omega, by show inI64 0; unfold inI64; omega, by show 0 < _; omega⟩
  · cases i with
    | zero =>
      obtain rfl : (stepL v, ls) = p := by simpa using hi
      simpa using h
    | succ i => simp at hi
theorem mk2_ok {k i : Int} {d : List UInt8} (h : inI64 k) (hi : inI64 i) : ({ mk0 k d with piece := i } : MsgL).ok := ⟨h, hi, (fun n hn => by cases hn), fun x hx => by cases hx⟩
/-- What is asked for behind the last piece: choked, if it may be asked for. -/
theorem gives_last {S : OrgL} {b d : List UInt8} {kn n : Nat} (hr : mrightB b.length (kn : Int) = true) (h : contAt S d = some (⟨sumL b, b.length, kn, rootL (leavesL b kn)⟩, b)) (hn : (leavesL b kn).length = n) {S' : OrgL} {m : MsgL} {is : Bool} {er : Int}
    (hq : takeO S 5 5 10 1 0 { mk0 3 d with piece := (n : Int) } 0 = (S', m, is, er)) : n < 1024 → is = true ∧ er = 0 ∧ m.kind = 5 := fun h2 => by
  rw [gives_end hr h hn h2] at hq
  cases hq
  exact ⟨rfl, rfl, rfl⟩

set_option maxHeartbeats 6400000 in
theorem OriginGives_walk (v : Value) (ls : List (List UInt8)) (k : Int) (w : World) (hp : PartsV w v ls) (hk1 : -9223372036854775808 ≤ k) (hk2 : k ≤ 9223372036854775807) (hKc : Consts w) :
    Calls Tryz.prog 8 #[v, .int .i64 k] w fun e w' => e = .returned (.bool true) ∧ Below w.heap.size w w' := by
  obtain ⟨va, vc, hv⟩ := hp.len
  subst hv
  obtain ⟨n, hn⟩ : ∃ n, ls.length = n := ⟨_, rfl⟩
  rw [hn] at hp ⊢
  have HP := Lib.hid hp
  have HKC := Lib.hid hKc
  have HN := Lib.hid hn
  clear hp hKc hn
  go_enter Tryz.func8, Tryz.ntmps8
  go_upto_region 2 with (go_at_call 9; refine (oawake_any _ HKC.out).mono ?_; rintro e w1 ⟨rfl, hb1⟩; have HB1 := Lib.hid hb1; clear hb1)
  go_upto_region 3 with (first
    | ((with_reducible refine wpList_plain (o := ⟨some 26, Op.build _ _, _, _, _, _⟩) rfl fun K hK => ?_); (refine wp_build_stepL va n vc rfl rfl (hK _ _ ?_)))
    | ((with_reducible refine wpList_plain (o := ⟨some 27, Op.buildSlice _ _ _, _, _, _, _⟩) rfl fun K hK => ?_); (refine wp_build_step1 (x := stepL (.slice va n vc)) (.tmp 26) rfl rfl rfl fun w2 hs2 hb2 hz2 => hK _ _ ?_); have HS2 := Lib.hid hs2; have HB2 := Lib.hid (below_next HB1.out hb2); clear hs2 hb2 hz2)
    | (go_at_call 10; refine (much_any _ [(stepL (.slice va n vc), ls)] _ (steps_one HS2.out (HP.out.of_new HB2.out))).mono ?_; unfold MuchPost; rintro e w3 ⟨many, rfl, rfl, hfew⟩; have HFEW := Lib.hid hfew; clear hfew))
  go_upto_region 4 with (go_at_call 11; refine (ONew_ok 5 5 10 _ (by decide)).mono ?_; rintro e w4 ⟨o, F, rfl, ho4, hf4, hb4⟩; have HI4 := Lib.hid (show OneI w o 5 5 10 OrgL.zero F w4 from ⟨ho4, OrgOk.zero (by omega), fun k hk => Nat.le_trans HB2.out.size (hf4 k hk), below_next HB2.out hb4⟩); clear ho4 hf4 hb4)
  cases many with
  | true =>
    go_wp2
    go_ret
    exact ⟨rfl, HI4.out.below⟩
  | false =>
    have hl20 : n ≤ 20 := by have := HFEW.out rfl 0 _ (by omega) rfl; rw [← HN.out]; exact this
    have hP := fun W' h1 h2 h3 => OPublish_any o 5 5 10 OrgL.zero F (.slice va n vc) ls k W' h1 HI4.out.ok h2 (by rw [HN.out]; omega) h3
    have hpok := HI4.out.ok.pub ls k
    have h32 := pub_name32 OrgL.zero ls k
    have hz := pub_zero ls k
    obtain ⟨⟨S1, d, er⟩, hq⟩ : ∃ q, pubL OrgL.zero ls k = q := ⟨_, rfl⟩
    rw [hq] at hpok h32 hz
    simp only [hq] at hP
    have HPU := Lib.hid hP
    have HPOK := Lib.hid hpok
    have H32 := Lib.hid h32
    have HZ := Lib.hid hz
    clear hP hpok h32 hz hq
    go_upto_region 7 with (first
      | (go_at_call 12; refine (HPU.out _ HI4.out.org (HP.out.of_new HI4.out.below) (HKC.out.of_new HI4.out.below)).mono ?_; unfold PubPost; rintro e w5 ⟨F5, rfl, ho5, hs5⟩; have HI5 := Lib.hid (HI4.out.step ho5 HPOK.out hs5); clear ho5 hs5)
      | ((with_reducible refine wpList_plain (o := ⟨some 9, Op.alloc _, _, _, _, _⟩) rfl fun K hK => ?_); (refine wp_alloc_dig rfl fun w6 ho6 hb6 hs6 => hK _ _ ?_); have HO6 := Lib.hid ho6; have HB6 := Lib.hid hb6; clear ho6 hb6 hs6)
      | ((with_reducible refine wpList_plain (o := ⟨none, Op.store _ (.tmp 9) (.tmp 56), _, _, _, _⟩) rfl fun K hK => ?_); (refine wp_store_digO (.tmp 9) (.tmp 56) w5.heap.size d dig0 rfl rfl rfl H32.out HO6.out fun w7 ho7 hg7 hs7 => hK _ _ ?_); have hb7 := HB6.out.grown hg7 HB6.out.size (fun k e => by cases e; exact Nat.le_refl _); have HO7 := Lib.hid ho7; have HI7 := Lib.hid (HI5.out.new hb7); clear ho7 hg7 hs7 hb7))
    obtain ⟨g9, hg9⟩ : ∃ g, w5.heap.size = g := ⟨_, rfl⟩
    rw [hg9] at HO7 ⊢
    clear hg9
    rcases HZ.out with ⟨hz1, hz2, hz3⟩ | ⟨er', hz3, hz4⟩
    case inr =>
      obtain ⟨rfl, rfl, rfl⟩ : S1 = OrgL.zero ∧ d = dig0 ∧ er = er' := by cases hz3; exact ⟨rfl, rfl, rfl⟩
      rcases hz4 with rfl | rfl
      all_goals
        go_wp2
        go_ret
        exact ⟨rfl, HI7.out.below⟩
    obtain ⟨rfl, rfl, rfl⟩ : S1 = firstS k ls ∧ d = nameL (blobsL k ls) ∧ er = 0 := by cases hz3; exact ⟨rfl, rfl, rfl⟩
    have hfi := first_img k ls
    have hfc := fun b hb => first_cont (k := k) (ls := ls) hz2 (b := b) hb
    have hxl : (blobsL k ls).length = n := by unfold blobsL; rw [List.length_map, HN.out]
    have hrt : ∀ b ∈ ls, mrightB b.length k = true := fun b hb => List.all_eq_true.1 hz1 b hb
    have hxj : ∀ j b, ls[j]? = some b → (blobsL k ls)[j]? = some (blobE b k).1 := fun j b hj => by unfold blobsL; rw [List.getElem?_map, hj]; rfl
    obtain ⟨kn, rfl⟩ : ∃ kn : Nat, k = (kn : Int) := by
      have h1 := (image_few hz2).1
      rw [hxl] at h1
      obtain ⟨b0, hb0⟩ : ∃ b, ls[0]? = some b := ⟨_, List.getElem?_eq_getElem (by rw [HN.out]; omega)⟩
      have := right_parts (hrt b0 (List.mem_of_getElem? hb0))
      exact ⟨k.toNat, by omega⟩
    obtain ⟨S1, hS1⟩ : ∃ S, firstS (kn : Int) ls = S := ⟨_, rfl⟩
    rw [hS1] at hfi hfc HI7
    obtain ⟨nm, hnm⟩ : ∃ q, nameL (blobsL (kn : Int) ls) = q := ⟨_, rfl⟩
    rw [hnm] at hfi HO7 H32
    obtain ⟨xs, hxs⟩ : ∃ q, blobsL (kn : Int) ls = q := ⟨_, rfl⟩
    rw [hxs] at hfi hxl hxj
    have hIM := fun W' h1 => OImage_any o 5 5 10 S1 F5 nm W' h1 HI7.out.ok H32.out
    rw [hfi] at hIM
    simp only [Option.isSome_some, Option.getD_some] at hIM
    have HIM := Lib.hid hIM
    have HFC := Lib.hid hfc
    have HXL := Lib.hid hxl
    have HRT := Lib.hid hrt
    have HXJ := Lib.hid hxj
    clear hz1 hz2 hz3 HZ hIM hfi hfc hxl hrt hxj hS1 hnm hxs
    go_upto_region 10 with (first
      | ((with_reducible refine wpList_plain (o := ⟨some 68, Op.load 31 _, _, _, _, _⟩) rfl fun K' hK' => ?_); (refine wp_load_at (ty := 31) (x := .tmp 9) rfl rfl HO7.out.at_ (hK' _ _ ?_)))
      | (go_at_call 17; refine (HIM.out _ HI7.out.org).mono ?_; rintro e w8 ⟨xv, rfl, hx8, hb8⟩; obtain ⟨xa, xc, hxv⟩ := hx8.row.len; rw [HXL.out] at hxv; subst hxv; have HX8 := Lib.hid hx8.row; have HI8 := Lib.hid (HI7.out.new hb8); clear hx8 hb8)
      | ((with_reducible refine wpList_plain (o := ⟨some 11, Op.alloc _, _, _, _, _⟩) rfl fun K hK => ?_); (refine RImg.wp_alloc rfl fun wa hoa hba hsa => hK _ _ ?_); have HOA := Lib.hid hoa; have HBA := Lib.hid hba; clear hoa hba hsa)
      | ((with_reducible refine wpList_plain (o := ⟨none, Op.store _ (.tmp 11) (.tmp 70), _, _, _, _⟩) rfl fun K hK => ?_); (refine HOA.out.store (.tmp 11) (.tmp 70) rfl rfl rfl (show RImg.ok (.slice xa n xc) from rfl) fun w9 hob hgb hsb => hK _ _ ?_); have hbb := HBA.out.grown hgb (by have := HBA.out.size; omega) (fun k e => by cases e; exact Nat.le_refl _); have HIM9 := Lib.hid hob; have HX9 := Lib.hid (HX8.out.of_new hbb); have HI9 := Lib.hid (HI8.out.new hbb); clear hob hgb hsb hbb))
    obtain ⟨g11, hg11⟩ : ∃ g, w8.heap.size = g := ⟨_, rfl⟩
    rw [hg11] at HIM9 ⊢
    clear hg11
    have hcx : w9.cell? ⟨g11, 0, none⟩ = some (.slice xa n xc) := HIM9.out.cell 0
    have hnn : ((n : Int) != (n : Int)) = false := by simp
    go_wp2
    clear hcx hnn
    go_loopw [13, 14, 15, 16, 17, 18, 19, 20, 21, 22, 23] (fun jv _ _ _ _ _ _ _ _ _ _ W' => ∃ j : Nat, j ≤ n ∧ jv = .int .i64 (j : Int) ∧ Below w9.heap.size w9 W') (fun jv _ _ _ _ _ _ _ _ _ _ _ => n - (intOf jv).toNat)
    case atStart => exact ⟨0, Nat.zero_le _, rfl, Below.refl _ _⟩
    case round =>
      rename World => wA
      obtain ⟨j, hj, rfl, hbA⟩ := hrel
      have HBA9 := Lib.hid hbA
      clear hbA
      by_cases hlt : j < n
      case neg =>
        have hjj : ¬ (j : Int) < (n : Int) := by omega
        go_wp2
        go_ret
        exact ⟨rfl, below_next HI9.out.below HBA9.out⟩
      have hjj : (j : Int) < (n : Int) := by omega
      obtain ⟨b, hb⟩ : ∃ b, ls[j]? = some b := ⟨_, List.getElem?_eq_getElem (by rw [HN.out]; exact hlt)⟩
      have hbm := List.mem_of_getElem? hb
      have hr := HRT.out b hbm
      have hyb : (blobE b (kn : Int)).1 = ⟨sumL b, b.length, kn, rootL (leavesL b kn)⟩ := by unfold blobE; rw [if_pos hr, Int.toNat_natCast]
      have hyj := HXJ.out j b hb
      have hct := HFC.out b hbm
      have hyo := blobE_ok b (kn : Int)
      rw [hyb] at hyj hct hyo
      obtain ⟨nl, hnl⟩ : ∃ q, (leavesL b kn).length = q := ⟨_, rfl⟩
      have hfew := leaves_few hr
      rw [Int.toNat_natCast, hnl] at hfew
      have hmc : mcountB b.length (kn : Int) = (nl : Int) := by
        have hcnt := count_nat (b := b) (n := kn) (by have := right_parts hr; omega)
        unfold mcountB; rw [if_pos hr, ← hnl, leavesL_len b kn]; exact hcnt.symm
      have hgp := fun i (hi : i < nl) => gives_piece (S := S1) (most := 5) (each := 5) (life := 10) hr hct (j := i) (by rw [hnl]; exact hi)
      have hpb := fun i (hi : i < nl) => (piece_back hr (j := i) (by rw [hnl]; exact hi)).2.2
      have hgl : ∀ (S' : OrgL) (m : MsgL) (is : Bool) (er : Int), takeO S1 5 5 10 1 0 { mk0 3 (sumL b) with piece := (nl : Int) } 0 = (S', m, is, er) → nl < 1024 → is = true ∧ er = 0 ∧ m.kind = 5 := fun S' m is er h => gives_last hr hct hnl h
      have hall := pieces_all hr hnl
      have hbl := (right_parts hr).2.1
      obtain ⟨y, hy⟩ : ∃ y : BlobL, y = ⟨sumL b, b.length, kn, rootL (leavesL b kn)⟩ := ⟨_, rfl⟩
      have hyd : y.dig = sumL b := by rw [hy]
      have hys : y.size = b.length := by rw [hy]
      have hyp : y.piece = kn := by rw [hy]
      rw [← hy] at hyj hyo hpb
      have hd32 : (sumL b).length = 32 := sumL_len b
      obtain ⟨xb, xoff, xc', hxv, hxlt, hxat⟩ := HX9.out.at_ (by rw [HXL.out]; omega)
      rw [HXL.out] at hxv
      obtain ⟨rfl, rfl⟩ : xa = some ⟨xb, xoff, none⟩ ∧ xc = xc' := by cases hxv; exact ⟨rfl, rfl⟩
      have hyat := hxat j y hyj
      have hdat : DigAt w9 xb (xoff + j * 66) (sumL b) := by rw [← hyd]; exact RecT.At.dig5 hyat
      obtain ⟨pb, poff, pc', hpv, hplt, hpat⟩ := HP.out.at_ (by rw [HN.out]; omega)
      rw [HN.out] at hpv hpat
      obtain ⟨rfl, rfl⟩ : va = some ⟨pb, poff, none⟩ ∧ vc = pc' := by cases hpv; exact ⟨rfl, rfl⟩
      obtain ⟨la, lc, hlc, hlb⟩ := hpat j hlt
      rw [show ls.getD j [] = b by simp [List.getD, hb]] at hlc hlb
      have HYAT := Lib.hid hyat
      have HDAT := Lib.hid hdat
      have HYO := Lib.hid (show y.ok from hyo)
      have HYD := Lib.hid hyd
      have HMC := Lib.hid (show mcountB y.size y.piece = (nl : Int) by rw [hys, hyp]; exact hmc)
      have HGP := Lib.hid hgp
      have HPB := Lib.hid hpb
      have HGL := Lib.hid hgl
      have HALLB := Lib.hid hall
      have HD32 := Lib.hid hd32
      have HLC := Lib.hid ((HI9.out.below.cell (p := ⟨pb, poff + j, none⟩) hplt).trans hlc)
      have HLB := Lib.hid (hlb.of_new HI9.out.below)
      clear hb hbm hr hyb hyj hct hnl hmc hgp hpb hgl hall hy hyd hys hyp hd32 hxv hxlt hxat hyat hdat hpv hplt hpat hlc hlb hyo
      have HAA := Lib.hid (HYAT.out.of_new HBA9.out)
      have hcx : wA.cell? ⟨g11, 0, none⟩ = some (.slice (some ⟨xb, xoff, none⟩) n xc) := (HIM9.out.of_new HBA9.out).cell 0
      go_upto_region 17 with (first
        | ((with_reducible refine wpList_plain (o := ⟨some 92, Op.load _ _, _, _, _, _⟩) rfl fun K hK => ?_); (refine HAA.out.wp rfl rfl (hK _ _ ?_)))
        | (go_at_call 30; refine (Count_any y _ HYO.out).mono ?_; rw [HMC.out]; rintro e wB ⟨rfl, hbB⟩; have HBB9 := Lib.hid (below_next HBA9.out hbB); clear hbB))
      clear hcx
      go_wp2
      go_loopw [14, 16, 17, 18, 19, 20] (fun qv iv _ _ _ _ W' => ∃ (i : Nat) (av : Value), i ≤ nl ∧ iv = .int .i64 (i : Int) ∧ qv = av ∧ Own8 W' wB.heap.size 5 av (b.take (i * kn)) ∧ Below wB.heap.size wB W') (fun _ iv _ _ _ _ _ => nl - (intOf iv).toNat)
      case atStart => exact ⟨0, _, Nat.zero_le _, rfl, rfl, by rw [Nat.zero_mul, List.take_zero]; exact Own8.nil _ _ _, Below.refl _ _⟩
      case round =>
        rename World => wC
        obtain ⟨i, av, hi, rfl, rfl, hown, hbC⟩ := hrel
        have HOWN := Lib.hid hown
        have HBC := Lib.hid hbC
        have HBC9 := Lib.hid (below_next HBB9.out hbC)
        clear hown hbC
        obtain ⟨aa, ac, hav⟩ := HOWN.out.bytes.len
        obtain ⟨al, hal⟩ : ∃ q, (b.take (i * kn)).length = q := ⟨_, rfl⟩
        rw [hal] at hav
        subst hav
        have HAL := Lib.hid hal
        have HALB := Lib.hid (show al ≤ b.length by rw [← hal, List.length_take]; omega)
        clear hal
        have HIC := Lib.hid (HI9.out.new HBC9.out)
        have HIMC := Lib.hid (HIM9.out.of_new HBC9.out)
        have HDC := Lib.hid (HDAT.out.of_new HBC9.out)
        have hcx : wC.cell? ⟨g11, 0, none⟩ = some (.slice (some ⟨xb, xoff, none⟩) n xc) := HIMC.out.cell 0
        by_cases hil : i < nl
        case pos =>
          have hii : (i : Int) < (nl : Int) := by omega
          have hTK := fun W' h1 h2 => OTake_any o 5 5 10 S1 F5 1 0 { mk0 3 (sumL b) with piece := (i : Int) } sN 0 W' h1 HI9.out.ok (by omega) (by omega) (msgR_2 W' 3 i HD32.out) (mk2_ok (by unfold inI64; omega) (by unfold inI64; omega)) (by omega) h2
          have hpc := HPB.out i hil
          rw [HGP.out i hil] at hTK
          obtain ⟨P, hP⟩ : ∃ P, (b.drop (i * kn)).take (min kn (b.length - i * kn)) = P := ⟨_, rfl⟩
          obtain ⟨Q, hQ⟩ : ∃ Q, proofL (leavesL b kn) i = Q := ⟨_, rfl⟩
          have hst := pieces_step (b := b) (kn := kn) (j := i)
          rw [hP] at hTK hpc hst
          rw [hQ] at hTK hpc
          have hPl : P.length ≤ b.length := by rw [← hP, List.length_take, List.length_drop]; omega
          have HTK := Lib.hid hTK
          have HPC := Lib.hid hpc
          have HST := Lib.hid hst
          have HPL := Lib.hid hPl
          clear hTK hpc hst hPl hP hQ
          go_upto_region 21 with (first
            | ((with_reducible refine wpList_plain (o := ⟨some 106, Op.load 31 _, _, _, _, _⟩) rfl fun K' hK' => ?_); (refine wp_load_at (ty := 31) (x := .tmp 105) rfl rfl HDC.out (hK' _ _ ?_)))
            | ((with_reducible refine wpList_plain (o := ⟨some 108, Op.build _ _, _, _, _, _⟩) rfl fun K hK => ?_); (refine wp_build_m2 3 (sumL b) i HD32.out rfl rfl rfl rfl (hK _ _ ?_)))
            | (go_at_call 13; refine (HTK.out _ HIC.out.org (HKC.out.of_new HIC.out.below)).mono ?_; unfold TakePost; rintro e wd ⟨Fd, sd, rfl, hrd, -, -, hbd, -⟩; have HRD := Lib.hid hrd; have HBD := Lib.hid (hbd (show ¬ (3 : Int) = 6 by decide)); clear hrd hbd)
            | ((with_reducible refine wpList_plain (o := ⟨some 17, Op.alloc _, _, _, _, _⟩) rfl fun K hK => ?_); (refine wp_alloc_msg rfl fun we hoe hbe hse => hK _ _ ?_); have HOE := Lib.hid hoe.o; have HBE := Lib.hid hbe; have HRE := Lib.hid (HRD.out.of_new hbe); clear hoe hbe hse)
            | ((with_reducible refine wpList_plain (o := ⟨none, Op.store _ (.tmp 17) (.tmp 110), _, _, _, _⟩) rfl fun K hK => ?_); (refine wp_store_msg (.tmp 17) (.tmp 110) wd.heap.size _ msgZ sd sN rfl rfl rfl HRE.out HOE.out fun wf hof hgf hsf => hK _ _ ?_); have hbf := HBE.out.grown hgf HBE.out.size (fun k e => by cases e; exact Nat.le_refl _); have hbf2 := below_next HBD.out hbf; have HOF := Lib.hid hof; have HRF := Lib.hid (HRD.out.of_new hbf); have HOWF := Lib.hid (HOWN.out.new hbf2); have HBF := Lib.hid (below_next HBC.out hbf2); have HBF9 := Lib.hid (below_next HBC9.out hbf2); clear hof hgf hsf hbf hbf2))
          obtain ⟨g17, hg17⟩ : ∃ g, wd.heap.size = g := ⟨_, rfl⟩
          rw [hg17] at HOF ⊢
          clear hg17 hcx
          obtain ⟨ba, bc, hbv⟩ := HRF.out.bytes.len
          obtain ⟨qa, qc, hqv⟩ := HRF.out.proof.len
          rw [show (({ mk0 4 (sumL b) with piece := (i : Int), bytes := P, proof := Q } : MsgL)).bytes = P from rfl] at hbv
          rw [show (({ mk0 4 (sumL b) with piece := (i : Int), bytes := P, proof := Q } : MsgL)).proof = Q from rfl] at hqv
          have HBV := Lib.hid (show Bytes wf (.slice ba P.length bc) P from hbv ▸ HRF.out.bytes)
          have HQV := Lib.hid (show Digs wf (.slice qa Q.length qc) Q from hqv ▸ HRF.out.proof)
          have hcbF := HOF.out.bytes
          have hcqF := HOF.out.proof
          rw [hbv] at hcbF
          rw [hqv] at hcqF
          have HCB := Lib.hid hcbF
          have HCK := Lib.hid (show wf.cell? ⟨g17, 0, none⟩ = some (.int .i64 4) from HOF.out.kind)
          have HCP := Lib.hid (show wf.cell? ⟨g17, 33, none⟩ = some (.int .i64 (i : Int)) from HOF.out.piece)
          have hcb := fun w' (h : Grew wf w') => Grew.cell h hcbF
          have hcq := fun w' (h : Grew wf w') => Grew.cell h hcqF
          have hcx := fun w' (h : Grew wf w') => Grew.cell h ((HIM9.out.of_new HBF9.out).cell 0)
          have HAF := Lib.hid (HYAT.out.of_new HBF9.out)
          have hPc := fun w' (h : Below wf.heap.size wf w') => Piece_any y i (.slice ba P.length bc) P (.slice qa Q.length qc) Q w' HYO.out (by omega) (by omega) (Bytes.of_new HBV.out h) (HQV.out.of_new h) (HKC.out.of_new (below_next (below_next HI9.out.below HBF9.out) h))
          simp only [HPC.out] at hPc
          have HPc := Lib.hid hPc
          clear hPc hbv hqv hcbF hcqF
          refine wp_region_grew (by kernel_rfl) (by kernel_rfl) ?_
          repeat (first
            | (go_big_quiet_want; (refine RecT.At.quiet (R := RBlob) (x := y) (p := .tmp 116) (fun w' hw' => HAF.out.of_new hw') rfl rfl ?_); go_simp; go_big_quiet_on)
            | (go_big_quiet_want; (with_reducible apply quiet_load_at (ty := 31) (x := .tmp _)); rfl; rfl; assumption; go_simp; go_big_quiet_on)
            | (go_big_quiet_want; apply quiet_val; (intro w' hw'; go_simp; first | done | rfl); go_simp; go_big_quiet_on)
            | (go_big_quiet_want; apply quiet_call (f := 31); (intro w' hw'; go_simp; first | done | rfl); (intro w' hw'; exact Grew.call hw' (HPc.out w' hw')); go_simp; go_big_quiet_on)
            | (go_big_quiet_skip))
          refine wpQuiet_nil ?_
          intro wg hwg
          have HBG := Lib.hid (below_next HBF.out hwg)
          have HOWG := Lib.hid (HOWF.out.new hwg)
          have HBVG := Lib.hid (Bytes.of_new HBV.out hwg)
          clear hcb hcq hcx
          have hcb := Grew.cell hwg HCB.out
          have hck := Grew.cell hwg HCK.out
          have hcp := Grew.cell hwg HCP.out
          clear hwg
          have hne : ((i : Int) != (i : Int)) = false := by simp
          obtain ⟨iv8, hiv, hz0, hz1, hz2⟩ := info_parts infoU8
          go_wp2_with ((with_reducible refine wpList_plain (o := ⟨some 148, _, _, _, _, _⟩) rfl fun K' hK' => ?_); refine wp_app8 (.tmp 145) (.tmp 147) 33 rfl wB.heap.size 5 iv8 Tryz.underlying33 hiv hz0 hz1 hz2 _ (b.take (i * kn)) rfl HOWG.out _ P rfl HBVG.out (by have h1 := HAL.out; have h2 := HALB.out; have h3 := HPL.out; omega) HBG.out.size ?_; intro v6 wh hoh hgh huh; refine hK' _ _ ?_; rw [HST.out] at hoh; have HOWH := Lib.hid hoh; have HBH := Lib.hid (HBG.out.grown hgh HBG.out.size (fun k e => (HOWG.out.lt k e).1)); clear hoh hgh huh hK')
          go_roundw
          case rel => exact ⟨i + 1, _, by omega, by go_num, rfl, HOWH.out, HBH.out⟩
          case measure => simp [intOf]; omega
        obtain rfl : i = nl := by omega
        have hii : ¬ (i : Int) < (i : Int) := by omega
        have hb1 := HALLB.out
        have hown := HOWN.out
        rw [hb1] at hown
        have HBA8 := Lib.hid hown.bytes
        clear hown hb1
        have hTK := fun W' h1 h2 => OTake_any o 5 5 10 S1 F5 1 0 { mk0 3 (sumL b) with piece := (i : Int) } sN 0 W' h1 HI9.out.ok (by omega) (by omega) (msgR_2 W' 3 i HD32.out) (mk2_ok (by unfold inI64; omega) (by unfold inI64; omega)) (by omega) h2
        obtain ⟨⟨S', m, is, er⟩, hq⟩ : ∃ q, takeO S1 5 5 10 1 0 { mk0 3 (sumL b) with piece := (i : Int) } 0 = q := ⟨_, rfl⟩
        have hgl := HGL.out _ _ _ _ hq
        rw [hq] at hTK
        have HTK := Lib.hid hTK
        have HGL2 := Lib.hid hgl
        clear hTK hgl hq
        go_upto_region 26 with (first
          | ((with_reducible refine wpList_plain (o := ⟨some 156, Op.load 31 _, _, _, _, _⟩) rfl fun K' hK' => ?_); (refine wp_load_at (ty := 31) (x := .tmp 155) rfl rfl HDC.out (hK' _ _ ?_)))
          | ((with_reducible refine wpList_plain (o := ⟨some 158, Op.build _ _, _, _, _, _⟩) rfl fun K hK => ?_); (refine wp_build_m2 3 (sumL b) i HD32.out rfl rfl rfl rfl (hK _ _ ?_)))
          | (go_at_call 13; refine (HTK.out _ HIC.out.org (HKC.out.of_new HIC.out.below)).mono ?_; unfold TakePost; rintro e wd ⟨Fd, sd, rfl, hrd, -, -, hbd, -⟩; have HRD := Lib.hid hrd; have HBD := Lib.hid (hbd (show ¬ (3 : Int) = 6 by decide)); clear hrd hbd)
          | ((with_reducible refine wpList_plain (o := ⟨some 21, Op.alloc _, _, _, _, _⟩) rfl fun K hK => ?_); (refine wp_alloc_msg rfl fun we hoe hbe hse => hK _ _ ?_); have HOE := Lib.hid hoe.o; have HBE := Lib.hid hbe; have HRE := Lib.hid (HRD.out.of_new hbe); clear hoe hbe hse)
          | ((with_reducible refine wpList_plain (o := ⟨none, Op.store _ (.tmp 21) (.tmp 160), _, _, _, _⟩) rfl fun K hK => ?_); (refine wp_store_msg (.tmp 21) (.tmp 160) wd.heap.size _ msgZ sd sN rfl rfl rfl HRE.out HOE.out fun wf hof hgf hsf => hK _ _ ?_); have hbf := HBE.out.grown hgf HBE.out.size (fun k e => by cases e; exact Nat.le_refl _); have hbf2 := below_next HBD.out hbf; have HOF := Lib.hid hof; have HBF8 := Lib.hid (Bytes.of_new HBA8.out hbf2); have HBF9 := Lib.hid (below_next HBC9.out hbf2); clear hof hgf hsf hbf hbf2))
        obtain ⟨g21, hg21⟩ : ∃ g, wd.heap.size = g := ⟨_, rfl⟩
        rw [hg21] at HOF ⊢
        clear hg21 hcx
        have hcx := fun w' (h : Grew wf w') => Grew.cell h ((HIM9.out.of_new HBF9.out).cell 0)
        have hcl := fun w' (h : Grew wf w') => Grew.cell (below_next HBF9.out h) HLC.out
        have hs1 := fun w' (h : Grew wf w') => (Bytes.of_new HBF8.out h).str
        have hs2 := fun w' (h : Grew wf w') => (HLB.out.of_new (below_next HBF9.out h)).str
        have hda : DigAt wf xb (xoff + j * 66) (sumL b) := HDAT.out.of_new HBF9.out
        have hSm := fun w' (h : Below wf.heap.size wf w') => RSum_any _ b w' (Bytes.of_new HBF8.out h) (by omega)
        have hne := run_neq_dig (sumL b) (sumL b) HD32.out HD32.out
        rw [decide_eq_true rfl] at hne
        have hgd := guard_dig
        have hq1 : (b == b) = true := by simp
        have hq2 := str_same b
        have HSm := Lib.hid hSm
        clear hSm
        by_cases h1024 : i < 1024
        · obtain ⟨rfl, rfl, hmk⟩ := HGL2.out h1024
          have h10 : (i : Int) < 1024 := by omega
          have hck := fun w' (h : Grew wf w') => Grew.cell h HOF.out.kind
          rw [hmk] at hck
          refine wp_region_grew (by kernel_rfl) (by kernel_rfl) ?_
          repeat (first
            | (go_big_quiet_want; (with_reducible apply quiet_load_at (ty := 31) (x := .tmp _)); rfl; rfl; assumption; go_simp; go_big_quiet_on)
            | (go_big_quiet_want; apply quiet_val; (intro w' hw'; go_simp; first | done | rfl); go_simp; go_big_quiet_on)
            | (go_big_quiet_want; apply quiet_call (f := 32); (intro w' hw'; go_simp; first | done | rfl); (intro w' hw'; exact Grew.call hw' (HSm.out w' hw')); go_simp; go_big_quiet_on)
            | (go_big_quiet_skip))
          refine wpQuiet_nil ?_
          intro wg hwg
          go_wp2
          go_roundw
          case rel => exact ⟨j + 1, by omega, by go_num, below_next HBF9.out hwg⟩
          case measure => simp [intOf]; omega
        · have h10 : ¬ (i : Int) < 1024 := by omega
          refine wp_region_grew (by kernel_rfl) (by kernel_rfl) ?_
          repeat (first
            | (go_big_quiet_want; (with_reducible apply quiet_load_at (ty := 31) (x := .tmp _)); rfl; rfl; assumption; go_simp; go_big_quiet_on)
            | (go_big_quiet_want; apply quiet_val; (intro w' hw'; go_simp; first | done | rfl); go_simp; go_big_quiet_on)
            | (go_big_quiet_want; apply quiet_call (f := 32); (intro w' hw'; go_simp; first | done | rfl); (intro w' hw'; exact Grew.call hw' (HSm.out w' hw')); go_simp; go_big_quiet_on)
            | (go_big_quiet_skip))
          refine wpQuiet_nil ?_
          intro wg hwg
          go_wp2
          go_roundw
          case rel => exact ⟨j + 1, by omega, by go_num, below_next HBF9.out hwg⟩
          case measure => simp [intOf]; omega

end Go.Proofs.YtnohglkilpnjhaaGreatDoor

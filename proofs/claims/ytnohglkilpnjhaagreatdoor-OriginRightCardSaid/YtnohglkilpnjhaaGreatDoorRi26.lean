/- Texts of this claim, one behind the other: each begins with a comment that says what it proves and asks. -/
import Derived.Test.YtnohglkilpnjhaaGreatDoorRi25
/- The walk of the laws' awake. Condition: the table of the hash's constants. -/
namespace Go.Proofs.YtnohglkilpnjhaaGreatDoor
open Go.RowKit
set_option linter.unusedVariables false
set_option linter.unusedSimpArgs false
set_option maxRecDepth 100000

theorem right_one : mrightB ((([7] : List UInt8).length : Nat) : Int) 16 = true := by decide
theorem pub_one : ∃ S nm, pubL OrgL.zero [[7]] 16 = (S, nm, 0) ∧ nm.length = 32 ∧ (imgAt S nm).isSome = true := by
  have hb : blobsL 16 [[7]] = [(blobE [7] 16).1] := rfl
  have he : encGE (blobsL 16 [[7]]) = 0 := by
    have h1 : imageE (blobsL 16 [[7]]) = 0 := by
      rw [hb]
      refine image_one ?_
      unfold blobE
      rw [if_pos right_one]
      exact right_one
    obtain ⟨h2, _⟩ := encG_some h1 (blobsL_ok 16 [[7]])
    unfold encGE
    rw [if_pos h1]
    unfold encG at h2
    rw [if_pos h1] at h2
    rw [h2]; rfl
  refine ⟨⟨[(nameL (blobsL 16 [[7]]), blobsL 16 [[7]])], (contsL 16 [[7]]).foldl addC [], []⟩, nameL (blobsL 16 [[7]]), ?_, nameL_len _, ?_⟩
  · unfold pubL
    rw [if_pos (by unfold layersOk; simp only [List.all_cons, List.all_nil, Bool.and_true]; exact right_one), if_pos he, if_neg (by simp [imgAt, OrgL.zero]), if_neg (by simp [OrgL.zero])]
    rfl
  · simp [imgAt]
theorem take_ask {S : OrgL} {nm : List UInt8} {most each life : Int} (h : (imgAt S nm).isSome = true) : ∃ bs, takeO S most each life 3 1 (mk0 9 nm) 0 = (S, { mk0 10 nm with bytes := bs }, true, 0) := by
  obtain ⟨xs, hx⟩ := Option.isSome_iff_exists.1 h
  refine ⟨(encG xs).getD [], ?_⟩
  have hr : wrightB (mk0 9 nm) = true := by
    rw [wrightB_eq]
    simp [itemB, hasL, mk0, fitsB, bareB]
  have hok : takeOk 3 1 (mk0 9 nm) = true := takeOk_iff.2 ⟨by omega, by omega, hr⟩
  unfold takeO
  rw [if_pos hok, if_pos (show (mk0 9 nm).kind = 9 from rfl)]
  have ht : tellL S nm = { mk0 10 nm with bytes := (encG xs).getD [] } := by unfold tellL; rw [hx]
  show (S, tellL S nm, true, 0) = _
  rw [ht]
theorem parts_one19 {w : World} : PartsV ((w.alloc (.cells #[.int .u8 7] 5)).alloc (.cells #[.slice (some ⟨w.heap.size, 0, none⟩) 1 1] 33)) (.slice (some ⟨w.heap.size + 1, 0, none⟩) 1 1) [[7]] := by
  have h1 := heap_alloc_new w (.cells #[.int .u8 7] 5)
  have hs : (w.alloc (.cells #[.int .u8 7] 5)).heap.size = w.heap.size + 1 := by simp
  have h2 := heap_alloc_new (w.alloc (.cells #[.int .u8 7] 5)) (.cells #[.slice (some ⟨w.heap.size, 0, none⟩) 1 1] 33)
  rw [hs] at h2
  refine ⟨_, 1, rfl, by simp, by unfold maxLen; omega, (fun h => by cases h), fun _ => ⟨w.heap.size + 1, 0, rfl, by simp, fun i hi => ?_⟩⟩
  obtain rfl : i = 0 := by simp at hi; omega
  refine ⟨.slice (some ⟨w.heap.size, 0, none⟩) 1 1, by simp only [World.cell?, h2]; rfl, ?_⟩
  have hb : Bytes (w.alloc (.cells #[.int .u8 7] 5)) (.slice (some ⟨w.heap.size, 0, none⟩) 1 1) [7] := by
    refine ⟨rfl, _, 1, rfl, by simp, by unfold maxLen; omega, (fun h => by cases h), fun _ => ⟨w.heap.size, 0, rfl, by simp, fun j hj => ?_⟩⟩
    obtain rfl : j = 0 := by simp at hj; omega
    simp only [World.cell?, h1]; rfl
  exact hb.of_new ((Below.refl _ _).alloc (Nat.le_refl _) _)

theorem mk0_ok {k : Int} {d : List UInt8} (h : inI64 k) : (mk0 k d).ok := ⟨h, (by show inI64 0; unfold inI64; omega), (fun n hn => by cases hn), fun x hx => by cases hx⟩
set_option maxHeartbeats 3200000 in
theorem oawake_any (w : World) (hKc : Consts w) : Calls Tryz.prog 9 #[] w fun e w' => e = .returned (.bool true) ∧ Below w.heap.size w w' := by
  obtain ⟨S, nm, hpub, hn32, hsome⟩ := pub_one
  obtain ⟨bs, htake⟩ := take_ask (most := 5) (each := 5) (life := 10) hsome
  have HPUB := Lib.hid hpub
  have HN32 := Lib.hid hn32
  have HTAKE := Lib.hid htake
  have HKC := Lib.hid hKc
  have hokS : OrgOk 5 5 S := by
    have := (OrgOk.zero (most := 5) (each := 5) (by omega)).pub [[7]] 16
    rw [hpub] at this
    exact this
  have HOK := Lib.hid hokS
  have HZ := Lib.hid (OrgOk.zero (most := 5) (each := 5) (by omega))
  clear hpub hn32 hsome htake hKc hokS
  go_enter Tryz.func9, Tryz.ntmps9
  go_upto_region 4 with (go_at_call 11; refine (ONew_ok 5 5 10 _ (by decide)).mono ?_; rintro e w1 ⟨o, F, rfl, ho1, hf1, hb1⟩; have HO1 := Lib.hid ho1; have HF1 := Lib.hid hf1; have HB1 := Lib.hid hb1; clear ho1 hf1 hb1)
  go_upto_region 5 with (first
    | (go_at_call 12; have hb2 : Below w1.heap.size w1 _ := ((Below.refl _ w1).alloc (Nat.le_refl _) (.cells #[.int .u8 7] 5)).alloc (by simp) (.cells #[.slice (some ⟨w1.heap.size, 0, none⟩) 1 1] 33); refine (OPublish_any o 5 5 10 OrgL.zero F _ [[7]] 16 _ (HO1.out.of_new hb2) HZ.out parts_one19 (by decide) ((HKC.out.of_new HB1.out).of_new hb2)).mono ?_; unfold PubPost; rw [HPUB.out]; rintro e w3 ⟨F3, rfl, ho3, hs3⟩; have HO3 := Lib.hid ho3; have HB3 := Lib.hid (hs3.below (below_next HB1.out hb2) (by have := HB1.out.size; have := hb2.size; omega) HF1.out); have HF3 := Lib.hid (fun k hk => (hs3.own k hk).elim (HF1.out k) (fun h => Nat.le_trans (Nat.le_trans HB1.out.size hb2.size) h)); clear hb2 ho3 hs3)
    | ((with_reducible refine wpList_plain (o := ⟨some 3, Op.alloc _, _, _, _, _⟩) rfl fun K hK => ?_); (refine wp_alloc_dig rfl fun w4 ho4 hb4 hs4 => hK _ _ ?_); have HO4 := Lib.hid ho4; have HB4 := Lib.hid hb4; clear ho4 hb4 hs4)
    | ((with_reducible refine wpList_plain (o := ⟨none, Op.store _ (.tmp 3) (.tmp 23), _, _, _, _⟩) rfl fun K hK => ?_); (refine wp_store_digO (.tmp 3) (.tmp 23) w3.heap.size nm dig0 rfl rfl rfl HN32.out HO4.out fun w5 ho5 hg5 hs5 => hK _ _ ?_); have hb5 := HB4.out.grown hg5 (by have := HB4.out.size; omega) (fun k e => by cases e; exact Nat.le_refl _); have HDG := Lib.hid ho5.at_; have HB5 := Lib.hid hb5; clear ho5 hg5 hs5 hb5))
  obtain ⟨g3, hg3⟩ : ∃ g, w3.heap.size = g := ⟨_, rfl⟩
  rw [hg3] at HDG ⊢
  clear hg3
  have HO5 := Lib.hid (HO3.out.of_new HB5.out)
  have HBW := Lib.hid (below_next HB3.out HB5.out)
  have hT := fun W h1 h2 => OTake_any o 5 5 10 S F3 3 1 (mk0 9 nm) sN 0 W h1 HOK.out (by omega) (by omega) (msgR_0 W 9 HN32.out) (mk0_ok (by unfold inI64; omega)) (by omega) h2
  rw [HTAKE.out] at hT
  have HT := Lib.hid hT
  clear hT
  go_upto_region 6 with (first
    | ((with_reducible refine wpList_plain (o := ⟨some 27, Op.load _ _, _, _, _, _⟩) rfl fun K hK => ?_); (refine wp_load_at (ty := 31) (x := .tmp 3) rfl rfl HDG.out (hK _ _ ?_)))
    | ((with_reducible refine wpList_plain (o := ⟨some 28, Op.build _ _, _, _, _, _⟩) rfl fun K hK => ?_); (refine wp_build_m1 9 nm HN32.out rfl rfl rfl (hK _ _ ?_)))
    | (go_at_call 13; refine (HT.out _ HO5.out (HKC.out.of_new HBW.out)).mono ?_; unfold TakePost; rintro e w6 ⟨F6, s6, rfl, hr6, -, -, hb6, -⟩; have HR6 := Lib.hid hr6; have HB6 := Lib.hid (below_next HBW.out (hb6 (by show (9 : Int) ≠ 6; decide))); clear hr6 hb6)
    | ((with_reducible refine wpList_plain (o := ⟨some 5, Op.alloc _, _, _, _, _⟩) rfl fun K hK => ?_); (refine wp_alloc_msg rfl fun w7 ho7 hb7 hs7 => hK _ _ ?_); have HO7 := Lib.hid ho7.o; have HB7 := Lib.hid hb7; have HR7 := Lib.hid (HR6.out.of_new hb7); clear ho7 hb7 hs7)
    | ((with_reducible refine wpList_plain (o := ⟨none, Op.store _ (.tmp 5) (.tmp 30), _, _, _, _⟩) rfl fun K hK => ?_); (refine wp_store_msg (.tmp 5) (.tmp 30) w6.heap.size _ msgZ s6 sN rfl rfl rfl HR7.out HO7.out fun w8 ho8 hg8 hs8 => hK _ _ ?_); have HO8 := Lib.hid ho8; have HB8 := Lib.hid (below_next HB6.out (HB7.out.grown hg8 (by have := HB7.out.size; omega) (fun k e => by cases e; exact Nat.le_refl _))); clear ho8 hg8 hs8))
  have hk := HO8.out.kind
  rw [show (({ mk0 10 nm with bytes := bs } : MsgL)).kind = 10 from rfl] at hk
  go_wp2
  go_ret
  exact ⟨rfl, HB8.out⟩

end Go.Proofs.YtnohglkilpnjhaaGreatDoor

/- A step of the laws as a value: in a block, at a place, in a slice. No condition. -/
namespace Go.Proofs.YtnohglkilpnjhaaGreatDoor
open Go.RowKit
set_option linter.unusedVariables false
set_option linter.unusedSimpArgs false
set_option maxRecDepth 100000

/-- A step: what to do, how many, from whom, when, the layers' value, the message with its slices' values, the seed. -/
structure S19 where
  act : Int
  n : Int
  frm : Int
  now : Int
  vl : Value
  m : MsgL
  s : MsgS
  seed : Nat
def S19.cells (x : S19) : List Value := [.int .i64 x.act, .int .i64 x.n, .int .i64 x.frm, .int .i64 x.now, x.vl] ++ (msgCells x.m x.s ++ [.int .u64 (x.seed : Int)])
def S19.zero : S19 := ⟨0, 0, 0, 0, .slice none 0 0, msgZ, sN, 0⟩
/-- What lies behind a step's slices. -/
structure S19R (w : World) (x : S19) (ls : List (List UInt8)) : Prop where
  parts : PartsV w x.vl ls
  msg : MsgR w x.m x.s
  ok : x.m.ok
  act : inI64 x.act
  n : inI64 x.n
  frm : inI64 x.frm
  now : inI64 x.now
  seed : x.seed < 18446744073709551616
theorem S19R.of_new {w w' : World} {x : S19} {ls : List (List UInt8)} (h : S19R w x ls) (hb : Below w.heap.size w w') : S19R w' x ls := ⟨h.parts.of_new hb, h.msg.of_new hb, h.ok, h.act, h.n, h.frm, h.now, h.seed⟩
theorem S19.len {x : S19} (h : x.m.hash.length = 32) : x.cells.length = 45 := by simp [S19.cells, msgCells_len h]
/-- A step at a place. -/
def StepAt (w : World) (g off : Nat) (x : S19) : Prop := x.m.hash.length = 32 ∧ g < w.heap.size ∧ ∀ j, j < 45 → w.cell? ⟨g, off + j, none⟩ = x.cells[j]?
theorem StepAt.of_new {w w' : World} {g off : Nat} {x : S19} (h : StepAt w g off x) (hb : Below w.heap.size w w') : StepAt w' g off x := ⟨h.1, Nat.lt_of_lt_of_le h.2.1 hb.size, fun j hj => (hb.cell (p := ⟨g, off + j, none⟩) h.2.1).trans (h.2.2 j hj)⟩
/-- Block g is one. -/
def StepO (w : World) (g : Nat) (x : S19) : Prop := w.heap[g]? = some (.cells x.cells.toArray 40 (0, 0)) ∧ x.m.hash.length = 32
theorem StepO.lt {w : World} {g : Nat} {x : S19} (h : StepO w g x) : g < w.heap.size := (Array.getElem?_eq_some_iff.1 h.1).1
theorem StepO.of_block {w w' : World} {g : Nat} {x : S19} (h : StepO w g x) (e : w'.heap[g]? = w.heap[g]?) : StepO w' g x := ⟨e.trans h.1, h.2⟩
theorem StepO.of_new {w w' : World} {g : Nat} {x : S19} (h : StepO w g x) (hb : Below w.heap.size w w') : StepO w' g x := h.of_block (hb.block _ h.lt)
theorem StepO.at_ {w : World} {g : Nat} {x : S19} (h : StepO w g x) : StepAt w g 0 x := ⟨h.2, h.lt, fun j hj => by simp only [World.cell?, h.1, Nat.zero_add]; simp⟩
theorem info_step : (Tryz.prog.info? 40).map (fun i => (i.zero, i.size, i.bytes)) = some (some (.agg S19.zero.cells.toArray), 45, 216) := by kernel_rfl
theorem StepAt.load {w : World} {g off : Nat} {x : S19} (h : StepAt w g off x) : (loadVar 40 ⟨g, off, none⟩).run Tryz.prog w = .ok (.agg x.cells.toArray) w := by
  obtain ⟨i, hi, hz, hsize, hby⟩ := info_parts info_step
  have hl := run_loadCells_list (P := Tryz.prog) w ⟨g, off, none⟩ x.cells (fun j v hv => by
    have hj : j < 45 := by rw [← S19.len h.1]; exact (List.getElem?_eq_some_iff.1 hv).1
    have hadd : (⟨g, off, none⟩ : Addr).add j = ⟨g, off + j, none⟩ := by unfold Addr.add; split <;> simp_all
    rw [hadd, h.2.2 j hj, hv])
  rw [S19.len h.1] at hl
  have ha : (Go.isAgg 40).run Tryz.prog w = .ok true w := by
    simp only [Go.isAgg, Sem.run_bind, run_underlying Tryz.underlying40, Result.andThen_ok]; rfl
  simp [loadVar, ha, sizeOf, typeInfo, hi, hsize, hl]
theorem StepAt.wp {w : World} {g off : Nat} {x : S19} {o : Oper} {a : Act} {K : Act → World → Prop} {Q : Exit → Act → World → Prop} {p : Operand} (h : StepAt w g off x) (ho : o.op = .load 40 p) (hp : a.eval p = .pointer (some ⟨g, off, none⟩)) (hK : K (a.put o.dst (.agg x.cells.toArray)) w) : o.wp Tryz.prog a w K Q := by
  refine wp_val (v := .agg x.cells.toArray) ?_ hK
  have := h.load
  unfold execOp
  simp only [ho, hp, Instr.loadAt, Instr.sureAddr, Sem.run_bind, Sem.run_pure, Result.andThen_ok, this]

section
variable {w : World} {g off : Nat} {x : S19}
theorem StepAt.c (h : StepAt w g off x) (j : Nat) (hj : j < 45) {u : Value} (hu : x.cells[j]? = some u) : w.cell? ⟨g, off + j, none⟩ = some u := (h.2.2 j hj).trans hu
theorem StepAt.act (h : StepAt w g off x) : w.cell? ⟨g, off, none⟩ = some (.int .i64 x.act) := h.c 0 (by omega) rfl
theorem StepAt.n (h : StepAt w g off x) : w.cell? ⟨g, off + 1, none⟩ = some (.int .i64 x.n) := h.c 1 (by omega) rfl
theorem StepAt.frm (h : StepAt w g off x) : w.cell? ⟨g, off + 2, none⟩ = some (.int .i64 x.frm) := h.c 2 (by omega) rfl
theorem StepAt.now (h : StepAt w g off x) : w.cell? ⟨g, off + 3, none⟩ = some (.int .i64 x.now) := h.c 3 (by omega) rfl
theorem StepAt.vl (h : StepAt w g off x) : w.cell? ⟨g, off + 4, none⟩ = some x.vl := h.c 4 (by omega) rfl
theorem S19.msg_at {x : S19} (h : x.m.hash.length = 32) {j : Nat} (hj : j < 39) : x.cells[5 + j]? = (msgCells x.m x.s)[j]? := by
  unfold S19.cells
  rw [List.getElem?_append_right (by simp)]
  simp only [List.length_cons, List.length_nil, Nat.zero_add, Nat.add_sub_cancel_left]
  rw [List.getElem?_append_left (by rw [msgCells_len h]; exact hj)]
theorem StepAt.msgc (h : StepAt w g off x) {j : Nat} (hj : j < 39) : w.cell? ⟨g, off + (5 + j), none⟩ = (msgCells x.m x.s)[j]? := (h.2.2 (5 + j) (by omega)).trans (S19.msg_at h.1 hj)
theorem StepAt.kind (h : StepAt w g off x) : w.cell? ⟨g, off + 5, none⟩ = some (.int .i64 x.m.kind) := (h.msgc (j := 0) (by omega)).trans rfl
theorem StepAt.hash (h : StepAt w g off x) : DigAt w g (off + 6) x.m.hash := ⟨h.1, fun j hj => by
  have h1 := h.msgc (j := 1 + j) (by omega)
  rw [show off + 6 + j = off + (5 + (1 + j)) by omega, h1]
  show (Value.int .i64 x.m.kind :: (x.m.hash.map B8 ++ _))[1 + j]? = _
  rw [Nat.add_comm 1 j, List.getElem?_cons_succ, List.getElem?_append_left (by simp [h.1]; exact hj)]⟩
theorem StepAt.tail (h : StepAt w g off x) (j : Nat) (hj : j < 6) : w.cell? ⟨g, off + (38 + j), none⟩ = [.int .i64 x.m.piece, x.s.vi, x.s.vb, x.s.vp, x.s.vm, .bool x.m.seed][j]? := by
  have h1 := h.msgc (j := 33 + j) (by omega)
  rw [show 38 + j = 5 + (33 + j) by omega, h1, msgCells_tail h.1]
theorem StepAt.vi (h : StepAt w g off x) : w.cell? ⟨g, off + 39, none⟩ = some x.s.vi := h.tail 1 (by omega)
theorem StepAt.vb (h : StepAt w g off x) : w.cell? ⟨g, off + 40, none⟩ = some x.s.vb := h.tail 2 (by omega)
theorem StepAt.vp (h : StepAt w g off x) : w.cell? ⟨g, off + 41, none⟩ = some x.s.vp := h.tail 3 (by omega)
theorem StepAt.vm (h : StepAt w g off x) : w.cell? ⟨g, off + 42, none⟩ = some x.s.vm := h.tail 4 (by omega)
theorem StepAt.seed (h : StepAt w g off x) : w.cell? ⟨g, off + 44, none⟩ = some (.int .u64 (x.seed : Int)) := by
  refine h.c 44 (by omega) ?_
  unfold S19.cells
  rw [List.getElem?_append_right (by simp)]
  simp only [List.length_cons, List.length_nil, Nat.zero_add]
  rw [List.getElem?_append_right (by rw [msgCells_len h.1]; omega), msgCells_len h.1]
  rfl
/-- Its message, read as a whole. -/
theorem StepAt.loadMsg (h : StepAt w g off x) : (loadVar 37 ⟨g, off + 5, none⟩).run Tryz.prog w = .ok (MsgV x.m x.s) w := by
  have hl := run_loadCells_list (P := Tryz.prog) w ⟨g, off + 5, none⟩ (msgCells x.m x.s) (fun j v hv => by
    have hj : j < 39 := by rw [← msgCells_len (s := x.s) h.1]; exact (List.getElem?_eq_some_iff.1 hv).1
    have hadd : (⟨g, off + 5, none⟩ : Addr).add j = ⟨g, off + (5 + j), none⟩ := by unfold Addr.add; split <;> simp_all [Nat.add_assoc]
    rw [hadd, h.msgc hj, hv])
  rw [msgCells_len h.1] at hl
  have ha : (Go.isAgg 37).run Tryz.prog w = .ok true w := by
    simp only [Go.isAgg, Sem.run_bind, run_underlying Tryz.underlying37, Result.andThen_ok]; rfl
  have hs := size_msg
  obtain ⟨i, hi, hsz⟩ := Option.map_eq_some_iff.1 hs
  simp [loadVar, ha, sizeOf, typeInfo, hi, hsz, hl, MsgV]
theorem wp_load_stepmsg {o : Oper} {a : Act} {K : Act → World → Prop} {Q : Exit → Act → World → Prop} {p : Operand} (ho : o.op = .load 37 p) (hp : a.eval p = .pointer (some ⟨g, off + 5, none⟩)) (h : StepAt w g off x) (hK : K (a.put o.dst (MsgV x.m x.s)) w) : o.wp Tryz.prog a w K Q := by
  refine wp_val (v := MsgV x.m x.s) ?_ hK
  have := h.loadMsg
  unfold execOp
  simp only [ho, hp, Instr.loadAt, Instr.sureAddr, Sem.run_bind, Sem.run_pure, Result.andThen_ok, this]
end

/-- A slice of steps. -/
def StepsV (w : World) (v : Value) (l : List (S19 × List (List UInt8))) : Prop :=
  ∃ (a : Option Addr) (c : Nat), v = .slice a l.length c ∧ l.length ≤ c ∧ c ≤ maxLen ∧ (∀ p ∈ l, S19R w p.1 p.2) ∧
    (0 < l.length → ∃ b off, a = some ⟨b, off, none⟩ ∧ b < w.heap.size ∧ ∀ i p, l[i]? = some p → StepAt w b (off + i * 45) p.1)
theorem StepsV.of_new {w w' : World} {v : Value} {l : List (S19 × List (List UInt8))} (h : StepsV w v l) (hb : Below w.heap.size w w') : StepsV w' v l := by
  obtain ⟨a, c, h1, h2, h3, h4, h5⟩ := h
  refine ⟨a, c, h1, h2, h3, fun p hp => (h4 p hp).of_new hb, fun h0 => ?_⟩
  obtain ⟨b, off, e, hlt, hat⟩ := h5 h0
  exact ⟨b, off, e, Nat.lt_of_lt_of_le hlt hb.size, fun i p hi => (hat i p hi).of_new hb⟩
theorem StepsV.len {w : World} {v : Value} {l : List (S19 × List (List UInt8))} (h : StepsV w v l) : ∃ a c, v = .slice a l.length c := by
  obtain ⟨a, c, h1, _⟩ := h
  exact ⟨a, c, h1⟩
theorem StepsV.le {w : World} {v : Value} {l : List (S19 × List (List UInt8))} (h : StepsV w v l) : l.length ≤ 9223372036854775807 := by
  obtain ⟨a, c, h1, h2, h3, _⟩ := h
  unfold maxLen at h3
  omega

end Go.Proofs.YtnohglkilpnjhaaGreatDoor

/- The walk of the laws' much. Condition: the steps as they lie. -/
namespace Go.Proofs.YtnohglkilpnjhaaGreatDoor
open Go.RowKit
set_option linter.unusedVariables false
set_option linter.unusedSimpArgs false
set_option maxRecDepth 100000

/-- No step has more layers than it may. -/
def FewSt (l : List (S19 × List (List UInt8))) : Prop := ∀ i p, i < 100 → l[i]? = some p → p.2.length ≤ 20
def MuchPost (l : List (S19 × List (List UInt8))) (w : World) (e : Ending) (w' : World) : Prop := ∃ b, e = .returned (.bool b) ∧ w' = w ∧ (b = false → FewSt l)
set_option maxHeartbeats 6400000 in
theorem much_any (v : Value) (l : List (S19 × List (List UInt8))) (w : World) (hl : StepsV w v l) :
    Calls Tryz.prog 10 #[v] w (MuchPost l w) := by
  have hle := hl.le
  obtain ⟨va, vc, hv, _, _, hall, hat⟩ := hl
  subst hv
  have HALL := Lib.hid hall
  have HAT := Lib.hid hat
  clear hall hat
  obtain ⟨n, hn⟩ : ∃ n, l.length = n := ⟨_, rfl⟩
  rw [hn] at hle HAT ⊢
  have HN := Lib.hid hn
  clear hn
  go_enter Tryz.func10, Tryz.ntmps10
  go_wp2
  go_loopw [3, 4, 5] (fun nv iv _ W' => ∃ i s : Nat, i ≤ n ∧ s ≤ 40000 ∧ nv = .int .i64 (s : Int) ∧ iv = .int .i64 (i : Int) ∧ (∀ j p, j < i → l[j]? = some p → p.2.length ≤ 20) ∧ W' = w) (fun _ iv _ _ => n - (intOf iv).toNat)
  case atStart => exact ⟨0, 0, Nat.zero_le _, by omega, rfl, rfl, (fun j p hj => absurd hj (Nat.not_lt_zero _)), rfl⟩
  case round =>
    obtain ⟨i, s, hi, hs, rfl, rfl, hlow, rfl⟩ := hrel
    have HLOW := Lib.hid hlow
    clear hlow
    by_cases hlt : i < n
    case neg =>
      have hii : ¬ (i : Int) < (n : Int) := by omega
      have hfew : FewSt l := fun j p hj hp => HLOW.out j p (by have := (List.getElem?_eq_some_iff.1 hp).1; rw [HN.out] at this; omega) hp
      have HF := Lib.hid hfew
      clear hfew
      go_wp2
      go_ret
      exact ⟨_, rfl, rfl, fun _ => HF.out⟩
    have hii : (i : Int) < (n : Int) := by omega
    by_cases h100 : i < 100
    case neg =>
      have h1i : ¬ (i : Int) < 100 := by omega
      have hfew : FewSt l := fun j p hj hp => HLOW.out j p (by omega) hp
      have HF := Lib.hid hfew
      clear hfew
      go_wp2
      go_ret
      exact ⟨_, rfl, rfl, fun _ => HF.out⟩
    have h1i : (i : Int) < 100 := by omega
    obtain ⟨b, off, rfl, hbl, hst⟩ := HAT.out (by omega)
    obtain ⟨p, hp⟩ : ∃ p, l[i]? = some p := ⟨_, List.getElem?_eq_getElem (by rw [HN.out]; exact hlt)⟩
    have hs19 := HALL.out p (List.mem_of_getElem? hp)
    have hat := hst i p hp
    obtain ⟨la, lc, hlv⟩ := hs19.parts.len
    obtain ⟨ia, ic, hiv⟩ := hs19.msg.ids.len
    obtain ⟨ba, bc, hbv⟩ := hs19.msg.bytes.len
    obtain ⟨pa, pc, hpv⟩ := hs19.msg.proof.len
    obtain ⟨ma, mc, hmv⟩ := hs19.msg.members.len
    have c4 := hat.vl
    have c39 := hat.vi
    have c40 := hat.vb
    have c41 := hat.vp
    have c42 := hat.vm
    have hpt := hs19.parts
    rw [hlv] at c4 hpt
    rw [hiv] at c39
    rw [hbv] at c40
    rw [hpv] at c41
    rw [hmv] at c42
    obtain ⟨nI, hnI⟩ : ∃ k, p.1.m.ids.length = k := ⟨_, rfl⟩
    obtain ⟨nB, hnB⟩ : ∃ k, p.1.m.bytes.length = k := ⟨_, rfl⟩
    obtain ⟨nP, hnP⟩ : ∃ k, p.1.m.proof.length = k := ⟨_, rfl⟩
    obtain ⟨nM, hnM⟩ : ∃ k, p.1.m.members.length = k := ⟨_, rfl⟩
    obtain ⟨nL, hnL⟩ : ∃ k, p.2.length = k := ⟨_, rfl⟩
    rw [hnI] at c39
    rw [hnB] at c40
    rw [hnP] at c41
    rw [hnM] at c42
    rw [hnL] at c4 hpt
    have HNL := Lib.hid hnL
    have HP := Lib.hid hp
    have HPT := Lib.hid hpt
    clear hs19 hat hlv hiv hbv hpv hmv hnI hnB hnP hnM hnL hp hst hpt
    by_cases t1 : (20 : Int) < (nL : Int)
    · go_wp2
      go_ret
      exact ⟨true, rfl, rfl, fun h => by cases h⟩
    by_cases t2 : (20000 : Int) < (nB : Int)
    · go_wp2
      go_ret
      exact ⟨true, rfl, rfl, fun h => by cases h⟩
    by_cases t3 : (200 : Int) < (nI : Int)
    · go_wp2
      go_ret
      exact ⟨true, rfl, rfl, fun h => by cases h⟩
    by_cases t4 : (50 : Int) < (nP : Int)
    · go_wp2
      go_ret
      exact ⟨true, rfl, rfl, fun h => by cases h⟩
    by_cases t5 : (200 : Int) < (nM : Int)
    · go_wp2
      go_ret
      exact ⟨true, rfl, rfl, fun h => by cases h⟩
    go_wp2
    clear t2 t3 t4 t5 c39 c40 c41 c42
    go_loopw [3, 5] (fun nv kv W' => ∃ k s : Nat, k ≤ nL ∧ s ≤ 40000 ∧ nv = .int .i64 (s : Int) ∧ kv = .int .i64 (k : Int) ∧ W' = wr) (fun _ kv _ => nL - (intOf kv).toNat)
    case atStart => exact ⟨0, s, Nat.zero_le _, hs, rfl, rfl, rfl⟩
    case round =>
      obtain ⟨k, s2, hk, hs2, rfl, rfl, rfl⟩ := hrel
      by_cases hkl : k < nL
      · have hkk : (k : Int) < (nL : Int) := by omega
        obtain ⟨qb, qoff, qc, hqv, hqb, hqat⟩ := HPT.out.at_ (by rw [HNL.out]; omega)
        rw [HNL.out] at hqv hqat
        obtain ⟨rfl, rfl⟩ : la = some ⟨qb, qoff, none⟩ ∧ lc = qc := by cases hqv; exact ⟨rfl, rfl⟩
        obtain ⟨ua, uc, hcell, hub⟩ := hqat k hkl
        obtain ⟨nb, hnb⟩ : ∃ q, (p.2.getD k []).length = q := ⟨_, rfl⟩
        rw [hnb] at hcell
        clear hqv hqat hub hnb
        by_cases t6 : (3000 : Int) < (nb : Int)
        · go_wp2
          go_ret
          exact ⟨true, rfl, rfl, fun h => by cases h⟩
        by_cases t7 : (30000 : Int) < (s2 : Int)
        · go_wp2
          go_ret
          exact ⟨true, rfl, rfl, fun h => by cases h⟩
        go_wp2
        go_roundw
        case rel => exact ⟨k + 1, s2 + nb, by omega, by omega, by go_num, by go_num, by first | trivial | rfl⟩
        case measure => simp [intOf]; omega
      · obtain rfl : k = nL := by omega
        have hkk : ¬ (k : Int) < (k : Int) := by omega
        go_wp2
        go_roundw
        case rel =>
          refine ⟨i + 1, s2, by omega, hs2, by go_num, by go_num, fun j q hj hq => ?_, by first | trivial | rfl⟩
          rcases Nat.lt_or_ge j i with h | h
          · exact HLOW.out j q h hq
          · obtain rfl : j = i := by omega
            rw [HP.out] at hq
            cases hq
            rw [HNL.out]; omega
        case measure => simp [intOf]; omega

end Go.Proofs.YtnohglkilpnjhaaGreatDoor

/- A law step laid in a block, stored as a whole. No condition. -/
namespace Go.Proofs.YtnohglkilpnjhaaGreatDoor
open Go.RowKit
set_option linter.unusedVariables false
set_option linter.unusedSimpArgs false
set_option maxRecDepth 100000

theorem size_step19 : (Tryz.prog.info? 40).map (·.size) = some 45 := by kernel_rfl
theorem S19R.one {w : World} {x : S19} {ls : List (List UInt8)} (h : S19R w x ls) : x.cells.toArray.all (·.oneCell') = true :=
  Array.all_eq_true_iff_forall_mem.2 (fun v hv => by
    obtain ⟨va, vc, hl⟩ := h.parts.len
    have hm := h.msg.one
    have hv' : v ∈ x.cells := by simpa using hv
    simp only [S19.cells, List.mem_append, List.mem_cons, List.not_mem_nil, or_false, hl] at hv'
    rcases hv' with (rfl | rfl | rfl | rfl | rfl) | hv' | rfl
    · rfl
    · rfl
    · rfl
    · rfl
    · rfl
    · exact Array.all_eq_true_iff_forall_mem.1 hm v (by simpa using hv')
    · rfl)
theorem wp_store_step19 {w : World} {op : Oper} {a : Act} {K : Act → World → Prop} {Q : Exit → Act → World → Prop} (p q : Operand) (g : Nat) (x x0 : S19) (ls : List (List UInt8)) (ho : op.op = .store 40 p q)
    (hp : a.eval p = .pointer (some ⟨g, 0, none⟩)) (hq : a.eval q = .agg x.cells.toArray) (hx : S19R w x ls) (hg : StepO w g x0)
    (h : ∀ w', StepO w' g x → w.grownBy w' (some g) → w'.heap.size = w.heap.size → K (a.put op.dst undef) w') : op.wp Tryz.prog a w K Q := by
  have hrun := run_storeVar_row (P := Tryz.prog) w g 40 40 _ x.cells.toArray hg.1 (by rw [size_step19]; simp [S19.len hx.msg.hash]) (by simp [S19.len hx.msg.hash, S19.len hg.2]) hx.one
  unfold Oper.wp execOp
  simp only [ho, hp, hq, Instr.storeAt, Instr.sureAddr, Sem.run_bind, Sem.run_pure, Result.andThen_ok, hrun]
  exact h _ ⟨setRow_heap _ _ _ _ _ _ hg.1, hx.msg.hash⟩ ⟨rfl, rfl, rfl, by simp [World.setRow], fun k hk hne => Go.setRow_other w g k _ (fun e => hne (by rw [e]))⟩ (by simp [World.setRow])
theorem zero_step19 (w : World) : (zeroValue 40).run Tryz.prog w = .ok (.agg S19.zero.cells.toArray) w := by kernel_rfl
theorem wp_alloc_step19 {w : World} {o : Oper} {a : Act} {K : Act → World → Prop} {Q : Exit → Act → World → Prop} (ho : o.op = .alloc 40)
    (h : ∀ w', StepO w' w.heap.size S19.zero → Below w.heap.size w w' → w'.heap.size = w.heap.size + 1 → K (a.put o.dst (.pointer (some ⟨w.heap.size, 0, none⟩))) w') : o.wp Tryz.prog a w K Q := by
  unfold Oper.wp execOp
  have := h _ ⟨heap_alloc_new w _, rfl⟩ ((Below.refl _ w).alloc (Nat.le_refl _) _) (by simp)
  have hz := zero_step19 w
  simp only [ho, Instr.alloc, Sem.run_bind, hz, Result.andThen_ok, Sem.run_pure, newVar, newRow]
  exact this

end Go.Proofs.YtnohglkilpnjhaaGreatDoor

/- An origin alone, as it goes on from call to call; a law step's cells. No condition. -/
namespace Go.Proofs.YtnohglkilpnjhaaGreatDoor
open Go.RowKit
set_option linter.unusedVariables false
set_option linter.unusedSimpArgs false
set_option maxRecDepth 100000

/-- An origin alone. -/
structure OneI (W : World) (o : Nat) (most each life : Int) (S : OrgL) (F : Nat → Prop) (w : World) : Prop where
  org : OrgP w o most each life S F
  ok : OrgOk most each S
  own : ∀ k, F k → W.heap.size ≤ k
  below : Below W.heap.size W w
section
variable {W w w' : World} {o : Nat} {most each life : Int} {S S' : OrgL} {F F' : Nat → Prop}
theorem OneI.new (h : OneI W o most each life S F w) (hb : Below w.heap.size w w') : OneI W o most each life S F w' := ⟨h.org.of_new hb, h.ok, h.own, below_next h.below hb⟩
theorem OneI.step (h : OneI W o most each life S F w) (ho : OrgP w' o most each life S' F') (hk : OrgOk most each S') (hs : OStep F F' w w') : OneI W o most each life S' F' w' :=
  ⟨ho, hk, fun k hf => (hs.own k hf).elim (h.own k) (fun e => Nat.le_trans h.below.size e), hs.below h.below h.below.size h.own⟩
theorem OneI.block (hs : OStep F F' w w') (hO : OrgP w o most each life S F) {cur : Array Value} {ty : TypeId} {f : Nat × Nat} {g : Nat} (he : w.heap[g]? = some (.cells cur ty f)) : w'.heap[g]? = w.heap[g]? :=
  hs.kept.block g (Array.getElem?_eq_some_iff.1 he).1 fun hf => hO.cells_ne hf he
theorem stp_n {g : Nat} {x : S19} (h : StepO w g x) : w.cell? ⟨g, 1, none⟩ = some (.int .i64 x.n) := h.at_.n
theorem stp_frm {g : Nat} {x : S19} (h : StepO w g x) : w.cell? ⟨g, 2, none⟩ = some (.int .i64 x.frm) := h.at_.frm
theorem stp_now {g : Nat} {x : S19} (h : StepO w g x) : w.cell? ⟨g, 3, none⟩ = some (.int .i64 x.now) := h.at_.now
theorem stp_vl {g : Nat} {x : S19} (h : StepO w g x) : w.cell? ⟨g, 4, none⟩ = some x.vl := h.at_.vl
theorem stp_seed {g : Nat} {x : S19} (h : StepO w g x) : w.cell? ⟨g, 44, none⟩ = some (.int .u64 (x.seed : Int)) := h.at_.seed
theorem stp_hash {g : Nat} {x : S19} (h : StepO w g x) : DigAt w g 6 x.m.hash := h.at_.hash
end

end Go.Proofs.YtnohglkilpnjhaaGreatDoor

/- The plain law of OriginRight: whatever an origin answers is a message that may be. No condition. -/
namespace Go.Proofs.YtnohglkilpnjhaaGreatDoor
open Go.RowKit
set_option linter.unusedVariables false
set_option linter.unusedSimpArgs false

theorem proofL_le : ∀ (k : Nat) (l : List (List UInt8)) (i : Nat), i < l.length → l.length ≤ 2 ^ k → (proofL l i).length ≤ k
  | 0, l, i, h, hl => by rw [proofL_end (by simpa using hl) i h]; simp
  | k + 1, l, i, h, hl => by
    by_cases h1 : 1 < l.length
    · have hp : 2 ^ (k + 1) = 2 * 2 ^ k := by rw [Nat.pow_succ, Nat.mul_comm]
      have := proofL_le k (aboveL l) (i / 2) (by rw [aboveL_len]; omega) (by rw [aboveL_len]; omega)
      have := stepP_len l i
      rw [proofL_step h1, List.length_append]; omega
    · rw [proofL_end (by omega) i h]; simp
theorem stepP_32 {l : List (List UInt8)} (h : Dig32 l) (i : Nat) (hi : i < l.length) : ∀ d ∈ stepP l i, d.length = 32 := fun d hd => by
  unfold stepP at hd
  split at hd
  case isFalse => cases hd
  rename_i hb
  have hlt : (besideZ l.length i).toNat < l.length := by
    unfold besideZ at hb ⊢
    by_cases h1 : i % 2 = 1
    · simp only [if_pos h1] at hb ⊢; omega
    · simp only [if_neg h1] at hb ⊢
      by_cases h2 : i + 1 < l.length
      · simp only [if_pos h2] at hb ⊢; omega
      · simp only [if_neg h2] at hb; omega
  obtain rfl : d = l.getD (besideZ l.length i).toNat [] := by simpa using hd
  rw [List.getD_eq_getElem?_getD, List.getElem?_eq_getElem hlt]
  exact h _ (List.getElem_mem hlt)
theorem proofL_32 : ∀ (k : Nat) (l : List (List UInt8)) (i : Nat), i < l.length → l.length ≤ 2 ^ k → Dig32 l → ∀ d ∈ proofL l i, d.length = 32
  | 0, l, i, h, hl, h32 => fun d hd => by rw [proofL_end (by simpa using hl) i h] at hd; cases hd
  | k + 1, l, i, h, hl, h32 => fun d hd => by
    by_cases h1 : 1 < l.length
    · have hp : 2 ^ (k + 1) = 2 * 2 ^ k := by rw [Nat.pow_succ, Nat.mul_comm]
      rw [proofL_step h1] at hd
      rcases List.mem_append.1 hd with hd | hd
      · exact stepP_32 h32 i h d hd
      · exact proofL_32 k (aboveL l) (i / 2) (by rw [aboveL_len]; omega) (by rw [aboveL_len]; omega) (aboveL_32 l h32) d hd
    · rw [proofL_end (by omega) i h] at hd; cases hd
theorem right9 {d : List UInt8} : wrightB (mk0 11 d) = true := by rw [wrightB_eq]; simp [itemB, hasL, mk0, fitsB, bareB]
theorem right10 {d b : List UInt8} (h1 : 1 ≤ b.length) (h2 : b.length ≤ 4096) : wrightB { mk0 10 d with bytes := b } = true := by
  rw [wrightB_eq]; simp [itemB, hasL, mk0, fitsB, bareB, withinB, mostL]; omega
theorem right5 {d : List UInt8} {i : Int} (h : 0 ≤ i ∧ i ≤ 1023) : wrightB { mk0 5 d with piece := i } = true := by
  rw [wrightB_eq]; simp [itemB, hasL, mk0, fitsB, bareB, withinB]; omega
theorem right4 {d b : List UInt8} {i : Int} {p : List (List UInt8)} (h : 0 ≤ i ∧ i ≤ 1023) (h1 : 1 ≤ b.length ∧ b.length ≤ 16384) (h2 : p.length ≤ 10) : wrightB { mk0 4 d with piece := i, bytes := b, proof := p } = true := by
  rw [wrightB_eq]; simp [itemB, hasL, mk0, fitsB, bareB, withinB, mostL]; omega
theorem right7 {d : List UInt8} {l : List Int} (h : l.length ≤ 64) (h1 : ∀ x ∈ l, 1 ≤ x ∧ x ≤ 65536) : wrightB { mk0 7 d with ids := l } = true := by
  rw [wrightB_eq]; simp [itemB, hasL, mk0, fitsB, bareB, withinB, idB, h]
  exact h1
theorem right_piece {m : MsgL} (h : wrightB m = true) (hk : m.kind = 3) : 0 ≤ m.piece ∧ m.piece ≤ 1023 := by
  have := item_of h (i := 3) (by omega) (by omega)
  simp [itemB, hasL, hk, fitsB, withinB] at this
  exact this

/-- What is answered. -/
theorem take_right {S S' : OrgL} {most each life id now : Int} {q m : MsgL} {seed : Nat} (hk : OrgOk most each S) (hm : 1 ≤ most) (he : 1 ≤ each ∧ each ≤ 64) (hq : q.hash.length = 32) (h : takeO S most each life id now q seed = (S', m, true, 0)) :
    wrightB m = true ∧ m.hash = q.hash ∧ ∀ d ∈ m.proof, d.length = 32 := by
  unfold takeO at h
  by_cases hok : takeOk id now q = true
  case neg => rw [if_neg hok] at h; simp at h
  rw [if_pos hok] at h
  have hr : wrightB q = true := by
    unfold takeOk at hok
    rw [Bool.and_eq_true, Bool.and_eq_true] at hok
    exact hok.2.2
  by_cases k9 : q.kind = 9
  · rw [if_pos k9] at h
    simp only [Prod.mk.injEq, and_true] at h
    obtain ⟨_, rfl⟩ := h
    unfold tellL
    cases e : imgAt S q.hash with
    | none => exact ⟨right9, rfl, fun d hd => by cases hd⟩
    | some xs =>
      have hi := hk.imgs _ (imgAt_mem e)
      obtain ⟨h1, h2⟩ := encG_some hi.image hi.ok
      refine ⟨right10 ?_ ?_, rfl, fun d hd => by cases hd⟩
      · rw [h1]
        show 1 ≤ (flatB (imgIts xs)).length
        have hf := image_few hi.image
        cases xs with
        | nil => simp at hf
        | cons x l =>
          show 1 ≤ (flatB ((((0 + 1 : Nat) : Int), blobB x) :: imgItsF (0 + 1) l)).length
          rw [flatB_cons]
          simp [itB]
      · rw [h1]; show (flatB (imgIts xs)).length ≤ 4096
        have h2 : (flatB (imgIts xs)).length ≤ 3200 := h2
        omega
  rw [if_neg k9] at h
  by_cases k3 : q.kind = 3
  · rw [if_pos k3] at h
    simp only [Prod.mk.injEq, and_true] at h
    obtain ⟨_, rfl⟩ := h
    have hp := right_piece hr k3
    unfold giveL
    cases e : contAt S q.hash with
    | none => exact ⟨right5 hp, rfl, fun d hd => by cases hd⟩
    | some p =>
      dsimp only
      have hc := hk.conts _ (contIn_mem e).1
      split
      case isFalse => exact ⟨right5 hp, rfl, fun d hd => by cases hd⟩
      rename_i hs
      obtain ⟨lo, len, e1, e2, h1, h2, h3, h4, h5, h6⟩ := give_bounds hc hs
      have hlf := leaves_few hc.1
      refine ⟨right4 hp ?_ ?_, rfl, fun d hd => ?_⟩
      · rw [e1, e2]
        simp only [Int.toNat_natCast, List.length_take, List.length_drop]
        omega
      · unfold proofE
        split
        · rename_i hx
          exact proofL_le 10 _ _ (by omega) (by omega)
        · simp
      · unfold giveM proofE at hd
        dsimp only at hd
        split at hd
        · rename_i hx
          exact proofL_32 10 _ _ (by omega) (by omega) (leavesL_32 _ _) d hd
        · cases hd
  rw [if_neg k3] at h
  by_cases k6 : q.kind = 6
  · rw [if_pos k6] at h
    simp only [Prod.mk.injEq, and_true] at h
    obtain ⟨_, rfl⟩ := h
    unfold askS
    have hT := (hk.ann hm he.1 hq life id now q.seed).tab
    have hps := peersT_ok hT he.1 q.hash
    refine ⟨right7 ?_ ?_, rfl, fun d hd => by cases hd⟩
    · unfold sampleL
      rw [List.length_take]; omega
    · intro x hx
      unfold sampleL at hx
      have hx2 := (shufL_perm _ _).mem_iff.1 (List.mem_of_mem_take hx)
      unfold othersL at hx2
      obtain ⟨p, hp, rfl⟩ := List.mem_map.1 hx2
      have := hps.1.ok p (List.mem_filter.1 hp).1
      exact ⟨this.1, this.2.1⟩
  rw [if_neg k6] at h
  simp at h

end Go.Proofs.YtnohglkilpnjhaaGreatDoor

/- The walk of the law OriginRight: it answers true. Condition: the table of the hash's constants. -/
namespace Go.Proofs.YtnohglkilpnjhaaGreatDoor
open Go.RowKit
set_option linter.unusedVariables false
set_option linter.unusedSimpArgs false
set_option maxRecDepth 100000

set_option maxHeartbeats 6400000 in
theorem OriginRight_walk (v : Value) (l : List (S19 × List (List UInt8))) (w : World) (hl : StepsV w v l) (hKc : Consts w) :
    Calls Tryz.prog 3 #[v] w fun e w' => e = .returned (.bool true) ∧ Below w.heap.size w w' := by
  have hle := hl.le
  have HL := Lib.hid hl
  obtain ⟨va, vc, hv, _, _, hall, hat⟩ := hl
  subst hv
  have HALL := Lib.hid hall
  have HAT := Lib.hid hat
  have HKC := Lib.hid hKc
  clear hall hat hKc
  go_enter Tryz.func3, Tryz.ntmps3
  go_upto_region 2 with (go_at_call 9; refine (oawake_any _ HKC.out).mono ?_; rintro e w1 ⟨rfl, hb1⟩; have HB1 := Lib.hid hb1; clear hb1)
  go_upto_region 3 with (go_at_call 10; refine (much_any _ l _ (HL.out.of_new HB1.out)).mono ?_; unfold MuchPost; rintro e w2 ⟨many, rfl, rfl, hfew⟩; have HFEW := Lib.hid hfew; clear hfew)
  go_upto_region 4 with (go_at_call 11; refine (ONew_ok 5 5 10 _ (by decide)).mono ?_; rintro e w3 ⟨o, F, rfl, ho3, hf3, hb3⟩; have HI3 := Lib.hid (show OneI w o 5 5 10 OrgL.zero F w3 from ⟨ho3, OrgOk.zero (by omega), fun k hk => Nat.le_trans HB1.out.size (hf3 k hk), below_next HB1.out hb3⟩); clear ho3 hf3 hb3)
  cases many with
  | true =>
    go_wp2
    go_ret
    exact ⟨rfl, HI3.out.below⟩
  | false =>
    have HFW0 := Lib.hid (HFEW.out rfl)
    clear HFEW
    obtain ⟨n, hn⟩ : ∃ n, l.length = n := ⟨_, rfl⟩
    rw [hn] at hle HAT ⊢
    have HN := Lib.hid hn
    clear hn
    go_wp2
    go_loopw [7, 8, 9, 10, 11, 12, 13, 14, 15, 16] (fun iv _ _ _ _ _ _ _ _ _ W' => ∃ (i : Nat) (S : OrgL) (F : Nat → Prop), i ≤ n ∧ iv = .int .i64 (i : Int) ∧ OneI w o 5 5 10 S F W') (fun iv _ _ _ _ _ _ _ _ _ _ => n - (intOf iv).toNat)
    case atStart => exact ⟨0, OrgL.zero, F, Nat.zero_le _, rfl, HI3.out⟩
    case round =>
      rename World => w5
      obtain ⟨i, S, F5, hi, rfl, hI⟩ := hrel
      have HI5 := Lib.hid hI
      clear hI
      by_cases hlt : i < n
      case neg =>
        have hii : ¬ (i : Int) < (n : Int) := by omega
        go_wp2
        go_ret
        exact ⟨rfl, HI5.out.below⟩
      have hii : (i : Int) < (n : Int) := by omega
      by_cases h40 : i < 40
      case neg =>
        have h4i : ¬ (i : Int) < 40 := by omega
        go_wp2
        go_ret
        exact ⟨rfl, HI5.out.below⟩
      have h4i : (i : Int) < 40 := by omega
      obtain ⟨b, off, rfl, hbl, hst⟩ := HAT.out (by omega)
      obtain ⟨⟨x, ls⟩, hp⟩ : ∃ p, l[i]? = some p := ⟨_, List.getElem?_eq_getElem (by rw [HN.out]; exact hlt)⟩
      have hs19 := HALL.out _ (List.mem_of_getElem? hp)
      have hfw : ls.length ≤ 20 := HFW0.out i _ (by omega) hp
      have HX := Lib.hid hs19
      have HAX := Lib.hid ((hst i _ hp).of_new HI5.out.below)
      have HFW := Lib.hid hfw
      clear hbl hst hp hs19 hfw
      go_upto_region 10 with (first
        | ((with_reducible refine wpList_plain (o := ⟨some 55, Op.load _ _, _, _, _, _⟩) rfl fun K hK => ?_); (refine HAX.out.wp rfl rfl (hK _ _ ?_)))
        | ((with_reducible refine wpList_plain (o := ⟨some 8, Op.alloc _, _, _, _, _⟩) rfl fun K hK => ?_); (refine wp_alloc_step19 rfl fun w6 ho6 hb6 hs6 => hK _ _ ?_); have HO6 := Lib.hid ho6; have HB6 := Lib.hid hb6; clear ho6 hb6 hs6)
        | ((with_reducible refine wpList_plain (o := ⟨none, Op.store _ (.tmp 8) (.tmp 55), _, _, _, _⟩) rfl fun K hK => ?_); (refine wp_store_step19 (.tmp 8) (.tmp 55) w5.heap.size x S19.zero ls rfl rfl rfl ((HX.out.of_new HI5.out.below).of_new HB6.out) HO6.out fun w7 ho7 hg7 hs7 => hK _ _ ?_); have hb7 := HB6.out.grown hg7 HB6.out.size (fun k e => by cases e; exact Nat.le_refl _); have HSO := Lib.hid ho7; have HI7 := Lib.hid (HI5.out.new hb7); clear hb7 ho7 hg7 hs7))
      obtain ⟨g, hg⟩ : ∃ g, w5.heap.size = g := ⟨_, rfl⟩
      rw [hg] at HSO ⊢
      clear hg
      have ha := HSO.out.at_.act
      by_cases h0 : x.act = 0
      · rw [h0] at ha
        have hvl := stp_vl HSO.out
        have hn1 := stp_n HSO.out
        go_wp2_with (go_at_call 12; refine (OPublish_any o 5 5 10 S F5 x.vl ls x.n _ HI7.out.org HI7.out.ok (HX.out.parts.of_new HI7.out.below) (by have := HFW.out; omega) (HKC.out.of_new HI7.out.below)).mono ?_; unfold PubPost; rintro e w8 ⟨F8, rfl, ho8, hs8⟩; have HI8 := Lib.hid (HI7.out.step ho8 (HI7.out.ok.pub ls x.n) hs8); clear ho8 hs8)
        go_roundw
        case rel => exact ⟨i + 1, _, F8, by omega, by go_num, HI8.out⟩
        case measure => simp [intOf]; omega
      have hok := HI7.out.ok.take (by omega) (by omega) HX.out.msg.hash 10 x.frm x.now x.seed
      have hT := fun W' h1 h2 h3 => OTake_any o 5 5 10 S F5 x.frm x.now x.m x.s x.seed W' h1 HI7.out.ok (by omega) (by omega) h2 HX.out.ok HX.out.seed h3
      obtain ⟨⟨S', m, is, er⟩, hq⟩ : ∃ q, takeO S 5 5 10 x.frm x.now x.m x.seed = q := ⟨_, rfl⟩
      rw [hq] at hok hT
      have HQ := Lib.hid hq
      have HOK := Lib.hid hok
      have HT := Lib.hid hT
      clear hq hok hT
      have hfr := stp_frm HSO.out
      have hnw := stp_now HSO.out
      have hse := stp_seed HSO.out
      go_upto_region 13 with (first
        | ((with_reducible refine wpList_plain (o := ⟨some 72, Op.load _ _, _, _, _, _⟩) rfl fun K hK => ?_); (refine wp_load_stepmsg (off := 0) rfl rfl HSO.out.at_ (hK _ _ ?_)))
        | (go_at_call 13; refine (HT.out _ HI7.out.org (HX.out.of_new HI7.out.below).msg (HKC.out.of_new HI7.out.below)).mono ?_; unfold TakePost; rintro e w8 ⟨F8, s8, rfl, hr8, ho8, hs8, -⟩; have HI8 := Lib.hid (HI7.out.step ho8 HOK.out hs8); have HSO8 := Lib.hid (HSO.out.of_block (OneI.block hs8 HI7.out.org HSO.out.1)); have HR8 := Lib.hid hr8; clear ho8 hs8 hr8)
        | ((with_reducible refine wpList_plain (o := ⟨some 9, Op.alloc _, _, _, _, _⟩) rfl fun K hK => ?_); (refine wp_alloc_msg rfl fun w9 ho9 hb9 hs9 => hK _ _ ?_); have HO9 := Lib.hid ho9.o; have HB9 := Lib.hid hb9; have HR9 := Lib.hid (HR8.out.of_new hb9); clear ho9 hb9 hs9)
        | ((with_reducible refine wpList_plain (o := ⟨none, Op.store _ (.tmp 9) (.tmp 76), _, _, _, _⟩) rfl fun K hK => ?_); (refine wp_store_msg (.tmp 9) (.tmp 76) w8.heap.size m msgZ s8 sN rfl rfl rfl HR9.out HO9.out fun w10 ho10 hg10 hs10 => hK _ _ ?_); have hb10 := HB9.out.grown hg10 HB9.out.size (fun k e => by cases e; exact Nat.le_refl _); have HO10 := Lib.hid ho10; have HI10 := Lib.hid (HI8.out.new hb10); have HSO10 := Lib.hid (HSO8.out.of_new hb10); have HR10 := Lib.hid (HR8.out.of_new hb10); clear hb10 ho10 hg10 hs10))
      obtain ⟨g9, hg9⟩ : ∃ g, w8.heap.size = g := ⟨_, rfl⟩
      rw [hg9] at HO10 ⊢
      clear hg9 hfr hnw hse HO9 HB9 HR9 HR8 ha HSO8
      by_cases her : er = 0
      case neg =>
        go_wp2
        go_roundw
        case rel => exact ⟨i + 1, _, F8, by omega, by go_num, HI10.out⟩
        case measure => simp [intOf]; omega
      subst her
      cases is with
      | false =>
        go_wp2
        go_roundw
        case rel => exact ⟨i + 1, _, F8, by omega, by go_num, HI10.out⟩
        case measure => simp [intOf]; omega
      | true =>
        obtain ⟨hr, hh, hp⟩ := take_right HI7.out.ok (by omega) (by omega) HX.out.msg.hash HQ.out
        obtain ⟨bs, hbs⟩ := encM_some hr HR10.out.hash hp
        have hde := decP_iff.2 ⟨hbs, HR10.out.hash, hp⟩
        have HH := Lib.hid hh
        have HE := Lib.hid hbs
        have HD := Lib.hid hde
        clear hr hh hp hbs hde
        go_upto_region 15 with (first
          | ((with_reducible refine wpList_plain (o := ⟨some 86, Op.load _ _, _, _, _, _⟩) rfl fun K hK => ?_); (refine wp_load_msg rfl rfl HO10.out (hK _ _ ?_)))
          | (go_at_call 14; refine (REncode17_any m s8 _ HR10.out).mono ?_; rw [HE.out]; unfold EncPost; rintro e w11 ⟨hb11, v11, rfl, hv11⟩; have HV11 := Lib.hid hv11.bytes; have HB11 := Lib.hid hb11; have HI11 := Lib.hid (HI10.out.new hb11); clear hb11 hv11))
        obtain ⟨xa, xc, hxv⟩ := HV11.out.len
        subst hxv
        go_upto_region 16 with (first
          | (go_at_call 15; refine (RDecode17_any _ bs _ HV11.out).mono ?_; rw [HD.out]; unfold DecMPost; rintro e w12 ⟨m12, s12, rfl, hm12, hr12, hb12⟩; obtain rfl : m12 = m := hm12; have HR12 := Lib.hid hr12; have HB12 := Lib.hid (below_next HB11.out hb12); clear hr12 hb12)
          | ((with_reducible refine wpList_plain (o := ⟨some 14, Op.alloc _, _, _, _, _⟩) rfl fun K hK => ?_); (refine wp_alloc_msg rfl fun w13 ho13 hb13 hs13 => hK _ _ ?_); have HO13 := Lib.hid ho13.o; have HB13 := Lib.hid hb13; have HR13 := Lib.hid (HR12.out.of_new hb13); clear ho13 hb13 hs13)
          | ((with_reducible refine wpList_plain (o := ⟨none, Op.store _ (.tmp 14) (.tmp 93), _, _, _, _⟩) rfl fun K hK => ?_); (refine wp_store_msg (.tmp 14) (.tmp 93) w12.heap.size m12 msgZ s12 sN rfl rfl rfl HR13.out HO13.out fun w14 ho14 hg14 hs14 => hK _ _ ?_); have hb14 := HB13.out.grown hg14 HB13.out.size (fun k e => by cases e; exact Nat.le_refl _); have HO14 := Lib.hid ho14; have HB14 := Lib.hid (below_next HB12.out hb14); have HRB := Lib.hid (HR12.out.of_new hb14); clear hb14 ho14 hg14 hs14))
        obtain ⟨g14, hg14⟩ : ∃ g, w12.heap.size = g := ⟨_, rfl⟩
        rw [hg14] at HO14 ⊢
        clear hg14
        have HOA := Lib.hid (HO10.out.of_new HB14.out)
        have HRA := Lib.hid (HR10.out.of_new HB14.out)
        go_upto_region 17 with (first
          | ((with_reducible refine wpList_plain (o := ⟨some 95, Op.load _ _, _, _, _, _⟩) rfl fun K hK => ?_); (refine wp_load_msg rfl rfl HOA.out (hK _ _ ?_)))
          | ((with_reducible refine wpList_plain (o := ⟨some 96, Op.load _ _, _, _, _, _⟩) rfl fun K hK => ?_); (refine wp_load_msg rfl rfl HO14.out (hK _ _ ?_)))
          | (go_at_call 16; refine (SameMsg_any _ _ s8 s12 _ HRA.out HRB.out).mono ?_; rw [decide_eq_true rfl]; rintro e w15 ⟨rfl, hb15⟩; have HB15 := Lib.hid (below_next HB14.out hb15); clear hb15))
        have HD1 := Lib.hid (HO10.out.of_new HB15.out).hash
        have HD2 := Lib.hid (stp_hash (HSO10.out.of_new HB15.out))
        rw [HH.out] at HD1
        have hne := run_neq_dig _ _ HX.out.msg.hash HX.out.msg.hash
        rw [decide_eq_true rfl] at hne
        go_wp2_with (first
          | ((with_reducible refine wpList_met (o := ⟨some 110, Op.load _ _, _, _, _, _⟩) rfl fun K hK => ?_); (refine wp_load_at (ty := 31) (x := .tmp 109) rfl rfl HD1.out (hK _ _ ?_)))
          | ((with_reducible refine wpList_met (o := ⟨some 113, Op.load _ _, _, _, _, _⟩) rfl fun K hK => ?_); (refine wp_load_at (ty := 31) (x := .tmp 112) rfl rfl HD2.out (hK _ _ ?_))))
        go_roundw
        case rel => exact ⟨i + 1, _, F8, by omega, by go_num, HI10.out.new HB15.out⟩
        case measure => simp [intOf]; omega

end Go.Proofs.YtnohglkilpnjhaaGreatDoor

/- From the reading of a law's argument to what the walks ask of it: slices of steps of an origin, and three numbers. No condition. -/
namespace Go.Proofs.YtnohglkilpnjhaaGreatDoor
open Go.ChangeShapes Go.WideShapes Go.ChangeAt Go.RowKit Go.Deep
set_option linter.unusedVariables false
set_option linter.unusedSectionVars false
set_option linter.unusedSimpArgs false
set_option maxRecDepth 100000

section
variable {H : Type} {enc : TypeId × Value → H} {P : Program} {W : World} {base : Nat} {spare : Nat → Bool} {held : Bool}

/-- A slice of slices of bytes, its cells. -/
theorem parts_of_trod {t e f : TypeId} {fuel : Nat} {cs : List Value} {x : DataW H × List MemPlace} (ht : P.underlying t = some (.slice e)) (he : P.underlying e = some (.slice f)) (hf : P.underlying f = some (.int .u8)) (hce : P.cellsOf e = 1) (hcf : P.cellsOf f = 1)
    (hfu : DataW.trod enc P W 0 spare held fuel t cs = some x) : ∃ v ps, cs = [v] ∧ PartsV W v ps := by
  rcases open_slice ht hfu with ⟨rfl, _⟩ | ⟨a, len0, cap0, m, n, D, Pl, rfl, _, hl, hm, hmm, _, hx⟩
  · exact ⟨_, [], rfl, none, 0, rfl, Nat.le_refl _, by unfold maxLen; omega, fun _ => rfl, fun h => by simp at h⟩
  · have hlm : len0 ≤ m := by rw [hmm]; split <;> omega
    have one : ∀ i, i < len0 → ∃ y : Value × List UInt8, W.cell? (a.add i) = some y.1 ∧ Bytes W y.1 y.2 := by
      intro i hi
      obtain ⟨cs', hc, ht'⟩ := hx i (by omega)
      rw [hce, Nat.mul_one] at hc
      obtain ⟨_, hcl, hat⟩ := World.cells?_some hc
      obtain ⟨u, l, rfl, hb⟩ := bytes_of_trod he hf hcf ht'
      refine ⟨(u, l), ?_, hb⟩
      have := hat 0 (by omega)
      rw [show (a.add i).add 0 = a.add i from rfl] at this
      simpa using this
    obtain ⟨Y, hY⟩ := choose_lt (n := len0) (p := fun i (y : Value × List UInt8) => W.cell? (a.add i) = some y.1 ∧ Bytes W y.1 y.2) one
    refine ⟨_, (List.range len0).map (fun i => (Y i).2), rfl, some a, cap0, by simp, by simpa using hl, hm, (fun h => by cases h), fun h0 => ?_⟩
    have h0' : 0 < len0 := by simpa using h0
    have c0 := (hY 0 h0').1
    have e0 : a.add 0 = a := rfl
    rw [e0] at c0
    obtain ⟨b, off, rfl⟩ := addr_none c0
    refine ⟨b, off, rfl, World.block_lt_of_cell? _ _ c0, fun i hi => ?_⟩
    have hi' : i < len0 := by simpa using hi
    obtain ⟨g1, g2⟩ := hY i hi'
    rw [addr_add] at g1
    have e : ((List.range len0).map (fun i => (Y i).2)).getD i [] = (Y i).2 := by simp [List.getD, hi']
    rw [e]
    exact ⟨(Y i).1, g1, g2⟩

end

section
variable {H : Type} {enc : TypeId × Value → H} {W : World} {base : Nat} {spare : Nat → Bool} {held : Bool}

theorem fields_step19 : (Tryz.prog.fieldsOf 40).toList.map (fun f => (f.name, f.type, f.offset)) =
    [("Do", 3, 0), ("N", 3, 1), ("From", 3, 2), ("Now", 3, 3), ("L", 29, 4), ("M", 37, 5), ("Seed", 38, 44)] := by kernel_rfl
theorem struct_step19 : ∃ fs, Tryz.prog.underlying 40 = some (.struct fs) ∧ fs.toList.map (fun f => (f.name, f.type, f.offset)) =
    [("Do", 3, 0), ("N", 3, 1), ("From", 3, 2), ("Now", 3, 3), ("L", 29, 4), ("M", 37, 5), ("Seed", 38, 44)] :=
  ⟨Tryz.prog.fieldsOf 40, by kernel_rfl, fields_step19⟩
theorem step19_of_trod {fuel : Nat} {cs : List Value} {y : DataW H × List MemPlace} (h : DataW.trod enc Tryz.prog W 0 spare held fuel 40 cs = some y) : ∃ p : S19 × List (List UInt8), cs = p.1.cells ∧ S19R W p.1 p.2 := by
  obtain ⟨fs, ht, hff⟩ := struct_step19
  obtain ⟨n, hl, fld⟩ := struct_fields ht h
  have hcl : Tryz.prog.cellsOf 40 = 45 := by kernel_rfl
  have hci : Tryz.prog.cellsOf 3 = 1 := by kernel_rfl
  have hcu : Tryz.prog.cellsOf 38 = 1 := by kernel_rfl
  have hcb : Tryz.prog.cellsOf 5 = 1 := by kernel_rfl
  have hcm : Tryz.prog.cellsOf 37 = 39 := by kernel_rfl
  have hs1 : Tryz.prog.cellsOf 29 = 1 := by kernel_rfl
  have hs2 : Tryz.prog.cellsOf 33 = 1 := by kernel_rfl
  rw [hff] at fld
  rw [hcl] at hl
  obtain ⟨z0, f0⟩ := fld 0 _ rfl
  obtain ⟨z1, f1⟩ := fld 1 _ rfl
  obtain ⟨z2, f2⟩ := fld 2 _ rfl
  obtain ⟨z3, f3⟩ := fld 3 _ rfl
  obtain ⟨z4, f4⟩ := fld 4 _ rfl
  obtain ⟨z5, f5⟩ := fld 5 _ rfl
  obtain ⟨z6, f6⟩ := fld 6 _ rfl
  dsimp only at f0 f1 f2 f3 f4 f5 f6
  rw [hci] at f0 f1 f2 f3
  rw [hs1] at f4
  rw [hcm] at f5
  rw [hcu] at f6
  obtain ⟨q0, e0, _, w0⟩ := DataW.trod_int Tryz.underlying3 f0
  obtain ⟨q1, e1, _, w1⟩ := DataW.trod_int Tryz.underlying3 f1
  obtain ⟨q2, e2, _, w2⟩ := DataW.trod_int Tryz.underlying3 f2
  obtain ⟨q3, e3, _, w3⟩ := DataW.trod_int Tryz.underlying3 f3
  obtain ⟨v4, ls, e4, r4⟩ := parts_of_trod Tryz.underlying29 Tryz.underlying33 Tryz.underlying5 hs2 hcb f4
  obtain ⟨m, s, e5, r5, o5⟩ := msg_of_trod f5
  obtain ⟨q6, e6, _, w6⟩ := DataW.trod_int Tryz.underlying38 f6
  obtain ⟨sd, rfl, hsd⟩ := bd_u64 w6
  refine ⟨(⟨q0, q1, q2, q3, v4, m, s, sd⟩, ls), ?_, r4, r5, o5, bd_i64 w0, bd_i64 w1, bd_i64 w2, bd_i64 w3, hsd⟩
  unfold S19.cells
  dsimp only
  have hd : ∀ k, cs.drop k = (cs.drop k).take 1 ++ cs.drop (k + 1) := fun k => by have := List.take_append_drop 1 (cs.drop k); rw [List.drop_drop] at this; exact this.symm
  have h45 : cs.drop 45 = [] := List.drop_of_length_le (by omega)
  have h44 : cs.drop 44 = [.int .u64 (sd : Int)] := by rw [hd 44, e6, h45]; rfl
  have h5 : cs.drop 5 = msgCells m s ++ cs.drop 44 := by
    have := List.take_append_drop 39 (cs.drop 5)
    rw [List.drop_drop, e5] at this
    exact this.symm
  have h0 : cs = cs.drop 0 := rfl
  rw [h0, hd 0, e0, hd 1, e1, hd 2, e2, hd 3, e3, hd 4, e4, h5, h44]; rfl
theorem open_steps19 {v : Value} {d : DataW H} {p : List MemPlace} (hv : Value.okWide Tryz.prog W .any base 22 v) (h : DataW.Trod enc Tryz.prog W 0 spare held 22 v d p) :
    ∃ l, StepsV W v l := by
  obtain ⟨a0, l0, c0, rfl⟩ := okWide_slice Tryz.underlying22 hv
  obtain ⟨fuel, hfu⟩ := h
  have hce : Tryz.prog.cellsOf 40 = 45 := by kernel_rfl
  rcases open_slice Tryz.underlying22 hfu with ⟨hcs, _⟩ | ⟨a, len0, cap0, m, n, D, Pl, hcs, _, hl, hm, hmm, _, hx⟩
  · simp [Value.cells] at hcs
    obtain ⟨rfl, rfl, rfl⟩ := hcs
    exact ⟨[], none, 0, rfl, Nat.le_refl _, by unfold maxLen; omega, (fun p hp => by cases hp), fun h => by simp at h⟩
  · simp [Value.cells] at hcs
    obtain ⟨rfl, rfl, rfl⟩ := hcs
    have hlm : l0 ≤ m := by rw [hmm]; split <;> omega
    have one : ∀ i, i < l0 → ∃ y : S19 × List (List UInt8), S19R W y.1 y.2 ∧ ∀ j, j < 45 → W.cell? ((a.add (i * 45)).add j) = y.1.cells[j]? := by
      intro i hi
      obtain ⟨cs', hc, ht'⟩ := hx i (by omega)
      rw [hce] at hc
      obtain ⟨_, hcl, hat⟩ := World.cells?_some hc
      obtain ⟨y, rfl, hy⟩ := step19_of_trod ht'
      exact ⟨y, hy, fun j hj => hat j hj⟩
    haveI : Inhabited S19 := ⟨S19.zero⟩
    obtain ⟨Y, hY⟩ := choose_lt (n := l0) (p := fun i (y : S19 × List (List UInt8)) => S19R W y.1 y.2 ∧ ∀ j, j < 45 → W.cell? ((a.add (i * 45)).add j) = y.1.cells[j]?) one
    have hlen : ((List.range l0).map Y).length = l0 := by simp
    refine ⟨(List.range l0).map Y, some a, c0, by rw [hlen], by rw [hlen]; exact hl, hm, (fun p hp => ?_), fun h0 => ?_⟩
    · obtain ⟨i, hi, rfl⟩ := List.mem_map.1 hp
      exact (hY i (List.mem_range.1 hi)).1
    rw [hlen] at h0
    have e00 := (hY 0 h0).2 0 (by omega)
    have e0 : (a.add (0 * 45)).add 0 = a := rfl
    rw [e0] at e00
    obtain ⟨b, off, rfl⟩ := addr_none (u := .int .i64 (Y 0).1.act) (e00.trans rfl)
    refine ⟨b, off, rfl, World.block_lt_of_cell? _ _ (e00.trans rfl : _ = some (.int .i64 (Y 0).1.act)), fun i p hp => ?_⟩
    have hi : i < l0 := by have := (List.getElem?_eq_some_iff.1 hp).1; omega
    obtain rfl : Y i = p := by simpa [hi] using hp
    refine ⟨(hY i hi).1.msg.hash, World.block_lt_of_cell? _ _ (e00.trans rfl : _ = some (.int .i64 (Y 0).1.act)), fun j hj => ?_⟩
    have h2 := (hY i hi).2 j hj
    rwa [addr_add, addr_add] at h2
end

end Go.Proofs.YtnohglkilpnjhaaGreatDoor

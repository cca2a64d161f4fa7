/- Texts of this claim, one behind the other: each begins with a comment that says what it proves and asks. -/
import Derived.Test.YtnohglkilpnjhaaGreatDoorNa23
/- The walk of the laws' awake. Condition: the table of the hash's constants. -/
namespace Go.Proofs.YtnohglkilpnjhaaGreatDoor
open Go.RowKit
set_option linter.unusedVariables false
set_option linter.unusedSimpArgs false
set_option maxRecDepth 100000

theorem right_one : mrightB ((([7] : List UInt8).length : Nat) : Int) 16 = true := by decide
theorem pub_one : ∃ S nm, pubL OrgL.zero [[7]] 16 = (S, nm, 0) ∧ nm.length = 32 ∧ (imgAt S nm).isSome = true := by
  have hb : blobsL 16 [[7]] = [(blobE [7] 16).1] := rfl
  have he : encGE (blobsL 16 [[7]]) = 0 := by
    have h1 : imageE (blobsL 16 [[7]]) = 0 := by
      rw [hb]
      refine image_one ?_
      unfold blobE
      rw [if_pos right_one]
      exact right_one
    obtain ⟨h2, _⟩ := encG_some h1 (blobsL_ok 16 [[7]])
    unfold encGE
    rw [if_pos h1]
    unfold encG at h2
    rw [if_pos h1] at h2
    rw [h2]; rfl
  refine ⟨⟨[(nameL (blobsL 16 [[7]]), blobsL 16 [[7]])], (contsL 16 [[7]]).foldl addC [], []⟩, nameL (blobsL 16 [[7]]), ?_, nameL_len _, ?_⟩
  · unfold pubL
    rw [if_pos (by unfold layersOk; simp only [List.all_cons, List.all_nil, Bool.and_true]; exact right_one), if_pos he, if_neg (by simp [imgAt, OrgL.zero]), if_neg (by simp [OrgL.zero])]
    rfl
  · simp [imgAt]
theorem take_ask {S : OrgL} {nm : List UInt8} {most each life : Int} (h : (imgAt S nm).isSome = true) : ∃ bs, takeO S most each life 3 1 (mk0 9 nm) 0 = (S, { mk0 10 nm with bytes := bs }, true, 0) := by
  obtain ⟨xs, hx⟩ := Option.isSome_iff_exists.1 h
  refine ⟨(encG xs).getD [], ?_⟩
  have hr : wrightB (mk0 9 nm) = true := by
    rw [wrightB_eq]
    simp [itemB, hasL, mk0, fitsB, bareB]
  have hok : takeOk 3 1 (mk0 9 nm) = true := takeOk_iff.2 ⟨by omega, by omega, hr⟩
  unfold takeO
  rw [if_pos hok, if_pos (show (mk0 9 nm).kind = 9 from rfl)]
  have ht : tellL S nm = { mk0 10 nm with bytes := (encG xs).getD [] } := by unfold tellL; rw [hx]
  show (S, tellL S nm, true, 0) = _
  rw [ht]
theorem parts_one19 {w : World} : PartsV ((w.alloc (.cells #[.int .u8 7] 5)).alloc (.cells #[.slice (some ⟨w.heap.size, 0, none⟩) 1 1] 33)) (.slice (some ⟨w.heap.size + 1, 0, none⟩) 1 1) [[7]] := by
  have h1 := heap_alloc_new w (.cells #[.int .u8 7] 5)
  have hs : (w.alloc (.cells #[.int .u8 7] 5)).heap.size = w.heap.size + 1 := by simp
  have h2 := heap_alloc_new (w.alloc (.cells #[.int .u8 7] 5)) (.cells #[.slice (some ⟨w.heap.size, 0, none⟩) 1 1] 33)
  rw [hs] at h2
  refine ⟨_, 1, rfl, by simp, by unfold maxLen; omega, (fun h => by cases h), fun _ => ⟨w.heap.size + 1, 0, rfl, by simp, fun i hi => ?_⟩⟩
  obtain rfl : i = 0 := by simp at hi; omega
  refine ⟨.slice (some ⟨w.heap.size, 0, none⟩) 1 1, by simp only [World.cell?, h2]; rfl, ?_⟩
  have hb : Bytes (w.alloc (.cells #[.int .u8 7] 5)) (.slice (some ⟨w.heap.size, 0, none⟩) 1 1) [7] := by
    refine ⟨rfl, _, 1, rfl, by simp, by unfold maxLen; omega, (fun h => by cases h), fun _ => ⟨w.heap.size, 0, rfl, by simp, fun j hj => ?_⟩⟩
    obtain rfl : j = 0 := by simp at hj; omega
    simp only [World.cell?, h1]; rfl
  exact hb.of_new ((Below.refl _ _).alloc (Nat.le_refl _) _)

theorem mk0_ok {k : Int} {d : List UInt8} (h : inI64 k) : (mk0 k d).ok := ⟨h, (by show inI64 0; unfold inI64; omega), (fun n hn => by cases hn), fun x hx => by cases hx⟩
set_option maxHeartbeats 3200000 in
theorem oawake_any (w : World) (hKc : Consts w) : Calls Tryz.prog 9 #[] w fun e w' => e = .returned (.bool true) ∧ Below w.heap.size w w' := by
  obtain ⟨S, nm, hpub, hn32, hsome⟩ := pub_one
  obtain ⟨bs, htake⟩ := take_ask (most := 5) (each := 5) (life := 10) hsome
  have HPUB := Lib.hid hpub
  have HN32 := Lib.hid hn32
  have HTAKE := Lib.hid htake
  have HKC := Lib.hid hKc
  have hokS : OrgOk 5 5 S := by
    have := (OrgOk.zero (most := 5) (each := 5) (by omega)).pub [[7]] 16
    rw [hpub] at this
    exact this
  have HOK := Lib.hid hokS
  have HZ := Lib.hid (OrgOk.zero (most := 5) (each := 5) (by omega))
  clear hpub hn32 hsome htake hKc hokS
  go_enter Tryz.func9, Tryz.ntmps9
  go_upto_region 4 with (go_at_call 11; refine (ONew_ok 5 5 10 _ (by decide)).mono ?_; rintro e w1 ⟨o, F, rfl, ho1, hf1, hb1⟩; have HO1 := Lib.hid ho1; have HF1 := Lib.hid hf1; have HB1 := Lib.hid hb1; clear ho1 hf1 hb1)
  go_upto_region 5 with (first
    | (go_at_call 12; have hb2 : Below w1.heap.size w1 _ := ((Below.refl _ w1).alloc (Nat.le_refl _) (.cells #[.int .u8 7] 5)).alloc (by simp) (.cells #[.slice (some ⟨w1.heap.size, 0, none⟩) 1 1] 33); refine (OPublish_any o 5 5 10 OrgL.zero F _ [[7]] 16 _ (HO1.out.of_new hb2) HZ.out parts_one19 (by decide) ((HKC.out.of_new HB1.out).of_new hb2)).mono ?_; unfold PubPost; rw [HPUB.out]; rintro e w3 ⟨F3, rfl, ho3, hs3⟩; have HO3 := Lib.hid ho3; have HB3 := Lib.hid (hs3.below (below_next HB1.out hb2) (by have := HB1.out.size; have := hb2.size; omega) HF1.out); have HF3 := Lib.hid (fun k hk => (hs3.own k hk).elim (HF1.out k) (fun h => Nat.le_trans (Nat.le_trans HB1.out.size hb2.size) h)); clear hb2 ho3 hs3)
    | ((with_reducible refine wpList_plain (o := ⟨some 3, Op.alloc _, _, _, _, _⟩) rfl fun K hK => ?_); (refine wp_alloc_dig rfl fun w4 ho4 hb4 hs4 => hK _ _ ?_); have HO4 := Lib.hid ho4; have HB4 := Lib.hid hb4; clear ho4 hb4 hs4)
    | ((with_reducible refine wpList_plain (o := ⟨none, Op.store _ (.tmp 3) (.tmp 23), _, _, _, _⟩) rfl fun K hK => ?_); (refine wp_store_digO (.tmp 3) (.tmp 23) w3.heap.size nm dig0 rfl rfl rfl HN32.out HO4.out fun w5 ho5 hg5 hs5 => hK _ _ ?_); have hb5 := HB4.out.grown hg5 (by have := HB4.out.size; omega) (fun k e => by cases e; exact Nat.le_refl _); have HDG := Lib.hid ho5.at_; have HB5 := Lib.hid hb5; clear ho5 hg5 hs5 hb5))
  obtain ⟨g3, hg3⟩ : ∃ g, w3.heap.size = g := ⟨_, rfl⟩
  rw [hg3] at HDG ⊢
  clear hg3
  have HO5 := Lib.hid (HO3.out.of_new HB5.out)
  have HBW := Lib.hid (below_next HB3.out HB5.out)
  have hT := fun W h1 h2 => OTake_any o 5 5 10 S F3 3 1 (mk0 9 nm) sN 0 W h1 HOK.out (by omega) (by omega) (msgR_0 W 9 HN32.out) (mk0_ok (by unfold inI64; omega)) (by omega) h2
  rw [HTAKE.out] at hT
  have HT := Lib.hid hT
  clear hT
  go_upto_region 6 with (first
    | ((with_reducible refine wpList_plain (o := ⟨some 27, Op.load _ _, _, _, _, _⟩) rfl fun K hK => ?_); (refine wp_load_at (ty := 31) (x := .tmp 3) rfl rfl HDG.out (hK _ _ ?_)))
    | ((with_reducible refine wpList_plain (o := ⟨some 28, Op.build _ _, _, _, _, _⟩) rfl fun K hK => ?_); (refine wp_build_m1 9 nm HN32.out rfl rfl rfl (hK _ _ ?_)))
    | (go_at_call 13; refine (HT.out _ HO5.out (HKC.out.of_new HBW.out)).mono ?_; unfold TakePost; rintro e w6 ⟨F6, s6, rfl, hr6, -, -, hb6, -⟩; have HR6 := Lib.hid hr6; have HB6 := Lib.hid (below_next HBW.out (hb6 (by show (9 : Int) ≠ 6; decide))); clear hr6 hb6)
    | ((with_reducible refine wpList_plain (o := ⟨some 5, Op.alloc _, _, _, _, _⟩) rfl fun K hK => ?_); (refine wp_alloc_msg rfl fun w7 ho7 hb7 hs7 => hK _ _ ?_); have HO7 := Lib.hid ho7.o; have HB7 := Lib.hid hb7; have HR7 := Lib.hid (HR6.out.of_new hb7); clear ho7 hb7 hs7)
    | ((with_reducible refine wpList_plain (o := ⟨none, Op.store _ (.tmp 5) (.tmp 30), _, _, _, _⟩) rfl fun K hK => ?_); (refine wp_store_msg (.tmp 5) (.tmp 30) w6.heap.size _ msgZ s6 sN rfl rfl rfl HR7.out HO7.out fun w8 ho8 hg8 hs8 => hK _ _ ?_); have HO8 := Lib.hid ho8; have HB8 := Lib.hid (below_next HB6.out (HB7.out.grown hg8 (by have := HB7.out.size; omega) (fun k e => by cases e; exact Nat.le_refl _))); clear ho8 hg8 hs8))
  have hk := HO8.out.kind
  rw [show (({ mk0 10 nm with bytes := bs } : MsgL)).kind = 10 from rfl] at hk
  go_wp2
  go_ret
  exact ⟨rfl, HB8.out⟩

end Go.Proofs.YtnohglkilpnjhaaGreatDoor

/- A step of the laws as a value: in a block, at a place, in a slice. No condition. -/
namespace Go.Proofs.YtnohglkilpnjhaaGreatDoor
open Go.RowKit
set_option linter.unusedVariables false
set_option linter.unusedSimpArgs false
set_option maxRecDepth 100000

/-- A step: what to do, how many, from whom, when, the layers' value, the message with its slices' values, the seed. -/
structure S19 where
  act : Int
  n : Int
  frm : Int
  now : Int
  vl : Value
  m : MsgL
  s : MsgS
  seed : Nat
def S19.cells (x : S19) : List Value := [.int .i64 x.act, .int .i64 x.n, .int .i64 x.frm, .int .i64 x.now, x.vl] ++ (msgCells x.m x.s ++ [.int .u64 (x.seed : Int)])
def S19.zero : S19 := ⟨0, 0, 0, 0, .slice none 0 0, msgZ, sN, 0⟩
/-- What lies behind a step's slices. -/
structure S19R (w : World) (x : S19) (ls : List (List UInt8)) : Prop where
  parts : PartsV w x.vl ls
  msg : MsgR w x.m x.s
  ok : x.m.ok
  act : inI64 x.act
  n : inI64 x.n
  frm : inI64 x.frm
  now : inI64 x.now
  seed : x.seed < 18446744073709551616
theorem S19R.of_new {w w' : World} {x : S19} {ls : List (List UInt8)} (h : S19R w x ls) (hb : Below w.heap.size w w') : S19R w' x ls := ⟨h.parts.of_new hb, h.msg.of_new hb, h.ok, h.act, h.n, h.frm, h.now, h.seed⟩
theorem S19.len {x : S19} (h : x.m.hash.length = 32) : x.cells.length = 45 := by simp [S19.cells, msgCells_len h]
/-- A step at a place. -/
def StepAt (w : World) (g off : Nat) (x : S19) : Prop := x.m.hash.length = 32 ∧ g < w.heap.size ∧ ∀ j, j < 45 → w.cell? ⟨g, off + j, none⟩ = x.cells[j]?
theorem StepAt.of_new {w w' : World} {g off : Nat} {x : S19} (h : StepAt w g off x) (hb : Below w.heap.size w w') : StepAt w' g off x := ⟨h.1, Nat.lt_of_lt_of_le h.2.1 hb.size, fun j hj => (hb.cell (p := ⟨g, off + j, none⟩) h.2.1).trans (h.2.2 j hj)⟩
/-- Block g is one. -/
def StepO (w : World) (g : Nat) (x : S19) : Prop := w.heap[g]? = some (.cells x.cells.toArray 40 (0, 0)) ∧ x.m.hash.length = 32
theorem StepO.lt {w : World} {g : Nat} {x : S19} (h : StepO w g x) : g < w.heap.size := (Array.getElem?_eq_some_iff.1 h.1).1
theorem StepO.of_block {w w' : World} {g : Nat} {x : S19} (h : StepO w g x) (e : w'.heap[g]? = w.heap[g]?) : StepO w' g x := ⟨e.trans h.1, h.2⟩
theorem StepO.of_new {w w' : World} {g : Nat} {x : S19} (h : StepO w g x) (hb : Below w.heap.size w w') : StepO w' g x := h.of_block (hb.block _ h.lt)
theorem StepO.at_ {w : World} {g : Nat} {x : S19} (h : StepO w g x) : StepAt w g 0 x := ⟨h.2, h.lt, fun j hj => by simp only [World.cell?, h.1, Nat.zero_add]; simp⟩
theorem info_step : (Tryz.prog.info? 40).map (fun i => (i.zero, i.size, i.bytes)) = some (some (.agg S19.zero.cells.toArray), 45, 216) := by kernel_rfl
theorem StepAt.load {w : World} {g off : Nat} {x : S19} (h : StepAt w g off x) : (loadVar 40 ⟨g, off, none⟩).run Tryz.prog w = .ok (.agg x.cells.toArray) w := by
  obtain ⟨i, hi, hz, hsize, hby⟩ := info_parts info_step
  have hl := run_loadCells_list (P := Tryz.prog) w ⟨g, off, none⟩ x.cells (fun j v hv => by
    have hj : j < 45 := by rw [← S19.len h.1]; exact (List.getElem?_eq_some_iff.1 hv).1
    have hadd : (⟨g, off, none⟩ : Addr).add j = ⟨g, off + j, none⟩ := by unfold Addr.add; split <;> simp_all
    rw [hadd, h.2.2 j hj, hv])
  rw [S19.len h.1] at hl
  have ha : (Go.isAgg 40).run Tryz.prog w = .ok true w := by
    simp only [Go.isAgg, Sem.run_bind, run_underlying Tryz.underlying40, Result.andThen_ok]; rfl
  simp [loadVar, ha, sizeOf, typeInfo, hi, hsize, hl]
theorem StepAt.wp {w : World} {g off : Nat} {x : S19} {o : Oper} {a : Act} {K : Act → World → Prop} {Q : Exit → Act → World → Prop} {p : Operand} (h : StepAt w g off x) (ho : o.op = .load 40 p) (hp : a.eval p = .pointer (some ⟨g, off, none⟩)) (hK : K (a.put o.dst (.agg x.cells.toArray)) w) : o.wp Tryz.prog a w K Q := by
  refine wp_val (v := .agg x.cells.toArray) ?_ hK
  have := h.load
  unfold execOp
  simp only [ho, hp, Instr.loadAt, Instr.sureAddr, Sem.run_bind, Sem.run_pure, Result.andThen_ok, this]

section
variable {w : World} {g off : Nat} {x : S19}
theorem StepAt.c (h : StepAt w g off x) (j : Nat) (hj : j < 45) {u : Value} (hu : x.cells[j]? = some u) : w.cell? ⟨g, off + j, none⟩ = some u := (h.2.2 j hj).trans hu
theorem StepAt.act (h : StepAt w g off x) : w.cell? ⟨g, off, none⟩ = some (.int .i64 x.act) := h.c 0 (by omega) rfl
theorem StepAt.n (h : StepAt w g off x) : w.cell? ⟨g, off + 1, none⟩ = some (.int .i64 x.n) := h.c 1 (by omega) rfl
theorem StepAt.frm (h : StepAt w g off x) : w.cell? ⟨g, off + 2, none⟩ = some (.int .i64 x.frm) := h.c 2 (by omega) rfl
theorem StepAt.now (h : StepAt w g off x) : w.cell? ⟨g, off + 3, none⟩ = some (.int .i64 x.now) := h.c 3 (by omega) rfl
theorem StepAt.vl (h : StepAt w g off x) : w.cell? ⟨g, off + 4, none⟩ = some x.vl := h.c 4 (by omega) rfl
theorem S19.msg_at {x : S19} (h : x.m.hash.length = 32) {j : Nat} (hj : j < 39) : x.cells[5 + j]? = (msgCells x.m x.s)[j]? := by
  unfold S19.cells
  rw [List.getElem?_append_right (by simp)]
  simp only [List.length_cons, List.length_nil, Nat.zero_add, Nat.add_sub_cancel_left]
  rw [List.getElem?_append_left (by rw [msgCells_len h]; exact hj)]
theorem StepAt.msgc (h : StepAt w g off x) {j : Nat} (hj : j < 39) : w.cell? ⟨g, off + (5 + j), none⟩ = (msgCells x.m x.s)[j]? := (h.2.2 (5 + j) (by omega)).trans (S19.msg_at h.1 hj)
theorem StepAt.kind (h : StepAt w g off x) : w.cell? ⟨g, off + 5, none⟩ = some (.int .i64 x.m.kind) := (h.msgc (j := 0) (by omega)).trans rfl
theorem StepAt.hash (h : StepAt w g off x) : DigAt w g (off + 6) x.m.hash := ⟨h.1, fun j hj => by
  have h1 := h.msgc (j := 1 + j) (by omega)
  rw [show off + 6 + j = off + (5 + (1 + j)) by omega, h1]
  show (Value.int .i64 x.m.kind :: (x.m.hash.map B8 ++ _))[1 + j]? = _
  rw [Nat.add_comm 1 j, List.getElem?_cons_succ, List.getElem?_append_left (by simp [h.1]; exact hj)]⟩
theorem StepAt.tail (h : StepAt w g off x) (j : Nat) (hj : j < 6) : w.cell? ⟨g, off + (38 + j), none⟩ = [.int .i64 x.m.piece, x.s.vi, x.s.vb, x.s.vp, x.s.vm, .bool x.m.seed][j]? := by
  have h1 := h.msgc (j := 33 + j) (by omega)
  rw [show 38 + j = 5 + (33 + j) by omega, h1, msgCells_tail h.1]
theorem StepAt.vi (h : StepAt w g off x) : w.cell? ⟨g, off + 39, none⟩ = some x.s.vi := h.tail 1 (by omega)
theorem StepAt.vb (h : StepAt w g off x) : w.cell? ⟨g, off + 40, none⟩ = some x.s.vb := h.tail 2 (by omega)
theorem StepAt.vp (h : StepAt w g off x) : w.cell? ⟨g, off + 41, none⟩ = some x.s.vp := h.tail 3 (by omega)
theorem StepAt.vm (h : StepAt w g off x) : w.cell? ⟨g, off + 42, none⟩ = some x.s.vm := h.tail 4 (by omega)
theorem StepAt.seed (h : StepAt w g off x) : w.cell? ⟨g, off + 44, none⟩ = some (.int .u64 (x.seed : Int)) := by
  refine h.c 44 (by omega) ?_
  unfold S19.cells
  rw [List.getElem?_append_right (by simp)]
  simp only [List.length_cons, List.length_nil, Nat.zero_add]
  rw [List.getElem?_append_right (by rw [msgCells_len h.1]; omega), msgCells_len h.1]
  rfl
end

/-- A slice of steps. -/
def StepsV (w : World) (v : Value) (l : List (S19 × List (List UInt8))) : Prop :=
  ∃ (a : Option Addr) (c : Nat), v = .slice a l.length c ∧ l.length ≤ c ∧ c ≤ maxLen ∧ (∀ p ∈ l, S19R w p.1 p.2) ∧
    (0 < l.length → ∃ b off, a = some ⟨b, off, none⟩ ∧ b < w.heap.size ∧ ∀ i p, l[i]? = some p → StepAt w b (off + i * 45) p.1)
theorem StepsV.of_new {w w' : World} {v : Value} {l : List (S19 × List (List UInt8))} (h : StepsV w v l) (hb : Below w.heap.size w w') : StepsV w' v l := by
  obtain ⟨a, c, h1, h2, h3, h4, h5⟩ := h
  refine ⟨a, c, h1, h2, h3, fun p hp => (h4 p hp).of_new hb, fun h0 => ?_⟩
  obtain ⟨b, off, e, hlt, hat⟩ := h5 h0
  exact ⟨b, off, e, Nat.lt_of_lt_of_le hlt hb.size, fun i p hi => (hat i p hi).of_new hb⟩
theorem StepsV.len {w : World} {v : Value} {l : List (S19 × List (List UInt8))} (h : StepsV w v l) : ∃ a c, v = .slice a l.length c := by
  obtain ⟨a, c, h1, _⟩ := h
  exact ⟨a, c, h1⟩
theorem StepsV.le {w : World} {v : Value} {l : List (S19 × List (List UInt8))} (h : StepsV w v l) : l.length ≤ 9223372036854775807 := by
  obtain ⟨a, c, h1, h2, h3, _⟩ := h
  unfold maxLen at h3
  omega

end Go.Proofs.YtnohglkilpnjhaaGreatDoor

/- The walk of the laws' much. Condition: the steps as they lie. -/
namespace Go.Proofs.YtnohglkilpnjhaaGreatDoor
open Go.RowKit
set_option linter.unusedVariables false
set_option linter.unusedSimpArgs false
set_option maxRecDepth 100000

/-- No step has more layers than it may. -/
def FewSt (l : List (S19 × List (List UInt8))) : Prop := ∀ i p, i < 100 → l[i]? = some p → p.2.length ≤ 20
def MuchPost (l : List (S19 × List (List UInt8))) (w : World) (e : Ending) (w' : World) : Prop := ∃ b, e = .returned (.bool b) ∧ w' = w ∧ (b = false → FewSt l)
set_option maxHeartbeats 6400000 in
theorem much_any (v : Value) (l : List (S19 × List (List UInt8))) (w : World) (hl : StepsV w v l) :
    Calls Tryz.prog 10 #[v] w (MuchPost l w) := by
  have hle := hl.le
  obtain ⟨va, vc, hv, _, _, hall, hat⟩ := hl
  subst hv
  have HALL := Lib.hid hall
  have HAT := Lib.hid hat
  clear hall hat
  obtain ⟨n, hn⟩ : ∃ n, l.length = n := ⟨_, rfl⟩
  rw [hn] at hle HAT ⊢
  have HN := Lib.hid hn
  clear hn
  go_enter Tryz.func10, Tryz.ntmps10
  go_wp2
  go_loopw [3, 4, 5] (fun nv iv _ W' => ∃ i s : Nat, i ≤ n ∧ s ≤ 40000 ∧ nv = .int .i64 (s : Int) ∧ iv = .int .i64 (i : Int) ∧ (∀ j p, j < i → l[j]? = some p → p.2.length ≤ 20) ∧ W' = w) (fun _ iv _ _ => n - (intOf iv).toNat)
  case atStart => exact ⟨0, 0, Nat.zero_le _, by omega, rfl, rfl, (fun j p hj => absurd hj (Nat.not_lt_zero _)), rfl⟩
  case round =>
    obtain ⟨i, s, hi, hs, rfl, rfl, hlow, rfl⟩ := hrel
    have HLOW := Lib.hid hlow
    clear hlow
    by_cases hlt : i < n
    case neg =>
      have hii : ¬ (i : Int) < (n : Int) := by omega
      have hfew : FewSt l := fun j p hj hp => HLOW.out j p (by have := (List.getElem?_eq_some_iff.1 hp).1; rw [HN.out] at this; omega) hp
      have HF := Lib.hid hfew
      clear hfew
      go_wp2
      go_ret
      exact ⟨_, rfl, rfl, fun _ => HF.out⟩
    have hii : (i : Int) < (n : Int) := by omega
    by_cases h100 : i < 100
    case neg =>
      have h1i : ¬ (i : Int) < 100 := by omega
      have hfew : FewSt l := fun j p hj hp => HLOW.out j p (by omega) hp
      have HF := Lib.hid hfew
      clear hfew
      go_wp2
      go_ret
      exact ⟨_, rfl, rfl, fun _ => HF.out⟩
    have h1i : (i : Int) < 100 := by omega
    obtain ⟨b, off, rfl, hbl, hst⟩ := HAT.out (by omega)
    obtain ⟨p, hp⟩ : ∃ p, l[i]? = some p := ⟨_, List.getElem?_eq_getElem (by rw [HN.out]; exact hlt)⟩
    have hs19 := HALL.out p (List.mem_of_getElem? hp)
    have hat := hst i p hp
    obtain ⟨la, lc, hlv⟩ := hs19.parts.len
    obtain ⟨ia, ic, hiv⟩ := hs19.msg.ids.len
    obtain ⟨ba, bc, hbv⟩ := hs19.msg.bytes.len
    obtain ⟨pa, pc, hpv⟩ := hs19.msg.proof.len
    obtain ⟨ma, mc, hmv⟩ := hs19.msg.members.len
    have c4 := hat.vl
    have c39 := hat.vi
    have c40 := hat.vb
    have c41 := hat.vp
    have c42 := hat.vm
    have hpt := hs19.parts
    rw [hlv] at c4 hpt
    rw [hiv] at c39
    rw [hbv] at c40
    rw [hpv] at c41
    rw [hmv] at c42
    obtain ⟨nI, hnI⟩ : ∃ k, p.1.m.ids.length = k := ⟨_, rfl⟩
    obtain ⟨nB, hnB⟩ : ∃ k, p.1.m.bytes.length = k := ⟨_, rfl⟩
    obtain ⟨nP, hnP⟩ : ∃ k, p.1.m.proof.length = k := ⟨_, rfl⟩
    obtain ⟨nM, hnM⟩ : ∃ k, p.1.m.members.length = k := ⟨_, rfl⟩
    obtain ⟨nL, hnL⟩ : ∃ k, p.2.length = k := ⟨_, rfl⟩
    rw [hnI] at c39
    rw [hnB] at c40
    rw [hnP] at c41
    rw [hnM] at c42
    rw [hnL] at c4 hpt
    have HNL := Lib.hid hnL
    have HP := Lib.hid hp
    have HPT := Lib.hid hpt
    clear hs19 hat hlv hiv hbv hpv hmv hnI hnB hnP hnM hnL hp hst hpt
    by_cases t1 : (20 : Int) < (nL : Int)
    · go_wp2
      go_ret
      exact ⟨true, rfl, rfl, fun h => by cases h⟩
    by_cases t2 : (20000 : Int) < (nB : Int)
    · go_wp2
      go_ret
      exact ⟨true, rfl, rfl, fun h => by cases h⟩
    by_cases t3 : (200 : Int) < (nI : Int)
    · go_wp2
      go_ret
      exact ⟨true, rfl, rfl, fun h => by cases h⟩
    by_cases t4 : (50 : Int) < (nP : Int)
    · go_wp2
      go_ret
      exact ⟨true, rfl, rfl, fun h => by cases h⟩
    by_cases t5 : (200 : Int) < (nM : Int)
    · go_wp2
      go_ret
      exact ⟨true, rfl, rfl, fun h => by cases h⟩
    go_wp2
    clear t2 t3 t4 t5 c39 c40 c41 c42
    go_loopw [3, 5] (fun nv kv W' => ∃ k s : Nat, k ≤ nL ∧ s ≤ 40000 ∧ nv = .int .i64 (s : Int) ∧ kv = .int .i64 (k : Int) ∧ W' = wr) (fun _ kv _ => nL - (intOf kv).toNat)
    case atStart => exact ⟨0, s, Nat.zero_le _, hs, rfl, rfl, rfl⟩
    case round =>
      obtain ⟨k, s2, hk, hs2, rfl, rfl, rfl⟩ := hrel
      by_cases hkl : k < nL
      · have hkk : (k : Int) < (nL : Int) := by omega
        obtain ⟨qb, qoff, qc, hqv, hqb, hqat⟩ := HPT.out.at_ (by rw [HNL.out]; omega)
        rw [HNL.out] at hqv hqat
        obtain ⟨rfl, rfl⟩ : la = some ⟨qb, qoff, none⟩ ∧ lc = qc := by cases hqv; exact ⟨rfl, rfl⟩
        obtain ⟨ua, uc, hcell, hub⟩ := hqat k hkl
        obtain ⟨nb, hnb⟩ : ∃ q, (p.2.getD k []).length = q := ⟨_, rfl⟩
        rw [hnb] at hcell
        clear hqv hqat hub hnb
        by_cases t6 : (3000 : Int) < (nb : Int)
        · go_wp2
          go_ret
          exact ⟨true, rfl, rfl, fun h => by cases h⟩
        by_cases t7 : (30000 : Int) < (s2 : Int)
        · go_wp2
          go_ret
          exact ⟨true, rfl, rfl, fun h => by cases h⟩
        go_wp2
        go_roundw
        case rel => exact ⟨k + 1, s2 + nb, by omega, by omega, by go_num, by go_num, by first | trivial | rfl⟩
        case measure => simp [intOf]; omega
      · obtain rfl : k = nL := by omega
        have hkk : ¬ (k : Int) < (k : Int) := by omega
        go_wp2
        go_roundw
        case rel =>
          refine ⟨i + 1, s2, by omega, hs2, by go_num, by go_num, fun j q hj hq => ?_, by first | trivial | rfl⟩
          rcases Nat.lt_or_ge j i with h | h
          · exact HLOW.out j q h hq
          · obtain rfl : j = i := by omega
            rw [HP.out] at hq
            cases hq
            rw [HNL.out]; omega
        case measure => simp [intOf]; omega

end Go.Proofs.YtnohglkilpnjhaaGreatDoor

/- An origin alone, as it goes on from call to call; a law step's cells. No condition. -/
namespace Go.Proofs.YtnohglkilpnjhaaGreatDoor
open Go.RowKit
set_option linter.unusedVariables false
set_option linter.unusedSimpArgs false
set_option maxRecDepth 100000

/-- An origin alone. -/
structure OneI (W : World) (o : Nat) (most each life : Int) (S : OrgL) (F : Nat → Prop) (w : World) : Prop where
  org : OrgP w o most each life S F
  ok : OrgOk most each S
  own : ∀ k, F k → W.heap.size ≤ k
  below : Below W.heap.size W w
section
variable {W w w' : World} {o : Nat} {most each life : Int} {S S' : OrgL} {F F' : Nat → Prop}
theorem OneI.new (h : OneI W o most each life S F w) (hb : Below w.heap.size w w') : OneI W o most each life S F w' := ⟨h.org.of_new hb, h.ok, h.own, below_next h.below hb⟩
theorem OneI.step (h : OneI W o most each life S F w) (ho : OrgP w' o most each life S' F') (hk : OrgOk most each S') (hs : OStep F F' w w') : OneI W o most each life S' F' w' :=
  ⟨ho, hk, fun k hf => (hs.own k hf).elim (h.own k) (fun e => Nat.le_trans h.below.size e), hs.below h.below h.below.size h.own⟩
theorem OneI.block (hs : OStep F F' w w') (hO : OrgP w o most each life S F) {cur : Array Value} {ty : TypeId} {f : Nat × Nat} {g : Nat} (he : w.heap[g]? = some (.cells cur ty f)) : w'.heap[g]? = w.heap[g]? :=
  hs.kept.block g (Array.getElem?_eq_some_iff.1 he).1 fun hf => hO.cells_ne hf he
end

end Go.Proofs.YtnohglkilpnjhaaGreatDoor

/- The plain law of OriginNames: what was published is there, and is told, whatever is published behind. No condition. -/
namespace Go.Proofs.YtnohglkilpnjhaaGreatDoor
open Go.RowKit
set_option linter.unusedVariables false
set_option linter.unusedSimpArgs false

theorem pub_keeps {S : OrgL} {nm : List UInt8} {xs : List BlobL} (h : imgAt S nm = some xs) (ls : List (List UInt8)) (k : Int) : imgAt (pubL S ls k).1 nm = some xs := by
  unfold pubL
  split
  · split
    · split
      · exact h
      · split
        · exact h
        · unfold imgAt at h ⊢
          obtain ⟨p, hp, rfl⟩ := Option.map_eq_some_iff.1 h
          show Option.map _ (List.find? _ (S.imgs ++ _)) = _
          rw [List.find?_append, hp]
          rfl
    · exact h
  · exact h
theorem pub_there {S : OrgL} {ls : List (List UInt8)} {k : Int} (h : (pubL S ls k).2.2 = 0) : (imgAt (pubL S ls k).1 (pubL S ls k).2.1).isSome = true := by
  unfold pubL at h ⊢
  split
  · rename_i h1
    rw [if_pos h1] at h
    split
    · rename_i h2
      rw [if_pos h2] at h
      split
      · rename_i h3
        exact h3
      · rename_i h3
        rw [if_neg h3] at h
        split
        · rename_i h4
          rw [if_pos h4] at h
          exact absurd (show (3 : Int) = 0 from h) (by decide)
        · unfold imgAt
          rw [Option.isSome_map, List.find?_isSome]
          exact ⟨_, List.mem_append_right _ (List.mem_singleton.2 rfl), by simp⟩
    · rename_i h2
      rw [if_neg h2] at h
      exact absurd h h2
  · rename_i h1
    rw [if_neg h1] at h
    exact absurd (show (1 : Int) = 0 from h) (by decide)
theorem pub_name32 (S : OrgL) (ls : List (List UInt8)) (k : Int) : (pubL S ls k).2.1.length = 32 := by
  unfold pubL
  repeat' split
  all_goals first
    | rfl
    | exact nameL_len _
theorem pub_keeps' {S : OrgL} {nm : List UInt8} (h : (imgAt S nm).isSome = true) (ls : List (List UInt8)) (k : Int) : (imgAt (pubL S ls k).1 nm).isSome = true := by
  obtain ⟨xs, hx⟩ := Option.isSome_iff_exists.1 h
  rw [pub_keeps hx ls k]; rfl
/-- The image that is there, and what is told of it. -/
theorem there {most each : Int} {S : OrgL} (hk : OrgOk most each S) {nm : List UInt8} {xs : List BlobL} (h : imgAt S nm = some xs) : nameL xs = nm ∧ imageE xs = 0 ∧ (∀ x ∈ xs, x.ok) ∧ ∃ bs, encG xs = some bs ∧ tellL S nm = { mk0 10 nm with bytes := bs } := by
  have hi := hk.imgs _ (imgAt_mem h)
  obtain ⟨h1, _⟩ := encG_some hi.image hi.ok
  refine ⟨hi.name, hi.image, hi.ok, _, h1, ?_⟩
  have h1 : encG xs = some (flatB (imgIts xs)) := h1
  unfold tellL
  rw [h]
  dsimp only
  rw [h1]; rfl
theorem take_ask_ok {S : OrgL} {most each life : Int} {nm : List UInt8} : takeO S most each life 9 0 (mk0 9 nm) 0 = (S, tellL S nm, true, 0) := by
  have hr : wrightB (mk0 9 nm) = true := by
    rw [wrightB_eq]
    simp [itemB, hasL, mk0, fitsB, bareB]
  have hok : takeOk 9 0 (mk0 9 nm) = true := by
    unfold takeOk
    rw [hr]; rfl
  unfold takeO
  rw [if_pos hok, if_pos (show (mk0 9 nm).kind = 9 from rfl)]
  rfl

end Go.Proofs.YtnohglkilpnjhaaGreatDoor

/- The walk of the law OriginNames: it answers true. Condition: the table of the hash's constants. -/
namespace Go.Proofs.YtnohglkilpnjhaaGreatDoor
open Go.RowKit
set_option linter.unusedVariables false
set_option linter.unusedSimpArgs false
set_option maxRecDepth 100000

/-- Ahead of each publishing: the names so far are a row of the call's own, that lies apart from the origin. -/
structure NamesI (W : World) (o : Nat) (S : OrgL) (F : Nat → Prop) (nv : Value) (nm : List (List UInt8)) (w : World) : Prop where
  org : OrgX w o 5 5 10 S F (fun k => nv.ownBlock = some k)
  ok : OrgOk 5 5 S
  own : ∀ k, F k → W.heap.size ≤ k
  names : OwnD w W.heap.size nv nm
  there : ∀ d ∈ nm, (imgAt S d).isSome = true
  below : Below W.heap.size W w
section
variable {W w w' : World} {o : Nat} {S : OrgL} {F F' : Nat → Prop} {nv nv' : Value} {nm : List (List UInt8)}
theorem NamesI.new (h : NamesI W o S F nv nm w) (hb : Below w.heap.size w w') : NamesI W o S F nv nm w' := ⟨h.org.of_new hb, h.ok, h.own, h.names.of_new hb, h.there, below_next h.below hb⟩
theorem NamesI.pub (h : NamesI W o S F nv nm w) (ls : List (List UInt8)) (k : Int) (ho : OrgX w' o 5 5 10 (pubL S ls k).1 F' (fun k => nv.ownBlock = some k)) (hs : OStep F F' w w') : NamesI W o (pubL S ls k).1 F' nv nm w' :=
  ⟨ho, h.ok.pub ls k, fun k hf => (hs.own k hf).elim (h.own k) (fun e => Nat.le_trans h.below.size e), h.names.kept (U := fun _ => True) fun k hk => by
    obtain ⟨cur, hc⟩ := ownsRow_block h.names.2 hk
    exact OneI.block hs h.org.org hc, fun d hd => pub_keeps' (h.there d hd) ls k, hs.below h.below h.below.size h.own⟩
theorem NamesI.app {d : List UInt8} (h : NamesI W o S F nv nm w) (hv : OwnD w' W.heap.size nv' (nm ++ [d])) (hg : w.grownBy w' nv.ownBlock) (hn : ∀ k, nv'.ownBlock = some k → nv.ownBlock = some k ∨ w.heap.size ≤ k) (hd : (imgAt S d).isSome = true) : NamesI W o S F nv' (nm ++ [d]) w' :=
  ⟨h.org.row h.names hg hn, h.ok, h.own, hv, fun e he => by
    rcases List.mem_append.1 he with he | he
    · exact h.there e he
    · rw [List.mem_singleton.1 he]; exact hd, h.below.grown hg h.below.size (fun k e => (h.names.lt k e).1)⟩
end

set_option maxHeartbeats 6400000 in
theorem OriginNames_walk (v : Value) (l : List (S19 × List (List UInt8))) (w : World) (hl : StepsV w v l) (hKc : Consts w) :
    Calls Tryz.prog 4 #[v] w fun e w' => e = .returned (.bool true) ∧ Below w.heap.size w w' := by
  have hle := hl.le
  have HL := Lib.hid hl
  obtain ⟨va, vc, hv, _, _, hall, hat⟩ := hl
  subst hv
  have HALL := Lib.hid hall
  have HAT := Lib.hid hat
  have HKC := Lib.hid hKc
  clear hall hat hKc
  go_enter Tryz.func4, Tryz.ntmps4
  go_upto_region 2 with (go_at_call 9; refine (oawake_any _ HKC.out).mono ?_; rintro e w1 ⟨rfl, hb1⟩; have HB1 := Lib.hid hb1; clear hb1)
  go_upto_region 3 with (go_at_call 10; refine (much_any _ l _ (HL.out.of_new HB1.out)).mono ?_; unfold MuchPost; rintro e w2 ⟨many, rfl, rfl, hfew⟩; have HFEW := Lib.hid hfew; clear hfew)
  go_upto_region 4 with (go_at_call 11; refine (ONew_ok 5 5 10 _ (by decide)).mono ?_; rintro e w3 ⟨o, F, rfl, ho3, hf3, hb3⟩; have HI3 := Lib.hid (show NamesI w o OrgL.zero F (.slice none 0 0) [] w3 from ⟨ho3.orgX (fun k _ h => by cases h), OrgOk.zero (by omega), fun k hk => Nat.le_trans HB1.out.size (hf3 k hk), OwnD.nil _ _, (fun d hd => by cases hd), below_next HB1.out hb3⟩); clear ho3 hf3 hb3)
  cases many with
  | true =>
    go_wp2
    go_ret
    exact ⟨rfl, HI3.out.below⟩
  | false =>
    have HFW0 := Lib.hid (HFEW.out rfl)
    clear HFEW
    obtain ⟨n, hn⟩ : ∃ n, l.length = n := ⟨_, rfl⟩
    rw [hn] at hle HAT ⊢
    have HN := Lib.hid hn
    clear hn
    go_wp2
    go_loopw [7, 8, 9, 10] (fun qv iv _ _ W' => ∃ (i : Nat) (S : OrgL) (F : Nat → Prop) (nm : List (List UInt8)) (nv : Value), i ≤ n ∧ i ≤ 30 ∧ iv = .int .i64 (i : Int) ∧ qv = nv ∧ nm.length ≤ i ∧ NamesI w o S F nv nm W') (fun _ iv _ _ _ => n - (intOf iv).toNat)
    case atStart => exact ⟨0, OrgL.zero, F, [], _, Nat.zero_le _, Nat.zero_le _, rfl, rfl, Nat.le_refl _, HI3.out⟩
    case round =>
      rename World => w5
      obtain ⟨i, S, F5, nm, nv, hi, hi30, rfl, rfl, hnl, hI⟩ := hrel
      obtain ⟨na, nc, hnv⟩ := hI.names.digs.len
      subst hnv
      have HI5 := Lib.hid hI
      have HNL := Lib.hid hnl
      clear hI hnl
      have hcase : (¬ (i : Int) < (n : Int)) ∨ ((i : Int) < (n : Int) ∧ ¬ (i : Int) < 30) ∨ ((i : Int) < (n : Int) ∧ (i : Int) < 30) := by omega
      rcases hcase with q1 | ⟨q1, q2⟩ | ⟨q1, q2⟩
      case inr.inr =>
        obtain ⟨b, off, rfl, hbl, hst⟩ := HAT.out (by omega)
        obtain ⟨⟨x, ls⟩, hp⟩ : ∃ p, l[i]? = some p := ⟨_, List.getElem?_eq_getElem (by rw [HN.out]; omega)⟩
        have hs19 := HALL.out _ (List.mem_of_getElem? hp)
        have hfw : ls.length ≤ 20 := HFW0.out i _ (by omega) hp
        have hax := hst i _ hp
        have HX := Lib.hid hs19
        have HFW := Lib.hid hfw
        have c1 := fun w' (h : Grew w w') => Grew.cell h hax.vl
        have c2 := fun w' (h : Grew w w') => Grew.cell h hax.n
        clear hbl hst hp hs19 hfw hax
        go_upto_region 10 with (fail)
        refine (wpIn_wide (n := 5)).1 ?_
        refine wpIn_region_stepsW (ro := none) (Grew w) [12, 13, 14, 16, 17] [0, 1, 2, 3, 4, 5, 6, 7, 8, 9, 10] 7 (by kernel_rfl) (by kernel_rfl) (below_next HI5.out.below (Grew.start _)) (fun c a d v w h => by cases d <;> exact h) ?_
        simp only [opsAt, List.flatMap_cons, List.flatMap_nil, List.getElem?_cons_zero, List.getElem?_cons_succ, Option.toList_some, List.cons_append, List.nil_append]
        go_simp
        obtain ⟨w6, hw6⟩ : ∃ w6, w5.drew = w6 := ⟨_, rfl⟩
        have HI6 := Lib.hid (show NamesI w o S F5 (.slice na nm.length nc) nm w6 from HI5.out.new (by rw [← hw6]; exact Grew.start w5))
        rw [hw6]
        clear hw6
        repeat (first
          | (go_big_quiet_want; (with_reducible apply quiet_load_at (ty := 31) (x := .tmp _)); rfl; rfl; assumption; go_simp; go_big_quiet_on)
          | (go_big_quiet_want; apply quiet_val; (intro w' hw'; go_simp; first | done | rfl); go_simp; go_big_quiet_on)
          | (go_big_quiet_skip))
        refine wpQuiet_nil ?_
        clear c1 c2
        have hP := fun (X : Nat → Prop) W' h1 h2 h3 h4 => OPublish_X o 5 5 10 S F5 X x.vl ls x.n W' h1 h2 HI6.out.ok h3 (by have := HFW.out; omega) h4
        have h32 := pub_name32 S ls x.n
        have hth := pub_there (S := S) (ls := ls) (k := x.n)
        have hpb := fun {w1 w2 : World} {F F' : Nat → Prop} {nv : Value} {nm : List (List UInt8)} (h : NamesI w o S F nv nm w1) ho hs => NamesI.pub (F' := F') (w' := w2) h ls x.n ho hs
        obtain ⟨⟨S', d, er⟩, hq⟩ : ∃ q, pubL S ls x.n = q := ⟨_, rfl⟩
        rw [hq] at h32 hth
        simp only [hq] at hP hpb
        have HP := Lib.hid hP
        have H32 := Lib.hid h32
        have HTH := Lib.hid hth
        clear hP h32 hth hq
        refine wpAnyS_two (by kernel_rfl) 11 15 rfl rfl rfl rfl (by kernel_rfl) ?first ?second
        case' first =>
          unfold StepS
          refine (wp_enter (f := 12) (args := #[.pointer (some ⟨o, 0, none⟩), x.vl, .int .i64 x.n]) (by go_simp <;> rfl) (HP.out _ w6 HI6.out.org (fun k hk => (HI6.out.names.lt k hk).2) (HX.out.parts.of_new HI6.out.below) (HKC.out.of_new HI6.out.below)) ?_)
          unfold PubPostX
          rintro e w7 ⟨F7, rfl, ho7, hs7⟩
          have HI7 := Lib.hid (hpb HI6.out ho7 hs7)
          clear ho7 hs7 hpb
          refine ⟨_, rfl, HI7.out.below, ?_⟩
          refine wpAnyS_pure (by kernel_rfl) (by kernel_rfl) (fun c a d v w h => by cases d <;> exact h) 12 rfl (by kernel_rfl) ?_
          apply quiet_val
          · intro w' hw'; go_simp; first | done | rfl
          go_simp
          refine wpAnyS_pure (by kernel_rfl) (by kernel_rfl) (fun c a d v w h => by cases d <;> exact h) 13 rfl (by kernel_rfl) ?_
          apply quiet_val
          · intro w' hw'; go_simp; first | done | rfl
          go_simp
          refine wpAnyS_pure (by kernel_rfl) (by kernel_rfl) (fun c a d v w h => by cases d <;> exact h) 14 rfl (by kernel_rfl) ?_
          apply quiet_val
          · intro w' hw'; go_simp; first | done | rfl
          go_simp
          refine wpAnyS_one (by kernel_rfl) 15 rfl rfl (by kernel_rfl) ?_
          unfold StepS
          refine wp_alloc_dig rfl fun w8 ho8 hb8 hs8 => ?_
          have HO8 := Lib.hid ho8
          have HB8 := Lib.hid hb8
          refine ⟨below_next HI7.out.below hb8, ?_⟩
          clear ho8 hb8 hs8
          refine wpAnyS_restI (fun _ _ => trivial) [16, 17] _ _ _ (by decide) (by kernel_rfl) ?_
          simp only [opsAt, List.flatMap_cons, List.flatMap_nil, List.getElem?_cons_zero, List.getElem?_cons_succ, Option.toList_some, List.cons_append, List.nil_append]
          refine wpListIn_of_wp (ro := none) rfl (fun c hc => by cases hc) (wp_store_digO (.tmp 9) (.tmp 70) w7.heap.size d dig0 rfl rfl rfl H32.out HO8.out ?_)
          intro w9 ho9 hg9 hs9
          have hb9 := HB8.out.grown hg9 HB8.out.size (fun k e => by cases e; exact Nat.le_refl _)
          have HI9 := Lib.hid (HI7.out.new hb9)
          have HO9 := Lib.hid ho9
          obtain ⟨g, hg⟩ : ∃ g, w7.heap.size = g := ⟨_, rfl⟩
          rw [hg] at HO9 ⊢
          clear hg ho9 hg9 hs9 hb9 HO8 HB8
        case' second =>
          unfold StepS
          refine wp_alloc_dig rfl fun w7 ho7 hb7 hs7 => ?_
          have HO7 := Lib.hid ho7
          have hx7 : OrgX w7 o 5 5 10 S F5 (fun k => (Value.slice na nm.length nc).ownBlock = some k ∨ k = w6.heap.size) := (HI6.out.org.more (fun k hk => hk.imp id fun e => by omega)).of_new hb7
          have HX7 := Lib.hid hx7
          have HI7 := Lib.hid (HI6.out.new hb7)
          have hxl : ∀ k, (Value.slice na nm.length nc).ownBlock = some k ∨ k = w6.heap.size → k < w7.heap.size := fun k hk => hk.elim (fun h => (HI7.out.names.lt k h).2) (fun h => by omega)
          refine ⟨HI7.out.below, ?_⟩
          obtain ⟨g, hg⟩ : ∃ g, w6.heap.size = g := ⟨_, rfl⟩
          have HGE := Lib.hid (show w.heap.size ≤ g by rw [← hg]; exact HI6.out.below.size)
          have HNE := Lib.hid (show ∀ k, (Value.slice na nm.length nc).ownBlock = some k → k ≠ g from fun k hk e => by have := (HI6.out.names.lt k hk).2; omega)
          rw [hg] at HO7 HX7 hxl ⊢
          have HXL := Lib.hid hxl
          clear hg ho7 hb7 hs7 hx7 hxl
          refine wpAnyS_one (by kernel_rfl) 11 rfl rfl (by kernel_rfl) ?_
          unfold StepS
          refine (wp_enter (f := 12) (args := #[.pointer (some ⟨o, 0, none⟩), x.vl, .int .i64 x.n]) (by go_simp <;> rfl) (HP.out _ w7 HX7.out HXL.out (HX.out.parts.of_new HI7.out.below) (HKC.out.of_new HI7.out.below)) ?_)
          unfold PubPostX
          rintro e w8 ⟨F7, rfl, ho8, hs8⟩
          have HI8 := Lib.hid (hpb HI7.out (ho8.mono fun k hk => .inl hk) hs8)
          have HX8 := Lib.hid ho8
          have HO8 := Lib.hid (show DigO w8 g dig0 from ⟨(OneI.block hs8 HX7.out.org HO7.out.1).trans HO7.out.1, HO7.out.2⟩)
          clear ho8 hs8 hpb
          refine ⟨_, rfl, HI8.out.below, ?_⟩
          refine wpAnyS_pure (by kernel_rfl) (by kernel_rfl) (fun c a d v w h => by cases d <;> exact h) 12 rfl (by kernel_rfl) ?_
          apply quiet_val
          · intro w' hw'; go_simp; first | done | rfl
          go_simp
          refine wpAnyS_pure (by kernel_rfl) (by kernel_rfl) (fun c a d v w h => by cases d <;> exact h) 13 rfl (by kernel_rfl) ?_
          apply quiet_val
          · intro w' hw'; go_simp; first | done | rfl
          go_simp
          refine wpAnyS_pure (by kernel_rfl) (by kernel_rfl) (fun c a d v w h => by cases d <;> exact h) 14 rfl (by kernel_rfl) ?_
          apply quiet_val
          · intro w' hw'; go_simp; first | done | rfl
          go_simp
          refine wpAnyS_restI (fun _ _ => trivial) [16, 17] _ _ _ (by decide) (by kernel_rfl) ?_
          simp only [opsAt, List.flatMap_cons, List.flatMap_nil, List.getElem?_cons_zero, List.getElem?_cons_succ, Option.toList_some, List.cons_append, List.nil_append]
          refine wpListIn_of_wp (ro := none) rfl (fun c hc => by cases hc) (wp_store_digO (.tmp 9) (.tmp 70) g d dig0 rfl rfl rfl H32.out HO8.out ?_)
          intro w9 ho9 hg9 hs9
          have HO9 := Lib.hid ho9
          have HI9 := Lib.hid (show NamesI w o S' F7 (.slice na nm.length nc) nm w9 from ⟨(HX8.out.put hg9 (.inr rfl) HO8.out).mono (fun k hk => .inl hk), HI8.out.ok, HI8.out.own, HI8.out.names.kept (U := fun _ => True) (fun k hk => hg9.block k (HI8.out.names.lt k hk).2 (fun e => by cases e; exact HNE.out _ hk rfl)), HI8.out.there, HI8.out.below.grown hg9 HI8.out.below.size (fun k e => by cases e; exact HGE.out)⟩)
          clear ho9 hg9 hs9 HX8 HO8 HI8 HX7 HI7 HXL
        all_goals
          simp only [Act.put]
          rw [wF_none]
          gi_wp2
          by_cases her : er = 0
          · have HT9 := Lib.hid (HTH.out her)
            subst her
            have hl30 : nm.length ≤ 30 := by have := HNL.out; omega
            go_wp2_with (first
              | ((with_reducible refine wpList_plain (o := ⟨some 75, Op.load 31 _, _, _, _, _⟩) rfl fun K' hK' => ?_); (refine wp_load_at (ty := 31) (x := .tmp 9) rfl rfl HO9.out.at_ (hK' _ _ ?_)))
              | ((with_reducible refine wpList_plain (o := ⟨some 76, _, _, _, _, _⟩) rfl fun K' hK' => ?_); refine wp_buildDigs 1 _ [d] rfl rfl (by simp) (by simp) (by intro q hq; simp at hq; rw [hq]; exact H32.out) (by simp only [List.map_toArray, List.map_cons, List.map_nil]; rfl) ?_; intro wa hoa hba hsa; refine hK' _ _ ?_; have HOA := Lib.hid hoa.digs; have HIA := Lib.hid (HI9.out.new hba); clear hoa hba hK')
              | ((with_reducible refine wpList_plain (o := ⟨some 77, _, _, _, _, _⟩) rfl fun K' hK' => ?_); refine wp_appD (.tmp 74) (.tmp 76) rfl w.heap.size _ nm rfl HIA.out.names _ [d] rfl HOA.out (by simp; omega) HIA.out.below.size ?_; intro v6 wb hob hgb hub; refine hK' _ _ ?_; have HIB := Lib.hid (HIA.out.app hob hgb hub HT9.out); clear hob hgb hub hK'))
            go_roundw
            case rel => exact ⟨i + 1, _, _, _, _, by omega, by omega, by go_num, rfl, by have := HNL.out; simp; omega, HIB.out⟩
            case measure => simp [intOf]; omega
          · have t1 : (er == 0) = false := beq_eq_false_iff_ne.2 her
            go_wp2
            go_roundw
            case rel => exact ⟨i + 1, _, _, _, _, by omega, by omega, by go_num, rfl, by have := HNL.out; omega, HI9.out⟩
            case measure => simp [intOf]; omega
      all_goals
        obtain ⟨N, hN⟩ : ∃ N, nm.length = N := ⟨_, rfl⟩
        have hN30 : N ≤ 30 := by have := HNL.out; omega
        have HNN := Lib.hid hN
        rw [hN]
        clear hN
        go_wp2
        go_loopw [11, 12, 13, 14, 15, 16, 17, 18, 19, 20, 21] (fun iv _ _ _ _ _ _ _ _ _ _ W' => ∃ j : Nat, j ≤ N ∧ iv = .int .i64 (j : Int) ∧ Below w5.heap.size w5 W') (fun iv _ _ _ _ _ _ _ _ _ _ _ => N - (intOf iv).toNat)
        case atStart => exact ⟨0, Nat.zero_le _, rfl, Below.refl _ _⟩
        case round =>
          rename World => w6
          obtain ⟨j, hj, rfl, hb6⟩ := hrel
          have HB6 := Lib.hid hb6
          clear hb6
          by_cases hlt : j < N
          case neg =>
            have hjj : ¬ (j : Int) < (N : Int) := by omega
            go_wp2
            go_ret
            exact ⟨rfl, below_next HI5.out.below HB6.out⟩
          have hjj : (j : Int) < (N : Int) := by omega
          have HI6 := Lib.hid (HI5.out.new HB6.out)
          obtain ⟨db, doff, dc, hv, hdl, hdat⟩ := HI6.out.names.digs.at_ (by rw [HNN.out]; omega)
          rw [HNN.out] at hv
          obtain ⟨rfl, rfl⟩ : na = some ⟨db, doff, none⟩ ∧ nc = dc := by cases hv; exact ⟨rfl, rfl⟩
          obtain ⟨d, hd⟩ : ∃ d, nm[j]? = some d := ⟨_, List.getElem?_eq_getElem (by rw [HNN.out]; exact hlt)⟩
          have hdg := HI6.out.names.digs.digAt (i := j) (by rw [HNN.out]; exact hlt)
          rw [show nm.getD j [] = d by simp [List.getD, hd]] at hdg
          have hd32 : d.length = 32 := hdg.1
          obtain ⟨xs, hxs⟩ := Option.isSome_iff_exists.1 (HI6.out.there d (List.mem_of_getElem? hd))
          obtain ⟨hnm, him, hok, bs, henc, htell⟩ := there HI6.out.ok hxs
          have hce : encGE xs = 0 := by
            unfold encGE
            unfold encG at henc
            rw [if_pos him] at henc ⊢
            rw [henc]; rfl
          have hrd : rimgD bs = some xs := by rw [rimgD_eq]; exact imgD_iff.2 ⟨henc, hok⟩
          have hlen16 : xs.length ≤ 16 := (image_few him).2
          have hIM := fun W' h1 => OImage_any o 5 5 10 S F5 d W' h1 HI6.out.ok hd32
          rw [hxs] at hIM
          simp only [Option.isSome_some, Option.getD_some] at hIM
          have hNM := fun u W h hK => RName_any u xs W h hK
          unfold NamePost at hNM
          rw [hce, hnm] at hNM
          have hTK := fun W' h1 h2 => OTake_any o 5 5 10 S F5 9 0 (mk0 9 d) sN 0 W' h1 HI6.out.ok (by omega) (by omega) (msgR_0 W' 9 hd32) (mk0_ok (by unfold inI64; omega)) (by omega) h2
          rw [take_ask_ok, htell] at hTK
          have hDC := fun u W h => RDecImg_any u bs W h
          unfold ImgDPost at hDC
          rw [hrd] at hDC
          simp only [Option.isSome_some, Option.getD_some, if_true] at hDC
          have HIM := Lib.hid hIM
          have HNM := Lib.hid hNM
          have HTK := Lib.hid hTK
          have HDC := Lib.hid hDC
          have HDG := Lib.hid hdg
          have HD32 := Lib.hid hd32
          clear hv hdl hdat hd hdg hd32 hxs hnm him hok henc htell hce hrd hIM hNM hTK hDC
          go_upto_region 17 with (first
            | ((with_reducible refine wpList_plain (o := ⟨some 89, Op.load 31 _, _, _, _, _⟩) rfl fun K' hK' => ?_); (refine wp_load_at (ty := 31) (x := .tmp 88) rfl rfl HDG.out (hK' _ _ ?_)))
            | (go_at_call 17; refine (HIM.out _ HI6.out.org.org).mono ?_; rintro e w7 ⟨xv, rfl, hx7, hb7⟩; obtain ⟨xa, xc, hxv⟩ := hx7.row.len; subst hxv; have HX7 := Lib.hid hx7.row; have HB7 := Lib.hid hb7; clear hx7 hb7)
            | ((with_reducible refine wpList_plain (o := ⟨some 12, Op.alloc _, _, _, _, _⟩) rfl fun K hK => ?_); (refine RImg.wp_alloc rfl fun w8 ho8 hb8 hs8 => hK _ _ ?_); have HO8 := Lib.hid ho8; have HB8 := Lib.hid hb8; clear ho8 hb8 hs8)
            | ((with_reducible refine wpList_plain (o := ⟨none, Op.store _ (.tmp 12) (.tmp 91), _, _, _, _⟩) rfl fun K hK => ?_); (refine HO8.out.store (.tmp 12) (.tmp 91) rfl rfl rfl (show RImg.ok (.slice xa xs.length xc) from rfl) fun w9 ho9 hg9 hs9 => hK _ _ ?_); have hb9 := HB8.out.grown hg9 (by have := HB8.out.size; omega) (fun k e => by cases e; exact Nat.le_refl _); have HO9 := Lib.hid ho9; have HX9 := Lib.hid (HX7.out.of_new hb9); have HB9 := Lib.hid (below_next HB7.out hb9); clear ho9 hg9 hs9 hb9))
          obtain ⟨g12, hg12⟩ : ∃ g, w7.heap.size = g := ⟨_, rfl⟩
          rw [hg12] at HO9 ⊢
          clear hg12
          go_upto_region 18 with (first
            | ((with_reducible refine wpList_plain (o := ⟨some 94, Op.load _ _, _, _, _, _⟩) rfl fun K hK => ?_); (refine HO9.out.at_.wp rfl rfl (hK _ _ ?_)))
            | (go_at_call 18; refine (HNM.out _ _ HX9.out (HKC.out.of_new (below_next HI6.out.below HB9.out))).mono ?_; rintro e wa ⟨rfl, hba⟩; have HBA := Lib.hid hba; clear hba)
            | ((with_reducible refine wpList_plain (o := ⟨some 14, Op.alloc _, _, _, _, _⟩) rfl fun K hK => ?_); (refine wp_alloc_dig rfl fun wb hob hbb hsb => hK _ _ ?_); have HOB := Lib.hid hob; have HBB := Lib.hid hbb; clear hob hbb hsb)
            | ((with_reducible refine wpList_plain (o := ⟨none, Op.store _ (.tmp 14) (.tmp 96), _, _, _, _⟩) rfl fun K hK => ?_); (refine wp_store_digO (.tmp 14) (.tmp 96) wa.heap.size d dig0 rfl rfl rfl HD32.out HOB.out fun wc hoc hgc hsc => hK _ _ ?_); have hbc := HBB.out.grown hgc HBB.out.size (fun k e => by cases e; exact Nat.le_refl _); have hbc2 := below_next HBA.out hbc; have HOC := Lib.hid hoc; have HO12C := Lib.hid (HO9.out.of_new hbc2); have HXC := Lib.hid (HX9.out.of_new hbc2); have HBC := Lib.hid (below_next HB9.out hbc2); clear hoc hgc hsc hbc hbc2))
          obtain ⟨g14, hg14⟩ : ∃ g, wa.heap.size = g := ⟨_, rfl⟩
          rw [hg14] at HOC ⊢
          clear hg14
          have HDGC := Lib.hid (HDG.out.of_new HBC.out)
          have HIC := Lib.hid (HI6.out.new HBC.out)
          go_upto_region 19 with (first
            | ((with_reducible refine wpList_plain (o := ⟨some 103, Op.load 31 _, _, _, _, _⟩) rfl fun K' hK' => ?_); (refine wp_load_at (ty := 31) (x := .tmp 102) rfl rfl HDGC.out (hK' _ _ ?_)))
            | ((with_reducible refine wpList_plain (o := ⟨some 104, Op.build _ _, _, _, _, _⟩) rfl fun K hK => ?_); (refine wp_build_m1 9 d HD32.out rfl rfl rfl (hK _ _ ?_)))
            | (go_at_call 13; refine (HTK.out _ HIC.out.org.org (HKC.out.of_new HIC.out.below)).mono ?_; unfold TakePost; rintro e wd ⟨Fd, sd, rfl, hrd, -, -, hbd, -⟩; have HRD := Lib.hid hrd; have HBD := Lib.hid (hbd (show ¬ (9 : Int) = 6 by decide)); clear hrd hbd)
            | ((with_reducible refine wpList_plain (o := ⟨some 16, Op.alloc _, _, _, _, _⟩) rfl fun K hK => ?_); (refine wp_alloc_msg rfl fun we hoe hbe hse => hK _ _ ?_); have HOE := Lib.hid hoe.o; have HBE := Lib.hid hbe; have HRE := Lib.hid (HRD.out.of_new hbe); clear hoe hbe hse)
            | ((with_reducible refine wpList_plain (o := ⟨none, Op.store _ (.tmp 16) (.tmp 106), _, _, _, _⟩) rfl fun K hK => ?_); (refine wp_store_msg (.tmp 16) (.tmp 106) wd.heap.size _ msgZ sd sN rfl rfl rfl HRE.out HOE.out fun wf hof hgf hsf => hK _ _ ?_); have hbf := HBE.out.grown hgf HBE.out.size (fun k e => by cases e; exact Nat.le_refl _); have hbf2 := below_next HBD.out hbf; have HOF := Lib.hid hof; have HRF := Lib.hid (HRD.out.of_new hbf); have HO12F := Lib.hid (HO12C.out.of_new hbf2); have HXF := Lib.hid (HXC.out.of_new hbf2); have HO14F := Lib.hid (HOC.out.of_new hbf2); have HBF := Lib.hid (below_next HBC.out hbf2); clear hof hgf hsf hbf hbf2))
          obtain ⟨g16, hg16⟩ : ∃ g, wd.heap.size = g := ⟨_, rfl⟩
          rw [hg16] at HOF ⊢
          clear hg16
          obtain ⟨ba, bc, hbv⟩ := HRF.out.bytes.len
          rw [show (({ mk0 10 d with bytes := bs } : MsgL)).bytes = bs from rfl] at hbv
          have hcb := HOF.out.bytes
          rw [hbv] at hcb
          have HBV := Lib.hid (show Bytes wf (.slice ba bs.length bc) bs from hbv ▸ HRF.out.bytes)
          clear hbv
          go_upto_region 20 with (first
            | (go_at_call 19; refine (HDC.out _ _ HBV.out).mono ?_; rintro e wg ⟨yv, rfl, hyg, hbg⟩; obtain ⟨ya, yc, hyv⟩ := hyg.len; subst hyv; have HYG := Lib.hid hyg; have HBG := Lib.hid hbg; clear hyg hbg)
            | ((with_reducible refine wpList_plain (o := ⟨some 19, Op.alloc _, _, _, _, _⟩) rfl fun K hK => ?_); (refine RImg.wp_alloc rfl fun wh hoh hbh hsh => hK _ _ ?_); have HOH := Lib.hid hoh; have HBH := Lib.hid hbh; clear hoh hbh hsh)
            | ((with_reducible refine wpList_plain (o := ⟨none, Op.store _ (.tmp 19) (.tmp 113), _, _, _, _⟩) rfl fun K hK => ?_); (refine HOH.out.store (.tmp 19) (.tmp 113) rfl rfl rfl (show RImg.ok (.slice ya xs.length yc) from rfl) fun wi hoi hgi hsi => hK _ _ ?_); have hbi := HBH.out.grown hgi (by have := HBH.out.size; omega) (fun k e => by cases e; exact Nat.le_refl _); have hbi2 := below_next HBG.out hbi; have HOI := Lib.hid hoi; have HYI := Lib.hid (HYG.out.of_new hbi); have HO12I := Lib.hid (HO12F.out.of_new hbi2); have HXI := Lib.hid (HXF.out.of_new hbi2); have HO14I := Lib.hid (HO14F.out.of_new hbi2); have HO16I := Lib.hid (HOF.out.of_new hbi2); have HBI := Lib.hid (below_next HBF.out hbi2); clear hoi hgi hsi hbi hbi2))
          obtain ⟨g19, hg19⟩ : ∃ g, wg.heap.size = g := ⟨_, rfl⟩
          rw [hg19] at HOI ⊢
          clear hg19 hcb
          go_upto_region 21 with (first
            | ((with_reducible refine wpList_plain (o := ⟨some 115, Op.load _ _, _, _, _, _⟩) rfl fun K hK => ?_); (refine HO12I.out.at_.wp rfl rfl (hK _ _ ?_)))
            | ((with_reducible refine wpList_plain (o := ⟨some 116, Op.load _ _, _, _, _, _⟩) rfl fun K hK => ?_); (refine HOI.out.at_.wp rfl rfl (hK _ _ ?_)))
            | (go_at_call 20; refine (SameImg_any _ _ xs xs _ HXI.out HYI.out).mono ?_; rw [decide_eq_true (show xs = xs from rfl)]; rintro e wj ⟨rfl, hbj⟩; have HO14J := Lib.hid (HO14I.out.of_new hbj); have HO16J := Lib.hid (HO16I.out.of_new hbj); have HBJ := Lib.hid (below_next HBI.out hbj); clear hbj))
          have hda : DigAt wj g14 0 d := HO14J.out.at_
          have hdb := HDG.out.of_new HBJ.out
          have hck := fun w' (h : Grew wj w') => Grew.cell h (show wj.cell? ⟨g16, 0, none⟩ = some (.int .i64 10) from HO16J.out.kind)
          have hne := run_neq_dig d d HD32.out HD32.out
          rw [decide_eq_true rfl] at hne
          have hgd := guard_dig
          refine wp_region_grew (by kernel_rfl) (by kernel_rfl) ?_
          repeat (first
            | (go_big_quiet_want; (with_reducible apply quiet_load_at (ty := 31) (x := .tmp _)); rfl; rfl; assumption; go_simp; go_big_quiet_on)
            | (go_big_quiet_want; apply quiet_val; (intro w' hw'; go_simp; first | done | rfl); go_simp; go_big_quiet_on)
            | (go_big_quiet_skip))
          refine wpQuiet_nil ?_
          intro wk hwk
          go_wp2
          go_roundw
          case rel => exact ⟨j + 1, by omega, by go_num, below_next HB6.out (below_next HBJ.out hwk)⟩
          case measure => simp [intOf]; omega

end Go.Proofs.YtnohglkilpnjhaaGreatDoor

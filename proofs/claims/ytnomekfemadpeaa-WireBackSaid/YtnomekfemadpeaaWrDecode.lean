/- The walk of wire.Decode: the message that bytes are. No condition. -/
import Derived.Test.YtnomekfemadpeaaWrPutM
import Derived.Test.YtnomekfemadpeaaWrMsgO
import Derived.Test.YtnomekfemadpeaaWrRight
import Derived.Test.YtnomekfemadpeaaGc
namespace Go.Proofs.Ytnomekfemadpeaa
open Go.RowKit Go.Shelf
set_option linter.unusedVariables false
set_option linter.unusedSimpArgs false
set_option maxRecDepth 100000

/-- put, whichever the item. -/
theorem put_all (g : Nat) (m : MsgL) (s : MsgS) (i : Int) (v : Value) (b : List UInt8) (w : World) (h1 : 2 ≤ i) (h8 : i ≤ 8) (hF : MsgF w g m s) (hl : Bytes w v b) (hv : Off w g v) (hlen : b.length ≤ 1048576)
    (h6 : i = 6 → m.proof = [] ∧ s.vp = .slice none 0 0) (h7 : i = 7 → m.members = [] ∧ s.vm = .slice none 0 0) :
    Calls Try.prog 33 #[.pointer (some ⟨g, 0, none⟩), .int .i64 i, v] w (PutPost w g i s v (putL m i b).isSome ((putL m i b).getD m)) := by
  rcases (by omega : i = 2 ∨ i = 3 ∨ i = 4 ∨ i = 5 ∨ i = 6 ∨ i = 7 ∨ i = 8) with h | h | h | h | h | h | h
  all_goals subst h
  · have h := put_hash g m s v b w hF hl
    by_cases hc : b.length = 32
    · have e : putL m 2 b = some { m with hash := b } := put2.2 ⟨hc, rfl⟩
      rw [e]; rw [show (b.length == 32) = true by simp [hc]] at h; exact h
    · have e : putL m 2 b = none := by simp [putL, hc]
      rw [e]; rw [show (b.length == 32) = false by simp [hc]] at h
      exact h.mono fun _ _ ⟨a, b, _⟩ => ⟨a, b, fun h => nomatch h⟩
  · have h := put_piece g m s v b w hF hl hlen
    cases hc : oneL b with
    | none =>
      have e : putL m 3 b = none := by simp [putL, hc]
      rw [e]; rw [hc] at h
      exact h.mono fun _ _ ⟨a, b, _⟩ => ⟨a, b, fun h => nomatch h⟩
    | some n =>
      have e : putL m 3 b = some { m with piece := n } := put3.2 ⟨n, hc, rfl⟩
      rw [e]; rw [hc] at h; exact h
  · have h := put_ids g m s v b w hF hl hlen
    have e : putL m 4 b = some { m with ids := numsL b } := put4.2 rfl
    rw [e]; exact h
  · have h := put_bytes g m s v b w hF hl hv
    have e : putL m 5 b = some { m with bytes := b } := put5.2 rfl
    rw [e]; exact h
  · obtain ⟨h0, hp⟩ := h6 rfl
    have h := put_proof g m s v b w hF h0 hp hl hv hlen
    by_cases hc : b.length % 32 = 0
    · have e : putL m 6 b = some { m with proof := digsB b } := put6.2 ⟨hc, rfl⟩
      rw [e]; rw [show (b.length % 32 == 0) = true by simp [hc]] at h; exact h
    · have e : putL m 6 b = none := by simp [putL, hc]
      rw [e]; rw [show (b.length % 32 == 0) = false by simp [hc]] at h
      exact h.mono fun _ _ ⟨a, b, _⟩ => ⟨a, b, fun h => nomatch h⟩
  · obtain ⟨h0, hp⟩ := h7 rfl
    have h := put_members g m s v b w hF h0 hp hl hlen
    by_cases hc : (numsL b).length % 3 = 0
    · have e : putL m 7 b = some { m with members := memsB (numsL b) } := put7.2 ⟨hc, rfl⟩
      rw [e]; rw [show ((numsL b).length % 3 == 0) = true by simp [hc]] at h; exact h
    · have e : putL m 7 b = none := by simp [putL, hc]
      rw [e]; rw [show ((numsL b).length % 3 == 0) = false by simp [hc]] at h
      exact h.mono fun _ _ ⟨a, b, _⟩ => ⟨a, b, fun h => nomatch h⟩
  · have h := put_seed g m s v b w hF hl hlen
    cases hc : oneL b with
    | none =>
      have e : putL m 8 b = none := by simp [putL, hc]
      rw [e]; rw [hc] at h
      exact h.mono fun _ _ ⟨a, b, _⟩ => ⟨a, b, fun h => nomatch h⟩
    | some n =>
      rw [hc] at h
      simp only [Option.isSome_some, Bool.true_and, Option.getD_some] at h
      by_cases h1 : n ≤ 1
      · have e : putL m 8 b = some { m with seed := n == 1 } := put8.2 ⟨n, hc, h1, rfl⟩
        rw [e]; rw [show decide (n ≤ 1) = true by simp [h1]] at h; exact h
      · have e : putL m 8 b = none := by simp [putL, hc, h1]
        rw [e]; rw [show decide (n ≤ 1) = false by simp [h1]] at h
        exact h.mono fun _ _ ⟨a, b, _⟩ => ⟨a, b, fun h => nomatch h⟩

/-- What Decode hands back. -/
def DecMPost (w : World) (r : Option MsgL) (e : Ending) (w' : World) : Prop :=
  ∃ m s, e = .returned (.tuple #[MsgV m s, .int .i64 (if r.isSome then 0 else 2)]) ∧ m = r.getD msgZ ∧ MsgR w' m s ∧ Below w.heap.size w w'

/-- The items of a row of the call's own, in their places. -/
theorem OwnI.at_ {w : World} {base : Nat} {v : Value} {l : List ItV} (h : OwnI w base v l) (h0 : 0 < l.length) : ∃ g c, v = .slice (some ⟨g, 0, none⟩) l.length c ∧ g < w.heap.size ∧
    ∀ i, i < l.length → w.cell? ⟨g, i * 2, none⟩ = some (.int .i64 ((l.map (·.1)).getD i (0, [])).1) ∧ ∃ u, w.cell? ⟨g, i * 2 + 1, none⟩ = some u ∧ Bytes w u ((l.map (·.1)).getD i (0, [])).2 ∧ ∀ k, u.ownBlock = some k → base ≤ k ∧ k < w.heap.size := by
  obtain ⟨h1, a, c, hv, h2, h3, h4, h5⟩ := Row.of_owns h.1
  obtain ⟨b, off, hab, hb, hc⟩ := h5 (by omega)
  have hoff : off = 0 := by
    rcases h.1.2 with ⟨hn, _⟩ | ⟨g, cap, cur, hv2, _⟩
    · rw [hn] at hv; simp only [Value.slice.injEq] at hv; omega
    · rw [hv2, hab] at hv; cases hv; rfl
  subst hoff
  refine ⟨b, c, by rw [hv, hab], hb, fun i hi => ?_⟩
  obtain ⟨f1, f2⟩ := flatI_at hi
  have e : (l.map (·.1)).getD i (0, []) = (l.getD i ((0, []), undef)).1 := by simp [List.getD, hi]
  have hm : l.getD i ((0, []), undef) ∈ l := by
    rw [List.getD_eq_getElem?_getD, List.getElem?_eq_getElem hi]; exact List.getElem_mem hi
  rw [e]
  have c1 := hc (i * 2) (by omega)
  have c2 := hc (i * 2 + 1) (by omega)
  rw [Nat.zero_add] at c1 c2
  exact ⟨c1.trans f1, _, c2.trans f2, (h.2 _ hm).bytes, fun k hk => (h.2 _ hm).lt k hk⟩

/-- has, its numbers in a new block. -/
def IntsNew (w : World) (l : List Int) (e : Ending) (w' : World) : Prop := ∃ v, e = .returned v ∧ Ints w' v l ∧ Below w.heap.size w w' ∧ ∀ k, v.ownBlock = some k → w.heap.size ≤ k
theorem intsNew_lit (w : World) (l : List Int) (n : Nat) (cs : Array Value) (e : TypeId) (hn : l.length = n) (hl : n ≤ 8) (hc : cs = (l.map I64).toArray) : IntsNew w l (.returned (.slice (some ⟨w.heap.size, 0, none⟩) n n)) (w.alloc (.cells cs e)) := by
  subst hn
  subst hc
  exact ⟨_, rfl, ints_laid w l e (by unfold maxLen; omega), (Below.refl _ _).alloc (Nat.le_refl _) _, fun k h => by cases h; exact Nat.le_refl _⟩
set_option maxHeartbeats 3200000 in
theorem has_new (k : Int) (w : World) : Calls Try.prog 17 #[.int .i64 k] w (IntsNew w (hasL k)) := by
  rcases kinds k with h | h | h | h | h | h | h | h | h | h | h | h
  case inr.inr.inr.inr.inr.inr.inr.inr.inr.inr.inr =>
    rw [hasL_none h]
    have t1 : (k == 1) = false := beq_eq_false_iff_ne.2 (by omega)
    have t2 : (k == 2) = false := beq_eq_false_iff_ne.2 (by omega)
    have t3 : (k == 3) = false := beq_eq_false_iff_ne.2 (by omega)
    have t4 : (k == 4) = false := beq_eq_false_iff_ne.2 (by omega)
    have t5 : (k == 5) = false := beq_eq_false_iff_ne.2 (by omega)
    have t6 : (k == 6) = false := beq_eq_false_iff_ne.2 (by omega)
    have t7 : (k == 7) = false := beq_eq_false_iff_ne.2 (by omega)
    have t8 : (k == 8) = false := beq_eq_false_iff_ne.2 (by omega)
    have t9 : (k == 9) = false := beq_eq_false_iff_ne.2 (by omega)
    have t10 : (k == 10) = false := beq_eq_false_iff_ne.2 (by omega)
    have t11 : (k == 11) = false := beq_eq_false_iff_ne.2 (by omega)
    clear h
    go_enter Try.func17, Try.ntmps17
    go_wp2
    go_ret
    exact ⟨_, rfl, Row.of_nil 1, Below.refl _ _, fun _ h => nomatch h⟩
  all_goals
    subst h
    go_enter Try.func17, Try.ntmps17
    go_wp2
    go_ret
    exact intsNew_lit w _ _ _ _ rfl (by decide) rfl

theorem Bytes.keptBut {w w' : World} {g : Nat} {v : Value} {l : List UInt8} (h : Bytes w v l) (hk : Kept (fun q => q ≠ g) w w') (hv : ∀ k, v.ownBlock = some k → k ≠ g) : Bytes w' v l :=
  Row.of_kept h (row := some g) ⟨hk.os, hk.tape, hk.output, hk.size, fun k hk2 hne => hk.block k hk2 (fun e => hne (by rw [e]))⟩ (fun k hk2 e => hv k hk2 (by cases e; rfl))
/-- One of the items, and what is put. -/
theorem putsL_none {i : Int} {is : List Int} {x : It} {xs : List It} {m : MsgL} (h : x.1 ≠ i ∨ putL m i x.2 = none) : putsL (i :: is) (x :: xs) m = none := by
  simp only [putsL]
  rcases h with h | h
  · rw [if_neg h]
  · split
    · rw [h]; rfl
    · rfl
theorem putL_kind {m m1 : MsgL} {i : Int} {b : List UInt8} (h : putL m i b = some m1) : m1.kind = m.kind ∧ (i ≠ 6 → m1.proof = m.proof) ∧ (i ≠ 7 → m1.members = m.members) := by
  unfold putL at h
  repeat' split at h
  all_goals
    first
      | (cases h; done)
      | (cases h; refine ⟨rfl, fun _ => rfl, fun _ => rfl⟩)
      | (cases h; refine ⟨rfl, fun h => ?_, fun h => ?_⟩ <;> first | rfl | (exact absurd ‹_› h))
theorem has_five (k : Int) : (hasL k).length ≤ 5 := by
  unfold hasL
  repeat' split
  all_goals simp
theorem has_two {k : Int} {j : Nat} (h0 : 0 < j) (hj : j < (hasL k).length) : 2 ≤ (hasL k).getD j 0 ∧ (hasL k).getD j 0 ≤ 8 ∧ (hasL k).drop j = (hasL k).getD j 0 :: (hasL k).drop (j + 1) ∧ ∀ z ∈ (hasL k).drop (j + 1), z ≠ (hasL k).getD j 0 := by
  rcases kinds k with h | h | h | h | h | h | h | h | h | h | h | h
  case inr.inr.inr.inr.inr.inr.inr.inr.inr.inr.inr => rw [hasL_none h] at hj; simp at hj
  all_goals
    subst h
    have hj' : j < 5 := Nat.lt_of_lt_of_le hj (has_five _)
    rcases (by omega : j = 1 ∨ j = 2 ∨ j = 3 ∨ j = 4) with h | h | h | h
    all_goals
      subst h
      first
        | (exact absurd hj (by decide))
        | decide

/-- What holds ahead of each round: j items are in. -/
def DecMI (w0 : World) (g L : Nat) (k : Int) (l : List It) (r : Option MsgL) (j : Nat) (W : World) : Prop :=
  ∃ m s, MsgF W g m s ∧ Hi L s ∧ (putsL ((hasL k).drop (max j 1)) (l.drop (max j 1)) m).bind rightO = r ∧
    Kept (fun q => q ≠ g) w0 W ∧ (6 ∈ (hasL k).drop j → m.proof = [] ∧ s.vp = .slice none 0 0) ∧ (7 ∈ (hasL k).drop j → m.members = [] ∧ s.vm = .slice none 0 0)
theorem hi_nil (L : Nat) : Hi L sN := ⟨(fun _ h => nomatch h), (fun _ h => nomatch h), (fun _ h => nomatch h), (fun _ h => nomatch h)⟩
theorem DecMI.start {w0 : World} {g L : Nat} {k : Int} {l : List It} {r : Option MsgL} (h : MsgF w0 g { msgZ with kind := k } sN) (hr : r = (putsL (hasL k).tail (l.drop 1) { msgZ with kind := k }).bind rightO) : DecMI w0 g L k l r 0 w0 :=
  ⟨_, _, h, hi_nil L, by rw [hr, ← List.drop_one]; rfl, Kept.refl _ _, fun _ => ⟨rfl, rfl⟩, fun _ => ⟨rfl, rfl⟩⟩
theorem DecMI.first {w0 W : World} {g L : Nat} {k : Int} {l : List It} {r : Option MsgL} (h : DecMI w0 g L k l r 0 W) : DecMI w0 g L k l r 1 W := by
  obtain ⟨m, s, h1, h2, h3, h4, h5, h6⟩ := h
  exact ⟨m, s, h1, h2, h3, h4, fun h => h5 (by rw [List.drop_zero]; exact List.mem_of_mem_drop h), fun h => h6 (by rw [List.drop_zero]; exact List.mem_of_mem_drop h)⟩

theorem fail_msg {w : World} {r : Option MsgL} {w' : World} (h : r = none) (hb : Below w.heap.size w w') : DecMPost w r (.returned (.tuple #[MsgV msgZ sN, .int .i64 2])) w' :=
  ⟨msgZ, sN, by rw [h]; rfl, by rw [h]; rfl, msgR_zero _, hb⟩

set_option maxHeartbeats 6400000 in
theorem Decode17_any (v : Value) (b : List UInt8) (w : World) (hl : Bytes w v b) :
    Calls Try.prog 15 #[v] w (DecMPost w (decP b)) := by
  obtain ⟨va, vc, hv⟩ := hl.len
  subst hv
  have hD := fun W (h : Bytes W (.slice va b.length vc) b) => Decode_own _ b W h
  have HL := Lib.hid hl
  have HB := fun W => build_msg W
  clear hl
  rcases hd : decL b with _ | l
  · have HDEC := Lib.hid (show decP b = none by unfold decP; rw [hd]; rfl)
    rw [hd] at hD
    have HDD := Lib.hid hD
    clear hd hD HB
    go_enter Try.func15, Try.ntmps15
    go_wp2_with (first
      | ((with_reducible refine wpList_plain (o := ⟨some 2, Op.alloc _, _, _, _, _⟩) rfl fun K hK => ?_); (refine wp_alloc_msg rfl fun w1 hF1 hb1 hs1 => hK _ _ ?_); have HF1 := Lib.hid hF1; have HB1 := Lib.hid hb1; have HS1 := Lib.hid hs1; clear hF1 hb1 hs1)
      | (go_at_call 31; refine (HDD.out _ (HL.out.of_new HB1.out)).mono ?_; rintro e w2 ⟨v2, pre, base, rfl, hown, hpre, hb2, hbase⟩; have HF2 := Lib.hid (HF1.out.of_new hb2); have HB2 := Lib.hid hb2; clear hown hpre hb2 hbase)
      | ((with_reducible refine wpList_plain (o := ⟨some 29, Op.build _ _, _, _, _, _⟩) rfl fun K hK => ?_); (refine wp_val (v := MsgV msgZ sN) (by unfold execOp; simp only [List.map_toArray, List.map_nil, build_msg, Sem.run_bind, Result.andThen_ok, Sem.run_pure]) (hK _ _ ?_)))
      | ((with_reducible refine wpList_plain (o := ⟨none, Op.store _ (.tmp 2) (.tmp 29), _, _, _, _⟩) rfl fun K hK => ?_); (refine wp_store_msg (.tmp 2) (.tmp 29) w.heap.size msgZ msgZ sN sN rfl rfl rfl (msgR_zero _) HF2.out.o fun w3 hO3 hg3 hs3 => hK _ _ ?_); have HO3 := Lib.hid hO3; have HG3 := Lib.hid hg3; have HS3 := Lib.hid hs3; clear hO3 hg3 hs3))
    refine bodyPost_ret (results_msg rfl _ rfl rfl HO3.out) rfl ?_
    exact fail_msg HDEC.out ((below_next HB1.out HB2.out).grown HG3.out (by have := HB1.out.size; have := HB2.out.size; omega) (fun k e => by cases e; omega))
  have hEB := encL_decL hd
  have hble : b.length ≤ 65536 := encL_le hEB
  have hfl : b = flatB l := by have := (encF_parts l 0 [] b (by simp) hEB).1; simpa using this
  have hmem : ∀ x ∈ l, x.2.length ≤ 1048576 := fun x hx => by have := flatB_mem_len l x hx; rw [← hfl] at this; omega
  have HDEC := Lib.hid (show decP b = decI l by unfold decP; rw [hd]; rfl)
  rw [hd] at hD
  have HDD := Lib.hid hD
  have HMEM := Lib.hid hmem
  clear hd hD HB hEB hfl hmem
  go_enter Try.func15, Try.ntmps15
  go_upto_region 2 with (first
      | ((with_reducible refine wpList_plain (o := ⟨some 2, Op.alloc _, _, _, _, _⟩) rfl fun K hK => ?_); (refine wp_alloc_msg rfl fun w1 hF1 hb1 hs1 => hK _ _ ?_); have HF1 := Lib.hid hF1; have HB1 := Lib.hid hb1; have HS1 := Lib.hid hs1; clear hF1 hb1 hs1)
      | (go_at_call 31; refine (HDD.out _ (HL.out.of_new HB1.out)).mono ?_; rintro e w2 ⟨v2, pre, base, rfl, hown, hpre, hb2, hbase⟩; have HF2 := Lib.hid (HF1.out.of_new hb2); have HB2 := Lib.hid hb2; have HBS := Lib.hid hbase; clear hb2 hbase))
  rw [Option.getD_some] at hpre
  have hlen : pre.length = l.length := by rw [← hpre]; simp
  obtain ⟨va2, vc2, hv⟩ := hown.len
  subst hv
  have hbA := below_next HB1.out HB2.out
  cases l with
  | nil =>
    have hp0 : pre.length = 0 := by rw [hlen]; rfl
    have HP0 := Lib.hid hp0
    have HDN := Lib.hid (show decP b = none by rw [HDEC.out]; rfl)
    have HBA := Lib.hid hbA
    rw [hp0]
    clear hown hpre hlen hp0 hbA
    go_wp2_with (first
      | ((with_reducible refine wpList_plain (o := ⟨some 29, Op.build _ _, _, _, _, _⟩) rfl fun K hK => ?_); (refine wp_val (v := MsgV msgZ sN) (by unfold execOp; simp only [List.map_toArray, List.map_nil, build_msg, Sem.run_bind, Result.andThen_ok, Sem.run_pure]) (hK _ _ ?_)))
      | ((with_reducible refine wpList_plain (o := ⟨none, Op.store _ (.tmp 2) (.tmp 29), _, _, _, _⟩) rfl fun K hK => ?_); (refine wp_store_msg (.tmp 2) (.tmp 29) w.heap.size msgZ msgZ sN sN rfl rfl rfl (msgR_zero _) HF2.out.o fun wF hOF hgF hsF => hK _ _ ?_); have HOF := Lib.hid hOF; have HGF := Lib.hid hgF; have HSF := Lib.hid hsF; clear hOF hgF hsF))
    refine bodyPost_ret (results_msg rfl _ rfl rfl HOF.out) rfl ?_
    exact fail_msg HDN.out (HBA.out.grown HGF.out (by have := HBA.out.size; omega) (fun k e => by cases e; omega))
  | cons x xs =>
  obtain ⟨pg, pc, hv, hpg, hcell⟩ := hown.at_ (by rw [hlen]; simp)
  rw [hpre] at hcell
  rw [hlen] at hv hcell
  obtain ⟨rfl, rfl⟩ : va2 = some ⟨pg, 0, none⟩ ∧ vc2 = pc := by simp only [Value.slice.injEq] at hv; exact ⟨hv.1, hv.2.2⟩
  rw [hlen]
  have hc0 := hcell 0 (by simp)
  simp only [Nat.zero_mul, List.getD_cons_zero, Nat.zero_add] at hc0
  obtain ⟨hn0, u0, hu0, hub0, huo0⟩ := hc0
  have HCELL := Lib.hid hcell
  have hxl := HMEM.out x (by simp)
  clear hown hpre hlen hv hcell
  by_cases h1 : x.1 = 1
  case neg =>
    have HDN := Lib.hid (show decP b = none by rw [HDEC.out]; simp [decI, h1])
    have HBA := Lib.hid hbA
    have t1 : (x.1 == 1) = false := beq_eq_false_iff_ne.2 h1
    have t2 : (x.1 != 1) = true := by simp [h1]
    clear hbA hub0 huo0
    go_wp2_with (first
      | ((with_reducible refine wpList_plain (o := ⟨some 29, Op.build _ _, _, _, _, _⟩) rfl fun K hK => ?_); (refine wp_val (v := MsgV msgZ sN) (by unfold execOp; simp only [List.map_toArray, List.map_nil, build_msg, Sem.run_bind, Result.andThen_ok, Sem.run_pure]) (hK _ _ ?_)))
      | ((with_reducible refine wpList_plain (o := ⟨none, Op.store _ (.tmp 2) (.tmp 29), _, _, _, _⟩) rfl fun K hK => ?_); (refine wp_store_msg (.tmp 2) (.tmp 29) w.heap.size msgZ msgZ sN sN rfl rfl rfl (msgR_zero _) HF2.out.o fun wF hOF hgF hsF => hK _ _ ?_); have HOF := Lib.hid hOF; have HGF := Lib.hid hgF; have HSF := Lib.hid hsF; clear hOF hgF hsF))
    refine bodyPost_ret (results_msg rfl _ rfl rfl HOF.out) rfl ?_
    exact fail_msg HDN.out (HBA.out.grown HGF.out (by have := HBA.out.size; omega) (fun k e => by cases e; omega))
  rw [h1] at hn0
  have hdi : decP b = (oneL x.2).bind fun k => if (hasL k).length = xs.length + 1 then (putsL (hasL k).tail xs { msgZ with kind := k }).bind rightO else none := by rw [HDEC.out]; simp only [decI, h1, if_true]
  have ho := fun W h => one_any u0 x.2 W h hxl
  obtain ⟨O, hO⟩ : ∃ O, oneL x.2 = O := ⟨_, rfl⟩
  rw [hO] at hdi ho
  have HDI := Lib.hid hdi
  have HO := Lib.hid ho
  have HU0 := Lib.hid hub0
  have HUO := Lib.hid huo0
  have HX1 := Lib.hid h1
  have HBA := Lib.hid hbA
  obtain ⟨G, hG⟩ : ∃ G, w2.heap.size = G := ⟨_, rfl⟩
  have HG := Lib.hid hG
  have hR2 := HF2.out.o.lt
  rw [hG] at hpg hR2
  have hRG : w.heap.size < G := hR2
  clear hdi hO ho hub0 huo0 h1 hbA hG
  go_upto_region 6 with (first
    | ((with_reducible refine wpList_plain (o := ⟨some 6, Op.alloc _, _, _, _, _⟩) rfl fun K hK => ?_); (refine wp_alloc_msg rfl fun w3 hF3 hb3 hs3 => hK _ _ ?_); rw [HG.out] at hF3 hs3 ⊢; have HM3 := Lib.hid hF3; have HB3 := Lib.hid hb3; have HF3 := Lib.hid (HF2.out.of_new hb3); clear hF3 hb3))
  have hu03 := (HB3.out.cell (p := ⟨pg, 1, none⟩) (by rw [HG.out]; exact hpg)).trans hu0
  go_upto_region 7 with (first
    | (go_at_call 32; refine (HO.out _ (HU0.out.of_new HB3.out)).mono ?_; rintro e w4 ⟨rfl, hb4⟩; have hM4 := HM3.out.of_new hb4; have HF4 := Lib.hid (HF3.out.of_new hb4); have hf4 := hM4.free 0; have hc4 := hM4.o.kind; have HM4 := Lib.hid hM4; have HB4 := Lib.hid hb4; clear hM4 hb4))
  generalize hW5 : w4.setCell _ _ = w5
  obtain ⟨hM5, hF5, hk5⟩ : MsgF w5 G { msgZ with kind := O.getD 0 } sN ∧ MsgF w5 w.heap.size msgZ sN ∧ Kept (fun q => q ≠ G) w4 w5 := by
    subst hW5
    refine ⟨HM4.out.setKind _, ?_, (Kept.refl _ _).setCell (p := ⟨G, 0, none⟩) (fun h => h rfl) _⟩
    have hF := HF4.out
    exact ⟨hF.o.of_block (Below.heap_setCell _ _ _ _ (by show w.heap.size ≠ G; omega)), msgR_zero _, Off.nil _ _, Off.nil _ _, Off.nil _ _, Off.nil _ _⟩
  have hb5 : Below w.heap.size w w5 := by
    have hbb := (HBA.out.trans (HB3.out.mono (by have := HBA.out.size; omega))).trans (HB4.out.mono (by have := HBA.out.size; have := HB3.out.size; omega))
    exact hk5.to_below hbb (by have := hbb.size; omega) (fun k hk => by omega)
  have HK24 := Lib.hid ((Kept.refl (fun q => q ≠ G) w2).below HB3.out |>.below HB4.out)
  have HM5 := Lib.hid hM5
  have HF5 := Lib.hid hF5
  have HK5 := Lib.hid hk5
  have HB5 := Lib.hid hb5
  clear hW5 hM5 hF5 hk5 hb5 hf4 hc4 hu03
  cases O with
  | none =>
    have HDN := Lib.hid (show decP b = none by rw [HDI.out]; rfl)
    go_wp2_with (first
      | ((with_reducible refine wpList_plain (o := ⟨some 50, Op.build _ _, _, _, _, _⟩) rfl fun K hK => ?_); (refine wp_val (v := MsgV msgZ sN) (by unfold execOp; simp only [List.map_toArray, List.map_nil, build_msg, Sem.run_bind, Result.andThen_ok, Sem.run_pure]) (hK _ _ ?_)))
      | ((with_reducible refine wpList_plain (o := ⟨none, Op.store _ (.tmp 2) (.tmp 50), _, _, _, _⟩) rfl fun K hK => ?_); (refine wp_store_msg (.tmp 2) (.tmp 50) w.heap.size msgZ msgZ sN sN rfl rfl rfl (msgR_zero _) HF5.out.o fun wF hOF hgF hsF => hK _ _ ?_); have HOF := Lib.hid hOF; have HGF := Lib.hid hgF; have HSF := Lib.hid hsF; clear hOF hgF hsF))
    refine bodyPost_ret (results_msg rfl _ rfl rfl HOF.out) rfl ?_
    exact fail_msg HDN.out (HB5.out.grown HGF.out (by have := HB5.out.size; omega) (fun k e => by cases e; omega))
  | some k =>
  rw [Option.getD_some] at HM5
  have hdk := HDI.out
  simp only [Option.bind_some] at hdk
  have hHas := fun W => has_any k W
  have HHAS := Lib.hid hHas
  have hk0 := HM5.out.o.kind
  clear hHas
  by_cases hln : (hasL k).length = xs.length + 1
  case neg =>
    rw [if_neg hln] at hdk
    have HDN := Lib.hid hdk
    clear hdk
    have hlnI : ¬ ((hasL k).length : Int) = ((x :: xs).length : Int) := by simp; omega
    have t1 : (((hasL k).length : Int) == ((x :: xs).length : Int)) = false := beq_eq_false_iff_ne.2 hlnI
    have t2 : (((hasL k).length : Int) != ((x :: xs).length : Int)) = true := bne_iff_ne.2 hlnI
    have t1 : (((hasL k).length : Nat) == ((x :: xs).length : Nat)) = false := beq_eq_false_iff_ne.2 (by simp; omega)
    have t2 : (((hasL k).length : Nat) != ((x :: xs).length : Nat)) = true := bne_iff_ne.2 (by simp; omega)
    go_upto_region 8 with (first
      | (go_at_call 17; refine (HHAS.out _).mono ?_; rintro e w6 ⟨v6, rfl, hv6, hb6⟩; obtain ⟨a6, c6, hv⟩ := hv6.len; subst hv; have HF6 := Lib.hid (HF5.out.of_new hb6); have HB6 := Lib.hid (below_next HB5.out hb6); clear hv6 hb6))
    go_wp2_with (first
      | ((with_reducible refine wpList_plain (o := ⟨some 50, Op.build _ _, _, _, _, _⟩) rfl fun K hK => ?_); (refine wp_val (v := MsgV msgZ sN) (by unfold execOp; simp only [List.map_toArray, List.map_nil, build_msg, Sem.run_bind, Result.andThen_ok, Sem.run_pure]) (hK _ _ ?_)))
      | ((with_reducible refine wpList_plain (o := ⟨none, Op.store _ (.tmp 2) (.tmp 50), _, _, _, _⟩) rfl fun K hK => ?_); (refine wp_store_msg (.tmp 2) (.tmp 50) w.heap.size msgZ msgZ sN sN rfl rfl rfl (msgR_zero _) HF6.out.o fun wF hOF hgF hsF => hK _ _ ?_); have HOF := Lib.hid hOF; have HGF := Lib.hid hgF; have HSF := Lib.hid hsF; clear hOF hgF hsF))
    refine bodyPost_ret (results_msg rfl _ rfl rfl HOF.out) rfl ?_
    exact fail_msg HDN.out (HB6.out.grown HGF.out (by have := HB6.out.size; omega) (fun k e => by cases e; omega))
  rw [if_pos hln] at hdk
  have HDK := Lib.hid hdk
  have hN := fun W => has_new k W
  have HN := Lib.hid hN
  clear hdk hN
  have hlnI : ((hasL k).length : Int) = ((x :: xs).length : Int) := by simp; omega
  have t1 : (((hasL k).length : Int) == ((x :: xs).length : Int)) = true := beq_iff_eq.2 hlnI
  have t2 : (((hasL k).length : Int) != ((x :: xs).length : Int)) = false := by rw [hlnI]; exact bne_self_eq_false _
  have t5 : (((hasL k).length : Int) == (xs.length : Int) + 1) = true := beq_iff_eq.2 (by omega)
  have t6 : (((hasL k).length : Int) != (xs.length : Int) + 1) = false := by rw [show (xs.length : Int) + 1 = ((hasL k).length : Int) by omega]; exact bne_self_eq_false _
  have t3 : (((hasL k).length : Nat) == ((x :: xs).length : Nat)) = true := beq_iff_eq.2 (by simp; omega)
  have t4 : (((hasL k).length : Nat) != ((x :: xs).length : Nat)) = false := by rw [show (hasL k).length = (x :: xs).length by simp; omega]; exact bne_self_eq_false _
  have HLN := Lib.hid hln
  clear hln hlnI
  go_wp2_with (go_at_call 17; refine (HN.out _).mono ?_; rintro e w6 ⟨v6, rfl, hv6, hb6, hn6⟩; obtain ⟨a6, c6, hv⟩ := hv6.len; subst hv; have hM6 := HM5.out.of_new hb6; have hk6 := hM6.o.kind; have HM6 := Lib.hid hM6; have HB6 := Lib.hid hb6; clear hv6 hb6 hM6 hn6; go_wp2_with (go_at_call 17; refine (HN.out _).mono ?_; rintro e w7 ⟨v7, rfl, hv7, hb7, hn7⟩; obtain ⟨a7, c7, hv⟩ := hv7.len; subst hv; have HM7 := Lib.hid (HM6.out.of_new hb7); have HB7 := Lib.hid hb7; have HV7 := Lib.hid hv7; have HNB7 := Lib.hid hn7; clear hv7 hb7 hn7))
  have HF7 := Lib.hid ((HF5.out.of_new HB6.out).of_new HB7.out)
  have HK27 := Lib.hid (((HK24.out.trans HK5.out).below HB6.out).below HB7.out)
  have HBB7 := Lib.hid (below_next (below_next HB5.out HB6.out) HB7.out)
  have hG7 := HM7.out.o.lt
  have HG6 := Lib.hid HM6.out.o.lt
  clear t1 t2 t3 t4 t5 t6 hk0 hk6
  go_loopw [8, 9, 55] (fun _ _ iv W' => ∃ j : Nat, j ≤ (hasL k).length ∧ iv = .int .i64 j ∧ DecMI w7 G (w.heap.size + 1) k (x :: xs) (decP b) j W') (fun _ _ iv _ => (hasL k).length - (intOf iv).toNat)
  case atStart => exact ⟨0, Nat.zero_le _, rfl, DecMI.start HM7.out HDK.out⟩
  case round =>
    obtain ⟨j, hj, rfl, hdm⟩ := hrel
    have hmi := hdm
    obtain ⟨m, s, hF, hhi, hr, hK, h6, h7⟩ := hdm
    have HFR := Lib.hid (HF7.out.o.of_block (hK.block _ HF7.out.o.lt (by omega)))
    have HBR := Lib.hid (hK.to_below HBB7.out (by have := HBB7.out.size; omega) (fun q hq => by omega))
    by_cases hlt : j < (hasL k).length
    · obtain ⟨pb, poff, pcc, hv, hpbl, hcj⟩ := HV7.out.cell (by omega)
      obtain ⟨rfl, rfl⟩ : a7 = some ⟨pb, poff, none⟩ ∧ c7 = pcc := by simp only [Value.slice.injEq] at hv; exact ⟨hv.1, hv.2.2⟩
      have hpbG : pb ≠ G := by have := HNB7.out pb rfl; have := HG6.out; omega
      have hc53 := (hK.cell (p := ⟨pb, poff + j, none⟩) hpbl hpbG).trans (hcj j hlt)
      have hK2 := HK27.out.trans hK
      obtain ⟨hnj, uj, huj, hubj, huoj⟩ := HCELL.out j (by have := HLN.out; simp; omega)
      have hnj' := (hK2.cell (p := ⟨pg, j * 2, none⟩) (by rw [HG.out]; exact hpg) (by show pg ≠ G; omega)).trans hnj
      have huj' := (hK2.cell (p := ⟨pg, j * 2 + 1, none⟩) (by rw [HG.out]; exact hpg) (by show pg ≠ G; omega)).trans huj
      have hubj' := hubj.keptBut hK2 (fun q hq => by have := (huoj q hq).2; rw [HG.out] at this; omega)
      have hxm : (x :: xs).getD j (0, []) ∈ x :: xs := by rw [List.getD_eq_getElem?_getD, List.getElem?_eq_getElem (show j < (x :: xs).length by have := HLN.out; simp; omega)]; exact List.getElem_mem _
      have hxl2 := HMEM.out _ hxm
      by_cases hj0 : j = 0
      · subst hj0
        have hi0 : (hasL k).getD 0 0 = 1 := by
          obtain ⟨r0, hr0⟩ := has_head (k := k) (by
            refine Classical.byContradiction fun hc => ?_
            rw [hasL_none (by omega)] at hlt; simp at hlt) (by
            refine Classical.byContradiction fun hc => ?_
            rw [hasL_none (by omega)] at hlt; simp at hlt)
          rw [hr0]; rfl
        have hx0 : ((x :: xs).getD 0 (0, [])).1 = 1 := HX1.out
        rw [hi0] at hc53
        rw [hx0] at hnj'
        simp only [Nat.zero_mul, Nat.add_zero] at hc53 hnj'
        have HMI := Lib.hid hmi
        clear hmi hF hhi hr hK h6 h7 hv hcj hK2 hnj huj hubj huoj huj' hubj' hxm hxl2 hi0 hx0
        go_wp2
        go_roundw
        case rel => exact ⟨1, by omega, rfl, HMI.out.first⟩
        case measure => simp [intOf]; omega
      · obtain ⟨hi2, hi8, hdr, hne⟩ := has_two (by omega) hlt
        have hld : (x :: xs).drop j = (x :: xs).getD j (0, []) :: (x :: xs).drop (j + 1) := drop_at_it (by have := HLN.out; simp; omega)
        have hmx : max j 1 = j := by omega
        rw [hmx, hdr, hld] at hr
        rw [hdr] at h6 h7
        obtain ⟨iv, hiv⟩ : ∃ iv, (hasL k).getD j 0 = iv := ⟨_, rfl⟩
        obtain ⟨xj, hxj⟩ : ∃ xj, (x :: xs).getD j (0, []) = xj := ⟨_, rfl⟩
        rw [hiv] at hc53 hi2 hi8 hne hr h6 h7
        rw [hxj] at hnj' hubj' hr hxl2
        have hp := put_all G m s iv uj xj.2 wr hi2 hi8 hF hubj' (fun q hq => ⟨by have := (huoj q hq).2; rw [HG.out] at this; omega, by have := (huoj q hq).2; have := hK2.size; omega⟩) hxl2 (fun e => h6 (by rw [e]; simp)) (fun e => h7 (by rw [e]; simp))
        obtain ⟨ua, uc, hv2⟩ := hubj'.len
        subst hv2
        have HUOJ := Lib.hid huoj
        have HHI := Lib.hid hhi
        have HR := Lib.hid hr
        have HK := Lib.hid hK
        have H6 := Lib.hid h6
        have H7 := Lib.hid h7
        have HNE := Lib.hid hne
        have HMX := Lib.hid hmx
        have HF := Lib.hid hF
        have hj1 : (0 : Int) < (j : Int) := by omega
        have hjx : (j : Int) < (xs.length : Int) + 1 := by have := HLN.out; omega
        have hj5 : (j : Int) ≤ 5 := by have := has_five k; omega
        clear hmi hF hhi hr hK h6 h7 hv hcj hK2 hnj huj hubj huoj hubj' hxm hxl2 hdr hld hmx hxj hiv hi2 hi8 hne
        by_cases hni : xj.1 = iv
        · rw [hni] at hnj'
          have HNI := Lib.hid hni
          obtain ⟨O, hO⟩ : ∃ O, putL m iv xj.2 = O := ⟨_, rfl⟩
          rw [hO] at hp
          have HO2 := Lib.hid hO
          have HP := Lib.hid hp
          clear hO hp hni
          cases O with
          | none =>
            have HDN := Lib.hid (show decP b = none by rw [← HR.out, putsL_none (.inr HO2.out)]; rfl)
            go_wp2_with (first
              | (go_at_call 33; refine HP.out.mono ?_; rintro e w8 ⟨rfl, hk8, _⟩; have HFR8 := Lib.hid (HFR.out.of_block (hk8.block _ HFR.out.lt (by omega))); have HB8 := Lib.hid (hk8.to_below HBR.out (by have := HBR.out.size; omega) (fun q hq => by omega)); clear hk8)
              | ((with_reducible refine wpList_plain (o := ⟨some 81, Op.build _ _, _, _, _, _⟩) rfl fun K hK => ?_); (refine wp_val (v := MsgV msgZ sN) (by unfold execOp; simp only [List.map_toArray, List.map_nil, build_msg, Sem.run_bind, Result.andThen_ok, Sem.run_pure]) (hK _ _ ?_)))
              | ((with_reducible refine wpList_plain (o := ⟨none, Op.store _ (.tmp 2) (.tmp 81), _, _, _, _⟩) rfl fun K hK => ?_); (refine wp_store_msg (.tmp 2) (.tmp 81) w.heap.size msgZ msgZ sN sN rfl rfl rfl (msgR_zero _) HFR8.out fun wF hOF hgF hsF => hK _ _ ?_); have HOF := Lib.hid hOF; have HGF := Lib.hid hgF; have HSF := Lib.hid hsF; clear hOF hgF hsF))
            refine bodyPost_ret (results_msg rfl _ rfl rfl HOF.out) rfl ?_
            exact fail_msg HDN.out (HB8.out.grown HGF.out (by have := HB8.out.size; omega) (fun k e => by cases e; omega))
          | some m1 =>
            go_wp2_with (first
              | (go_at_call 33; refine HP.out.mono ?_; rintro e w8 ⟨rfl, hk8, hs8⟩; obtain ⟨s2, hF8, hvp, hvm, hhi8⟩ := hs8 rfl; have HF8 := Lib.hid hF8; have HK8 := Lib.hid hk8; have HVP := Lib.hid hvp; have HVM := Lib.hid hvm; have HHI8 := Lib.hid hhi8; clear hk8 hs8 hF8 hvp hvm hhi8))
            go_roundw
            case rel =>
              obtain ⟨e1, e2, e3⟩ := putL_kind HO2.out
              refine ⟨j + 1, by omega, by go_num, m1, s2, HF8.out, HHI8.out _ (by have := HBR.out.size; have := HFR.out.lt; omega) HHI.out (fun q hq => ?_), ?_, HK.out.trans HK8.out, fun h => ?_, fun h => ?_⟩
              · have := (HUOJ.out q hq).1; have := HBS.out; have := HS1.out; omega
              · rw [show max (j + 1) 1 = j + 1 by omega, ← HR.out]
                simp only [putsL]
                rw [if_pos HNI.out, HO2.out]
                rfl
              · have hn6 := fun e => HNE.out 6 h e
                obtain ⟨q1, q2⟩ := H6.out (by simp [h])
                exact ⟨by rw [e2 (fun e => hn6 e.symm)]; exact q1, by rw [HVP.out (fun e => hn6 e.symm)]; exact q2⟩
              · have hn7 := fun e => HNE.out 7 h e
                obtain ⟨q1, q2⟩ := H7.out (by simp [h])
                exact ⟨by rw [e3 (fun e => hn7 e.symm)]; exact q1, by rw [HVM.out (fun e => hn7 e.symm)]; exact q2⟩
            case measure => simp [intOf]; omega
        · have HDN := Lib.hid (show decP b = none by rw [← HR.out, putsL_none (.inl hni)]; rfl)
          have t1 : (xj.1 == iv) = false := beq_eq_false_iff_ne.2 hni
          have t2 : (xj.1 != iv) = true := bne_iff_ne.2 hni
          clear hp
          go_wp2_with (first
            | ((with_reducible refine wpList_plain (o := ⟨some 81, Op.build _ _, _, _, _, _⟩) rfl fun K hK => ?_); (refine wp_val (v := MsgV msgZ sN) (by unfold execOp; simp only [List.map_toArray, List.map_nil, build_msg, Sem.run_bind, Result.andThen_ok, Sem.run_pure]) (hK _ _ ?_)))
            | ((with_reducible refine wpList_plain (o := ⟨none, Op.store _ (.tmp 2) (.tmp 81), _, _, _, _⟩) rfl fun K hK => ?_); (refine wp_store_msg (.tmp 2) (.tmp 81) w.heap.size msgZ msgZ sN sN rfl rfl rfl (msgR_zero _) HFR.out fun wF hOF hgF hsF => hK _ _ ?_); have HOF := Lib.hid hOF; have HGF := Lib.hid hgF; have HSF := Lib.hid hsF; clear hOF hgF hsF))
          refine bodyPost_ret (results_msg rfl _ rfl rfl HOF.out) rfl ?_
          exact fail_msg HDN.out (HBR.out.grown HGF.out (by have := HBR.out.size; omega) (fun k e => by cases e; omega))
    · obtain rfl : j = (hasL k).length := by omega
      have hmx : max (hasL k).length 1 = (hasL k).length := by have := HLN.out; omega
      have hld : (x :: xs).drop (hasL k).length = [] := by rw [HLN.out]; exact List.drop_length
      rw [hmx, List.drop_length, hld] at hr
      have HR := Lib.hid (show decP b = rightO m from hr.symm)
      have hRi := fun W (h : MsgR W m s) => Right_any m s W h
      have HFM := Lib.hid hF
      have HHI := Lib.hid hhi
      clear hmx hld hr hmi hF hhi hK h6 h7
      rcases hrb : rightB m with _ | _
      · rw [hrb] at hRi
        have HRI := Lib.hid hRi
        have HDN := Lib.hid (show decP b = none by rw [HR.out]; unfold rightO; rw [hrb]; rfl)
        clear hRi hrb
        go_wp2_with (first
      | ((with_reducible refine wpList_plain (o := ⟨some 83, Op.load 29 _, _, _, _, _⟩) rfl fun K hK => ?_); (refine wp_load_msg (g := G) rfl rfl HFM.out.o (hK _ _ ?_)))
          | (go_at_call 12; refine (HRI.out _ HFM.out.r).mono ?_; rintro e w8 ⟨rfl, hb8⟩; have HFR8 := Lib.hid (HFR.out.of_new hb8); have HB8 := Lib.hid (below_next HBR.out hb8); clear hb8)
          | ((with_reducible refine wpList_plain (o := ⟨some 86, Op.build _ _, _, _, _, _⟩) rfl fun K hK => ?_); (refine wp_val (v := MsgV msgZ sN) (by unfold execOp; simp only [List.map_toArray, List.map_nil, build_msg, Sem.run_bind, Result.andThen_ok, Sem.run_pure]) (hK _ _ ?_)))
          | ((with_reducible refine wpList_plain (o := ⟨none, Op.store _ (.tmp 2) (.tmp 86), _, _, _, _⟩) rfl fun K hK => ?_); (refine wp_store_msg (.tmp 2) (.tmp 86) w.heap.size msgZ msgZ sN sN rfl rfl rfl (msgR_zero _) HFR8.out fun wF hOF hgF hsF => hK _ _ ?_); have HOF := Lib.hid hOF; have HGF := Lib.hid hgF; have HSF := Lib.hid hsF; clear hOF hgF hsF))
        refine bodyPost_ret (results_msg rfl _ rfl rfl HOF.out) rfl ?_
        exact fail_msg HDN.out (HB8.out.grown HGF.out (by have := HB8.out.size; omega) (fun k e => by cases e; omega))
      · rw [hrb] at hRi
        have HRI := Lib.hid hRi
        have HDS := Lib.hid (show decP b = some m by rw [HR.out]; unfold rightO; rw [hrb]; rfl)
        clear hRi hrb
        go_wp2_with (first
      | ((with_reducible refine wpList_plain (o := ⟨some 83, Op.load 29 _, _, _, _, _⟩) rfl fun K hK => ?_); (refine wp_load_msg (g := G) rfl rfl HFM.out.o (hK _ _ ?_)))
          | (go_at_call 12; refine (HRI.out _ HFM.out.r).mono ?_; rintro e w8 ⟨rfl, hb8⟩; have HFR8 := Lib.hid (HFR.out.of_new hb8); have HB8 := Lib.hid (below_next HBR.out hb8); have HFM8 := Lib.hid (HFM.out.of_new hb8); clear hb8)
      | ((with_reducible refine wpList_plain (o := ⟨some 87, Op.load 29 _, _, _, _, _⟩) rfl fun K hK => ?_); (refine wp_load_msg (g := G) rfl rfl HFM8.out.o (hK _ _ ?_)))
          | ((with_reducible refine wpList_plain (o := ⟨none, Op.store _ (.tmp 2) (.tmp 87), _, _, _, _⟩) rfl fun K hK => ?_); (refine wp_store_msg (.tmp 2) (.tmp 87) w.heap.size m msgZ s sN rfl rfl rfl HFM8.out.r HFR8.out fun wF hOF hgF hsF => hK _ _ ?_); have HOF := Lib.hid hOF; have HGF := Lib.hid hgF; have HSF := Lib.hid hsF; clear hOF hgF hsF))
        refine bodyPost_ret (results_msg rfl _ rfl rfl HOF.out) rfl ?_
        have hrr := HFM8.out.r
        obtain ⟨g1, g2, g3, g4⟩ := HHI.out
        refine ⟨m, s, by rw [HDS.out]; rfl, by rw [HDS.out]; rfl, ⟨hrr.hash, Row.of_kept hrr.ids HGF.out (fun q hq e => ?_), Row.of_kept hrr.bytes HGF.out (fun q hq e => ?_), ⟨hrr.proof.1, Row.of_kept hrr.proof.2 HGF.out (fun q hq e => ?_)⟩, Row.of_kept hrr.members HGF.out (fun q hq e => ?_)⟩, HB8.out.grown HGF.out (by have := HB8.out.size; omega) (fun k e => by cases e; omega)⟩
        · have := g1 q hq; cases e; omega
        · have := g2 q hq; cases e; omega
        · have := g3 q hq; cases e; omega
        · have := g4 q hq; cases e; omega

end Go.Proofs.Ytnomekfemadpeaa

/- The walk of the law TrackerRoom: it answers true. No condition. -/
import Derived.Test.YtnohglkilpnjhaaTrAwake
import Derived.Test.YtnohglkilpnjhaaTrUntil
import Derived.Test.YtnohglkilpnjhaaTrStep
import Derived.Test.YtnohglkilpnjhaaTrLeave
import Derived.Test.YtnohglkilpnjhaaTrExpire
namespace Go.Proofs.Ytnohglkilpnjhaa
open Go.RowKit
set_option linter.unusedVariables false
set_option linter.unusedSimpArgs false
set_option maxRecDepth 100000

theorem run_delete_nil_int (x : Int) (hx : KInt.ok x) (w : World) : (Builtin.delete_ #[41, 3] 0 #[.map none, .int .i64 x]).run Try.prog w = .ok (.tuple #[]) w :=
  Maps.drop_nil KInt.keyed Try.underlying41 (KInt.key hx) 0

/-- Ahead of each round of the first loop. -/
structure RoomI (w : World) (t mb ub : Nat) (k : Nat) (E : EntL) (U : UntL) (W : World) : Prop where
  tab : TabP W t 1000 64 mb E
  few : FewT k (tabOf E)
  unt : UntP W ub U
  sem : SemU U (tabOf E)
  own : ∀ j, ownE mb E j → w.heap.size ≤ j ∧ ¬ ownU ub U j
  ownu : ∀ j, ownU ub U j → w.heap.size ≤ j ∧ j ≠ t
  below : Below w.heap.size w W
  small : U.length ≤ k ∧ ∀ x ∈ U, x.2.2.length ≤ k
def RoomR (w : World) (t mb ub : Nat) (l : List StepL) (iv : Value) (W : World) : Prop := ∃ k E U, k ≤ l.length ∧ iv = .int .i64 ((k : Nat) : Int) ∧ RoomI w t mb ub k E U W

theorem And.next' {U : UntL} {k : Nat} (h : U.length ≤ k ∧ ∀ x ∈ U, x.2.2.length ≤ k) : U.length ≤ k + 1 ∧ ∀ x ∈ U, x.2.2.length ≤ k + 1 := ⟨by have := h.1; omega, fun x hx => by have := h.2 x hx; omega⟩
theorem RoomI.ok {w t mb ub k E U W} (h : RoomI w t mb ub k E U W) : EntOk 1000 64 E := h.few.ok
theorem RoomI.new {w t mb ub k E U W W'} (h : RoomI w t mb ub k E U W) (hb : Below W.heap.size W W') : RoomI w t mb ub k E U W' :=
  ⟨h.tab.of_new hb, h.few, h.unt.of_new hb, h.sem, h.own, h.ownu, below_next h.below hb, h.small⟩
theorem RoomI.next {w t mb ub k E U W} (h : RoomI w t mb ub k E U W) : RoomI w t mb ub (k + 1) E U W := ⟨h.tab, h.few.next, h.unt, h.sem, h.own, h.ownu, h.below, And.next' h.small⟩
/-- Behind a step of the table: the map of maps is as it was. -/
theorem RoomI.step {w t mb ub k E U W W' E'} (h : RoomI w t mb ub k E U W) (hs : TabStep mb E E' W W') :
    UntP W' ub U ∧ (∀ j, ownE mb E' j → w.heap.size ≤ j ∧ ¬ ownU ub U j) ∧ Below w.heap.size w W' := by
  refine ⟨h.unt.kept hs.kept (fun j hj hx => (h.own j hx).2 hj), fun j hj => ?_, hs.below h.below h.below.size (fun j hj => (h.own j hj).1)⟩
  rcases hs.own j hj with h1 | h1
  · exact h.own j h1
  · refine ⟨Nat.le_trans h.below.size h1, fun hu => ?_⟩
    have := h.unt.own_lt hu
    omega
/-- The step's block is as it was. -/
theorem RoomI.blk {w t mb ub k E U W W0 W' E' g x} (h : RoomI w t mb ub k E U W) (hs : TabStep mb E E' W0 W') (ho : RStep.O W0 g x) (hb : Below W.heap.size W W0) (hg : W.heap.size ≤ g) : RStep.O W' g x :=
  ho.of_block (hs.kept.block _ ho.lt fun hx => by have := h.tab.own_lt hx; omega)

/-- The blob has an entry: it stands first. -/
structure RoomM (w : World) (t mb ub k : Nat) (d : List UInt8) (b : Nat) (L : List (Int × Int)) (E : EntL) (U : UntL) (T : TabL) (W : World) : Prop where
  tab : TabP W t 1000 64 mb E
  unt : UntP W ub ((d, (b, L)) :: U)
  sem : SemU ((d, (b, L)) :: U) T
  own : ∀ j, ownE mb E j → w.heap.size ≤ j ∧ ¬ ownU ub ((d, (b, L)) :: U) j
  ownu : ∀ j, ownU ub ((d, (b, L)) :: U) j → w.heap.size ≤ j ∧ j ≠ t
  below : Below w.heap.size w W
  small : ((d, (b, L)) :: U).length ≤ k + 1 ∧ ∀ x ∈ (d, (b, L)) :: U, x.2.2.length ≤ k
theorem RoomM.found {w t mb ub k d b L E U U' T W} (hT : TabP W t 1000 64 mb E) (hu : UntP W ub U) (hs : SemU U T) (ho : ∀ j, ownE mb E j → w.heap.size ≤ j ∧ ¬ ownU ub U j) (hou : ∀ j, ownU ub U j → w.heap.size ≤ j ∧ j ≠ t) (hb : Below w.heap.size w W)
    (hp : U.Perm ((d, (b, L)) :: U')) (hz : U.length ≤ k ∧ ∀ x ∈ U, x.2.2.length ≤ k) : RoomM w t mb ub k d b L E U' T W :=
  ⟨hT, hu.perm hp, hs.perm hp, fun j hj => ⟨(ho j hj).1, fun h => (ho j hj).2 ((ownU_perm hp).1 h)⟩, fun j hj => hou j ((ownU_perm hp).1 hj), hb, by rw [← hp.length_eq]; have := hz.1; omega, fun x hx => hz.2 x (hp.mem_iff.2 hx)⟩
theorem RoomM.made {w t mb ub k d E U T W W'} (hT : TabP W t 1000 64 mb E) (hu : UntP W ub U) (hs : SemU U T) (ho : ∀ j, ownE mb E j → w.heap.size ≤ j ∧ ¬ ownU ub U j) (hou : ∀ j, ownU ub U j → w.heap.size ≤ j ∧ j ≠ t) (hb : Below w.heap.size w W)
    (h32 : d.length = 32) (hno : ∀ x ∈ U, x.1 ≠ d) (hm : MapL KDig W' ub (putM (U.map outU) d (.map (some W.heap.size)))) (hg : (W.alloc (.map #[] 0)).grownBy W' (some ub)) (hz : U.length ≤ k ∧ ∀ x ∈ U, x.2.2.length ≤ k) : RoomM w t mb ub k d W.heap.size [] E U T W' := by
  have hba : Below W.heap.size W (W.alloc (.map #[] 0)) := (Below.refl _ W).alloc (Nat.le_refl _) _
  have hub : ownU ub U ub := .inl rfl
  have hlt := fun j (hj : ownU ub U j) => hu.own_lt hj
  have hk : Kept (fun j => j ≠ ub) (W.alloc (.map #[] 0)) W' := (Kept.refl _ _).grown hg (fun r e => by cases e; exact fun h => h rfl)
  have hsz : W.heap.size < (W.alloc (.map #[] 0)).heap.size := by simp
  refine ⟨(hT.of_new hba).kept hk (fun e => (hou ub hub).2 e.symm) (fun j hj e => (ho j hj).2 (e ▸ hub)), (hu.of_new hba).new hno (mapL_made W) (fun h => by have := hlt _ h; omega) hm hg, hs.new hno h32 _, fun j hj => ⟨(ho j hj).1, fun h => ?_⟩, fun j hj => ?_, ?_, by have := hz.1; simp; omega, fun x hx => ?_⟩
  · rcases h with e | ⟨x, hx, e⟩
    · exact (ho j hj).2 (.inl e)
    · rcases List.mem_cons.1 hx with rfl | hx
      · have h1 := hT.own_lt hj
        have h2 : W.heap.size = j := e
        omega
      · exact (ho j hj).2 (.inr ⟨x, hx, e⟩)
  · rcases hj with e | ⟨x, hx, e⟩
    · exact hou j (.inl e)
    · rcases List.mem_cons.1 hx with rfl | hx
      · have h1 := hT.lt
        have h2 : W.heap.size = j := e
        have h3 := hb.size
        exact ⟨by omega, by omega⟩
      · exact hou j (.inr ⟨x, hx, e⟩)
  · exact (below_next hb hba).grown hg (by have := hb.size; simp; omega) (fun r e => by cases e; exact (hou ub hub).1)
  · rcases List.mem_cons.1 hx with rfl | hx
    · exact Nat.zero_le _
    · exact hz.2 x hx
theorem putU_len (L : List (Int × Int)) (id n : Int) : (putU L id n).length ≤ L.length + 1 := by
  unfold putU
  rw [List.length_cons]
  have : (L.filter (fun p => !decide (p.1 = id))).length ≤ L.length := List.length_filter_le _ _
  omega
theorem cutU_len (L : List (Int × Int)) (id : Int) : (cutU L id).length ≤ L.length + 1 := by
  have : (L.filter (fun p => !decide (p.1 = id))).length ≤ L.length := List.length_filter_le _ _
  unfold cutU; omega
theorem RoomM.new {w t mb ub k d b L E U T W W'} (h : RoomM w t mb ub k d b L E U T W) (hb : Below W.heap.size W W') : RoomM w t mb ub k d b L E U T W' :=
  ⟨h.tab.of_new hb, h.unt.of_new hb, h.sem, h.own, h.ownu, below_next h.below hb, h.small⟩
/-- The entry's map is written. -/
theorem RoomM.put {w t mb ub k d b L L' E U T T' W W'} (h : RoomM w t mb ub k d b L E U T W) (hln : L'.length ≤ L.length + 1) (hm : MapL KInt W' b (L'.map inU)) (hg : W.grownBy W' (some b)) {id n : Int} (hL : ∀ id', valU L' id' = if id = id' then n else valU L id')
    (hT : ∀ d' id', tillT d' id' T' = if natL d = natL d' ∧ id = id' then n else tillT d' id' T) (hf : FewT (k + 1) T') (hE : tabOf E = T') : RoomI w t mb ub (k + 1) E ((d, (b, L')) :: U) W' := by
  have hob : ownU ub ((d, (b, L)) :: U) b := .inr ⟨_, List.mem_cons_self, rfl⟩
  have hsame : ∀ j, ownU ub ((d, (b, L')) :: U) j ↔ ownU ub ((d, (b, L)) :: U) j := fun j => by
    unfold ownU
    constructor
    · rintro (e | ⟨x, hx, e⟩)
      · exact .inl e
      · rcases List.mem_cons.1 hx with rfl | hx
        · exact .inr ⟨(d, (b, L)), by simp, e⟩
        · exact .inr ⟨x, by simp [hx], e⟩
    · rintro (e | ⟨x, hx, e⟩)
      · exact .inl e
      · rcases List.mem_cons.1 hx with rfl | hx
        · exact .inr ⟨_, List.mem_cons_self, e⟩
        · exact .inr ⟨x, by simp [hx], e⟩
  have hk : Kept (fun j => j ≠ b) W W' := (Kept.refl _ _).grown hg (fun r e => by cases e; exact fun h => h rfl)
  refine ⟨h.tab.kept hk (fun e => (h.ownu b hob).2 e.symm) (fun j hj e => (h.own j hj).2 (e ▸ hob)), by rw [hE]; exact hf, h.unt.set hm hg, by rw [hE]; exact h.sem.set h.unt.cons_ne hL hT, fun j hj => ⟨(h.own j hj).1, fun q => (h.own j hj).2 ((hsame j).1 q)⟩, fun j hj => h.ownu j ((hsame j).1 hj), ?_, by have := h.small.1; simpa using this, fun x hx => ?_⟩
  · exact h.below.grown hg h.below.size (fun r e => by cases e; exact (h.ownu b hob).1)
  · rcases List.mem_cons.1 hx with rfl | hx
    · have := h.small.2 (d, (b, L)) (by simp)
      have h2 : L.length ≤ k := this
      show L'.length ≤ k + 1
      omega
    · have := h.small.2 x (by simp [hx]); omega

theorem RStepO_do {w g x} (h : RStep.O w g x) : w.cell? ⟨g, 0, none⟩ = some (.int .i64 x.act) := RStep_do h.at_
theorem RStepO_id {w g x} (h : RStep.O w g x) : w.cell? ⟨g, 33, none⟩ = some (.int .i64 x.id) := RStep_id h.at_
theorem RStepO_now {w g x} (h : RStep.O w g x) : w.cell? ⟨g, 34, none⟩ = some (.int .i64 x.now) := RStep_now h.at_
theorem RStepO_life {w g x} (h : RStep.O w g x) : w.cell? ⟨g, 35, none⟩ = some (.int .i64 x.life) := RStep_life h.at_
theorem RStepO_seed {w g x} (h : RStep.O w g x) : w.cell? ⟨g, 36, none⟩ = some (.bool x.seed) := RStep_seed h.at_
theorem RStepO_dig {w g x} (h : RStep.O w g x) : DigAt w g 1 x.dig := RStep_dig h.at_

/-- What is looked up in it. -/
theorem UntP.looks {w : World} {ub : Nat} {U : UntL} {T : TabL} {d : List UInt8} (h : UntP w ub U) (hs : SemU U T) (h32 : d.length = 32) {id : Int} (hid : KInt.ok id) :
    ∃ m, ∀ w', Below w.heap.size w w' → (Instr.lookup 38 (.map (some ub)) (.agg (d.map B8).toArray) false).run Try.prog w' = .ok m w' ∧ (Instr.lookup 41 m (.int .i64 id) false).run Try.prog w' = .ok (.int .i64 (tillT d id T)) w' := by
  rcases h.find h32 with ⟨hno, hg⟩ | ⟨b, L, U', hp, hg⟩
  · refine ⟨.map none, fun w' hb => ⟨?_, ?_⟩⟩
    · have h1 := (h.of_new hb).map.look (t := 38) Try.underlying38 (Try.zeroValue41 w') (KT := KDig) (x := d) h32
      rw [hg] at h1
      exact h1
    · have h1 := Maps.look_nil (P := Try.prog) (w := w') (t := 41) false KInt.keyed Try.underlying41 (Try.zeroValue3 w') (KInt.key hid)
      rw [hs.none d hno id h32]
      exact h1
  · refine ⟨.map (some b), fun w' hb => ⟨?_, ?_⟩⟩
    · have h1 := (h.of_new hb).map.look (t := 38) Try.underlying38 (Try.zeroValue41 w') (KT := KDig) (x := d) h32
      rw [hg] at h1
      exact h1
    · have h1 := (((h.of_new hb).perm hp).ins _ List.mem_cons_self).look (t := 41) Try.underlying41 (Try.zeroValue3 w') (KT := KInt) (x := id) hid
      rw [getL_inU] at h1
      have h2 : valU L id = tillT d id T := ((hs.perm hp).there (d, (b, L)) List.mem_cons_self).2 id
      rw [← h2]
      exact h1
theorem take_snoc_at {α : Type} {l : List α} {k : Nat} {y : α} (hy : l[k]? = some y) : l.take (k + 1) = l.take k ++ [y] := by rw [List.take_add_one, hy]; rfl
set_option maxHeartbeats 6400000 in
theorem TrackerRoom_walk (v : Value) (l : List StepL) (now : Int) (w : World) (hl : RStep.Row w v l) (hn1 : -9223372036854775808 ≤ now) (hn2 : now ≤ 9223372036854775807) :
    Calls Try.prog 4 #[v, .int .i64 now] w fun e w' => e = .returned (.bool true) ∧ Below w.heap.size w w' := by
  obtain ⟨a, c, hv⟩ := hl.len
  subst hv
  have hle := hl.le
  have HL := Lib.hid hl
  clear hl
  have hmm := @run_makeMap Try.prog
  have heq := fun (w : World) (r : Option Nat) => run_eql_map_nil (P := Try.prog) w 41 3 3 r Try.underlying41
  go_enter Try.func4, Try.ntmps4
  go_upto_region 3 with (first
    | (go_at_call 9; refine (awake_any _).mono ?_; rintro e w1 ⟨rfl, hb1⟩; have HB1 := Lib.hid hb1; clear hb1)
    | (go_at_call 10; refine (New_ok 1000 64 _ (by decide)).mono ?_; rintro e w2 ⟨t, mb, rfl, hT2, ht2, hmb2, hb2⟩; have HB2 := Lib.hid (below_next HB1.out hb2); have HT2 := Lib.hid hT2; have HM2 := Lib.hid (Nat.le_trans HB1.out.size hmb2); clear hb2 hT2 ht2 hmb2))
  by_cases h60 : 60 < l.length
  · have t1 : (60 : Int) < (l.length : Int) := by omega
    go_wp2
    go_ret
    exact ⟨rfl, HB2.out⟩
  have t1 : ¬ (60 : Int) < (l.length : Int) := by omega
  go_upto_region 6 with (fail)
  obtain ⟨w3, hw3⟩ : ∃ w3, w2.alloc (.map #[] 0) = w3 := ⟨_, rfl⟩
  have hst : RoomI w t mb w2.heap.size 0 [] [] w3 := by
    have hb3 : Below w2.heap.size w2 w3 := by rw [← hw3]; exact (Below.refl _ w2).alloc (Nat.le_refl _) _
    have hs := HB2.out.size
    refine ⟨HT2.out.of_new hb3, FewT.nil, by rw [← hw3]; exact untP_made w2, SemU.nil, fun j hj => ?_, fun j hj => ?_, below_next HB2.out hb3, Nat.le_refl _, fun x hx => (by cases hx)⟩
    · rcases hj with rfl | ⟨x, hx, _⟩
      · refine ⟨HM2.out, fun hu => ?_⟩
        have := HT2.out.own_lt (.inl rfl)
        rcases hu with e | ⟨x, hx, _⟩
        · omega
        · cases hx
      · cases hx
    · rcases hj with rfl | ⟨x, hx, _⟩
      · have := HT2.out.lt
        exact ⟨hs, by omega⟩
      · cases hx
  have HST := Lib.hid hst
  rw [hw3]
  obtain ⟨ub, hub⟩ : ∃ ub, w2.heap.size = ub := ⟨_, rfl⟩
  rw [hub] at hst ⊢
  have HST := Lib.hid hst
  clear hst hw3 hub
  go_wp2
  go_loopw [9, 10, 11] (fun iv _ _ W => RoomR w t mb ub l iv W) (fun iv _ _ _ => l.length - (intOf iv).toNat)
  case atStart => exact ⟨0, [], [], Nat.zero_le _, rfl, HST.out⟩
  case round =>
    obtain ⟨k, E, U, hk, rfl, hI⟩ := hrel
    by_cases hlt : k < l.length
    · have hki : (k : Int) < (l.length : Int) := by omega
      obtain ⟨b, off, c', hv, hbl, hc⟩ := HL.out.at_ (by omega)
      obtain ⟨rfl, rfl⟩ : a = some ⟨b, off, none⟩ ∧ c = c' := by cases hv; exact ⟨rfl, rfl⟩
      obtain ⟨x, hx⟩ : ∃ x, l[k]? = some x := ⟨_, List.getElem?_eq_getElem hlt⟩
      have hat : RStep.At wr b (off + k * 37) x := by
        have h1 := hc k x hx
        refine ⟨h1.1, Nat.lt_of_lt_of_le h1.2.1 hI.below.size, fun j hj => (hI.below.cell (p := ⟨b, off + k * 37 + j, none⟩) h1.2.1).trans (h1.2.2 j hj)⟩
      have hxo : RStep.ok x := hat.1
      have hsz := hI.below.size
      have HI := Lib.hid hI
      have HAT := Lib.hid hat
      have HXO := Lib.hid hxo
      clear hv hc hx hI hat hxo hsz
      go_upto_region 10 with (first
        | ((with_reducible refine wpList_plain (o := ⟨some 54, Op.load _ _, _, _, _, _⟩) rfl fun K hK => ?_); (refine HAT.out.wp rfl rfl (hK _ _ ?_)))
        | ((with_reducible refine wpList_plain (o := ⟨some 10, Op.alloc _, _, _, _, _⟩) rfl fun K hK => ?_); (refine RStep.wp_alloc rfl fun w4 ho4 hb4 hs4 => hK _ _ ?_); have HO4 := Lib.hid ho4; have HB4 := Lib.hid hb4; clear ho4 hb4 hs4)
        | ((with_reducible refine wpList_plain (o := ⟨none, Op.store _ (.tmp 10) (.tmp 54), _, _, _, _⟩) rfl fun K hK => ?_); (refine HO4.out.store (.tmp 10) (.tmp 54) rfl rfl rfl HXO.out fun w5 ho5 hg5 hs5 => hK _ _ ?_); have HO5 := Lib.hid ho5; have HB5 := Lib.hid (HB4.out.grown hg5 (by have := HB4.out.size; omega) (fun k e => by cases e; exact Nat.le_refl _)); clear ho5 hg5 hs5))
      have hbi := HXO.out.2.2.1
      have hbn := HXO.out.2.2.2.1
      have hbf := HXO.out.2.2.2.2
      unfold inI64 at hbi hbn hbf
      have h32 : x.dig.length = 32 := HXO.out.1
      have H32 := Lib.hid h32
      obtain ⟨g, hg⟩ : ∃ g, wr.heap.size = g := ⟨_, rfl⟩
      rw [hg] at HO5 ⊢
      have HGE := Lib.hid (Nat.le_of_eq hg)
      clear hg h32
      have hdo := RStepO_do HO5.out
      have hcid := RStepO_id HO5.out
      have hcnow := RStepO_now HO5.out
      have hclife := RStepO_life HO5.out
      have hcseed := RStepO_seed HO5.out
      have hdig := Lib.hid (RStepO_dig HO5.out)
      have HI5 := Lib.hid (HI.out.new HB5.out)
      by_cases h0 : x.act = 0
      · rw [h0] at hdo
        have hfew : (annT 1000 64 (tabOf E) x.dig x.id x.now x.life x.seed) = _ := ann_roomy HI5.out.few (by omega) x.dig x.id x.now x.life x.seed
        have HFW := Lib.hid hfew
        have HKF := Lib.hid (HI5.out.few.ann (by omega) H32.out x.id x.now x.life x.seed)
        clear hfew
        rcases ha : argsB x.id x.now x.life with _ | _
        · have hcode := HFW.out
          rw [ha, if_neg (by decide)] at hcode
          have HC := Lib.hid hcode
          clear hcode ha
          go_upto_region 12 with (first
            | ((with_reducible refine wpList_plain (o := ⟨some 60, Op.load _ _, _, _, _, _⟩) rfl fun K hK => ?_); (refine wp_load_at (ty := 30) (x := .tmp 59) rfl rfl hdig.out (hK _ _ ?_)))
            | (go_at_call 11; refine (Announce_any t mb 1000 64 E x.dig x.id x.now x.life x.seed _ HI5.out.tab HI5.out.ok (by decide) (by decide) H32.out).mono ?_; unfold AnnPost; rintro e w8 ⟨E8, h8, he8, hT8, hs8⟩; rw [HC.out] at he8 h8; subst he8; have HAN := Lib.hid h8; have HT8 := Lib.hid hT8; have HS8 := Lib.hid hs8; clear h8 hT8 hs8))
          obtain ⟨hu8, ho8, hb8⟩ := HI5.out.step HS8.out
          have hO8 := HI.out.blk HS8.out HO5.out HB5.out HGE.out
          have h9 : RoomI w t mb ub (k + 1) E8 U w8 := ⟨HT8.out, by rw [HAN.out]; exact HI5.out.few.next, hu8, by rw [HAN.out]; exact HI5.out.sem, ho8, HI5.out.ownu, hb8, And.next' HI5.out.small⟩
          have hdo8 := RStepO_do hO8
          rw [h0] at hdo8
          have H9 := Lib.hid h9
          clear hu8 ho8 hb8 hO8 h9 hdo hcid hcnow hclife hcseed hbi hbn hbf
          go_wp2
          go_roundw
          case rel => exact ⟨k + 1, E8, U, by omega, by go_num, H9.out⟩
          case measure => simp [intOf]; omega
        · have hcode := HFW.out
          rw [if_pos ha] at hcode
          have HC := Lib.hid (congrArg (·.2) hcode)
          have HTA := Lib.hid (fun d' id' => tillT_ann HI5.out.few (by omega) x.dig d' x.id id' x.now x.life x.seed ha)
          have HAR := Lib.hid ha
          clear hcode ha
          go_upto_region 12 with (first
            | ((with_reducible refine wpList_plain (o := ⟨some 60, Op.load _ _, _, _, _, _⟩) rfl fun K hK => ?_); (refine wp_load_at (ty := 30) (x := .tmp 59) rfl rfl hdig.out (hK _ _ ?_)))
            | (go_at_call 11; refine (Announce_any t mb 1000 64 E x.dig x.id x.now x.life x.seed _ HI5.out.tab HI5.out.ok (by decide) (by decide) H32.out).mono ?_; unfold AnnPost; rintro e w8 ⟨E8, h8, he8, hT8, hs8⟩; rw [show (annT 1000 64 (tabOf E) x.dig x.id x.now x.life x.seed).2 = 0 from HC.out] at he8; subst he8; have HAN := Lib.hid h8; have HT8 := Lib.hid hT8; have HS8 := Lib.hid hs8; clear h8 hT8 hs8))
          obtain ⟨hu8, ho8, hb8⟩ := HI5.out.step HS8.out
          have hO8 := HI.out.blk HS8.out HO5.out HB5.out HGE.out
          have HUL := Lib.hid (show U.length ≤ 1099511627776 by have := HI5.out.small.1; omega)
          have hne : ¬ ownU ub U g := fun hu => by have h1 := HI.out.unt.own_lt hu; have h2 := HGE.out; omega
          have hdo8 := RStepO_do hO8
          rw [h0] at hdo8
          have hdig8 := Lib.hid (RStepO_dig hO8)
          have HO8 := Lib.hid hO8
          have HNE := Lib.hid hne
          have hlk := hu8.map.look (t := 38) Try.underlying38 (Try.zeroValue41 w8) (KT := KDig) (x := x.dig) H32.out
          clear hdo hcid hcnow hclife hcseed hO8 hne
          rcases hu8.find H32.out with ⟨hno, hg⟩ | ⟨b1, L, U', hp, hg⟩
          case' inl =>
            rw [hg] at hlk
            replace hlk : (Instr.lookup 38 (.map (some ub)) (.agg (x.dig.map B8).toArray) false).run Try.prog w8 = .ok (.map none) w8 := hlk
            obtain ⟨w9, hput, hm9, hg9, hs9⟩ := (hu8.map.of_new ((Below.refl _ w8).alloc (Nat.le_refl _) (.map #[] 0))).put (t := 38) Try.underlying38 (KT := KDig) (x := x.dig) H32.out (.map (some w8.heap.size)) (by rw [List.length_map]; exact HUL.out)
            replace hput : (Instr.mapUpdate 38 (.map (some ub)) (.agg (x.dig.map B8).toArray) (.map (some w8.heap.size))).run Try.prog (w8.alloc (.map #[] 0)) = .ok () w9 := hput
            have hM9 := RoomM.made HT8.out hu8 HI5.out.sem ho8 HI5.out.ownu hb8 H32.out hno hm9 hg9 HI5.out.small
            have hO9 : RStep.O w9 g x := (HO8.out.of_new ((Below.refl _ w8).alloc (Nat.le_refl _) (.map #[] 0))).of_block (hg9.block _ (HO8.out.of_new ((Below.refl _ w8).alloc (Nat.le_refl _) (.map #[] 0))).lt (fun e => HNE.out (.inl (Option.some.inj e))))
            have HO9 := Lib.hid hO9
            have hgb : g ≠ w8.heap.size := by have := HO8.out.lt; omega
            obtain ⟨b1, L, U', hM, hGB⟩ : ∃ b1 L U', RoomM w t mb ub k x.dig b1 L E8 U' (tabOf E) w9 ∧ g ≠ b1 := ⟨_, _, _, hM9, hgb⟩
            have HM9 := Lib.hid hM
            have HGB := Lib.hid hGB
            clear hu8 ho8 hb8 hg hno hm9 hg9 hs9 hM9 hM hO9 hgb hGB
            go_upto_region 15 with (first
              | ((with_reducible refine wpList_plain (o := ⟨some 74, Op.load _ _, _, _, _, _⟩) rfl fun K hK => ?_); (refine wp_load_at (ty := 30) (x := .tmp 73) rfl rfl hdig8.out (hK _ _ ?_)))
              | ((with_reducible refine wpList_plain (o := ⟨some 79, Op.load _ _, _, _, _, _⟩) rfl fun K hK => ?_); (refine wp_load_at (ty := 30) (x := .tmp 78) rfl rfl hdig8.out (hK _ _ ?_))))
            clear hlk hput hdo8
          case' inr =>
            rw [hg] at hlk
            replace hlk : (Instr.lookup 38 (.map (some ub)) (.agg (x.dig.map B8).toArray) false).run Try.prog w8 = .ok (.map (some b1)) w8 := hlk
            have HM9 := Lib.hid (RoomM.found HT8.out hu8 HI5.out.sem ho8 HI5.out.ownu hb8 hp HI5.out.small)
            have HGB := Lib.hid (show g ≠ b1 from fun e => HNE.out (e ▸ ((ownU_perm hp).1 (.inr ⟨_, List.mem_cons_self, rfl⟩))))
            have HO9 := HO8
            clear hu8 ho8 hb8 hg hp
            go_upto_region 15 with (first
              | ((with_reducible refine wpList_plain (o := ⟨some 74, Op.load _ _, _, _, _, _⟩) rfl fun K hK => ?_); (refine wp_load_at (ty := 30) (x := .tmp 73) rfl rfl hdig8.out (hK _ _ ?_))))
            clear hlk hdo8
            obtain ⟨w9, rfl⟩ : ∃ w9, w9 = w8 := ⟨_, rfl⟩
          all_goals
            clear HO8 hdig8 HI5 HS8 HT8
            have hcid := fun w' (h : Grew w9 w') => Grew.cell h (RStepO_id HO9.out)
            have hcnow := fun w' (h : Grew w9 w') => Grew.cell h (RStepO_now HO9.out)
            have hclife := fun w' (h : Grew w9 w') => Grew.cell h (RStepO_life HO9.out)
            have hdg := RStepO_dig HO9.out
            have hlkO : ∀ w', Grew w9 w' → (Instr.lookup 38 (.map (some ub)) (.agg (x.dig.map B8).toArray) false).run Try.prog w' = .ok (.map (some b1)) w' := fun w' hw => by
              have h1 := (HM9.out.unt.of_new hw).map.look (t := 38) Try.underlying38 (Try.zeroValue41 w') (KT := KDig) (x := x.dig) H32.out
              have h2 : getL (((x.dig, (b1, L)) :: U').map outU) x.dig = some (.map (some b1)) := by simp [getL, outU]
              rw [h2] at h1
              exact h1
            obtain ⟨V, hV⟩ : ∃ V, valU L x.id = V := ⟨_, rfl⟩
            have HXI := Lib.hid (show KInt.ok x.id from hbi)
            have hlkI : ∀ w', Grew w9 w' → (Instr.lookup 41 (.map (some b1)) (.int .i64 x.id) false).run Try.prog w' = .ok (.int .i64 V) w' := fun w' hw => by
              have h1 := ((HM9.out.unt.of_new hw).ins _ List.mem_cons_self).look (t := 41) Try.underlying41 (Try.zeroValue3 w') (KT := KInt) (x := x.id) HXI.out
              rw [getL_inU, hV] at h1
              exact h1
            have harg := HAR.out
            simp only [argsB, Bool.and_eq_true, decide_eq_true_eq] at harg
            have hsum : IntKind.i64.wrap (x.now + x.life) = x.now + x.life := by simp only [IntKind.wrap_i64]; omega
            have hVT : V = tillT x.dig x.id (tabOf E) := by rw [← hV]; exact (HM9.out.sem.there (x.dig, (b1, L)) List.mem_cons_self).2 x.id
            have HV := Lib.hid hV
            have HVT := Lib.hid hVT
            clear hV hVT harg hbi hbn hbf
            refine wp_region_grew_tail 19 (by kernel_rfl) (by kernel_rfl) ?_
            simp only [List.take_succ_cons, List.take_zero, List.drop_succ_cons, List.drop_zero]
            repeat (first
              | (go_big_quiet_want; (with_reducible apply quiet_load_at (ty := 30) (x := .tmp _)); rfl; rfl; assumption; go_simp; go_big_quiet_on)
              | (go_big_quiet_want; apply quiet_val; (intro w' hw'; go_simp; first | done | rfl); go_simp; go_big_quiet_on)
              | (go_big_quiet_skip))
            refine wpQuiet_nil ?_
            intro w10 hw10
            obtain ⟨M, hMe⟩ : ∃ M, max V (x.now + x.life) = M := ⟨_, rfl⟩
            have hM10 := HM9.out.new hw10
            have hLk : L.length ≤ k := hM10.small.2 (x.dig, (b1, L)) List.mem_cons_self
            obtain ⟨w11, hput, hm11, hg11, hs11⟩ := (hM10.unt.ins _ List.mem_cons_self).put (t := 41) Try.underlying41 (KT := KInt) (x := x.id) HXI.out (.int .i64 M) (by rw [List.length_map]; show L.length ≤ _; omega)
            replace hput : (Instr.mapUpdate 41 (.map (some b1)) (.int .i64 x.id) (.int .i64 M)).run Try.prog w10 = .ok () w11 := hput
            rw [putM_inU] at hm11
            replace hm11 : MapL KInt w11 b1 ((putU L x.id M).map inU) := hm11
            have hI11 := hM10.put (putU_len L x.id M) hm11 hg11 (fun id' => valU_put L x.id M id') (fun d' id' => by rw [HTA.out, ← HVT.out, hMe]) HKF.out HAN.out
            have hO11 : RStep.O w11 g x := (HO9.out.of_new hw10).of_block (hg11.block _ (HO9.out.of_new hw10).lt (fun e => HGB.out (Option.some.inj e)))
            have hdo := RStepO_do hO11
            rw [h0] at hdo
            have HI11 := Lib.hid hI11
            clear hcid hcnow hclife hdg hlkO hlkI hM10 hLk hm11 hg11 hs11 hI11 hO11 hw10
            try rw [hMe]
            go_wp2
            go_roundw
            case rel => exact ⟨k + 1, E8, _, by omega, by go_num, HI11.out⟩
            case measure => simp [intOf]; omega
      · have hb0 : (x.act == 0) = false := beq_eq_false_iff_ne.2 h0
        by_cases h1 : x.act = 1
        case neg =>
          have hb1 : (x.act == 1) = false := beq_eq_false_iff_ne.2 h1
          have HI9 := Lib.hid HI5.out.next
          clear hcid hcnow hclife hcseed hbi hbn hbf h1 h0
          go_wp2
          go_roundw
          case rel => exact ⟨k + 1, E, U, by omega, by go_num, HI9.out⟩
          case measure => simp [intOf]; omega
        rw [h1] at hdo
        clear hb0
        have HTL := Lib.hid (fun d' id' => tillT_leave HI5.out.few x.dig d' x.id id')
        have HKF := Lib.hid (HI5.out.few.leave H32.out x.id)
        have HXI := Lib.hid (show KInt.ok x.id from hbi)
        clear h0
        go_upto_region 18 with (first
          | ((with_reducible refine wpList_plain (o := ⟨some 105, Op.load _ _, _, _, _, _⟩) rfl fun K hK => ?_); (refine wp_load_at (ty := 30) (x := .tmp 104) rfl rfl hdig.out (hK _ _ ?_)))
          | (go_at_call 13; refine (Leave_any t mb 1000 64 E x.dig x.id _ HI5.out.tab HI5.out.ok (by decide) (by decide) H32.out HXI.out).mono ?_; unfold LeavePost; rintro e w8 ⟨E8, h8, rfl, hT8, hs8, -⟩; have HAN := Lib.hid h8; have HT8 := Lib.hid hT8; have HS8 := Lib.hid hs8; clear h8 hT8 hs8))
        obtain ⟨hu8, ho8, hb8⟩ := HI5.out.step HS8.out
        have hO8 := HI.out.blk HS8.out HO5.out HB5.out HGE.out
        have hne : ¬ ownU ub U g := fun hu => by have h1 := HI.out.unt.own_lt hu; have h2 := HGE.out; omega
        have HO8 := Lib.hid hO8
        have HNE := Lib.hid hne
        clear hdo hcid hcnow hclife hcseed hO8 hne hbi hbn hbf h1
        have hcid := fun w' (h : Grew w8 w') => Grew.cell h (RStepO_id HO8.out)
        have hdg := RStepO_dig HO8.out
        have HZ := Lib.hid HI5.out.small
        rcases hu8.find H32.out with ⟨hno, hg⟩ | ⟨b1, L, U', hp, hg⟩
        · have hlkO : ∀ w', Grew w8 w' → (Instr.lookup 38 (.map (some ub)) (.agg (x.dig.map B8).toArray) false).run Try.prog w' = .ok (.map none) w' := fun w' hw => by
            have h1 := (hu8.of_new hw).map.look (t := 38) Try.underlying38 (Try.zeroValue41 w') (KT := KDig) (x := x.dig) H32.out
            rw [hg] at h1
            exact h1
          have HU8 := Lib.hid hu8
          have HO88 := Lib.hid ho8
          have HB8 := Lib.hid hb8
          have HNO := Lib.hid hno
          clear hu8 ho8 hb8 hno hg
          refine wp_region_grew_tail 6 (by kernel_rfl) (by kernel_rfl) ?_
          simp only [List.take_succ_cons, List.take_zero, List.drop_succ_cons, List.drop_zero]
          repeat (first
            | (go_big_quiet_want; (with_reducible apply quiet_load_at (ty := 30) (x := .tmp _)); rfl; rfl; assumption; go_simp; go_big_quiet_on)
            | (go_big_quiet_want; apply quiet_val; (intro w' hw'; go_simp; first | done | rfl); go_simp; go_big_quiet_on)
            | (go_big_quiet_skip))
          refine wpQuiet_nil ?_
          intro w10 hw10
          have hdel := run_delete_nil_int x.id HXI.out w10
          have hI10 : RoomI w t mb ub (k + 1) E8 U w10 := ⟨HT8.out.of_new hw10, by rw [HAN.out]; exact HKF.out, HU8.out.of_new hw10, by rw [HAN.out]; exact HI5.out.sem.same HNO.out H32.out HTL.out, HO88.out, HI5.out.ownu, below_next HB8.out hw10, And.next' HZ.out⟩
          have HI10 := Lib.hid hI10
          clear hI10 hcid hdg hlkO hw10
          go_wp2
          go_roundw
          case rel => exact ⟨k + 1, E8, U, by omega, by go_num, HI10.out⟩
          case measure => simp [intOf]; omega
        · have hM8 := RoomM.found HT8.out hu8 HI5.out.sem ho8 HI5.out.ownu hb8 hp HZ.out
          have HM8 := Lib.hid hM8
          have hlkO : ∀ w', Grew w8 w' → (Instr.lookup 38 (.map (some ub)) (.agg (x.dig.map B8).toArray) false).run Try.prog w' = .ok (.map (some b1)) w' := fun w' hw => by
            have h1 := (hu8.of_new hw).map.look (t := 38) Try.underlying38 (Try.zeroValue41 w') (KT := KDig) (x := x.dig) H32.out
            rw [hg] at h1
            exact h1
          clear hu8 ho8 hb8 hp hg hM8
          refine wp_region_grew_tail 6 (by kernel_rfl) (by kernel_rfl) ?_
          simp only [List.take_succ_cons, List.take_zero, List.drop_succ_cons, List.drop_zero]
          repeat (first
            | (go_big_quiet_want; (with_reducible apply quiet_load_at (ty := 30) (x := .tmp _)); rfl; rfl; assumption; go_simp; go_big_quiet_on)
            | (go_big_quiet_want; apply quiet_val; (intro w' hw'; go_simp; first | done | rfl); go_simp; go_big_quiet_on)
            | (go_big_quiet_skip))
          refine wpQuiet_nil ?_
          intro w10 hw10
          have hM10 := HM8.out.new hw10
          obtain ⟨w11, hdel, hm11, hg11, hs11⟩ := (hM10.unt.ins _ List.mem_cons_self).del (t := 41) Try.underlying41 (KT := KInt) (x := x.id) HXI.out 0
          replace hdel : (Builtin.delete_ #[41, 3] 0 #[.map (some b1), .int .i64 x.id]).run Try.prog w10 = .ok (.tuple #[]) w11 := hdel
          rw [delL_inU] at hm11
          replace hm11 : MapL KInt w11 b1 ((cutU L x.id).map inU) := hm11
          have hI11 := hM10.put (cutU_len L x.id) hm11 hg11 (fun id' => valU_cut L x.id id') HTL.out HKF.out HAN.out
          have HI11 := Lib.hid hI11
          clear hcid hdg hlkO hM10 hm11 hg11 hs11 hI11 hw10
          go_wp2
          go_roundw
          case rel => exact ⟨k + 1, E8, _, by omega, by go_num, HI11.out⟩
          case measure => simp [intOf]; omega
    · obtain rfl : k = l.length := by omega
      obtain ⟨n, hn⟩ : ∃ n, l.length = n := ⟨_, rfl⟩
      have HNL := Lib.hid hn
      have HI := Lib.hid hI
      rw [hn] at t1 hle ⊢
      have hki : ¬ (n : Int) < (n : Int) := by omega
      clear hI hk hlt hn
      go_upto_region 20 with (go_at_call 14; refine (Expire_any t mb 1000 64 E now _ HI.out.tab HI.out.ok (by decide) (by decide)).mono ?_; unfold ExpPost; rintro e w8 ⟨E8, h8, rfl, hT8, hs8, -⟩; have HX8 := Lib.hid h8; have HT8 := Lib.hid hT8; have HS8 := Lib.hid hs8; clear h8 hT8 hs8)
      have hst := HI.out.step HS8.out
      have HU8 := Lib.hid hst.1
      have HB8 := Lib.hid hst.2.2
      have hok8 : EntOk 1000 64 E8 := by unfold EntOk; rw [HX8.out]; exact TabOk.exp HI.out.ok now
      have HOK8 := Lib.hid hok8
      have HTX := Lib.hid (fun d id => tillT_exp HI.out.ok now d id)
      clear hst hok8 hki heq hmm
      go_wp2
      go_loopw [12, 13, 14, 15, 16, 17, 18] (fun iv _ _ _ _ _ _ W => ∃ i : Nat, i ≤ n ∧ iv = .int .i64 (i : Int) ∧ Below w8.heap.size w8 W) (fun iv _ _ _ _ _ _ _ => n - (intOf iv).toNat)
      case atStart => exact ⟨0, Nat.zero_le _, rfl, Below.refl _ _⟩
      case round =>
        rename World => w9
        obtain ⟨i, hi, rfl, hb9⟩ := hrel
        by_cases hlt : i < n
        · have hki : (i : Int) < (n : Int) := by omega
          obtain ⟨b, off, c', hv, hbl, hc⟩ := HL.out.at_ (by rw [HNL.out]; omega)
          rw [HNL.out] at hv
          obtain ⟨rfl, rfl⟩ : a = some ⟨b, off, none⟩ ∧ c = c' := by cases hv; exact ⟨rfl, rfl⟩
          obtain ⟨x, hx⟩ : ∃ x, l[i]? = some x := ⟨_, List.getElem?_eq_getElem (by rw [HNL.out]; exact hlt)⟩
          have hat : RStep.At w9 b (off + i * 37) x := ((hc i x hx).of_new HB8.out).of_new hb9
          have hxo : RStep.ok x := hat.1
          have hbi := hxo.2.2.1
          have HXI := Lib.hid (show KInt.ok x.id from hbi)
          have h32 : x.dig.length = 32 := hxo.1
          have H32 := Lib.hid h32
          have HDG := Lib.hid (RStep_dig hat)
          have HAT := Lib.hid hat
          have HB9 := Lib.hid hb9
          clear hv hc hx hat hxo h32 hb9 hbl
          go_upto_region 24 with (first
            | ((with_reducible refine wpList_plain (o := ⟨some 128, Op.load _ _, _, _, _, _⟩) rfl fun K hK => ?_); (refine wp_load_at (ty := 30) (x := .tmp 127) rfl rfl HDG.out (hK _ _ ?_)))
            | ((with_reducible refine wpList_plain (o := ⟨some 13, Op.alloc _, _, _, _, _⟩) rfl fun K hK => ?_); (refine RDig.wp_alloc rfl fun w4 ho4 hb4 hs4 => hK _ _ ?_); have HO4 := Lib.hid ho4; have HB4 := Lib.hid hb4; clear ho4 hb4 hs4)
            | ((with_reducible refine wpList_plain (o := ⟨none, Op.store _ (.tmp 13) (.tmp 128), _, _, _, _⟩) rfl fun K hK => ?_); (refine HO4.out.store (.tmp 13) (.tmp 128) rfl rfl rfl H32.out fun w11 ho5 hg5 hs5 => hK _ _ ?_); have HO5 := Lib.hid ho5; have HB5 := Lib.hid (HB4.out.grown hg5 (by have := HB4.out.size; omega) (fun k e => by cases e; exact Nat.le_refl _)); clear ho5 hg5 hs5))
          simp only [Act.put]
          go_frame
          obtain ⟨g, hg⟩ : ∃ g, w9.heap.size = g := ⟨_, rfl⟩
          rw [hg] at HO5 ⊢
          have HB11 := Lib.hid (below_next HB9.out HB5.out)
          have HC11 := Lib.hid (RStep_id (HAT.out.of_new HB5.out))
          clear hg
          obtain ⟨m, hlk⟩ := (HU8.out.of_new HB11.out).looks HI.out.sem H32.out HXI.out
          obtain ⟨V, hV⟩ : ∃ V, tillT x.dig x.id (tabOf E) = V := ⟨_, rfl⟩
          rw [hV] at hlk
          have hlkO := fun w' (h : Grew w11 w') => (hlk w' h).1
          have hlkI := fun w' (h : Grew w11 w') => (hlk w' h).2
          have hci := fun w' (h : Grew w11 w') => Grew.cell h HC11.out
          have hdg : DigAt w11 g 0 x.dig := HO5.out.digO.at_
          have hgx : (if (0 ≤ now ∧ now ≤ 1099511627776) ∧ V ≤ now then 0 else V) = tillT x.dig x.id (tabOf E8) := by rw [HX8.out, HTX.out, hV]
          have HGX := Lib.hid hgx
          clear hV hlk hbi hgx
          refine wp_region_grew (by kernel_rfl) (by kernel_rfl) ?_
          repeat (first
            | (go_big_quiet_want; (with_reducible apply quiet_load_at (ty := 30) (x := .tmp _)); rfl; rfl; assumption; go_simp; go_big_quiet_on)
            | (go_big_quiet_want; apply quiet_val; (intro w' hw'; go_simp; first | done | rfl); go_simp; go_big_quiet_on)
            | (go_big_quiet_skip))
          refine wpQuiet_nil ?_
          intro w12 hw12
          have HB12 := Lib.hid (below_next HB11.out hw12)
          have HC12 := Lib.hid (hci w12 hw12)
          have HDG12 := Lib.hid (hdg.of_new hw12)
          have HT12 := Lib.hid (HT8.out.of_new HB12.out)
          obtain ⟨P, hP⟩ : ∃ P, peersT x.dig (tabOf E8) = P := ⟨_, rfl⟩
          have hPr := (peersT_ok HOK8.out (by decide) x.dig).1.rise
          have hPl : P.length ≤ 64 := by have := (peersT_ok HOK8.out (by decide) x.dig).2; rw [hP] at this; omega
          rw [hP] at hPr
          have hgx2 : (if (0 ≤ now ∧ now ≤ 1099511627776) ∧ V ≤ now then 0 else V) = tillP x.id P := by rw [HGX.out]; unfold tillT; rw [hP]
          have HGX2 := Lib.hid hgx2
          have HPE := Lib.hid hP
          have HPR := Lib.hid hPr
          clear hlkO hlkI hci hdg hw12 hP hPr hgx2
          go_upto_region 27 with (first
            | ((with_reducible refine wpList_plain (o := ⟨some 139, Op.load _ _, _, _, _, _⟩) rfl fun K hK => ?_); (refine wp_load_at (ty := 30) (x := .tmp 13) rfl rfl HDG12.out (hK _ _ ?_)))
            | (go_at_call 12; refine (Peers_any t mb 1000 64 E8 x.dig _ HT12.out HOK8.out (by decide) H32.out).mono ?_; rw [HPE.out]; rintro e w13 ⟨v3, rfl, ho3, hb3⟩; obtain ⟨a3, c3, hv⟩ := ho3.row.len; subst hv; have HO3 := Lib.hid ho3.row; have HB3 := Lib.hid (below_next HB12.out hb3); have HC13 := Lib.hid (Grew.cell hb3 HC12.out); clear ho3 hb3))
          go_wp2
          go_loopw [15, 17] (fun gv kv W => ∃ j : Nat, j ≤ P.length ∧ kv = .int .i64 (j : Int) ∧ gv = .int .i64 (tillP x.id (P.take j)) ∧ Below w13.heap.size w13 W) (fun _ kv _ => P.length - (intOf kv).toNat)
          case atStart => exact ⟨0, Nat.zero_le _, rfl, rfl, Below.refl _ _⟩
          case round =>
            rename World => w14
            obtain ⟨j, hj, rfl, rfl, hb14⟩ := hrel
            by_cases hjl : j < P.length
            · have hji : (j : Int) < (P.length : Int) := by omega
              obtain ⟨pb, poff, c', hv, hbl, hat⟩ := HO3.out.at_ (by omega)
              obtain ⟨rfl, rfl⟩ : a3 = some ⟨pb, poff, none⟩ ∧ c3 = c' := by cases hv; exact ⟨rfl, rfl⟩
              obtain ⟨p, hp⟩ : ∃ p, P[j]? = some p := ⟨_, List.getElem?_eq_getElem hjl⟩
              have hA := (hat j p hp).of_new hb14
              have hid0 : w14.cell? ⟨pb, poff + j * 3, none⟩ = some (.int .i64 p.id) := hA.2.2 0 (by decide)
              have htl0 : w14.cell? ⟨pb, poff + j * 3 + 1, none⟩ = some (.int .i64 p.till) := hA.2.2 1 (by decide)
              have hnin : ∀ q ∈ P.take j, q.id ≠ p.id := fun q hq e => by
                have hr := HPR.out
                rw [← List.take_append_drop j P, List.drop_eq_getElem_cons hjl] at hr
                have hpe : P[j] = p := by rw [List.getElem?_eq_getElem hjl] at hp; cases hp; rfl
                rw [hpe] at hr
                have := hr.mid.1 q hq
                omega
              have hsn := tillP_snoc hnin x.id
              rw [← take_snoc_at hp] at hsn
              have hidq := fun w' (h : Grew w14 w') => Grew.cell h hid0
              have hciq := fun w' (h : Grew w14 w') => Grew.cell h (Grew.cell hb14 HC13.out)
              have HTL := Lib.hid htl0
              have HSN := Lib.hid hsn
              have HB14 := Lib.hid hb14
              clear hv hbl hat hp hA hnin hsn htl0 hid0
              rcases hbe : p.id == x.id with _ | _
              · have hse := HSN.out
                rw [if_neg (beq_eq_false_iff_ne.1 hbe)] at hse
                have HSE := Lib.hid hse
                clear hse
                go_upto_region 30 with (fail)
                refine wp_region_grew (by kernel_rfl) (by kernel_rfl) ?_
                repeat (first
                  | (go_big_quiet_want; (with_reducible apply quiet_load_at (ty := 30) (x := .tmp _)); rfl; rfl; assumption; go_simp; go_big_quiet_on)
                  | (go_big_quiet_want; apply quiet_val; (intro w' hw'; go_simp; first | done | rfl); go_simp; go_big_quiet_on)
                  | (go_big_quiet_skip))
                refine wpQuiet_nil ?_
                intro w15 hw15
                have HB15 := Lib.hid (below_next HB14.out hw15)
                clear hidq hciq hw15 hb14
                go_wp2
                go_roundw
                case rel => exact ⟨j + 1, by omega, by go_num, by rw [HSE.out], HB15.out⟩
                case measure => simp [intOf]; omega
              · have hse := HSN.out
                rw [if_pos (beq_iff_eq.1 hbe)] at hse
                have HSE := Lib.hid hse
                clear hse
                go_upto_region 30 with (fail)
                refine wp_region_grew (by kernel_rfl) (by kernel_rfl) ?_
                repeat (first
                  | (go_big_quiet_want; (with_reducible apply quiet_load_at (ty := 30) (x := .tmp _)); rfl; rfl; assumption; go_simp; go_big_quiet_on)
                  | (go_big_quiet_want; apply quiet_val; (intro w' hw'; go_simp; first | done | rfl); go_simp; go_big_quiet_on)
                  | (go_big_quiet_skip))
                refine wpQuiet_nil ?_
                intro w15 hw15
                have HB15 := Lib.hid (below_next HB14.out hw15)
                have htl := Grew.cell hw15 HTL.out
                clear hidq hciq hw15 hb14
                go_wp2
                go_roundw
                case rel => exact ⟨j + 1, by omega, by go_num, by rw [HSE.out], HB15.out⟩
                case measure => simp [intOf]; omega
            · obtain rfl : j = P.length := by omega
              rw [List.take_length]
              have hgx := HGX2.out
              obtain ⟨G, hG⟩ : ∃ G, tillP x.id P = G := ⟨_, rfl⟩
              obtain ⟨N, hN⟩ : ∃ N, P.length = N := ⟨_, rfl⟩
              rw [hG] at hgx ⊢
              rw [hN]
              have hji : ¬ (N : Int) < (N : Int) := by omega
              have HB14 := Lib.hid (below_next HB3.out hb14)
              clear hG hN hb14 hj hjl
              by_cases c1 : 0 ≤ now
              · by_cases c2 : now ≤ 1099511627776
                · by_cases c3 : V ≤ now
                  · rw [if_pos ⟨⟨c1, c2⟩, c3⟩] at hgx
                    subst hgx
                    rcases hv0 : ((0 : Int) != V) with _ | _
                    · go_wp2
                      go_roundw
                      case rel => exact ⟨i + 1, by omega, by go_num, HB14.out⟩
                      case measure => simp [intOf]; omega
                    · go_wp2
                      go_roundw
                      case rel => exact ⟨i + 1, by omega, by go_num, HB14.out⟩
                      case measure => simp [intOf]; omega
                  · rw [if_neg (fun h => c3 h.2)] at hgx
                    subst hgx
                    have hvv : (V != V) = false := by simp
                    go_wp2
                    go_roundw
                    case rel => exact ⟨i + 1, by omega, by go_num, HB14.out⟩
                    case measure => simp [intOf]; omega
                · rw [if_neg (fun h => c2 h.1.2)] at hgx
                  subst hgx
                  have hvv : (V != V) = false := by simp
                  go_wp2
                  go_roundw
                  case rel => exact ⟨i + 1, by omega, by go_num, HB14.out⟩
                  case measure => simp [intOf]; omega
              · rw [if_neg (fun h => c1 h.1.1)] at hgx
                subst hgx
                have hvv : (V != V) = false := by simp
                go_wp2
                go_roundw
                case rel => exact ⟨i + 1, by omega, by go_num, HB14.out⟩
                case measure => simp [intOf]; omega
        · obtain rfl : i = n := by omega
          have hki : ¬ (i : Int) < (i : Int) := by omega
          go_wp2
          go_ret
          exact ⟨rfl, below_next HB8.out hb9⟩

end Go.Proofs.Ytnohglkilpnjhaa

/- The law TrackerApart: its plain half, its walk: it answers true. No condition. -/
import Derived.Test.YtnohglkilpnjhaaTrStepW
import Derived.Test.YtnohglkilpnjhaaTrRNew
import Derived.Test.YtnohglkilpnjhaaTrAwake
import Derived.Test.YtnohglkilpnjhaaTrRoomPlain
namespace Go.Proofs.Ytnohglkilpnjhaa
open Go.RowKit
set_option linter.unusedVariables false
set_option linter.unusedSimpArgs false
set_option maxRecDepth 100000

theorem FewT.exp {k : Nat} {T : TabL} (h : FewT k T) (now : Int) : FewT (k + 1) (expT T now).1 := by
  refine ⟨h.ok.exp now, ?_, fun x hx => ?_⟩
  · have := h.few
    unfold expT
    split
    · have := liveT_len now T
      show (liveT now T).length ≤ _
      omega
    · show T.length ≤ _; omega
  · unfold expT at hx
    split at hx
    · obtain ⟨y, h1, _, h3, _⟩ := liveT_mem hx
      have := h.ps y h1
      rw [h3]
      have : (liveP now y.2).length ≤ y.2.length := List.length_filter_le _ _
      omega
    · have := h.ps x hx; omega
theorem FewT.act {k : Nat} {T : TabL} (h : FewT k T) (hk : k < 60) {x : StepL} (hx : x.ok) : FewT (k + 1) (actT 1000 64 T x) := by
  unfold actT
  split
  · exact h.ann hk hx.1 _ _ _ _
  · split
    · exact h.leave hx.1 _
    · split
      · exact h.exp _
      · exact h.next
theorem peers_far {k : Nat} {T : TabL} (h : FewT k T) (hk : k < 60) {x : StepL} (hx : x.ok) (h2 : x.act ≠ 2) (hd : x.dig ≠ dig0) : peersT dig0 (actT 1000 64 T x) = peersT dig0 T := by
  have hne : ¬ natL x.dig = natL dig0 := fun e => hd (natL_inj _ _ (by rw [hx.1]; rfl) e)
  unfold actT
  split
  · rw [ann_roomy h hk]
    split
    · show peersT dig0 (insK kD _ T) = _
      rw [peersT_ins h.ok.rise, if_neg hne]
    · rfl
  · split
    · unfold leaveT
      split
      · show peersT dig0 (backT _ _ T) = _
        rw [peersT_back h.ok.rise, if_neg hne]
      · rfl
    · first | rfl | rw [if_neg h2]
theorem peers_near {k j : Nat} {T U : TabL} (h : FewT k T) (hU : FewT j U) (hk : k < 60) (hj : j < 60) {x : StepL} (hx : x.ok) (hc : x.act = 2 ∨ x.dig = dig0) (he : peersT dig0 T = peersT dig0 U) : peersT dig0 (actT 1000 64 T x) = peersT dig0 (actT 1000 64 U x) := by
  unfold actT
  by_cases h0 : x.act = 0
  · have hd : x.dig = dig0 := hc.resolve_left (by omega)
    rw [if_pos h0, if_pos h0, ann_roomy h hk, ann_roomy hU hj, hd, he]
    split
    · show peersT dig0 (insK kD _ T) = peersT dig0 (insK kD _ U)
      rw [peersT_ins h.ok.rise, peersT_ins hU.ok.rise, if_pos rfl, if_pos rfl]
    · exact he
  · rw [if_neg h0, if_neg h0]
    by_cases h1 : x.act = 1
    · have hd : x.dig = dig0 := hc.resolve_left (by omega)
      rw [if_pos h1, if_pos h1, hd]
      unfold leaveT
      rw [he]
      split
      · show peersT dig0 (backT _ _ T) = peersT dig0 (backT _ _ U)
        rw [peersT_back h.ok.rise, peersT_back hU.ok.rise, if_pos rfl, if_pos rfl]
      · exact he
    · rw [if_neg h1, if_neg h1]
      split
      · unfold expT
        split
        · show peersT dig0 (liveT _ T) = peersT dig0 (liveT _ U)
          rw [peersT_live h.ok.rise, peersT_live hU.ok.rise, he]
        · exact he
      · exact he

/-- Another table stays. -/
theorem TabP.other_step {W W' : World} {t u mb mb2 r B : Nat} {m1 e1 m2 e2 many most : Int} {E U : EntL} {v : Value} {L : RefL} {T : TabL} (hU : TabP W u m2 e2 mb2 U) (hT : TabP W t m1 e1 mb E) (hR : RTabP W r many most B v L T)
    (hd : ∀ k, ownE mb E k → ¬ ownE mb2 U k) (hk : Kept (fun k => ¬ ownE mb E k ∧ k ≠ r ∧ v.ownBlock ≠ some k) W W') : TabP W' u m2 e2 mb2 U := by
  have hobj : ∀ k, ownE mb E k → ∃ a c, W.heap[k]? = some (.map a c) := by
    rintro k (rfl | ⟨x, hx, rfl⟩)
    · exact hT.map.obj
    · exact (hT.ins x hx).obj
  have hobj2 : ∀ k, ownE mb2 U k → ∃ a c, W.heap[k]? = some (.map a c) := by
    rintro k (rfl | ⟨x, hx, rfl⟩)
    · exact hU.map.obj
    · exact (hU.ins x hx).obj
  refine hU.kept hk ⟨fun h => ?_, fun h => ?_, fun h => ?_⟩ fun k hk2 => ⟨fun h => hd k h hk2, fun h => ?_, fun h => ?_⟩
  · obtain ⟨a, c, h1⟩ := hobj u h
    rw [hU.tab] at h1; cases h1
  · subst h
    have h1 := hR.tab
    rw [hU.tab] at h1
    have h2 : (66 : Nat) = 57 := by injection h1 with h1; injection h1
    exact absurd h2 (by decide)
  · obtain ⟨cur, h1⟩ := hR.own.block h
    rw [hU.tab] at h1
    have h2 : (66 : Nat) = 83 := by injection h1 with h1; injection h1
    exact absurd h2 (by decide)
  · obtain ⟨a, c, h1⟩ := hobj2 k hk2
    subst h
    rw [hR.tab] at h1; cases h1
  · obtain ⟨a, c, h1⟩ := hobj2 k hk2
    obtain ⟨cur, h2⟩ := hR.own.block h
    rw [h2] at h1; cases h1

/-- Ahead of each round. -/
structure ApI (w : World) (t mb u mb2 r B k : Nat) (E U : EntL) (v : Value) (L : RefL) (T : TabL) (W : World) : Prop where
  one : TabP W t 1000 64 mb E
  two : TabP W u 1000 64 mb2 U
  ref : RTabP W r 1 1 B v L T
  rok : TabOk 1 1 T
  few1 : FewT k (tabOf E)
  few2 : FewT k (tabOf U)
  same : peersT dig0 (tabOf E) = peersT dig0 (tabOf U)
  own1 : ∀ j, ownE mb E j → w.heap.size ≤ j ∧ ¬ ownE mb2 U j
  own2 : ∀ j, ownE mb2 U j → w.heap.size ≤ j
  base : w.heap.size ≤ B
  below : Below w.heap.size w W
theorem ApI.new {w t mb u mb2 r B k E U v L T W W'} (h : ApI w t mb u mb2 r B k E U v L T W) (hb : Below W.heap.size W W') : ApI w t mb u mb2 r B k E U v L T W' :=
  ⟨h.one.of_new hb, h.two.of_new hb, h.ref.of_new hb, h.rok, h.few1, h.few2, h.same, h.own1, h.own2, h.base, below_next h.below hb⟩
/-- In the midst of a round: the first table's step is done. -/
structure ApM (w : World) (t mb u mb2 r B k : Nat) (E0 E U : EntL) (v : Value) (L : RefL) (T : TabL) (x : StepL) (W : World) : Prop where
  one : TabP W t 1000 64 mb E
  two : TabP W u 1000 64 mb2 U
  ref : RTabP W r 1 1 B v L T
  rok : TabOk 1 1 T
  is : tabOf E = actT 1000 64 (tabOf E0) x
  few0 : FewT k (tabOf E0)
  few2 : FewT k (tabOf U)
  same : peersT dig0 (tabOf E0) = peersT dig0 (tabOf U)
  own1 : ∀ j, ownE mb E j → w.heap.size ≤ j ∧ ¬ ownE mb2 U j
  own2 : ∀ j, ownE mb2 U j → w.heap.size ≤ j
  base : w.heap.size ≤ B
  below : Below w.heap.size w W
theorem ApM.new {w t mb u mb2 r B k E0 E U v L T x W W'} (h : ApM w t mb u mb2 r B k E0 E U v L T x W) (hb : Below W.heap.size W W') : ApM w t mb u mb2 r B k E0 E U v L T x W' :=
  ⟨h.one.of_new hb, h.two.of_new hb, h.ref.of_new hb, h.rok, h.is, h.few0, h.few2, h.same, h.own1, h.own2, h.base, below_next h.below hb⟩
theorem step_below {w W W' : World} {mb r B : Nat} {many most : Int} {E : EntL} {v : Value} {L : RefL} {T : TabL} (hR : RTabP W r many most B v L T) (hB : w.heap.size ≤ B) (ho : ∀ j, ownE mb E j → w.heap.size ≤ j) (hb : Below w.heap.size w W) (hk : Kept (fun k => ¬ ownE mb E k ∧ k ≠ r ∧ v.ownBlock ≠ some k) W W') : Below w.heap.size w W' :=
  Kept.to_below hb hk hb.size fun k hlt => ⟨fun q => by have := ho k q; omega, by have := hR.base; omega, fun q => by have := (hR.own.lt k q).1; omega⟩
theorem ApI.first {w : World} {t mb u mb2 r B k : Nat} {E E' U : EntL} {v v' : Value} {L L' : RefL} {T T' : TabL} {W W' : World} {x : StepL} (h : ApI w t mb u mb2 r B k E U v L T W) (hx : x.ok) (hE : tabOf E' = actT 1000 64 (tabOf E) x) (hT : TabP W' t 1000 64 mb E') (ho : ∀ j, ownE mb E' j → ownE mb E j ∨ W.heap.size ≤ j)
    (hR : RTabP W' r 1 1 B v' L' (actT 1 1 T x)) (hk : Kept (fun k => ¬ ownE mb E k ∧ k ≠ r ∧ v.ownBlock ≠ some k) W W') : ApM w t mb u mb2 r B k E E' U v' L' (actT 1 1 T x) x W' :=
  ⟨hT, h.two.other_step h.one h.ref (fun j hj => (h.own1 j hj).2) hk, hR, h.rok.act (by decide) (by decide) hx, hE, h.few1, h.few2, h.same, fun j hj => (ho j hj).elim (h.own1 j) (fun q => ⟨Nat.le_trans h.below.size q, fun q2 => by have := h.two.own_lt q2; omega⟩), h.own2, h.base, step_below h.ref h.base (fun j hj => (h.own1 j hj).1) h.below hk⟩
theorem ApM.second {w : World} {t mb u mb2 r B k : Nat} {E0 E U U' : EntL} {v v' : Value} {L L' : RefL} {T T' : TabL} {W W' : World} {x : StepL} (h : ApM w t mb u mb2 r B k E0 E U v L T x W) (hk60 : k < 60) (hx : x.ok) (hc : x.act = 2 ∨ x.dig = dig0) (hE : tabOf U' = actT 1000 64 (tabOf U) x) (hT : TabP W' u 1000 64 mb2 U') (ho : ∀ j, ownE mb2 U' j → ownE mb2 U j ∨ W.heap.size ≤ j)
    (hR : RTabP W' r 1 1 B v' L' (actT 1 1 T x)) (hk : Kept (fun k => ¬ ownE mb2 U k ∧ k ≠ r ∧ v.ownBlock ≠ some k) W W') : ApI w t mb u mb2 r B (k + 1) E U' v' L' (actT 1 1 T x) W' :=
  ⟨h.one.other_step h.two h.ref (fun j hj hq => (h.own1 j hq).2 hj) hk, hT, hR, h.rok.act (by decide) (by decide) hx, by rw [h.is]; exact h.few0.act hk60 hx, by rw [hE]; exact h.few2.act hk60 hx, by rw [h.is, hE]; exact peers_near h.few0 h.few2 hk60 hk60 hx hc h.same,
    fun j hj => ⟨(h.own1 j hj).1, fun q => (ho j q).elim (h.own1 j hj).2 (fun q2 => by have := h.one.own_lt hj; omega)⟩, fun j hj => (ho j hj).elim (h.own2 j) (Nat.le_trans h.below.size), h.base, step_below h.ref h.base h.own2 h.below hk⟩
theorem ApM.none {w t mb u mb2 r B k E0 E U v L T x W} (h : ApM w t mb u mb2 r B k E0 E U v L T x W) (hk60 : k < 60) (hx : x.ok) (h2 : x.act ≠ 2) (hd : x.dig ≠ dig0) : ApI w t mb u mb2 r B (k + 1) E U v L T W :=
  ⟨h.one, h.two, h.ref, h.rok, by rw [h.is]; exact h.few0.act hk60 hx, h.few2.next, by rw [h.is, peers_far h.few0 hk60 hx h2 hd]; exact h.same, h.own1, h.own2, h.base, h.below⟩

set_option maxHeartbeats 6400000 in
theorem TrackerApart_walk (v : Value) (l : List StepL) (w : World) (hl : RStep.Row w v l) :
    Calls Try.prog 8 #[v] w fun e w' => e = .returned (.bool true) ∧ Below w.heap.size w w' := by
  obtain ⟨va, vc, hv⟩ := hl.len
  subst hv
  have hle := hl.le
  have HL := Lib.hid hl
  have hbr := build_rtab 1 1
  have hbz := build_digz
  clear hl
  go_enter Try.func8, Try.ntmps8
  go_upto_region 3 with (first
    | (go_at_call 9; refine (awake_any _).mono ?_; rintro e w1 ⟨rfl, hb1⟩; have HB1 := Lib.hid hb1; clear hb1)
    | (go_at_call 10; refine (New_ok 1000 64 _ (by decide)).mono ?_; rintro e w2 ⟨t, mb, rfl, hT2, ht2, hmb2, hb2⟩; have HB2 := Lib.hid (below_next HB1.out hb2); have HT2 := Lib.hid hT2; have HM2 := Lib.hid (Nat.le_trans HB1.out.size hmb2); clear hb2 hT2 ht2 hmb2))
  go_upto_region 4 with (go_at_call 10; refine (New_ok 1000 64 _ (by decide)).mono ?_; rintro e w3 ⟨u, mb2, rfl, hT3, ht3, hmb3, hb3⟩; have HB3 := Lib.hid (below_next HB2.out hb3); have HT3 := Lib.hid hT3; have HM3 := Lib.hid hmb3; have HT23 := Lib.hid (HT2.out.of_new hb3); clear hb3 hT3 ht3 hmb3)
  by_cases h60 : 60 < l.length
  · have t1 : (60 : Int) < (l.length : Int) := by omega
    go_wp2
    go_ret
    exact ⟨rfl, HB3.out⟩
  have t1 : ¬ (60 : Int) < (l.length : Int) := by omega
  go_upto_region 7 with (fail)
  obtain ⟨w4, hw4⟩ : ∃ w4, w3.alloc (.cells #[.int .i64 1, .int .i64 1, .slice none 0 0] 57) = w4 := ⟨_, rfl⟩
  have hR4 : RTabP w4 w3.heap.size 1 1 w3.heap.size (.slice none 0 0) [] [] := by rw [← hw4]; exact rtabP_new w3 1 1
  have hb4 : Below w3.heap.size w3 w4 := by rw [← hw4]; exact (Below.refl _ w3).alloc (Nat.le_refl _) _
  rw [hw4]
  obtain ⟨r, hr⟩ : ∃ r, w3.heap.size = r := ⟨_, rfl⟩
  have hst : ApI w t mb u mb2 w3.heap.size w3.heap.size 0 [] [] (.slice none 0 0) [] [] w4 :=
    ⟨HT23.out.of_new hb4, HT3.out.of_new hb4, hR4, TabOk.nil (by decide), FewT.nil, FewT.nil, rfl, (fun j hj => by
      rcases hj with rfl | ⟨x, hx, _⟩
      · refine ⟨HM2.out, fun q => ?_⟩
        have h1 := HT2.out.own_lt (.inl rfl)
        rcases q with e | ⟨x, hx, _⟩
        · have h2 := HM3.out; omega
        · cases hx
      · cases hx), (fun j hj => by
      rcases hj with rfl | ⟨x, hx, _⟩
      · exact Nat.le_trans HB2.out.size HM3.out
      · cases hx), HB3.out.size, below_next HB3.out hb4⟩
  rw [hr] at hst ⊢
  have HST := Lib.hid hst
  clear hst hR4 hb4 hw4 hr hbr
  go_wp2
  go_loopw [9] (fun iv W => ∃ (k : Nat) (E U : EntL) (v : Value) (L : RefL) (T : TabL), k ≤ l.length ∧ iv = .int .i64 (k : Int) ∧ ApI w t mb u mb2 r r k E U v L T W) (fun iv _ => l.length - (intOf iv).toNat)
  case atStart => exact ⟨0, [], [], _, [], [], Nat.zero_le _, rfl, HST.out⟩
  case round =>
    obtain ⟨k, E, U, rv, L, T, hk, rfl, hI⟩ := hrel
    have HI := Lib.hid hI
    clear hI
    by_cases hlt : k < l.length
    · have hki : (k : Int) < (l.length : Int) := by omega
      have hk60 : k < 60 := by omega
      obtain ⟨b0, off, c', hv, hbl, hc⟩ := HL.out.at_ (by omega)
      obtain ⟨rfl, rfl⟩ : va = some ⟨b0, off, none⟩ ∧ vc = c' := by cases hv; exact ⟨rfl, rfl⟩
      obtain ⟨x, hx⟩ : ∃ x, l[k]? = some x := ⟨_, List.getElem?_eq_getElem hlt⟩
      have HC := Lib.hid (hc k x hx)
      have hat : RStep.At wr b0 (off + k * 37) x := (hc k x hx).of_new HI.out.below
      have HAT := Lib.hid hat
      have hxo : RStep.ok x := hat.1
      have HXO := Lib.hid hxo
      have h32 : x.dig.length = 32 := hxo.1
      have hgd := guard_dig
      have heql : ∀ w' : World, (binOp .eql 30 (.agg (x.dig.map B8).toArray) (.agg #[.int .u8 0, .int .u8 0, .int .u8 0, .int .u8 0, .int .u8 0, .int .u8 0, .int .u8 0, .int .u8 0, .int .u8 0, .int .u8 0, .int .u8 0, .int .u8 0, .int .u8 0, .int .u8 0, .int .u8 0, .int .u8 0, .int .u8 0, .int .u8 0, .int .u8 0, .int .u8 0, .int .u8 0, .int .u8 0, .int .u8 0, .int .u8 0, .int .u8 0, .int .u8 0, .int .u8 0, .int .u8 0, .int .u8 0, .int .u8 0, .int .u8 0, .int .u8 0])).run Try.prog w' = .ok (.bool (decide (x.dig = dig0))) w' := fun w' => run_eql_dig x.dig dig0 h32 dig0_len w'
      clear hv hc hx hat hxo hbl h32
      go_upto_region 11 with (first
        | ((with_reducible refine wpList_plain (o := ⟨some 64, Op.load _ _, _, _, _, _⟩) rfl fun K hK => ?_); (refine HAT.out.wp rfl rfl (hK _ _ ?_)))
        | (go_at_call 16; refine (step_any t mb 1000 64 E r 1 1 r rv L T x _ HI.out.one HI.out.few1.ok (by decide) (by decide) HI.out.ref HI.out.rok (by decide) (by decide) HXO.out).mono ?_; unfold StepPost; rintro e w5 ⟨E5, v5, L5, b5, rfl, hE5, hT5, ho5, hR5, hk5, -⟩; have HM5 := Lib.hid (HI.out.first (T' := T) HXO.out hE5 hT5 ho5 hR5 hk5); clear hE5 hT5 ho5 hR5 hk5))
      have HAT5 := Lib.hid (HC.out.of_new HM5.out.below)
      have hdo : w5.cell? ⟨b0, off + k * 37, none⟩ = some (.int .i64 x.act) := RStep_do HAT5.out
      have HDG := Lib.hid (RStep_dig HAT5.out)
      by_cases hc : x.act = 2 ∨ x.dig = dig0
      · by_cases h2 : x.act = 2
        case' pos => have e1 : (x.act == 2) = true := beq_iff_eq.2 h2
        case' neg =>
          have e1 : (x.act == 2) = false := beq_eq_false_iff_ne.2 h2
          have e2 : decide (x.dig = dig0) = true := decide_eq_true (hc.resolve_left h2)
        all_goals
          have HC2 := Lib.hid hc
          clear hc h2
          go_wp2_with (first
            | ((with_reducible refine wpList_met (o := ⟨some 77, Op.load _ _, _, _, _, _⟩) rfl fun K hK => ?_); (refine wp_load_at (ty := 30) (x := .tmp 76) rfl rfl HDG.out (hK _ _ ?_)))
            | ((with_reducible refine wpList_plain (o := ⟨some 86, Op.load _ _, _, _, _, _⟩) rfl fun K hK => ?_); (refine HAT5.out.wp rfl rfl (hK _ _ ?_)))
            | (go_at_call 16; refine (step_any u mb2 1000 64 U r 1 1 r v5 L5 (actT 1 1 T x) x _ HM5.out.two HM5.out.few2.ok (by decide) (by decide) HM5.out.ref HM5.out.rok (by decide) (by decide) HXO.out).mono ?_; unfold StepPost; rintro e w6 ⟨U6, v6, L6, b6, rfl, hE6, hT6, ho6, hR6, hk6, -⟩; have HI6 := Lib.hid (HM5.out.second (T' := T) hk60 HXO.out HC2.out hE6 hT6 ho6 hR6 hk6); clear hE6 hT6 ho6 hR6 hk6))
          go_roundw
          case rel => exact ⟨k + 1, E5, U6, v6, L6, _, by omega, by go_num, HI6.out⟩
          case measure => simp [intOf]; omega
      · have h2 : x.act ≠ 2 := fun e => hc (.inl e)
        have hd : x.dig ≠ dig0 := fun e => hc (.inr e)
        have e1 : (x.act == 2) = false := beq_eq_false_iff_ne.2 h2
        have e2 : decide (x.dig = dig0) = false := decide_eq_false hd
        have HI6 := Lib.hid (HM5.out.none hk60 HXO.out h2 hd)
        clear hc h2 hd
        go_wp2_with (first
          | ((with_reducible refine wpList_met (o := ⟨some 77, Op.load _ _, _, _, _, _⟩) rfl fun K hK => ?_); (refine wp_load_at (ty := 30) (x := .tmp 76) rfl rfl HDG.out (hK _ _ ?_))))
        go_roundw
        case rel => exact ⟨k + 1, E5, U, v5, L5, _, by omega, by go_num, HI6.out⟩
        case measure => simp [intOf]; omega
    · have hki : ¬ (k : Int) < (l.length : Int) := by omega
      obtain ⟨P, hP⟩ : ∃ P, peersT dig0 (tabOf E) = P := ⟨_, rfl⟩
      have HP1 := Lib.hid hP
      have HP2 := Lib.hid (HI.out.same.symm.trans hP)
      clear hP
      go_wp2_with (first
        | (go_at_call 12; have hq5 := HI5; refine (Peers_any u mb2 1000 64 U dig0 _ HI5.out.two HI5.out.few2.ok (by decide) dig0_len).mono ?_; rw [HP2.out]; rintro e w6 ⟨v6, rfl, ho6, hb6⟩; have HO6 := Lib.hid ho6.row; have HO5' := Lib.hid (HO5.out.of_new hb6); have HI6 := Lib.hid (HI5.out.new hb6); clear ho6 hb6 hq5)
        | (go_at_call 12; refine (Peers_any t mb 1000 64 E dig0 _ HI.out.one HI.out.few1.ok (by decide) dig0_len).mono ?_; rw [HP1.out]; rintro e w5 ⟨v5, rfl, ho5, hb5⟩; have HO5 := Lib.hid ho5.row; have HI5 := Lib.hid (HI.out.new hb5); clear ho5 hb5)
        | (go_at_call 17; refine (RSameP_any _ _ P P _ HO5'.out HO6.out).mono ?_; rintro e w7 ⟨rfl, hb7⟩; rw [show decide (P = P) = true by simp]; have HB7 := Lib.hid (below_next HI6.out.below hb7); clear hb7))
      go_ret
      exact ⟨rfl, HB7.out⟩

end Go.Proofs.Ytnohglkilpnjhaa

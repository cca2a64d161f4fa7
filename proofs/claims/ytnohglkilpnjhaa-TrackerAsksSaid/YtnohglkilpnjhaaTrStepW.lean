/- The walk of the laws' step: a step at both tables. Condition: the tables as they lie. -/
import Derived.Test.YtnohglkilpnjhaaTrStep
import Derived.Test.YtnohglkilpnjhaaTrRAnn
import Derived.Test.YtnohglkilpnjhaaTrRLeave
import Derived.Test.YtnohglkilpnjhaaTrRExp
import Derived.Test.YtnohglkilpnjhaaTrRAsk
import Derived.Test.YtnohglkilpnjhaaTrLeave
import Derived.Test.YtnohglkilpnjhaaTrExpire
namespace Go.Proofs.Ytnohglkilpnjhaa
open Go.RowKit
set_option linter.unusedVariables false
set_option linter.unusedSimpArgs false
set_option maxRecDepth 100000

/-- The table behind a step. -/
def actT (most each : Int) (T : TabL) (x : StepL) : TabL :=
  if x.act = 0 then (annT most each T x.dig x.id x.now x.life x.seed).1 else if x.act = 1 then (leaveT T x.dig x.id).1 else if x.act = 2 then (expT T x.now).1 else T
theorem TabOk.act {most each : Int} {T : TabL} (h : TabOk most each T) (hm : 1 ≤ most) (he : 1 ≤ each) {x : StepL} (hx : x.ok) : TabOk most each (actT most each T x) := by
  unfold actT
  split
  · exact h.ann hm he hx.1 _ _ _ _
  · split
    · exact h.leave he hx.1 _
    · split
      · exact h.exp _
      · exact h
def StepPost (w : World) (t mb : Nat) (most each : Int) (E : EntL) (r : Nat) (many1 most1 : Int) (B : Nat) (v : Value) (T : TabL) (x : StepL) (e : Ending) (w' : World) : Prop :=
  ∃ (E' : EntL) (v' : Value) (L' : RefL) (b : Bool), e = .returned (.bool b) ∧ tabOf E' = actT most each (tabOf E) x ∧ TabP w' t most each mb E' ∧ (∀ k, ownE mb E' k → ownE mb E k ∨ w.heap.size ≤ k) ∧ RTabP w' r many1 most1 B v' L' (actT many1 most1 T x) ∧
    Kept (fun k => ¬ ownE mb E k ∧ k ≠ r ∧ v.ownBlock ≠ some k) w w' ∧ (most = many1 → each = most1 → tabOf E = T → b = true)

/-- Behind the program's half. -/
structure StepMid (w W : World) (t mb : Nat) (most each : Int) (E : EntL) (r : Nat) (many1 most1 : Int) (B : Nat) (v : Value) (L : RefL) (T : TabL) (g : Nat) (x : StepL) (W1 : World) (E1 : EntL) : Prop where
  tab : TabP W1 t most each mb E1
  ref : RTabP W1 r many1 most1 B v L T
  blk : RStep.O W1 g x
  kept : Kept (fun k => ¬ ownE mb E k) w W1
  own : ∀ k, ownE mb E1 k → ownE mb E k ∨ w.heap.size ≤ k
theorem StepMid.new {w W t mb most each E r many1 most1 B v L T g x W1 W2 E1} (h : StepMid w W t mb most each E r many1 most1 B v L T g x W1 E1) (hb : Below W1.heap.size W1 W2) : StepMid w W t mb most each E r many1 most1 B v L T g x W2 E1 :=
  ⟨h.tab.of_new hb, h.ref.of_new hb, h.blk.of_new hb, h.kept.below hb, h.own⟩
theorem StepMid.made {w W : World} {t mb most each E r many1 most1 B v L T g x} {W1 : World} {E1 : EntL} (hb : Below w.heap.size w W) (hTW : TabP W t most each mb E) (hR : RTabP W r many1 most1 B v L T) (ho : RStep.O W g x) (hg : w.heap.size ≤ g) (hE : ∀ k, ownE mb E k → k < w.heap.size)
    (hT1 : TabP W1 t most each mb E1) (hs : TabStep mb E E1 W W1) : StepMid w W t mb most each E r many1 most1 B v L T g x W1 E1 :=
  ⟨hT1, hR.tab_step hTW hs.kept, ho.of_block (hs.kept.block _ ho.lt (fun h => by have := hE _ h; omega)), ((Kept.refl _ w).below hb).trans hs.kept, fun k hk => (hs.own k hk).elim .inl (fun h => .inr (Nat.le_trans hb.size h))⟩
theorem StepMid.done {w W : World} {t mb most each E r many1 most1 B v L T g x} {W1 W2 : World} {E1 : EntL} {v' : Value} {L' : RefL} {T' : TabL} (h : StepMid w W t mb most each E r many1 most1 B v L T g x W1 E1) (hR : RTabP W2 r many1 most1 B v' L' T') (hs : RStp r v W1 W2) :
    TabP W2 t most each mb E1 ∧ Kept (fun k => ¬ ownE mb E k ∧ k ≠ r ∧ v.ownBlock ≠ some k) w W2 :=
  ⟨h.tab.ref_step h.ref hs, (h.kept.mono fun k _ hk => hk.1).trans (hs.mono fun k _ hk => hk.2)⟩

set_option maxHeartbeats 3200000 in
theorem step_any (t mb : Nat) (most each : Int) (E : EntL) (r : Nat) (many1 most1 : Int) (B : Nat) (v : Value) (L : RefL) (T : TabL) (x : StepL) (w : World) (hT : TabP w t most each mb E) (hE : EntOk most each E) (hm : 1 ≤ most ∧ most ≤ 1000) (he : 1 ≤ each ∧ each ≤ 64)
    (hR : RTabP w r many1 most1 B v L T) (hRT : TabOk many1 most1 T) (hm1 : 1 ≤ many1 ∧ many1 ≤ 1000) (he1 : 1 ≤ most1 ∧ most1 ≤ 64) (hx : x.ok) :
    Calls Try.prog 16 #[.pointer (some ⟨t, 0, none⟩), .pointer (some ⟨r, 0, none⟩), RStep.V x] w (StepPost w t mb most each E r many1 most1 B v T x) := by
  obtain ⟨W, hW⟩ : ∃ W, w.alloc (.cells (RStep.cells x).toArray 40) = W := ⟨_, rfl⟩
  have ho : RStep.O W w.heap.size x := by rw [← hW]; exact RecT.o_new w hx
  have hb : Below w.heap.size w W := by rw [← hW]; exact (Below.refl _ w).alloc (Nat.le_refl _) _
  have hmid0 : StepMid w W t mb most each E r many1 most1 B v L T w.heap.size x W E := ⟨hT.of_new hb, hR.of_new hb, ho, (Kept.refl _ w).below hb, fun k hk => .inl hk⟩
  have HOW := Lib.hid (fun k hk => hT.own_lt (k := k) hk)
  have HM0 := Lib.hid hmid0
  have HW := Lib.hid hW
  have HB := Lib.hid hb
  have HE := Lib.hid hE
  have HRT := Lib.hid hRT
  have HX := Lib.hid hx
  have H32 := Lib.hid hx.1
  clear hT hE hR hRT ho hb hW hmid0 hx
  show Calls Try.prog 16 #[.pointer (some ⟨t, 0, none⟩), .pointer (some ⟨r, 0, none⟩), .agg (RStep.cells x).toArray] w _
  go_enter Try.func16, Try.ntmps16
  go_upto_region 1 with (fail)
  rw [HW.out]
  obtain ⟨g, hg⟩ : ∃ g, w.heap.size = g := ⟨_, rfl⟩
  rw [hg] at HM0 ⊢
  have HG := Lib.hid (Nat.le_of_eq hg)
  clear hg
  have hdo := RStepO_do HM0.out.blk
  by_cases h0 : x.act = 0
  · rw [h0] at hdo
    have HA0 := Lib.hid (show ∀ (m e : Int) (S : TabL), actT m e S x = (annT m e S x.dig x.id x.now x.life x.seed).1 from fun m e S => by unfold actT; rw [if_pos h0])
    clear h0
    have hcid := RStepO_id HM0.out.blk
    have hcnow := RStepO_now HM0.out.blk
    have hclife := RStepO_life HM0.out.blk
    have hcseed := RStepO_seed HM0.out.blk
    have HDG := Lib.hid (RStepO_dig HM0.out.blk)
    obtain ⟨c1, hc1⟩ : ∃ c, (annT most each (tabOf E) x.dig x.id x.now x.life x.seed).2 = c := ⟨_, rfl⟩
    obtain ⟨c2, hc2⟩ : ∃ c, (annT many1 most1 T x.dig x.id x.now x.life x.seed).2 = c := ⟨_, rfl⟩
    have HC1 := Lib.hid hc1
    have HC2 := Lib.hid hc2
    clear hc1 hc2
    go_upto_region 4 with (first
      | ((with_reducible refine wpList_plain (o := ⟨some 19, Op.load _ _, _, _, _, _⟩) rfl fun K hK => ?_); (refine wp_load_at (ty := 30) (x := .tmp 18) rfl rfl HDG.out (hK _ _ ?_)))
      | (go_at_call 11; refine (Announce_any t mb most each E x.dig x.id x.now x.life x.seed _ HM0.out.tab HE.out hm he H32.out).mono ?_; unfold AnnPost; rw [HC1.out]; rintro e w1 ⟨E1, hE1, rfl, hT1, hs1⟩; have HE1 := Lib.hid hE1; have HM1 := Lib.hid (StepMid.made HB.out HM0.out.tab HM0.out.ref HM0.out.blk HG.out HOW.out hT1 hs1); clear hE1 hT1 hs1))
    clear hdo hcid hcnow hclife hcseed
    have hcid := RStepO_id HM1.out.blk
    have hcnow := RStepO_now HM1.out.blk
    have hclife := RStepO_life HM1.out.blk
    have hcseed := RStepO_seed HM1.out.blk
    have HDG1 := Lib.hid (RStepO_dig HM1.out.blk)
    go_wp2_with (first
      | ((with_reducible refine wpList_plain (o := ⟨some 32, Op.load _ _, _, _, _, _⟩) rfl fun K hK => ?_); (refine wp_load_at (ty := 30) (x := .tmp 31) rfl rfl HDG1.out (hK _ _ ?_)))
      | (go_at_call 30; refine (RAnnounce_any r many1 most1 B v L T x.dig x.id x.now x.life x.seed _ HM1.out.ref HRT.out hm1 he1 H32.out).mono ?_; unfold RPost; rw [HC2.out]; rintro e w2 ⟨v2, L2, rfl, hR2, hs2⟩; have HR2 := Lib.hid hR2; have HD2 := Lib.hid (HM1.out.done hR2 hs2); clear hR2 hs2))
    go_ret
    exact ⟨E1, _, _, _, rfl, by rw [HA0.out]; exact HE1.out, HD2.out.1, HM1.out.own, by rw [HA0.out]; exact HR2.out, HD2.out.2, fun q1 q2 q3 => by
      have : c1 = c2 := by rw [← HC1.out, ← HC2.out, q1, q2, q3]
      simp [this]⟩
  by_cases h1 : x.act = 1
  · rw [h1] at hdo
    have HA0 := Lib.hid (show ∀ (m e : Int) (S : TabL), actT m e S x = (leaveT S x.dig x.id).1 from fun m e S => by unfold actT; rw [if_neg h0, if_pos h1])
    clear h0 h1
    have hcid := RStepO_id HM0.out.blk
    have HDG := Lib.hid (RStepO_dig HM0.out.blk)
    obtain ⟨c1, hc1⟩ : ∃ c, (leaveT (tabOf E) x.dig x.id).2 = c := ⟨_, rfl⟩
    obtain ⟨c2, hc2⟩ : ∃ c, (leaveT T x.dig x.id).2 = c := ⟨_, rfl⟩
    have HC1 := Lib.hid hc1
    have HC2 := Lib.hid hc2
    clear hc1 hc2
    go_upto_region 7 with (first
      | ((with_reducible refine wpList_plain (o := ⟨some 47, Op.load _ _, _, _, _, _⟩) rfl fun K hK => ?_); (refine wp_load_at (ty := 30) (x := .tmp 46) rfl rfl HDG.out (hK _ _ ?_)))
      | (go_at_call 13; refine (Leave_any t mb most each E x.dig x.id _ HM0.out.tab HE.out hm he H32.out HX.out.2.2.1).mono ?_; unfold LeavePost; rw [HC1.out]; rintro e w1 ⟨E1, hE1, rfl, hT1, hs1, -⟩; have HE1 := Lib.hid hE1; have HM1 := Lib.hid (StepMid.made HB.out HM0.out.tab HM0.out.ref HM0.out.blk HG.out HOW.out hT1 hs1); clear hE1 hT1 hs1))
    clear hdo hcid
    have hcid := RStepO_id HM1.out.blk
    have HDG1 := Lib.hid (RStepO_dig HM1.out.blk)
    go_wp2_with (first
      | ((with_reducible refine wpList_plain (o := ⟨some 54, Op.load _ _, _, _, _, _⟩) rfl fun K hK => ?_); (refine wp_load_at (ty := 30) (x := .tmp 53) rfl rfl HDG1.out (hK _ _ ?_)))
      | (go_at_call 31; refine (RLeave_any r many1 most1 B v L T x.dig x.id _ HM1.out.ref HRT.out hm1 he1 H32.out).mono ?_; unfold RPost; rw [HC2.out]; rintro e w2 ⟨v2, L2, rfl, hR2, hs2⟩; have HR2 := Lib.hid hR2; have HD2 := Lib.hid (HM1.out.done hR2 hs2); clear hR2 hs2))
    go_ret
    exact ⟨E1, _, _, _, rfl, by rw [HA0.out]; exact HE1.out, HD2.out.1, HM1.out.own, by rw [HA0.out]; exact HR2.out, HD2.out.2, fun q1 q2 q3 => by
      have : c1 = c2 := by rw [← HC1.out, ← HC2.out, q3]
      simp [this]⟩
  by_cases h2 : x.act = 2
  · rw [h2] at hdo
    have HA0 := Lib.hid (show ∀ (m e : Int) (S : TabL), actT m e S x = (expT S x.now).1 from fun m e S => by unfold actT; rw [if_neg h0, if_neg h1, if_pos h2])
    clear h0 h1 h2
    have hcnow := RStepO_now HM0.out.blk
    obtain ⟨n1, hn1⟩ : ∃ c, (expT (tabOf E) x.now).2.1 = c := ⟨_, rfl⟩
    obtain ⟨c1, hc1⟩ : ∃ c, (expT (tabOf E) x.now).2.2 = c := ⟨_, rfl⟩
    obtain ⟨n2, hn2⟩ : ∃ c, (expT T x.now).2.1 = c := ⟨_, rfl⟩
    obtain ⟨c2, hc2⟩ : ∃ c, (expT T x.now).2.2 = c := ⟨_, rfl⟩
    have HN1 := Lib.hid hn1
    have HC1 := Lib.hid hc1
    have HN2 := Lib.hid hn2
    have HC2 := Lib.hid hc2
    clear hn1 hc1 hn2 hc2
    go_upto_region 10 with (go_at_call 14; refine (Expire_any t mb most each E x.now _ HM0.out.tab HE.out hm he).mono ?_; unfold ExpPost; rw [HC1.out, HN1.out]; rintro e w1 ⟨E1, hE1, rfl, hT1, hs1, -⟩; have HE1 := Lib.hid hE1; have HM1 := Lib.hid (StepMid.made HB.out HM0.out.tab HM0.out.ref HM0.out.blk HG.out HOW.out hT1 hs1); clear hE1 hT1 hs1)
    clear hdo hcnow
    have hcnow := RStepO_now HM1.out.blk
    go_upto_region 11 with (go_at_call 32; refine (RExpire_any r many1 most1 B v L T x.now _ HM1.out.ref HRT.out hm1 he1).mono ?_; unfold RPost; rw [HC2.out, HN2.out]; rintro e w2 ⟨v2, L2, rfl, hR2, hs2⟩; have HR2 := Lib.hid hR2; have HD2 := Lib.hid (HM1.out.done hR2 hs2); clear hR2 hs2)
    clear hcnow
    rcases hq : (n1 == n2) with _ | _
    all_goals
      have HQ := Lib.hid hq
      go_wp2
      go_ret
      refine ⟨E1, _, _, _, rfl, by rw [HA0.out]; exact HE1.out, HD2.out.1, HM1.out.own, by rw [HA0.out]; exact HR2.out, HD2.out.2, fun q1 q2 q3 => ?_⟩
      have e1 : n1 = n2 := by rw [← HN1.out, ← HN2.out, q3]
      have e2 : c1 = c2 := by rw [← HC1.out, ← HC2.out, q3]
      have := HQ.out
      simp_all
  have hb0 : (x.act == 0) = false := beq_eq_false_iff_ne.2 h0
  have hb1 : (x.act == 1) = false := beq_eq_false_iff_ne.2 h1
  have hb2 : (x.act == 2) = false := beq_eq_false_iff_ne.2 h2
  have HA0 := Lib.hid (show ∀ (m e : Int) (S : TabL), actT m e S x = S from fun m e S => by unfold actT; rw [if_neg h0, if_neg h1, if_neg h2])
  clear h0 h1 h2
  obtain ⟨sd, hsd, hsl⟩ : ∃ sd : Nat, IntKind.u64.wrap x.now = (sd : Int) ∧ sd < 18446744073709551616 := by
    refine ⟨(IntKind.u64.wrap x.now).toNat, ?_, ?_⟩ <;> rw [IntKind.wrap_u64] <;> omega
  go_upto_region 12 with (fail)
  clear hdo hb0 hb1 hb2
  have hcid := fun w' (h : Grew W w') => Grew.cell h (RStepO_id HM0.out.blk)
  have hcnow := fun w' (h : Grew W w') => Grew.cell h (RStepO_now HM0.out.blk)
  have hclife := fun w' (h : Grew W w') => Grew.cell h (RStepO_life HM0.out.blk)
  have hdg := RStepO_dig HM0.out.blk
  refine (wpIn_wide (n := 5)).1 ?_
  refine wpIn_region_mix (ro := none) (C := Grew W) [0, 1, 2, 3, 4, 5, 6, 7, 8, 9, 11, 12, 13, 14, 15, 16, 17, 18, 19, 20] [10, 21] [22, 23] (by kernel_rfl) (by kernel_rfl) (Grew.start _) (fun c a d v w h => by cases d <;> exact h) ?_
  simp only [opsAt, List.flatMap_cons, List.flatMap_nil, List.getElem?_cons_zero, List.getElem?_cons_succ, Option.toList_some, List.cons_append, List.nil_append]
  go_simp
  repeat (first
    | (go_big_quiet_want; (with_reducible apply quiet_load_at (ty := 30) (x := .tmp _)); rfl; rfl; assumption; go_simp; go_big_quiet_on)
    | (go_big_quiet_want; apply quiet_val; (intro w' hw'; go_simp; first | done | rfl); go_simp; go_big_quiet_on)
    | (go_big_quiet_skip))
  refine wpQuiet_nil ?_
  intro w5 hw5
  have HM5 := Lib.hid (HM0.out.new hw5)
  refine LateL.cons rfl (wp_enter (f := 22) (args := #[.pointer (some ⟨t, 0, none⟩), .agg (x.dig.map B8).toArray, .int .i64 x.id, .int .i64 x.life, .int .u64 (sd : Int)]) (by go_simp <;> rfl) (Ask_any t mb most each E x.dig x.id x.life sd w5 HM5.out.tab HE.out he H32.out hsl) ?_)
  rintro e w6 ⟨u6, rfl, hi6, hb6⟩
  have hw6 : Grew W w6 := below_next hw5 hb6
  refine ⟨_, rfl, hw6, ?_⟩
  have HM6 := Lib.hid (HM5.out.new hb6)
  refine LateL.cons rfl (wp_enter (f := 34) (args := #[.pointer (some ⟨r, 0, none⟩), .agg (x.dig.map B8).toArray, .int .i64 x.id, .int .i64 x.life, .int .u64 (sd : Int)]) (by go_simp <;> rfl) (RAsk_any r many1 most1 B v L T x.dig x.id x.life sd w6 HM6.out.ref HRT.out hm1 he1 H32.out hsl) ?_)
  rintro e w7 ⟨u7, rfl, hi7, hb7⟩
  have hw7 : Grew W w7 := below_next hw6 hb7
  refine ⟨_, rfl, hw7, ?_⟩
  have HM7 := Lib.hid (HM6.out.new hb7)
  refine LateL.nil ?_
  rw [wF_none]
  refine wpListIn_of_wp (ro := none) rfl (fun c hc => by cases hc) (wp_enter (f := 33) (args := #[u6, u7]) (by go_simp <;> rfl) (RSameN_any u6 u7 _ _ w7 (hi6.of_new hb7) hi7) ?_)
  rintro e w8 ⟨rfl, hb8⟩
  refine ⟨_, rfl, ?_⟩
  have HM8 := Lib.hid (HM7.out.new hb8)
  obtain ⟨bb, hbb⟩ : ∃ bb, decide (sampleL sd (othersL (peersT x.dig (tabOf E)) x.id) x.life = sampleL sd (othersL (peersT x.dig T) x.id) x.life) = bb := ⟨_, rfl⟩
  rw [hbb]
  have HBB := Lib.hid hbb
  clear hcid hcnow hclife hdg hw5 hi6 hb6 hw6 hi7 hb7 hw7 hb8 hbb
  rw [wF_none]
  gi_wp2
  go_wp2
  go_ret
  exact ⟨E, v, L, bb, rfl, (HA0.out _ _ _).symm, HM8.out.tab, HM8.out.own, by rw [HA0.out]; exact HM8.out.ref, HM8.out.kept.mono fun k _ hk => hk.1, fun q1 q2 q3 => by rw [← HBB.out, q3]; simp⟩

end Go.Proofs.Ytnohglkilpnjhaa

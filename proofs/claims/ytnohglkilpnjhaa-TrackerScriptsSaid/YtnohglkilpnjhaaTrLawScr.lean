/- The walk of the law TrackerScripts: it answers true. No condition. -/
import Derived.Test.YtnohglkilpnjhaaTrStepW
import Derived.Test.YtnohglkilpnjhaaTrRNew
import Derived.Test.YtnohglkilpnjhaaTrAwake
import Derived.Test.YtnohglkilpnjhaaDigSame
namespace Go.Proofs.Ytnohglkilpnjhaa
open Go.RowKit
set_option linter.unusedVariables false
set_option linter.unusedSimpArgs false
set_option maxRecDepth 100000

/-- Ahead of each step. -/
structure ScrI (w : World) (t mb : Nat) (a b : Int) (r B : Nat) (E : EntL) (v : Value) (L : RefL) (T : TabL) (W : World) : Prop where
  tab : TabP W t a b mb E
  ok : EntOk a b E
  ref : RTabP W r a b B v L T
  own : ∀ k, ownE mb E k → w.heap.size ≤ k
  base : w.heap.size ≤ B
  below : Below w.heap.size w W
theorem ScrI.new {w t mb a b r B E v L T W W'} (h : ScrI w t mb a b r B E v L T W) (hb : Below W.heap.size W W') : ScrI w t mb a b r B E v L T W' :=
  ⟨h.tab.of_new hb, h.ok, h.ref.of_new hb, h.own, h.base, below_next h.below hb⟩
theorem ScrI.step {w : World} {t mb : Nat} {a b : Int} {r B : Nat} {E E' : EntL} {v v' : Value} {L L' : RefL} {T T' : TabL} {W W' : World} {x : StepL} (h : ScrI w t mb a b r B E v L T W) (ha : 1 ≤ a) (hb : 1 ≤ b) (hx : x.ok) (hE : tabOf E' = actT a b (tabOf E) x) (hT : TabP W' t a b mb E') (ho : ∀ k, ownE mb E' k → ownE mb E k ∨ W.heap.size ≤ k)
    (hR : RTabP W' r a b B v' L' T') (hk : Kept (fun k => ¬ ownE mb E k ∧ k ≠ r ∧ v.ownBlock ≠ some k) W W') : ScrI w t mb a b r B E' v' L' T' W' := by
  refine ⟨hT, ?_, hR, fun k hk => (ho k hk).elim (h.own k) (Nat.le_trans h.below.size), h.base, Kept.to_below h.below hk h.below.size fun k hlt => ⟨fun q => ?_, ?_, fun q => ?_⟩⟩
  · unfold EntOk; rw [hE]; exact TabOk.act h.ok ha hb hx
  · have := h.own k q; omega
  · have := h.ref.base; have := h.base; omega
  · have := (h.ref.own.lt k q).1; have := h.base; omega

set_option maxHeartbeats 6400000 in
theorem TrackerScripts_walk (a b : Int) (v : Value) (l : List StepL) (w : World) (ha1 : -9223372036854775808 ≤ a) (ha2 : a ≤ 9223372036854775807) (hb1 : -9223372036854775808 ≤ b) (hb2 : b ≤ 9223372036854775807) (hl : RStep.Row w v l) :
    Calls Try.prog 5 #[.int .i64 a, .int .i64 b, v] w fun e w' => e = .returned (.bool true) ∧ Below w.heap.size w w' := by
  obtain ⟨va, vc, hv⟩ := hl.len
  subst hv
  have hle := hl.le
  have HL := Lib.hid hl
  clear hl ha1 ha2 hb1 hb2
  rcases hn : newOk a b with _ | _
  · have HN := Lib.hid hn
    clear hn
    go_enter Try.func5, Try.ntmps5
    go_upto_region 6 with (first
      | (go_at_call 9; refine (awake_any _).mono ?_; rintro e w1 ⟨rfl, hb1⟩; have HB1 := Lib.hid hb1; clear hb1)
      | (go_at_call 10; refine (New_bad a b _ HN.out).mono ?_; rintro e w2 ⟨rfl, hb2⟩; have HB2 := Lib.hid (below_next HB1.out hb2); clear hb2)
      | (go_at_call 15; refine (RNew_bad a b _ HN.out).mono ?_; rintro e w3 ⟨rfl, rfl⟩))
    go_wp2
    go_loopw [12, 13, 14, 15] (fun iv _ _ _ W => iv = .int .i64 0 ∧ Below w.heap.size w W) (fun _ _ _ _ _ => 0)
    case atStart => exact ⟨rfl, HB2.out⟩
    case round =>
      obtain ⟨rfl, hb⟩ := hrel
      by_cases h0 : (0 : Int) < (l.length : Int)
      all_goals
        go_wp2
        go_ret
        exact ⟨rfl, hb⟩
  · have hm := newOk_iff.1 hn
    have HN := Lib.hid hn
    have HMM := Lib.hid hm
    clear hn hm
    go_enter Try.func5, Try.ntmps5
    go_upto_region 6 with (first
      | (go_at_call 9; refine (awake_any _).mono ?_; rintro e w1 ⟨rfl, hb1⟩; have HB1 := Lib.hid hb1; clear hb1)
      | (go_at_call 10; refine (New_ok a b _ HN.out).mono ?_; rintro e w2 ⟨t, mb, rfl, hT2, ht2, hmb2, hb2⟩; have HB2 := Lib.hid (below_next HB1.out hb2); have HT2 := Lib.hid hT2; have HM2 := Lib.hid (Nat.le_trans HB1.out.size hmb2); clear hb2 hT2 ht2 hmb2)
      | (go_at_call 15; refine (RNew_ok a b _ HN.out).mono ?_; rintro e w3 ⟨r, rfl, hR3, hb3⟩; have HI := Lib.hid (show ScrI w t mb a b r w2.heap.size [] (.slice none 0 0) [] [] w3 from ⟨HT2.out.of_new hb3, entE_nil (by have := HMM.out.1.1; omega), hR3, (fun j hj => by rcases hj with rfl | ⟨x, hx, _⟩; exact HM2.out; cases hx), HB2.out.size, below_next HB2.out hb3⟩); clear hR3 hb3))
    go_wp2
    go_loopw [12, 13, 14, 15] (fun iv _ _ _ W => ∃ (i : Nat) (E : EntL) (v : Value) (L : RefL), i ≤ l.length ∧ iv = .int .i64 (i : Int) ∧ ScrI w t mb a b r w2.heap.size E v L (tabOf E) W) (fun iv _ _ _ _ => l.length - (intOf iv).toNat)
    case atStart => exact ⟨0, [], _, [], Nat.zero_le _, rfl, HI.out⟩
    case round =>
      rename World => w4
      obtain ⟨i, E, rv, L, hi, rfl, hI⟩ := hrel
      have HI4 := Lib.hid hI
      clear hI
      by_cases hlt : i < l.length
      case neg =>
        have hii : ¬ (i : Int) < (l.length : Int) := by omega
        go_wp2
        go_ret
        exact ⟨rfl, HI4.out.below⟩
      have hii : (i : Int) < (l.length : Int) := by omega
      by_cases h150 : i < 150
      case neg =>
        have h15 : ¬ (i : Int) < 150 := by omega
        go_wp2
        go_ret
        exact ⟨rfl, HI4.out.below⟩
      have h15 : (i : Int) < 150 := by omega
      obtain ⟨b0, off, c', hv, hbl, hc⟩ := HL.out.at_ (by omega)
      obtain ⟨rfl, rfl⟩ : va = some ⟨b0, off, none⟩ ∧ vc = c' := by cases hv; exact ⟨rfl, rfl⟩
      obtain ⟨x, hx⟩ : ∃ x, l[i]? = some x := ⟨_, List.getElem?_eq_getElem hlt⟩
      have HC := Lib.hid (hc i x hx)
      have hat : RStep.At w4 b0 (off + i * 37) x := (hc i x hx).of_new HI4.out.below
      have HAT := Lib.hid hat
      have hxo : RStep.ok x := hat.1
      have HXO := Lib.hid hxo
      have H32 := Lib.hid (show x.dig.length = 32 from hxo.1)
      clear hv hc hx hat hxo hbl
      go_upto_region 10 with (first
        | ((with_reducible refine wpList_plain (o := ⟨some 62, Op.load _ _, _, _, _, _⟩) rfl fun K hK => ?_); (refine HAT.out.wp rfl rfl (hK _ _ ?_)))
        | (go_at_call 16; refine (step_any t mb a b E r a b w2.heap.size rv L (tabOf E) x _ HI4.out.tab HI4.out.ok HMM.out.1 HMM.out.2 HI4.out.ref HI4.out.ok HMM.out.1 HMM.out.2 HXO.out).mono ?_; unfold StepPost; rintro e w5 ⟨E5, v5, L5, b5, rfl, hE5, hT5, ho5, hR5, hk5, hb5⟩; obtain rfl : b5 = true := hb5 rfl rfl rfl; rw [← hE5] at hR5; have HI5 := Lib.hid (HI4.out.step HMM.out.1.1 HMM.out.2.1 HXO.out hE5 hT5 ho5 hR5 hk5); clear hE5 hT5 ho5 hR5 hk5 hb5))
      have HAT5 := Lib.hid (HC.out.of_new HI5.out.below)
      have hdg : DigAt w5 b0 (off + i * 37 + 1) x.dig := RStep_dig HAT5.out
      refine (wpIn_wide (n := 5)).1 ?_
      refine wpIn_region_mix (ro := none) (C := Grew w5) [0, 1, 2, 3, 4, 5, 7, 8, 9, 10, 11, 12] [6, 13] [14, 15] (by kernel_rfl) (by kernel_rfl) (Grew.start _) (fun c a d v w h => by cases d <;> exact h) ?_
      simp only [opsAt, List.flatMap_cons, List.flatMap_nil, List.getElem?_cons_zero, List.getElem?_cons_succ, Option.toList_some, List.cons_append, List.nil_append]
      go_simp
      repeat (first
        | (go_big_quiet_want; (with_reducible apply quiet_load_at (ty := 30) (x := .tmp _)); rfl; rfl; assumption; go_simp; go_big_quiet_on)
        | (go_big_quiet_want; apply quiet_val; (intro w' hw'; go_simp; first | done | rfl); go_simp; go_big_quiet_on)
        | (go_big_quiet_skip))
      refine wpQuiet_nil ?_
      intro w6 hw6
      have HI6 := Lib.hid (HI5.out.new hw6)
      refine LateL.cons rfl (wp_enter (f := 12) (args := #[.pointer (some ⟨t, 0, none⟩), .agg (x.dig.map B8).toArray]) (by go_simp <;> rfl) (Peers_any t mb a b E5 x.dig w6 HI6.out.tab HI6.out.ok HMM.out.2 H32.out) ?_)
      rintro e w7 ⟨u7, rfl, ho7, hb7⟩
      have hw7 : Grew w5 w7 := below_next hw6 hb7
      refine ⟨_, rfl, hw7, ?_⟩
      have HI7 := Lib.hid (HI6.out.new hb7)
      refine LateL.cons rfl (wp_enter (f := 18) (args := #[.pointer (some ⟨r, 0, none⟩), .agg (x.dig.map B8).toArray]) (by go_simp <;> rfl) (RPeers_any r a b w2.heap.size v5 L5 (tabOf E5) x.dig w7 HI7.out.ref HI7.out.ok HMM.out.1 H32.out) ?_)
      rintro e w8 ⟨u8, rfl, ho8, hb8⟩
      have hw8 : Grew w5 w8 := below_next hw7 hb8
      refine ⟨_, rfl, hw8, ?_⟩
      have HI8 := Lib.hid (HI7.out.new hb8)
      refine LateL.nil ?_
      rw [wF_none]
      refine wpListIn_of_wp (ro := none) rfl (fun c hc => by cases hc) (wp_enter (f := 17) (args := #[u7, u8]) (by go_simp <;> rfl) (RSameP_any u7 u8 _ _ w8 (ho7.row.of_new hb8) ho8) ?_)
      rintro e w9 ⟨rfl, hb9⟩
      refine ⟨_, rfl, ?_⟩
      have HI9 := Lib.hid (HI8.out.new hb9)
      have hsame : decide (peersT x.dig (tabOf E5) = peersT x.dig (tabOf E5)) = true := by simp
      rw [hsame]
      clear hdg hw6 ho7 hb7 hw7 ho8 hb8 hw8 hb9 hsame
      rw [wF_none]
      gi_wp2
      go_wp2_with (first
        | (go_at_call 20; refine (Blobs_any t mb a b E5 _ HI9.out.tab HI9.out.ok HMM.out.1).mono ?_; rintro e w10 ⟨u10, rfl, ho10, hb10⟩; have HO10 := Lib.hid ho10; have HI10 := Lib.hid (HI9.out.new hb10); clear ho10 hb10)
        | (go_at_call 21; refine (RBlobs_any r a b w2.heap.size v5 L5 (tabOf E5) _ HI10.out.ref HI10.out.ok HMM.out.1).mono ?_; rintro e w11 ⟨u11, rfl, ho11, hb11⟩; have HO11 := Lib.hid ho11; have HO10' := Lib.hid (HO10.out.of_new hb11); have HI11 := Lib.hid (HI10.out.new hb11); clear ho11 hb11)
        | (go_at_call 19; refine (Same_any _ _ _ _ _ HO10'.out.row HO11.out.row).mono ?_; rintro e w12 ⟨rfl, hb12⟩; rw [show decide ((tabOf E5).map (·.1) = (tabOf E5).map (·.1)) = true by simp]; have HI12 := Lib.hid (HI11.out.new hb12); clear hb12))
      go_roundw
      case rel => exact ⟨i + 1, E5, v5, L5, by omega, by go_num, HI12.out⟩
      case measure => simp [intOf]; omega

end Go.Proofs.Ytnohglkilpnjhaa

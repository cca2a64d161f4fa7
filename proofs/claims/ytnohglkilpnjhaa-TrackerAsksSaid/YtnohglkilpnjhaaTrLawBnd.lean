/- The walk of the law TrackerBounds: it answers true. No condition. -/
import Derived.Test.YtnohglkilpnjhaaTrStepW
import Derived.Test.YtnohglkilpnjhaaTrRNew
import Derived.Test.YtnohglkilpnjhaaTrAwake
namespace Go.Proofs.Ytnohglkilpnjhaa
open Go.RowKit
set_option linter.unusedVariables false
set_option linter.unusedSimpArgs false
set_option maxRecDepth 100000

/-- Ahead of each step. -/
structure BndI (w : World) (t mb : Nat) (a b : Int) (E : EntL) (W : World) : Prop where
  tab : TabP W t a b mb E
  ok : EntOk a b E
  own : ∀ k, ownE mb E k → w.heap.size ≤ k
  below : Below w.heap.size w W
theorem BndI.new {w t mb a b E W W'} (h : BndI w t mb a b E W) (hb : Below W.heap.size W W') : BndI w t mb a b E W' := ⟨h.tab.of_new hb, h.ok, h.own, below_next h.below hb⟩
theorem BndI.step {w : World} {t mb : Nat} {a b : Int} {E E' : EntL} {W W1 W' : World} {r : Nat} {x : StepL} (h : BndI w t mb a b E W) (ha : 1 ≤ a) (hb : 1 ≤ b) (hx : x.ok) (hW : Below W.heap.size W W1) (hr : W.heap.size ≤ r) (hE : tabOf E' = actT a b (tabOf E) x) (hT : TabP W' t a b mb E') (ho : ∀ k, ownE mb E' k → ownE mb E k ∨ W1.heap.size ≤ k)
    (hk : Kept (fun k => ¬ ownE mb E k ∧ k ≠ r ∧ Value.ownBlock (.slice none 0 0) ≠ some k) W1 W') : BndI w t mb a b E' W' := by
  have hs := h.below.size
  have hs2 := hW.size
  refine ⟨hT, ?_, fun k hk => (ho k hk).elim (h.own k) (fun q => by omega), Kept.to_below (below_next h.below hW) hk (by omega) fun k hlt => ⟨fun q => ?_, by omega, fun q => by cases q⟩⟩
  · unfold EntOk; rw [hE]; exact TabOk.act h.ok ha hb hx
  · have := h.own k q; omega
/-- Behind Expire each peer lasts. -/
theorem act_lasts {a b : Int} {T : TabL} {x : StepL} (h2 : x.act = 2) (h0 : 0 ≤ x.now) (h1 : x.now ≤ 1099511627776) : ∀ y ∈ actT a b T x, ∀ p ∈ y.2, x.now < p.till := by
  intro y hy p hp
  unfold actT at hy
  rw [if_neg (by omega), if_neg (by omega), if_pos h2] at hy
  unfold expT at hy
  rw [if_pos ⟨h0, h1⟩] at hy
  obtain ⟨z, _, _, hz, _⟩ := liveT_mem hy
  rw [hz] at hp
  simpa using (List.mem_filter.1 hp).2

set_option maxHeartbeats 6400000 in
theorem TrackerBounds_walk (a b : Int) (v : Value) (l : List StepL) (w : World) (ha1 : -9223372036854775808 ≤ a) (ha2 : a ≤ 9223372036854775807) (hb1 : -9223372036854775808 ≤ b) (hb2 : b ≤ 9223372036854775807) (hl : RStep.Row w v l) :
    Calls Try.prog 6 #[.int .i64 a, .int .i64 b, v] w fun e w' => e = .returned (.bool true) ∧ Below w.heap.size w w' := by
  obtain ⟨va, vc, hv⟩ := hl.len
  subst hv
  have hle := hl.le
  have HL := Lib.hid hl
  clear hl ha1 ha2 hb1 hb2
  rcases hn : newOk a b with _ | _
  · have HN := Lib.hid hn
    clear hn
    go_enter Try.func6, Try.ntmps6
    go_wp2_with (first
      | (go_at_call 9; refine (awake_any _).mono ?_; rintro e w1 ⟨rfl, hb1⟩; have HB1 := Lib.hid hb1; clear hb1)
      | (go_at_call 10; refine (New_bad a b _ HN.out).mono ?_; rintro e w2 ⟨rfl, hb2⟩; have HB2 := Lib.hid (below_next HB1.out hb2); clear hb2))
    all_goals
      go_ret
      exact ⟨rfl, HB2.out⟩
  · have hm := newOk_iff.1 hn
    have HN := Lib.hid hn
    have HMM := Lib.hid hm
    have hbr := build_rtab 1 1
    clear hn hm
    go_enter Try.func6, Try.ntmps6
    go_upto_region 5 with (first
      | (go_at_call 9; refine (awake_any _).mono ?_; rintro e w1 ⟨rfl, hb1⟩; have HB1 := Lib.hid hb1; clear hb1)
      | (go_at_call 10; refine (New_ok a b _ HN.out).mono ?_; rintro e w2 ⟨t, mb, rfl, hT2, ht2, hmb2, hb2⟩; have HI := Lib.hid (show BndI w t mb a b [] w2 from ⟨hT2, entE_nil (by have := HMM.out.1.1; omega), (fun j hj => by rcases hj with rfl | ⟨x, hx, _⟩; exact Nat.le_trans HB1.out.size hmb2; cases hx), below_next HB1.out hb2⟩); clear hb2 hT2 ht2 hmb2))
    go_wp2
    go_loopw [10, 11, 12, 13, 14] (fun iv _ _ _ _ W => ∃ (i : Nat) (E : EntL), i ≤ l.length ∧ iv = .int .i64 (i : Int) ∧ BndI w t mb a b E W) (fun iv _ _ _ _ _ => l.length - (intOf iv).toNat)
    case atStart => exact ⟨0, [], Nat.zero_le _, rfl, HI.out⟩
    case round =>
      rename World => w4
      obtain ⟨i, E, hi, rfl, hI⟩ := hrel
      have HI4 := Lib.hid hI
      clear hI
      by_cases hlt : i < l.length
      case neg =>
        have hii : ¬ (i : Int) < (l.length : Int) := by omega
        go_wp2
        go_ret
        exact ⟨rfl, HI4.out.below⟩
      have hii : (i : Int) < (l.length : Int) := by omega
      by_cases h150 : i < 150
      case neg =>
        have h15 : ¬ (i : Int) < 150 := by omega
        go_wp2
        go_ret
        exact ⟨rfl, HI4.out.below⟩
      have h15 : (i : Int) < 150 := by omega
      obtain ⟨b0, off, c', hv, hbl, hc⟩ := HL.out.at_ (by omega)
      obtain ⟨rfl, rfl⟩ : va = some ⟨b0, off, none⟩ ∧ vc = c' := by cases hv; exact ⟨rfl, rfl⟩
      obtain ⟨x, hx⟩ : ∃ x, l[i]? = some x := ⟨_, List.getElem?_eq_getElem hlt⟩
      have HC := Lib.hid (hc i x hx)
      have hxo : RStep.ok x := (hc i x hx).1
      have HXO := Lib.hid hxo
      clear hv hc hx hxo hbl
      go_upto_region 8 with (fail)
      obtain ⟨w5, hw5⟩ : ∃ w5, w4.alloc (.cells #[.int .i64 1, .int .i64 1, .slice none 0 0] 57) = w5 := ⟨_, rfl⟩
      have HR5 := Lib.hid (show RTabP w5 w4.heap.size 1 1 w4.heap.size (.slice none 0 0) [] [] by rw [← hw5]; exact rtabP_new w4 1 1)
      have HB45 := Lib.hid (show Below w4.heap.size w4 w5 by rw [← hw5]; exact (Below.refl _ w4).alloc (Nat.le_refl _) _)
      have HW5 := Lib.hid hw5
      have HAT := Lib.hid (show RStep.At w5 b0 (off + i * 37) x from (HC.out.of_new HI4.out.below).of_new HB45.out)
      clear hw5
      go_upto_region 9 with (first
        | ((with_reducible refine wpList_plain (o := ⟨some 57, Op.load _ _, _, _, _, _⟩) rfl fun K hK => ?_); rw [HW5.out]; (refine HAT.out.wp rfl rfl (hK _ _ ?_)))
        | (go_at_call 16; refine (step_any t mb a b E w4.heap.size 1 1 w4.heap.size (.slice none 0 0) [] [] x _ (HI4.out.tab.of_new HB45.out) HI4.out.ok HMM.out.1 HMM.out.2 HR5.out (TabOk.nil (by decide)) (by decide) (by decide) HXO.out).mono ?_; unfold StepPost; rintro e w6 ⟨E6, v6, L6, b6, rfl, hE6, hT6, ho6, hR6, hk6, -⟩; have HE6 := Lib.hid hE6; have HI6 := Lib.hid (HI4.out.step HMM.out.1.1 HMM.out.2.1 HXO.out HB45.out (Nat.le_refl _) hE6 hT6 ho6 hk6); clear hE6 hT6 ho6 hR6 hk6))
      have hdl : ¬ a < (((tabOf E6).map (·.1)).length : Int) := by rw [List.length_map]; have := HI6.out.ok.few; omega
      have hdl2 : ((tabOf E6).map (·.1)).length ≤ 1000 := by rw [List.length_map]; have := HI6.out.ok.few; have := HMM.out.1.2; omega
      have HLST := Lib.hid (fun (h2 : x.act = 2) (h0 : 0 ≤ x.now) (h1 : x.now ≤ 1099511627776) => by have := act_lasts (a := a) (b := b) (T := tabOf E) h2 h0 h1; rwa [← HE6.out] at this)
      obtain ⟨D, hD⟩ : ∃ D, (tabOf E6).map (·.1) = D := ⟨_, rfl⟩
      rw [hD] at hdl hdl2
      have HD := Lib.hid hD
      clear hD hbr
      go_upto_region 10 with (go_at_call 20; refine (Blobs_any t mb a b E6 _ HI6.out.tab HI6.out.ok HMM.out.1).mono ?_; rw [HD.out]; rintro e w7 ⟨v7, rfl, ho7, hb7⟩; obtain ⟨a7, c7, hv7⟩ := ho7.row.len; subst hv7; have HO7 := Lib.hid ho7.row; have HI7 := Lib.hid (HI6.out.new hb7); clear ho7 hb7)
      have HAT7 := Lib.hid (HC.out.of_new HI7.out.below)
      go_wp2
      clear hdl
      go_loopw [12, 13, 14] (fun kv _ _ W => ∃ k : Nat, k ≤ D.length ∧ kv = .int .i64 (k : Int) ∧ Below w7.heap.size w7 W) (fun kv _ _ _ => D.length - (intOf kv).toNat)
      case atStart => exact ⟨0, Nat.zero_le _, rfl, Below.refl _ _⟩
      case round =>
        rename World => w8
        obtain ⟨k, hk, rfl, hb8⟩ := hrel
        by_cases hlk : k < D.length
        case neg =>
          obtain rfl : k = D.length := by omega
          have hkk : ¬ (D.length : Int) < (D.length : Int) := by omega
          have HI8 := Lib.hid (HI7.out.new hb8)
          clear hb8
          go_wp2
          go_roundw
          case rel => exact ⟨i + 1, E6, by omega, by go_num, HI8.out⟩
          case measure => simp [intOf]; omega
        have hkk : (k : Int) < (D.length : Int) := by omega
        obtain ⟨⟨d, P⟩, hy⟩ : ∃ y, (tabOf E6)[k]? = some y := ⟨_, List.getElem?_eq_getElem (by have := congrArg List.length HD.out; rw [List.length_map] at this; omega)⟩
        have hdk : D[k]? = some d := by rw [← HD.out, List.getElem?_map, hy]; rfl
        have hym := List.mem_of_getElem? hy
        have h32 := HI6.out.ok.dig _ hym
        obtain ⟨hPok, hPne, hPl⟩ := HI6.out.ok.ps _ hym
        have hpe := peersT_mem HI6.out.ok.rise hym
        dsimp only at h32 hPok hPne hPl hpe
        obtain ⟨db, doff, c', hv, hbl, hat⟩ := HO7.out.at_ (by omega)
        obtain ⟨rfl, rfl⟩ : a7 = some ⟨db, doff, none⟩ ∧ c7 = c' := by cases hv; exact ⟨rfl, rfl⟩
        have hA : RDig.At w8 db (doff + k * 32) d := (hat k d hdk).of_new hb8
        have HA := Lib.hid hA
        have H32 := Lib.hid h32
        have HPE := Lib.hid hpe
        have HPO := Lib.hid hPok
        have HLP := Lib.hid (fun h2 h0 h1 => HLST.out h2 h0 h1 _ hym)
        have HI8 := Lib.hid (HI7.out.new hb8)
        have HB8 := Lib.hid hb8
        have t1 : ((P.length : Int) == 0) = false := by rw [beq_eq_false_iff_ne]; intro e; exact hPne (List.length_eq_zero_iff.1 (by omega))
        have t2 : ¬ b < (P.length : Int) := by omega
        have t3 : P.length ≤ 64 := by have := HMM.out.2.2; omega
        clear hy hdk hym h32 hPok hPne hPl hpe hv hbl hat hA hb8
        go_upto_region 16 with (first
          | ((with_reducible refine wpList_plain (o := ⟨some 75, Op.load _ _, _, _, _, _⟩) rfl fun K hK => ?_); (refine HA.out.wp rfl rfl (hK _ _ ?_)))
          | (go_at_call 12; refine (Peers_any t mb a b E6 d _ HI8.out.tab HI8.out.ok HMM.out.2 H32.out).mono ?_; rw [HPE.out]; rintro e w9 ⟨v9, rfl, ho9, hb9⟩; obtain ⟨a9, c9, hv9⟩ := ho9.row.len; subst hv9; have HO9 := Lib.hid ho9.row; have HB9 := Lib.hid (below_next HB8.out hb9); clear ho9 hb9))
        go_wp2
        go_loopw [14] (fun jv W => ∃ j : Nat, j ≤ P.length ∧ jv = .int .i64 (j : Int) ∧ Below w9.heap.size w9 W) (fun jv _ => P.length - (intOf jv).toNat)
        case atStart => exact ⟨0, Nat.zero_le _, rfl, Below.refl _ _⟩
        case round =>
          rename World => w10
          obtain ⟨j, hj, rfl, hb10⟩ := hrel
          by_cases hlj : j < P.length
          case neg =>
            obtain rfl : j = P.length := by omega
            have hjj : ¬ (P.length : Int) < (P.length : Int) := by omega
            have HB10 := Lib.hid (below_next HB9.out hb10)
            clear hb10
            go_wp2
            go_roundw
            case rel => exact ⟨k + 1, by omega, by go_num, HB10.out⟩
            case measure => simp [intOf]; omega
          have hjj : (j : Int) < (P.length : Int) := by omega
          obtain ⟨pb, poff, c', hv, hbl, hat⟩ := HO9.out.at_ (by omega)
          obtain ⟨rfl, rfl⟩ : a9 = some ⟨pb, poff, none⟩ ∧ c9 = c' := by cases hv; exact ⟨rfl, rfl⟩
          obtain ⟨p, hp⟩ : ∃ p, P[j]? = some p := ⟨_, List.getElem?_eq_getElem hlj⟩
          have hpc := peer_cells ((hat j p hp).of_new hb10)
          have hxc := HAT7.out.of_new (below_next HB9.out hb10)
          have hpm := List.mem_of_getElem? hp
          have c1 := fun w' (h : Grew w10 w') => (Grew.cell h hpc.1 : w'.cell? ⟨pb, poff + j * 3, none⟩ = _)
          have c2 := fun w' (h : Grew w10 w') => (Grew.cell h hpc.2.1 : w'.cell? ⟨pb, poff + j * 3 + 1, none⟩ = _)
          have c3 := fun w' (h : Grew w10 w') => (Grew.cell h (RStep_do hxc) : w'.cell? ⟨b0, off + i * 37, none⟩ = _)
          have c4 := fun w' (h : Grew w10 w') => (Grew.cell h (RStep_now hxc) : w'.cell? ⟨b0, off + i * 37 + 34, none⟩ = _)
          have hcase : (x.act == 2) = false ∨ ((x.act == 2) = true ∧ ¬ 0 ≤ x.now) ∨ ((x.act == 2) = true ∧ 0 ≤ x.now ∧ ¬ x.now ≤ 1099511627776) ∨ ((x.act == 2) = true ∧ 0 ≤ x.now ∧ x.now ≤ 1099511627776 ∧ ¬ p.till ≤ x.now) := by
            by_cases h2 : x.act = 2
            · have e2 : (x.act == 2) = true := beq_iff_eq.2 h2
              by_cases h0 : 0 ≤ x.now
              · by_cases h1 : x.now ≤ 1099511627776
                · exact .inr (.inr (.inr ⟨e2, h0, h1, by have := HLP.out h2 h0 h1 p hpm; omega⟩))
                · exact .inr (.inr (.inl ⟨e2, h0, h1⟩))
              · exact .inr (.inl ⟨e2, h0⟩)
            · exact .inl (beq_eq_false_iff_ne.2 h2)
          rcases Nat.eq_zero_or_pos j with hj0 | hj0
          · subst hj0
            rw [Nat.zero_mul, Nat.add_zero] at c1 c2
            have HB10 := Lib.hid hb10
            clear hv hbl hat hp hpc hxc hpm hb10
            rw [show ((0 : Nat) : Int) = 0 from rfl] at hjj ⊢
            go_upto_region 21 with (fail)
            rcases hcase with q1 | ⟨q1, q2⟩ | ⟨q1, q2, q3⟩ | ⟨q1, q2, q3, q4⟩
            all_goals
              refine wp_region_grew (by kernel_rfl) (by kernel_rfl) ?_
              repeat (first
                | (go_big_quiet_want; (with_reducible apply quiet_load_at (ty := 30) (x := .tmp _)); rfl; rfl; assumption; go_simp; go_big_quiet_on)
                | (go_big_quiet_want; apply quiet_val; (intro w' hw'; go_simp; first | done | rfl); go_simp; go_big_quiet_on)
                | (go_big_quiet_skip))
              refine wpQuiet_nil ?_
              intro w11 hw11
              have HB11 := Lib.hid (below_next HB10.out hw11)
              clear hw11 c1 c2 c3 c4
              go_wp2
              go_roundw
              case rel => exact ⟨1, by omega, by go_num, HB11.out⟩
              case measure => simp [intOf]; omega
          · obtain ⟨m, hm⟩ : ∃ m, j - 1 = m := ⟨_, rfl⟩
            have hjm : (j : Int) - 1 = (m : Int) := by omega
            have hmj : m < P.length := by omega
            have hmm : (m : Int) < (P.length : Int) := by omega
            have hj1 : (0 : Int) < (j : Int) := by omega
            have hwm : IntKind.i64.wrap (m : Int) = (m : Int) := by rw [IntKind.wrap_i64]; omega
            obtain ⟨q, hq⟩ : ∃ q, P[m]? = some q := ⟨_, List.getElem?_eq_getElem hmj⟩
            have hqc := peer_cells ((hat m q hq).of_new hb10)
            have c5 := fun w' (h : Grew w10 w') => (Grew.cell h hqc.1 : w'.cell? ⟨pb, poff + m * 3, none⟩ = _)
            have hri : ¬ p.id ≤ q.id := by
              have hr := HPO.out.rise
              have h1 := List.pairwise_iff_getElem.1 hr m j hmj hlj (by omega)
              have e1 : P[m] = q := by rw [List.getElem?_eq_getElem hmj] at hq; exact Option.some.inj hq
              have e2 : P[j] = p := by rw [List.getElem?_eq_getElem hlj] at hp; exact Option.some.inj hp
              rw [e1, e2] at h1
              omega
            have HB10 := Lib.hid hb10
            have HM := Lib.hid hm
            clear hv hbl hat hp hpc hxc hpm hb10 hq hqc hm
            go_upto_region 21 with (fail)
            rcases hcase with q1 | ⟨q1, q2⟩ | ⟨q1, q2, q3⟩ | ⟨q1, q2, q3, q4⟩
            all_goals
              refine wp_region_grew (by kernel_rfl) (by kernel_rfl) ?_
              repeat (first
                | (go_big_quiet_want; (with_reducible apply quiet_load_at (ty := 30) (x := .tmp _)); rfl; rfl; assumption; go_simp; go_big_quiet_on)
                | (go_big_quiet_want; apply quiet_val; (intro w' hw'; go_simp; first | done | rfl); go_simp; go_big_quiet_on)
                | (go_big_quiet_skip))
              refine wpQuiet_nil ?_
              intro w11 hw11
              have HB11 := Lib.hid (below_next HB10.out hw11)
              clear hw11 c1 c2 c3 c4 c5
              go_wp2
              go_roundw
              case rel => exact ⟨j + 1, by omega, by go_num, HB11.out⟩
              case measure => simp [intOf]; omega

end Go.Proofs.Ytnohglkilpnjhaa

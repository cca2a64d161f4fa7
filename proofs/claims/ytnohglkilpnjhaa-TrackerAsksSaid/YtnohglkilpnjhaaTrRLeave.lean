/- The walk of the document's answer's Leave. Condition: the table as it lies. -/
import Derived.Test.YtnohglkilpnjhaaTrRSt
namespace Go.Proofs.Ytnohglkilpnjhaa
open Go.RowKit
set_option linter.unusedVariables false
set_option linter.unusedSimpArgs false
set_option maxRecDepth 100000

set_option maxHeartbeats 3200000 in
theorem RLeave_any (r : Nat) (many most : Int) (B : Nat) (v : Value) (L : RefL) (T : TabL) (d : List UInt8) (id : Int) (w : World) (hR : RTabP w r many most B v L T) (hT : TabOk many most T) (hm : 1 ≤ many ∧ many ≤ 1000) (he : 1 ≤ most ∧ most ≤ 64) (h32 : d.length = 32) :
    Calls Try.prog 31 #[.pointer (some ⟨r, 0, none⟩), .agg (d.map B8).toArray, .int .i64 id] w
      (RPost w r many most B v (leaveT T d id).1 (.int .i64 (leaveT T d id).2)) := by
  obtain ⟨W, hW⟩ : ∃ W, w.alloc (.cells (d.map B8).toArray 30) = W := ⟨_, rfl⟩
  have ho : DigO W w.heap.size d := by rw [← hW]; exact digO_new w h32
  have hb : Below w.heap.size w W := by rw [← hW]; exact (Below.refl _ w).alloc (Nat.le_refl _) _
  have HW := Lib.hid hW
  have HO := Lib.hid ho
  have HT := Lib.hid hT
  have H32 := Lib.hid h32
  have hst0 : RSt w r many most B v W v L T := (RSt.start hR).new hb
  have HST0 := Lib.hid hst0
  have hTl : T.length ≤ 1000 := by have := hT.few; omega
  have HTL := Lib.hid hTl
  have hps0 := (peersT_ok hT he.1 d).1
  have hps1 := (peersT_ok hT he.1 d).2
  obtain ⟨ps, hps⟩ : ∃ ps, peersT d T = ps := ⟨_, rfl⟩
  have hlv : leaveT T d id = if (getK PeerL.id id ps).isSome then (backT d (delK PeerL.id id ps) T, 0) else (T, 4) := by unfold leaveT; rw [hps]
  obtain ⟨R, hR2⟩ : ∃ R, leaveT T d id = R := ⟨_, rfl⟩
  rw [hR2] at hlv ⊢
  have HLV := Lib.hid hlv
  rw [hps] at hps0 hps1
  have HPS := Lib.hid hps
  have HPS0 := Lib.hid hps0
  have hpl64 : ps.length ≤ 64 := by omega
  have HPS1 := Lib.hid hpl64
  clear hR hT hW ho hb hst0 h32 hTl hps hps0 hps1 hlv hR2
  go_enter Try.func31, Try.ntmps31
  go_upto_region 1 with (fail)
  rw [HW.out]
  obtain ⟨g, hg⟩ : ∃ g, w.heap.size = g := ⟨_, rfl⟩
  rw [hg] at HO ⊢
  clear hg
  go_upto_region 2 with (first
    | ((with_reducible refine wpList_plain (o := ⟨some 13, Op.load _ _, _, _, _, _⟩) rfl fun K hK => ?_); (refine wp_load_at (ty := 30) (x := .tmp 4) rfl rfl HO.out.at_ (hK _ _ ?_)))
    | (go_at_call 35; refine (RPlace_any r many most B v L T d _ HST0.out.tab HT.out.rise HT.out.dig (by have := HTL.out; omega) H32.out).mono ?_; rintro e w2 ⟨i, is, rfl, hpl, hb2⟩; have HPL := Lib.hid hpl; have HST2 := Lib.hid (HST0.out.new hb2); clear hpl hb2))
  cases is
  case false =>
    obtain ⟨h1, h2, h3⟩ := HPL.out.not HT.out.rise
    have hnone : (getK PeerL.id id ps).isSome = false := by
      rw [← HPS.out, h1]; rfl
    have HNO := Lib.hid hnone
    clear h1 h2 h3 hnone
    go_wp2
    go_ret
    have hr : R = (T, 4) := by rw [HLV.out, HNO.out]; rfl
    exact ⟨_, _, (by rw [hr]; rfl), by rw [hr]; exact HST2.out.tab, HST2.out.step⟩
  case true =>
    obtain ⟨ps', h1, h2, h3, h4, _⟩ := HPL.out.is HT.out.rise
    obtain rfl : ps = ps' := by rw [← HPS.out, h2]
    have HAT := Lib.hid h1
    have HINS := Lib.hid h3
    have HDEL := Lib.hid h4
    clear h1 h2 h3 h4
    obtain ⟨gv, gc, hv, -, -, -, -, -⟩ := HST2.out.tab.form (by have := (List.getElem?_eq_some_iff.1 HAT.out).1; omega)
    subst hv
    obtain ⟨n1, hn1⟩ : ∃ n1, T.length = n1 := ⟨_, rfl⟩
    rw [hn1] at HST2
    obtain ⟨a7, k7, hu7, hrow7, hcell7, hfz7, hin7, hn7⟩ := HST2.out.tab.entry HAT.out
    have hii : (i : Int) < (n1 : Int) := by omega
    have hn1b : n1 ≤ 1000 := by rw [← hn1]; exact HTL.out
    have HN1 := Lib.hid hn1
    have HU7 := Lib.hid hu7
    have HROW := Lib.hid hrow7
    have HC7 := Lib.hid hcell7
    have c2 := HST2.out.tab.cell2
    clear hn1 hu7 hrow7 hfz7 hn7
    go_wp2
    go_loopw [10] (fun kv W' => ∃ k : Nat, k ≤ ps.length ∧ kv = .int .i64 (k : Int) ∧ (∀ p ∈ ps.take k, p.id ≠ id) ∧ Below w2.heap.size w2 W') (fun kv _ => ps.length - (intOf kv).toNat)
    case atStart => exact ⟨0, Nat.zero_le _, rfl, (fun p hp => by cases hp), Below.refl _ _⟩
    case round =>
      rename World => w3
      obtain ⟨k, hk, rfl, hno, hb3⟩ := hrel
      by_cases hlt : k < ps.length
      · have hki : (k : Int) < (ps.length : Int) := by omega
        obtain ⟨pb, off, c', hv, hbl, hat⟩ := HROW.out.row.at_ (by omega)
        obtain ⟨rfl, rfl⟩ : a7 = some ⟨pb, off, none⟩ ∧ k7 = c' := by cases hv; exact ⟨rfl, rfl⟩
        obtain ⟨p, hp⟩ : ∃ p, ps[k]? = some p := ⟨_, List.getElem?_eq_getElem hlt⟩
        have hcp : w3.cell? ⟨pb, off + k * 3, none⟩ = some (.int .i64 p.id) := (peer_cells ((hat k p hp).of_new hb3)).1
        have HP := Lib.hid hp
        have HNO := Lib.hid hno
        have HB3 := Lib.hid hb3
        clear hv hbl hat hp hno hb3 hcell7 c2
        by_cases heq : p.id = id
        · have e1 : (p.id == id) = true := beq_iff_eq.2 heq
          have hs := split_at HP.out
          have hr2 := HPS0.out.rise
          rw [hs] at hr2
          have hdel : delK PeerL.id id ps = ps.take k ++ ps.drop (k + 1) := by
            have := delK_mid hr2
            rw [← hs, heq] at this
            exact this
          have hsome : (getK PeerL.id id ps).isSome = true := by
            rw [(getK_some HPS0.out.rise).2 ⟨List.mem_of_getElem? HP.out, heq⟩]; rfl
          have HDELP := Lib.hid hdel
          have HSOME := Lib.hid hsome
          clear hs hr2 hdel hsome heq
          go_upto_region 9 with (fail)
          have hc2 := fun w' (h : Grew w3 w') => Grew.cell h (HST2.out.new HB3.out).tab.cell2
          clear hcp
          refine (wpIn_wide (n := 5)).1 ?_
          refine wpIn_region_mix (ro := none) (C := Grew w3) [0, 1, 2, 3, 4, 5, 6] [7] [8, 9, 10] (by kernel_rfl) (by kernel_rfl) (Grew.start _) (fun c a d v w h => by cases d <;> exact h) ?_
          simp only [opsAt, List.flatMap_cons, List.flatMap_nil, List.getElem?_cons_zero, List.getElem?_cons_succ, Option.toList_some, List.cons_append, List.nil_append]
          go_simp
          repeat (first
            | (go_big_quiet_want; apply quiet_val; (intro w' hw'; go_simp; first | done | rfl); go_simp; go_big_quiet_on)
            | (go_big_quiet_skip))
          refine wpQuiet_nil ?_
          intro w5 hw5
          refine LateL.cons rfl (wp_enter (f := 56) (args := #[.slice (some ⟨pb, off, none⟩) ps.length k7, .int .i64 (k : Int)]) (by go_simp <;> rfl) (RCutPeer_any _ ps k w5 (HROW.out.row.of_new (below_next HB3.out hw5)) hlt (by have := HPS1.out; omega)) ?_)
          rintro e w6 ⟨v6, rfl, ho6, hb6⟩
          have hw6 : Grew w3 w6 := below_next hw5 hb6
          refine ⟨_, rfl, hw6, ?_⟩
          refine LateL.nil ?_
          rw [wF_none]
          rw [← HDELP.out] at ho6
          obtain ⟨q, hq⟩ : ∃ q, delK PeerL.id id ps = q := ⟨_, rfl⟩
          rw [hq] at ho6
          have HQ := Lib.hid hq
          obtain ⟨a6, k6, hv6⟩ := ho6.row.len
          subst hv6
          have hw26 : Below w2.heap.size w2 w6 := below_next HB3.out hw6
          obtain ⟨-, -, -, -, -, hfz6, -, -⟩ := (HST2.out.new hw26).tab.entry HAT.out
          have hcu6 := Grew.cell hw26 HC7.out
          have hst7 := (HST2.out.new hw26).set (q := q) HU7.out HAT.out (ho6.mono (base' := B) (by have := (HST2.out.new HB3.out).tab.base; have := (HST2.out.new HB3.out).tab.lt; have := hw5.size; omega))
          have HST7 := Lib.hid hst7
          clear hw5 hb6 ho6 hw6 hq hst7 hc2 hw26
          gi_wp2
          generalize hW7 : World.setCell w6 _ _ = w7
          rw [hW7] at HST7
          clear hW7 hcu6 hfz6
          have hqn : q.length + 1 = ps.length := by
            rw [← HQ.out]
            exact delK_len HPS0.out.rise (fun e => by have := HSOME.out; rw [e] at this; cases this)
          by_cases h1 : ps.length = 1
          · have t1 : ((ps.length : Int) == 1) = true := by simp; omega
            have hq0 : q = [] := List.length_eq_zero_iff.1 (by omega)
            have HQ0 := Lib.hid hq0
            clear hq0 hqn h1
            go_wp2_with (go_at_call 59; refine (RCut_any r many most B _ _ _ i _ HST7.out.tab (by rw [List.length_set]; exact (List.getElem?_eq_some_iff.1 HAT.out).1) (by rw [List.length_set]; have := HTL.out; omega)).mono ?_; rintro e w25 ⟨v25, L25, rfl, ht25, hs25, ho25⟩; have HT25 := Lib.hid ht25; have HS25 := Lib.hid (HST7.out.next ht25 hs25 (fun k e => .inr (ho25 k e))); clear ht25 hs25 ho25)
            go_ret
            have hcutT : (T.set i (d, q)).take i ++ (T.set i (d, q)).drop (i + 1) = backT d q T := by
              unfold backT
              rw [if_pos HQ0.out, HDEL.out, List.take_set, List.drop_set, if_pos (by omega)]
              congr 1
              exact List.set_eq_of_length_le (by rw [List.length_take]; omega)
            have hr : R = (backT d q T, 0) := by rw [HLV.out, HSOME.out, HQ.out]; rfl
            exact ⟨_, _, (by rw [hr]; rfl), by rw [hr]; show RTabP _ r many most B _ _ (backT d q T); rw [← hcutT]; exact HS25.out.tab, HS25.out.step⟩
          · have t1 : ((ps.length : Int) == 1) = false := by simp; omega
            have hq0 : q ≠ [] := fun e => h1 (by rw [← hqn, e]; rfl)
            have HQ0 := Lib.hid hq0
            clear hq0 hqn h1
            go_wp2
            go_ret
            have hcutT : T.set i (d, q) = backT d q T := by
              unfold backT
              rw [if_neg HQ0.out, HINS.out]
            have hr : R = (backT d q T, 0) := by rw [HLV.out, HSOME.out, HQ.out]; rfl
            exact ⟨_, _, (by rw [hr]; rfl), by rw [hr]; show RTabP _ r many most B _ _ (backT d q T); rw [← hcutT]; exact HST7.out.tab, HST7.out.step⟩
        · have e1 : (p.id == id) = false := beq_eq_false_iff_ne.2 heq
          have HNE := Lib.hid heq
          clear heq
          go_wp2
          go_roundw
          case rel =>
            refine ⟨k + 1, by omega, by go_num, fun z hz => ?_, HB3.out⟩
            rw [take_snoc_at HP.out] at hz
            rcases List.mem_append.1 hz with hz | hz
            · exact HNO.out z hz
            · rw [List.mem_singleton.1 hz]; exact HNE.out
          case measure => simp [intOf]; omega
      · obtain rfl : k = ps.length := by omega
        rw [List.take_length] at hno
        have hnone : (getK PeerL.id id ps).isSome = false := by rw [getK_none.2 hno]; rfl
        have HNO := Lib.hid hnone
        have hki : ¬ (ps.length : Int) < (ps.length : Int) := by omega
        have HB3 := Lib.hid hb3
        clear hno hnone hb3
        go_wp2
        go_ret
        have hr : R = (T, 4) := by rw [HLV.out, HNO.out]; rfl
        exact ⟨_, _, (by rw [hr]; rfl), by rw [hr]; exact (HST2.out.new HB3.out).tab, (HST2.out.new HB3.out).step⟩

end Go.Proofs.Ytnohglkilpnjhaa

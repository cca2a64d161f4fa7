/- The walk of the law TrackerFirst: it answers true. No condition. -/
import Derived.Test.YtnohglkilpnjhaaTrAwake
import Derived.Test.YtnohglkilpnjhaaTrFirstPlain
namespace Go.Proofs.Ytnohglkilpnjhaa
open Go.RowKit
set_option linter.unusedVariables false
set_option linter.unusedSimpArgs false
set_option maxRecDepth 100000

/-- Ahead of each round of the first loop. -/
def FstI (w : World) (t mb : Nat) (most : Int) (l : List Int) (iv : Value) (W : World) : Prop :=
  ∃ (k : Nat) (P : List PeerL) (E : EntL), k ≤ l.length ∧ iv = .int .i64 (k : Int) ∧ FInv most l k P ∧ tabOf E = oneT dig0 P ∧ EntOk 1 most E ∧ TabP W t 1 most mb E ∧ (∀ j, ownE mb E j → w.heap.size ≤ j) ∧ Below w.heap.size w W

/-- The map of those that are there. -/
def thereL (l : List PeerL) : List (Int × Value) := (l.map (fun p => (p.id, Value.bool true))).reverse
theorem thereL_snoc {l : List PeerL} {p : PeerL} (h : ∀ q ∈ l, q.id ≠ p.id) : thereL (l ++ [p]) = putM (thereL l) p.id (.bool true) := by
  have hf : delL (thereL l) p.id = thereL l := List.filter_eq_self.2 fun x hx => by
    obtain ⟨q, hq, rfl⟩ := List.mem_map.1 (List.mem_reverse.1 hx)
    simp [h q hq]
  unfold putM
  rw [hf]
  simp [thereL]
theorem thereL_get (l : List PeerL) (x : Int) : ((getL (thereL l) x).getD (.bool false) = .bool true ∧ ∃ p ∈ l, p.id = x) ∨ ((getL (thereL l) x).getD (.bool false) = .bool false ∧ ∀ p ∈ l, p.id ≠ x) := by
  unfold getL
  cases e : (thereL l).find? (fun q => decide (q.1 = x)) with
  | none =>
    refine .inr ⟨rfl, fun p hp h => ?_⟩
    have := List.find?_eq_none.1 e (p.id, .bool true) (List.mem_reverse.2 (List.mem_map.2 ⟨p, hp, rfl⟩))
    simp [h] at this
  | some y =>
    have h1 := List.mem_of_find?_eq_some e
    have h2 : y.1 = x := by simpa using List.find?_some e
    obtain ⟨p, hp, rfl⟩ := List.mem_map.1 (List.mem_reverse.1 h1)
    exact .inl ⟨rfl, p, hp, h2⟩
/-- Ahead of each round of the second loop. -/
def ThrI (w3 : World) (P : List PeerL) (lv kv : Value) (W : World) : Prop :=
  ∃ k : Nat, k ≤ P.length ∧ lv = .int .i64 (leastF (P.take k)) ∧ kv = .int .i64 (k : Int) ∧ MapL KInt W w3.heap.size (thereL (P.take k)) ∧ Below w3.heap.size w3 W

set_option maxHeartbeats 6400000 in
theorem TrackerFirst_walk (v : Value) (l : List Int) (most : Int) (w : World) (hl : Ints w v l) (hm1 : -9223372036854775808 ≤ most) (hm2 : most ≤ 9223372036854775807) :
    Calls Try.prog 3 #[v, .int .i64 most] w fun e w' => e = .returned (.bool true) ∧ Below w.heap.size w w' := by
  obtain ⟨a, c, hv⟩ := hl.len
  subst hv
  have hle := hl.le
  have HL := Lib.hid hl
  have hbd := build_digz
  clear hl
  rcases hn : newOk 1 most with _ | _
  · have HN := Lib.hid hn
    clear hn
    go_enter Try.func3, Try.ntmps3
    go_wp2_with (first
      | (go_at_call 9; refine (awake_any _).mono ?_; rintro e w1 ⟨rfl, hb1⟩; have HB1 := Lib.hid hb1; clear hb1)
      | (go_at_call 10; refine (New_bad 1 most _ HN.out).mono ?_; rintro e w2 ⟨rfl, hb2⟩; have HB2 := Lib.hid (below_next HB1.out hb2); clear hb2))
    all_goals
      go_ret
      exact ⟨rfl, HB2.out⟩
  · have hm := newOk_iff.1 hn
    have HN := Lib.hid hn
    clear hn hm1 hm2
    go_enter Try.func3, Try.ntmps3
    go_upto_region 3 with (first
      | (go_at_call 9; refine (awake_any _).mono ?_; rintro e w1 ⟨rfl, hb1⟩; have HB1 := Lib.hid hb1; clear hb1)
      | (go_at_call 10; refine (New_ok 1 most _ HN.out).mono ?_; rintro e w2 ⟨t, mb, rfl, hT2, ht2, hmb2, hb2⟩; have HB2 := Lib.hid (below_next HB1.out hb2); have HT2 := Lib.hid hT2; have HM2 := Lib.hid (Nat.le_trans HB1.out.size hmb2); clear hb2 hT2 ht2 hmb2))
    by_cases h100 : 100 < l.length
    · have t1 : (100 : Int) < (l.length : Int) := by omega
      go_wp2
      go_ret
      exact ⟨rfl, HB2.out⟩
    have t1 : ¬ (100 : Int) < (l.length : Int) := by omega
    go_wp2
    go_loopw [8, 9] (fun iv _ W => FstI w t mb most l iv W) (fun iv _ _ => l.length - (intOf iv).toNat)
    case atStart => exact ⟨0, [], [], Nat.zero_le _, rfl, FInv.start hm.2.1 l, rfl, entE_nil (by decide), HT2.out, (fun j hj => by rcases hj with rfl | ⟨x, hx, _⟩; exact HM2.out; cases hx), HB2.out⟩
    case round =>
      obtain ⟨k, P, E, hk, rfl, hf, hE, hok, hT, how, hb⟩ := hrel
      by_cases hlt : k < l.length
      · have hki : (k : Int) < (l.length : Int) := by omega
        obtain ⟨bb, off, c', hv, hbl, hc⟩ := HL.out.cell (by omega)
        obtain ⟨rfl, rfl⟩ : a = some ⟨bb, off, none⟩ ∧ c = c' := by cases hv; exact ⟨rfl, rfl⟩
        have hck := (hb.cell (p := ⟨bb, off + k, none⟩) hbl).trans (hc k hlt)
        obtain ⟨x, hx⟩ : ∃ x, l.getD k 0 = x := ⟨_, rfl⟩
        rw [hx] at hck
        have HX := Lib.hid hx
        have HF := Lib.hid hf
        have HE := Lib.hid hE
        have HOK := Lib.hid hok
        have HT := Lib.hid hT
        have HOW := Lib.hid how
        have HB := Lib.hid hb
        have HCK := Lib.hid hck
        clear hv hc hx hf hE hok hT how hb
        by_cases hx1 : x < 1
        · go_wp2
          go_ret
          exact ⟨rfl, HB.out⟩
        · by_cases hx2 : 1048576 < x
          · go_wp2
            go_ret
            exact ⟨rfl, HB.out⟩
          · have hann : annT 1 most (tabOf E) dig0 ((k : Int) + 1) 0 x false = (oneT dig0 (stepF most P k x), 0) := by
              have := ann_one (d := dig0) HF.out hm.2.1 (by omega) (by rw [HX.out]; omega)
              rw [HX.out] at this
              rw [HE.out]; exact this
            have HAN := Lib.hid hann
            clear hann
            go_wp2_with (go_at_call 11; refine (Announce_any t mb 1 most E dig0 ((k : Int) + 1) 0 x false _ HT.out HOK.out (by decide) hm.2 dig0_len).mono ?_; unfold AnnPost; rw [HAN.out]; rintro e w3 ⟨E3, h3, rfl, hT3, hs3⟩; have HE3 := Lib.hid h3; have HT3 := Lib.hid hT3; have HS3 := Lib.hid hs3; clear h3 hT3 hs3)
            go_roundw
            case rel =>
              have hst := HF.out.step hm.2.1 (by omega) (by rw [HX.out]; omega)
              rw [HX.out] at hst
              have hok3 := TabOk.ann HOK.out (by decide) hm.2.1 dig0_len ((k : Int) + 1) 0 x false
              rw [HAN.out] at hok3
              refine ⟨k + 1, _, E3, by omega, by go_num, hst, HE3.out, by unfold EntOk; rw [HE3.out]; exact hok3, HT3.out, fun j hj => ?_, HS3.out.below HB.out HB.out.size HOW.out⟩
              rcases HS3.out.own j hj with h | h
              · exact HOW.out j h
              · exact Nat.le_trans HB.out.size h
            case measure => simp [intOf]; omega
      · obtain rfl : k = l.length := by omega
        have hki : ¬ (l.length : Int) < (l.length : Int) := by omega
        have hpe : peersT dig0 (tabOf E) = P := by rw [hE]; exact peersT_one
        have HPE := Lib.hid hpe
        have HF := Lib.hid hf
        have HOK := Lib.hid hok
        have HT := Lib.hid hT
        have HB := Lib.hid hb
        have hmm := @run_makeMap Try.prog
        clear hpe hf hE hok hT how hb hk hlt
        go_upto_region 15 with (go_at_call 12; refine (Peers_any t mb 1 most E dig0 _ HT.out HOK.out hm.2 dig0_len).mono ?_; rw [HPE.out]; rintro e w3 ⟨v3, rfl, ho3, hb3⟩; obtain ⟨a3, c3, hv⟩ := ho3.row.len; subst hv; have HO3 := Lib.hid ho3.row; have HB3 := Lib.hid (below_next HB.out hb3); clear ho3 hb3)
        have hlenP := HF.out.len
        obtain ⟨n, hn⟩ : ∃ n, l.length = n := ⟨_, rfl⟩
        have HNL := Lib.hid hn
        go_upto_region 16 with (fail)
        obtain ⟨w4, hw4⟩ : ∃ w4, w3.alloc (.map #[] 0) = w4 := ⟨_, rfl⟩
        have hb4 : Below w3.heap.size w3 w4 := by rw [← hw4]; exact (Below.refl _ w3).alloc (Nat.le_refl _) _
        have hm4 : MapL KInt w4 w3.heap.size [] := by rw [← hw4]; exact mapL_made w3
        rw [hw4]
        clear hw4
        go_wp2
        go_loopw [11, 13] (fun lv kv W => ThrI w3 P lv kv W) (fun _ kv _ => P.length - (intOf kv).toNat)
        case atStart => exact ⟨0, Nat.zero_le _, rfl, rfl, hm4, hb4⟩
        case round =>
          clear hb4 hm4
          obtain ⟨k, hk, rfl, rfl, hmk, hbk⟩ := hrel
          by_cases hlt : k < P.length
          · have hki2 : (k : Int) < (P.length : Int) := by omega
            obtain ⟨pb, off, c', hv, hbl, hat⟩ := HO3.out.at_ (by omega)
            obtain ⟨rfl, rfl⟩ : a3 = some ⟨pb, off, none⟩ ∧ c3 = c' := by cases hv; exact ⟨rfl, rfl⟩
            obtain ⟨p, hp⟩ : ∃ p, P[k]? = some p := ⟨_, List.getElem?_eq_getElem hlt⟩
            have hA := (hat k p hp).of_new hbk
            have hid : wr.cell? ⟨pb, off + k * 3, none⟩ = some (.int .i64 p.id) := hA.2.2 0 (by decide)
            have htl : wr.cell? ⟨pb, off + k * 3 + 1, none⟩ = some (.int .i64 p.till) := hA.2.2 1 (by decide)
            have hpm : p ∈ P := List.mem_of_getElem? hp
            have hpo := HF.out.ps.ok p hpm
            unfold PeerOk at hpo
            have htk : P.take (k + 1) = P.take k ++ [p] := by rw [List.take_add_one, hp]; rfl
            have hnin : ∀ q ∈ P.take k, q.id ≠ p.id := fun q hq e => by
              have hr := HF.out.ps.rise
              rw [← List.take_append_drop k P, List.drop_eq_getElem_cons hlt] at hr
              have hpe : P[k] = p := by rw [List.getElem?_eq_getElem hlt] at hp; cases hp; rfl
              rw [hpe] at hr
              have := hr.mid.1 q hq
              omega
            obtain ⟨w6, hput, hm6, hg6, hs6⟩ := hmk.put (t := 33) Try.underlying33 (KT := KInt) (x := p.id) (show _ ∧ _ by omega) (.bool true) (by simp [thereL]; omega)
            replace hput : (Instr.mapUpdate 33 (.map (some w3.heap.size)) (.int .i64 p.id) (.bool true)).run Try.prog wr = .ok () w6 := hput
            have hm6' : MapL KInt w6 w3.heap.size (thereL (P.take (k + 1))) := by rw [htk, thereL_snoc hnin]; exact hm6
            have HM6 := Lib.hid hm6'
            have HB6 := Lib.hid (hbk.grown hg6 hbk.size (fun r e => by cases e; exact Nat.le_refl _))
            have HTK := Lib.hid htk
            have hsm := leastF_snoc (P.take k) p
            rw [← htk] at hsm
            have HSM := Lib.hid hsm
            obtain ⟨L0, hL0⟩ : ∃ L0, leastF (P.take k) = L0 := ⟨_, rfl⟩
            rw [hL0] at hsm ⊢
            have HSM := Lib.hid hsm
            clear hv hat hp hA hpm hpo htk hnin hmk hbk hm6 hm6' hg6 hs6 hsm hL0
            go_wp2
            all_goals
              go_roundw
              case rel => exact ⟨k + 1, by omega, by rw [HSM.out] <;> first | rfl | (congr 1; omega), by go_num, HM6.out, HB6.out⟩
              case measure => simp [intOf]; omega
          · obtain rfl : k = P.length := by omega
            rw [List.take_length] at hmk ⊢
            have HMK := Lib.hid hmk
            have HBK := Lib.hid hbk
            have hki2 : ¬ (P.length : Int) < (P.length : Int) := by omega
            clear hmk hbk hmm
            obtain ⟨L0, hL0⟩ : ∃ L0, leastF P = L0 := ⟨_, rfl⟩
            rw [hL0]
            have HL0 := Lib.hid hL0
            clear hL0
            go_wp2
            go_loopw [14] (fun kv W => ∃ k : Nat, k ≤ n ∧ kv = .int .i64 (k : Int) ∧ W = wr) (fun kv _ => n - (intOf kv).toNat)
            case atStart => exact ⟨0, Nat.zero_le _, rfl, rfl⟩
            case round =>
              rename World => w7
              obtain ⟨k, hk, rfl, rfl⟩ := hrel
              by_cases hlt : k < n
              · have hki3 : (k : Int) < (n : Int) := by omega
                obtain ⟨bb, off, c', hv, hbl, hc⟩ := HL.out.cell (by rw [HNL.out]; omega)
                obtain ⟨rfl, rfl⟩ : a = some ⟨bb, off, none⟩ ∧ c = c' := by cases hv; exact ⟨rfl, rfl⟩
                have hck := ((below_next HB3.out HBK.out).cell (p := ⟨bb, off + k, none⟩) hbl).trans (hc k (by rw [HNL.out]; exact hlt))
                obtain ⟨x, hx⟩ : ∃ x, l.getD k 0 = x := ⟨_, rfl⟩
                rw [hx] at hck
                have hlk := HMK.out.look (t := 33) Try.underlying33 (Try.zeroValue4 _) (KT := KInt) (x := (k : Int) + 1) (show _ ∧ _ by omega)
                rcases thereL_get P ((k : Int) + 1) with ⟨hg, _⟩ | ⟨hg, hno⟩
                · rw [hg] at hlk
                  replace hlk : (Instr.lookup 33 (.map (some w3.heap.size)) (.int .i64 ((k : Int) + 1)) false).run Try.prog _ = .ok (.bool true) _ := hlk
                  clear hv hc hx hg
                  go_wp2
                  go_roundw
                  case rel => exact ⟨k + 1, by omega, by go_num, trivial⟩
                  case measure => simp [intOf]; omega
                · rw [hg] at hlk
                  replace hlk : (Instr.lookup 33 (.map (some w3.heap.size)) (.int .i64 ((k : Int) + 1)) false).run Try.prog _ = .ok (.bool false) _ := hlk
                  have hsd : ¬ L0 < x := by
                    rw [← HL0.out, ← hx]
                    exact HF.out.said (by rw [HNL.out]; exact hlt) hno
                  clear hv hc hx hg hno
                  go_wp2
                  go_roundw
                  case rel => exact ⟨k + 1, by omega, by go_num, trivial⟩
                  case measure => simp [intOf]; omega
              · obtain rfl : k = n := by omega
                have hki3 : ¬ (k : Int) < (k : Int) := by omega
                have hfin : ((P.length : Int) == min most (k : Int)) = true := by rw [beq_iff_eq, hlenP, HNL.out]
                go_wp2
                all_goals
                  go_ret
                  exact ⟨ret_bool (by first | rfl | (simp; omega)), below_next HB3.out HBK.out⟩

end Go.Proofs.Ytnohglkilpnjhaa

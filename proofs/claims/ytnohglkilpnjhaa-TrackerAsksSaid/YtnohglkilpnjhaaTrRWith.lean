/- The walk of the document's answer's with: peers with one more, or in the place of the old one. Condition: rising peers, few. -/
import Derived.Test.YtnohglkilpnjhaaTrRFew
import Derived.Test.YtnohglkilpnjhaaRegionMix
namespace Go.Proofs.Ytnohglkilpnjhaa
open Go.RowKit
set_option linter.unusedVariables false
set_option linter.unusedSimpArgs false
set_option maxRecDepth 100000

theorem peer_till_set {w : World} {g : Nat} {p : PeerL} (h : RPeer.O w g p) (t : Int) : RPeer.O (w.setCell ⟨g, 1, none⟩ (.int .i64 t)) g ⟨p.id, t, p.seed⟩ := by
  refine ⟨?_, trivial⟩
  obtain ⟨hlt, hk⟩ := Array.getElem?_eq_some_iff.1 h.1
  show (w.heap.modify g _)[g]? = _
  rw [Array.getElem?_eq_getElem (by rw [Array.size_modify]; exact hlt), Array.getElem_modify_self, hk]
  rfl
theorem peer_seed_set {w : World} {g : Nat} {p : PeerL} (h : RPeer.O w g p) (b : Bool) : RPeer.O (w.setCell ⟨g, 2, none⟩ (.bool b)) g ⟨p.id, p.till, b⟩ := by
  refine ⟨?_, trivial⟩
  obtain ⟨hlt, hk⟩ := Array.getElem?_eq_some_iff.1 h.1
  show (w.heap.modify g _)[g]? = _
  rw [Array.getElem?_eq_getElem (by rw [Array.size_modify]; exact hlt), Array.getElem_modify_self, hk]
  rfl

set_option maxHeartbeats 6400000 in
theorem RWith_any (v : Value) (l : List PeerL) (p : PeerL) (w : World) (hl : RPeer.Row w v l) (hr : Rising PeerL.id l) (hlen : l.length ≤ 1000) :
    Calls Try.prog 55 #[v, RPeer.V p] w fun e w' => ∃ v', e = .returned v' ∧ RPeer.Own w' w.heap.size v' (insK PeerL.id (mergeP p l) l) ∧ Below w.heap.size w w' := by
  obtain ⟨a, c, hv⟩ := hl.len
  subst hv
  obtain ⟨W, hW⟩ : ∃ W, w.alloc (.cells (RPeer.cells p).toArray 35) = W := ⟨_, rfl⟩
  have ho : RPeer.O W w.heap.size p := by rw [← hW]; exact RecT.o_new w (RPeer_ok p)
  have hb : Below w.heap.size w W := by rw [← hW]; exact (Below.refl _ w).alloc (Nat.le_refl _) _
  have HL := Lib.hid hl
  have HR := Lib.hid hr
  have HO := Lib.hid ho
  have HB := Lib.hid hb
  have HW := Lib.hid (show w.alloc (.cells #[.int .i64 p.id, .int .i64 p.till, .bool p.seed] 35) = W from hW)
  clear hl hr ho hb hW
  show Calls Try.prog 55 #[.slice a l.length c, .agg #[.int .i64 p.id, .int .i64 p.till, .bool p.seed]] w _
  go_enter Try.func55, Try.ntmps55
  go_upto_region 1 with (fail)
  rw [HW.out]
  obtain ⟨g, hg⟩ : ∃ g, w.heap.size = g := ⟨_, rfl⟩
  have HG := Lib.hid hg
  rw [hg] at HO HB ⊢
  clear hg
  go_wp2
  go_loopw [7] (fun iv W' => ∃ k : Nat, k ≤ l.length ∧ iv = .int .i64 (k : Int) ∧ RPeer.O W' g (mergeP p (l.take k)) ∧ Below g w W') (fun iv _ => l.length - (intOf iv).toNat)
  case atStart => exact ⟨0, Nat.zero_le _, rfl, HO.out, HB.out⟩
  case round =>
    obtain ⟨k, hk, rfl, hpo, hbr⟩ := hrel
    by_cases hlt : k < l.length
    · have hki : (k : Int) < (l.length : Int) := by omega
      obtain ⟨b, off, c', hv, hbl, hat⟩ := HL.out.at_ (by omega)
      obtain ⟨rfl, rfl⟩ : a = some ⟨b, off, none⟩ ∧ c = c' := by cases hv; exact ⟨rfl, rfl⟩
      obtain ⟨q, hq⟩ : ∃ q, l[k]? = some q := ⟨_, List.getElem?_eq_getElem hlt⟩
      have hbg : b < g := by rw [← HG.out]; exact hbl
      have hA : RPeer.At wr b (off + k * 3) q := ⟨trivial, Nat.lt_trans hbg hpo.lt, fun j hj => (hbr.cell (p := ⟨b, off + k * 3 + j, none⟩) hbg).trans ((hat k q hq).2.2 j hj)⟩
      have HST := Lib.hid (mergeP_snoc p (l.take k) q)
      obtain ⟨P, hP⟩ : ∃ P, mergeP p (l.take k) = P := ⟨_, rfl⟩
      rw [hP] at HST hpo
      have HTK := Lib.hid (take_snoc_at hq)
      have HPO := Lib.hid hpo
      have HBR := Lib.hid hbr
      have HA := Lib.hid hA
      have HBG := Lib.hid hbg
      have c1 := fun w' (h : Grew wr w') => (Grew.cell h (peer_cells hA).1 : w'.cell? ⟨b, off + k * 3, none⟩ = _)
      have c2 := fun w' (h : Grew wr w') => Grew.cell h (RPeer_id hpo)
      clear hv hbl hat hq hP hpo hbr hA hbg
      go_upto_region 6 with (fail)
      by_cases he : q.id = P.id
      · have e1 : (q.id == P.id) = true := beq_iff_eq.2 he
        have hst := HST.out
        rw [if_pos he] at hst
        have HS2 := Lib.hid hst
        clear hst he
        refine wp_region_grew (by kernel_rfl) (by kernel_rfl) ?_
        repeat (first
          | (go_big_quiet_want; (with_reducible apply quiet_load_at (ty := 30) (x := .tmp _)); rfl; rfl; assumption; go_simp; go_big_quiet_on)
          | (go_big_quiet_want; apply quiet_val; (intro w' hw'; go_simp; first | done | rfl); go_simp; go_big_quiet_on)
          | (go_big_quiet_skip))
        refine wpQuiet_nil ?_
        intro w5 hw5
        have HPO5 := Lib.hid (HPO.out.of_new hw5)
        have HA5 := Lib.hid (HA.out.of_new hw5)
        have HB5 := Lib.hid (below_next' HBR.out hw5 (Nat.le_of_lt HPO.out.lt))
        have c3 := fun w' (h : Grew w5 w') => Grew.cell h (RPeer_till HPO5.out)
        have c4 := fun w' (h : Grew w5 w') => (Grew.cell h (peer_cells HA5.out).2.1 : w'.cell? ⟨b, off + k * 3 + 1, none⟩ = _)
        clear c1 c2 hw5
        by_cases hmx : P.till < q.till
        case' pos => skip
        case' neg => skip
        all_goals
          go_upto_region 7 with (fail)
          refine wp_region_grew_tail 9 (by kernel_rfl) (by kernel_rfl) ?_
          simp only [List.take_succ_cons, List.take_zero, List.drop_succ_cons, List.drop_zero]
          repeat (first
            | (go_big_quiet_want; (with_reducible apply quiet_load_at (ty := 30) (x := .tmp _)); rfl; rfl; assumption; go_simp; go_big_quiet_on)
            | (go_big_quiet_want; apply quiet_val; (intro w' hw'; go_simp; first | done | rfl); go_simp; go_big_quiet_on)
            | (go_big_quiet_skip))
          refine wpQuiet_nil ?_
          intro w6 hw6
          have HPO6 := Lib.hid (HPO5.out.of_new hw6)
          have HA6 := Lib.hid (HA5.out.of_new hw6)
          have HB6 := Lib.hid (below_next' HB5.out hw6 (Nat.le_of_lt HPO5.out.lt))
          have hf := HPO6.out.free 1
          have hc6 := RPeer_till HPO6.out
          clear c3 c4 hw6
          go_upto_region 8 with (fail)
          generalize hW7 : World.setCell w6 _ _ = w7
          obtain ⟨M, hpo7, hA7, hb7, hM⟩ : ∃ M, RPeer.O w7 g ⟨P.id, M, P.seed⟩ ∧ RPeer.At w7 b (off + k * 3) q ∧ Below g w w7 ∧ max P.till q.till = M := by
            subst hW7
            exact ⟨_, peer_till_set HPO6.out _, HA6.out.of_block (Below.heap_setCell _ _ _ _ (Nat.ne_of_lt HBG.out)), HB6.out.setCell (p := ⟨g, 1, none⟩) (Nat.le_refl _) _, by omega⟩
          have hst := HS2.out
          rw [hM] at hst
          have HPO7 := Lib.hid hpo7
          have HB7 := Lib.hid hb7
          have c5 := RPeer_seed hpo7
          have c6 : w7.cell? ⟨b, off + k * 3 + 2, none⟩ = _ := (peer_cells hA7).2.2
          have hf2 := hpo7.free 2
          clear hW7 hM hpo7 hA7 hb7 hf hc6 hmx HS2
          dsimp only at c5
          have hsd : P.seed = true ∨ P.seed = false := by cases P.seed <;> simp
          rcases hsd with hB | hB
          · rw [hB] at c5 hst HPO7
            clear hB
            have HS3 := Lib.hid hst
            clear hst
            go_wp2
            generalize hW8 : World.setCell w7 _ _ = w8
            obtain ⟨hpo8, hb8⟩ : RPeer.O w8 g (mergeP p (l.take (k + 1))) ∧ Below g w w8 := by
              subst hW8
              rw [HTK.out, HS3.out]
              exact ⟨peer_seed_set HPO7.out _, HB7.out.setCell (p := ⟨g, 2, none⟩) (Nat.le_refl _) _⟩
            have HPO8 := Lib.hid hpo8
            have HB8 := Lib.hid hb8
            clear hW8 hpo8 hb8 c5 c6 hf2
            go_roundw
            case rel => exact ⟨k + 1, by omega, by go_num, HPO8.out, HB8.out⟩
            case measure => simp [intOf]; omega
          · rw [hB] at c5 hst HPO7
            clear hB
            have HS3 := Lib.hid hst
            clear hst
            go_wp2
            generalize hW8 : World.setCell w7 _ _ = w8
            obtain ⟨hpo8, hb8⟩ : RPeer.O w8 g (mergeP p (l.take (k + 1))) ∧ Below g w w8 := by
              subst hW8
              rw [HTK.out, HS3.out]
              exact ⟨peer_seed_set HPO7.out _, HB7.out.setCell (p := ⟨g, 2, none⟩) (Nat.le_refl _) _⟩
            have HPO8 := Lib.hid hpo8
            have HB8 := Lib.hid hb8
            clear hW8 hpo8 hb8 c5 c6 hf2
            go_roundw
            case rel => exact ⟨k + 1, by omega, by go_num, HPO8.out, HB8.out⟩
            case measure => simp [intOf]; omega
      · have e1 : (q.id == P.id) = false := beq_eq_false_iff_ne.2 he
        have hst := HST.out
        rw [if_neg he] at hst
        have HS2 := Lib.hid hst
        clear hst he
        refine wp_region_grew (by kernel_rfl) (by kernel_rfl) ?_
        repeat (first
          | (go_big_quiet_want; (with_reducible apply quiet_load_at (ty := 30) (x := .tmp _)); rfl; rfl; assumption; go_simp; go_big_quiet_on)
          | (go_big_quiet_want; apply quiet_val; (intro w' hw'; go_simp; first | done | rfl); go_simp; go_big_quiet_on)
          | (go_big_quiet_skip))
        refine wpQuiet_nil ?_
        intro w5 hw5
        have HPO5 := Lib.hid (HPO.out.of_new hw5)
        have HB5 := Lib.hid (below_next' HBR.out hw5 (Nat.le_of_lt HPO.out.lt))
        clear c1 c2 hw5
        go_wp2
        go_roundw
        case rel => exact ⟨k + 1, by omega, by go_num, by rw [HTK.out, HS2.out]; exact HPO5.out, HB5.out⟩
        case measure => simp [intOf]; omega
    · obtain rfl : k = l.length := by omega
      rw [List.take_length] at hpo
      obtain ⟨P, hP⟩ : ∃ P, mergeP p l = P := ⟨_, rfl⟩
      obtain ⟨n, hn⟩ : ∃ n, l.length = n := ⟨_, rfl⟩
      have hnb : n ≤ 1000 := by omega
      have HP := Lib.hid hP
      have HN := Lib.hid hn
      rw [hP] at hpo
      rw [hn]
      have hki : ¬ (n : Int) < (n : Int) := by omega
      have HPO := Lib.hid hpo
      have HBR := Lib.hid hbr
      clear hP hn hpo hbr hk hlt
      go_wp2
      go_loopw [5, 6, 8] (fun ov pv iv W' => ∃ k : Nat, k ≤ n ∧ iv = .int .i64 (k : Int) ∧ pv = .bool (putW P (l.take k)) ∧ RPeer.Own W' (g + 1) ov (outW P (l.take k)) ∧ RPeer.O W' g P ∧ Below g w W') (fun _ _ iv _ => n - (intOf iv).toNat)
      case atStart => exact ⟨0, Nat.zero_le _, rfl, rfl, RecT.Own.nil _ _, HPO.out, HBR.out⟩
      case round =>
        rename World => w1
        obtain ⟨k, hk, rfl, rfl, hown, hpo, hbr⟩ := hrel
        obtain ⟨oa, oc, hv⟩ := hown.row.len
        subst hv
        by_cases hlt : k < n
        · have hki : (k : Int) < (n : Int) := by omega
          obtain ⟨b, off, c', hv, hbl, hat⟩ := HL.out.at_ (by rw [HN.out]; omega)
          rw [HN.out] at hv
          obtain ⟨rfl, rfl⟩ : a = some ⟨b, off, none⟩ ∧ c = c' := by cases hv; exact ⟨rfl, rfl⟩
          obtain ⟨x, hx⟩ : ∃ q, l[k]? = some q := ⟨_, List.getElem?_eq_getElem (by rw [HN.out]; exact hlt)⟩
          have hbg : b < g := by rw [← HG.out]; exact hbl
          have hA : RPeer.At w1 b (off + k * 3) x := ⟨trivial, Nat.lt_trans hbg hpo.lt, fun j hj => (hbr.cell (p := ⟨b, off + k * 3 + j, none⟩) hbg).trans ((hat k x hx).2.2 j hj)⟩
          have htk := take_snoc_at hx
          have hrk : Rising PeerL.id (l.take k ++ [x]) := by rw [← htk]; exact List.Pairwise.sublist (List.take_sublist _ _) HR.out
          have hout := outW_snoc (p := P) hrk
          have hput := putW_snoc P (l.take k) x
          have hol := outW_len (p := P) (List.Pairwise.sublist (List.take_sublist k _) HR.out)
          rw [List.length_take, HN.out] at hol
          rw [← htk] at hout hput
          obtain ⟨O, hO⟩ : ∃ O, outW P (l.take k) = O := ⟨_, rfl⟩
          rw [hO] at hout hown hol ⊢
          have hol2 : O.length ≤ 1001 := by have := HN.out; omega
          have HOL := Lib.hid hol2
          have HOWN := Lib.hid hown
          have HPO := Lib.hid hpo
          have HBR := Lib.hid hbr
          have HA := Lib.hid hA
          have HTK := Lib.hid htk
          have HBG := Lib.hid hbg
          clear hv hbl hat hx hbg hA htk hrk hO hol hol2 hown hpo hbr
          have c1 := fun w' (h : Grew w1 w') => (Grew.cell h (peer_cells HA.out).1 : w'.cell? ⟨b, off + k * 3, none⟩ = _)
          have c2 := fun w' (h : Grew w1 w') => Grew.cell h (RPeer_id HPO.out)
          go_upto_region 12 with (fail)
          by_cases hap : putW P (l.take k) = false ∧ P.id ≤ x.id
          case' pos =>
            obtain ⟨h1, h2⟩ := hap
            rw [if_pos ⟨h1, h2⟩] at hout
            have hp2 : putW P (l.take (k + 1)) = true := by rw [hput, h1]; simp [h2]
            have HOUT := Lib.hid hout
            have HPUT := Lib.hid hp2
            clear hout hp2 hput
            rw [h1]
            clear h1
            refine wp_region_grew (by kernel_rfl) (by kernel_rfl) ?_
            repeat (first
              | (go_big_quiet_want; (with_reducible apply quiet_load_at (ty := 30) (x := .tmp _)); rfl; rfl; assumption; go_simp; go_big_quiet_on)
              | (go_big_quiet_want; apply quiet_val; (intro w' hw'; go_simp; first | done | rfl); go_simp; go_big_quiet_on)
              | (go_big_quiet_skip))
            refine wpQuiet_nil ?_
            intro w5 hw5
            have HPO5 := Lib.hid (HPO.out.of_new hw5)
            have HA5 := Lib.hid (HA.out.of_new hw5)
            have HB5 := Lib.hid (below_next' HBR.out hw5 (Nat.le_of_lt HPO.out.lt))
            have HOWN5 := Lib.hid (HOWN.out.of_new hw5)
            clear c1 c2 hw5
            go_upto_region 15 with (first
              | ((with_reducible refine wpList_plain (o := ⟨some 61, Op.load _ _, _, _, _, _⟩) rfl fun K hK => ?_); (refine HPO5.out.at_.wp rfl rfl (hK _ _ ?_)))
              | ((with_reducible refine wpList_plain (o := ⟨some 62, Op.buildSlice _ _ _, _, _, _, _⟩) rfl fun K hK => ?_); (refine RPeer.wp_build1 Try.underlying31 (.tmp 61) (RPeer_ok P) rfl rfl fun w6 ho6 hb6 hs6 => hK _ _ ?_); have HO6 := Lib.hid ho6.row; have HB6 := Lib.hid hb6; clear ho6 hb6 hs6)
              | ((with_reducible refine wpList_plain (o := ⟨some 63, Op.call _, _, _, _, _⟩) rfl fun K hK => ?_); (refine (HOWN5.out.of_new HB6.out).app Try.underlying31 (.tmp 60) (.tmp 62) rfl rfl rfl HO6.out (by have := HOL.out; simp; omega) (by have := HPO5.out.lt; have := HB6.out.size; omega) fun v7 wz ho7 hg7 hu7 => hK _ _ ?_); have HO7 := Lib.hid ho7; have HPO7 := Lib.hid ((HPO5.out.of_new HB6.out).of_block (hg7.block _ (HPO5.out.of_new HB6.out).lt (fun e => by have := (HOWN5.out.lt g e.symm).1; omega))); have HB7 := Lib.hid ((below_next' HB5.out HB6.out (Nat.le_of_lt HPO5.out.lt)).grown hg7 (Nat.le_of_lt (HPO5.out.of_new HB6.out).lt) (fun k e => by have := (HOWN5.out.lt k e).1; omega)); have HA7 := Lib.hid ((HA5.out.of_new HB6.out).of_block (hg7.block _ (HA5.out.of_new HB6.out).2.1 (fun e => by have := (HOWN5.out.lt b e.symm).1; have := HBG.out; omega))); clear ho7 hg7 hu7))
            obtain ⟨a7, c7, hv7⟩ := HO7.out.row.len
            subst hv7
            obtain ⟨O1, hO1⟩ : ∃ O1, O ++ [P] = O1 := ⟨_, rfl⟩
            have hol1 : O1.length ≤ 1002 := by rw [← hO1]; have := HOL.out; simp; omega
            rw [hO1] at HO7 HOUT ⊢
            have HO1 := HO7
            have HP1 := HPO7
            have HA1 := HA7
            have HB1 := HB7
            have HOL1 := Lib.hid hol1
            clear hO1 hol1 h2 HO6 HB6 HO7 HPO7 HA7 HB7 HPO5 HA5 HB5 HOWN5
          case' neg =>
            have hpv : putW P (l.take k) = true ∨ (putW P (l.take k) = false ∧ ¬ P.id ≤ x.id) := by
              cases hq : putW P (l.take k) with
              | true => exact .inl rfl
              | false => exact .inr ⟨rfl, fun h => hap ⟨hq, h⟩⟩
            rw [if_neg hap] at hout
            have HOUT := Lib.hid hout
            clear hout hap
            rcases hpv with hpv | ⟨hpv, hnx⟩
            case' inl =>
              have hp2 : putW P (l.take (k + 1)) = true := by rw [hput, hpv]; simp
              have HPUT := Lib.hid hp2
              rw [hpv]
              clear hp2 hput hpv
            case' inr =>
              have hp2 : putW P (l.take (k + 1)) = false := by rw [hput, hpv]; simp; omega
              have HPUT := Lib.hid hp2
              rw [hpv]
              clear hp2 hput hpv
            all_goals
              refine wp_region_grew (by kernel_rfl) (by kernel_rfl) ?_
              repeat (first
                | (go_big_quiet_want; (with_reducible apply quiet_load_at (ty := 30) (x := .tmp _)); rfl; rfl; assumption; go_simp; go_big_quiet_on)
                | (go_big_quiet_want; apply quiet_val; (intro w' hw'; go_simp; first | done | rfl); go_simp; go_big_quiet_on)
                | (go_big_quiet_skip))
              refine wpQuiet_nil ?_
              intro wz hwz
              have HP1 := Lib.hid (HPO.out.of_new hwz)
              have HA1 := Lib.hid (HA.out.of_new hwz)
              have HB1 := Lib.hid (below_next' HBR.out hwz (Nat.le_of_lt HPO.out.lt))
              have HO1 := Lib.hid (HOWN.out.of_new hwz)
              have hol1 : O.length ≤ 1002 := by have := HOL.out; omega
              have HOL1 := Lib.hid hol1
              clear c1 c2 hwz hol1
              obtain ⟨O1, hO1⟩ : ∃ O1, O = O1 := ⟨_, rfl⟩
              rw [hO1] at HO1 HOUT HOL1 ⊢
              clear hO1
              go_upto_region 15 with (fail)
          all_goals
            have c1 := fun w' (h : Grew wz w') => (Grew.cell h (peer_cells HA1.out).1 : w'.cell? ⟨b, off + k * 3, none⟩ = _)
            have c2 := fun w' (h : Grew wz w') => Grew.cell h (RPeer_id HP1.out)
            by_cases he : x.id = P.id
            · have e1 : (x.id != P.id) = false := by simp [he]
              have hout := HOUT.out
              rw [if_pos he, List.append_nil] at hout
              have HOUT2 := Lib.hid hout
              clear he hout
              refine wp_region_grew (by kernel_rfl) (by kernel_rfl) ?_
              repeat (first
                | (go_big_quiet_want; (with_reducible apply quiet_load_at (ty := 30) (x := .tmp _)); rfl; rfl; assumption; go_simp; go_big_quiet_on)
                | (go_big_quiet_want; apply quiet_val; (intro w' hw'; go_simp; first | done | rfl); go_simp; go_big_quiet_on)
                | (go_big_quiet_skip))
              refine wpQuiet_nil ?_
              intro w8 hw8
              have HP8 := Lib.hid (HP1.out.of_new hw8)
              have HO8 := Lib.hid (HO1.out.of_new hw8)
              have HB8 := Lib.hid (below_next' HB1.out hw8 (Nat.le_of_lt HP1.out.lt))
              clear c1 c2 hw8
              go_wp2
              go_roundw
              case rel => exact ⟨k + 1, by omega, by go_num, by rw [HPUT.out], by rw [HOUT2.out]; exact HO8.out, HP8.out, HB8.out⟩
              case measure => simp [intOf]; omega
            · have e1 : (x.id != P.id) = true := by simp [he]
              have hout := HOUT.out
              rw [if_neg he] at hout
              have HOUT2 := Lib.hid hout
              clear he hout
              refine wp_region_grew (by kernel_rfl) (by kernel_rfl) ?_
              repeat (first
                | (go_big_quiet_want; (with_reducible apply quiet_load_at (ty := 30) (x := .tmp _)); rfl; rfl; assumption; go_simp; go_big_quiet_on)
                | (go_big_quiet_want; apply quiet_val; (intro w' hw'; go_simp; first | done | rfl); go_simp; go_big_quiet_on)
                | (go_big_quiet_skip))
              refine wpQuiet_nil ?_
              intro w8 hw8
              have HP8 := Lib.hid (HP1.out.of_new hw8)
              have HA8 := Lib.hid (HA1.out.of_new hw8)
              have HO8 := Lib.hid (HO1.out.of_new hw8)
              have HB8 := Lib.hid (below_next' HB1.out hw8 (Nat.le_of_lt HP1.out.lt))
              clear c1 c2 hw8
              go_wp2_with (first
                | ((with_reducible refine wpList_plain (o := ⟨some 76, Op.load _ _, _, _, _, _⟩) rfl fun K hK => ?_); (refine HA8.out.wp rfl rfl (hK _ _ ?_)))
                | ((with_reducible refine wpList_plain (o := ⟨some 77, Op.buildSlice _ _ _, _, _, _, _⟩) rfl fun K hK => ?_); (refine RPeer.wp_build1 Try.underlying31 (.tmp 76) (RPeer_ok x) rfl rfl fun w9 ho9 hb9 hs9 => hK _ _ ?_); have HO9 := Lib.hid ho9.row; have HB9 := Lib.hid hb9; clear ho9 hb9 hs9)
                | ((with_reducible refine wpList_plain (o := ⟨some 78, Op.call _, _, _, _, _⟩) rfl fun K hK => ?_); (refine (HO8.out.of_new HB9.out).app Try.underlying31 (.tmp 72) (.tmp 77) rfl rfl rfl HO9.out (by have := HOL1.out; simp; omega) (by have := HP8.out.lt; have := HB9.out.size; omega) fun v10 w10 ho10 hg10 hu10 => hK _ _ ?_); have HO10 := Lib.hid ho10; have HP10 := Lib.hid ((HP8.out.of_new HB9.out).of_block (hg10.block _ (HP8.out.of_new HB9.out).lt (fun e => by have := (HO8.out.lt g e.symm).1; omega))); have HB10 := Lib.hid ((below_next' HB8.out HB9.out (Nat.le_of_lt HP8.out.lt)).grown hg10 (Nat.le_of_lt (HP8.out.of_new HB9.out).lt) (fun k e => by have := (HO8.out.lt k e).1; omega)); clear ho10 hg10 hu10))
              go_roundw
              case rel => exact ⟨k + 1, by omega, by go_num, by rw [HPUT.out], by rw [HOUT2.out]; exact HO10.out, HP10.out, HB10.out⟩
              case measure => simp [intOf]; omega
        · obtain rfl : k = n := by omega
          have hki : ¬ (k : Int) < (k : Int) := by omega
          have hend := outW_end (p := P) HR.out
          have htake : l.take k = l := List.take_of_length_le (by rw [HN.out]; exact Nat.le_refl _)
          rw [htake] at hown ⊢
          have hol := outW_len (p := P) HR.out
          have hol2 : (outW P l).length ≤ 1001 := by rw [HN.out] at hol; have := HN.out; omega
          obtain ⟨O, hO⟩ : ∃ O, outW P l = O := ⟨_, rfl⟩
          rw [hO] at hown hend hol2 ⊢
          have HOWN := Lib.hid hown
          have HPO := Lib.hid hpo
          have HBR := Lib.hid hbr
          have HOL := Lib.hid hol2
          have hpv : putW P l = true ∨ putW P l = false := by cases putW P l <;> simp
          have HEND := Lib.hid hend
          clear hown hpo hbr hend hol hol2 hO htake
          rcases hpv with hpv | hpv
          · have hen := HEND.out
            rw [hpv, if_pos rfl] at hen
            have HEN := Lib.hid hen
            rw [hpv]
            clear hpv hen
            go_wp2
            go_ret
            exact ⟨_, rfl, by rw [HP.out, ← HEN.out]; exact HOWN.out.mono (by rw [HG.out]; omega), by rw [HG.out]; exact HBR.out⟩
          · have hen := HEND.out
            rw [hpv, if_neg (by decide)] at hen
            have HEN := Lib.hid hen
            rw [hpv]
            clear hpv hen
            go_wp2_with (first
              | ((with_reducible refine wpList_plain (o := ⟨some 82, Op.load _ _, _, _, _, _⟩) rfl fun K hK => ?_); (refine HPO.out.at_.wp rfl rfl (hK _ _ ?_)))
              | ((with_reducible refine wpList_plain (o := ⟨some 83, Op.buildSlice _ _ _, _, _, _, _⟩) rfl fun K hK => ?_); (refine RPeer.wp_build1 Try.underlying31 (.tmp 82) (RPeer_ok P) rfl rfl fun w9 ho9 hb9 hs9 => hK _ _ ?_); have HO9 := Lib.hid ho9.row; have HB9 := Lib.hid hb9; clear ho9 hb9 hs9)
              | ((with_reducible refine wpList_plain (o := ⟨some 84, Op.call _, _, _, _, _⟩) rfl fun K hK => ?_); (refine (HOWN.out.of_new HB9.out).app Try.underlying31 (.tmp 81) (.tmp 83) rfl rfl rfl HO9.out (by have := HOL.out; simp; omega) (by have := HPO.out.lt; have := HB9.out.size; omega) fun v10 w10 ho10 hg10 hu10 => hK _ _ ?_); have HO10 := Lib.hid ho10; have HB10 := Lib.hid ((below_next' HBR.out HB9.out (Nat.le_of_lt HPO.out.lt)).grown hg10 (Nat.le_of_lt (HPO.out.of_new HB9.out).lt) (fun k e => by have := (HOWN.out.lt k e).1; omega)); clear ho10 hg10 hu10))
            go_ret
            exact ⟨_, rfl, by rw [HP.out, ← HEN.out]; exact HO10.out.mono (by rw [HG.out]; omega), by rw [HG.out]; exact HB10.out⟩

end Go.Proofs.Ytnohglkilpnjhaa

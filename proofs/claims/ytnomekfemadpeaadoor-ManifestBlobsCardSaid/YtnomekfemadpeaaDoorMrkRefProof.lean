/- The walks of the document's answer's Proof, Same and Depth. No condition beyond the arguments' sizes. -/
import Derived.Test.YtnomekfemadpeaaDoorMrkRefRoot
import Derived.Test.YtnomekfemadpeaaDoorMrkMore
namespace Go.Proofs.YtnomekfemadpeaaDoor
open Go.RowKit
set_option linter.unusedVariables false
set_option linter.unusedSimpArgs false

set_option maxRecDepth 100000 in
set_option maxHeartbeats 1600000 in
theorem RProof_no (v : Value) (l : List (List UInt8)) (i : Int) (w : World) (hl : Digs w v l) (h : ¬ (0 ≤ i ∧ i < l.length ∧ l.length ≤ 1024)) (hi1 : -9223372036854775808 ≤ i) (hi2 : i ≤ 9223372036854775807) :
    Calls Tryd.prog 37 #[v, .int .i64 i] w (ProofPost w ([], 1)) := by
  have hle := hl.le
  unfold maxLen at hle
  obtain ⟨va, vc, hv⟩ := hl.len
  subst hv
  by_cases c1 : i < 0
  all_goals by_cases c2 : (l.length : Int) ≤ i
  all_goals by_cases c3 : (1024 : Int) < l.length
  all_goals first | (exfalso; omega) | skip
  all_goals clear h
  all_goals go_enter Tryd.func37, Tryd.ntmps37
  all_goals go_wp2
  all_goals go_ret2
  all_goals exact ⟨_, rfl, OwnD.nil _ _, Below.refl _ _⟩

def RProofI (l : List (List UInt8)) (i : Nat) (w : World) (iv ov lv : Value) (wr : World) : Prop :=
  ∃ (cur out : List (List UInt8)) (k : Nat), iv = .int .i64 (k : Int) ∧ Digs wr lv cur ∧ k < cur.length ∧ cur.length ≤ 1024 ∧ out.length + cur.length ≤ 2048 ∧ OwnD wr w.heap.size ov out ∧ (∀ k, ov.ownBlock = some k → lv.ownBlock ≠ some k) ∧ proofL l i = out ++ proofL cur k ∧ Below w.heap.size w wr

theorem Digs.grown {w w' : World} {row : Option Nat} {v : Value} {l : List (List UInt8)} (h : Digs w v l) (hg : w.grownBy w' row) (hne : ∀ k, v.ownBlock = some k → some k ≠ row) : Digs w' v l := ⟨h.1, h.2.of_kept hg hne⟩
theorem Digs.blk {w : World} {b off n c : Nat} {l : List (List UInt8)} (h : Digs w (.slice (some ⟨b, off, none⟩) n c) l) (h0 : 0 < l.length) : b < w.heap.size := (h.digAt h0).lt

theorem rproof_fin {l cur out out2 : List (List UInt8)} {i k : Nat} {w w2 : World} {v6 v2 : Value} {a : Option Addr} {cc : Nat} (hlt : 1 < cur.length) (hi : k < cur.length) (hlen : cur.length ≤ 1024) (hout : out.length + cur.length ≤ 2048) (hl3 : out2.length ≤ out.length + 1) (hl2 : Digs w2 v2 (aboveL cur)) (ho : OwnD w2 w.heap.size v6 out2)
    (hne : ∀ k, v6.ownBlock = some k → v2.ownBlock ≠ some k) (HE : proofL l i = out2 ++ proofL (aboveL cur) (k / 2)) (hb : Below w.heap.size w w2) : RProofI l i w (.int .i64 ((k : Int) / 2)) v6 v2 w2 ∧ lenV v2 < lenV (.slice a cur.length cc) := by
  have hal := aboveL_len cur
  refine ⟨⟨aboveL cur, out2, k / 2, by simp, hl2, by omega, by omega, by omega, ho, hne, HE, hb⟩, ?_⟩
  obtain ⟨a2, c2, rfl⟩ := hl2.len
  show (aboveL cur).length < cur.length
  omega

set_option maxRecDepth 100000 in
set_option maxHeartbeats 3200000 in
theorem RProof_yes (v : Value) (l : List (List UInt8)) (i : Nat) (w : World) (hl : Digs w v l) (hi : i < l.length) (hlen : l.length ≤ 1024) :
    Calls Tryd.prog 37 #[v, .int .i64 (i : Int)] w (ProofPost w (proofL l i, 0)) := by
  obtain ⟨va, vc, hv⟩ := hl.len
  subst hv
  have c2 : ¬ (l.length : Int) ≤ i := by omega
  have c3 : ¬ (1024 : Int) < l.length := by omega
  go_enter Tryd.func37, Tryd.ntmps37
  go_wp2
  go_loopw [1, 6, 7] (RProofI l i w) (fun _ _ lv _ => lenV lv)
  case atStart => exact ⟨l, [], i, rfl, hl, hi, hlen, by simp; omega, OwnD.nil _ _, (fun k h => by cases h), by simp, Below.refl _ _⟩
  case round =>
    clear hl hi hlen c2 c3
    obtain ⟨cur, out, k, rfl, hl, hi, hlen, hout, ho, hne, hp, hb⟩ := hrel
    have hsz := hb.size
    obtain ⟨ca, cc, hv⟩ := hl.len
    subst hv
    obtain ⟨oa, oc, hv⟩ := ho.digs.len
    subst hv
    by_cases hlt : 1 < cur.length
    · have t1 : (1 : Int) < (cur.length : Int) := by omega
      obtain ⟨b, off, c, hv⟩ := hl.shape (by omega)
      obtain ⟨rfl, rfl⟩ : ca = some ⟨b, off, none⟩ ∧ cc = c := by cases hv; exact ⟨rfl, rfl⟩
      clear hv
      have hstep := proofL_step hlt k
      have hal := aboveL_len cur
      have finish : ∀ out', out ++ stepP cur k = out' → proofL l i = out' ++ proofL (aboveL cur) (k / 2) := fun out' e => by
        rw [hp, hstep, ← e, List.append_assoc]
      have HF := Lib.hid finish
      have HAL := Lib.hid hal
      have hbz : besideZ cur.length k = if k % 2 = 1 then (k : Int) - 1 else if k + 1 < cur.length then (k : Int) + 1 else -1 := rfl
      have hsp : stepP cur k = if 0 ≤ besideZ cur.length k then [cur.getD (besideZ cur.length k).toNat []] else [] := rfl
      clear finish hal hstep hp
      by_cases h2 : k % 2 = 1
      · rw [if_pos h2] at hbz
        rw [hbz, if_pos (by omega), show ((k : Int) - 1).toNat = k - 1 by omega] at hsp
        have t2 : (k : Int) % 2 = 1 := by omega
        have t3 : (0 : Int) ≤ (k : Int) - 1 := by omega
        have t4 : (k : Int) - 1 < (cur.length : Int) := by omega
        have t5 : ((k : Int) - 1).toNat = k - 1 := by omega
        have h1 := hl.digAt (i := k - 1) (by omega)
        have HSP := Lib.hid hsp
        clear hsp hbz h2
        generalize cur.getD (k - 1) [] = d at *
        go_wp2_with (first
          | ((with_reducible apply wpList_load_at (ty := 25) (x := .tmp _)); rfl; rfl; rfl; assumption)
          | ((with_reducible refine wpList_buildDigs (op := ⟨_, Op.buildSlice 31 1 _, _, _, _, _⟩) 1 #[(0, .tmp 33)] [d] ?_ ?_ ?_ ?_ ?_ ?_ ?_ ?_); rfl; rfl; rfl; simp; simp; (intro x hx; simp at hx; rw [hx]; exact h1.1); (simp only [List.map_toArray, List.map_cons, List.map_nil]; rfl); intro w7 ho7 hb7 hs7; refine wpList_appD rfl (.tmp 28) (.tmp 34) 31 rfl w.heap.size Tryd.underlying31 _ _ rfl (ho.of_new hb7) _ [d] rfl ho7.digs (by simp; omega) (by omega) ?_; intro v6 w6 ho6 hg6 hv6; have hb6 : Below w.heap.size w w6 := (below_next' hb hb7).grown hg6 (by omega) (fun j hj => ((ho.of_new hb7).lt j hj).1); have hl6 : Digs w6 (.slice (some ⟨b, off, none⟩) cur.length cc) cur := (hl.of_new hb7).grown hg6 (fun k e e2 => hne k e2.symm (by rw [← e])); clear hg6 ho7 ho))
        refine (Above_any _ cur _ hl6 (by omega)).mono ?_
        rintro e w2 ⟨v2, rfl, ho2, hb2⟩
        have HE := Lib.hid (HF.out _ (by rw [HSP.out]))
        have hne2 : ∀ k, v6.ownBlock = some k → v2.ownBlock ≠ some k := fun k e e2 => by have := (ho6.lt k e).2; have := (ho2.lt k e2).1; omega
        have ho6' := ho6.of_new hb2
        have hl2 := ho2.digs
        clear ho2 ho6 HF HSP
        have hl3 : (out ++ [d]).length ≤ out.length + 1 := by simp
        have hB2 := below_next' hb6 hb2 (by have := hb6.size; omega)
        generalize out ++ [d] = out2 at *
        go_wp2
        exact rproof_fin hlt hi hlen hout hl3 hl2 ho6' hne2 HE.out hB2
      · rw [if_neg h2] at hbz
        have t2 : (k : Int) % 2 = 0 := by omega
        by_cases h3 : k + 1 < cur.length
        · rw [if_pos h3] at hbz
          rw [hbz, if_pos (by omega), show ((k : Int) + 1).toNat = k + 1 by omega] at hsp
          have t3 : (0 : Int) ≤ (k : Int) + 1 := by omega
          have t4 : (k : Int) + 1 < (cur.length : Int) := by omega
          have t5 : ((k : Int) + 1).toNat = k + 1 := by omega
          have h1 := hl.digAt (i := k + 1) (by omega)
          have HSP := Lib.hid hsp
          clear hsp hbz h2
          generalize cur.getD (k + 1) [] = d at *
          go_wp2_with (first
            | ((with_reducible apply wpList_load_at (ty := 25) (x := .tmp _)); rfl; rfl; rfl; assumption)
            | ((with_reducible refine wpList_buildDigs (op := ⟨_, Op.buildSlice 31 1 _, _, _, _, _⟩) 1 #[(0, .tmp 46)] [d] ?_ ?_ ?_ ?_ ?_ ?_ ?_ ?_); rfl; rfl; rfl; simp; simp; (intro x hx; simp at hx; rw [hx]; exact h1.1); (simp only [List.map_toArray, List.map_cons, List.map_nil]; rfl); intro w7 ho7 hb7 hs7; refine wpList_appD rfl (.tmp 41) (.tmp 47) 31 rfl w.heap.size Tryd.underlying31 _ _ rfl (ho.of_new hb7) _ [d] rfl ho7.digs (by simp; omega) (by omega) ?_; intro v6 w6 ho6 hg6 hv6; have hb6 : Below w.heap.size w w6 := (below_next' hb hb7).grown hg6 (by omega) (fun j hj => ((ho.of_new hb7).lt j hj).1); have hl6 : Digs w6 (.slice (some ⟨b, off, none⟩) cur.length cc) cur := (hl.of_new hb7).grown hg6 (fun k e e2 => hne k e2.symm (by rw [← e])); clear hg6 ho7 ho))
          refine (Above_any _ cur _ hl6 (by omega)).mono ?_
          rintro e w2 ⟨v2, rfl, ho2, hb2⟩
          have HE := Lib.hid (HF.out _ (by rw [HSP.out]))
          have hne2 : ∀ k, v6.ownBlock = some k → v2.ownBlock ≠ some k := fun k e e2 => by have := (ho6.lt k e).2; have := (ho2.lt k e2).1; omega
          have ho6' := ho6.of_new hb2
          have hl2 := ho2.digs
          clear ho2 ho6 HF HSP
          have hl3 : (out ++ [d]).length ≤ out.length + 1 := by simp
          have hB2 := below_next' hb6 hb2 (by have := hb6.size; omega)
          generalize out ++ [d] = out2 at *
          go_wp2
          exact rproof_fin hlt hi hlen hout hl3 hl2 ho6' hne2 HE.out hB2
        · rw [if_neg h3] at hbz
          rw [hbz, if_neg (by omega)] at hsp
          have t4 : ¬ (k : Int) + 1 < (cur.length : Int) := by omega
          have HSP := Lib.hid hsp
          clear hsp hbz h2 h3
          go_wp2_with fail
          refine (Above_any _ cur _ hl (by omega)).mono ?_
          rintro e w2 ⟨v2, rfl, ho2, hb2⟩
          have HE := Lib.hid (HF.out out (by rw [HSP.out, List.append_nil]))
          have hne2 : ∀ k, (Value.slice oa out.length oc).ownBlock = some k → v2.ownBlock ≠ some k := fun k e e2 => by have := (ho.lt k e).2; have := (ho2.lt k e2).1; omega
          have ho6' := ho.of_new hb2
          have hl2 := ho2.digs
          clear ho2 ho HF HSP
          have hB2 := below_next' hb hb2 (by have := hb.size; omega)
          go_wp2
          exact rproof_fin hlt hi hlen hout (by omega) hl2 ho6' hne2 HE.out hB2
    · have t1 : ¬ (1 : Int) < (cur.length : Int) := by omega
      rw [proofL_end (by omega) k hi, List.append_nil] at hp
      have HP := Lib.hid hp
      clear hp
      go_wp2
      go_ret2
      refine ⟨_, rfl, ?_, hb⟩
      rw [HP.out]
      exact ho

theorem RProof_any (v : Value) (l : List (List UInt8)) (i : Int) (w : World) (hl : Digs w v l) (hi1 : -9223372036854775808 ≤ i) (hi2 : i ≤ 9223372036854775807) :
    Calls Tryd.prog 37 #[v, .int .i64 i] w (ProofPost w (proofE l i)) := by
  unfold proofE
  by_cases h : 0 ≤ i ∧ i < l.length ∧ l.length ≤ 1024
  · rw [if_pos h]
    obtain ⟨j, rfl⟩ : ∃ j : Nat, i = (j : Int) := ⟨i.toNat, by omega⟩
    exact RProof_yes v l j w hl (by omega) (by omega)
  · rw [if_neg h]
    exact RProof_no v l i w hl h hi1 hi2

theorem take_snoc_d {l : List (List UInt8)} {k : Nat} (h : k < l.length) : l.take (k + 1) = l.take k ++ [l.getD k []] := by
  rw [List.take_succ_eq_append_getElem h]
  simp [List.getD, List.getElem?_eq_getElem h]

def SameI (l m : List (List UInt8)) (w : World) (iv : Value) (wr : World) : Prop := ∃ k : Nat, k ≤ l.length ∧ iv = .int .i64 (k : Int) ∧ l.take k = m.take k ∧ Below w.heap.size w wr

set_option maxRecDepth 100000 in
set_option maxHeartbeats 1600000 in
theorem Same_any (v u : Value) (l m : List (List UInt8)) (w : World) (hl : Digs w v l) (hm : Digs w u m) :
    Calls Tryd.prog 15 #[v, u] w fun e w' => e = .returned (.bool (decide (l = m))) ∧ Below w.heap.size w w' := by
  have hle := hl.le
  have hme := hm.le
  unfold maxLen at hle hme
  obtain ⟨va, vc, hv⟩ := hl.len
  subst hv
  obtain ⟨ua, uc, hv⟩ := hm.len
  subst hv
  have hgd := guard_dig
  by_cases hlen : l.length = m.length
  · have t1 : ((l.length : Int) != (m.length : Int)) = false := by simp; omega
    have HLM := Lib.hid hlen
    go_enter Tryd.func15, Tryd.ntmps15
    clear hlen
    go_wp2
    go_loopw [5] (SameI l m w) (fun iv _ => l.length - (intOf iv).toNat)
    case atStart => exact ⟨0, by omega, rfl, by simp, Below.refl _ _⟩
    case round =>
      obtain ⟨k, hk, rfl, heq, hb⟩ := hrel
      have hl' := hl.of_new hb
      have hm' := hm.of_new hb
      have HQ := Lib.hid heq
      clear heq hl hm
      by_cases hlt : k < l.length
      · have t2 : (k : Int) < (l.length : Int) := by omega
        have t3 : (k : Int) < (m.length : Int) := by have := HLM.out; omega
        obtain ⟨b, off, c, hv⟩ := hl'.shape (by omega)
        obtain ⟨rfl, rfl⟩ : va = some ⟨b, off, none⟩ ∧ vc = c := by cases hv; exact ⟨rfl, rfl⟩
        clear hv
        obtain ⟨b2, off2, c2, hv⟩ := hm'.shape (by omega)
        obtain ⟨rfl, rfl⟩ : ua = some ⟨b2, off2, none⟩ ∧ uc = c2 := by cases hv; exact ⟨rfl, rfl⟩
        clear hv
        have h1 := hl'.digAt hlt
        have h2 := hm'.digAt (show k < m.length by omega)
        have hs1 := take_snoc_d hlt
        have hs2 := take_snoc_d (show k < m.length by omega)
        have hg1 : l = m → l.getD k [] = m.getD k [] := fun e => by rw [e]
        have H1 := Lib.hid hs1
        have H2 := Lib.hid hs2
        have H3 := Lib.hid hg1
        have hneq := run_neq_dig (l.getD k []) (m.getD k []) h1.1 h2.1
        clear hs1 hs2 hg1
        generalize l.getD k [] = d1 at *
        generalize m.getD k [] = d2 at *
        go_upto_region 6 with (fail)
        refine wp_region_grew (by kernel_rfl) (by kernel_rfl) ?_
        repeat (first
          | (go_big_quiet_want; (with_reducible apply quiet_load_at (ty := 25) (x := .tmp _)); rfl; rfl; assumption; go_simp; go_big_quiet_on)
          | (go_big_quiet_want; apply quiet_val; (intro w' hw'; go_simp; first | done | rfl); go_simp; go_big_quiet_on)
          | (go_big_quiet_skip))
        refine wpQuiet_nil ?_
        intro w5 hw5
        have hB5 := below_next' hb hw5 (by have := hb.size; omega)
        clear hneq
        by_cases hd : d1 = d2
        · have t4 : decide (d1 = d2) = true := by simp [hd]
          have HD := Lib.hid hd
          clear hd
          simp only [t4, Bool.not_true]
          go_wp2
          exact ⟨⟨k + 1, by omega, by go_num, by rw [H1.out, H2.out, HQ.out, HD.out], hB5⟩, by simp [intOf]; omega⟩
        · have t4 : decide (d1 = d2) = false := by simp [hd]
          have HD := Lib.hid hd
          clear hd
          simp only [t4, Bool.not_false]
          go_wp2
          go_ret
          exact ⟨ret_bool (by simp; exact fun e => HD.out (H3.out e)), hB5⟩
      · obtain rfl : k = l.length := by omega
        have t2 : ¬ (l.length : Int) < (l.length : Int) := by omega
        have he : l = m := by
          have := HQ.out
          rwa [List.take_of_length_le (Nat.le_refl _), List.take_of_length_le (by have := HLM.out; omega)] at this
        have HE := Lib.hid he
        clear he
        go_wp2
        go_ret
        exact ⟨ret_bool (by simp; exact HE.out), hb⟩
  · have t1 : ((l.length : Int) != (m.length : Int)) = true := by simp; omega
    have hne : l ≠ m := fun e => hlen (by rw [e])
    have HN := Lib.hid hne
    clear hne hlen
    go_enter Tryd.func15, Tryd.ntmps15
    go_wp2
    go_ret
    exact ⟨ret_bool (by simp; exact HN.out), Below.refl _ _⟩

end Go.Proofs.YtnomekfemadpeaaDoor

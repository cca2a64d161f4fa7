/- The walk of the document's answer's Check. No condition beyond the arguments' sizes. -/
import Derived.Test.YtnilkdfhnmkekaaDoorMrkCheck
import Derived.Test.YtnilkdfhnmkekaaDoorMrkRefDepth
import Derived.Test.YtnilkdfhnmkekaaDoorMrkRefProof
namespace Go.Proofs.YtnilkdfhnmkekaaDoor
open Go.RowKit
set_option linter.unusedVariables false
set_option linter.unusedSimpArgs false

theorem upP_cons (n i : Nat) (r : List (Nat × Nat)) (x : List UInt8) (p : List (List UInt8)) : upP ((n, i) :: r) x p = if besideZ n i < 0 then upP r x p else if i % 2 = 1 then upP r (nodeL (p.getD 0 []) x) p.tail else upP r (nodeL x (p.getD 0 [])) p.tail := rfl

def RCheckI (w : World) (root fin : List UInt8) (g : Nat) (nv iv rv : Value) (wr : World) : Prop :=
  ∃ (a b : Nat) (rest : List (List UInt8)) (x : List UInt8), nv = .int .i64 (a : Int) ∧ iv = .int .i64 (b : Int) ∧ Digs w rv rest ∧ Octs wr g 25 x ∧ x.length = 32 ∧ (upP (walkN a b) x rest).1 = fin ∧ rest.length = cntP (walkN a b) ∧
    b < a ∧ a ≤ 1024 ∧ Octs wr w.heap.size 25 root ∧ Below w.heap.size w wr ∧ w.heap.size < g ∧ g < wr.heap.size

theorem rcheck_fin {w w7 : World} {root fin y : List UInt8} {g a b : Nat} {rest2 : List (List UInt8)} {v2 : Value} (hlt : 1 < a) (ha : a ≤ 1024) (hb : b < a) (hl2 : Digs w v2 rest2) (hy : Octs w7 g 25 y) (h32 : y.length = 32)
    (hf : (upP (walkN ((a + 1) / 2) (b / 2)) y rest2).1 = fin) (hc : rest2.length = cntP (walkN ((a + 1) / 2) (b / 2))) (hr : Octs w7 w.heap.size 25 root) (hB : Below w.heap.size w w7) (hg : w.heap.size < g) (hg2 : g < w7.heap.size) :
    RCheckI w root fin g (.int .i64 (((a : Int) + 1) / 2)) (.int .i64 ((b : Int) / 2)) v2 w7 ∧ (intOf (.int .i64 (((a : Int) + 1) / 2))).toNat < (intOf (.int .i64 (a : Int))).toNat :=
  ⟨⟨(a + 1) / 2, b / 2, rest2, y, by simp, by simp, hl2, hy, h32, hf, hc, by omega, by omega, hr, hB, hg, hg2⟩, by simp [intOf]; omega⟩

set_option maxRecDepth 100000 in
set_option maxHeartbeats 3200000 in
theorem RCheck_any (root leaf : List UInt8) (n i : Int) (v : Value) (proof : List (List UInt8)) (w : World) (hroot : root.length = 32) (hleaf : leaf.length = 32) (hp : Digs w v proof) (n1 : -9223372036854775808 ≤ n) (n2 : n ≤ 9223372036854775807) (i1 : -9223372036854775808 ≤ i) (i2 : i ≤ 9223372036854775807) :
    Calls Tryd.prog 26 #[.agg (root.map B8).toArray, .int .i64 n, .int .i64 i, .agg (leaf.map B8).toArray, v] w fun e w' => e = .returned (.bool (checkL root n i leaf proof)) ∧ Below w.heap.size w w' := by
  obtain ⟨va, vc, hv⟩ := hp.len
  subst hv
  have hle := hp.le
  unfold maxLen at hle
  have hgd := guard_dig
  have hcl : checkL root n i leaf proof = (rightB n i && decide (proof.length = depthZ n i) && decide ((upP (walkN n.toNat i.toNat) leaf proof).1 = root)) := rfl
  have hdz : depthZ n i = if rightB n i then cntP (walkN n.toNat i.toNat) else 0 := rfl
  have hrb : rightB n i = decide (n ≥ 1 ∧ n ≤ 1024 ∧ i ≥ 0 ∧ i < n) := rfl
  by_cases hr : 1 ≤ n ∧ n ≤ 1024 ∧ 0 ≤ i ∧ i < n
  case neg =>
    have h0 : checkL root n i leaf proof = false := by
      rw [hcl, hrb]
      have : decide (n ≥ 1 ∧ n ≤ 1024 ∧ i ≥ 0 ∧ i < n) = false := by simp; omega
      rw [this]; rfl
    have H0 := Lib.hid h0
    clear hcl hdz hrb h0
    by_cases c1 : n < 1
    all_goals by_cases c2 : 1024 < n
    all_goals by_cases c3 : i < 0
    all_goals by_cases c4 : n ≤ i
    all_goals first | (exfalso; omega) | skip
    all_goals clear hr
    all_goals go_enter Tryd.func26, Tryd.ntmps26
    all_goals go_wp2
    all_goals go_ret
    all_goals exact ⟨by rw [H0.out]; rfl, ((Below.refl _ w).alloc (Nat.le_refl _) _).alloc (by simp) _⟩
  case pos =>
    obtain ⟨p1, p2, p3, p4⟩ := hr
    have hrt : rightB n i = true := by rw [hrb]; simp; omega
    rw [hrt] at hcl hdz
    rw [if_pos rfl] at hdz
    have c1 : ¬ n < 1 := by omega
    have c2 : ¬ (1024 : Int) < n := by omega
    have c3 : ¬ i < 0 := by omega
    have c4 : ¬ n ≤ i := by omega
    have hD := fun w => RDepth_any n i w n1 n2 i1 i2
    by_cases hpd : proof.length = depthZ n i
    case neg =>
      have t1 : ((proof.length : Int) != (depthZ n i : Int)) = true := by simp; omega
      have ha : checkL root n i leaf proof = false := by rw [hcl]; simp [hpd]
      have HA := Lib.hid ha
      clear hcl hdz hrb ha hpd hrt
      generalize depthZ n i = D at *
      go_enter Tryd.func26, Tryd.ntmps26
      go_wp2_with fail
      refine (hD _).mono ?_
      rintro e w5 ⟨rfl, hb5⟩
      clear hD
      go_wp2
      go_ret
      exact ⟨by rw [HA.out]; rfl, (((Below.refl _ w).alloc (Nat.le_refl _) _).alloc (by simp) _).trans (hb5.mono (by simp; omega))⟩
    have t1 : ((proof.length : Int) != (depthZ n i : Int)) = false := by simp; omega
    have ha : checkL root n i leaf proof = decide ((upP (walkN n.toNat i.toNat) leaf proof).1 = root) := by rw [hcl]; simp [hpd]
    have hpc : proof.length = cntP (walkN n.toNat i.toNat) := by rw [hpd, hdz]
    have HA := Lib.hid ha
    have HPC := Lib.hid hpc
    clear hcl hdz hrb ha hpd hpc hrt
    generalize depthZ n i = D at *
    obtain ⟨N, rfl⟩ : ∃ N : Nat, n = (N : Int) := ⟨n.toNat, by omega⟩
    obtain ⟨j, rfl⟩ : ∃ j : Nat, i = (j : Int) := ⟨i.toNat, by omega⟩
    simp only [Int.toNat_natCast] at HA HPC
    obtain ⟨fin, hfin⟩ : ∃ f, (upP (walkN N j) leaf proof).1 = f := ⟨_, rfl⟩
    have ha' : checkL root N j leaf proof = decide (fin = root) := by subst hfin; exact HA.out
    clear HA
    have HA := Lib.hid ha'
    have HF := Lib.hid hfin
    clear hfin ha'
    have hbox := boxes_two w root leaf hroot hleaf
    have hoc : Octs ((w.alloc (.cells (root.map B8).toArray 25)).alloc (.cells (leaf.map B8).toArray 25)) w.heap.size 25 root := (Below.heap_alloc _ _ _ (by simp)).trans (heap_alloc_new w _)
    go_enter Tryd.func26, Tryd.ntmps26
    go_wp2_with fail
    generalize hW1 : (w.alloc _).alloc _ = w1 at *
    obtain ⟨hr1, hl1, hb1⟩ := hbox
    clear hW1
    refine (hD _).mono ?_
    rintro e w5 ⟨rfl, hb5⟩
    clear hD
    replace hl1 := hl1.of_new hb5
    replace hoc := hoc.of_block (hb5.block _ hr1.lt)
    have hB5 := below_next' hb1 hb5 hb1.size
    have hg5 : w.heap.size < w5.heap.size := by have := hr1.lt; have := hb5.size; omega
    clear hr1 hb1 hb5
    go_wp2_with (first
      | ((with_reducible apply wpList_load_at (ty := 25) (x := .tmp _)); rfl; rfl; rfl; assumption)
      | ((with_reducible refine wpList_store_fresh (op := ⟨none, Op.store 25 (.tmp 11) (.tmp 36), _, _, _, _⟩) (.tmp 11) (.tmp 36) (leaf) ?_ ?_ ?_ ?_ ?_ ?_ ?_); rfl; rfl; rfl; rfl; rfl; exact hleaf; intro w6 hx6 ho6 hb6 hz6))
    replace hoc := hoc.of_block (hb6.block _ hg5)
    have hB6 := below_next' hB5 hb6 (by omega)
    clear hl1 hx6 hb6
    obtain ⟨g, hg⟩ : ∃ g, g = w5.heap.size := ⟨_, rfl⟩
    rw [← hg] at ho6 hz6 hg5 ⊢
    clear hg hB5
    go_loopw [1, 2, 12] (RCheckI w root fin g) (fun nv _ _ _ => (intOf nv).toNat)
    case atStart => exact ⟨N, j, proof, leaf, rfl, rfl, hp, ho6, hleaf, HF.out, HPC.out, by omega, by omega, hoc, hB6, hg5, hz6⟩
    case round =>
      clear hoc hB6 hz6 ho6 hp HF HPC t1
      obtain ⟨a, b, rest, x, rfl, rfl, hp, ho, hx32, hf, hc, hba, ha, hoc, hB, hg5, hz6⟩ := hrel
      have hxa := ho.digAt hx32
      by_cases hlt : 1 < a
      · have t1 : (1 : Int) < a := by omega
        rw [walkN_step hlt ha] at hf hc
        rw [upP_cons] at hf
        rw [cntP_cons] at hc
        dsimp only at hc
        have hbz : besideZ a b = if b % 2 = 1 then (b : Int) - 1 else if b + 1 < a then (b : Int) + 1 else -1 := rfl
        by_cases hz : besideZ a b < 0
        · rw [if_pos hz] at hf
          rw [if_neg (by omega)] at hc
          have hev : b % 2 ≠ 1 := by intro h; rw [if_pos h] at hbz; omega
          have hno : ¬ b + 1 < a := by intro h; rw [if_neg hev, if_pos h] at hbz; omega
          have t2 : (b : Int) % 2 = 0 := by omega
          have t3 : ¬ (b : Int) + 1 < a := by omega
          have HF := Lib.hid hf
          have HC := Lib.hid (show rest.length = cntP (walkN ((a + 1) / 2) (b / 2)) by omega)
          clear hf hc hbz hz hev
          go_wp2
          exact rcheck_fin hlt ha hba hp ho hx32 HF.out HC.out hoc hB hg5 hz6
        · rw [if_neg hz] at hf
          rw [if_pos (by omega)] at hc
          obtain ⟨rb, roff, rc, hv⟩ := hp.shape (by omega)
          subst hv
          have hd1 := (hp.of_new hB).digAt (i := 0) (by omega)
          rw [Nat.zero_mul, Nat.add_zero] at hd1
          obtain ⟨v2, hr2, hl2, _⟩ := hp.part (some (.int .i64 1)) none 1 rest.length (by omega) (by omega) (.inr ⟨_, rfl⟩) (.inl ⟨rfl, rfl⟩)
          have e1 : (rest.drop 1).take (rest.length - 1) = rest.tail := by rw [List.take_of_length_le (by simp)]; simp
          rw [e1] at hl2
          have htl : rest.tail.length = cntP (walkN ((a + 1) / 2) (b / 2)) := by simp; omega
          have hrl : (0 : Int) < (rest.length : Int) := by omega
          have hrn : 0 < rest.length := by omega
          have HC := Lib.hid htl
          have hrle : rest.length ≤ 9223372036854775807 := by have := hp.le; unfold maxLen at this; omega
          clear e1 htl hc
          by_cases hodd : b % 2 = 1
          · rw [if_pos hodd] at hf
            have HF := Lib.hid hf
            have t2 : (b : Int) % 2 = 1 := by omega
            clear hf hbz hz
            generalize rest.getD 0 [] = d at *
            generalize rest.tail = rest2 at *
            obtain ⟨a2', c2', hv⟩ := hl2.len
            subst hv
            go_upto_region 7 with (fail)
            refine wp_region_grew_tail 5 (by kernel_rfl) (by kernel_rfl) ?_
            simp only [List.take_succ_cons, List.take_zero, List.drop_succ_cons, List.drop_zero]
            repeat (first
              | (go_big_quiet_want; (with_reducible apply quiet_load_at (ty := 25) (x := .tmp _)); rfl; rfl; assumption; go_simp; go_big_quiet_on)
              | (go_big_quiet_want; apply quiet_val; (intro w' hw'; go_simp; first | done | rfl); go_simp; go_big_quiet_on)
              | (go_big_quiet_want; apply quiet_call (f := 19); (intro w' hw'; go_simp; first | done | rfl); (intro w' hw'; exact Grew.call hw' (RNode_any _ _ w' hd1.1 hx32)); go_simp; go_big_quiet_on)
              | (go_big_quiet_skip))
            refine wpQuiet_nil ?_
            intro w6 hw6
            refine wpList_plain rfl fun K hK => wp_store_dig (.tmp 11) (.tmp 47) g x (nodeL d x) rfl rfl rfl (ho.of_block (hw6.block _ (by omega))) hx32 (nodeL_len _ _) fun w7 hx7 hg7 => hK _ _ ?_
            have b7 := (hoc.of_block (hw6.block _ (by omega))).of_block (hg7.block _ (by have := hw6.size; omega) (by simp; omega))
            have b8 : Below w.heap.size w w7 := (below_next' hB hw6 (by omega)).grown hg7 (by have := hw6.size; omega) (fun j e => by cases e; omega)
            have b9 : g < w7.heap.size := by have := hw6.size; have := hg7.size; omega
            clear hw6 hg7 hB hoc hz6 ho hxa hd1
            go_wp2
            exact rcheck_fin hlt ha hba hl2 hx7 (nodeL_len _ _) HF.out HC.out b7 b8 hg5 b9
          · rw [if_neg hodd] at hf
            have HF := Lib.hid hf
            have t2 : (b : Int) % 2 = 0 := by omega
            have hlt2 : b + 1 < a := by
              by_cases h : b + 1 < a
              · exact h
              · rw [if_neg hodd, if_neg h] at hbz; omega
            have t3 : (b : Int) + 1 < a := by omega
            clear hf hbz hz
            generalize rest.getD 0 [] = d at *
            generalize rest.tail = rest2 at *
            obtain ⟨a2', c2', hv⟩ := hl2.len
            subst hv
            go_upto_region 10 with (fail)
            refine wp_region_grew_tail 5 (by kernel_rfl) (by kernel_rfl) ?_
            simp only [List.take_succ_cons, List.take_zero, List.drop_succ_cons, List.drop_zero]
            repeat (first
              | (go_big_quiet_want; (with_reducible apply quiet_load_at (ty := 25) (x := .tmp _)); rfl; rfl; assumption; go_simp; go_big_quiet_on)
              | (go_big_quiet_want; apply quiet_val; (intro w' hw'; go_simp; first | done | rfl); go_simp; go_big_quiet_on)
              | (go_big_quiet_want; apply quiet_call (f := 19); (intro w' hw'; go_simp; first | done | rfl); (intro w' hw'; exact Grew.call hw' (RNode_any _ _ w' hx32 hd1.1)); go_simp; go_big_quiet_on)
              | (go_big_quiet_skip))
            refine wpQuiet_nil ?_
            intro w6 hw6
            refine wpList_plain rfl fun K hK => wp_store_dig (.tmp 11) (.tmp 58) g x (nodeL x d) rfl rfl rfl (ho.of_block (hw6.block _ (by omega))) hx32 (nodeL_len _ _) fun w7 hx7 hg7 => hK _ _ ?_
            have b7 := (hoc.of_block (hw6.block _ (by omega))).of_block (hg7.block _ (by have := hw6.size; omega) (by simp; omega))
            have b8 : Below w.heap.size w w7 := (below_next' hB hw6 (by omega)).grown hg7 (by have := hw6.size; omega) (fun j e => by cases e; omega)
            have b9 : g < w7.heap.size := by have := hw6.size; have := hg7.size; omega
            clear hw6 hg7 hB hoc hz6 ho hxa hd1
            go_wp2
            exact rcheck_fin hlt ha hba hl2 hx7 (nodeL_len _ _) HF.out HC.out b7 b8 hg5 b9
      · have t1 : ¬ (1 : Int) < a := by omega
        rw [walkN_end (by omega)] at hf
        simp only [upP] at hf
        subst hf
        have hx2 := hoc.digAt hroot
        have heq := run_eql_dig x root hx32 hroot
        clear ho hoc
        go_wp2_with ((with_reducible apply wpList_load_at (ty := 25) (x := .tmp _)); rfl; rfl; rfl; assumption)
        go_ret
        exact ⟨by rw [HA.out]; rfl, hB⟩

end Go.Proofs.YtnilkdfhnmkekaaDoor

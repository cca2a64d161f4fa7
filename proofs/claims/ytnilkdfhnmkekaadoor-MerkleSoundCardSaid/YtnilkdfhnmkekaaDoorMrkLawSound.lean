/- The walks of the laws MerkleSound and MerkleTurned: they answer true. Condition: the table of constants as the program lays it. -/
import Derived.Test.YtnilkdfhnmkekaaDoorMrkClash
import Derived.Test.YtnilkdfhnmkekaaDoorMrkLawLeads
namespace Go.Proofs.YtnilkdfhnmkekaaDoor
open Go.RowKit
set_option linter.unusedVariables false
set_option linter.unusedSimpArgs false

theorem check_true {root leaf : List UInt8} {n i : Nat} {p : List (List UInt8)} (h : checkL root (n : Int) (i : Int) leaf p = true) : p.length = cntP (walkN n i) ∧ (upP (walkN n i) leaf p).1 = root := by
  unfold checkL at h
  simp only [Bool.and_eq_true, decide_eq_true_eq, Int.toNat_natCast] at h
  obtain ⟨⟨h1, h2⟩, h3⟩ := h
  refine ⟨?_, h3⟩
  rw [h2]
  unfold depthZ
  rw [if_pos h1]
  simp

set_option maxRecDepth 100000 in
set_option maxHeartbeats 6400000 in
theorem MerkleSound_walk (v : Value) (l : List (List UInt8)) (i : Int) (u : Value) (path : List (List UInt8)) (w : World) (hl : Digs w v l) (i1 : -9223372036854775808 ≤ i) (i2 : i ≤ 9223372036854775807) (hp : Digs w u path) (hK : Consts w) :
    Calls Tryd.prog 10 #[v, .int .i64 i, u] w fun e w' => e = .returned (.bool true) ∧ Below w.heap.size w w' := by
  have hle := hl.le
  have hpe := hp.le
  unfold maxLen at hle hpe
  obtain ⟨va, vc, hv⟩ := hl.len
  subst hv
  obtain ⟨ua, uc, hv⟩ := hp.len
  subst hv
  have hgd := guard_dig
  by_cases hall : l.length ≠ 0 ∧ l.length ≤ 300 ∧ 0 ≤ i ∧ i < l.length ∧ path.length ≠ 0 ∧ path.length ≤ 100
  case neg =>
    go_enter Tryd.func10, Tryd.ntmps10
    go_wp2_with fail
    refine (awake_any w hK).mono ?_
    rintro e w2 ⟨rfl, hb2⟩
    replace hl := hl.of_new hb2
    replace hp := hp.of_new hb2
    have HN := Lib.hid hall
    clear hall
    by_cases c1 : ((l.length : Int) == 0) = true
    · go_wp2
      go_ret
      exact ⟨rfl, hb2⟩
    replace c1 : ((l.length : Int) == 0) = false := by simpa using c1
    have c1' : ¬ l.length = 0 := by simpa using c1
    by_cases c2 : (300 : Int) < l.length
    · go_wp2
      go_ret
      exact ⟨rfl, hb2⟩
    by_cases c3 : i < 0
    · go_wp2
      go_ret
      exact ⟨rfl, hb2⟩
    by_cases c4 : (l.length : Int) ≤ i
    · go_wp2
      go_ret
      exact ⟨rfl, hb2⟩
    by_cases c5 : ((path.length : Int) == 0) = true
    · go_wp2
      go_ret
      exact ⟨rfl, hb2⟩
    replace c5 : ((path.length : Int) == 0) = false := by simpa using c5
    have c5' : ¬ path.length = 0 := by simpa using c5
    by_cases c6 : (100 : Int) < path.length
    · go_wp2
      go_ret
      exact ⟨rfl, hb2⟩
    exact absurd ⟨c1', by omega, by omega, by omega, c5', by omega⟩ HN.out
  obtain ⟨a1, a2, a3, a4, a5, a6⟩ := hall
  obtain ⟨j, rfl⟩ : ∃ j : Nat, i = (j : Int) := ⟨i.toNat, by omega⟩
  have c1 : ((l.length : Int) == 0) = false := beq_eq_false_iff_ne.2 (by omega)
  have c2 : ¬ (300 : Int) < l.length := by omega
  have c3 : ¬ (j : Int) < 0 := by omega
  have c4 : ¬ (l.length : Int) ≤ (j : Int) := by omega
  have c5 : ((path.length : Int) == 0) = false := beq_eq_false_iff_ne.2 (by omega)
  have c6 : ¬ (100 : Int) < path.length := by omega
  have hrl := rootL_len hl.1
  have hsound := sound _ l j (path.getD 0 []) path.tail (Nat.le_refl _) (by omega) (by omega)
  have hleads := check_leads (l := l) (i := j) (by omega) (by omega)
  have hE := (show proofE l (j : Int) = (proofL l j, 0) by unfold proofE; rw [if_pos (by omega)]; simp)
  have hct := check_true (root := rootL l) (leaf := path.getD 0 []) (n := l.length) (i := j) (p := path.tail)
  obtain ⟨v2, hr2, hl2, _⟩ := hp.part (some (.int .i64 1)) none 1 path.length (by omega) (by omega) (.inr ⟨_, rfl⟩) (.inl ⟨rfl, rfl⟩)
  have e1 : (path.drop 1).take (path.length - 1) = path.tail := by rw [List.take_of_length_le (by simp)]; simp
  rw [e1] at hl2
  have hrp := RProof_any (.slice va l.length vc) l (j : Int)
  rw [hE] at hrp
  obtain ⟨pb, poff, pc, hv⟩ := hp.shape (by omega)
  obtain ⟨rfl, rfl⟩ : ua = some ⟨pb, poff, none⟩ ∧ uc = pc := by cases hv; exact ⟨rfl, rfl⟩
  clear hv
  have hd0 := hp.digAt (i := 0) (by omega)
  rw [Nat.zero_mul, Nat.add_zero] at hd0
  obtain ⟨lb, loff, lc, hv⟩ := hl.shape (by omega)
  obtain ⟨rfl, rfl⟩ : va = some ⟨lb, loff, none⟩ ∧ vc = lc := by cases hv; exact ⟨rfl, rfl⟩
  clear hv
  have hdj := hl.digAt (i := j) (by omega)
  have hcc : checkL (rootL l) (l.length : Int) (j : Int) (path.getD 0 []) path.tail = checkL (rootL l) (l.length : Int) (j : Int) (path.getD 0 []) path.tail := rfl
  have HSO := Lib.hid hsound
  have HLE := Lib.hid hleads
  have HCT := Lib.hid hct
  have hjn : j < l.length := by omega
  have hpn : (0 : Int) < (path.length : Int) := by omega
  have hpn2 : 0 < path.length := by omega
  have hjl : (j : Int) < (l.length : Int) := by omega
  clear hsound hleads hct hcc e1 hE a1 a5 a4 a3
  generalize path.getD 0 [] = leaf at *
  generalize hpt : path.tail = proof at *
  generalize l.getD j [] = lj at *
  clear hpt
  obtain ⟨v2a, v2c, hv⟩ := hl2.len
  subst hv
  go_enter Tryd.func10, Tryd.ntmps10
  go_wp2_with fail
  refine (awake_any w hK).mono ?_
  rintro e w2 ⟨rfl, hb2⟩
  replace hl := hl.of_new hb2
  replace hl2 := hl2.of_new hb2
  replace hd0 := hd0.of_new hb2
  replace hdj := hdj.of_new hb2
  go_wp2_with (first
    | ((with_reducible apply wpList_load_at (ty := 25) (x := .tmp _)); rfl; rfl; rfl; assumption)
    | ((with_reducible refine wpList_store_fresh (op := ⟨none, Op.store 25 (.tmp 8) (.tmp 50), _, _, _, _⟩) (.tmp 8) (.tmp 50) (leaf) ?_ ?_ ?_ ?_ ?_ ?_ ?_); rfl; rfl; rfl; rfl; rfl; exact hd0.1; intro w3 hx3 ho3 hb3 hz3; replace hl := hl.of_new hb3; replace hl2 := hl2.of_new hb3; replace hdj := hdj.of_new hb3))
  have hB3 := below_next' hb2 hb3 hb2.size
  have hlf := hd0.1
  clear hb3 hb2 hd0 hr2 ho3
  refine wp_region_grew (by kernel_rfl) (by kernel_rfl) ?_
  repeat (first
    | (go_big_quiet_want; (with_reducible apply quiet_load_at (ty := 25) (x := .tmp _)); rfl; rfl; assumption; go_simp; go_big_quiet_on)
    | (go_big_quiet_want; apply quiet_val; (intro w' hw'; go_simp; first | done | rfl); go_simp; go_big_quiet_on)
    | (go_big_quiet_want; apply quiet_call (f := 13); (intro w' hw'; go_simp; first | done | rfl); (intro w' hw'; exact Grew.call hw' (Root_any _ l w' (hl.of_new hw') (by omega) (hK.of_new (below_next' hB3 hw' hB3.size)))); go_simp; go_big_quiet_on)
    | (go_big_quiet_want; apply quiet_call (f := 25); (intro w' hw'; go_simp; first | done | rfl); (intro w' hw'; exact Grew.call hw' (Check_any (rootL l) leaf (l.length : Int) (j : Int) _ proof w' hrl hlf (hl2.of_new hw') (hK.of_new (below_next' hB3 hw' hB3.size)))); go_simp; go_big_quiet_on)
    | (go_big_quiet_skip))
  refine wpQuiet_nil ?_
  intro w4 hw4
  replace hl := hl.of_new hw4
  replace hl2 := hl2.of_new hw4
  replace hdj := hdj.of_new hw4
  replace hx3 := hx3.of_new hw4
  have hB4 := below_next' hB3 hw4 hB3.size
  clear hw4 hB3
  cases hck : checkL (rootL l) (l.length : Int) (j : Int) leaf proof with
  | false =>
    have hne : leaf = lj → proof = proofL l j → False := fun e1 e2 => by
      rw [e1, e2, HLE.out] at hck
      cases hck
    have HNE := Lib.hid hne
    have hrp2 := hrp w4 hl i1 i2
    clear hck hne hrp
    go_wp2_with fail
    refine hrp2.mono ?_
    rintro e w5 ⟨v5, rfl, ho5, hb5⟩
    replace hl := hl.of_new hb5
    replace hl2 := hl2.of_new hb5
    replace hdj := hdj.of_new hb5
    replace hx3 := hx3.of_new hb5
    have hp5 := ho5.digs
    have hB5 := below_next' hB4 hb5 hB4.size
    clear ho5 hb5 hrp2
    generalize proofL l j = want at *
    go_wp2_with fail
    refine (Same_any _ _ proof want _ hl2 hp5).mono ?_
    rintro e w6 ⟨rfl, hb6⟩
    replace hl := hl.of_new hb6
    replace hl2 := hl2.of_new hb6
    replace hdj := hdj.of_new hb6
    replace hx3 := hx3.of_new hb6
    have hB6 := below_next' hB5 hb6 hB5.size
    clear hb6 hp5
    have hneq := run_neq_dig leaf lj hlf hdj.1
    by_cases hll : leaf = lj
    · rw [decide_eq_true hll] at hneq
      have hsf : decide (proof = want) = false := decide_eq_false (fun e => HNE.out hll e)
      rw [hsf]
      clear hll hsf
      go_wp2
      refine wp_region_grew (by kernel_rfl) (by kernel_rfl) ?_
      repeat (first
        | (go_big_quiet_want; (with_reducible apply quiet_load_at (ty := 25) (x := .tmp _)); rfl; rfl; assumption; go_simp; go_big_quiet_on)
        | (go_big_quiet_want; apply quiet_val; (intro w' hw'; go_simp; first | done | rfl); go_simp; go_big_quiet_on)
        | (go_big_quiet_skip))
      refine wpQuiet_nil ?_
      intro w7 hw7
      go_wp2
      go_ret
      exact ⟨rfl, below_next' hB6 hw7 hB6.size⟩
    · rw [decide_eq_false hll] at hneq
      clear hll
      go_wp2
      refine wp_region_grew (by kernel_rfl) (by kernel_rfl) ?_
      repeat (first
        | (go_big_quiet_want; (with_reducible apply quiet_load_at (ty := 25) (x := .tmp _)); rfl; rfl; assumption; go_simp; go_big_quiet_on)
        | (go_big_quiet_want; apply quiet_val; (intro w' hw'; go_simp; first | done | rfl); go_simp; go_big_quiet_on)
        | (go_big_quiet_skip))
      refine wpQuiet_nil ?_
      intro w7 hw7
      go_wp2
      go_ret
      exact ⟨rfl, below_next' hB6 hw7 hB6.size⟩
  | true =>
    obtain ⟨hcnt, hup⟩ := HCT.out hck
    have hso := HSO.out hup
    have hcl := fun w' (hw' : Grew w4 w') => Clash_any _ l j leaf _ proof w' (hl.of_new hw') (by omega) (by omega) hlf (hl2.of_new hw') (by omega)
    have heql := run_eql_dig leaf lj hlf hdj.1
    clear hck hup hcnt hrp
    by_cases hll : leaf = lj
    · rw [decide_eq_true hll] at heql
      clear hll hso hcl
      go_wp2
      refine wp_region_grew (by kernel_rfl) (by kernel_rfl) ?_
      repeat (first
        | (go_big_quiet_want; (with_reducible apply quiet_load_at (ty := 25) (x := .tmp _)); rfl; rfl; assumption; go_simp; go_big_quiet_on)
        | (go_big_quiet_want; apply quiet_val; (intro w' hw'; go_simp; first | done | rfl); go_simp; go_big_quiet_on)
        | (go_big_quiet_skip))
      refine wpQuiet_nil ?_
      intro w7 hw7
      go_wp2
      go_ret
      exact ⟨rfl, below_next' hB4 hw7 hB4.size⟩
    · rw [decide_eq_false hll] at heql
      have hct := hso.resolve_left hll
      rw [hct] at hcl
      clear hll hso hct
      go_wp2
      refine wp_region_grew (by kernel_rfl) (by kernel_rfl) ?_
      repeat (first
        | (go_big_quiet_want; (with_reducible apply quiet_load_at (ty := 25) (x := .tmp _)); rfl; rfl; assumption; go_simp; go_big_quiet_on)
        | (go_big_quiet_want; apply quiet_val; (intro w' hw'; go_simp; first | done | rfl); go_simp; go_big_quiet_on)
        | (go_big_quiet_want; apply quiet_call (f := 24); (intro w' hw'; go_simp; first | done | rfl); (intro w' hw'; exact Grew.call hw' (hcl w' hw')); go_simp; go_big_quiet_on)
        | (go_big_quiet_skip))
      refine wpQuiet_nil ?_
      intro w7 hw7
      go_wp2
      go_ret
      exact ⟨rfl, below_next' hB4 hw7 hB4.size⟩

theorem turned_laid (w : World) : OwnD (w.alloc (.cells #[] 25)) w.heap.size (.slice (some ⟨w.heap.size, 0, none⟩) 0 0) [] := ownD_empty w

set_option maxRecDepth 100000 in
set_option maxHeartbeats 6400000 in
theorem MerkleTurned_walk (v : Value) (l : List (List UInt8)) (i : Int) (leaf : List UInt8) (w : World) (hl : Digs w v l) (i1 : -9223372036854775808 ≤ i) (i2 : i ≤ 9223372036854775807) (hleaf : leaf.length = 32) (hK : Consts w) :
    Calls Tryd.prog 8 #[v, .int .i64 i, .agg (leaf.map B8).toArray] w fun e w' => e = .returned (.bool true) ∧ Below w.heap.size w w' := by
  have hle := hl.le
  unfold maxLen at hle
  obtain ⟨va, vc, hv⟩ := hl.len
  subst hv
  have hgd := guard_dig
  have hbx : DigAt (w.alloc (.cells (leaf.map B8).toArray 25)) w.heap.size 0 leaf := Octs.digAt (t := 25) (heap_alloc_new w _) hleaf
  have hbb := (Below.refl w.heap.size w).alloc (Nat.le_refl _) (.cells (leaf.map B8).toArray 25)
  have hl1 := hl.of_new hbb
  generalize hW1 : (w.alloc (.cells (leaf.map B8).toArray 25)) = w1 at hbx hbb hl1
  have HW := Lib.hid hW1
  clear hW1 hl
  by_cases hall : l.length ≠ 0 ∧ l.length ≤ 200 ∧ 0 ≤ i ∧ i < l.length
  case neg =>
    go_enter Tryd.func8, Tryd.ntmps8
    go_wp2_with fail
    rw [HW.out]
    refine (awake_any w1 (hK.of_new hbb)).mono ?_
    rintro e w2 ⟨rfl, hb2⟩
    have hB2 := below_next' hbb hb2 hbb.size
    have HN := Lib.hid hall
    clear hall
    by_cases c1 : ((l.length : Int) == 0) = true
    · go_wp2
      go_ret
      exact ⟨rfl, hB2⟩
    replace c1 : ((l.length : Int) == 0) = false := by simpa using c1
    have c1' : ¬ l.length = 0 := by simpa using c1
    by_cases c2 : (200 : Int) < l.length
    · go_wp2
      go_ret
      exact ⟨rfl, hB2⟩
    by_cases c3 : i < 0
    · go_wp2
      go_ret
      exact ⟨rfl, hB2⟩
    by_cases c4 : (l.length : Int) ≤ i
    · go_wp2
      go_ret
      exact ⟨rfl, hB2⟩
    exact absurd ⟨c1', by omega, by omega, by omega⟩ HN.out
  obtain ⟨a1, a2, a3, a4⟩ := hall
  obtain ⟨j, rfl⟩ : ∃ j : Nat, i = (j : Int) := ⟨i.toNat, by omega⟩
  have c1 : ((l.length : Int) == 0) = false := beq_eq_false_iff_ne.2 (by omega)
  have c2 : ¬ (200 : Int) < l.length := by omega
  have c3 : ¬ (j : Int) < 0 := by omega
  have c4 : ¬ (l.length : Int) ≤ (j : Int) := by omega
  have hjn : j < l.length := by omega
  have hmlen : (l.set j leaf).length = l.length := List.length_set
  have hmj : (l.set j leaf).getD j [] = leaf := by simp [List.getD, hjn]
  have hrl := rootL_len hl1.1
  have hrm : (rootL (l.set j leaf)).length = 32 := rootL_len (hl1.1.set j hleaf)
  have hleads := leads _ (l.set j leaf) j (Nat.le_refl _) (by omega) (by omega)
  rw [hmj, hmlen] at hleads
  have hpc := proofL_count _ (l.set j leaf) j (Nat.le_refl _) (by omega) (by omega)
  rw [hmlen] at hpc
  have hsound := sound _ l j leaf (proofL (l.set j leaf) j) (Nat.le_refl _) (by omega) (by omega)
  rw [hleads] at hsound
  have hsame : leaf = l.getD j [] → l.set j leaf = l := fun e => by
    rw [e, List.getD_eq_getElem?_getD, List.getElem?_eq_getElem hjn, Option.getD_some, List.set_getElem_self]
  have hE := (show proofE (l.set j leaf) (j : Int) = (proofL (l.set j leaf) j, 0) by unfold proofE; rw [if_pos (by omega)]; simp)
  obtain ⟨lb, loff, lc, hv⟩ := hl1.shape (by omega)
  obtain ⟨rfl, rfl⟩ : va = some ⟨lb, loff, none⟩ ∧ vc = lc := by cases hv; exact ⟨rfl, rfl⟩
  clear hv
  have hdj := hl1.digAt (i := j) (by omega)
  have hjl : (j : Int) < (l.length : Int) := by omega
  have HSO := Lib.hid hsound
  have HPC := Lib.hid hpc
  have HSA := Lib.hid hsame
  have HE := Lib.hid hE
  have HML := Lib.hid hmlen
  clear hleads hpc hsound hsame hE hmlen hmj a1 a4 a3
  generalize l.getD j [] = lj at *
  go_enter Tryd.func8, Tryd.ntmps8
  go_wp2_with fail
  rw [HW.out]
  refine (awake_any w1 (hK.of_new hbb)).mono ?_
  rintro e w2 ⟨rfl, hb2⟩
  replace hl1 := hl1.of_new hb2
  replace hbx := hbx.of_new hb2
  replace hdj := hdj.of_new hb2
  have hB2 := below_next' hbb hb2 hbb.size
  have hown0 := ownD_empty w2
  have hlb2 : lb < w2.heap.size := hdj.lt
  have hwb2 : w.heap.size < w2.heap.size := hbx.lt
  have hl2 := hl1.of_new ((Below.refl w2.heap.size w2).alloc (Nat.le_refl _) (.cells #[] 25))
  clear hb2 hbb
  go_wp2_with (at_builtin; refine wpList_appD rfl (.tmp 36) (.tmp 37) 22 rfl w2.heap.size Tryd.underlying22 _ [] rfl hown0 _ l rfl hl2 (by simp; omega) (by simp) ?_)
  intro v3 w3 ho3 hg3 _
  have hb3 : Below w2.heap.size w2 w3 := ((Below.refl _ w2).alloc (Nat.le_refl _) _).grown hg3 (by simp) (fun k e => by cases e; exact Nat.le_refl _)
  replace hl1 := hl1.of_new hb3
  replace hbx := hbx.of_new hb3
  replace hdj := hdj.of_new hb3
  have hB3 := below_next' hB2 hb3 hB2.size
  clear hg3 hb3 hown0 hl2
  obtain ⟨g, cap, hv⟩ : ∃ g cap, v3 = .slice (some ⟨g, 0, none⟩) l.length cap := by
    rcases ho3.2.2 with ⟨_, h⟩ | ⟨g, cap, cur, hv, hb, _⟩
    · omega
    · exact ⟨g, cap, hv⟩
  subst hv
  have hgl := (ho3.lt g rfl)
  go_wp2_with (first
    | ((with_reducible apply wpList_load_at (ty := 25) (x := .tmp _)); rfl; rfl; rfl; assumption)
    | ((with_reducible refine wpList_store_dig (op := ⟨none, Op.store 25 (.tmp 42) (.tmp 41), _, _, _, _⟩) (.tmp 42) (.tmp 41) w2.heap.size g l.length cap l j leaf ?_ ?_ ?_ ?_ ?_ ?_ ?_ ?_); rfl; rfl; rfl; rfl; exact ho3; exact hjn; exact hleaf; intro cs hcs))
  have hg4 := grown_setRow w3 g cs
  generalize w3.setRow g cs = w4 at *
  have hl4 : Digs w4 (.slice (some ⟨lb, loff, none⟩) l.length vc) l := hl1.grown hg4 (fun k e e2 => by have h1 : lb = k := Option.some.inj e; have h2 := Option.some.inj e2; have := hgl.1; omega)
  have hbx4 : DigAt w4 w.heap.size 0 leaf := hbx.of_block (hg4.block _ hbx.lt (fun e => by have h2 := Option.some.inj e; have := hgl.1; omega))
  have hdj4 : DigAt w4 lb (loff + j * 32) lj := hdj.of_block (hg4.block _ hdj.lt (fun e => by have h2 := Option.some.inj e; have := hgl.1; omega))
  have hB4 : Below w.heap.size w w4 := hB3.grown hg4 hB3.size (fun k e => by have h2 := Option.some.inj e; have := hgl.1; omega)
  have hm4 := hcs.digs
  clear hcs hg4 hl1 hbx hdj hB3 ho3 hgl hlb2 hwb2 hB2
  generalize l.set j leaf = m at *
  have hml := HML.out
  have hpr := Proof_any _ m (j : Int) w4 hm4 i1 i2 (hK.of_new hB4)
  rw [HE.out] at hpr
  refine hpr.mono ?_
  rintro e w5 ⟨v5, rfl, ho5, hb5⟩
  replace hl4 := hl4.of_new hb5
  replace hm4 := hm4.of_new hb5
  replace hbx4 := hbx4.of_new hb5
  replace hdj4 := hdj4.of_new hb5
  have hp5 := ho5.digs
  have hB5 := below_next' hB4 hb5 hB4.size
  clear hpr ho5 hb5 hB4 HE
  generalize proofL m j = p at *
  obtain ⟨pa, pc, hv⟩ := hp5.len
  subst hv
  have hml2 : m.length ≤ 2048 := by omega
  clear hml
  go_wp2_with fail
  refine (Root_any _ l _ hl4 (by omega) (hK.of_new hB5)).mono ?_
  rintro e w6 ⟨rfl, hb6⟩
  replace hl4 := hl4.of_new hb6
  replace hm4 := hm4.of_new hb6
  replace hbx4 := hbx4.of_new hb6
  replace hdj4 := hdj4.of_new hb6
  replace hp5 := hp5.of_new hb6
  have hB6 := below_next' hB5 hb6 hB5.size
  clear hb6 hB5
  go_wp2_with fail
  refine (Root_any _ m _ hm4 hml2 (hK.of_new hB6)).mono ?_
  rintro e w7 ⟨rfl, hb7⟩
  replace hl4 := hl4.of_new hb7
  replace hm4 := hm4.of_new hb7
  replace hbx4 := hbx4.of_new hb7
  replace hdj4 := hdj4.of_new hb7
  replace hp5 := hp5.of_new hb7
  have hB7 := below_next' hB6 hb7 hB6.size
  clear hb7 hB6 hm4
  have heq1 := run_eql_dig (rootL l) (rootL m) hrl hrm
  have heq2 := run_eql_dig leaf lj hleaf hdj4.1
  have hcl := fun w' (hw' : Grew w7 w') => Clash_any _ l j leaf _ p w' (hl4.of_new hw') hjn (by omega) hleaf (hp5.of_new hw') (by have := HPC.out; omega)
  by_cases hll : leaf = lj
  · have hrr : rootL l = rootL m := by rw [HSA.out hll]
    rw [decide_eq_true hrr] at heq1
    rw [decide_eq_true hll] at heq2
    clear hll hrr hcl
    go_wp2
    refine wp_region_grew (by kernel_rfl) (by kernel_rfl) ?_
    repeat (first
      | (go_big_quiet_want; (with_reducible apply quiet_load_at (ty := 25) (x := .tmp _)); rfl; rfl; assumption; go_simp; go_big_quiet_on)
      | (go_big_quiet_want; apply quiet_val; (intro w' hw'; go_simp; first | done | rfl); go_simp; go_big_quiet_on)
      | (go_big_quiet_skip))
    refine wpQuiet_nil ?_
    intro w8 hw8
    go_wp2
    go_ret
    exact ⟨rfl, below_next' hB7 hw8 hB7.size⟩
  · rw [decide_eq_false hll] at heq2
    by_cases hrr : rootL l = rootL m
    · have hct := (HSO.out hrr.symm).resolve_left hll
      rw [hct] at hcl
      rw [decide_eq_true hrr] at heq1
      clear hll hrr hct
      go_wp2
      refine wp_region_grew (by kernel_rfl) (by kernel_rfl) ?_
      repeat (first
        | (go_big_quiet_want; (with_reducible apply quiet_load_at (ty := 25) (x := .tmp _)); rfl; rfl; assumption; go_simp; go_big_quiet_on)
        | (go_big_quiet_want; apply quiet_val; (intro w' hw'; go_simp; first | done | rfl); go_simp; go_big_quiet_on)
        | (go_big_quiet_want; apply quiet_call (f := 24); (intro w' hw'; go_simp; first | done | rfl); (intro w' hw'; exact Grew.call hw' (hcl w' hw')); go_simp; go_big_quiet_on)
        | (go_big_quiet_skip))
      refine wpQuiet_nil ?_
      intro w8 hw8
      go_wp2
      go_ret
      exact ⟨rfl, below_next' hB7 hw8 hB7.size⟩
    · rw [decide_eq_false hrr] at heq1
      clear hll hrr hcl
      go_wp2
      refine wp_region_grew (by kernel_rfl) (by kernel_rfl) ?_
      repeat (first
        | (go_big_quiet_want; (with_reducible apply quiet_load_at (ty := 25) (x := .tmp _)); rfl; rfl; assumption; go_simp; go_big_quiet_on)
        | (go_big_quiet_want; apply quiet_val; (intro w' hw'; go_simp; first | done | rfl); go_simp; go_big_quiet_on)
        | (go_big_quiet_skip))
      refine wpQuiet_nil ?_
      intro w8 hw8
      go_wp2
      go_ret
      exact ⟨rfl, below_next' hB7 hw8 hB7.size⟩

end Go.Proofs.YtnilkdfhnmkekaaDoor

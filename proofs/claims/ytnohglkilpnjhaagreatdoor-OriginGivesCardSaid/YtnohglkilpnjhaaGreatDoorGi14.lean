/- Texts of this claim, one behind the other: each begins with a comment that says what it proves and asks. -/
import Derived.Test.YtnohglkilpnjhaaGreatDoorGi13
import Derived.Deep.DeepCutAuto
import Derived.Deep.Cut
import Derived.BigQuiet
import Derived.Deep.OwnRows
import Derived.Lib.Mul64
import Derived.Laws.Bits64b
/- The walk of merkle.Check. Condition: the table of constants as the program lays it. -/
namespace Go.Proofs.YtnohglkilpnjhaaGreatDoor
open Go.RowKit Go.Shelf
attribute [local go_sem] Oper.semAt_some
set_option linter.unusedVariables false
set_option linter.unusedSimpArgs false

/-- What a leaf and the hashes lead to, on the way through places. -/
def upP : List (Nat × Nat) → List UInt8 → List (List UInt8) → List UInt8 × List (List UInt8)
  | [], x, p => (x, p)
  | (n, i) :: r, x, p => if besideZ n i < 0 then upP r x p else if i % 2 = 1 then upP r (nodeL (p.getD 0 []) x) p.tail else upP r (nodeL x (p.getD 0 [])) p.tail
theorem upP_snoc (r : List (Nat × Nat)) (n i : Nat) (x : List UInt8) (p : List (List UInt8)) {y : List UInt8} {q : List (List UInt8)} (h : upP r x p = (y, q)) :
    upP (r ++ [(n, i)]) x p = if besideZ n i < 0 then (y, q) else if i % 2 = 1 then (nodeL (q.getD 0 []) y, q.tail) else (nodeL y (q.getD 0 []), q.tail) := by
  induction r generalizing x p with
  | nil =>
    simp only [upP, Prod.mk.injEq] at h
    obtain ⟨rfl, rfl⟩ := h
    simp only [List.nil_append, upP]
  | cons a r ih =>
    obtain ⟨a, b⟩ := a
    simp only [upP] at h
    simp only [List.cons_append, upP]
    split at h
    · rename_i h1; rw [if_pos h1]; exact ih _ _ h
    · rename_i h1
      rw [if_neg h1]
      split at h
      · rename_i h2; rw [if_pos h2]; exact ih _ _ h
      · rename_i h2; rw [if_neg h2]; exact ih _ _ h
def checkL (root : List UInt8) (n i : Int) (leaf : List UInt8) (proof : List (List UInt8)) : Bool :=
  rightB n i && decide (proof.length = depthZ n i) && decide ((upP (walkN n.toNat i.toNat) leaf proof).1 = root)

theorem wp_store_dig {w : World} {op : Oper} {a : Act} {K : Act → World → Prop} {Q : Exit → Act → World → Prop} (x y : Operand) (g : Nat) (old d : List UInt8) (ho : op.op = .store 31 x y)
    (hx : a.eval x = .pointer (some ⟨g, 0, none⟩)) (hy : a.eval y = .agg (d.map B8).toArray) (hg : Octs w g 31 old) (h1 : old.length = 32) (h2 : d.length = 32)
    (h : ∀ w', Octs w' g 31 d → w.grownBy w' (some g) → K (a.put op.dst undef) w') : op.wp Tryz.prog a w K Q := by
  have hrun := run_storeVar_row (P := Tryz.prog) w g 31 31 _ (d.map B8).toArray hg (by rw [info_dig]; simp [h2]) (by simp [h1, h2]) (octs_one d)
  unfold Oper.wp execOp
  simp only [ho, hx, hy, Instr.storeAt, Instr.sureAddr, Sem.run_bind, Sem.run_pure, Result.andThen_ok, hrun]
  exact h _ (setRow_heap _ _ _ _ _ _ hg) (grown_setRow _ _ _)

theorem right_below (n i : Int) (w : World) : Calls Tryz.prog 107 #[.int .i64 n, .int .i64 i] w fun e w' => e = .returned (.bool (rightB n i)) ∧ Below w.heap.size w w' :=
  (right_any n i w).mono fun _ _ ⟨he, hw⟩ => ⟨he, by rw [hw]; exact Below.refl _ _⟩

/-- What holds ahead of each round. -/
def CheckI (w : World) (root leaf : List UInt8) (proof : List (List UInt8)) (pre : List (Nat × Nat)) (W : World) : Prop :=
  ∃ (rv : Value) (x : List UInt8) (rest : List (List UInt8)), Octs W (w.heap.size + 1) 31 x ∧ x.length = 32 ∧ One W (w.heap.size + 2) rv 34 ∧ Digs w rv rest ∧ upP pre leaf proof = (x, rest) ∧
    rest.length + cntP pre = proof.length ∧ Octs W w.heap.size 31 root ∧ Below w.heap.size w W ∧ w.heap.size + 3 ≤ W.heap.size

set_option maxRecDepth 100000 in
set_option maxHeartbeats 3200000 in
theorem Check_any (root leaf : List UInt8) (n i : Int) (v : Value) (proof : List (List UInt8)) (w : World) (hroot : root.length = 32) (hleaf : leaf.length = 32) (hp : Digs w v proof) (hK : Consts w) :
    Calls Tryz.prog 69 #[.agg (root.map B8).toArray, .int .i64 n, .int .i64 i, .agg (leaf.map B8).toArray, v] w fun e w' => e = .returned (.bool (checkL root n i leaf proof)) ∧ Below w.heap.size w w' := by
  obtain ⟨va, vc, hv⟩ := hp.len
  subst hv
  have hle := hp.le
  unfold maxLen at hle
  have hgd := guard_dig
  refine (callsIn_wide (n := 3)).1 ?_
  refine callsIn_of_wp_marks Tryz.func69 rfl trivial ?_ rfl
  simp only [Tryz.ntmps69, List.size_toArray, List.length_cons, List.length_nil, Nat.reduceAdd, Nat.reduceSub, Array.replicate_succ, Array.replicate_zero, List.push_toArray, List.append_toArray, List.nil_append, List.cons_append]
  gi_wp2
  generalize hW1 : ((w.alloc _).alloc _).alloc _ = W1
  obtain ⟨hsz, hb1, o1, o2, o3⟩ : W1.heap.size = w.heap.size + 3 ∧ Below w.heap.size w W1 ∧ Octs W1 w.heap.size 31 root ∧ Octs W1 (w.heap.size + 1) 31 leaf ∧ One W1 (w.heap.size + 2) (.slice va proof.length vc) 34 := by
    subst hW1
    refine ⟨by simp, (((Below.refl _ w).alloc (Nat.le_refl _) _).alloc (by simp) _).alloc (by simp; omega) _, ?_, ?_, ?_⟩
    · exact (Below.heap_alloc _ _ _ (by simp; omega)).trans ((Below.heap_alloc _ _ _ (by simp)).trans (heap_alloc_new _ _))
    · refine (Below.heap_alloc _ _ _ (by simp)).trans ?_
      have := heap_alloc_new (w.alloc (.cells (root.map B8).toArray 31)) (.cells (leaf.map B8).toArray 31)
      rwa [World.size_alloc] at this
    · have := heap_alloc_new ((w.alloc (.cells (root.map B8).toArray 31)).alloc (.cells (leaf.map B8).toArray 31)) (.cells #[.slice va proof.length vc] 34)
      rwa [World.size_alloc, World.size_alloc] at this
  clear hW1
  have hr := right_below n i
  have hD := Depth_any n i
  have hcl : checkL root n i leaf proof = (rightB n i && decide (proof.length = depthZ n i) && decide ((upP (walkN n.toNat i.toNat) leaf proof).1 = root)) := rfl
  have hdz : depthZ n i = if rightB n i then cntP (walkN n.toNat i.toNat) else 0 := rfl
  have hrb : rightB n i = decide (n ≥ 1 ∧ n ≤ 1024 ∧ i ≥ 0 ∧ i < n) := rfl
  have hcov : ∀ w2, Grew W1 w2 → w2.cell? ⟨w.heap.size + 1 + 1, 0, none⟩ = some (.slice va proof.length vc) := fun w2 h => (o3.of_new h).cell
  rcases hrb2 : rightB n i with _ | _
  · rw [hrb2] at hr hcl hdz
    have HCL := Lib.hid hcl
    clear hcl hdz hrb hrb2
    refine wpIn_wide.2 (wp_region_grew (by kernel_rfl) (by kernel_rfl) ?_)
    repeat (first
      | (go_big_quiet_want; (with_reducible apply quiet_load_at (ty := 31) (x := .tmp _)); rfl; rfl; assumption; go_simp; go_big_quiet_on)
      | (go_big_quiet_want; apply quiet_val; (intro w' hw'; go_simp; first | done | rfl); go_simp; go_big_quiet_on)
      | (go_big_quiet_want; apply quiet_call (f := 107); (intro w' hw'; go_simp; first | done | rfl); (intro w' hw'; exact Grew.call hw' (hr w')); go_simp; go_big_quiet_on)
      | (go_big_quiet_skip))
    refine wpQuiet_nil ?_
    intro w5 hw5
    gi_wp2
    refine ⟨_, results_tmp rfl _ _ _, by rw [HCL.out]; rfl, ?_⟩
    exact below_next' hb1 hw5
  rw [hrb2] at hr hcl hdz
  by_cases hpd : proof.length = depthZ n i
  case neg =>
    have t1 : ((proof.length : Int) != (depthZ n i : Int)) = true := by simp; omega
    have ha : checkL root n i leaf proof = false := by rw [hcl]; simp [hpd]
    have HA := Lib.hid ha
    clear hcl hdz hrb hrb2 ha hpd
    generalize depthZ n i = D at *
    refine wpIn_wide.2 (wp_region_grew (by kernel_rfl) (by kernel_rfl) ?_)
    repeat (first
      | (go_big_quiet_want; (with_reducible apply quiet_load_at (ty := 31) (x := .tmp _)); rfl; rfl; assumption; go_simp; go_big_quiet_on)
      | (go_big_quiet_want; apply quiet_val; (intro w' hw'; go_simp; first | done | rfl); go_simp; go_big_quiet_on)
      | (go_big_quiet_want; apply quiet_call (f := 107); (intro w' hw'; go_simp; first | done | rfl); (intro w' hw'; exact Grew.call hw' (hr w')); go_simp; go_big_quiet_on)
      | (go_big_quiet_want; apply quiet_call (f := 108); (intro w' hw'; go_simp; first | done | rfl); (intro w' hw'; exact Grew.call hw' (hD w')); go_simp; go_big_quiet_on)
      | (go_big_quiet_skip))
    refine wpQuiet_nil ?_
    intro w5 hw5
    gi_wp2
    refine ⟨_, results_tmp rfl _ _ _, by rw [HA.out]; rfl, ?_⟩
    exact below_next' hb1 hw5
  have t1 : ((proof.length : Int) != (depthZ n i : Int)) = false := by simp; omega
  obtain ⟨p1, p2, p3, p4⟩ : n ≥ 1 ∧ n ≤ 1024 ∧ i ≥ 0 ∧ i < n := by
    rw [hrb] at hrb2
    simpa using hrb2
  have ha : checkL root n i leaf proof = decide ((upP (walkN n.toNat i.toNat) leaf proof).1 = root) := by rw [hcl]; simp [hpd]
  rw [if_pos rfl] at hdz
  have hpc : proof.length = cntP (walkN n.toNat i.toNat) := by rw [hpd, hdz]
  have HA := Lib.hid ha
  have HPC := Lib.hid hpc
  clear hcl hdz hrb hrb2 ha hpd hpc
  generalize depthZ n i = D at *
  obtain ⟨N, rfl⟩ : ∃ N : Nat, n = (N : Int) := ⟨n.toNat, by omega⟩
  obtain ⟨j, rfl⟩ : ∃ j : Nat, i = (j : Int) := ⟨i.toNat, by omega⟩
  simp only [Int.toNat_natCast] at HA HPC
  refine wpIn_wide.2 (wp_region_grew (by kernel_rfl) (by kernel_rfl) ?_)
  repeat (first
    | (go_big_quiet_want; (with_reducible apply quiet_load_at (ty := 31) (x := .tmp _)); rfl; rfl; assumption; go_simp; go_big_quiet_on)
    | (go_big_quiet_want; apply quiet_val; (intro w' hw'; go_simp; first | done | rfl); go_simp; go_big_quiet_on)
    | (go_big_quiet_want; apply quiet_call (f := 107); (intro w' hw'; go_simp; first | done | rfl); (intro w' hw'; exact Grew.call hw' (hr w')); go_simp; go_big_quiet_on)
    | (go_big_quiet_want; apply quiet_call (f := 108); (intro w' hw'; go_simp; first | done | rfl); (intro w' hw'; exact Grew.call hw' (hD w')); go_simp; go_big_quiet_on)
    | (go_big_quiet_skip))
  refine wpQuiet_nil ?_
  intro w5 hw5
  have q1 := o1.of_block (hw5.block _ (by omega))
  have q2 := o2.of_block (hw5.block _ (by omega))
  have q3 := o3.of_new hw5
  have hb5 := below_next' hb1 hw5
  have hs5 := hw5.size
  clear hcov hr hD t1 o1 o2 o3
  gi_wp2_with (refine ⟨trivial, ?_⟩; gi_at_call 109; refine (callsIn_wide.2 (places_any _ _ _)).mono ?_; rintro e w' ⟨rfl, rfl⟩)
  generalize hW0 : (w5.alloc _).alloc _ = W0
  obtain ⟨hs0, hb50, o4, o5⟩ : W0.heap.size = w5.heap.size + 2 ∧ Below w5.heap.size w5 W0 ∧ One W0 w5.heap.size (.int .i64 (N : Int)) 3 ∧ One W0 (w5.heap.size + 1) (.int .i64 (j : Int)) 3 := by
    subst hW0
    refine ⟨by simp, ((Below.refl _ w5).alloc (Nat.le_refl _) _).alloc (by simp) _, (Below.heap_alloc _ _ _ (by simp)).trans (heap_alloc_new _ _), ?_⟩
    have := heap_alloc_new (w5.alloc (.cells #[.int .i64 (N : Int)] 3)) (.cells #[.int .i64 (j : Int)] 3)
    rwa [World.size_alloc] at this
  replace q1 := q1.of_block (hb50.block _ (by omega))
  replace q2 := q2.of_block (hb50.block _ (by omega))
  replace q3 := q3.of_new hb50
  have hB0 := below_next' hb5 hb50 (by omega)
  clear hW0
  refine wpIn_rangeFunc_cells (F := Fence.wide) (n := 3) rfl (by omega) (gf := 158) (lb := #[.pointer (some ⟨w5.heap.size, 0, none⟩), .pointer (some ⟨w5.heap.size + 1, 0, none⟩)]) rfl trivial
    (enters_of Tryz.func158 (by kernel_rfl) rfl)
    (encs := encP) (It := fun pre x _ => pre ++ [x] <+: walkN N j) (O := fun k => k = w5.heap.size ∨ k = w5.heap.size + 1) (U := fun k => k = w5.heap.size ∨ k = w5.heap.size + 1)
    (fun W1 hb1 hs1 => by
      have e1 := o4.of_block (hb1.block _ (by omega))
      have e2 := o5.of_block (hb1.block _ (by omega))
      exact places_seq Fence.wide 2 trivial rfl (by omega) _ _ (by omega) N j (by omega) (by omega) W1 e1.cell e2.cell e1.free e2.free)
    (by omega) (by omega) (by omega) (fun _ => rfl)
    (CheckI w root leaf proof) (fun _ _ _ => False)
    (fun s A B hs hk => by
      obtain ⟨rv, x, rest, a1, a2, a3, a4, a5, a6, a7, a8, a9⟩ := hs
      exact ⟨rv, x, rest, a1.of_block (hk.block _ (by omega) (by constructor <;> omega)), a2, a3.of_block (hk.block _ (by omega) (by constructor <;> omega)), a4, a5, a6, a7.of_block (hk.block _ (by omega) (by constructor <;> omega)),
        hk.to_below a8 (by omega) (fun k hk2 => by constructor <;> omega), Nat.le_trans a9 hk.size⟩)
    (fun _ _ _ _ h _ => h) (fun _ _ _ _ h _ => h)
    ⟨_, leaf, proof, q2, hleaf, q3, hp, rfl, by simp [cntP], q1, hB0, by omega⟩
    (fun x => { tmps := #[.agg (root.map B8).toArray, .int .i64 (N : Int), .int .i64 (j : Int), .agg (leaf.map B8).toArray, .slice va proof.length vc, .pointer (some ⟨w.heap.size, 0, none⟩), undef, undef, .pointer (some ⟨w.heap.size + 1, 0, none⟩), .pointer (some ⟨w.heap.size + 1 + 1, 0, none⟩), .bool false,
      .int .i64 (x.1 : Int), .int .i64 (x.2 : Int), undef, .int .i64 (N : Int), .int .i64 (j : Int), .bool true, .bool false, .bool false, .slice va proof.length vc, .int .i64 (proof.length : Int), .int .i64 (N : Int), .int .i64 (j : Int), .int .i64 (D : Int), .bool false, .bool false, .int .i64 (N : Int), .int .i64 (j : Int),
      .func (.func 158) #[] #[.pointer (some ⟨w5.heap.size, 0, none⟩), .pointer (some ⟨w5.heap.size + 1, 0, none⟩)], .int .i64 (x.1 : Int), .int .i64 (x.2 : Int), undef, undef, undef, undef, undef, undef, undef, undef, undef, undef, undef, undef, undef, undef, undef, undef, undef, undef, undef, undef, undef, undef, undef, undef, undef], defers := [] }) ?assign ?body ?done ?stop
  case assign =>
    intro l x W K hK
    gi_wp2
    exact hK
  case body =>
    rintro l pre ⟨a, b⟩ W ⟨rv, x, rest, a1, a2, a3, a4, a5, a6, a7, a8, a9⟩ hpre _ hW2
    have hmem : (a, b) ∈ walkN N j := hpre.subset (by simp)
    obtain ⟨g1, g2, g3⟩ := walkP_in 1024 N j (by omega) _ hmem
    dsimp only at g1 g2 g3
    have hbz : besideZ a b = if b % 2 = 1 then (b : Int) - 1 else if b + 1 < a then (b : Int) + 1 else -1 := rfl
    have hup := upP_snoc pre a b leaf proof a5
    have hcs := cntP_snoc pre (a, b)
    have hcl : cntP (pre ++ [(a, b)]) ≤ cntP (walkN N j) := by
      obtain ⟨t, ht⟩ := hpre
      rw [← ht]
      unfold cntP
      rw [List.countP_append (l₂ := t)]
      omega
    have hbes := beside_any a b
    have h1 : 1 ≤ 3 - 1 - 1 := by omega
    have qc := a3.cell
    have qf := a3.free
    rw [← HPC.out] at hcl
    clear hpre hmem
    dsimp only at hcs
    by_cases hz : besideZ a b < 0
    · rw [if_pos hz] at hup
      rw [if_neg (by omega)] at hcs
      have HU := Lib.hid hup
      have HC := Lib.hid hcs
      clear hup hcs hbz
      generalize besideZ a b = at_ at *
      gi_wp2_with (refine ⟨trivial, ?_⟩; gi_at_call 110; refine (CallsIn.inRound l (callsIn_wide.2 (hbes _ g1 (by omega)))).mono ?_; rintro e w' ⟨rfl, rfl⟩)
      exact ⟨Kept.refl _ _, rv, x, rest, a1, a2, a3, a4, HU.out, by rw [HC.out]; omega, a7, a8, a9⟩
    · rw [if_neg hz] at hup
      rw [if_pos (by omega)] at hcs
      have hr1 : 1 ≤ rest.length := by omega
      obtain ⟨rb, roff, rc, hv⟩ := a4.shape (by omega)
      subst hv
      have hd1 := (a4.of_new a8).digAt (i := 0) (by omega)
      rw [Nat.zero_mul, Nat.add_zero] at hd1
      obtain ⟨v2, hr2, hl2, _⟩ := a4.part (some (.int .i64 1)) none 1 rest.length (by omega) (by omega) (.inr ⟨_, rfl⟩) (.inl ⟨rfl, rfl⟩)
      have e1 : (rest.drop 1).take (rest.length - 1) = rest.tail := by rw [List.take_of_length_le (by simp)]; simp
      rw [e1] at hl2
      have htl : rest.tail.length + 1 = rest.length := by simp; omega
      have hrl : (0 : Int) < (rest.length : Int) := by omega
      have hrn : 0 < rest.length := by omega
      have hrm : ¬ rest.length = 0 := by omega
      have HU := Lib.hid hup
      have HC := Lib.hid hcs
      have HT := Lib.hid htl
      have hx1 := a1.digAt a2
      clear e1 htl
      by_cases hodd : b % 2 = 1
      · rw [if_pos hodd] at hbz
        rw [if_pos hodd] at hup
        have HU := Lib.hid hup
        have t2 : ¬ ((b : Int) - 1 < 0) := by omega
        have t3 : (b : Int) - 1 < (b : Int) := by omega
        rw [hbz] at hbes
        clear hup hcs hbz hz
        generalize rest.getD 0 [] = d at *
        generalize rest.tail = rest2 at *
        obtain ⟨a2', c2', hv⟩ := hl2.len
        subst hv
        gi_wp2_with (refine ⟨trivial, ?_⟩; gi_at_call 110; refine (CallsIn.inRound l (callsIn_wide.2 (hbes _ g1 (by omega)))).mono ?_; rintro e w' ⟨rfl, rfl⟩)
        have hcov : ∀ w2, Grew w' w2 → w2.cell? ⟨w.heap.size + 2, 0, none⟩ = some (.slice (some ⟨rb, roff, none⟩) rest.length rc) := fun w2 h => (a3.of_new h).cell
        refine wpIn_region_class (ro := some l) (C := Grew w') 5 (by kernel_rfl) (by kernel_rfl) (Grew.start _) ?_
        simp only [List.take_succ_cons, List.take_zero, List.drop_succ_cons, List.drop_zero]
        go_simp
        repeat (first
          | (go_big_quiet_want; (with_reducible apply quiet_load_at (ty := 31) (x := .tmp _)); rfl; rfl; assumption; go_simp; go_big_quiet_on)
          | (go_big_quiet_want; apply quiet_val; (intro w' hw'; go_simp; first | done | rfl); go_simp; go_big_quiet_on)
          | (go_big_quiet_want; apply quiet_call (f := 111); (intro w' hw'; go_simp; first | done | rfl); (intro w' hw'; exact Grew.call hw' (Node_any _ _ w' hd1.1 a2 (hK.of_new (below_next' a8 hw' (by omega))))); go_simp; go_big_quiet_on)
          | (go_big_quiet_skip))
        refine wpQuiet_nil ?_
        intro w6 hw6
        refine wpListIn_of_wp rfl (fun c hc => by cases hc) (wp_store_dig (.tmp 8) (.tmp 50) (w.heap.size + 1) x (nodeL d x) rfl rfl rfl (a1.of_block (hw6.block _ (by omega))) a2 (nodeL_len _ _) ?_)
        intro w7 hx7 hg7
        have b3 := (a3.of_new hw6).grown hg7 (by simp)
        have b7 := (a7.of_block (hw6.block _ (by omega))).of_block (hg7.block _ (by have := hw6.size; omega) (by simp))
        have b8 : Below w.heap.size w w7 := (below_next' a8 hw6 (by omega)).grown hg7 (by have := hw6.size; omega) (fun j e => by cases e; omega)
        have b9 : w.heap.size + 3 ≤ w7.heap.size := by have := hw6.size; have := hg7.size; omega
        have hk7 : Kept (fun k => (k = w5.heap.size ∨ k = w5.heap.size + 1) ∨ k = W0.heap.size ∨ k = W0.heap.size + 1) w' w7 := ((Kept.refl _ w').below hw6).grown hg7 (fun r e => by cases e; omega)
        have qc7 := b3.cell
        have qf7 := b3.free
        rw [wF_some]
        clear hw6 hg7 qc qf hcov a3 a1 a7 a8 a9 hx1 hd1
        gi_wp2
        exact ⟨hk7.setCell (p := ⟨w.heap.size + 2, 0, none⟩) (by simp; omega) _, _, _, rest2, hx7.of_block (Below.heap_setCell _ _ _ _ (by intro h; have h2 : w.heap.size + 1 = w.heap.size + 2 := h; omega)), nodeL_len _ _, b3.set _, hl2, HU.out, by rw [HC.out]; have := HT.out; omega,
          b7.of_block (Below.heap_setCell _ _ _ _ (by intro h; have h2 : w.heap.size = w.heap.size + 2 := h; omega)), b8.setCell (p := ⟨w.heap.size + 2, 0, none⟩) (by simp) _, by simpa [World.setCell] using b9⟩
      · rw [if_neg hodd] at hbz
        rw [if_neg hodd] at hup
        have HU := Lib.hid hup
        have hlt2 : b + 1 < a := by
          by_cases h : b + 1 < a
          · exact h
          · rw [if_neg h] at hbz; omega
        rw [if_pos hlt2] at hbz
        have t2 : ¬ ((b : Int) + 1 < 0) := by omega
        have t3 : ¬ ((b : Int) + 1 < (b : Int)) := by omega
        rw [hbz] at hbes
        clear hup hcs hbz hz
        generalize rest.getD 0 [] = d at *
        generalize rest.tail = rest2 at *
        obtain ⟨a2', c2', hv⟩ := hl2.len
        subst hv
        gi_wp2_with (refine ⟨trivial, ?_⟩; gi_at_call 110; refine (CallsIn.inRound l (callsIn_wide.2 (hbes _ g1 (by omega)))).mono ?_; rintro e w' ⟨rfl, rfl⟩)
        have hcov : ∀ w2, Grew w' w2 → w2.cell? ⟨w.heap.size + 2, 0, none⟩ = some (.slice (some ⟨rb, roff, none⟩) rest.length rc) := fun w2 h => (a3.of_new h).cell
        refine wpIn_region_class (ro := some l) (C := Grew w') 5 (by kernel_rfl) (by kernel_rfl) (Grew.start _) ?_
        simp only [List.take_succ_cons, List.take_zero, List.drop_succ_cons, List.drop_zero]
        go_simp
        repeat (first
          | (go_big_quiet_want; (with_reducible apply quiet_load_at (ty := 31) (x := .tmp _)); rfl; rfl; assumption; go_simp; go_big_quiet_on)
          | (go_big_quiet_want; apply quiet_val; (intro w' hw'; go_simp; first | done | rfl); go_simp; go_big_quiet_on)
          | (go_big_quiet_want; apply quiet_call (f := 111); (intro w' hw'; go_simp; first | done | rfl); (intro w' hw'; exact Grew.call hw' (Node_any _ _ w' a2 hd1.1 (hK.of_new (below_next' a8 hw' (by omega))))); go_simp; go_big_quiet_on)
          | (go_big_quiet_skip))
        refine wpQuiet_nil ?_
        intro w6 hw6
        refine wpListIn_of_wp rfl (fun c hc => by cases hc) (wp_store_dig (.tmp 8) (.tmp 38) (w.heap.size + 1) x (nodeL x d) rfl rfl rfl (a1.of_block (hw6.block _ (by omega))) a2 (nodeL_len _ _) ?_)
        intro w7 hx7 hg7
        have b3 := (a3.of_new hw6).grown hg7 (by simp)
        have b7 := (a7.of_block (hw6.block _ (by omega))).of_block (hg7.block _ (by have := hw6.size; omega) (by simp))
        have b8 : Below w.heap.size w w7 := (below_next' a8 hw6 (by omega)).grown hg7 (by have := hw6.size; omega) (fun j e => by cases e; omega)
        have b9 : w.heap.size + 3 ≤ w7.heap.size := by have := hw6.size; have := hg7.size; omega
        have hk7 : Kept (fun k => (k = w5.heap.size ∨ k = w5.heap.size + 1) ∨ k = W0.heap.size ∨ k = W0.heap.size + 1) w' w7 := ((Kept.refl _ w').below hw6).grown hg7 (fun r e => by cases e; omega)
        have qc7 := b3.cell
        have qf7 := b3.free
        rw [wF_some]
        clear hw6 hg7 qc qf hcov a3 a1 a7 a8 a9 hx1 hd1
        gi_wp2
        exact ⟨hk7.setCell (p := ⟨w.heap.size + 2, 0, none⟩) (by simp; omega) _, _, _, rest2, hx7.of_block (Below.heap_setCell _ _ _ _ (by intro h; have h2 : w.heap.size + 1 = w.heap.size + 2 := h; omega)), nodeL_len _ _, b3.set _, hl2, HU.out, by rw [HC.out]; have := HT.out; omega,
          b7.of_block (Below.heap_setCell _ _ _ _ (by intro h; have h2 : w.heap.size = w.heap.size + 2 := h; omega)), b8.setCell (p := ⟨w.heap.size + 2, 0, none⟩) (by simp) _, by simpa [World.setCell] using b9⟩
  case done =>
    rintro xs W rfl ⟨rv, x, rest, a1, a2, a3, a4, a5, a6, a7, a8, a9⟩ hW2 hD2
    have hx1 := a1.digAt a2
    have hx2 := a7.digAt hroot
    have heq := run_eql_dig x root a2 hroot
    have hfin : checkL root N j leaf proof = decide (x = root) := by rw [HA.out]; simp only [a5]
    have HF := Lib.hid hfin
    have HS0 := Lib.hid hs0
    clear hfin a1 a7 hs0
    gi_wp2_with (first
      | ((with_reducible refine wpListIn_load_dig (op := ⟨some 53, Op.load 31 (.tmp 8), _, _, _, _⟩) (.tmp 8) (w.heap.size + 1) 0 x ?_ ?_ ?_ ?_ ?_ ?_); rfl; rfl; rfl; exact hx1.1; exact hx1.2)
      | ((with_reducible refine wpListIn_load_dig (op := ⟨some 54, Op.load 31 (.tmp 5), _, _, _, _⟩) (.tmp 5) (w.heap.size) 0 root ?_ ?_ ?_ ?_ ?_ ?_); rfl; rfl; rfl; exact hx2.1; exact hx2.2))
    refine ⟨by simp, .inl ⟨_, _, rfl, run_takeDeferred hD2, ?_⟩⟩
    refine ⟨_, results_tmp rfl _ _ _, by rw [HF.out]; rfl, ?_⟩
    exact a8.grown (grownBy_putObj' _ _ _) a8.size (fun k e => by cases e; have := HS0.out; omega)
  case stop =>
    rintro c pre W _ h _ _
    exact h.elim

end Go.Proofs.YtnohglkilpnjhaaGreatDoor

/- The walk of the document's answer's Depth. No condition. -/
namespace Go.Proofs.YtnohglkilpnjhaaGreatDoor
open Go.RowKit
set_option linter.unusedVariables false
set_option linter.unusedSimpArgs false

theorem cntP_cons (x : Nat × Nat) (l : List (Nat × Nat)) : cntP (x :: l) = (if 0 ≤ besideZ x.1 x.2 then 1 else 0) + cntP l := by
  unfold cntP
  rw [List.countP_cons]
  simp only [decide_eq_true_eq]
  omega

end Go.Proofs.YtnohglkilpnjhaaGreatDoor

/- The walks of the document's answer's Proof, Same and Depth. No condition beyond the arguments' sizes. -/
namespace Go.Proofs.YtnohglkilpnjhaaGreatDoor
open Go.RowKit
set_option linter.unusedVariables false
set_option linter.unusedSimpArgs false

theorem Digs.grown {w w' : World} {row : Option Nat} {v : Value} {l : List (List UInt8)} (h : Digs w v l) (hg : w.grownBy w' row) (hne : ∀ k, v.ownBlock = some k → some k ≠ row) : Digs w' v l := ⟨h.1, h.2.of_kept hg hne⟩
theorem Digs.blk {w : World} {b off n c : Nat} {l : List (List UInt8)} (h : Digs w (.slice (some ⟨b, off, none⟩) n c) l) (h0 : 0 < l.length) : b < w.heap.size := (h.digAt h0).lt

end Go.Proofs.YtnohglkilpnjhaaGreatDoor

/- The walks of Piece, of manifest and of the document's answer: whether bytes are a piece, by a proof. Conditions: the table of constants as the program lays it (manifest's). -/
namespace Go.Proofs.YtnohglkilpnjhaaGreatDoor
open Go.RowKit
set_option linter.unusedVariables false
set_option linter.unusedSimpArgs false
set_option maxRecDepth 100000

def pieceB (x : BlobL) (i : Int) (b : List UInt8) (proof : List (List UInt8)) : Bool :=
  decide ((spanZ x.size x.piece i).2.2 = 0) && decide ((b.length : Int) = (spanZ x.size x.piece i).2.1) && checkL x.root (mcountB x.size x.piece) i (leafL b) proof
theorem span_n (x : BlobL) (i : Int) (h : (spanZ x.size x.piece i).2.2 = 0) : (spanZ x.size x.piece i).2.1 ≤ 16384 := by
  unfold spanZ at *
  split at h
  · simp at h
  · rename_i hc
    rw [if_neg hc]
    obtain ⟨_, _, _, q3, q4⟩ := span_parts (n := x.size) (k := x.piece) (i := i) (by omega) (by omega)
    dsimp only
    omega
theorem mcount_range (x : BlobL) : -9223372036854775808 ≤ mcountB x.size x.piece ∧ mcountB x.size x.piece ≤ 9223372036854775807 := by
  unfold mcountB
  split
  · rename_i h
    obtain ⟨q1, q2, q3, q4, q5⟩ := right_parts h
    have := count_pos q1 q3
    omega
  · omega

set_option maxHeartbeats 3200000 in
theorem Piece_any (x : BlobL) (i : Int) (v : Value) (b : List UInt8) (u : Value) (proof : List (List UInt8)) (w : World) (hx : x.ok) (hi1 : -9223372036854775808 ≤ i) (hi2 : i ≤ 9223372036854775807) (hl : Bytes w v b) (hp : Digs w u proof) (hKc : Consts w) :
    Calls Tryz.prog 31 #[BlobV x, .int .i64 i, v, u] w fun e w' => e = .returned (.bool (pieceB x i b proof)) ∧ Below w.heap.size w w' := by
  obtain ⟨va, vc, hv⟩ := hl.len
  subst hv
  obtain ⟨ua, uc, hv⟩ := hp.len
  subst hv
  have hle := hl.le
  have HL := Lib.hid hl
  have HP := Lib.hid hp
  clear hl hp
  rw [show BlobV x = .agg x.cells.toArray from rfl]
  obtain ⟨E, hE⟩ : ∃ E, pieceB x i b proof = E := ⟨_, rfl⟩
  rw [hE]
  have HE := Lib.hid hE
  clear hE
  have hS := fun w' => Span_any x i w' hx hi1 hi2
  have hC := fun w' => Count_any x w' hx
  have hpe : pieceB x i b proof = (decide ((spanZ x.size x.piece i).2.2 = 0) && decide ((b.length : Int) = (spanZ x.size x.piece i).2.1) && checkL x.root (mcountB x.size x.piece) i (leafL b) proof) := rfl
  have hsn := span_n x i
  have hcr := mcount_range x
  generalize mcountB x.size x.piece = c at hC hpe hcr
  generalize spanZ x.size x.piece i = S at hS hpe hsn
  obtain ⟨s1, s2, s3⟩ := S
  dsimp only at hS hpe hsn
  have HS := Lib.hid hS
  have HC := Lib.hid hC
  have HPE := Lib.hid hpe
  clear hS hC hpe
  go_enter Tryz.func31, Tryz.ntmps31
  go_upto_region 1 with (fail)
  obtain ⟨W, hW⟩ : ∃ W, w.alloc (.cells x.cells.toArray 81) = W := ⟨_, rfl⟩
  have hbo := blob_alloc w hx
  have hb0 : Below w.heap.size w (w.alloc (.cells x.cells.toArray 81)) := (Below.refl _ w).alloc (Nat.le_refl _) _
  rw [hW] at hbo hb0 ⊢
  have HBO0 := Lib.hid hbo
  clear hW hbo
  go_wp2_with ((with_reducible refine wpList_plain (o := ⟨some 13, Op.load 81 _, _, _, _, _⟩) rfl fun K hK => ?_); (refine wp_load_blob (g := w.heap.size) (x := x) rfl rfl HBO0.out (hK _ _ ?_)))
  refine (HS.out W).mono ?_
  rintro e w2 ⟨rfl, hb2⟩
  have hbA := below_next hb0 hb2
  have HBO := Lib.hid (HBO0.out.of_new hb2)
  have hroot := HBO.out.root
  clear hb0 hb2 HBO0
  by_cases h3 : s3 = 0
  · subst h3
    have t0 : ((0 : Int) == 0) = true := rfl
    by_cases h2 : (b.length : Int) = s2
    · have t1 : ((b.length : Int) == s2) = true := beq_iff_eq.2 h2
      have hbl : b.length ≤ 1048576 := by have := hsn rfl; omega
      have hd1 : decide ((b.length : Int) = s2) = true := decide_eq_true h2
      have HPE2 : Hid (pieceB x i b proof = checkL x.root c i (leafL b) proof) := Lib.hid (by rw [HPE.out, hd1]; simp)
      have hLf := fun w' (h : Below w2.heap.size w2 w') => Leaf_any (.slice va b.length vc) b w' (HL.out.of_new (below_next hbA h)) hbl (hKc.of_new (below_next hbA h))
      have hCk := fun w' (h : Below w2.heap.size w2 w') => Check_any x.root (leafL b) c i (.slice ua proof.length uc) proof w' hx.2 (leafL_len b) (HP.out.of_new (below_next hbA h)) (hKc.of_new (below_next hbA h))
      have HLf := Lib.hid hLf
      have HCk := Lib.hid hCk
      clear hLf hCk hd1 h2
      generalize checkL x.root c i (leafL b) proof = R at *
      go_upto_region 2 with (fail)
      refine wp_region_grew (by kernel_rfl) (by kernel_rfl) ?_
      repeat (first
        | (go_big_quiet_want; (with_reducible apply quiet_load_blob (p := .tmp 4)); rfl; rfl; exact HBO.out; go_simp; go_big_quiet_on)
        | (go_big_quiet_want; (with_reducible apply quiet_load_at (ty := 31) (x := .tmp _)); rfl; rfl; assumption; go_simp; go_big_quiet_on)
        | (go_big_quiet_want; apply quiet_val; (intro w' hw'; go_simp; first | done | rfl); go_simp; go_big_quiet_on)
        | (go_big_quiet_want; apply quiet_call (f := 30); (intro w' hw'; go_simp; first | done | rfl); (intro w' hw'; exact Grew.call hw' (HC.out w')); go_simp; go_big_quiet_on)
        | (go_big_quiet_want; apply quiet_call (f := 70); (intro w' hw'; go_simp; first | done | rfl); (intro w' hw'; exact Grew.call hw' (HLf.out w' hw')); go_simp; go_big_quiet_on)
        | (go_big_quiet_want; apply quiet_call (f := 69); (intro w' hw'; go_simp; first | done | rfl); (intro w' hw'; exact Grew.call hw' (HCk.out w' hw')); go_simp; go_big_quiet_on)
        | (go_big_quiet_skip))
      refine wpQuiet_nil ?_
      intro w9 hw9
      go_wp2
      go_ret
      exact ⟨ret_bool (by rw [← HE.out, HPE2.out]), below_next hbA hw9⟩
    · have t1 : ((b.length : Int) == s2) = false := beq_eq_false_iff_ne.2 h2
      have HPE2 : Hid (pieceB x i b proof = false) := Lib.hid (by rw [HPE.out, decide_eq_false h2]; simp)
      clear h2
      go_upto_region 2 with (fail)
      refine wp_region_grew (by kernel_rfl) (by kernel_rfl) ?_
      repeat (first
        | (go_big_quiet_want; (with_reducible apply quiet_load_at (ty := 31) (x := .tmp _)); rfl; rfl; assumption; go_simp; go_big_quiet_on)
        | (go_big_quiet_want; apply quiet_val; (intro w' hw'; go_simp; first | done | rfl); go_simp; go_big_quiet_on)
        | (go_big_quiet_skip))
      refine wpQuiet_nil ?_
      intro w9 hw9
      go_wp2
      go_ret
      exact ⟨ret_bool (by rw [← HE.out, HPE2.out]), below_next hbA hw9⟩
  · have t0 : (s3 == 0) = false := beq_eq_false_iff_ne.2 h3
    have HPE2 : Hid (pieceB x i b proof = false) := Lib.hid (by rw [HPE.out, decide_eq_false h3]; simp)
    clear h3
    go_upto_region 2 with (fail)
    refine wp_region_grew (by kernel_rfl) (by kernel_rfl) ?_
    repeat (first
      | (go_big_quiet_want; (with_reducible apply quiet_load_at (ty := 31) (x := .tmp _)); rfl; rfl; assumption; go_simp; go_big_quiet_on)
      | (go_big_quiet_want; apply quiet_val; (intro w' hw'; go_simp; first | done | rfl); go_simp; go_big_quiet_on)
      | (go_big_quiet_skip))
    refine wpQuiet_nil ?_
    intro w9 hw9
    go_wp2
    go_ret
    exact ⟨ret_bool (by rw [← HE.out, HPE2.out]), below_next hbA hw9⟩

end Go.Proofs.YtnohglkilpnjhaaGreatDoor

/- Where a leaf leads to the root, in plain Lean: the proof of a leaf leads there; what leads there is the leaf, or two unlike pairs have one Node. No condition. -/
namespace Go.Proofs.YtnohglkilpnjhaaGreatDoor
set_option linter.unusedVariables false

theorem upP_cons' (n i : Nat) (r : List (Nat × Nat)) (x : List UInt8) (p : List (List UInt8)) : upP ((n, i) :: r) x p = if besideZ n i < 0 then upP r x p else if i % 2 = 1 then upP r (nodeL (p.getD 0 []) x) p.tail else upP r (nodeL x (p.getD 0 [])) p.tail := rfl

/-- The place of a row above where a leaf's Node stands. -/
theorem above_odd {l : List (List UInt8)} {i : Nat} (h : i < l.length) (ho : i % 2 = 1) : (aboveL l).getD (i / 2) [] = nodeL (l.getD (i - 1) []) (l.getD i []) := by
  rw [aboveL_at l (i / 2) (by omega), show 2 * (i / 2) = i - 1 by omega, show i - 1 + 1 = i by omega]
theorem above_even {l : List (List UInt8)} {i : Nat} (h : i + 1 < l.length) (ho : ¬ i % 2 = 1) : (aboveL l).getD (i / 2) [] = nodeL (l.getD i []) (l.getD (i + 1) []) := by
  rw [aboveL_at l (i / 2) (by omega), show 2 * (i / 2) = i by omega]
theorem above_end {l : List (List UInt8)} {i : Nat} (h : i < l.length) (ho : ¬ i % 2 = 1) (he : ¬ i + 1 < l.length) : (aboveL l).getD (i / 2) [] = l.getD i [] := by
  have := aboveL_last l (by omega)
  rw [show l.length / 2 = i / 2 by omega, show l.length - 1 = i by omega] at this
  exact this
theorem besideZ_odd {n i : Nat} (h : i < n) (ho : i % 2 = 1) : besideZ n i = ((i - 1 : Nat) : Int) := by unfold besideZ; rw [if_pos ho]; omega
theorem besideZ_even {n i : Nat} (h : i + 1 < n) (ho : ¬ i % 2 = 1) : besideZ n i = ((i + 1 : Nat) : Int) := by unfold besideZ; rw [if_neg ho, if_pos h]; omega
theorem besideZ_end {n i : Nat} (h : ¬ i + 1 < n) (ho : ¬ i % 2 = 1) : besideZ n i = -1 := by unfold besideZ; rw [if_neg ho, if_neg h]

/-- The proof of a leaf leads to the root. -/
theorem leads (n : Nat) : ∀ (l : List (List UInt8)) (i : Nat), l.length ≤ n → i < l.length → l.length ≤ 1024 → (upP (walkN l.length i) (l.getD i []) (proofL l i)).1 = rootL l := by
  induction n with
  | zero => intro l i h1 h2; omega
  | succ n ih =>
    intro l i h1 h2 h3
    by_cases h : 1 < l.length
    · have h4 := ih (aboveL l) (i / 2) (by rw [aboveL_len]; omega) (by rw [aboveL_len]; omega) (by rw [aboveL_len]; omega)
      rw [aboveL_len] at h4
      rw [walkN_step h h3, upP_cons', proofL_step h, rootL_step h, ← h4]
      unfold stepP
      by_cases ho : i % 2 = 1
      · rw [besideZ_odd h2 ho, if_neg (by omega), if_pos ho, if_pos (by omega), above_odd h2 ho]
        simp only [Int.toNat_natCast, List.singleton_append, List.getD_cons_zero, List.tail_cons]
      · by_cases he : i + 1 < l.length
        · rw [besideZ_even he ho, if_neg (by omega), if_neg ho, if_pos (by omega), above_even he ho]
          simp only [Int.toNat_natCast, List.singleton_append, List.getD_cons_zero, List.tail_cons]
        · rw [besideZ_end he ho, if_pos (by omega), if_neg (by omega), above_end h2 ho he]
          rfl
    · rw [walkN_end (by omega), rootL_one (by omega)]
      obtain rfl : i = 0 := by omega
      rfl

end Go.Proofs.YtnohglkilpnjhaaGreatDoor

/- The plain half of the law ManifestSound: where bytes are told as a piece they have the piece's length, and the piece's leaf, or two unlike pairs have one Node, and are found. No condition. -/
namespace Go.Proofs.YtnohglkilpnjhaaGreatDoor
open Go.RowKit
set_option linter.unusedVariables false

theorem leaves_at {b : List UInt8} {k j : Nat} (h : j < (leavesL b k).length) : (leavesL b k).getD j [] = leafL ((b.drop (j * k)).take k) := by
  rw [leavesL_len] at h
  unfold leavesL chunksL
  simp [List.getD, h]

end Go.Proofs.YtnohglkilpnjhaaGreatDoor

/- The plain half of the law ManifestBack: each piece of a blob is told as its piece, by its proof. No condition. -/
namespace Go.Proofs.YtnohglkilpnjhaaGreatDoor
open Go.RowKit
set_option linter.unusedVariables false
set_option linter.unusedSimpArgs false

theorem proofL_count (n : Nat) : ∀ (l : List (List UInt8)) (i : Nat), l.length ≤ n → i < l.length → l.length ≤ 1024 → (proofL l i).length = cntP (walkN l.length i) := by
  induction n with
  | zero => intro l i h1 h2; omega
  | succ n ih =>
    intro l i h1 h2 h3
    by_cases h : 1 < l.length
    · rw [proofL_step h, walkN_step h h3, cntP_cons, List.length_append, ih (aboveL l) (i / 2) (by rw [aboveL_len]; omega) (by rw [aboveL_len]; omega) (by rw [aboveL_len]; omega), aboveL_len]
      unfold stepP
      split <;> simp
    · rw [proofL_end (by omega) i h2, walkN_end (by omega)]
      rfl
theorem depth_proof (l : List (List UInt8)) (i : Nat) (h : i < l.length) (hl : l.length ≤ 1024) : depthZ (l.length : Int) (i : Int) = (proofL l i).length := by
  rw [proofL_count _ l i (Nat.le_refl _) h hl]
  unfold depthZ
  rw [if_pos (by simp [rightB]; omega)]
  simp

theorem check_leads {l : List (List UInt8)} {i : Nat} (h : i < l.length) (hl : l.length ≤ 1024) : checkL (rootL l) (l.length : Int) (i : Int) (l.getD i []) (proofL l i) = true := by
  unfold checkL
  have h1 : rightB (l.length : Int) (i : Int) = true := by simp [rightB]; omega
  rw [h1, depth_proof l i h hl]
  have := leads _ l i (Nat.le_refl _) h hl
  simp only [Int.toNat_natCast, this, decide_true, Bool.and_self]

theorem piece_back {b : List UInt8} {kn j : Nat} (hr : mrightB b.length (kn : Int) = true) (hj : j < (leavesL b kn).length) :
    spanZ b.length kn (j : Int) = (((j * kn : Nat) : Int), ((min kn (b.length - j * kn) : Nat) : Int), 0) ∧ j * kn + min kn (b.length - j * kn) ≤ b.length ∧
      pieceB ⟨sumL b, b.length, kn, rootL (leavesL b kn)⟩ (j : Int) ((b.drop (j * kn)).take (min kn (b.length - j * kn))) (proofL (leavesL b kn) j) = true := by
  obtain ⟨q1, q2, q3, q4, q5⟩ := right_parts hr
  have hfew := leaves_few hr
  simp only [Int.toNat_natCast] at *
  have hcnt := count_nat (b := b) (n := kn) (by omega)
  have hll := leavesL_len b kn
  have hmc : mcountB b.length kn = ((leavesL b kn).length : Int) := by unfold mcountB; rw [if_pos hr, hll]; exact hcnt.symm
  have hs : ¬ ((j : Int) < 0 ∨ mcountB b.length kn ≤ (j : Int)) := by omega
  have hsp : spanZ b.length kn (j : Int) = ((j : Int) * kn, min (kn : Int) (b.length - (j : Int) * kn), 0) := by unfold spanZ; rw [if_neg hs]
  obtain ⟨e1, e2, _⟩ := span_parts (n := (b.length : Int)) (k := (kn : Int)) (i := (j : Int)) (by omega) (by omega)
  have hjk : ((j : Int) * (kn : Int)) = ((j * kn : Nat) : Int) := by simp
  rw [hjk] at hsp e1 e2
  have hmin : min (kn : Int) ((b.length : Int) - ((j * kn : Nat) : Int)) = ((min kn (b.length - j * kn) : Nat) : Int) := by omega
  rw [hmin] at hsp
  refine ⟨hsp, by omega, ?_⟩
  unfold pieceB
  dsimp only
  rw [hsp, hmc]
  have hleaf := leaves_at hj
  have e : (b.drop (j * kn)).take kn = (b.drop (j * kn)).take (min kn (b.length - j * kn)) := by
    rcases Nat.le_total kn (b.length - j * kn) with h | h
    · rw [Nat.min_eq_left h]
    · rw [Nat.min_eq_right h, List.take_of_length_le (by simp; omega), List.take_of_length_le (by simp)]
  rw [e] at hleaf
  rw [← hleaf, check_leads hj hfew]
  simp

/-! ### An image that may be has bytes -/

theorem img_check : ∀ (l : List BlobL) (i : Nat) (last : Int), last ≤ i → i + l.length ≤ 63 → checkF (imgItsF i l) last = some (imgItsF i l)
  | [], _, _, _, _ => rfl
  | x :: l, i, last, h1, h2 => by
    simp only [List.length_cons] at h2
    simp only [imgItsF, checkF]
    rw [if_neg (by omega), img_check l (i + 1) _ (Int.le_refl _) (by omega)]
    rfl
theorem blobB_len {x : BlobL} (hx : x.ok) (h : mrightB x.size x.piece = true) : (blobB x).length ≤ 150 := by
  have hb := right_bd h
  have u1 := uint_len 2 x.size.toNat (by omega)
  have u2 := uint_len 2 x.piece.toNat (by omega)
  rw [flat_blob]
  have e1 := uint_len10 (n := x.dig.length) (by rw [hx.1]; omega)
  have e2 := uint_len10 (n := (uint x.size.toNat).length) (by omega)
  have e3 := uint_len10 (n := (uint x.piece.toNat).length) (by omega)
  have e4 := uint_len10 (n := x.root.length) (by rw [hx.2]; omega)
  simp only [itB, List.length_append, List.length_cons, hx.1, hx.2] at *
  omega
theorem img_len : ∀ (l : List BlobL) (i : Nat), (∀ x ∈ l, x.ok) → (∀ x ∈ l, mrightB x.size x.piece = true) → (flatB (imgItsF i l)).length ≤ l.length * 200
  | [], _, _, _ => by simp [imgItsF, flatB]
  | x :: l, i, h1, h2 => by
    have := img_len l (i + 1) (fun y hy => h1 y (by simp [hy])) (fun y hy => h2 y (by simp [hy]))
    have hb := blobB_len (h1 x (by simp)) (h2 x (by simp))
    have e := uint_len10 (n := (blobB x).length) (by omega)
    simp only [imgItsF, flatB_cons, itB, List.length_append, List.length_cons]
    omega
theorem encG_some {l : List BlobL} (h : imageE l = 0) (ho : ∀ x ∈ l, x.ok) : encG l = some (flatB (imgIts l)) ∧ (flatB (imgIts l)).length ≤ 3200 := by
  have hr := image_rights h
  have hl : l.length ≤ 16 := by
    unfold imageE at h
    split at h
    · cases h
    · rename_i hc; omega
  have h3 := img_len l 0 ho hr
  have := encF_of (imgItsF 0 l) 0 [] (img_check l 0 0 (by omega) (by omega)) (by rw [List.nil_append]; omega)
  refine ⟨?_, by unfold imgIts; omega⟩
  unfold encG
  rw [if_pos h]
  simpa [encL, imgIts] using this
theorem image_one {y : BlobL} (h : mrightB y.size y.piece = true) : imageE [y] = 0 := by
  unfold imageE rightsB digs
  rw [if_neg (by simp [h]), if_pos (by simp)]

end Go.Proofs.YtnohglkilpnjhaaGreatDoor

/- Numbers that look like chance, and a list in another order, in plain Lean. No condition. -/
namespace Go.Proofs.YtnohglkilpnjhaaGreatDoor
set_option linter.unusedVariables false
set_option linter.unusedSimpArgs false

def mix1 (z : Nat) : Nat := ((z ^^^ (z / 1073741824)) * 13787848793156543929) % 18446744073709551616
def mix2 (z : Nat) : Nat := ((z ^^^ (z / 134217728)) * 10723151780598845931) % 18446744073709551616
def mix3 (z : Nat) : Nat := z ^^^ (z / 2147483648)
def mixN (z : Nat) : Nat := mix3 (mix2 (mix1 z))
def nextN (s : Nat) : Nat := (s + 11400714819323198485) % 18446744073709551616
def belowN (s n : Nat) : Nat := mixN (nextN s) * n / 18446744073709551616
def swapL (l : List Int) (i k : Nat) : List Int := (l.set i (l.getD k 0)).set k (l.getD i 0)
/-- Places i, i - 1 .. 1 each get the number of a place not behind them. -/
def shufF : Nat → Nat → List Int → List Int
  | 0, _, l => l
  | i + 1, s, l => shufF i (nextN s) (swapL l (i + 1) (belowN s (i + 2)))
def shufL (s : Nat) (l : List Int) : List Int := shufF (l.length - 1) s l
def sampleL (s : Nat) (l : List Int) (k : Int) : List Int := (shufL s l).take (max 0 (min k l.length)).toNat

theorem mix_lt (z : Nat) : mixN z < 18446744073709551616 := by
  unfold mixN
  generalize mix1 z = a
  have h : mix2 a < 18446744073709551616 := Nat.mod_lt _ (by decide)
  generalize mix2 a = b at *
  exact Nat.xor_lt_two_pow (n := 64) h (by omega)
theorem next_lt (s : Nat) : nextN s < 18446744073709551616 := Nat.mod_lt _ (by decide)
theorem below_lt (s n : Nat) (h : 0 < n) : belowN s n < n := by
  unfold belowN
  have := mix_lt (nextN s)
  refine (Nat.div_lt_iff_lt_mul (by decide)).2 ?_
  rw [Nat.mul_comm n]
  exact Nat.mul_lt_mul_of_pos_right this h
theorem swapL_len (l : List Int) (i k : Nat) : (swapL l i k).length = l.length := by simp [swapL]
theorem swapL_perm (l : List Int) {i k : Nat} (hi : i < l.length) (hk : k < l.length) : (swapL l i k).Perm l := by
  unfold swapL
  rw [List.perm_iff_count]
  intro a
  have e1 : l.getD k 0 = l[k] := by simp [List.getD, hk]
  have e2 : l.getD i 0 = l[i] := by simp [List.getD, hi]
  rw [e1, e2]
  rw [List.count_set (by simpa using hk), List.count_set hi, List.getElem_set]
  have c1 : (l[i] == a) = true → 0 < List.count a l := fun h => List.count_pos_iff.2 (by rw [← beq_iff_eq.1 h]; exact List.getElem_mem _)
  have c2 : (l[k] == a) = true → 0 < List.count a l := fun h => List.count_pos_iff.2 (by rw [← beq_iff_eq.1 h]; exact List.getElem_mem _)
  by_cases hik : i = k
  · subst hik
    simp only [if_true]
    by_cases h1 : (l[i] == a) = true
    · have := c1 h1
      simp only [h1, if_true]; omega
    · simp only [h1]; simp
  · rw [if_neg hik]
    by_cases h1 : (l[i] == a) = true <;> by_cases h2 : (l[k] == a) = true
    · have := c1 h1
      simp only [h1, h2, if_true]; omega
    · have := c1 h1
      simp only [h1, h2, if_true]; simp <;> omega
    · have := c2 h2
      simp only [h1, h2, if_true]; simp <;> omega
    · simp only [h1, h2]; simp
theorem shufF_perm : ∀ (i s : Nat) (l : List Int), i < l.length ∨ i = 0 → (shufF i s l).Perm l
  | 0, _, l, _ => List.Perm.refl _
  | i + 1, s, l, h => by
    have hi : i + 1 < l.length := by omega
    have hb := below_lt s (i + 2) (by omega)
    rw [shufF]
    exact (shufF_perm i _ _ (.inl (by rw [swapL_len]; omega))).trans (swapL_perm l hi (by omega))
theorem shufL_perm (s : Nat) (l : List Int) : (shufL s l).Perm l := shufF_perm _ _ _ (by omega)

end Go.Proofs.YtnohglkilpnjhaaGreatDoor

/- The walks of package draw's Next and Below. No condition. -/
namespace Go.Proofs.YtnohglkilpnjhaaGreatDoor
open Go.RowKit
set_option linter.unusedVariables false
set_option linter.unusedSimpArgs false
set_option maxRecDepth 100000

/-- A source's block. -/
def SrcO (w : World) (g s : Nat) : Prop := One w g (.int .u64 (s : Int)) 224 ∧ s < 18446744073709551616

/-- The steps of the mix, as a walk meets them. -/
theorem mix_facts (S : Nat) (hS : S < 18446744073709551616) : ∃ X M Y N : Nat, bits .xor .u64 (S : Int) ((S : Int) / 1073741824) = (X : Int) ∧ IntKind.u64.wrap ((X : Int) * 13787848793156543929) = (M : Int) ∧ bits .xor .u64 (M : Int) ((M : Int) / 134217728) = (Y : Int) ∧
    IntKind.u64.wrap ((Y : Int) * 10723151780598845931) = (N : Int) ∧ bits .xor .u64 (N : Int) ((N : Int) / 2147483648) = (mixN S : Int) := by
  have hM : mix1 S < 18446744073709551616 := Nat.mod_lt _ (by decide)
  have hN : mix2 (mix1 S) < 18446744073709551616 := Nat.mod_lt _ (by decide)
  refine ⟨S ^^^ (S / 1073741824), mix1 S, mix1 S ^^^ (mix1 S / 134217728), mix2 (mix1 S), ?_, ?_, ?_, ?_, ?_⟩
  · rw [← bits_xor_u64_nat S (S / 1073741824) hS (by omega)]; congr 1
  · rw [IntKind.wrap_u64]; unfold mix1; omega
  · rw [← bits_xor_u64_nat (mix1 S) (mix1 S / 134217728) hM (by omega)]; congr 1
  · rw [IntKind.wrap_u64]; unfold mix2; omega
  · have := bits_xor_u64_nat (mix2 (mix1 S)) (mix2 (mix1 S) / 2147483648) hN (by omega)
    unfold mixN mix3
    rw [← this]; congr 1

set_option maxHeartbeats 1600000 in
theorem Next_any (g s : Nat) (w : World) (hs : SrcO w g s) :
    Calls Tryz.prog 185 #[.pointer (some ⟨g, 0, none⟩)] w fun e w' => e = .returned (.int .u64 (mixN (nextN s) : Nat)) ∧ SrcO w' g (nextN s) ∧ w.grownBy w' (some g) ∧ w'.heap.size = w.heap.size := by
  obtain ⟨ho, hlt⟩ := hs
  have hc := ho.cell
  have hf := ho.free
  go_enter Tryz.func185, Tryz.ntmps185
  go_upto_region 2 with (fail)
  generalize hW : World.setCell w _ _ = W1
  obtain ⟨h1, hg, hz⟩ : SrcO W1 g (nextN s) ∧ w.grownBy W1 (some g) ∧ W1.heap.size = w.heap.size := by
    subst hW
    have e : ∀ x : Int, x = ((nextN s : Nat) : Int) → SrcO (w.setCell ⟨g, 0, none⟩ (.int .u64 x)) g (nextN s) := fun x hx => by rw [hx]; exact ⟨ho.set _, next_lt s⟩
    refine ⟨e _ ?_, ⟨rfl, rfl, rfl, by simp, fun k hk hne => Below.heap_setCell _ _ _ _ (fun q => hne (by rw [q]))⟩, by simp⟩
    rw [IntKind.wrap_u64]
    unfold nextN
    omega
  clear hW hc hf ho
  have hc1 := h1.1.cell
  obtain ⟨S, hSe⟩ : ∃ S, nextN s = S := ⟨_, rfl⟩
  rw [hSe] at h1 hc1
  obtain ⟨X, M, Y, N, x1, m1, x2, m2, x3⟩ := mix_facts S h1.2
  obtain ⟨Z, hZ⟩ : ∃ Z, mixN S = Z := ⟨_, rfl⟩
  rw [hZ] at x3
  have HSE := Lib.hid hSe
  have HMX := Lib.hid hZ
  have H1 := Lib.hid h1
  have HG := Lib.hid hg
  have HZ := Lib.hid hz
  clear hZ h1 hg hz hSe
  go_wp2
  go_ret
  exact ⟨by rw [HSE.out, HMX.out]; rfl, by rw [HSE.out]; exact H1.out, HG.out, HZ.out⟩

theorem maskN11 (a : Nat) (ha : a < 18446744073709551616) : bits .and .u64 (a : Int) 4294967295 = ((a % 4294967296 : Nat) : Int) := by
  have h := bits_and_u64_nat a 4294967295 ha (by omega)
  have e : a &&& 4294967295 = a % 4294967296 := Nat.and_two_pow_sub_one_eq_mod a 32
  rw [e] at h
  exact h
theorem divN11 (a : Nat) : (a : Int) / 4294967296 = ((a / 4294967296 : Nat) : Int) := by omega
theorem mulN11 (a b : Nat) : (a : Int) * (b : Int) = ((a * b : Nat) : Int) := (Int.natCast_mul a b).symm
theorem addN11 (a b : Nat) : (a : Int) + (b : Int) = ((a + b : Nat) : Int) := (Int.natCast_add a b).symm
theorem wrapN11 (a : Nat) (ha : a < 18446744073709551616) : IntKind.u64.wrap (a : Int) = (a : Int) := by rw [IntKind.wrap_u64]; omega
theorem wrapM11 (a : Nat) : IntKind.u64.wrap (a : Int) = ((a % 18446744073709551616 : Nat) : Int) := by rw [IntKind.wrap_u64]; omega

set_option maxHeartbeats 1600000 in
theorem Mul64_any (x y : Nat) (hx : x < 18446744073709551616) (hy : y < 18446744073709551616) (w : World) :
    Calls Tryz.prog 184 #[.int .u64 x, .int .u64 y] w fun e w' => e = .returned (.tuple #[.int .u64 ((x * y / 18446744073709551616 : Nat) : Int), .int .u64 ((x * y % 18446744073709551616 : Nat) : Int)]) ∧ w' = w := by
  obtain ⟨bd, bt, bw, hhi⟩ := Lib.mul64_hi x y hx hy
  have ba := Lib.half_mul_le (a := x / 4294967296) (b := y / 4294967296) (by omega) (by omega)
  have bb := Lib.half_mul_le (a := x / 4294967296) (b := y % 4294967296) (by omega) (by omega)
  have bc := Lib.half_mul_le (a := x % 4294967296) (b := y / 4294967296) (by omega) (by omega)
  have ba' : x / 4294967296 * (y / 4294967296) < 18446744073709551616 := by omega
  have bb' : x / 4294967296 * (y % 4294967296) < 18446744073709551616 := by omega
  have bc' : x % 4294967296 * (y / 4294967296) < 18446744073709551616 := by omega
  have bh1 : x / 4294967296 * (y / 4294967296) + (x / 4294967296 * (y % 4294967296) + x % 4294967296 * (y % 4294967296) / 4294967296) / 4294967296 < 18446744073709551616 := by omega
  have bh : x / 4294967296 * (y / 4294967296) + (x / 4294967296 * (y % 4294967296) + x % 4294967296 * (y % 4294967296) / 4294967296) / 4294967296 + ((x / 4294967296 * (y % 4294967296) + x % 4294967296 * (y % 4294967296) / 4294967296) % 4294967296 + x % 4294967296 * (y / 4294967296)) / 4294967296 < 18446744073709551616 := by omega
  go_enter Tryz.func184, Tryz.ntmps184
  go_wp2
  simp only [maskN11 x hx, maskN11 y hy, divN11, mulN11, addN11, wrapN11 _ bd, wrapN11 _ bb', wrapN11 _ bt, maskN11 _ bt, wrapN11 _ bc', wrapN11 _ bw, wrapN11 _ ba', wrapN11 _ bh1, wrapN11 _ bh, wrapM11 (x * y)]
  rw [hhi]
  go_ret2
  exact ⟨rfl, rfl⟩

set_option maxHeartbeats 1600000 in
theorem Below_any (g s n : Nat) (w : World) (hs : SrcO w g s) (hn : n < 18446744073709551616) :
    Calls Tryz.prog 172 #[.pointer (some ⟨g, 0, none⟩), .int .u64 (n : Int)] w fun e w' => e = .returned (.int .u64 (belowN s n : Nat)) ∧ SrcO w' g (nextN s) ∧ w.grownBy w' (some g) ∧ w'.heap.size = w.heap.size := by
  have hN := Next_any g s w hs
  have hM := fun w' => Mul64_any (mixN (nextN s)) n (mix_lt _) hn w'
  have hb : mixN (nextN s) * n / 18446744073709551616 = belowN s n := rfl
  rw [hb] at hM
  obtain ⟨B, hB⟩ : ∃ B, belowN s n = B := ⟨_, rfl⟩
  rw [hB] at hM
  obtain ⟨X, hX⟩ : ∃ X, mixN (nextN s) = X := ⟨_, rfl⟩
  rw [hX] at hM hN
  have HN := Lib.hid hN
  have HM := Lib.hid hM
  have HB := Lib.hid hB
  clear hN hM hb hB hX
  go_enter Tryz.func172, Tryz.ntmps172
  go_wp2_with (first
    | (go_at_call 185; refine HN.out.mono ?_; rintro e w1 ⟨rfl, h1, hg1, hz1⟩; have H1 := Lib.hid h1; have HG1 := Lib.hid hg1; have HZ1 := Lib.hid hz1; clear h1 hg1 hz1)
    | (go_at_call 184; refine (HM.out _).mono ?_; rintro e w2 ⟨rfl, rfl⟩))
  go_ret
  exact ⟨by rw [HB.out]; rfl, H1.out, HG1.out, HZ1.out⟩

end Go.Proofs.YtnohglkilpnjhaaGreatDoor

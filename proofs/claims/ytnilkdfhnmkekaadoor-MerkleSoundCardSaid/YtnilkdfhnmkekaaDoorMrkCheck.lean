/- The walk of merkle.Check. Condition: the table of constants as the program lays it. -/
import Derived.Test.YtnilkdfhnmkekaaDoorMrkDepth
import Derived.Test.YtnilkdfhnmkekaaDoorMrkProof
import Derived.Test.YtnilkdfhnmkekaaDoorMrkLawHalves
namespace Go.Proofs.YtnilkdfhnmkekaaDoor
open Go.RowKit Go.Shelf
attribute [local go_sem] Oper.semAt_some
set_option linter.unusedVariables false
set_option linter.unusedSimpArgs false

/-- What a leaf and the hashes lead to, on the way through places. -/
def upP : List (Nat × Nat) → List UInt8 → List (List UInt8) → List UInt8 × List (List UInt8)
  | [], x, p => (x, p)
  | (n, i) :: r, x, p => if besideZ n i < 0 then upP r x p else if i % 2 = 1 then upP r (nodeL (p.getD 0 []) x) p.tail else upP r (nodeL x (p.getD 0 [])) p.tail
theorem upP_snoc (r : List (Nat × Nat)) (n i : Nat) (x : List UInt8) (p : List (List UInt8)) {y : List UInt8} {q : List (List UInt8)} (h : upP r x p = (y, q)) :
    upP (r ++ [(n, i)]) x p = if besideZ n i < 0 then (y, q) else if i % 2 = 1 then (nodeL (q.getD 0 []) y, q.tail) else (nodeL y (q.getD 0 []), q.tail) := by
  induction r generalizing x p with
  | nil =>
    simp only [upP, Prod.mk.injEq] at h
    obtain ⟨rfl, rfl⟩ := h
    simp only [List.nil_append, upP]
  | cons a r ih =>
    obtain ⟨a, b⟩ := a
    simp only [upP] at h
    simp only [List.cons_append, upP]
    split at h
    · rename_i h1; rw [if_pos h1]; exact ih _ _ h
    · rename_i h1
      rw [if_neg h1]
      split at h
      · rename_i h2; rw [if_pos h2]; exact ih _ _ h
      · rename_i h2; rw [if_neg h2]; exact ih _ _ h
def checkL (root : List UInt8) (n i : Int) (leaf : List UInt8) (proof : List (List UInt8)) : Bool :=
  rightB n i && decide (proof.length = depthZ n i) && decide ((upP (walkN n.toNat i.toNat) leaf proof).1 = root)

theorem wp_store_dig {w : World} {op : Oper} {a : Act} {K : Act → World → Prop} {Q : Exit → Act → World → Prop} (x y : Operand) (g : Nat) (old d : List UInt8) (ho : op.op = .store 25 x y)
    (hx : a.eval x = .pointer (some ⟨g, 0, none⟩)) (hy : a.eval y = .agg (d.map B8).toArray) (hg : Octs w g 25 old) (h1 : old.length = 32) (h2 : d.length = 32)
    (h : ∀ w', Octs w' g 25 d → w.grownBy w' (some g) → K (a.put op.dst undef) w') : op.wp Tryd.prog a w K Q := by
  have hrun := run_storeVar_row (P := Tryd.prog) w g 25 25 _ (d.map B8).toArray hg (by rw [info_dig]; simp [h2]) (by simp [h1, h2]) (octs_one d)
  unfold Oper.wp execOp
  simp only [ho, hx, hy, Instr.storeAt, Instr.sureAddr, Sem.run_bind, Sem.run_pure, Result.andThen_ok, hrun]
  exact h _ (setRow_heap _ _ _ _ _ _ hg) (grown_setRow _ _ _)

theorem right_below (n i : Int) (w : World) : Calls Tryd.prog 32 #[.int .i64 n, .int .i64 i] w fun e w' => e = .returned (.bool (rightB n i)) ∧ Below w.heap.size w w' :=
  (right_any n i w).mono fun _ _ ⟨he, hw⟩ => ⟨he, by rw [hw]; exact Below.refl _ _⟩

/-- What holds ahead of each round. -/
def CheckI (w : World) (root leaf : List UInt8) (proof : List (List UInt8)) (pre : List (Nat × Nat)) (W : World) : Prop :=
  ∃ (rv : Value) (x : List UInt8) (rest : List (List UInt8)), Octs W (w.heap.size + 1) 25 x ∧ x.length = 32 ∧ One W (w.heap.size + 2) rv 22 ∧ Digs w rv rest ∧ upP pre leaf proof = (x, rest) ∧
    rest.length + cntP pre = proof.length ∧ Octs W w.heap.size 25 root ∧ Below w.heap.size w W ∧ w.heap.size + 3 ≤ W.heap.size

set_option maxRecDepth 100000 in
set_option maxHeartbeats 3200000 in
theorem Check_any (root leaf : List UInt8) (n i : Int) (v : Value) (proof : List (List UInt8)) (w : World) (hroot : root.length = 32) (hleaf : leaf.length = 32) (hp : Digs w v proof) (hK : Consts w) :
    Calls Tryd.prog 25 #[.agg (root.map B8).toArray, .int .i64 n, .int .i64 i, .agg (leaf.map B8).toArray, v] w fun e w' => e = .returned (.bool (checkL root n i leaf proof)) ∧ Below w.heap.size w w' := by
  obtain ⟨va, vc, hv⟩ := hp.len
  subst hv
  have hle := hp.le
  unfold maxLen at hle
  have hgd := guard_dig
  refine (callsIn_wide (n := 3)).1 ?_
  refine callsIn_of_wp_marks Tryd.func25 rfl trivial ?_ rfl
  simp only [Tryd.ntmps25, List.size_toArray, List.length_cons, List.length_nil, Nat.reduceAdd, Nat.reduceSub, Array.replicate_succ, Array.replicate_zero, List.push_toArray, List.append_toArray, List.nil_append, List.cons_append]
  gi_wp2
  generalize hW1 : ((w.alloc _).alloc _).alloc _ = W1
  obtain ⟨hsz, hb1, o1, o2, o3⟩ : W1.heap.size = w.heap.size + 3 ∧ Below w.heap.size w W1 ∧ Octs W1 w.heap.size 25 root ∧ Octs W1 (w.heap.size + 1) 25 leaf ∧ One W1 (w.heap.size + 2) (.slice va proof.length vc) 22 := by
    subst hW1
    refine ⟨by simp, (((Below.refl _ w).alloc (Nat.le_refl _) _).alloc (by simp) _).alloc (by simp; omega) _, ?_, ?_, ?_⟩
    · exact (Below.heap_alloc _ _ _ (by simp; omega)).trans ((Below.heap_alloc _ _ _ (by simp)).trans (heap_alloc_new _ _))
    · refine (Below.heap_alloc _ _ _ (by simp)).trans ?_
      have := heap_alloc_new (w.alloc (.cells (root.map B8).toArray 25)) (.cells (leaf.map B8).toArray 25)
      rwa [World.size_alloc] at this
    · have := heap_alloc_new ((w.alloc (.cells (root.map B8).toArray 25)).alloc (.cells (leaf.map B8).toArray 25)) (.cells #[.slice va proof.length vc] 22)
      rwa [World.size_alloc, World.size_alloc] at this
  clear hW1
  have hr := right_below n i
  have hD := Depth_any n i
  have hcl : checkL root n i leaf proof = (rightB n i && decide (proof.length = depthZ n i) && decide ((upP (walkN n.toNat i.toNat) leaf proof).1 = root)) := rfl
  have hdz : depthZ n i = if rightB n i then cntP (walkN n.toNat i.toNat) else 0 := rfl
  have hrb : rightB n i = decide (n ≥ 1 ∧ n ≤ 1024 ∧ i ≥ 0 ∧ i < n) := rfl
  have hcov : ∀ w2, Grew W1 w2 → w2.cell? ⟨w.heap.size + 1 + 1, 0, none⟩ = some (.slice va proof.length vc) := fun w2 h => (o3.of_new h).cell
  rcases hrb2 : rightB n i with _ | _
  · rw [hrb2] at hr hcl hdz
    have HCL := Lib.hid hcl
    clear hcl hdz hrb hrb2
    refine wpIn_wide.2 (wp_region_grew (by kernel_rfl) (by kernel_rfl) ?_)
    repeat (first
      | (go_big_quiet_want; (with_reducible apply quiet_load_at (ty := 25) (x := .tmp _)); rfl; rfl; assumption; go_simp; go_big_quiet_on)
      | (go_big_quiet_want; apply quiet_val; (intro w' hw'; go_simp; first | done | rfl); go_simp; go_big_quiet_on)
      | (go_big_quiet_want; apply quiet_call (f := 32); (intro w' hw'; go_simp; first | done | rfl); (intro w' hw'; exact Grew.call hw' (hr w')); go_simp; go_big_quiet_on)
      | (go_big_quiet_skip))
    refine wpQuiet_nil ?_
    intro w5 hw5
    gi_wp2
    refine ⟨_, results_tmp rfl _ _ _, by rw [HCL.out]; rfl, ?_⟩
    exact below_next' hb1 hw5
  rw [hrb2] at hr hcl hdz
  by_cases hpd : proof.length = depthZ n i
  case neg =>
    have t1 : ((proof.length : Int) != (depthZ n i : Int)) = true := by simp; omega
    have ha : checkL root n i leaf proof = false := by rw [hcl]; simp [hpd]
    have HA := Lib.hid ha
    clear hcl hdz hrb hrb2 ha hpd
    generalize depthZ n i = D at *
    refine wpIn_wide.2 (wp_region_grew (by kernel_rfl) (by kernel_rfl) ?_)
    repeat (first
      | (go_big_quiet_want; (with_reducible apply quiet_load_at (ty := 25) (x := .tmp _)); rfl; rfl; assumption; go_simp; go_big_quiet_on)
      | (go_big_quiet_want; apply quiet_val; (intro w' hw'; go_simp; first | done | rfl); go_simp; go_big_quiet_on)
      | (go_big_quiet_want; apply quiet_call (f := 32); (intro w' hw'; go_simp; first | done | rfl); (intro w' hw'; exact Grew.call hw' (hr w')); go_simp; go_big_quiet_on)
      | (go_big_quiet_want; apply quiet_call (f := 16); (intro w' hw'; go_simp; first | done | rfl); (intro w' hw'; exact Grew.call hw' (hD w')); go_simp; go_big_quiet_on)
      | (go_big_quiet_skip))
    refine wpQuiet_nil ?_
    intro w5 hw5
    gi_wp2
    refine ⟨_, results_tmp rfl _ _ _, by rw [HA.out]; rfl, ?_⟩
    exact below_next' hb1 hw5
  have t1 : ((proof.length : Int) != (depthZ n i : Int)) = false := by simp; omega
  obtain ⟨p1, p2, p3, p4⟩ : n ≥ 1 ∧ n ≤ 1024 ∧ i ≥ 0 ∧ i < n := by
    rw [hrb] at hrb2
    simpa using hrb2
  have ha : checkL root n i leaf proof = decide ((upP (walkN n.toNat i.toNat) leaf proof).1 = root) := by rw [hcl]; simp [hpd]
  rw [if_pos rfl] at hdz
  have hpc : proof.length = cntP (walkN n.toNat i.toNat) := by rw [hpd, hdz]
  have HA := Lib.hid ha
  have HPC := Lib.hid hpc
  clear hcl hdz hrb hrb2 ha hpd hpc
  generalize depthZ n i = D at *
  obtain ⟨N, rfl⟩ : ∃ N : Nat, n = (N : Int) := ⟨n.toNat, by omega⟩
  obtain ⟨j, rfl⟩ : ∃ j : Nat, i = (j : Int) := ⟨i.toNat, by omega⟩
  simp only [Int.toNat_natCast] at HA HPC
  refine wpIn_wide.2 (wp_region_grew (by kernel_rfl) (by kernel_rfl) ?_)
  repeat (first
    | (go_big_quiet_want; (with_reducible apply quiet_load_at (ty := 25) (x := .tmp _)); rfl; rfl; assumption; go_simp; go_big_quiet_on)
    | (go_big_quiet_want; apply quiet_val; (intro w' hw'; go_simp; first | done | rfl); go_simp; go_big_quiet_on)
    | (go_big_quiet_want; apply quiet_call (f := 32); (intro w' hw'; go_simp; first | done | rfl); (intro w' hw'; exact Grew.call hw' (hr w')); go_simp; go_big_quiet_on)
    | (go_big_quiet_want; apply quiet_call (f := 16); (intro w' hw'; go_simp; first | done | rfl); (intro w' hw'; exact Grew.call hw' (hD w')); go_simp; go_big_quiet_on)
    | (go_big_quiet_skip))
  refine wpQuiet_nil ?_
  intro w5 hw5
  have q1 := o1.of_block (hw5.block _ (by omega))
  have q2 := o2.of_block (hw5.block _ (by omega))
  have q3 := o3.of_new hw5
  have hb5 := below_next' hb1 hw5
  have hs5 := hw5.size
  clear hcov hr hD t1 o1 o2 o3
  gi_wp2_with (refine ⟨trivial, ?_⟩; gi_at_call 33; refine (callsIn_wide.2 (places_any _ _ _)).mono ?_; rintro e w' ⟨rfl, rfl⟩)
  generalize hW0 : (w5.alloc _).alloc _ = W0
  obtain ⟨hs0, hb50, o4, o5⟩ : W0.heap.size = w5.heap.size + 2 ∧ Below w5.heap.size w5 W0 ∧ One W0 w5.heap.size (.int .i64 (N : Int)) 3 ∧ One W0 (w5.heap.size + 1) (.int .i64 (j : Int)) 3 := by
    subst hW0
    refine ⟨by simp, ((Below.refl _ w5).alloc (Nat.le_refl _) _).alloc (by simp) _, (Below.heap_alloc _ _ _ (by simp)).trans (heap_alloc_new _ _), ?_⟩
    have := heap_alloc_new (w5.alloc (.cells #[.int .i64 (N : Int)] 3)) (.cells #[.int .i64 (j : Int)] 3)
    rwa [World.size_alloc] at this
  replace q1 := q1.of_block (hb50.block _ (by omega))
  replace q2 := q2.of_block (hb50.block _ (by omega))
  replace q3 := q3.of_new hb50
  have hB0 := below_next' hb5 hb50 (by omega)
  clear hW0
  refine wpIn_rangeFunc_cells (F := Fence.wide) (n := 3) rfl (by omega) (gf := 41) (lb := #[.pointer (some ⟨w5.heap.size, 0, none⟩), .pointer (some ⟨w5.heap.size + 1, 0, none⟩)]) rfl trivial
    (enters_of Tryd.func41 (by kernel_rfl) rfl)
    (encs := encP) (It := fun pre x _ => pre ++ [x] <+: walkN N j) (O := fun k => k = w5.heap.size ∨ k = w5.heap.size + 1) (U := fun k => k = w5.heap.size ∨ k = w5.heap.size + 1)
    (fun W1 hb1 hs1 => by
      have e1 := o4.of_block (hb1.block _ (by omega))
      have e2 := o5.of_block (hb1.block _ (by omega))
      exact places_seq Fence.wide 2 trivial rfl (by omega) _ _ (by omega) N j (by omega) (by omega) W1 e1.cell e2.cell e1.free e2.free)
    (by omega) (by omega) (by omega) (fun _ => rfl)
    (CheckI w root leaf proof) (fun _ _ _ => False)
    (fun s A B hs hk => by
      obtain ⟨rv, x, rest, a1, a2, a3, a4, a5, a6, a7, a8, a9⟩ := hs
      exact ⟨rv, x, rest, a1.of_block (hk.block _ (by omega) (by constructor <;> omega)), a2, a3.of_block (hk.block _ (by omega) (by constructor <;> omega)), a4, a5, a6, a7.of_block (hk.block _ (by omega) (by constructor <;> omega)),
        hk.to_below a8 (by omega) (fun k hk2 => by constructor <;> omega), Nat.le_trans a9 hk.size⟩)
    (fun _ _ _ _ h _ => h) (fun _ _ _ _ h _ => h)
    ⟨_, leaf, proof, q2, hleaf, q3, hp, rfl, by simp [cntP], q1, hB0, by omega⟩
    (fun x => { tmps := #[.agg (root.map B8).toArray, .int .i64 (N : Int), .int .i64 (j : Int), .agg (leaf.map B8).toArray, .slice va proof.length vc, .pointer (some ⟨w.heap.size, 0, none⟩), undef, undef, .pointer (some ⟨w.heap.size + 1, 0, none⟩), .pointer (some ⟨w.heap.size + 1 + 1, 0, none⟩), .bool false,
      .int .i64 (x.1 : Int), .int .i64 (x.2 : Int), undef, .int .i64 (N : Int), .int .i64 (j : Int), .bool true, .bool false, .bool false, .slice va proof.length vc, .int .i64 (proof.length : Int), .int .i64 (N : Int), .int .i64 (j : Int), .int .i64 (D : Int), .bool false, .bool false, .int .i64 (N : Int), .int .i64 (j : Int),
      .func (.func 41) #[] #[.pointer (some ⟨w5.heap.size, 0, none⟩), .pointer (some ⟨w5.heap.size + 1, 0, none⟩)], .int .i64 (x.1 : Int), .int .i64 (x.2 : Int), undef, undef, undef, undef, undef, undef, undef, undef, undef, undef, undef, undef, undef, undef, undef, undef, undef, undef, undef, undef, undef, undef, undef, undef, undef], defers := [] }) ?assign ?body ?done ?stop
  case assign =>
    intro l x W K hK
    gi_wp2
    exact hK
  case body =>
    rintro l pre ⟨a, b⟩ W ⟨rv, x, rest, a1, a2, a3, a4, a5, a6, a7, a8, a9⟩ hpre _ hW2
    have hmem : (a, b) ∈ walkN N j := hpre.subset (by simp)
    obtain ⟨g1, g2, g3⟩ := walkP_in 1024 N j (by omega) _ hmem
    dsimp only at g1 g2 g3
    have hbz : besideZ a b = if b % 2 = 1 then (b : Int) - 1 else if b + 1 < a then (b : Int) + 1 else -1 := rfl
    have hup := upP_snoc pre a b leaf proof a5
    have hcs := cntP_snoc pre (a, b)
    have hcl : cntP (pre ++ [(a, b)]) ≤ cntP (walkN N j) := by
      obtain ⟨t, ht⟩ := hpre
      rw [← ht]
      unfold cntP
      rw [List.countP_append (l₂ := t)]
      omega
    have hbes := beside_any a b
    have h1 : 1 ≤ 3 - 1 - 1 := by omega
    have qc := a3.cell
    have qf := a3.free
    rw [← HPC.out] at hcl
    clear hpre hmem
    dsimp only at hcs
    by_cases hz : besideZ a b < 0
    · rw [if_pos hz] at hup
      rw [if_neg (by omega)] at hcs
      have HU := Lib.hid hup
      have HC := Lib.hid hcs
      clear hup hcs hbz
      generalize besideZ a b = at_ at *
      gi_wp2_with (refine ⟨trivial, ?_⟩; gi_at_call 34; refine (CallsIn.inRound l (callsIn_wide.2 (hbes _ g1 (by omega)))).mono ?_; rintro e w' ⟨rfl, rfl⟩)
      exact ⟨Kept.refl _ _, rv, x, rest, a1, a2, a3, a4, HU.out, by rw [HC.out]; omega, a7, a8, a9⟩
    · rw [if_neg hz] at hup
      rw [if_pos (by omega)] at hcs
      have hr1 : 1 ≤ rest.length := by omega
      obtain ⟨rb, roff, rc, hv⟩ := a4.shape (by omega)
      subst hv
      have hd1 := (a4.of_new a8).digAt (i := 0) (by omega)
      rw [Nat.zero_mul, Nat.add_zero] at hd1
      obtain ⟨v2, hr2, hl2, _⟩ := a4.part (some (.int .i64 1)) none 1 rest.length (by omega) (by omega) (.inr ⟨_, rfl⟩) (.inl ⟨rfl, rfl⟩)
      have e1 : (rest.drop 1).take (rest.length - 1) = rest.tail := by rw [List.take_of_length_le (by simp)]; simp
      rw [e1] at hl2
      have htl : rest.tail.length + 1 = rest.length := by simp; omega
      have hrl : (0 : Int) < (rest.length : Int) := by omega
      have hrn : 0 < rest.length := by omega
      have hrm : ¬ rest.length = 0 := by omega
      have HU := Lib.hid hup
      have HC := Lib.hid hcs
      have HT := Lib.hid htl
      have hx1 := a1.digAt a2
      clear e1 htl
      by_cases hodd : b % 2 = 1
      · rw [if_pos hodd] at hbz
        rw [if_pos hodd] at hup
        have HU := Lib.hid hup
        have t2 : ¬ ((b : Int) - 1 < 0) := by omega
        have t3 : (b : Int) - 1 < (b : Int) := by omega
        rw [hbz] at hbes
        clear hup hcs hbz hz
        generalize rest.getD 0 [] = d at *
        generalize rest.tail = rest2 at *
        obtain ⟨a2', c2', hv⟩ := hl2.len
        subst hv
        gi_wp2_with (refine ⟨trivial, ?_⟩; gi_at_call 34; refine (CallsIn.inRound l (callsIn_wide.2 (hbes _ g1 (by omega)))).mono ?_; rintro e w' ⟨rfl, rfl⟩)
        have hcov : ∀ w2, Grew w' w2 → w2.cell? ⟨w.heap.size + 2, 0, none⟩ = some (.slice (some ⟨rb, roff, none⟩) rest.length rc) := fun w2 h => (a3.of_new h).cell
        refine wpIn_region_class (ro := some l) (C := Grew w') 5 (by kernel_rfl) (by kernel_rfl) (Grew.start _) ?_
        simp only [List.take_succ_cons, List.take_zero, List.drop_succ_cons, List.drop_zero]
        go_simp
        repeat (first
          | (go_big_quiet_want; (with_reducible apply quiet_load_at (ty := 25) (x := .tmp _)); rfl; rfl; assumption; go_simp; go_big_quiet_on)
          | (go_big_quiet_want; apply quiet_val; (intro w' hw'; go_simp; first | done | rfl); go_simp; go_big_quiet_on)
          | (go_big_quiet_want; apply quiet_call (f := 15); (intro w' hw'; go_simp; first | done | rfl); (intro w' hw'; exact Grew.call hw' (Node_any _ _ w' hd1.1 a2 (hK.of_new (below_next' a8 hw' (by omega))))); go_simp; go_big_quiet_on)
          | (go_big_quiet_skip))
        refine wpQuiet_nil ?_
        intro w6 hw6
        refine wpListIn_of_wp rfl (fun c hc => by cases hc) (wp_store_dig (.tmp 8) (.tmp 50) (w.heap.size + 1) x (nodeL d x) rfl rfl rfl (a1.of_block (hw6.block _ (by omega))) a2 (nodeL_len _ _) ?_)
        intro w7 hx7 hg7
        have b3 := (a3.of_new hw6).grown hg7 (by simp)
        have b7 := (a7.of_block (hw6.block _ (by omega))).of_block (hg7.block _ (by have := hw6.size; omega) (by simp))
        have b8 : Below w.heap.size w w7 := (below_next' a8 hw6 (by omega)).grown hg7 (by have := hw6.size; omega) (fun j e => by cases e; omega)
        have b9 : w.heap.size + 3 ≤ w7.heap.size := by have := hw6.size; have := hg7.size; omega
        have hk7 : Kept (fun k => (k = w5.heap.size ∨ k = w5.heap.size + 1) ∨ k = W0.heap.size ∨ k = W0.heap.size + 1) w' w7 := ((Kept.refl _ w').below hw6).grown hg7 (fun r e => by cases e; omega)
        have qc7 := b3.cell
        have qf7 := b3.free
        rw [wF_some]
        clear hw6 hg7 qc qf hcov a3 a1 a7 a8 a9 hx1 hd1
        gi_wp2
        exact ⟨hk7.setCell (p := ⟨w.heap.size + 2, 0, none⟩) (by simp; omega) _, _, _, rest2, hx7.of_block (Below.heap_setCell _ _ _ _ (by intro h; have h2 : w.heap.size + 1 = w.heap.size + 2 := h; omega)), nodeL_len _ _, b3.set _, hl2, HU.out, by rw [HC.out]; have := HT.out; omega,
          b7.of_block (Below.heap_setCell _ _ _ _ (by intro h; have h2 : w.heap.size = w.heap.size + 2 := h; omega)), b8.setCell (p := ⟨w.heap.size + 2, 0, none⟩) (by simp) _, by simpa [World.setCell] using b9⟩
      · rw [if_neg hodd] at hbz
        rw [if_neg hodd] at hup
        have HU := Lib.hid hup
        have hlt2 : b + 1 < a := by
          by_cases h : b + 1 < a
          · exact h
          · rw [if_neg h] at hbz; omega
        rw [if_pos hlt2] at hbz
        have t2 : ¬ ((b : Int) + 1 < 0) := by omega
        have t3 : ¬ ((b : Int) + 1 < (b : Int)) := by omega
        rw [hbz] at hbes
        clear hup hcs hbz hz
        generalize rest.getD 0 [] = d at *
        generalize rest.tail = rest2 at *
        obtain ⟨a2', c2', hv⟩ := hl2.len
        subst hv
        gi_wp2_with (refine ⟨trivial, ?_⟩; gi_at_call 34; refine (CallsIn.inRound l (callsIn_wide.2 (hbes _ g1 (by omega)))).mono ?_; rintro e w' ⟨rfl, rfl⟩)
        have hcov : ∀ w2, Grew w' w2 → w2.cell? ⟨w.heap.size + 2, 0, none⟩ = some (.slice (some ⟨rb, roff, none⟩) rest.length rc) := fun w2 h => (a3.of_new h).cell
        refine wpIn_region_class (ro := some l) (C := Grew w') 5 (by kernel_rfl) (by kernel_rfl) (Grew.start _) ?_
        simp only [List.take_succ_cons, List.take_zero, List.drop_succ_cons, List.drop_zero]
        go_simp
        repeat (first
          | (go_big_quiet_want; (with_reducible apply quiet_load_at (ty := 25) (x := .tmp _)); rfl; rfl; assumption; go_simp; go_big_quiet_on)
          | (go_big_quiet_want; apply quiet_val; (intro w' hw'; go_simp; first | done | rfl); go_simp; go_big_quiet_on)
          | (go_big_quiet_want; apply quiet_call (f := 15); (intro w' hw'; go_simp; first | done | rfl); (intro w' hw'; exact Grew.call hw' (Node_any _ _ w' a2 hd1.1 (hK.of_new (below_next' a8 hw' (by omega))))); go_simp; go_big_quiet_on)
          | (go_big_quiet_skip))
        refine wpQuiet_nil ?_
        intro w6 hw6
        refine wpListIn_of_wp rfl (fun c hc => by cases hc) (wp_store_dig (.tmp 8) (.tmp 38) (w.heap.size + 1) x (nodeL x d) rfl rfl rfl (a1.of_block (hw6.block _ (by omega))) a2 (nodeL_len _ _) ?_)
        intro w7 hx7 hg7
        have b3 := (a3.of_new hw6).grown hg7 (by simp)
        have b7 := (a7.of_block (hw6.block _ (by omega))).of_block (hg7.block _ (by have := hw6.size; omega) (by simp))
        have b8 : Below w.heap.size w w7 := (below_next' a8 hw6 (by omega)).grown hg7 (by have := hw6.size; omega) (fun j e => by cases e; omega)
        have b9 : w.heap.size + 3 ≤ w7.heap.size := by have := hw6.size; have := hg7.size; omega
        have hk7 : Kept (fun k => (k = w5.heap.size ∨ k = w5.heap.size + 1) ∨ k = W0.heap.size ∨ k = W0.heap.size + 1) w' w7 := ((Kept.refl _ w').below hw6).grown hg7 (fun r e => by cases e; omega)
        have qc7 := b3.cell
        have qf7 := b3.free
        rw [wF_some]
        clear hw6 hg7 qc qf hcov a3 a1 a7 a8 a9 hx1 hd1
        gi_wp2
        exact ⟨hk7.setCell (p := ⟨w.heap.size + 2, 0, none⟩) (by simp; omega) _, _, _, rest2, hx7.of_block (Below.heap_setCell _ _ _ _ (by intro h; have h2 : w.heap.size + 1 = w.heap.size + 2 := h; omega)), nodeL_len _ _, b3.set _, hl2, HU.out, by rw [HC.out]; have := HT.out; omega,
          b7.of_block (Below.heap_setCell _ _ _ _ (by intro h; have h2 : w.heap.size = w.heap.size + 2 := h; omega)), b8.setCell (p := ⟨w.heap.size + 2, 0, none⟩) (by simp) _, by simpa [World.setCell] using b9⟩
  case done =>
    rintro xs W rfl ⟨rv, x, rest, a1, a2, a3, a4, a5, a6, a7, a8, a9⟩ hW2 hD2
    have hx1 := a1.digAt a2
    have hx2 := a7.digAt hroot
    have heq := run_eql_dig x root a2 hroot
    have hfin : checkL root N j leaf proof = decide (x = root) := by rw [HA.out]; simp only [a5]
    have HF := Lib.hid hfin
    have HS0 := Lib.hid hs0
    clear hfin a1 a7 hs0
    gi_wp2_with (first
      | ((with_reducible refine wpListIn_load_dig (op := ⟨some 53, Op.load 25 (.tmp 8), _, _, _, _⟩) (.tmp 8) (w.heap.size + 1) 0 x ?_ ?_ ?_ ?_ ?_ ?_); rfl; rfl; rfl; exact hx1.1; exact hx1.2)
      | ((with_reducible refine wpListIn_load_dig (op := ⟨some 54, Op.load 25 (.tmp 5), _, _, _, _⟩) (.tmp 5) (w.heap.size) 0 root ?_ ?_ ?_ ?_ ?_ ?_); rfl; rfl; rfl; exact hx2.1; exact hx2.2))
    refine ⟨by simp, .inl ⟨_, _, rfl, run_takeDeferred hD2, ?_⟩⟩
    refine ⟨_, results_tmp rfl _ _ _, by rw [HF.out]; rfl, ?_⟩
    exact a8.grown (grownBy_putObj' _ _ _) a8.size (fun k e => by cases e; have := HS0.out; omega)
  case stop =>
    rintro c pre W _ h _ _
    exact h.elim

end Go.Proofs.YtnilkdfhnmkekaaDoor

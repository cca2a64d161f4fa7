/- The walk of merkle.Proof. Condition: the table of constants as the program lays it. -/
import Derived.Test.YtnilkdfhnmkekaaDoorMrkProofPlain
import Derived.Test.YtnilkdfhnmkekaaDoorMrkRoot
import Derived.Test.YtnilkdfhnmkekaaDoorAtIn
namespace Go.Proofs.YtnilkdfhnmkekaaDoor
open Go.RowKit Go.Shelf
attribute [local go_sem] Oper.semAt_some
set_option linter.unusedVariables false
set_option linter.unusedSimpArgs false

/-- What Proof hands back. -/
def ProofPost (w : World) (p : List (List UInt8) × Int) (e : Ending) (w' : World) : Prop :=
  ∃ v, e = .returned (.tuple #[v, .int .i64 p.2]) ∧ OwnD w' w.heap.size v p.1 ∧ Below w.heap.size w w'

set_option maxRecDepth 100000 in
set_option maxHeartbeats 1600000 in
theorem Proof_no (v : Value) (l : List (List UInt8)) (i : Int) (w : World) (hl : Digs w v l) (h : ¬ (0 ≤ i ∧ i < l.length ∧ l.length ≤ 1024)) (hi1 : -9223372036854775808 ≤ i) (hi2 : i ≤ 9223372036854775807) :
    Calls Tryd.prog 20 #[v, .int .i64 i] w (ProofPost w ([], 1)) := by
  have hle := hl.le
  unfold maxLen at hle
  obtain ⟨va, vc, hv⟩ := hl.len
  subst hv
  by_cases c1 : i < 0
  all_goals by_cases c2 : (l.length : Int) ≤ i
  all_goals by_cases c3 : (1024 : Int) < l.length
  all_goals first | (exfalso; omega) | skip
  all_goals clear h
  all_goals go_enter Tryd.func20, Tryd.ntmps20
  all_goals go_wp2
  all_goals go_ret2
  all_goals exact ⟨_, rfl, OwnD.nil _ _, (Below.refl _ _).alloc (Nat.le_refl _) _⟩

/-- What holds ahead of each round. -/
def ProofI (w : World) (i : Nat) (g : Nat) (pre : List (List (List UInt8) × Nat)) (W : World) : Prop :=
  ∃ ov, One W w.heap.size (.int .i64 ((i / 2 ^ pre.length : Nat) : Int)) 3 ∧ One W (w.heap.size + 1) ov 22 ∧ OwnD W (w.heap.size + 5) ov (proofR (pre.map (·.1)) i) ∧ (∀ k, ov.ownBlock = some k → k ≠ g) ∧ Below w.heap.size w W ∧ w.heap.size + 3 ≤ W.heap.size

set_option maxRecDepth 100000 in
set_option maxHeartbeats 1600000 in
theorem Proof_yes (v : Value) (l : List (List UInt8)) (i : Nat) (w : World) (hl : Digs w v l) (hi : i < l.length) (hlen : l.length ≤ 1024) (hK : Consts w) :
    Calls Tryd.prog 20 #[v, .int .i64 (i : Int)] w (ProofPost w (proofL l i, 0)) := by
  obtain ⟨va, vc, hv⟩ := hl.len
  subst hv
  have c1 : ¬ (i : Int) < 0 := by omega
  have c2 : ¬ (l.length : Int) ≤ i := by omega
  have c3 : ¬ (1024 : Int) < l.length := by omega
  refine (callsIn_wide (n := 3)).1 ?_
  refine callsIn_of_wp_marks Tryd.func20 rfl trivial ?_ rfl
  simp only [Tryd.ntmps20, List.size_toArray, List.length_cons, List.length_nil, Nat.reduceAdd, Nat.reduceSub, Array.replicate_succ, Array.replicate_zero, List.push_toArray, List.append_toArray, List.nil_append, List.cons_append]
  gi_wp2_with (refine ⟨trivial, ?_⟩; gi_at_call 29; refine (callsIn_wide.2 (rows_any _ _ _ _)).mono ?_; rintro e w' ⟨rfl, rfl⟩)
  generalize hW0 : ((w.alloc _).alloc _).alloc _ = W0
  obtain ⟨hsz, hB0, o1, o2, o3⟩ : W0.heap.size = w.heap.size + 3 ∧ Below w.heap.size w W0 ∧ W0.heap[w.heap.size]? = some (.cells #[.int .i64 (i : Int)] 3) ∧ W0.heap[w.heap.size + 1]? = some (.cells #[.slice none 0 0] 22) ∧ W0.heap[w.heap.size + 1 + 1]? = some (.cells #[.slice va l.length vc] 22) := by
    subst hW0
    refine ⟨by simp, (((Below.refl _ w).alloc (Nat.le_refl _) _).alloc (by simp) _).alloc (by simp; omega) _, ?_, ?_, ?_⟩
    · exact (Below.heap_alloc _ _ _ (by simp; omega)).trans ((Below.heap_alloc _ _ _ (by simp)).trans (heap_alloc_new _ _))
    · refine (Below.heap_alloc _ _ _ (by simp)).trans ?_
      have := heap_alloc_new (w.alloc (.cells #[.int .i64 (i : Int)] 3)) (.cells #[.slice none 0 0] 22)
      rwa [World.size_alloc] at this
    · have := heap_alloc_new ((w.alloc (.cells #[.int .i64 (i : Int)] 3)).alloc (.cells #[.slice none 0 0] 22)) (.cells #[.slice va l.length vc] 22)
      rwa [World.size_alloc, World.size_alloc] at this
  clear hW0
  refine wpIn_rangeFunc_block (F := Fence.wide) (n := 3) rfl (by omega) (gf := 37) (lb := #[.pointer (some ⟨w.heap.size + 1 + 1, 0, none⟩)]) rfl trivial
    (enters_of Tryd.func37 (by kernel_rfl) rfl)
    (encs := encR) (It := fun g pre x W' => (pre ++ [x]).map (·.1) <+: rowsL l ∧ OwnD W' (W0.heap.size + 2) (.slice (some ⟨g, 0, none⟩) x.1.length x.2) x.1)
    (S := fun xs => xs.map (·.1) = rowsL l) (Sp := fun _ => True) (n0 := w.heap.size) (N := (rowsL l).length) (by omega)
    (fun W1 hb1 hs1 => by
      have e1 : W1.cell? ⟨w.heap.size + 1 + 1, 0, none⟩ = some (.slice va l.length vc) := by
        have := (hb1.block (w.heap.size + 1 + 1) (by omega)).trans o3
        simp [World.cell?, this]
      have hbw : Below w.heap.size w W1 := hB0.trans (hb1.mono (by omega))
      have := rows_seq 2 (by omega) (w.heap.size + 1 + 1) w.heap.size _ l (by omega) (by omega) W1 w hK rfl hbw e1 (hl.of_new hbw)
      rw [hs1] at this
      exact this)
    (fun _ _ => rfl)
    (ProofI w i)
    (fun _ _ _ _ => False)
    (fun g s A B hg hs hk => by
      obtain ⟨ov, a1, a2, a3, a4, a5, a6⟩ := hs
      refine ⟨ov, a1.of_block (hk.block _ (by omega) (by constructor <;> omega)), a2.of_block (hk.block _ (by omega) (by constructor <;> omega)), a3.kept (U := fun _ => True) (fun k hk2 => hk.block _ (a3.lt k hk2).2 ⟨a4 k hk2, by have := (a3.lt k hk2).1; omega⟩), a4, hk.to_below a5 (by omega) (fun k hk2 => by constructor <;> omega), Nat.le_trans a6 hk.size⟩)
    (fun _ _ _ _ _ _ h _ => h)
    (fun g pre x A B hg hs hk => ⟨hs.1, hs.2.kept (U := fun _ => True) (fun k hk2 => hk.block _ (hs.2.lt k hk2).2 (by have := (hs.2.lt k hk2).1; omega))⟩)
    (fun g W' hg hb => ⟨.slice none 0 0, by simpa using (show One W0 _ _ _ from o1).of_block (hb.block _ (by omega)), (show One W0 _ _ _ from o2).of_block (hb.block _ (by omega)), OwnD.nil _ _, (fun k h => by cases h), hB0.trans (hb.mono (by omega)), by have := hb.size; omega⟩)
    (fun g x => { tmps := #[.slice va l.length vc, .int .i64 (i : Int), undef, .pointer (some ⟨w.heap.size, 0, none⟩), .slice none 0 0, .int .i64 0, .pointer (some ⟨w.heap.size + 1, 0, none⟩), .slice (some ⟨g, 0, none⟩) x.1.length x.2, undef, .int .i64 (i : Int),
      .bool false, .bool false, .int .i64 (i : Int), .slice va l.length vc, .int .i64 (l.length : Int), .bool false, .bool false, .bool false, .slice va l.length vc, .int .i64 (l.length : Int), .bool false, .bool false, .slice va l.length vc,
      .func (.func 37) #[] #[.pointer (some ⟨w.heap.size + 1 + 1, 0, none⟩)], .slice (some ⟨g, 0, none⟩) x.1.length x.2, undef, undef, undef, undef, undef, undef, undef, undef, undef, undef, undef, undef, undef, undef, undef, undef, undef, undef, undef, undef, undef], defers := [] }) ?assign ?body ?done ?stop
  case assign =>
    intro l g x W K hK
    gi_wp2
    exact hK
  case body =>
    rintro l' g pre ⟨x, cap⟩ W hg ⟨ov, q1, q2, q3, q4, q5, q6⟩ ⟨hpre, ho⟩ _ hW2
    dsimp only at ho
    have hmem : x ∈ rowsL l := hpre.subset (by simp)
    obtain ⟨p1, p2, _⟩ := rows_at l.length l i (Nat.le_refl _) hi hl.1 (pre.map (·.1)) x (by simpa using hpre)
    simp only [List.length_map] at p1
    have hlen12 : (rowsL l).length ≤ 11 := rowsL_len l 10 (by simpa using hlen)
    have hpl : pre.length ≤ 11 := by have := hpre.length_le; simp at this; omega
    have hol := proofR_len (pre.map (·.1)) i
    simp only [List.length_map] at hol
    have hsn := proofR_snoc (pre.map (·.1)) x i
    have hnx : i / 2 ^ (pre ++ [(x, cap)]).length = i / 2 ^ pre.length / 2 := by
      rw [List.length_append, List.length_singleton, Nat.pow_succ, Nat.div_div_eq_div_mul]
    have hmap : (pre ++ [(x, cap)]).map (·.1) = pre.map (·.1) ++ [x] := by simp
    rw [← hmap] at hsn
    simp only [List.length_map] at hsn
    have HN := Lib.hid hnx
    have HS := Lib.hid hsn
    have hbl : g < W.heap.size := by
      have := (ho.lt g rfl).2; exact this
    clear hsn hnx hmap hpre hmem hlen12
    generalize i / 2 ^ pre.length = k at *
    generalize proofR (pre.map (·.1)) i = out at *
    have qc1 := q1.cell
    have qf1 := q1.free
    have qc2 := q2.cell
    have qf2 := q2.free
    have hx1 : 1 ≤ 3 - 1 - 1 := by omega
    by_cases hz : 0 ≤ besideZ x.length k
    · have hbs := hz
      have hlt1 : (1 : Int) < x.length := by
        unfold besideZ at hz
        split at hz
        · omega
        · split at hz <;> omega
      have hb1 : besideZ x.length k < x.length := by
        unfold besideZ
        split
        · omega
        · split <;> omega
      have hst : stepP x k = [x.getD (besideZ x.length k).toNat []] := by unfold stepP; rw [if_pos hz]
      have HT := Lib.hid hst
      have hat := ho.digs.digAt0 (i := (besideZ x.length k).toNat) (by omega)
      have hlx : x.length ≤ 1024 := by omega
      clear hst
      generalize x.getD (besideZ x.length k).toNat [] = d at *
      have hbd := beside_any x.length k
      generalize besideZ x.length k = at_ at *
      gi_wp2_with (refine ⟨trivial, ?_⟩; gi_at_call 34; refine (CallsIn.inRound l' (callsIn_wide.2 (hbd _ p1 (by omega)))).mono ?_; rintro e w' ⟨rfl, rfl⟩)
      have hcov : ∀ w2, Grew w' w2 → w2.cell? ⟨w.heap.size + 1, 0, none⟩ = some ov := fun w2 h => (q2.of_new h).cell
      refine wpIn_region_late (ro := some l') (C := Grew w') 5 ov (by kernel_rfl) rfl rfl rfl (by kernel_rfl) (by kernel_rfl) (by kernel_rfl) (Grew.start _) (fun w2 h2 => ?_) (fun _ _ _ h => h) ?_
      · have := hcov w2 h2
        go_simp
      simp only [List.take_succ_cons, List.take_zero, List.drop_succ_cons, List.drop_zero]
      go_simp
      repeat (first
        | (go_big_quiet_want; (with_reducible apply quiet_load_at (ty := 25) (x := .tmp _)); rfl; rfl; assumption; go_simp; go_big_quiet_on)
        | (go_big_quiet_want; apply quiet_val; (intro w' hw'; go_simp; first | done | rfl); go_simp; go_big_quiet_on)
        | (go_big_quiet_skip))
      refine wpQuiet_nil ?_
      intro w5 hw5
      refine Late.mk ?_
      refine wp_buildDigs 1 _ [d] rfl rfl (by simp) (by simp) (fun y hy => by simp at hy; rw [hy]; exact hat.1) (by simp only [List.map_toArray, List.map_cons, List.map_nil]; rfl) ?_
      intro w7 ho7 hb7 hs7
      have hb57 : Below w'.heap.size w' w7 := below_next hw5 hb7
      refine ⟨hb57, ?_⟩
      have q3' := q3.of_new hb57
      refine wpListIn_of_wp rfl (fun c hc => by cases hc) (wp_appD (.tmp 36) (.tmp 41) rfl (w.heap.size + 5) ov out rfl q3' _ [d] rfl ho7.digs (by simp; omega) (by have := hb57.size; omega) ?_)
      intro v8 w8 ho8 hg8 hv8
      have q1' := (q1.of_new hb57).grown hg8 (fun e => by have := (q3'.lt _ e.symm).1; omega)
      have q2' := (q2.of_new hb57).grown hg8 (fun e => by have := (q3'.lt _ e.symm).1; omega)
      have qc1' := q1'.cell
      have qf1' := q1'.free
      have qc2' := q2'.cell
      have qf2' := q2'.free
      have hv8' : ∀ k, v8.ownBlock = some k → k ≠ g := fun k e => by
        rcases hv8 k e with h | h
        · exact q4 k h
        · have := hb57.size; omega
      have hk8 : Kept (fun k => (k = g ∨ k < w.heap.size) ∨ k = W0.heap.size ∨ k = W0.heap.size + 1) w' w8 :=
        ((Kept.refl _ w').below hb57).grown hg8 (fun r e => by have := (q3'.lt r e).1; have := q4 r e; omega)
      have hB8 : Below w.heap.size w w8 := (below_next' q5 hb57).grown hg8 (by have := hb57.size; omega) (fun j hj => by have := (q3'.lt j hj).1; omega)
      have hsz8 : w'.heap.size ≤ w8.heap.size := hk8.size
      rw [wF_some]
      clear hg8 hv8 ho7 hb7 hw5 qc1 qc2 qf1 qf2 hcov q3'
      have hend : proofR ((pre ++ [(x, cap)]).map (·.1)) i = out ++ [d] := by rw [HS.out, HT.out]
      have HE := Lib.hid hend
      clear hend
      generalize out ++ [d] = out8 at *
      obtain ⟨sa, sc, hv⟩ := ho8.digs.len
      subst hv
      gi_wp2
      refine ⟨?_, _, ?_, ?_, ?_, hv8', ?_, ?_⟩
      · exact ((by simpa [hsz] using hk8 : Kept _ _ _).setCell (p := ⟨w.heap.size + 1, 0, none⟩) (by simp; omega) _).setCell (p := ⟨w.heap.size, 0, none⟩) (by simp; omega) _
      · rw [HN.out]; simpa using (q1'.other (p := ⟨w.heap.size + 1, 0, none⟩) (by simp) _).set _
      · exact (q2'.set _).other (by simp) _
      · rw [HE.out]
        exact ho8.kept (U := fun _ => True) (fun k hk => by have := (ho8.lt k hk).1; rw [Below.heap_setCell _ _ _ _ (by simp; omega), Below.heap_setCell _ _ _ _ (by simp; omega)])
      · exact (hB8.setCell (p := ⟨w.heap.size + 1, 0, none⟩) (by simp) _).setCell (p := ⟨w.heap.size, 0, none⟩) (Nat.le_refl _) _
      · simp [World.setCell]; omega
    · have hst : stepP x k = [] := by unfold stepP; rw [if_neg hz]
      have HT := Lib.hid hst
      have hlx : x.length ≤ 1024 := by omega
      clear hst
      have hbd := beside_any x.length k
      have hz' : ¬ (0 ≤ besideZ x.length k) := hz
      generalize besideZ x.length k = at_ at *
      gi_wp2_with (refine ⟨trivial, ?_⟩; gi_at_call 34; refine (CallsIn.inRound l' (callsIn_wide.2 (hbd _ p1 (by omega)))).mono ?_; rintro e w' ⟨rfl, rfl⟩)
      have hend : proofR ((pre ++ [(x, cap)]).map (·.1)) i = out := by rw [HS.out, HT.out, List.append_nil]
      refine ⟨(Kept.refl _ _).setCell (p := ⟨w.heap.size, 0, none⟩) (by simp; omega) _, _, ?_, ?_, ?_, q4, ?_, ?_⟩
      · rw [HN.out]; simpa using q1.set _
      · exact q2.other (by simp) _
      · rw [hend]
        exact q3.kept (U := fun _ => True) (fun k hk => by have := (q3.lt k hk).1; rw [Below.heap_setCell _ _ _ _ (by simp; omega)])
      · exact q5.setCell (p := ⟨w.heap.size, 0, none⟩) (Nat.le_refl _) _
      · simp [World.setCell]; omega
  case done =>
    rintro g xs W hg hxs ⟨ov, q1, q2, q3, q4, q5, q6⟩ hW2 hD
    have qc2 := q2.cell
    obtain ⟨sa, sc, hv⟩ := q3.digs.len
    have hend : proofR (xs.map (·.1)) i = proofL l i := by rw [hxs]; rfl
    have HE := Lib.hid hend
    clear hend hxs
    generalize proofR (xs.map (·.1)) i = out at *
    subst hv
    gi_wp2
    refine ⟨by simp, .inl ⟨_, _, rfl, run_takeDeferred hD, ?_⟩⟩
    refine ⟨_, results_tmp2 rfl _ _ _, _, rfl, ?_, ?_⟩
    · rw [← HE.out]
      refine OwnD.mono (base := w.heap.size + 5) ?_ (by omega)
      exact q3.kept (U := fun _ => True) (fun k hk => by have := (q3.lt k hk).1; exact World.putObj_heap_other (by omega))
    · exact q5.grown (grownBy_putObj' _ _ _) q5.size (fun k e => by cases e; omega)
  case stop =>
    rintro g c pre W _ _ h _ _
    exact h.elim

theorem Proof_any (v : Value) (l : List (List UInt8)) (i : Int) (w : World) (hl : Digs w v l) (hi1 : -9223372036854775808 ≤ i) (hi2 : i ≤ 9223372036854775807) (hK : Consts w) :
    Calls Tryd.prog 20 #[v, .int .i64 i] w (ProofPost w (proofE l i)) := by
  unfold proofE
  by_cases h : 0 ≤ i ∧ i < l.length ∧ l.length ≤ 1024
  · rw [if_pos h]
    obtain ⟨j, rfl⟩ : ∃ j : Nat, i = (j : Int) := ⟨i.toNat, by omega⟩
    exact Proof_yes v l j w hl (by omega) (by omega) hK
  · rw [if_neg h]
    exact Proof_no v l i w hl h hi1 hi2

end Go.Proofs.YtnilkdfhnmkekaaDoor

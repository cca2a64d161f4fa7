/- The walk of merkle.Depth. No condition. -/
import Derived.Test.YtnomekfemadpeaaDoorMrkFew
namespace Go.Proofs.YtnomekfemadpeaaDoor
open Go.RowKit Go.Shelf
attribute [local go_sem] Oper.semAt_some
set_option linter.unusedVariables false
set_option linter.unusedSimpArgs false

def cntP (l : List (Nat × Nat)) : Nat := l.countP (fun p => decide (0 ≤ besideZ p.1 p.2))
theorem cntP_snoc (l : List (Nat × Nat)) (x : Nat × Nat) : cntP (l ++ [x]) = cntP l + (if 0 ≤ besideZ x.1 x.2 then 1 else 0) := by
  unfold cntP
  rw [List.countP_append]
  simp [List.countP_cons]
theorem cntP_le (l : List (Nat × Nat)) : cntP l ≤ l.length := List.countP_le_length

def depthZ (n i : Int) : Nat := if rightB n i then cntP (walkN n.toNat i.toNat) else 0

/-- In a walk each place is in its row. -/
theorem walkP_in (f n i : Nat) (h : i < n) : ∀ p ∈ walkP f n i, p.2 < p.1 ∧ p.1 ≤ n ∧ 1 < p.1 := by
  induction f generalizing n i with
  | zero => intro p hp; simp [walkP] at hp
  | succ f ih =>
    intro p hp
    simp only [walkP] at hp
    split at hp
    · simp at hp
    · rcases List.mem_cons.1 hp with rfl | hp
      · exact ⟨h, Nat.le_refl _, by simp; omega⟩
      · have := ih ((n + 1) / 2) (i / 2) (by omega) p hp
        exact ⟨this.1, by omega, this.2.2⟩
theorem walkP_len (f n i k : Nat) (h : n ≤ 2 ^ k) : (walkP f n i).length ≤ k := by
  induction k generalizing f n i with
  | zero =>
    cases f with
    | zero => simp [walkP]
    | succ f => simp only [walkP]; rw [if_pos (by simpa using h)]; simp
  | succ k ih =>
    cases f with
    | zero => simp [walkP]
    | succ f =>
      simp only [walkP]
      split
      · simp
      · have := ih f ((n + 1) / 2) (i / 2) (by rw [Nat.pow_succ] at h; omega)
        simp; omega
theorem walkN_len (n i : Nat) (h : n ≤ 1024) : (walkN n i).length ≤ 10 := walkP_len _ _ _ 10 (by simpa using h)

set_option maxRecDepth 100000 in
set_option maxHeartbeats 1600000 in
theorem Depth_any (n i : Int) (w : World) :
    Calls Tryd.prog 71 #[.int .i64 n, .int .i64 i] w fun e w' => e = .returned (.int .i64 (depthZ n i : Int)) ∧ Below w.heap.size w w' := by
  refine (callsIn_wide (n := 3)).1 ?_
  refine callsIn_of_wp_marks Tryd.func71 rfl trivial ?_ rfl
  simp only [Tryd.ntmps71, List.size_toArray, List.length_cons, List.length_nil, Nat.reduceAdd, Nat.reduceSub, Array.replicate_succ, Array.replicate_zero, List.push_toArray, List.append_toArray, List.nil_append, List.cons_append]
  by_cases hr : rightB n i = true
  · gi_wp2_with (first
      | (refine ⟨trivial, ?_⟩; gi_at_call 70; refine (callsIn_wide.2 (right_any n i _)).mono ?_; rintro e w' ⟨rfl, rfl⟩; simp only [hr])
      | (refine ⟨trivial, ?_⟩; gi_at_call 72; refine (callsIn_wide.2 (places_any n i _)).mono ?_; rintro e w' ⟨rfl, rfl⟩))
    obtain ⟨p1, p2, p3, p4⟩ : n ≥ 1 ∧ n ≤ 1024 ∧ i ≥ 0 ∧ i < n := by simpa [rightB] using hr
    have hd : depthZ n i = cntP (walkN n.toNat i.toNat) := by unfold depthZ; rw [if_pos hr]
    obtain ⟨N, rfl⟩ : ∃ N : Nat, n = (N : Int) := ⟨n.toNat, by omega⟩
    obtain ⟨j, rfl⟩ : ∃ j : Nat, i = (j : Int) := ⟨i.toNat, by omega⟩
    simp only [Int.toNat_natCast] at hd
    obtain ⟨W0, hW0⟩ : ∃ W0, ((w.alloc (.cells #[.int .i64 0] 3)).alloc (.cells #[.int .i64 (N : Int)] 3)).alloc (.cells #[.int .i64 (j : Int)] 3) = W0 := ⟨_, rfl⟩
    rw [hW0]
    have hsz : W0.heap.size = w.heap.size + 3 := by rw [← hW0]; simp
    have hB0 : Below w.heap.size w W0 := by
      rw [← hW0]; exact (((Below.refl _ w).alloc (Nat.le_refl _) _).alloc (by simp) _).alloc (by simp; omega) _
    obtain ⟨o1, o2, o3⟩ : W0.heap[w.heap.size]? = some (.cells #[.int .i64 0] 3) ∧ W0.heap[w.heap.size + 1]? = some (.cells #[.int .i64 (N : Int)] 3) ∧ W0.heap[w.heap.size + 1 + 1]? = some (.cells #[.int .i64 (j : Int)] 3) := by
      rw [← hW0]
      refine ⟨?_, ?_, ?_⟩
      · rw [Below.heap_alloc _ _ _ (by simp; omega), Below.heap_alloc _ _ _ (by simp)]; exact heap_alloc_new _ _
      · rw [Below.heap_alloc _ _ _ (by simp)]; have := heap_alloc_new (w.alloc (.cells #[.int .i64 0] 3)) (.cells #[.int .i64 (N : Int)] 3); rwa [World.size_alloc] at this
      · have := heap_alloc_new ((w.alloc (.cells #[.int .i64 0] 3)).alloc (.cells #[.int .i64 (N : Int)] 3)) (.cells #[.int .i64 (j : Int)] 3); rwa [World.size_alloc, World.size_alloc] at this
    clear hW0
    have cell1 : ∀ (W : World) (b : Nat) (v : Value) (t : Nat), W.heap[b]? = some (.cells #[v] t) → W.cell? ⟨b, 0, none⟩ = some v ∧ W.frozen? ⟨b, 0, none⟩ = false := by
      intro W b v t h
      constructor
      · simp [World.cell?, h]
      · simp [World.frozen?, h]
    refine wpIn_rangeFunc_cells (F := Fence.wide) (n := 3) rfl (by omega) (gf := 92) (lb := #[.pointer (some ⟨w.heap.size + 1, 0, none⟩), .pointer (some ⟨w.heap.size + 1 + 1, 0, none⟩)]) rfl trivial
      (enters_of Tryd.func92 (by kernel_rfl) rfl)
      (encs := encP) (It := fun pre x _ => pre ++ [x] <+: walkN N j) (O := fun k => k = w.heap.size + 1 ∨ k = w.heap.size + 1 + 1) (U := fun k => k = w.heap.size + 1 ∨ k = w.heap.size + 1 + 1)
      (fun W1 hb1 hs1 => by
        have e1 := cell1 W1 _ _ _ ((hb1.block (w.heap.size + 1) (by omega)).trans o2)
        have e2 := cell1 W1 _ _ _ ((hb1.block (w.heap.size + 1 + 1) (by omega)).trans o3)
        exact places_seq Fence.wide 2 trivial rfl (by omega) _ _ (by omega) N j (by omega) (by omega) W1 e1.1 e2.1 e1.2 e2.2)
      (by omega) (by omega) (by omega) (fun _ => rfl)
      (fun pre W => W.cell? ⟨w.heap.size, 0, none⟩ = some (.int .i64 (cntP pre : Int)) ∧ W.frozen? ⟨w.heap.size, 0, none⟩ = false ∧ Below w.heap.size w W ∧ w.heap.size < W.heap.size)
      (fun _ _ _ => False)
      (fun s A B hs hk => ⟨(hk.cell (p := ⟨w.heap.size, 0, none⟩) hs.2.2.2 (by constructor <;> (simp; try omega))).trans hs.1, (World.frozen?_of_block (hk.block w.heap.size hs.2.2.2 (by constructor <;> (simp; try omega)))).trans hs.2.1,
        hk.to_below hs.2.2.1 (by have := hs.2.2.2; omega) (fun k hk2 => by constructor <;> (try simp) <;> omega), Nat.lt_of_lt_of_le hs.2.2.2 hk.size⟩)
      (fun _ _ _ _ h _ => h) (fun _ _ _ _ h _ => h)
      ⟨(cell1 _ _ _ _ o1).1, (cell1 _ _ _ _ o1).2, hB0, by omega⟩
      (fun x => { tmps := #[.int .i64 (N : Int), .int .i64 (j : Int), undef, undef, .int .i64 0, .pointer (some ⟨w.heap.size, 0, none⟩), .int .i64 (x.1 : Int), .int .i64 (x.2 : Int), .int .i64 (N : Int), .int .i64 (j : Int), .bool true, .int .i64 (N : Int), .int .i64 (j : Int),
          .func (.func 92) #[] #[.pointer (some ⟨w.heap.size + 1, 0, none⟩), .pointer (some ⟨w.heap.size + 1 + 1, 0, none⟩)], .int .i64 (x.1 : Int), .int .i64 (x.2 : Int), undef, undef, undef, undef, undef, undef, undef], defers := [] }) ?assign ?body ?done ?stop
    case assign =>
      intro l x W K hK
      gi_wp2
      exact hK
    case body =>
      rintro l pre ⟨a, b⟩ W ⟨hc, hf, hbw, hlt⟩ hpre _ hW2
      have hmem : (a, b) ∈ walkN N j := hpre.subset (by simp)
      obtain ⟨q1, q2, q3⟩ := walkP_in 1024 N j (by omega) _ hmem
      dsimp only at q1 q2 q3
      have hlen : pre.length ≤ 10 := by have := hpre.length_le; have := walkN_len N j (by omega); simp at *; omega
      have hcn := cntP_le pre
      have hsn := cntP_snoc pre (a, b)
      have h1 : 1 ≤ 3 - 1 - 1 := by omega
      have HP := Lib.hid hpre
      have HM := Lib.hid hmem
      have HS := Lib.hid hsn
      have HZ := Lib.hid hsz
      have HO1 := Lib.hid o1
      have HO2 := Lib.hid o2
      have HO3 := Lib.hid o3
      clear hpre hmem hsn hsz o1 o2 o3
      by_cases hz : 0 ≤ besideZ a b
      · gi_wp2_with (refine ⟨trivial, ?_⟩; gi_at_call 73; refine (CallsIn.inRound l (callsIn_wide.2 (beside_any a b _ q1 (by omega)))).mono ?_; rintro e w' ⟨rfl, rfl⟩)
        refine ⟨(Kept.refl _ _).setCell (by have := HZ.out; simp; omega) _, ?_, ?_, hbw.setCell (p := ⟨w.heap.size, 0, none⟩) (Nat.le_refl _) _, by simpa [World.setCell] using hlt⟩
        · rw [HS.out, if_pos hz, World.cell?_setCell_same' _ _ _ (by rw [hc]; rfl)]; simp
        · rw [World.frozen?_setCell]; exact hf
      · gi_wp2_with (refine ⟨trivial, ?_⟩; gi_at_call 73; refine (CallsIn.inRound l (callsIn_wide.2 (beside_any a b _ q1 (by omega)))).mono ?_; rintro e w' ⟨rfl, rfl⟩)
        exact ⟨Kept.refl _ _, by rw [HS.out, if_neg (by omega)]; exact hc, hf, hbw, hlt⟩
    case done =>
      rintro xs W rfl ⟨hc, hf, hbw, hlt⟩ hW2 hK
      gi_wp2
      refine ⟨by simp, .inl ⟨_, _, rfl, run_takeDeferred hK, ?_⟩⟩
      refine ⟨_, results_tmp rfl _ _ _, by rw [hd]; rfl, ?_⟩
      exact hbw.grown (grownBy_putObj' _ _ _) hbw.size (fun k e => by cases e; omega)
    case stop =>
      rintro c pre W _ h _ _
      exact h.elim
  · gi_wp2_with (first
      | (refine ⟨trivial, ?_⟩; gi_at_call 70; refine (callsIn_wide.2 (right_any n i _)).mono ?_; rintro e w' ⟨rfl, rfl⟩; simp only [hr]))
    have hd : depthZ n i = 0 := by unfold depthZ; rw [if_neg hr]
    refine ⟨_, results_tmp rfl _ _ _, by rw [hd]; rfl, (Below.refl _ w).alloc (Nat.le_refl _) _⟩

end Go.Proofs.YtnomekfemadpeaaDoor

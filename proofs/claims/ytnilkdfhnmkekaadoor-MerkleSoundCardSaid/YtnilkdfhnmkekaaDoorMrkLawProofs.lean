/- The walk of the law MerkleProofs: it answers true. Condition: the table of constants as the program lays it. -/
import Derived.Test.YtnilkdfhnmkekaaDoorMrkRefProof
import Derived.Test.YtnilkdfhnmkekaaDoorMrkRefDepth
namespace Go.Proofs.YtnilkdfhnmkekaaDoor
open Go.RowKit
set_option linter.unusedVariables false
set_option linter.unusedSimpArgs false

theorem proofL_count (n : Nat) : ∀ (l : List (List UInt8)) (i : Nat), l.length ≤ n → i < l.length → l.length ≤ 1024 → (proofL l i).length = cntP (walkN l.length i) := by
  induction n with
  | zero => intro l i h1 h2; omega
  | succ n ih =>
    intro l i h1 h2 h3
    by_cases h : 1 < l.length
    · rw [proofL_step h, walkN_step h h3, cntP_cons, List.length_append, ih (aboveL l) (i / 2) (by rw [aboveL_len]; omega) (by rw [aboveL_len]; omega) (by rw [aboveL_len]; omega), aboveL_len]
      unfold stepP
      split <;> simp
    · rw [proofL_end (by omega) i h2, walkN_end (by omega)]
      rfl
theorem depth_proof (l : List (List UInt8)) (i : Nat) (h : i < l.length) (hl : l.length ≤ 1024) : depthZ (l.length : Int) (i : Int) = (proofL l i).length := by
  rw [proofL_count _ l i (Nat.le_refl _) h hl]
  unfold depthZ
  rw [if_pos (by simp [rightB]; omega)]
  simp

set_option maxRecDepth 100000 in
set_option maxHeartbeats 3200000 in
theorem MerkleProofs_walk (v : Value) (l : List (List UInt8)) (i n : Int) (w : World) (hl : Digs w v l) (i1 : -9223372036854775808 ≤ i) (i2 : i ≤ 9223372036854775807) (n1 : -9223372036854775808 ≤ n) (n2 : n ≤ 9223372036854775807) (hK : Consts w) :
    Calls Tryd.prog 7 #[v, .int .i64 i, .int .i64 n] w fun e w' => e = .returned (.bool true) ∧ Below w.heap.size w w' := by
  have hle := hl.le
  unfold maxLen at hle
  obtain ⟨a, cp, hv⟩ := hl.len
  subst hv
  have hgd := guard_dig
  obtain ⟨p, E, hp⟩ : ∃ p E, proofE l i = (p, E) := ⟨_, _, rfl⟩
  have hE : (E = 0 ∧ depthZ l.length i = p.length) ∨ E = 1 := by
    unfold proofE at hp
    split at hp
    · rename_i h
      simp only [Prod.mk.injEq] at hp
      obtain ⟨j, rfl⟩ : ∃ j : Nat, i = (j : Int) := ⟨i.toNat, by omega⟩
      left
      refine ⟨hp.2.symm, ?_⟩
      rw [depth_proof l j (by omega) (by omega), ← hp.1]
      simp
    · simp only [Prod.mk.injEq] at hp
      exact .inr hp.2.symm
  have hpr := Proof_any (.slice a l.length cp) l i
  have hrp := RProof_any (.slice a l.length cp) l i
  rw [hp] at hpr hrp
  clear hp
  go_enter Tryd.func7, Tryd.ntmps7
  go_wp2_with fail
  refine (awake_any w hK).mono ?_
  rintro e w2 ⟨rfl, hb2⟩
  replace hl := hl.of_new hb2
  by_cases hs : l.length ≤ 1100
  case neg =>
    have hs' : (1100 : Int) < (l.length : Int) := by omega
    go_wp2
    go_ret
    exact ⟨rfl, hb2⟩
  have hs' : ¬ (1100 : Int) < (l.length : Int) := by omega
  have hpr2 := hpr w2 hl i1 i2 (hK.of_new hb2)
  go_wp2_with fail
  refine hpr2.mono ?_
  rintro e w3 ⟨v3, rfl, ho3, hb3⟩
  replace hl := hl.of_new hb3
  have hrp2 := hrp w3 hl i1 i2
  clear hpr hrp hpr2
  go_wp2_with fail
  refine hrp2.mono ?_
  rintro e w4 ⟨v4, rfl, ho4, hb4⟩
  have hl3 := ho3.digs.of_new hb4
  have hl4 := ho4.digs
  have hB4 := below_next (below_next hb2 hb3) hb4
  have hple := hl4.le
  unfold maxLen at hple
  clear ho3 ho4 hrp2 hb2 hb3 hb4
  go_wp2_with fail
  refine (Same_any _ _ p p _ hl3 hl4).mono ?_
  rintro e w5 ⟨rfl, hb5⟩
  have t1 : decide (p = p) = true := by simp
  simp only [t1]
  replace hl3 := hl3.of_new hb5
  obtain ⟨x3, y3, hv⟩ := hl3.len
  subst hv
  have hB5 := below_next hB4 hb5
  clear hB4 hb5
  have hD1 := fun w => Depth_any n i w
  have hD2 := fun w => RDepth_any n i w n1 n2 i1 i2
  generalize depthZ n i = D at *
  rcases hE with ⟨rfl, hd⟩ | rfl
  · have hD3 := fun w => Depth_any (l.length : Int) i w
    rw [hd] at hD3
    have hplen : p.length ≤ 1000000 ∨ True := .inr trivial
    clear hd hplen
    go_wp2_with fail
    refine (hD1 _).mono ?_
    rintro e w6 ⟨rfl, hb6⟩
    have hB6 := below_next hB5 hb6
    go_wp2_with fail
    refine (hD2 _).mono ?_
    rintro e w7 ⟨rfl, hb7⟩
    have hB7 := below_next hB6 hb7
    go_wp2_with fail
    refine (hD3 _).mono ?_
    rintro e w8 ⟨rfl, hb8⟩
    have hB8 := below_next hB7 hb8
    clear hD1 hD2 hD3
    go_wp2
    go_ret
    exact ⟨rfl, hB8⟩
  · go_wp2_with fail
    refine (hD1 _).mono ?_
    rintro e w6 ⟨rfl, hb6⟩
    have hB6 := below_next hB5 hb6
    go_wp2_with fail
    refine (hD2 _).mono ?_
    rintro e w7 ⟨rfl, hb7⟩
    have hB7 := below_next hB6 hb7
    clear hD1 hD2
    go_wp2
    go_ret
    exact ⟨rfl, hB7⟩

end Go.Proofs.YtnilkdfhnmkekaaDoor

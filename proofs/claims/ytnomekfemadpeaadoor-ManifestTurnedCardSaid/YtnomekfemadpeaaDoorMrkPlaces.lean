/- The walk of merkle.places: the places of a leaf in the rows. Conditions: a place in a tree of no more than 1024 leaves. -/
import Derived.Test.YtnomekfemadpeaaDoorBase
import Derived.Test.YtnomekfemadpeaaDoorSeq
import Derived.Test.YtnomekfemadpeaaDoorProg
import Derived.LoopNIn
import Derived.LoopIn
import Derived.Shelf.Abstract
import Derived.Shelf.RegionOpen
namespace Go.Proofs.YtnomekfemadpeaaDoor
open Go.RowKit Go.Shelf
attribute [local go_sem] Oper.semAt_some
set_option linter.unusedVariables false
set_option linter.unusedSimpArgs false

/-- The places of leaf i of n in the rows, with how many each has. -/
def walkP : Nat → Nat → Nat → List (Nat × Nat)
  | 0, _, _ => []
  | f + 1, n, i => if n ≤ 1 then [] else (n, i) :: walkP f ((n + 1) / 2) (i / 2)

def walkN (n i : Nat) : List (Nat × Nat) := walkP 1024 n i

theorem walkP_more (f g n i : Nat) (hf : n ≤ f) (hg : n ≤ g) : walkP f n i = walkP g n i := by
  induction f generalizing g n i with
  | zero =>
    cases g with
    | zero => rfl
    | succ g => simp only [walkP]; rw [if_pos (by omega)]
  | succ f ih =>
    cases g with
    | zero => simp only [walkP]; rw [if_pos (by omega)]
    | succ g =>
      simp only [walkP]
      split
      · rfl
      · rw [ih g _ _ (by omega) (by omega)]

theorem walkN_step {n i : Nat} (h : 1 < n) (hn : n ≤ 1024) : walkN n i = (n, i) :: walkN ((n + 1) / 2) (i / 2) := by
  unfold walkN
  rw [walkP, if_neg (by omega), walkP_more 1023 1024 _ _ (by omega) (by omega)]
theorem walkN_end {n i : Nat} (h : n ≤ 1) : walkN n i = [] := by
  unfold walkN
  rw [walkP, if_pos h]

theorem two_cells {W : World} {bn bi : Nat} (hne : bn ≠ bi) {u1 u2 : Value} (v1 v2 : Value) (c1 : W.cell? ⟨bn, 0, none⟩ = some u1) (c2 : W.cell? ⟨bi, 0, none⟩ = some u2) (c3 : W.frozen? ⟨bn, 0, none⟩ = false) (c4 : W.frozen? ⟨bi, 0, none⟩ = false) :
    ((W.setCell ⟨bn, 0, none⟩ v1).setCell ⟨bi, 0, none⟩ v2).cell? ⟨bn, 0, none⟩ = some v1 ∧ ((W.setCell ⟨bn, 0, none⟩ v1).setCell ⟨bi, 0, none⟩ v2).cell? ⟨bi, 0, none⟩ = some v2 ∧
      ((W.setCell ⟨bn, 0, none⟩ v1).setCell ⟨bi, 0, none⟩ v2).frozen? ⟨bn, 0, none⟩ = false ∧ ((W.setCell ⟨bn, 0, none⟩ v1).setCell ⟨bi, 0, none⟩ v2).frozen? ⟨bi, 0, none⟩ = false ∧
      Kept (fun k => ¬ (k = bn ∨ k = bi)) W ((W.setCell ⟨bn, 0, none⟩ v1).setCell ⟨bi, 0, none⟩ v2) := by
  have k1 : (W.setCell ⟨bn, 0, none⟩ v1).cell? ⟨bn, 0, none⟩ = some v1 := World.cell?_setCell_same' _ _ _ (by rw [c1]; rfl)
  have k2 : (W.setCell ⟨bn, 0, none⟩ v1).cell? ⟨bi, 0, none⟩ = some u2 := (World.cell?_of_block (Below.heap_setCell _ _ _ _ (fun e => hne (by simpa using e.symm)))).trans c2
  refine ⟨(World.cell?_of_block (Below.heap_setCell _ _ _ _ (fun e => hne (by simpa using e)))).trans k1, World.cell?_setCell_same' _ _ _ (by rw [k2]; rfl), ?_, ?_, ((Kept.refl _ W).setCell (by simp) _).setCell (by simp) _⟩
  · rw [World.frozen?_setCell, World.frozen?_setCell]; exact c3
  · rw [World.frozen?_setCell, World.frozen?_setCell]; exact c4

abbrev encP (p : Nat × Nat) : Array Value := #[.int .i64 (p.1 : Int), .int .i64 (p.2 : Int)]

set_option maxRecDepth 100000 in
set_option maxHeartbeats 1600000 in
theorem places_seq (F : Fence) (n : Nat) (hF : F.fn 92) (hro : F.round = none) (hn : 1 ≤ n) (bn bi : Nat) (hne : bn ≠ bi) (N i : Nat) (hN : N ≤ 1024) (hi : i < 1024) (W : World)
    (h1 : W.cell? ⟨bn, 0, none⟩ = some (.int .i64 (N : Int))) (h2 : W.cell? ⟨bi, 0, none⟩ = some (.int .i64 (i : Int))) (h3 : W.frozen? ⟨bn, 0, none⟩ = false) (h4 : W.frozen? ⟨bi, 0, none⟩ = false) :
    SeqC F n Tryd.prog 92 #[.pointer (some ⟨bn, 0, none⟩), .pointer (some ⟨bi, 0, none⟩)] encP (fun pre x _ => pre ++ [x] <+: walkN N i) (fun k => k = bn ∨ k = bi) (fun k => k = bn ∨ k = bi)
      (fun xs => xs = walkN N i) (fun _ => True) (walkN N i).length W := fun l J Jx hJ hJx hY h0 => by
  refine callsIn_of_wp Tryd.func92 rfl hF ?_ hro
  simp only [Tryd.ntmps92, List.size_toArray, List.length_cons, List.length_nil, Nat.reduceAdd, Nat.reduceSub, Array.replicate_succ, Array.replicate_zero, List.push_toArray, List.append_toArray, List.nil_append, List.cons_append]
  gi_wp2
  gi_loopw [] (fun wr => ∃ (pre : List (Nat × Nat)) (a b : Nat), walkN N i = pre ++ walkN a b ∧ a ≤ 1024 ∧ b < 1024 ∧ wr.cell? ⟨bn, 0, none⟩ = some (.int .i64 (a : Int)) ∧ wr.cell? ⟨bi, 0, none⟩ = some (.int .i64 (b : Int)) ∧ wr.frozen? ⟨bn, 0, none⟩ = false ∧ wr.frozen? ⟨bi, 0, none⟩ = false ∧ J pre wr)
    (fun wr => (intOf ((wr.cell? ⟨bn, 0, none⟩).getD undef)).toNat)
  case atStart => exact ⟨[], N, i, rfl, hN, hi, h1, h2, h3, h4, h0⟩
  case round =>
    clear h1 h2 h3 h4 h0
    obtain ⟨pre, a, b, hw, ha, hb, h1, h2, h3, h4, hj⟩ := hrel
    have HW := Lib.hid hw
    clear hw
    by_cases hlt : 1 < a
    · have hx : pre ++ [(a, b)] <+: walkN N i := ⟨walkN ((a + 1) / 2) (b / 2), by rw [HW.out, walkN_step hlt ha]; simp⟩
      obtain ⟨fn, tmps, assign, body, hy, hR⟩ := hY pre (a, b) wr hj hx (by have := hx.length_le; simp at this; omega)
      dsimp only [encP] at hy
      have hg : ((1 : Int) < (a : Int)) := by omega
      have HX := Lib.hid hx
      clear hx
      gi_wp2
      refine hR.mono ?_
      rintro e W3 (⟨rfl, hJ3, hk3⟩ | ⟨rfl, hJx3⟩)
      · have hbn : bn < wr.heap.size := by
          exact World.block_lt_of_cell? _ _ h1
        have hbi : bi < wr.heap.size := by
          exact World.block_lt_of_cell? _ _ h2
        have c1 : W3.cell? ⟨bn, 0, none⟩ = some (.int .i64 (a : Int)) := (hk3.cell (p := ⟨bn, 0, none⟩) hbn (.inl rfl)).trans h1
        have c2 : W3.cell? ⟨bi, 0, none⟩ = some (.int .i64 (b : Int)) := (hk3.cell (p := ⟨bi, 0, none⟩) hbi (.inr rfl)).trans h2
        have c3 : W3.frozen? ⟨bn, 0, none⟩ = false := (World.frozen?_of_block (a := ⟨bn, 0, none⟩) (hk3.block bn hbn (.inl rfl))).trans h3
        have c4 : W3.frozen? ⟨bi, 0, none⟩ = false := (World.frozen?_of_block (a := ⟨bi, 0, none⟩) (hk3.block bi hbi (.inr rfl))).trans h4
        gi_wp2
        have hmix : Tryd.prog.follows .mixedOrders = true := by kernel_rfl
        gi_region
        all_goals gi_wp2
        all_goals (try go_bits)
        all_goals
          obtain ⟨d1, d2, d3, d4, d5⟩ := two_cells hne (.int .i64 (((a : Int) + 1) / 2)) (.int .i64 ((b : Int) / 2)) c1 c2 c3 c4
          refine ⟨⟨pre ++ [(a, b)], (a + 1) / 2, b / 2, by rw [HW.out, walkN_step hlt ha]; simp, by omega, by omega, ?_, ?_, d3, d4, hJ _ _ _ hJ3 d5.drew⟩, ?_⟩
          · exact d1.trans (by simp)
          · exact d2.trans (by simp)
          · show (intOf (((((W3.setCell _ _).setCell _ _)).cell? _).getD undef)).toNat < _
            rw [d1, h1]
            simp only [Option.getD_some, intOf]
            omega
      · gi_wp2
        refine bodyPost_ret (results_none rfl _ _ _) rfl ?_
        exact ⟨⟨_, rfl⟩, .inr ⟨_, trivial, hJx3⟩⟩
    · have hg : ¬ ((1 : Int) < (a : Int)) := by omega
      gi_wp2
      go_end0
      exact ⟨⟨_, rfl⟩, .inl (by have e : pre = walkN N i := (by rw [HW.out, walkN_end (n := a) (by omega)]; simp); rw [← e]; exact hj)⟩

end Go.Proofs.YtnomekfemadpeaaDoor

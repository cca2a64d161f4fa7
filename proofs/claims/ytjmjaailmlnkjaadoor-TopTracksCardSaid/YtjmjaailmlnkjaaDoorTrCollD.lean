/- The walks of slices.AppendSeq and slices.Collect at a sequence of hashes, in whatever order. Condition: the iterator's contract. -/
import Derived.Test.YtjmjaailmlnkjaaDoorTrVal
import Derived.Test.YtjmjaailmlnkjaaDoorRecDig
import Derived.Test.YtjmjaailmlnkjaaDoorKit
import Derived.Test.YtjmjaailmlnkjaaDoorGa
namespace Go.Proofs.YtjmjaailmlnkjaaDoor
open Go.RowKit Go.Shelf
attribute [local go_sem] Oper.semAt_some
set_option linter.unusedVariables false
set_option linter.unusedSimpArgs false
set_option maxRecDepth 100000

/-- What holds ahead of each round of AppendSeq. -/
def CollKI (w : World) (n0 : Nat) (G : Nat → Prop) (pre : List (List UInt8 × Value)) (W : World) : Prop :=
  ∃ ov ps, pre.map Prod.fst = ps ∧ One W w.heap.size ov 69 ∧ RDig.Own W (w.heap.size + 3) ov ps ∧ (∀ k, ov.ownBlock = some k → ¬ G k) ∧ Below n0 w W ∧ w.heap.size + 1 ≤ W.heap.size
/-- A round's variable: in a block of its own. -/
def CollKG (w : World) (tm : Value → Value → Array Value) (x : List UInt8 × Value) (a : Act) (W : World) : Prop :=
  ∃ g q, (x.1 = q ∧ q.length = 32) ∧ w.heap.size + 3 ≤ g ∧ RDig.O W g q ∧ a = { tmps := tm (.pointer (some ⟨g, 0, none⟩)) (RDig.V q), defers := [] }

set_option maxHeartbeats 3200000 in
theorem AppendSeqK_any (gf : Nat) (lb : Array Value) (L : List (List UInt8 × Value)) (n0 : Nat) (O : Nat → Prop) (w : World) (hLx : ∀ x ∈ L, x.1.length = 32) (hL : L.length ≤ 1048576) (hn0 : n0 ≤ w.heap.size) (hO : ∀ k, O k → n0 ≤ k ∧ k < w.heap.size)
    (eg : ∀ args w, (callFunc gf args).run Tryd.prog w = .ok (.enter gf args) w)
    (hseq : ∀ W1, Below w.heap.size w W1 → w.heap.size ≤ W1.heap.size → SeqT Fence.wide 4 Tryd.prog gf lb (fun x : List UInt8 × Value => #[RDig.V x.1]) (fun pre x _ => x ∈ L) (fun xs => xs.Perm L) O n0 L.length W1) :
    Calls Tryd.prog 37 #[.slice none 0 0, .func (.func gf) #[] lb] w fun e w' => ∃ v ps, e = .returned v ∧ ps.Perm (L.map Prod.fst) ∧ RDig.Own w' w.heap.size v ps ∧ Below n0 w w' := by
  refine (callsIn_wide (n := 5)).1 ?_
  refine callsIn_of_wp_marks Tryd.func37 rfl trivial ?_ rfl
  simp only [Tryd.ntmps37, List.size_toArray, List.length_cons, List.length_nil, Nat.reduceAdd, Nat.reduceSub, Array.replicate_succ, Array.replicate_zero, List.push_toArray, List.append_toArray, List.nil_append, List.cons_append]
  gi_wp2
  generalize hW0 : w.alloc _ = W0
  obtain ⟨hsz, hB0, o1⟩ : W0.heap.size = w.heap.size + 1 ∧ Below w.heap.size w W0 ∧ One W0 w.heap.size (.slice none 0 0) 69 := by
    subst hW0
    exact ⟨by simp, (Below.refl _ w).alloc (Nat.le_refl _) _, heap_alloc_new _ _⟩
  clear hW0
  refine wpIn_rangeFunc_total (F := Fence.wide) (n := 5) rfl (by omega) (gf := gf) (lb := lb) rfl trivial eg (encs := fun x : List UInt8 × Value => #[RDig.V x.1]) (It := fun pre x _ => x ∈ L) (S := fun xs => xs.Perm L) (O := O) (n0 := n0) (N := L.length) (by omega) (fun k h => by have := (hO k h).2; omega)
    (fun W1 hb1 hs1 => hseq W1 (hB0.trans (hb1.mono (by omega))) (by omega)) (fun _ => rfl)
    (CollKI w n0)
    (fun G s A B hG hs hk => by
      obtain ⟨ov, ps, a0, a1, a2, a3, a4, a5⟩ := hs
      refine ⟨ov, ps, a0, a1.of_block (hk.block _ a1.lt ⟨fun h => ?_, by omega⟩), a2.kept (fun k hk2 => hk.block _ (a2.lt k hk2).2 ⟨a3 k hk2, ?_⟩), a3, hk.to_below a4 (by omega) (fun k hk2 => ⟨fun h => ?_, by omega⟩), Nat.le_trans a5 hk.size⟩
      · rcases hG _ h with h | h
        · omega
        · have := (hO _ h).2; omega
      · have := (a2.lt k hk2).1; omega
      · rcases hG _ h with h | h
        · omega
        · have := (hO _ h).1; omega)
    (fun _ _ _ _ h _ => h)
    (fun G W' hG hb => ⟨.slice none 0 0, [], rfl, o1.of_block (hb.block _ (by omega)), RecT.Own.nil _ _, (fun k h => by cases h), (hB0.trans (hb.mono (by omega))).mono hn0, by have := hb.size; omega⟩)
    (CollKG w fun p y => #[.slice none 0 0, .func (.func gf) #[] lb, .pointer (some ⟨w.heap.size, 0, none⟩), undef, .slice none 0 0, p, .func (.func gf) #[] lb, y, undef, undef, undef, undef, undef])
    (fun x a A B hg hk => by
      obtain ⟨g, q, h0, h1, h2, h4⟩ := hg
      exact ⟨g, q, h0, h1, h2.of_block (hk.block g h2.lt (by omega)), h4⟩)
    ?assign ?body ?done
  case assign =>
    intro l pre x W K hit hs hK
    have h32 := hLx x hit; obtain ⟨q, u⟩ := x; replace h32 : RDig.ok q := h32
    have hK' := Lib.hid hK
    clear hK
    dsimp only
    go_simp
    gi_wp2_with (first
      | ((with_reducible refine wpListIn_round (o := ⟨some 5, Op.alloc _, _, _, _, _⟩) rfl (fun c hc => by cases hc) ?_); (refine RDig.wp_alloc rfl fun w3 ho3 hb3 hs3 => ?_); have HO3 := Lib.hid ho3; have HB3 := Lib.hid hb3; clear ho3 hb3 hs3)
      | ((with_reducible refine wpListIn_round (o := ⟨none, Op.store _ (.tmp 5) (.tmp 7), _, _, _, _⟩) rfl (fun c hc => by cases hc) ?_); (refine HO3.out.store (.tmp 5) (.tmp 7) rfl rfl rfl (h32) fun w4 ho4 hg4 hs4 => ?_); have HB4 := Lib.hid (HB3.out.grown hg4 (by have := HB3.out.size; omega) (fun k e => by cases e; exact Nat.le_refl _)); have HO4 := Lib.hid ho4; clear ho4 hg4 hs4))
    exact hK'.out _ _ HB4.out ⟨W.heap.size, q, ⟨rfl, h32⟩, by omega, HO4.out, rfl⟩
  case body =>
    rintro l G pre x a' W hG hGl ⟨ov, ps, q0, q1, q2, q3, q4, q5⟩ hit ⟨g, q, ⟨hxq, h32⟩, g1, g2, rfl⟩ hlen hW2
    obtain ⟨oa, oc, hv⟩ := q2.row.len
    subst hv
    have qc := q1.cell
    have qf := q1.free
    have hGw : ¬ G w.heap.size := fun h => by
      rcases hG _ h with h | h
      · omega
      · have := (hO _ h).2; omega
    have HQ2 := Lib.hid q2
    have HG2 := Lib.hid g2
    have hpl : ps.length < L.length := by rw [← q0, List.length_map]; exact hlen
    gi_wp2_with (first
      | ((with_reducible refine wpListIn_round (o := ⟨some 9, _, _, _, _, _⟩) rfl (fun c hc => by cases hc) ?_); refine HG2.out.at_.wp rfl rfl ?_)
      | ((with_reducible refine wpListIn_round (o := ⟨some 10, _, _, _, _, _⟩) rfl (fun c hc => by cases hc) ?_); refine RDig.wp_build1 (x := q) Tryd.underlying69 (.tmp 9) (h32) rfl rfl ?_; intro w2 ho2 hb2 hs2; have HO2 := Lib.hid ho2.row; have HB2 := Lib.hid hb2; have HQ3 := Lib.hid (q2.kept (w' := w2) (fun k hk2 => hb2.block _ (q2.lt k hk2).2)); have qc2 := (q1.of_new hb2).cell; have qf2 := (q1.of_new hb2).free; clear ho2 hb2)
      | ((with_reducible refine wpListIn_round (o := ⟨some 11, _, _, _, _, _⟩) rfl (fun c hc => by cases hc) ?_); refine HQ3.out.app Tryd.underlying69 (.tmp 8) (.tmp 10) rfl rfl rfl HO2.out (by simp; omega) (by omega) ?_; intro v3 w3 ho3 hg3 hu3; obtain ⟨va, vc, hv3⟩ := ho3.row.len; subst hv3; have q13 := (q1.of_new HB2.out).grown hg3 (fun e => by have := (HQ3.out.lt _ e.symm).1; omega); have qc3 := q13.cell; have qf3 := q13.free))
    have hwne : ∀ r, (Value.slice oa ps.length oc).ownBlock = some r → w.heap.size + 3 ≤ r := fun r e => (q2.lt r e).1
    have ho4 : RDig.Own (w3.setCell ⟨w.heap.size, 0, none⟩ (.slice va (ps.length + 1) vc)) (w.heap.size + 3) (.slice va (ps.length + 1) vc) (ps ++ [q]) := by
      rw [List.length_append, List.length_singleton] at ho3
      exact ho3.kept (fun k hk2 => Below.heap_setCell _ _ _ _ (by have := (ho3.lt k hk2).1; show k ≠ w.heap.size; omega))
    refine ⟨(((Kept.refl _ W).below HB2.out).grown hg3 (fun r e => ?_)).setCell (fun h => ?_) _, _, ps ++ [q], by simp [q0, hxq], q13.set _, ho4, fun k hk2 hGk => ?_, ?_, ?_⟩
    · rintro (h | h | h | h)
      · exact q3 r e h
      · have := hwne r e; omega
      · have := hwne r e; omega
      · have := hwne r e; omega
    · rcases h with h | h | h | h
      · exact hGw h
      · dsimp only at h; omega
      · dsimp only at h; omega
      · dsimp only at h; omega
    · rcases hu3 k (by rw [List.length_append] at *; exact hk2) with h | h
      · exact q3 k h hGk
      · have := hGl k hGk; have := HB2.out.size; omega
    · have hA : Below n0 w w2 := q4.trans (HB2.out.mono (by omega))
      exact (hA.grown hg3 (by omega) (fun r e => by have := hwne r e; omega)).setCell (by show n0 ≤ w.heap.size; omega) _
    · have := hg3.size
      have := HB2.out.size
      simp only [World.size_setCell]; omega
  case done =>
    rintro G xs W hS ⟨ov, ps, q0, q1, q2, q3, q4, q5⟩ hW2 hD
    obtain ⟨oa, oc, hv⟩ := q2.row.len
    subst hv
    have qc := q1.cell
    have qf := q1.free
    gi_wp2
    refine ⟨by simp, .inl ⟨_, _, rfl, run_takeDeferred hD, ?_⟩⟩
    refine ⟨_, results_tmp rfl _ _ _, ?_⟩
    have ho := q2.kept (w' := W.putObj W0.heap.size (.deferred none)) (fun k hk2 => World.putObj_heap_other (by have := (q2.lt k hk2).1; omega))
    exact ⟨_, ps, rfl, by rw [← q0]; exact hS.map _, ho.mono (by omega), q4.grown (grownBy_putObj' _ _ _) (by omega) (fun k e => by cases e; omega)⟩

set_option maxHeartbeats 800000 in
theorem CollectK_any (gf : Nat) (lb : Array Value) (L : List (List UInt8 × Value)) (n0 : Nat) (O : Nat → Prop) (w : World) (hLx : ∀ x ∈ L, x.1.length = 32) (hL : L.length ≤ 1048576) (hn0 : n0 ≤ w.heap.size) (hO : ∀ k, O k → n0 ≤ k ∧ k < w.heap.size)
    (eg : ∀ args w, (callFunc gf args).run Tryd.prog w = .ok (.enter gf args) w)
    (hseq : ∀ W1, Below w.heap.size w W1 → w.heap.size ≤ W1.heap.size → SeqT Fence.wide 4 Tryd.prog gf lb (fun x : List UInt8 × Value => #[RDig.V x.1]) (fun pre x _ => x ∈ L) (fun xs => xs.Perm L) O n0 L.length W1) :
    Calls Tryd.prog 24 #[.func (.func gf) #[] lb] w fun e w' => ∃ v ps, e = .returned v ∧ ps.Perm (L.map Prod.fst) ∧ RDig.Own w' w.heap.size v ps ∧ Below n0 w w' := by
  go_enter Tryd.func24, Tryd.ntmps24
  go_wp2_with fail
  refine (AppendSeqK_any gf lb L n0 O w hLx hL hn0 hO eg hseq).mono ?_
  rintro e w2 ⟨v, ps, rfl, hp, ho, hb⟩
  go_wp2
  go_ret
  exact ⟨v, ps, rfl, hp, ho, hb⟩

end Go.Proofs.YtjmjaailmlnkjaaDoor

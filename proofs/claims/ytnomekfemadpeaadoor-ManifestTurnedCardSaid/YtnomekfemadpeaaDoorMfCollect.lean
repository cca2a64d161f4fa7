/- The walks of slices.AppendSeq and slices.Collect at a sequence of hashes. Condition: the iterator's contract. -/
import Derived.Test.YtnomekfemadpeaaDoorSeqT
import Derived.Test.YtnomekfemadpeaaDoorMrkMore
import Derived.Test.YtnomekfemadpeaaDoorMrkRoot
import Derived.Test.YtnomekfemadpeaaDoorCommon
namespace Go.Proofs.YtnomekfemadpeaaDoor
open Go.RowKit Go.Shelf
attribute [local go_sem] Oper.semAt_some
set_option linter.unusedVariables false
set_option linter.unusedSimpArgs false
set_option maxRecDepth 100000

theorem wp_store_fresh {w : World} {A : Array Value} {op : Oper} {a : Act} {K : Act → World → Prop} {Q : Exit → Act → World → Prop} (x y : Operand) (d : List UInt8) (ho : op.op = .store 25 x y)
    (hx : a.eval x = .pointer (some ⟨w.heap.size, 0, none⟩)) (hy : a.eval y = .agg (d.map B8).toArray) (hA : A.size = 32) (hd : d.length = 32)
    (h : ∀ w', DigAt w' w.heap.size 0 d → Below w.heap.size w w' → w.heap.size < w'.heap.size → K (a.put op.dst undef) w') : op.wp Tryd.prog a (w.alloc (.cells A 25)) K Q := by
  have hrun := run_storeVar_row (P := Tryd.prog) (w.alloc (.cells A 25)) w.heap.size 25 25 A (d.map B8).toArray (heap_alloc_new w _) (by rw [info_dig]; simp [hd]) (by simp [hA, hd]) (octs_one d)
  have ho' : Octs ((w.alloc (.cells A 25)).setRow w.heap.size (d.map B8).toArray) w.heap.size 25 d := setRow_heap _ _ _ _ _ _ (heap_alloc_new w _)
  unfold Oper.wp execOp
  simp only [ho, hx, hy, Instr.storeAt, Instr.sureAddr, Sem.run_bind, Sem.run_pure, Result.andThen_ok, hrun]
  exact h _ (ho'.digAt hd) (((Below.refl _ w).alloc (Nat.le_refl _) _).trans (below_setRow' _ _ _ (Nat.le_refl _))) (by simp [World.setRow])

abbrev encD (x : List UInt8) : Array Value := #[.agg (x.map B8).toArray]

/-- What holds ahead of each round of AppendSeq. -/
def CollI (w : World) (n0 : Nat) (G : Nat → Prop) (pre : List (List UInt8)) (W : World) : Prop :=
  ∃ ov, One W w.heap.size ov 31 ∧ OwnD W (w.heap.size + 3) ov pre ∧ (∀ k, ov.ownBlock = some k → ¬ G k) ∧ Below n0 w W ∧ w.heap.size + 1 ≤ W.heap.size
/-- A round's variable: a hash in a block of its own. -/
def CollG (w : World) (tm : Value → Value → Array Value) (x : List UInt8) (a : Act) (W : World) : Prop :=
  ∃ g, w.heap.size + 3 ≤ g ∧ DigAt W g 0 x ∧ g < W.heap.size ∧ a = { tmps := tm (.pointer (some ⟨g, 0, none⟩)) (.agg (x.map B8).toArray), defers := [] }

set_option maxHeartbeats 1600000 in
theorem AppendSeqD_any (gf : Nat) (lb : Array Value) (L : List (List UInt8)) (n0 : Nat) (O : Nat → Prop) (w : World) (h32 : Dig32 L) (hL : L.length ≤ 1048576) (hn0 : n0 ≤ w.heap.size) (hO : ∀ k, O k → n0 ≤ k ∧ k < w.heap.size)
    (eg : ∀ args w, (callFunc gf args).run Tryd.prog w = .ok (.enter gf args) w)
    (hseq : ∀ W1, Below w.heap.size w W1 → w.heap.size ≤ W1.heap.size → SeqT Fence.wide 4 Tryd.prog gf lb encD (fun pre x _ => pre ++ [x] <+: L) (fun xs => xs = L) O n0 L.length W1) :
    Calls Tryd.prog 67 #[.slice none 0 0, .func (.func gf) #[] lb] w fun e w' => ∃ v, e = .returned v ∧ OwnD w' w.heap.size v L ∧ Below n0 w w' := by
  refine (callsIn_wide (n := 5)).1 ?_
  refine callsIn_of_wp_marks Tryd.func67 rfl trivial ?_ rfl
  simp only [Tryd.ntmps67, List.size_toArray, List.length_cons, List.length_nil, Nat.reduceAdd, Nat.reduceSub, Array.replicate_succ, Array.replicate_zero, List.push_toArray, List.append_toArray, List.nil_append, List.cons_append]
  gi_wp2
  generalize hW0 : w.alloc _ = W0
  obtain ⟨hsz, hB0, o1⟩ : W0.heap.size = w.heap.size + 1 ∧ Below w.heap.size w W0 ∧ One W0 w.heap.size (.slice none 0 0) 31 := by
    subst hW0
    exact ⟨by simp, (Below.refl _ w).alloc (Nat.le_refl _) _, heap_alloc_new _ _⟩
  clear hW0
  refine wpIn_rangeFunc_total (F := Fence.wide) (n := 5) rfl (by omega) (gf := gf) (lb := lb) rfl trivial eg (encs := encD) (It := fun pre x _ => pre ++ [x] <+: L) (S := fun xs => xs = L) (O := O) (n0 := n0) (N := L.length) (by omega) (fun k h => by have := (hO k h).2; omega)
    (fun W1 hb1 hs1 => hseq W1 (hB0.trans (hb1.mono (by omega))) (by omega)) (fun _ => rfl)
    (CollI w n0)
    (fun G s A B hG hs hk => by
      obtain ⟨ov, a1, a2, a3, a4, a5⟩ := hs
      refine ⟨ov, a1.of_block (hk.block _ a1.lt ⟨fun h => ?_, by omega⟩), a2.kept (U := fun _ => True) (fun k hk2 => hk.block _ (a2.lt k hk2).2 ⟨a3 k hk2, ?_⟩), a3, hk.to_below a4 (by omega) (fun k hk2 => ⟨fun h => ?_, by omega⟩), Nat.le_trans a5 hk.size⟩
      · rcases hG _ h with h | h
        · omega
        · have := (hO _ h).2; omega
      · have := (a2.lt k hk2).1; omega
      · rcases hG _ h with h | h
        · omega
        · have := (hO _ h).1; omega)
    (fun _ _ _ _ h _ => h)
    (fun G W' hG hb => ⟨.slice none 0 0, o1.of_block (hb.block _ (by omega)), OwnD.nil _ _, (fun k h => by cases h), (hB0.trans (hb.mono (by omega))).mono hn0, by have := hb.size; omega⟩)
    (CollG w fun p y => #[.slice none 0 0, .func (.func gf) #[] lb, .pointer (some ⟨w.heap.size, 0, none⟩), undef, .slice none 0 0, p, .func (.func gf) #[] lb, y, undef, undef, undef, undef, undef])
    (fun x a A B hg hk => by
      obtain ⟨g, h1, h2, h3, h4⟩ := hg
      exact ⟨g, h1, h2.of_block (hk.block g h3 (by omega)), Nat.lt_of_lt_of_le h3 hk.size, h4⟩)
    ?assign ?body ?done
  case assign =>
    intro l pre x W K hit hs hK
    have hx : x.length = 32 := h32 x (hit.subset (by simp))
    gi_wp2_with ((with_reducible refine wpListIn_round (o := ⟨none, Op.store 25 _ _, _, _, _, _⟩) rfl ?_ ?_); (intro c hc; cases hc); refine wp_store_fresh (.tmp 5) (.tmp 7) x rfl rfl rfl rfl hx ?_; intro w2 hd2 hb2 hl2)
    exact hK _ _ hb2 ⟨W.heap.size, by omega, hd2, hl2, rfl⟩
  case body =>
    rintro l G pre x a' W hG hGl ⟨ov, q1, q2, q3, q4, q5⟩ hpre ⟨g, g1, g2, g3, rfl⟩ hlen hW2
    have hx : x.length = 32 := h32 x (hpre.subset (by simp))
    have hx32 : Dig32 [x] := fun d hd => by simp at hd; rw [hd]; exact hx
    obtain ⟨oa, oc, hv⟩ := q2.digs.len
    subst hv
    have qc := q1.cell
    have qf := q1.free
    have hGw : ¬ G w.heap.size := fun h => by
      rcases hG _ h with h | h
      · omega
      · have := (hO _ h).2; omega
    have HQ2 := Lib.hid q2
    have HG2 := Lib.hid g2
    gi_wp2_with (first
      | ((with_reducible refine wpListIn_round (o := ⟨some 9, _, _, _, _, _⟩) rfl ?_ ?_); (intro c hc; cases hc); refine wp_load_at (ty := 25) (x := .tmp 5) rfl rfl HG2.out ?_)
      | ((with_reducible refine wpListIn_round (o := ⟨some 10, _, _, _, _, _⟩) rfl ?_ ?_); (intro c hc; cases hc); refine wp_buildDigs 1 #[(0, .tmp 9)] [x] rfl rfl (by simp) (by simp) hx32 (by simp only [List.map_toArray, List.map_cons, List.map_nil]; rfl) ?_; intro w2 ho2 hb2 hs2; have HO2 := Lib.hid ho2.digs; have HB2 := Lib.hid hb2; have HQ3 := Lib.hid (q2.kept (U := fun _ => True) (w' := w2) (fun k hk2 => hb2.block _ (q2.lt k hk2).2)); have qc2 := (q1.of_new hb2).cell; have qf2 := (q1.of_new hb2).free; clear ho2 hb2)
      | ((with_reducible refine wpListIn_round (o := ⟨some 11, _, _, _, _, _⟩) rfl ?_ ?_); (intro c hc; cases hc); refine wp_appD (.tmp 8) (.tmp 10) rfl (w.heap.size + 3) _ pre rfl HQ3.out _ [x] rfl HO2.out (by simp; omega) (by omega) ?_; intro v3 w3 ho3 hg3 hu3; obtain ⟨va, vc, hv3⟩ := ho3.digs.len; subst hv3; have q13 := (q1.of_new HB2.out).grown hg3 (fun e => by have := (HQ3.out.lt _ e.symm).1; omega); have qc3 := q13.cell; have qf3 := q13.free))
    have hwne : ∀ r, (Value.slice oa pre.length oc).ownBlock = some r → w.heap.size + 3 ≤ r := fun r e => (q2.lt r e).1
    have ho4 : OwnD (w3.setCell ⟨w.heap.size, 0, none⟩ (.slice va (pre.length + 1) vc)) (w.heap.size + 3) (.slice va (pre.length + 1) vc) (pre ++ [x]) := by
      rw [List.length_append, List.length_singleton] at ho3
      exact ho3.kept (U := fun _ => True) (fun k hk2 => Below.heap_setCell _ _ _ _ (by have := (ho3.lt k hk2).1; show k ≠ w.heap.size; omega))
    refine ⟨(((Kept.refl _ W).below HB2.out).grown hg3 (fun r e => ?_)).setCell (fun h => ?_) _, _, q13.set _, ho4, fun k hk2 hGk => ?_, ?_, ?_⟩
    · rintro (h | h | h | h)
      · exact q3 r e h
      · have := hwne r e; omega
      · have := hwne r e; omega
      · have := hwne r e; omega
    · rcases h with h | h | h | h
      · exact hGw h
      · dsimp only at h; omega
      · dsimp only at h; omega
      · dsimp only at h; omega
    · rcases hu3 k (by rw [List.length_append] at *; exact hk2) with h | h
      · exact q3 k h hGk
      · have := hGl k hGk; omega
    · have hA : Below n0 w w2 := q4.trans (HB2.out.mono (by omega))
      exact (hA.grown hg3 (by omega) (fun r e => by have := hwne r e; omega)).setCell (by show n0 ≤ w.heap.size; omega) _
    · have := hg3.size
      simp only [World.size_setCell]; omega
  case done =>
    rintro G xs W rfl ⟨ov, q1, q2, q3, q4, q5⟩ hW2 hD
    obtain ⟨oa, oc, hv⟩ := q2.digs.len
    subst hv
    have qc := q1.cell
    have qf := q1.free
    gi_wp2
    refine ⟨by simp, .inl ⟨_, _, rfl, run_takeDeferred hD, ?_⟩⟩
    refine ⟨_, results_tmp rfl _ _ _, ?_⟩
    have ho := q2.kept (U := fun _ => True) (w' := W.putObj W0.heap.size (.deferred none)) (fun k hk2 => World.putObj_heap_other (by have := (q2.lt k hk2).1; omega))
    exact ⟨_, rfl, ⟨ho.1, ho.2.1, ho.2.2.imp id fun ⟨g, cap, cur, h1, h2, h3⟩ => ⟨g, cap, cur, h1, by omega, h3⟩⟩, q4.grown (grownBy_putObj' _ _ _) (by omega) (fun k e => by cases e; omega)⟩

set_option maxHeartbeats 800000 in
theorem CollectD_any (gf : Nat) (lb : Array Value) (L : List (List UInt8)) (n0 : Nat) (O : Nat → Prop) (w : World) (h32 : Dig32 L) (hL : L.length ≤ 1048576) (hn0 : n0 ≤ w.heap.size) (hO : ∀ k, O k → n0 ≤ k ∧ k < w.heap.size)
    (eg : ∀ args w, (callFunc gf args).run Tryd.prog w = .ok (.enter gf args) w)
    (hseq : ∀ W1, Below w.heap.size w W1 → w.heap.size ≤ W1.heap.size → SeqT Fence.wide 4 Tryd.prog gf lb encD (fun pre x _ => pre ++ [x] <+: L) (fun xs => xs = L) O n0 L.length W1) :
    Calls Tryd.prog 42 #[.func (.func gf) #[] lb] w fun e w' => ∃ v, e = .returned v ∧ OwnD w' w.heap.size v L ∧ Below n0 w w' := by
  go_enter Tryd.func42, Tryd.ntmps42
  go_wp2_with fail
  refine (AppendSeqD_any gf lb L n0 O w h32 hL hn0 hO eg hseq).mono ?_
  rintro e w2 ⟨v, rfl, ho, hb⟩
  go_wp2
  go_ret
  exact ⟨v, rfl, ho, hb⟩

end Go.Proofs.YtnomekfemadpeaaDoor

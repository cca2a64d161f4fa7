/- The walk of merkle.rows (the maker) and of merkle.Root. Conditions: the table of constants as the program lays it; no more than 2048 leaves. -/
import Derived.Test.YtnomekfemadpeaaDoorMrkRows
namespace Go.Proofs.YtnomekfemadpeaaDoor
open Go.RowKit Go.Shelf
attribute [local go_sem] Oper.semAt_some
set_option linter.unusedVariables false
set_option linter.unusedSimpArgs false

set_option maxRecDepth 100000 in
set_option maxHeartbeats 800000 in
theorem rows_any (a : Option Addr) (n c : Nat) (w : World) :
    Calls Tryd.prog 65 #[.slice a n c] w fun e w' => e = .returned (.func (.func 85) #[] #[.pointer (some ⟨w.heap.size, 0, none⟩)]) ∧ w' = w.alloc (.cells #[.slice a n c] 31) := by
  go_enter Tryd.func65, Tryd.ntmps65
  go_wp2
  go_ret
  exact ⟨rfl, rfl⟩

theorem wpListIn_load_dig {F : Fence} {m : Nat} {w : World} {ops : Array Oper} {rest : List Oper} {op : Oper} {a : Act} {Q : Exit → Act → World → Prop} (x : Operand) (g off : Nat) (d : List UInt8) (hgd : op.guard = none) (ho : op.op = .load 25 x)
    (hx : a.eval x = .pointer (some ⟨g, off, none⟩)) (hd : d.length = 32) (hc : ∀ j, j < 32 → w.cell? ⟨g, off + j, none⟩ = (d.map B8)[j]?)
    (h : wpListIn F m Tryd.prog ops Q rest (a.put op.dst (.agg (d.map B8).toArray)) w) : wpListIn F m Tryd.prog ops Q (op :: rest) a w := by
  refine wpListIn_plain hgd fun K hK' => ?_
  have hrun := run_load_dig w g off d hd hc
  unfold Oper.wpIn
  refine ⟨?_, ?_⟩
  · simp [Oper.about, ho]
  · rw [Oper.semAt_plain F _ _ (by rw [ho]; intro c hc'; cases hc')]
    simp only [execOp, ho, hx, Instr.loadAt, Instr.sureAddr, Sem.run_bind, Sem.run_pure, Result.andThen_ok, hrun]
    exact hK' _ _ h

theorem wpListIn_store_octs {F : Fence} {m : Nat} {w : World} {ops : Array Oper} {rest : List Oper} {op : Oper} {a : Act} {Q : Exit → Act → World → Prop} (x y : Operand) (g t : Nat) (old ws : List UInt8) (hgd : op.guard = none) (ho : op.op = .store 25 x y)
    (hx : a.eval x = .pointer (some ⟨g, 0, none⟩)) (hy : a.eval y = .agg (ws.map B8).toArray) (hg : Octs w g t old) (hw : ws.length = 32) (hs : old.length = 32)
    (h : wpListIn F m Tryd.prog ops Q rest (a.put op.dst undef) (w.setRow g (ws.map B8).toArray)) : wpListIn F m Tryd.prog ops Q (op :: rest) a w := by
  refine wpListIn_plain hgd fun K hK' => ?_
  have hrun := run_storeVar_row (P := Tryd.prog) w g t 25 _ (ws.map B8).toArray hg (by rw [info_dig]; simp [hw]) (by simp [hw, hs]) (octs_one ws)
  unfold Oper.wpIn
  refine ⟨?_, ?_⟩
  · simp [Oper.about, ho]
  · rw [Oper.semAt_plain F _ _ (by rw [ho]; intro c hc'; cases hc')]
    simp only [execOp, ho, hx, hy, Instr.storeAt, Instr.sureAddr, Sem.run_bind, Sem.run_pure, Result.andThen_ok, hrun]
    exact hK' _ _ h

def rootL (l : List (List UInt8)) : List UInt8 := if l.length = 0 then noneL else ((rowsL l).getLastD []).getD 0 []
/-- The first of the last row that came. -/
def headP (pre : List (List (List UInt8) × Nat)) : List UInt8 := match pre.getLast? with | none => List.replicate 32 0 | some x => x.1.getD 0 []
theorem headP_snoc (pre : List (List (List UInt8) × Nat)) (x : List (List UInt8) × Nat) : headP (pre ++ [x]) = x.1.getD 0 [] := by simp [headP]

theorem rowsP_ne : ∀ (f : Nat) (l : List (List UInt8)), 0 < l.length → ∀ r ∈ rowsP f l, 0 < r.length
  | 0, l, h, r, hr => by simp only [rowsP, List.mem_singleton] at hr; rw [hr]; exact h
  | f + 1, l, h, r, hr => by
    simp only [rowsP] at hr
    split at hr
    · simp only [List.mem_singleton] at hr; rw [hr]; exact h
    · rcases List.mem_cons.1 hr with rfl | hr
      · exact h
      · exact rowsP_ne f (aboveL l) (by rw [aboveL_len]; omega) r hr
theorem headP_rows {xs : List (List (List UInt8) × Nat)} (h : xs ≠ []) : headP xs = ((xs.map (·.1)).getLastD []).getD 0 [] := by
  obtain ⟨ys, y, rfl⟩ : ∃ ys y, xs = ys ++ [y] := ⟨xs.dropLast, xs.getLast h, (List.dropLast_concat_getLast h).symm⟩
  rw [headP_snoc]
  simp

theorem parts_nil (w : World) : PartsV w (.slice none 0 0) [] := ⟨none, 0, rfl, Nat.le_refl _, by unfold maxLen; omega, fun _ => rfl, fun h => by simp at h⟩

set_option maxRecDepth 100000 in
set_option maxHeartbeats 800000 in
theorem Root_none (va : Option Addr) (vc : Nat) (w : World) (hK : Consts w) :
    Calls Tryd.prog 39 #[.slice va 0 vc] w fun e w' => e = .returned (.agg (noneL.map B8).toArray) ∧ Below w.heap.size w w' := by
  have HDL := Lib.hid noneL_len
  go_enter Tryd.func39, Tryd.ntmps39
  go_wp2_with fail
  generalize hW1 : (w.alloc _) = W1
  obtain ⟨hR, hb1, hz⟩ : Octs W1 w.heap.size 25 (List.replicate 32 0) ∧ Below w.heap.size w W1 ∧ w.heap.size + 1 = W1.heap.size := by
    subst hW1
    exact ⟨heap_alloc_new w _, (Below.refl _ w).alloc (Nat.le_refl _) _, by simp⟩
  clear hW1
  refine (Tagged_any 2 _ [] W1 (parts_nil _) (by simp) (by simp) (hK.of_new hb1)).mono ?_
  rintro e w2 ⟨rfl, hb2⟩
  have hR2 := Lib.hid (hR.of_block (hb2.block _ (by omega)))
  have hbF := Lib.hid (below_next hb1 (hb2.mono (by omega)))
  clear hb2 hb1 hR
  go_wp2_with ((with_reducible refine wpList_store_octs (op := ⟨none, Op.store 25 (.tmp 2) (.tmp 8), _, _, _, _⟩) 25 (.tmp 2) (.tmp 8) (w.heap.size) 25 (List.replicate 32 (0 : UInt8)) (sumL (partsL 2 [])) ?g ?ho ?hx ?hy ?hh ?hi ?hs ?_); (case g => rfl); (case ho => rfl); (case hx => rfl); (case hy => rfl); (case hh => exact hR2.out); (case hi => rw [show sumL (partsL 2 []) = noneL from rfl, HDL.out]; kernel_rfl); (case hs => rw [show sumL (partsL 2 []) = noneL from rfl, HDL.out]; rfl))
  refine bodyPost_ret (results_cell rfl _ rfl (run_loadVar_row _ _ 25 _ (noneL.map B8).toArray (0, 0) _ (setRow_heap _ _ _ _ _ _ hR2.out) Tryd.underlying25 rfl (by rw [info_dig]; simp [noneL_len]))) rfl ⟨rfl, ?_⟩
  exact hbF.out.trans (below_setRow' _ _ _ (Nat.le_refl _))

set_option maxRecDepth 100000 in
set_option maxHeartbeats 1600000 in
theorem Root_any (v : Value) (l : List (List UInt8)) (w : World) (hl : Digs w v l) (hlen : l.length ≤ 2048) (hK : Consts w) :
    Calls Tryd.prog 39 #[v] w fun e w' => e = .returned (.agg ((rootL l).map B8).toArray) ∧ Below w.heap.size w w' := by
  obtain ⟨va, vc, hv⟩ := hl.len
  subst hv
  have HL := Lib.hid hl
  clear hl
  by_cases h0 : l.length = 0
  · have := Root_none va vc w hK
    unfold rootL
    rw [if_pos h0, h0]
    exact this
  have t0 : ¬ ((l.length : Int) = 0) := by omega
  refine (callsIn_wide (n := 3)).1 ?_
  refine callsIn_of_wp_marks Tryd.func39 rfl trivial ?_ rfl
  simp only [Tryd.ntmps39, List.size_toArray, List.length_cons, List.length_nil, Nat.reduceAdd, Nat.reduceSub, Array.replicate_succ, Array.replicate_zero, List.push_toArray, List.append_toArray, List.nil_append, List.cons_append]
  gi_wp2_with (refine ⟨trivial, ?_⟩; gi_at_call 65; refine (callsIn_wide.2 (rows_any _ _ _ _)).mono ?_; rintro e w' ⟨rfl, rfl⟩)
  generalize hW0 : ((w.alloc _).alloc _).alloc _ = W0
  obtain ⟨hsz, hB0, o1, o2, o3⟩ : W0.heap.size = w.heap.size + 3 ∧ Below w.heap.size w W0 ∧ Octs W0 w.heap.size 25 (List.replicate 32 0) ∧ Octs W0 (w.heap.size + 1) 25 (List.replicate 32 0) ∧ W0.heap[w.heap.size + 1 + 1]? = some (.cells #[.slice va l.length vc] 31) := by
    subst hW0
    refine ⟨by simp, (((Below.refl _ w).alloc (Nat.le_refl _) _).alloc (by simp) _).alloc (by simp; omega) _, ?_, ?_, ?_⟩
    · exact (Below.heap_alloc _ _ _ (by simp; omega)).trans ((Below.heap_alloc _ _ _ (by simp)).trans (heap_alloc_new _ _))
    · refine (Below.heap_alloc _ _ _ (by simp)).trans ?_
      have := heap_alloc_new (w.alloc (.cells ((List.replicate 32 (0 : UInt8)).map B8).toArray 25)) (.cells ((List.replicate 32 (0 : UInt8)).map B8).toArray 25)
      rwa [World.size_alloc] at this
    · have := heap_alloc_new ((w.alloc (.cells ((List.replicate 32 (0 : UInt8)).map B8).toArray 25)).alloc (.cells ((List.replicate 32 (0 : UInt8)).map B8).toArray 25)) (.cells #[.slice va l.length vc] 31)
      rwa [World.size_alloc, World.size_alloc] at this
  clear hW0
  refine wpIn_rangeFunc_block (F := Fence.wide) (n := 3) rfl (by omega) (gf := 85) (lb := #[.pointer (some ⟨w.heap.size + 1 + 1, 0, none⟩)]) rfl trivial
    (enters_of Tryd.func85 (by kernel_rfl) rfl)
    (encs := encR) (It := fun g pre x W' => (pre ++ [x]).map (·.1) <+: rowsL l ∧ OwnD W' (W0.heap.size + 2) (.slice (some ⟨g, 0, none⟩) x.1.length x.2) x.1)
    (S := fun xs => xs.map (·.1) = rowsL l) (Sp := fun _ => True) (n0 := w.heap.size) (N := (rowsL l).length) (by omega)
    (fun W1 hb1 hs1 => by
      have e1 : W1.cell? ⟨w.heap.size + 1 + 1, 0, none⟩ = some (.slice va l.length vc) := by
        have := (hb1.block (w.heap.size + 1 + 1) (by omega)).trans o3
        simp [World.cell?, this]
      have hbw : Below w.heap.size w W1 := hB0.trans (hb1.mono (by omega))
      have := rows_seq 2 (by omega) (w.heap.size + 1 + 1) w.heap.size _ l (by omega) hlen W1 w hK rfl hbw e1 (HL.out.of_new hbw)
      rw [hs1] at this
      exact this)
    (fun _ _ => rfl)
    (fun g pre W => Octs W (w.heap.size + 1) 25 (headP pre) ∧ (headP pre).length = 32 ∧ Octs W w.heap.size 25 (List.replicate 32 0) ∧ Below w.heap.size w W ∧ w.heap.size + 2 ≤ W.heap.size)
    (fun _ _ _ _ => False)
    (fun g s A B hg hs hk => ⟨hs.1.of_block (hk.block _ (by have := hs.2.2.2.2; omega) (by constructor <;> omega)), hs.2.1, hs.2.2.1.of_block (hk.block _ (by have := hs.2.2.2.2; omega) (by constructor <;> omega)),
      hk.to_below hs.2.2.2.1 (by have := hs.2.2.2.2; omega) (fun k hk2 => by constructor <;> omega), Nat.le_trans hs.2.2.2.2 hk.size⟩)
    (fun _ _ _ _ _ _ h _ => h)
    (fun g pre x A B hg hs hk => by
      refine ⟨hs.1, hs.2.1, hs.2.2.1, ?_⟩
      rcases hs.2.2.2 with ⟨h, _⟩ | ⟨g', cap', cur', hv, hb, hh, hr⟩
      · cases h
      · cases hv
        exact .inr ⟨g, _, cur', rfl, hb, (hk.block g (Array.getElem?_eq_some_iff.1 hh).1 (by omega)).trans hh, hr⟩)
    (fun g W' hg hb => ⟨o2.of_block (hb.block _ (by omega)), by simp [headP], o1.of_block (hb.block _ (by omega)), hB0.trans (hb.mono (by omega)), by have := hb.size; omega⟩)
    (fun g x => { tmps := #[.slice va l.length vc, undef, .pointer (some ⟨w.heap.size, 0, none⟩), .pointer (some ⟨w.heap.size + 1, 0, none⟩), .slice (some ⟨g, 0, none⟩) x.1.length x.2, .slice va l.length vc, .int .i64 (l.length : Int), .bool false, undef, .slice va l.length vc,
      .func (.func 85) #[] #[.pointer (some ⟨w.heap.size + 1 + 1, 0, none⟩)], .slice (some ⟨g, 0, none⟩) x.1.length x.2, undef, undef, undef, undef], defers := [] }) ?assign ?body ?done ?stop
  case assign =>
    intro l g x W K hK
    gi_wp2
    exact hK
  case body =>
    rintro l' g pre ⟨x, cap⟩ W hg ⟨hr, h32, hz, hb, hsz2⟩ ⟨hpre, ho⟩ _ hW2
    dsimp only at ho
    have hxm : x ∈ rowsL l := hpre.subset (by simp)
    have hx0 : 0 < x.length := rowsP_ne _ _ (by omega) _ hxm
    obtain ⟨bb, boff, bc, hbv, hbl, hat⟩ := ho.digs.at_ hx0
    obtain ⟨rfl, rfl⟩ : bb = g ∧ boff = 0 := by
      simp only [Value.slice.injEq, Option.some.injEq, Addr.mk.injEq] at hbv
      exact ⟨hbv.1.1.symm, hbv.1.2.1.symm⟩
    have hx1 : ∀ j, j < 32 → W.cell? ⟨bb, 0 + j, none⟩ = ((x.getD 0 []).map B8)[j]? := fun j hj => by
      have := hat 0 hx0 j hj
      simpa using this
    have HX1 := Lib.hid hx1
    have D1 := Lib.hid (ho.1.getD hx0)
    have HR := Lib.hid hr
    have H32 := Lib.hid h32
    have t1 : (0 : Int) < (x.length : Int) := by omega
    clear hx1 hat hbv hr h32 hpre hxm ho
    gi_wp2_with (first
      | ((with_reducible refine wpListIn_load_dig (op := ⟨some 14, Op.load 25 (.tmp 13), _, _, _, _⟩) (.tmp 13) bb 0 (x.getD 0 []) ?g ?ho ?hx ?hd ?hc ?_); (case g => rfl); (case ho => rfl); (case hx => rfl); (case hd => exact D1.out); (case hc => exact HX1.out))
      | ((with_reducible refine wpListIn_store_octs (op := ⟨none, Op.store 25 (.tmp 3) (.tmp 14), _, _, _, _⟩) (.tmp 3) (.tmp 14) (w.heap.size + 1) 25 (headP pre) (x.getD 0 []) ?g ?ho ?hx ?hy ?hh ?hw ?hs ?_); (case g => rfl); (case ho => rfl); (case hx => rfl); (case hy => simp only [List.getD_eq_getElem?_getD]; rfl); (case hh => exact HR.out); (case hw => exact D1.out); (case hs => exact H32.out)))
    refine ⟨(Kept.refl _ _).grown (grown_setRow _ _ _) (fun r e => by cases e; omega), ?_, ?_, ?_, ?_, ?_⟩
    · rw [headP_snoc]; exact setRow_heap _ _ _ _ _ _ HR.out
    · rw [headP_snoc]; exact D1.out
    · exact hz.of_block (setRow_other _ _ _ _ (by omega))
    · exact hb.trans (below_setRow' _ _ _ (by omega))
    · have := (grown_setRow W (w.heap.size + 1) (List.map B8 (x.getD 0 [])).toArray).size; omega
  case done =>
    rintro g xs W hg hxs ⟨hr, h32, hz, hb, hsz2⟩ hW2 hD
    have hne : xs ≠ [] := by
      rintro rfl
      have : 0 < (rowsL l).length := by
        by_cases h : 1 < l.length
        · rw [rowsL_step h]; simp
        · rw [rowsL_end (by omega)]; simp
      rw [← hxs] at this
      simp at this
    have hroot : headP xs = rootL l := by
      rw [headP_rows hne, hxs]; unfold rootL; rw [if_neg h0]
    rw [hroot] at hr h32
    have hx1 : ∀ j, j < 32 → W.cell? ⟨w.heap.size + 1, 0 + j, none⟩ = ((rootL l).map B8)[j]? := fun j hj => by
      unfold Octs at hr
      simp [World.cell?, hr]
    have HX1 := Lib.hid hx1
    have D1 := Lib.hid h32
    have HZ := Lib.hid hz
    have HD := Lib.hid hD
    clear hx1 hr h32 hz hxs hD
    gi_wp2_with (first
      | ((with_reducible refine wpListIn_load_dig (op := ⟨some 15, Op.load 25 (.tmp 3), _, _, _, _⟩) (.tmp 3) (w.heap.size + 1) 0 (rootL l) ?g ?ho ?hx ?hd ?hc ?_); (case g => rfl); (case ho => rfl); (case hx => rfl); (case hd => exact D1.out); (case hc => exact HX1.out))
      | ((with_reducible refine wpListIn_store_octs (op := ⟨none, Op.store 25 (.tmp 2) (.tmp 15), _, _, _, _⟩) (.tmp 2) (.tmp 15) w.heap.size 25 (List.replicate 32 0) (rootL l) ?g ?ho ?hx ?hy ?hh ?hw ?hs ?_); (case g => rfl); (case ho => rfl); (case hx => rfl); (case hy => rfl); (case hh => exact HZ.out); (case hw => exact D1.out); (case hs => rfl)))
    obtain ⟨W2, hW2d⟩ : ∃ W2, W.setRow w.heap.size (List.map B8 (rootL l)).toArray = W2 := ⟨_, rfl⟩
    have hd2 : W2.heap[W0.heap.size]? = some (.deferred (some [])) := by rw [← hW2d]; exact (setRow_other _ _ _ _ (by omega)).trans HD.out
    have hr2 : Octs W2 w.heap.size 25 (rootL l) := by rw [← hW2d]; exact setRow_heap _ _ _ _ _ _ HZ.out
    have hb2 : Below w.heap.size w W2 := by rw [← hW2d]; exact hb.trans (below_setRow' _ _ _ (Nat.le_refl _))
    rw [hW2d]
    refine ⟨by simp, .inl ⟨_, _, rfl, run_takeDeferred hd2, ?_⟩⟩
    refine ⟨_, results_cell_row (g := w.heap.size) (t := 25) (cs := ((rootL l).map B8).toArray) (fr := (0, 0)) rfl _ _ _ rfl ((World.putObj_heap_other (by omega)).trans hr2) Tryd.underlying25 rfl (by rw [info_dig]; simp [D1.out]), rfl, ?_⟩
    exact hb2.grown (grownBy_putObj' _ _ _) hb2.size (fun k e => by cases e; omega)
  case stop =>
    rintro g c pre W _ _ h _ _
    exact h.elim

end Go.Proofs.YtnomekfemadpeaaDoor

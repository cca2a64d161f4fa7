/- The walks of the document's answer's cutPeer and cut. Condition: the place is one of the list's. -/
import Derived.Test.YtnohglkilpnjhaaTrRPlace
import Derived.Test.YtnohglkilpnjhaaTrRFew
import Derived.Test.YtnohglkilpnjhaaRegionMix
namespace Go.Proofs.Ytnohglkilpnjhaa
open Go.RowKit
set_option linter.unusedVariables false
set_option linter.unusedSimpArgs false
set_option maxRecDepth 100000

section
variable {e se : TypeId} {α : Type} {R : RecT e α} {w : World}
theorem RecT.own_empty (R : RecT e α) (w : World) : R.Own (w.alloc (.cells #[] e)) w.heap.size (.slice (some ⟨w.heap.size, 0, none⟩) 0 0) [] :=
  ⟨(fun x hx => by cases hx), by simp [RecT.flat], .inr ⟨w.heap.size, 0, #[], rfl, Nat.le_refl _, heap_alloc_new w _, Nat.le_refl _, by unfold maxLen; omega, by simp, by simp [RecT.flat]⟩⟩
theorem RecT.wp_build0 (R : RecT e α) (hs : Try.prog.underlying se = some (.slice e)) {o : Oper} {a : Act} {K : Act → World → Prop} {Q : Exit → Act → World → Prop} (ho : o.op = .buildSlice se 0 #[])
    (hK : ∀ w', R.Own w' w.heap.size (.slice (some ⟨w.heap.size, 0, none⟩) 0 0) [] → Below w.heap.size w w' → w'.heap.size = w.heap.size + 1 → K (a.put o.dst (.slice (some ⟨w.heap.size, 0, none⟩) 0 0)) w') : o.wp Try.prog a w K Q := by
  obtain ⟨i, hi, hz, hsize, hby⟩ := info_parts R.info
  have hrun : (Instr.buildSlice se 0 #[]).run Try.prog w = .ok (.slice (some ⟨w.heap.size, 0, none⟩) 0 0) (w.alloc (.cells #[] e)) := by
    have h0 : Array.range 0 = #[] := by first | decide | simp | rfl
    simp [h0, Instr.buildSlice, run_underlying hs, sizeOf, typeInfo, hi, hsize, Instr.fill, newRow, Sem.run_bind, Sem.run_pure, Result.andThen]
  unfold Oper.wp execOp
  simp only [ho, List.map_toArray, List.map_nil, Sem.run_bind, hrun, Result.andThen_ok, Sem.run_pure]
  exact hK _ (RecT.own_empty R w) ((Below.refl _ w).alloc (Nat.le_refl _) _) (by simp)
end

set_option maxHeartbeats 1600000 in
theorem RCutPeer_any (v : Value) (l : List PeerL) (i : Nat) (w : World) (hl : RPeer.Row w v l) (hi : i < l.length) (hlen : l.length ≤ 100000) :
    Calls Try.prog 56 #[v, .int .i64 (i : Int)] w fun e w' => ∃ v', e = .returned v' ∧ RPeer.Own w' w.heap.size v' (l.take i ++ l.drop (i + 1)) ∧ Below w.heap.size w w' := by
  obtain ⟨v1, hs1, hr1, _⟩ := hl.part Try.underlying31 .none (some (.int .i64 (i : Int))) 0 i (Nat.zero_le _) (by omega) (.inl ⟨rfl, rfl⟩) (.inr ⟨_, rfl⟩)
  obtain ⟨v2, hs2, hr2, _⟩ := hl.part Try.underlying31 (some (.int .i64 ((i + 1 : Nat) : Int))) .none (i + 1) l.length (by omega) (Nat.le_refl _) (.inr ⟨_, rfl⟩) (.inl ⟨rfl, rfl⟩)
  rw [List.drop_zero, Nat.sub_zero] at hr1
  rw [List.take_of_length_le (by simp)] at hr2
  rw [show ((i + 1 : Nat) : Int) = (i : Int) + 1 by omega] at hs2
  have hw : IntKind.i64.wrap ((i : Int) + 1) = (i : Int) + 1 := by rw [IntKind.wrap_i64]; omega
  have HL := Lib.hid hl
  have HR1 := Lib.hid hr1
  have HR2 := Lib.hid hr2
  have HI := Lib.hid hi
  have HLEN := Lib.hid hlen
  clear hl hr1 hr2 hi hlen
  go_enter Try.func56, Try.ntmps56
  go_upto_region 1 with (fail)
  refine (wpIn_wide (n := 5)).1 ?_
  refine wpIn_region_mix (ro := none) (C := Grew w) [1, 2, 3, 5, 6, 7, 8] [0, 4] [9, 10] (by kernel_rfl) (by kernel_rfl) (Grew.start _) (fun c a d v w h => by cases d <;> exact h) ?_
  simp only [opsAt, List.flatMap_cons, List.flatMap_nil, List.getElem?_cons_zero, List.getElem?_cons_succ, Option.toList_some, List.cons_append, List.nil_append]
  go_simp
  repeat (first
    | (go_big_quiet_want; apply quiet_val; (intro w' hw'; go_simp; first | done | rfl); go_simp; go_big_quiet_on)
    | (go_big_quiet_skip))
  refine wpQuiet_nil ?_
  intro w5 hw5
  have HR1' := Lib.hid (HR1.out.of_new hw5)
  have HR2' := Lib.hid (HR2.out.of_new hw5)
  refine LateL.cons rfl (RPeer.wp_build0 Try.underlying31 rfl ?_)
  intro w6 ho6 hb6 hs6
  have hw6 : Grew w w6 := below_next hw5 hb6
  refine ⟨hw6, ?_⟩
  refine LateL.cons rfl (ho6.app Try.underlying31 (.tmp 5) (.tmp 8) rfl rfl rfl (HR1'.out.of_new hb6) (by have := HLEN.out; simp; omega) (by omega) ?_)
  intro v7 w7 ho7 hg7 hu7
  have hw7 : Grew w w7 := below_next hw5 (hb6.grown hg7 (by omega) (fun k e => by cases e; exact Nat.le_refl _))
  refine ⟨hw7, ?_⟩
  refine LateL.nil ?_
  rw [wF_none]
  refine wpListIn_of_wp (ro := none) rfl (fun c hc => by cases hc) (ho7.app Try.underlying31 (.tmp 9) (.tmp 13) rfl rfl rfl (HR2.out.of_new hw7) (by have := HLEN.out; simp; omega) (by have := hw7.size; have := hw5.size; have := hg7.size; omega) ?_)
  intro v8 w8 ho8 hg8 hu8
  have hw8 : Below w.heap.size w w8 := hw7.grown hg8 hw7.size (fun k e => by have := (ho7.lt k e).1; have := hw5.size; omega)
  have ho8' : RPeer.Own w8 w.heap.size v8 (l.take i ++ l.drop (i + 1)) := by
    have := ho8.mono (base' := w.heap.size) hw5.size
    simpa using this
  have HO8 := Lib.hid ho8'
  have HW8 := Lib.hid hw8
  clear hw5 ho6 hb6 hs6 hw6 ho7 hg7 hu7 hw7 ho8 hg8 hu8 hw8 ho8'
  rw [wF_none]
  gi_wp2
  go_wp2
  go_ret
  exact ⟨_, rfl, HO8.out, HW8.out⟩


theorem cut_get {α : Type} {l : List α} {i : Nat} (h : i < l.length) (j : Nat) : (l.take i ++ l.drop (i + 1))[j]? = if j < i then l[j]? else l[j + 1]? := by
  rw [List.getElem?_append]
  have e : (l.take i).length = i := by simp; omega
  rw [e]
  by_cases hj : j < i
  · rw [if_pos hj, if_pos hj, List.getElem?_take, if_pos hj]
  · rw [if_neg hj, if_neg hj, List.getElem?_drop]
    congr 1; omega
theorem map_cut {α β : Type} (f : α → β) (l : List α) (i : Nat) : (l.take i ++ l.drop (i + 1)).map f = (l.map f).take i ++ (l.map f).drop (i + 1) := by
  rw [List.map_append, List.map_take, List.map_drop]
/-- What a table's block holds when its blobs are others. -/
theorem RTabP.put {w w' W : World} {r B : Nat} {many most : Int} {v v' : Value} {L L' : RefL} {T T' : TabL} (h : RTabP w r many most B v L T) (hw : Below w.heap.size w w') (ho : ROf.Own w' w.heap.size v' L') (hk : L'.map (·.1) = T'.map (·.1))
    (hr : ∀ (i : Nat) (x : List UInt8 × Value) (y : List UInt8 × List PeerL), L'[i]? = some x → T'[i]? = some y → RPeer.Own w' B x.2 y.2) (hW : W = w'.setCell ⟨r, 2, none⟩ v') : RTabP W r many most B v' L' T' ∧ RStp r v w W := by
  have hlt := h.lt
  have hBr := h.base
  have hr1 : w'.heap[r]? = some (.cells #[.int .i64 many, .int .i64 most, v] 57 (0, 0)) := (hw.block _ hlt).trans h.tab
  have hoth : ∀ k, k ≠ r → W.heap[k]? = w'.heap[k]? := fun k hk => by subst hW; exact Below.heap_setCell _ _ _ _ hk
  refine ⟨⟨?_, h.base, (ho.kept fun k e => hoth k (fun q => ?_)).mono (by omega), hk, fun i x y hx hy => (hr i x y hx hy).kept fun k e => hoth k (fun q => ?_)⟩, ?_⟩
  · subst hW
    obtain ⟨hl, hkk⟩ := Array.getElem?_eq_some_iff.1 hr1
    show (w'.heap.modify r _)[r]? = _
    rw [Array.getElem?_eq_getElem (by rw [Array.size_modify]; exact hl), Array.getElem_modify_self, hkk]
    rfl
  · have := (ho.lt k e).1; omega
  · subst q
    obtain ⟨cur, h1⟩ := (hr i x y hx hy).block e
    rw [hr1] at h1; cases h1
  · have h1 : Kept (fun k => k ≠ r ∧ v.ownBlock ≠ some k) w w' := (Kept.refl _ w).below hw
    refine ⟨?_, ?_, ?_, ?_, fun k hk hu => ?_⟩
    · subst hW; exact h1.os
    · subst hW; exact h1.tape
    · subst hW; exact h1.output
    · subst hW; simpa using h1.size
    · exact (hoth k hu.1).trans (h1.block k hk hu)

def CutPost (w : World) (r : Nat) (many most : Int) (B : Nat) (v : Value) (T' : TabL) (e : Ending) (w' : World) : Prop := ∃ v' L', e = .returned (.tuple #[]) ∧ RTabP w' r many most B v' L' T' ∧ RStp r v w w' ∧ ∀ k, v'.ownBlock = some k → w.heap.size ≤ k
set_option maxHeartbeats 1600000 in
theorem RCut_any (r : Nat) (many most : Int) (B : Nat) (v : Value) (L : RefL) (T : TabL) (i : Nat) (w : World) (hR : RTabP w r many most B v L T) (hi : i < T.length) (hlen : T.length ≤ 100000) :
    Calls Try.prog 59 #[.pointer (some ⟨r, 0, none⟩), .int .i64 (i : Int)] w (CutPost w r many most B v (T.take i ++ T.drop (i + 1))) := by
  have hLT := hR.len
  have hl := hR.own.row
  obtain ⟨v1, hs1, hr1, _⟩ := hl.part Try.underlying55 .none (some (.int .i64 (i : Int))) 0 i (Nat.zero_le _) (by omega) (.inl ⟨rfl, rfl⟩) (.inr ⟨_, rfl⟩)
  obtain ⟨v2, hs2, hr2, _⟩ := hl.part Try.underlying55 (some (.int .i64 ((i + 1 : Nat) : Int))) .none (i + 1) L.length (by omega) (Nat.le_refl _) (.inr ⟨_, rfl⟩) (.inl ⟨rfl, rfl⟩)
  rw [List.drop_zero, Nat.sub_zero] at hr1
  rw [List.take_of_length_le (by simp)] at hr2
  rw [show ((i + 1 : Nat) : Int) = (i : Int) + 1 by omega] at hs2
  have hw : IntKind.i64.wrap ((i : Int) + 1) = (i : Int) + 1 := by rw [IntKind.wrap_i64]; omega
  have hc2 := fun w' (h : Grew w w') => Grew.cell h hR.cell2
  have HR := Lib.hid hR
  have HR1 := Lib.hid hr1
  have HR2 := Lib.hid hr2
  have HI := Lib.hid hi
  have HLEN := Lib.hid hlen
  have HLT := Lib.hid hLT
  clear hR hl hr1 hr2 hi hlen hLT
  go_enter Try.func59, Try.ntmps59
  refine (wpIn_wide (n := 5)).1 ?_
  refine wpIn_region_mix (ro := none) (C := Grew w) [0, 2, 3, 4, 5, 6, 7, 9, 10, 11, 12, 13, 14, 15] [1, 8, 16] [17, 18, 19] (by kernel_rfl) (by kernel_rfl) (Grew.start _) (fun c a d v w h => by cases d <;> exact h) ?_
  simp only [opsAt, List.flatMap_cons, List.flatMap_nil, List.getElem?_cons_zero, List.getElem?_cons_succ, Option.toList_some, List.cons_append, List.nil_append]
  go_simp
  repeat (first
    | (go_big_quiet_want; apply quiet_val; (intro w' hw'; go_simp; first | done | rfl); go_simp; go_big_quiet_on)
    | (go_big_quiet_skip))
  refine wpQuiet_nil ?_
  intro w5 hw5
  have HR1' := Lib.hid (HR1.out.of_new hw5)
  refine LateL.cons rfl (ROf.wp_build0 Try.underlying55 rfl ?_)
  intro w6 ho6 hb6 hs6
  have hw6 : Grew w w6 := below_next hw5 hb6
  refine ⟨hw6, ?_⟩
  refine LateL.cons rfl (ho6.app Try.underlying55 (.tmp 5) (.tmp 11) rfl rfl rfl (HR1'.out.of_new hb6) (by have := HLEN.out; have := HLT.out; simp; omega) (by omega) ?_)
  intro v7 w7 ho7 hg7 hu7
  have hw7 : Grew w w7 := below_next hw5 (hb6.grown hg7 (by omega) (fun k e => by cases e; exact Nat.le_refl _))
  refine ⟨hw7, ?_⟩
  refine LateL.cons rfl (ho7.app Try.underlying55 (.tmp 12) (.tmp 19) rfl rfl rfl (HR2.out.of_new hw7) (by have := HLEN.out; have := HLT.out; simp; omega) (by have := hw7.size; have := hw5.size; have := hg7.size; omega) ?_)
  intro v8 w8 ho8 hg8 hu8
  have hw8 : Below w.heap.size w w8 := hw7.grown hg8 hw7.size (fun k e => by have := (ho7.lt k e).1; have := hw5.size; omega)
  refine ⟨hw8, ?_⟩
  refine LateL.nil ?_
  rw [wF_none]
  have ho8' : ROf.Own w8 w.heap.size v8 (L.take i ++ L.drop (i + 1)) := by
    have := ho8.mono (base' := w.heap.size) hw5.size
    simpa using this
  obtain ⟨L8, hL8⟩ : ∃ L8, L.take i ++ L.drop (i + 1) = L8 := ⟨_, rfl⟩
  rw [hL8] at ho8'
  have HL8 := Lib.hid hL8
  obtain ⟨a8, n8, hv8⟩ := ho8'.row.len
  subst hv8
  have hr8 := HR.out.of_new hw8
  have c8 := hr8.cell2
  have f8 := hr8.free 2
  have HO8 := Lib.hid ho8'
  have HW8 := Lib.hid hw8
  have HR8 := Lib.hid hr8
  clear hL8 hw5 ho6 hb6 hs6 hw6 ho7 hg7 hu7 hw7 ho8 hg8 hu8 hw8 ho8' hr8 hc2
  gi_wp2
  generalize hW9 : World.setCell w8 _ _ = w9
  have hfin := HR.out.put (T' := T.take i ++ T.drop (i + 1)) HW8.out HO8.out (by rw [← HL8.out, map_cut, map_cut, HR.out.keys]) (fun j x y hx hy => by
    rw [← HL8.out, cut_get (by rw [HLT.out]; exact HI.out)] at hx
    rw [cut_get HI.out] at hy
    split at hx
    · rename_i hj; rw [if_pos hj] at hy; exact HR8.out.rows j x y hx hy
    · rename_i hj; rw [if_neg hj] at hy; exact HR8.out.rows (j + 1) x y hx hy) hW9.symm
  have HF := Lib.hid hfin
  clear hW9 hfin c8 f8
  go_end0
  exact ⟨_, _, rfl, HF.out.1, HF.out.2, fun k e => (HO8.out.lt k e).1⟩

end Go.Proofs.Ytnohglkilpnjhaa

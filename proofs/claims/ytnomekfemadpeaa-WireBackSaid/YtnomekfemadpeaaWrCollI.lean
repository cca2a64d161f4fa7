/- The walks of slices.AppendSeq and slices.Collect at a sequence of numbers; numbers in a slice of the call's own. Condition: the iterator's contract. -/
import Derived.Test.YtnomekfemadpeaaGb
import Derived.LoopNIn
import Derived.LoopIn
import Derived.Shelf.Abstract
import Derived.Shelf.RegionOpen
namespace Go.Proofs.Ytnomekfemadpeaa
open Go.RowKit Go.Shelf
attribute [local go_sem] Oper.semAt_some
set_option linter.unusedVariables false
set_option linter.unusedSimpArgs false
set_option maxRecDepth 100000

theorem infoInt : (Try.prog.info? 3).map (fun i => (i.zero, i.size, i.bytes)) = some (some (.int .i64 0), 1, 8) := by kernel_rfl

/-- The slice v of numbers is the call's own (its block lies at 'base' or later) and holds l. -/
def OwnN (w : World) (base : Nat) (v : Value) (l : List Int) : Prop := w.ownsRow base 3 1 v l.length (l.map I64)
theorem OwnN.nil (w : World) (base : Nat) : OwnN w base (.slice none 0 0) [] := World.ownsRow_nil _ _ _ _
theorem OwnN.ints {w : World} {base : Nat} {v : Value} {l : List Int} (h : OwnN w base v l) : Ints w v l := Row.of_owns h
theorem OwnN.lt {w : World} {base : Nat} {v : Value} {l : List Int} (h : OwnN w base v l) : ∀ k, v.ownBlock = some k → base ≤ k ∧ k < w.heap.size := World.ownsRow.lt h
theorem OwnN.mono {w : World} {base base' : Nat} {v : Value} {l : List Int} (h : OwnN w base v l) (hb : base' ≤ base) : OwnN w base' v l :=
  ⟨h.1, h.2.imp id (fun ⟨g, cap, cur, a, b, c⟩ => ⟨g, cap, cur, a, Nat.le_trans hb b, c⟩)⟩
theorem OwnN.kept {w w' : World} {base : Nat} {v : Value} {l : List Int} (h : OwnN w base v l) (hk : ∀ k, v.ownBlock = some k → w'.heap[k]? = w.heap[k]?) : OwnN w' base v l := by
  refine ⟨h.1, ?_⟩
  rcases h.2 with h | ⟨g, cap, cur, hv, hb, hh, hr⟩
  · exact .inl h
  · exact .inr ⟨g, cap, cur, hv, hb, (hk g (by rw [hv]; rfl)).trans hh, hr⟩
theorem OwnN.of_new {w w' : World} {base : Nat} {v : Value} {l : List Int} (h : OwnN w base v l) (hb : Below w.heap.size w w') : OwnN w' base v l :=
  h.kept fun k hk => hb.block _ (h.lt k hk).2

/-- 'append(s, x...)' of numbers, s the call's own: the run. -/
theorem run_appN {w : World} (base ty : Nat) (v : Value) (l : List Int) (hown : OwnN w base v l) (u : Value) (m : List Int) (hm : Ints w u m) (hlen : l.length + m.length ≤ 1099511627776) (hbase : base ≤ w.heap.size) :
    ∃ v' w', (Builtin.append_ #[24, 24] ty #[v, u]).run Try.prog w = .ok v' w' ∧ OwnN w' base v' (l ++ m) ∧ w.grownBy w' v.ownBlock ∧ (∀ k, v'.ownBlock = some k → v.ownBlock = some k ∨ w.heap.size ≤ k) := by
  obtain ⟨i, hi, hz, hsize, hby⟩ := info_parts infoInt
  obtain ⟨hl, ad, c, rfl, hc1, hc2, hc3, hc4⟩ := hm
  cases ad with
  | none =>
    have hc0 := hc3 rfl
    have hm0 : m = [] := List.eq_nil_of_length_eq_zero (by omega)
    subst hm0
    subst hc0
    refine ⟨v, w, run_append_owned_none (P := Try.prog) (w := w) base 24 ty 3 i 1 Try.underlying24 hi v l.length (l.map I64) hown, by simpa using hown, World.grownBy.refl _ _, fun k hk => .inl hk⟩
  | some ad =>
    obtain ⟨v', w', h1, h2, h3, _, h5⟩ := run_append_own_at (P := Try.prog) w base 24 ty 3 i _ 1 8 Try.underlying24 hi hz hsize hby rfl (by decide) v l.length (l.map I64) hown ad m.length c (m.map I64) (by simp)
      (fun j u hj => by
        have hjl : j < m.length := by
          rcases Nat.lt_or_ge j m.length with h | h
          · exact h
          · simp [List.getElem?_eq_none (show (m.map I64).length ≤ j by simpa using h)] at hj
        obtain ⟨b, off, hab, _, hcell⟩ := hc4 (by omega)
        cases hab
        have hplain : (⟨b, off, none⟩ : Addr).add j = ⟨b, off + j, none⟩ := by unfold Addr.add; split <;> simp_all
        rw [hplain, hcell j (by omega), hj])
      (fun u hu => by
        obtain ⟨b, _, rfl⟩ := List.mem_map.1 hu
        rfl) (by unfold maxLen; omega) (by omega) hbase
    refine ⟨v', w', h1, ?_, h3, ?_⟩
    · unfold OwnN
      simpa using h2
    · intro k hk
      rcases h5 with h5 | h5
      · exact .inl (by rw [← h5]; exact hk)
      · rw [h5] at hk; cases hk; exact .inr (Nat.le_refl _)
theorem wp_appN {w : World} {o : Oper} {a : Act} {K : Act → World → Prop} {Q : Exit → Act → World → Prop} (s x : Operand)
    (ho : o.op = .call { callee := .builtin .append, args := #[s, x], argTypes := #[24, 24] }) (base : Nat)
    (v : Value) (l : List Int) (hs : a.eval s = v) (hown : OwnN w base v l) (u : Value) (m : List Int) (hx : a.eval x = u) (hm : Ints w u m)
    (hlen : l.length + m.length ≤ 1099511627776) (hbase : base ≤ w.heap.size)
    (h : ∀ v' w', OwnN w' base v' (l ++ m) → w.grownBy w' v.ownBlock → (∀ k, v'.ownBlock = some k → v.ownBlock = some k ∨ w.heap.size ≤ k) → K (a.put o.dst v') w') : o.wp Try.prog a w K Q := by
  obtain ⟨v', w', hr, h2, h3, h4⟩ := run_appN base o.type v l hown u m hm hlen hbase
  unfold Oper.wp execOp
  simp only [ho, resolve, invoke, builtin, Sem.run_bind, Sem.run_pure, Result.andThen_ok, List.map_toArray, List.map_cons, List.map_nil, hs, hx, hr]
  exact h v' w' h2 h3 h4

/-- One number in a block just made. -/
theorem one_ints (w : World) (x : Int) (t : TypeId) : Ints (w.alloc (.cells #[.int .i64 x] t)) (.slice (some ⟨w.heap.size, 0, none⟩) 1 1) [x] := by
  refine ⟨rfl, some ⟨w.heap.size, 0, none⟩, 1, rfl, Nat.le_refl _, by unfold maxLen; omega, fun h => (nomatch h), fun _ => ⟨_, 0, rfl, by simp, fun j hj => ?_⟩⟩
  simp only [List.length_singleton, Nat.mul_one] at hj
  have hj0 : j = 0 := by omega
  subst hj0
  exact cell_of_one (heap_alloc_new w _)

/-- What holds ahead of each round of AppendSeq. -/
def CollII (w : World) (n0 : Nat) (G : Nat → Prop) (pre : List Int) (W : World) : Prop :=
  ∃ ov, One W w.heap.size ov 24 ∧ OwnN W (w.heap.size + 3) ov pre ∧ (∀ k, ov.ownBlock = some k → ¬ G k) ∧ Below n0 w W ∧ w.heap.size + 1 ≤ W.heap.size
abbrev encNI (x : Int) : Array Value := #[.int .i64 x]

set_option maxHeartbeats 1600000 in
theorem AppendSeqI_any (gf : Nat) (lb : Array Value) (L : List Int) (n0 : Nat) (O : Nat → Prop) (w : World) (hL : L.length ≤ 1048576) (hn0 : n0 ≤ w.heap.size) (hO : ∀ k, O k → n0 ≤ k ∧ k < w.heap.size)
    (eg : ∀ args w, (callFunc gf args).run Try.prog w = .ok (.enter gf args) w)
    (hseq : ∀ W1, Below w.heap.size w W1 → w.heap.size ≤ W1.heap.size → SeqT Fence.wide 4 Try.prog gf lb encNI (fun pre x _ => pre ++ [x] <+: L) (fun xs => xs = L) O n0 L.length W1) :
    Calls Try.prog 57 #[.slice none 0 0, .func (.func gf) #[] lb] w fun e w' => ∃ v, e = .returned v ∧ OwnN w' w.heap.size v L ∧ Below n0 w w' := by
  refine (callsIn_wide (n := 5)).1 ?_
  refine callsIn_of_wp_marks Try.func57 rfl trivial ?_ rfl
  simp only [Try.ntmps57, List.size_toArray, List.length_cons, List.length_nil, Nat.reduceAdd, Nat.reduceSub, Array.replicate_succ, Array.replicate_zero, List.push_toArray, List.append_toArray, List.nil_append, List.cons_append]
  gi_wp2
  generalize hW0 : w.alloc _ = W0
  obtain ⟨hsz, hB0, o1⟩ : W0.heap.size = w.heap.size + 1 ∧ Below w.heap.size w W0 ∧ One W0 w.heap.size (.slice none 0 0) 24 := by
    subst hW0
    exact ⟨by simp, (Below.refl _ w).alloc (Nat.le_refl _) _, heap_alloc_new _ _⟩
  clear hW0
  refine wpIn_rangeFunc_total (F := Fence.wide) (n := 5) rfl (by omega) (gf := gf) (lb := lb) rfl trivial eg (encs := encNI) (It := fun pre x _ => pre ++ [x] <+: L) (S := fun xs => xs = L) (O := O) (n0 := n0) (N := L.length) (by omega) (fun k h => by have := (hO k h).2; omega)
    (fun W1 hb1 hs1 => hseq W1 (hB0.trans (hb1.mono (by omega))) (by omega)) (fun _ => rfl)
    (CollII w n0)
    (fun G s A B hG hs hk => by
      obtain ⟨ov, a1, a2, a3, a4, a5⟩ := hs
      refine ⟨ov, a1.of_block (hk.block _ a1.lt ⟨fun h => ?_, by omega⟩), a2.kept (fun k hk2 => hk.block _ (a2.lt k hk2).2 ⟨a3 k hk2, ?_⟩), a3, hk.to_below a4 (by omega) (fun k hk2 => ⟨fun h => ?_, by omega⟩), Nat.le_trans a5 hk.size⟩
      · rcases hG _ h with h | h
        · omega
        · have := (hO _ h).2; omega
      · have := (a2.lt k hk2).1; omega
      · rcases hG _ h with h | h
        · omega
        · have := (hO _ h).1; omega)
    (fun _ _ _ _ h _ => h)
    (fun G W' hG hb => ⟨.slice none 0 0, o1.of_block (hb.block _ (by omega)), OwnN.nil _ _, (fun k h => by cases h), (hB0.trans (hb.mono (by omega))).mono hn0, by have := hb.size; omega⟩)
    (fun x a W => a = { tmps := #[.slice none 0 0, .func (.func gf) #[] lb, .pointer (some ⟨w.heap.size, 0, none⟩), undef, .slice none 0 0, .int .i64 x, .func (.func gf) #[] lb, .int .i64 x, undef, undef, undef, undef, undef], defers := [] })
    (fun x a A B hg hk => hg)
    ?assign ?body ?done
  case assign =>
    intro l pre x W K hit hs hK
    gi_wp2
    exact hK _ _ (Below.refl _ _) rfl
  case body =>
    rintro l G pre x a' W hG hGl ⟨ov, q1, q2, q3, q4, q5⟩ hpre rfl hlen hW2
    obtain ⟨oa, oc, hv⟩ := q2.ints.len
    subst hv
    have qc := q1.cell
    have qf := q1.free
    have hGw : ¬ G w.heap.size := fun h => by
      rcases hG _ h with h | h
      · omega
      · have := (hO _ h).2; omega
    have HQ2 := Lib.hid q2
    gi_wp2_with (first
      | ((with_reducible refine wpListIn_round (o := ⟨some 11, _, _, _, _, _⟩) rfl ?_ ?_); (intro c hc; cases hc); refine wp_appN (.tmp 8) (.tmp 10) rfl (w.heap.size + 3) _ pre rfl (HQ2.out.of_new ((Below.refl _ W).alloc (Nat.le_refl _) _)) _ [x] rfl (one_ints W x _) (by simp; omega) (by simp; omega) ?_; intro v3 w3 ho3 hg3 hu3; obtain ⟨va, vc, hv3⟩ := ho3.ints.len; subst hv3; have q13 := (q1.of_new ((Below.refl _ W).alloc (Nat.le_refl _) _)).grown hg3 (fun e => by have := (HQ2.out.lt _ e.symm).1; omega); have qc3 := q13.cell; have qf3 := q13.free))
    have HB2 : Below W.heap.size W (W.alloc (.cells #[.int .i64 x] 3)) := (Below.refl _ W).alloc (Nat.le_refl _) _
    have hwne : ∀ r, (Value.slice oa pre.length oc).ownBlock = some r → w.heap.size + 3 ≤ r := fun r e => (q2.lt r e).1
    have ho4 : OwnN (w3.setCell ⟨w.heap.size, 0, none⟩ (.slice va (pre.length + 1) vc)) (w.heap.size + 3) (.slice va (pre.length + 1) vc) (pre ++ [x]) := by
      rw [List.length_append, List.length_singleton] at ho3
      exact ho3.kept (fun k hk2 => Below.heap_setCell _ _ _ _ (by have := (ho3.lt k hk2).1; show k ≠ w.heap.size; omega))
    refine ⟨(((Kept.refl _ W).below HB2).grown hg3 (fun r e => ?_)).setCell (fun h => ?_) _, _, q13.set _, ho4, fun k hk2 hGk => ?_, ?_, ?_⟩
    · rintro (h | h | h | h)
      · exact q3 r e h
      · have := hwne r e; omega
      · have := hwne r e; omega
      · have := hwne r e; omega
    · rcases h with h | h | h | h
      · exact hGw h
      · dsimp only at h; omega
      · dsimp only at h; omega
      · dsimp only at h; omega
    · rcases hu3 k (by rw [List.length_append] at *; exact hk2) with h | h
      · exact q3 k h hGk
      · have := hGl k hGk
        rw [World.size_alloc] at h
        omega
    · have hA : Below n0 w (W.alloc (.cells #[.int .i64 x] 3)) := q4.trans (HB2.mono (by omega))
      exact (hA.grown hg3 (by rw [World.size_alloc]; omega) (fun r e => by have := hwne r e; omega)).setCell (by show n0 ≤ w.heap.size; omega) _
    · have := hg3.size
      simp only [World.size_setCell]
      rw [World.size_alloc] at this
      omega
  case done =>
    rintro G xs W rfl ⟨ov, q1, q2, q3, q4, q5⟩ hW2 hD
    obtain ⟨oa, oc, hv⟩ := q2.ints.len
    subst hv
    have qc := q1.cell
    have qf := q1.free
    gi_wp2
    refine ⟨by simp, .inl ⟨_, _, rfl, run_takeDeferred hD, ?_⟩⟩
    refine ⟨_, results_tmp rfl _ _ _, ?_⟩
    have ho := q2.kept (w' := W.putObj W0.heap.size (.deferred none)) (fun k hk2 => World.putObj_heap_other (by have := (q2.lt k hk2).1; omega))
    exact ⟨_, rfl, ho.mono (by omega), q4.grown (grownBy_putObj' _ _ _) (by omega) (fun k e => by cases e; omega)⟩

set_option maxHeartbeats 800000 in
theorem CollectI_any (gf : Nat) (lb : Array Value) (L : List Int) (n0 : Nat) (O : Nat → Prop) (w : World) (hL : L.length ≤ 1048576) (hn0 : n0 ≤ w.heap.size) (hO : ∀ k, O k → n0 ≤ k ∧ k < w.heap.size)
    (eg : ∀ args w, (callFunc gf args).run Try.prog w = .ok (.enter gf args) w)
    (hseq : ∀ W1, Below w.heap.size w W1 → w.heap.size ≤ W1.heap.size → SeqT Fence.wide 4 Try.prog gf lb encNI (fun pre x _ => pre ++ [x] <+: L) (fun xs => xs = L) O n0 L.length W1) :
    Calls Try.prog 48 #[.func (.func gf) #[] lb] w fun e w' => ∃ v, e = .returned v ∧ OwnN w' w.heap.size v L ∧ Below n0 w w' := by
  go_enter Try.func48, Try.ntmps48
  go_wp2_with fail
  refine (AppendSeqI_any gf lb L n0 O w hL hn0 hO eg hseq).mono ?_
  rintro e w2 ⟨v, rfl, ho, hb⟩
  go_wp2
  go_ret
  exact ⟨v, rfl, ho, hb⟩

end Go.Proofs.Ytnomekfemadpeaa

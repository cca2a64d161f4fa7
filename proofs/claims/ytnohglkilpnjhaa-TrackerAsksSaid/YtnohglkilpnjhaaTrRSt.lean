/- How memory stands in the midst of a call on the document's answer's table; its entries' literals. No condition. -/
import Derived.Test.YtnohglkilpnjhaaTrRCut
import Derived.Great.BuildSlice
namespace Go.Proofs.Ytnohglkilpnjhaa
open Go.RowKit
set_option linter.unusedVariables false
set_option linter.unusedSimpArgs false
set_option linter.unusedSectionVars false
set_option maxRecDepth 100000

theorem fill_step2 {place : Nat → Option (Nat × Nat)} {i : Nat} {v : Value} {rest : List (Nat × Value)} {cs : Array Value} (A M N B : List Value) (hcs : cs = (A ++ (M ++ B)).toArray) (hp : place i = some (A.length, M.length)) (hv : v.cells = N.toArray) (hn : N.length = M.length) :
    Instr.fill place cs ((i, v) :: rest) = Instr.fill place (A ++ (N ++ B)).toArray rest := by
  subst hcs
  rw [Instr.fill]
  simp only [hp]
  rw [if_neg (by simp [hv, hn])]
  congr 1
  rw [hv]
  apply Array.ext_getElem?
  intro k
  have := (Great.foldl_set A.length N 0 (A ++ (M ++ B)).toArray).2 k
  rw [← Array.foldl_toList, Array.toList_zipIdx, List.toList_toArray, this]
  simp only [Nat.add_zero, List.getElem?_toArray, List.size_toArray, List.length_append]
  by_cases h1 : k < A.length
  · rw [if_neg (by omega), List.getElem?_append_left h1, List.getElem?_append_left h1]
  · by_cases h2 : k < A.length + N.length
    · rw [if_pos (by omega), List.getElem?_append_right (by omega), List.getElem?_append_left (by omega)]
    · rw [if_neg (by omega), List.getElem?_append_right (by omega), List.getElem?_append_right (by omega), List.getElem?_append_right (by omega), List.getElem?_append_right (by omega), hn]


theorem places_of : ∃ (i : TypeInfo) (fs : Array Field), Try.prog.info? 83 = some i ∧ i.zero = some (.agg (ROf.cells ROf.zero).toArray) ∧ Try.prog.underlying 83 = some (.struct fs) ∧
    fs.toList.mapM (fun f => (Try.prog.info? f.type).map fun i => (f.offset, i.size)) = some [(0, 32), (32, 1)] := by
  have hz : (Try.prog.info? 83).map (·.zero) = some (some (.agg (ROf.cells ROf.zero).toArray)) := by kernel_rfl
  obtain ⟨i, hi, hz⟩ := Option.map_eq_some_iff.1 hz
  exact ⟨i, Try.prog.fieldsOf 83, hi, hz, by kernel_rfl, by kernel_rfl⟩
theorem run_build_of2 (d : List UInt8) (v : Value) (hd : d.length = 32) (hv : v.cells = #[v]) (w : World) :
    (Instr.build 83 #[(0, .agg (d.map B8).toArray), (1, v)]).run Try.prog w = .ok (ROf.V (d, v)) w := by
  refine run_build w 83 _ _ ?_
  obtain ⟨i, fs, h1, h2, h3, h4⟩ := places_of
  unfold Program.built
  rw [h1, h3]
  simp only [h2, h4]
  have e0 : (ROf.cells ROf.zero).toArray = ([] ++ (dig0.map B8 ++ [Value.slice none 0 0])).toArray := rfl
  rw [show (Value.agg (ROf.cells ROf.zero).toArray).cells = (ROf.cells ROf.zero).toArray from rfl, e0]
  rw [fill_step2 [] (dig0.map B8) (d.map B8) _ (by first | rfl | simp) rfl rfl (by simp [hd, dig0])]
  rw [fill_step2 (d.map B8) [Value.slice none 0 0] [v] [] (by first | rfl | simp) (by simp [hd]) hv rfl]
  rfl
theorem run_build_of1 (d : List UInt8) (hd : d.length = 32) (w : World) :
    (Instr.build 83 #[(0, .agg (d.map B8).toArray)]).run Try.prog w = .ok (ROf.V (d, .slice none 0 0)) w := by
  refine run_build w 83 _ _ ?_
  obtain ⟨i, fs, h1, h2, h3, h4⟩ := places_of
  unfold Program.built
  rw [h1, h3]
  simp only [h2, h4]
  have e0 : (ROf.cells ROf.zero).toArray = ([] ++ (dig0.map B8 ++ [Value.slice none 0 0])).toArray := rfl
  rw [show (Value.agg (ROf.cells ROf.zero).toArray).cells = (ROf.cells ROf.zero).toArray from rfl, e0]
  rw [fill_step2 [] (dig0.map B8) (d.map B8) _ (by first | rfl | simp) rfl rfl (by simp [hd, dig0])]
  rfl
theorem wp_build_of1 {w : World} {o : Oper} {a : Act} {K : Act → World → Prop} {Q : Exit → Act → World → Prop} {p : Operand} (d : List UInt8) (ho : o.op = .build 83 #[(0, p)])
    (hp : a.eval p = .agg (d.map B8).toArray) (hd : d.length = 32) (hK : K (a.put o.dst (ROf.V (d, .slice none 0 0))) w) : o.wp Try.prog a w K Q := by
  refine wp_val ?_ hK
  have := run_build_of1 d hd w
  unfold execOp
  simp only [ho, List.map_toArray, List.map_cons, List.map_nil, hp, Sem.run_bind, this, Result.andThen_ok, Sem.run_pure]
theorem wp_build_of2 {w : World} {o : Oper} {a : Act} {K : Act → World → Prop} {Q : Exit → Act → World → Prop} {p q : Operand} (d : List UInt8) (v : Value) (ho : o.op = .build 83 #[(0, p), (1, q)])
    (hp : a.eval p = .agg (d.map B8).toArray) (hq : a.eval q = v) (hd : d.length = 32) (hv : v.cells = #[v]) (hK : K (a.put o.dst (ROf.V (d, v))) w) : o.wp Try.prog a w K Q := by
  refine wp_val ?_ hK
  have := run_build_of2 d v hd hv w
  unfold execOp
  simp only [ho, List.map_toArray, List.map_cons, List.map_nil, hp, hq, Sem.run_bind, this, Result.andThen_ok, Sem.run_pure]

/-- In the midst of a call: the table, what was written. -/
structure RSt (w : World) (r : Nat) (many most : Int) (B : Nat) (v : Value) (W : World) (v1 : Value) (L1 : RefL) (T1 : TabL) : Prop where
  tab : RTabP W r many most B v1 L1 T1
  step : RStp r v w W
  own : ∀ k, v1.ownBlock = some k → v.ownBlock = some k ∨ w.heap.size ≤ k
section
variable {w W W' : World} {r B : Nat} {many most : Int} {v v1 v2 : Value} {L L1 L2 : RefL} {T T1 T2 : TabL}
theorem RSt.start (h : RTabP w r many most B v L T) : RSt w r many most B v w v L T := ⟨h, Kept.refl _ _, fun k e => .inl e⟩
theorem RSt.new (h : RSt w r many most B v W v1 L1 T1) (hb : Below W.heap.size W W') : RSt w r many most B v W' v1 L1 T1 := ⟨h.tab.of_new hb, Kept.below h.step hb, h.own⟩
theorem RSt.next (h : RSt w r many most B v W v1 L1 T1) (ht : RTabP W' r many most B v2 L2 T2) (hs : RStp r v1 W W') (ho : ∀ k, v2.ownBlock = some k → v1.ownBlock = some k ∨ W.heap.size ≤ k) : RSt w r many most B v W' v2 L2 T2 := by
  refine ⟨ht, ⟨hs.os.trans h.step.os, hs.tape.trans h.step.tape, hs.output.trans h.step.output, Nat.le_trans h.step.size hs.size, fun k hk hu => ?_⟩, fun k e => ?_⟩
  · refine (hs.block k (Nat.lt_of_lt_of_le hk h.step.size) ⟨hu.1, fun e => ?_⟩).trans (h.step.block k hk hu)
    rcases h.own k e with h1 | h1
    · exact hu.2 h1
    · omega
  · rcases ho k e with h1 | h1
    · exact h.own k h1
    · exact .inr (Nat.le_trans h.step.size h1)
/-- The blobs are others. -/
theorem RSt.put (h : RSt w r many most B v W v1 L1 T1) (hw : Below W.heap.size W W') {v2 : Value} {L2 : RefL} {T2 : TabL} (ho : ROf.Own W' W.heap.size v2 L2) (hk : L2.map (·.1) = T2.map (·.1))
    (hr : ∀ (i : Nat) (x : List UInt8 × Value) (y : List UInt8 × List PeerL), L2[i]? = some x → T2[i]? = some y → RPeer.Own W' B x.2 y.2) : RSt w r many most B v (W'.setCell ⟨r, 2, none⟩ v2) v2 L2 T2 := by
  obtain ⟨h1, h2⟩ := h.tab.put hw ho hk hr rfl
  exact h.next h1 h2 fun k e => .inr (ho.lt k e).1
/-- One entry's peers are others. -/
theorem RSt.set {g1 n1 c1 i : Nat} {d : List UInt8} {u0 u : Value} {ps q : List PeerL} (h : RSt w r many most B v W (.slice (some ⟨g1, 0, none⟩) n1 c1) L1 T1) (hi : L1[i]? = some (d, u0)) (hT : T1[i]? = some (d, ps)) (hu : RPeer.Own W B u q) :
    RSt w r many most B v (W.setCell ⟨g1, i * 33 + 32, none⟩ u) (.slice (some ⟨g1, 0, none⟩) n1 c1) (L1.set i (d, u)) (T1.set i (d, q)) := by
  obtain ⟨ho, hg⟩ := ROf.set h.tab.own (u := u) hi hu.one
  obtain ⟨cur, hcur⟩ := h.tab.own.block (k := g1) rfl
  have hoth : ∀ k, k ≠ g1 → (W.setCell ⟨g1, i * 33 + 32, none⟩ u).heap[k]? = W.heap[k]? := fun k hk => Below.heap_setCell _ _ _ _ hk
  have hne : ∀ {x : Value} {y : List PeerL}, RPeer.Own W B x y → RPeer.Own (W.setCell ⟨g1, i * 33 + 32, none⟩ u) B x y := fun {x y} hx => hx.kept fun k e => hoth k fun q => by
    subst q
    obtain ⟨cur2, h2⟩ := hx.block e
    rw [hcur] at h2; cases h2
  refine h.next ⟨(hoth r (h.tab.ne rfl).symm).trans h.tab.tab, h.tab.base, ho, ?_, fun j x y hx hy => ?_⟩ ⟨rfl, rfl, rfl, by simp, fun k hk hu2 => hoth k fun q => hu2.2 (by rw [q]; rfl)⟩ (fun k e => .inl e)
  · rw [List.map_set, List.map_set, h.tab.keys]
  · by_cases hj : i = j
    · subst hj
      have hil : i < L1.length := (List.getElem?_eq_some_iff.1 hi).1
      have hil2 : i < T1.length := (List.getElem?_eq_some_iff.1 hT).1
      rw [List.getElem?_set_self hil] at hx
      rw [List.getElem?_set_self hil2] at hy
      cases hx; cases hy
      exact hne hu
    · rw [List.getElem?_set_ne hj] at hx hy
      exact hne (h.tab.rows j x y hx hy)
theorem RTabP.val (h : RTabP w r many most B v1 L1 T1) {i : Nat} {d : List UInt8} {ps : List PeerL} (hi : T1[i]? = some (d, ps)) : ∃ u, L1[i]? = some (d, u) ∧ RPeer.Own w B u ps := by
  have hl : i < L1.length := by rw [h.len]; exact (List.getElem?_eq_some_iff.1 hi).1
  obtain ⟨x, hx⟩ : ∃ x, L1[i]? = some x := ⟨_, List.getElem?_eq_getElem hl⟩
  have h1 := h.fst hx hi
  obtain ⟨xd, xv⟩ := x
  cases h1
  exact ⟨xv, hx, h.rows i _ _ hx hi⟩
/-- Its slice's form, an entry's place. -/
theorem RTabP.form (h : RTabP w r many most B v1 L1 T1) (h0 : 0 < T1.length) : ∃ g c, v1 = .slice (some ⟨g, 0, none⟩) T1.length c ∧ B ≤ g ∧ g < w.heap.size ∧ g ≠ r ∧ (∀ j, w.frozen? ⟨g, j, none⟩ = false) ∧ ∀ i x, L1[i]? = some x → ROf.At w g (i * 33) x := by
  obtain ⟨g, c, hv, h1, h2⟩ := h.own.form (by rw [h.len]; exact h0)
  rw [h.len] at hv
  obtain ⟨cur, hcur⟩ := h.own.block (k := g) (by rw [hv]; rfl)
  refine ⟨g, c, hv, h1, h2, h.ne (by rw [hv]; rfl), fun j => by simp [World.frozen?, hcur], fun i x hx => ?_⟩
  obtain ⟨b, off, c', hv2, _, hat⟩ := h.own.row.at_ (by rw [h.len]; exact h0)
  rw [hv] at hv2
  have hq := (Value.slice.inj hv2).1
  cases hq
  have := hat i x hx
  rwa [Nat.zero_add] at this
theorem RTabP.entry {g n c i : Nat} {d : List UInt8} {ps : List PeerL} (h : RTabP w r many most B (.slice (some ⟨g, 0, none⟩) n c) L1 T1) (hi : T1[i]? = some (d, ps)) :
    ∃ a k, L1[i]? = some (d, .slice a ps.length k) ∧ RPeer.Own w B (.slice a ps.length k) ps ∧ w.cell? ⟨g, i * 33 + 32, none⟩ = some (.slice a ps.length k) ∧ w.frozen? ⟨g, i * 33 + 32, none⟩ = false ∧ i < n ∧ n = T1.length := by
  obtain ⟨u, hu, hrow⟩ := h.val hi
  obtain ⟨a, k, hv⟩ := hrow.row.len
  subst hv
  have hil : i < T1.length := (List.getElem?_eq_some_iff.1 hi).1
  obtain ⟨g', c', hv', _, _, _, hfz, hat⟩ := h.form (by omega)
  have e1 := (Value.slice.inj hv').1
  have e2 := (Value.slice.inj hv').2.1
  cases e1
  exact ⟨a, k, hu, hrow, ROf_val (hat i _ hu), hfz _, by omega, e2⟩
theorem set_same {α : Type} {l : List α} {i : Nat} {x : α} (h : l[i]? = some x) : l.set i x = l := (set_split h x).trans (split_at h).symm
end
/-- What a call on the table hands back: what it is then. -/
def RPost (w : World) (r : Nat) (many most : Int) (B : Nat) (v : Value) (T' : TabL) (u : Value) (e : Ending) (w' : World) : Prop :=
  ∃ v' L', e = .returned u ∧ RTabP w' r many most B v' L' T' ∧ RStp r v w w'

end Go.Proofs.Ytnohglkilpnjhaa

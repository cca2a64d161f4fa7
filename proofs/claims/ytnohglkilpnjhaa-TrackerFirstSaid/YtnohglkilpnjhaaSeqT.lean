/- A range over a function whose rounds all go on (slices.Collect): the iterator may make blocks of its own (the set G, which its caller does not know), a round's variable may be made anew. No condition. -/
import Derived.Test.YtnohglkilpnjhaaSeq
namespace Go.Proofs.Ytnohglkilpnjhaa
open Go.RowKit
set_option linter.unusedVariables false
set_option linter.unusedSimpArgs false

/-- The blocks of G are no older than W, or of the set O. -/
def Fresh (O G : Nat → Prop) (W : World) : Prop := ∀ k, G k → W.heap.size ≤ k ∨ O k

/-- The contract of an iterator that makes the blocks G; a round goes on, and leaves G, and what lies below n0, alone. -/
def SeqT {α : Type} (F : Fence) (n : Nat) (P : Program) (f : Nat) (lb : Array Value) (encs : α → Array Value) (It : List α → α → World → Prop) (S : List α → Prop) (O : Nat → Prop) (n0 N : Nat) (W : World) : Prop :=
  ∀ (l : Nat) (J : (Nat → Prop) → List α → World → Prop), (∀ G, Fresh O G W → AbidesC G (J G)) →
    (∀ G pre x W1, Fresh O G W → (∀ k, G k → k < W1.heap.size) → J G pre W1 → It pre x W1 → pre.length < N → YieldAt F (n - 1) P l (encs x) W1 fun e W' =>
      e = .returned (.bool true) ∧ J G (pre ++ [x]) W' ∧ Kept (fun k => G k ∨ k < n0) W1 W') →
    (∀ G W', Fresh O G W → Below W.heap.size W W' → J G [] W') →
    CallsIn F n P f (#[.func (.yield l) #[] #[]] ++ lb) W fun e W' => (∃ v, e = .returned v) ∧ ∃ G xs, Fresh O G W ∧ S xs ∧ J G xs W'

/-- How the body of a round is left. -/
def postT (B n0 : Nat) (G : Nat → Prop) (I : World → Prop) (W : World) : Exit → Act → World → Prop
  | .normal, _, W' => Kept (fun k => G k ∨ k < n0 ∨ k = B ∨ k = B + 1) W W' ∧ I W'
  | _, _, _ => False

variable {F : Fence} {n : Nat} {P : Program}

/-- THE LAW. -/
theorem wpIn_rangeFunc_total {α : Type} {g : Operand} {ps : Array Tmp} {assign body : Code} {Q : Exit → Act → World → Prop} {a : Act} {w : World}
    (hro : F.round = none) (h1 : 1 ≤ n) {gf : Nat} {lb : Array Value} (hg : a.eval g = .func (.func gf) #[] lb) (hFg : F.fn gf) (eg : ∀ args w, (callFunc gf args).run P w = .ok (.enter gf args) w)
    {encs : α → Array Value} {It : List α → α → World → Prop} {S : List α → Prop} {O : Nat → Prop} {n0 N : Nat} (hn0 : n0 ≤ w.heap.size) (hO : ∀ k, O k → k < w.heap.size)
    (hseq : ∀ W1, Below w.heap.size w W1 → W1.heap.size = w.heap.size + 2 → SeqT F (n - 1) P gf lb encs It S O n0 N W1)
    (hps : ∀ x, (encs x).size = ps.size)
    (I : (Nat → Prop) → List α → World → Prop)
    (hI : ∀ G s A B, (∀ k, G k → w.heap.size + 2 ≤ k ∨ O k) → I G s A → Kept (fun k => ¬ G k ∧ k ≠ w.heap.size + 1) A B → I G s B)
    (hIt : ∀ pre x A B, It pre x A → Kept (fun k => k ≠ w.heap.size + 1) A B → It pre x B)
    (h0 : ∀ G W', (∀ k, G k → w.heap.size + 2 ≤ k ∨ O k) → Below w.heap.size w W' → I G [] W') (Gx : α → Act → World → Prop) (hG : ∀ x a A B, Gx x a A → Kept (fun k => k ≠ w.heap.size + 1) A B → Gx x a B)
    (hassign : ∀ (l : Nat) (pre : List α) (x : α) (W : World) (K : Act → World → Prop), It pre x W → w.heap.size + 2 ≤ W.heap.size → (∀ a' W2, Below W.heap.size W W2 → Gx x a' W2 → K a' W2) →
      assign.wpIn (F.inRound l) (n - 1 - 1) P (Exit.then K (fun _ _ _ => False)) { tmps := (ps.zip (encs x)).foldl (fun t (p, v) => t.setIfInBounds p v) a.tmps, defers := [] } W)
    (hbody : ∀ (l : Nat) (G : Nat → Prop) (pre : List α) (x : α) (a' : Act) (W : World), (∀ k, G k → w.heap.size + 2 ≤ k ∨ O k) → (∀ k, G k → k < W.heap.size) → I G pre W → It pre x W → Gx x a' W → pre.length < N → w.heap.size + 2 ≤ W.heap.size →
      body.wpIn (F.inRound l) (n - 1 - 1) P (postT w.heap.size n0 G (I G (pre ++ [x])) W) a' W)
    (hdone : ∀ (G : Nat → Prop) (xs : List α) (W : World), S xs → I G xs W → w.heap.size + 2 ≤ W.heap.size → W.heap[w.heap.size]? = some (.deferred (some [])) → Q .normal { a with defers := { target := .collected w.heap.size, args := #[] } :: a.defers } W) :
    (Code.rangeFunc g ps assign body).wpIn F n P Q a w := by
  refine wpIn_rangeFunc ?_
  intro fn hfn
  rw [hro]
  obtain ⟨rec, hrec⟩ : ∃ rec : LoopState → Option Code → Loop, rec = fun st pe => { state := st, pending := pe, fn, tmps := a.tmps, params := ps, assign, body, defers := w.heap.size } := ⟨_, rfl⟩
  obtain ⟨W1, hW1⟩ : ∃ W1, (w.alloc (.deferred (some []))).alloc (.loop (rec .ready none)) = W1 := ⟨_, rfl⟩
  have hL1 : W1.heap[w.heap.size + 1]? = some (.loop (rec .ready none)) := by
    rw [← hW1]; have := World.alloc_heap_new (w.alloc (.deferred (some []))) (.loop (rec .ready none)); rwa [World.size_alloc] at this
  have hK1 : W1.heap[w.heap.size]? = some (.deferred (some [])) := by
    rw [← hW1]; exact (Below.heap_alloc _ _ _ (by simp)).trans (World.alloc_heap_new w _)
  have hb1 : Below w.heap.size w W1 := by
    rw [← hW1]; exact ((Below.refl _ w).alloc (Nat.le_refl _) _).alloc (by simp) _
  have hs1 : W1.heap.size = w.heap.size + 2 := by rw [← hW1]; simp
  refine ⟨w.heap.size + 1, [{ target := .collected w.heap.size, args := #[] }], W1, { target := .fn (.func gf) lb, args := #[.func (.yield (w.heap.size + 1)) #[] #[]] }, W1, gf,
    #[.func (.yield (w.heap.size + 1)) #[] #[]] ++ lb, W1, ?_, ?_, ?_, ?_, fun _ => h1, ?_⟩
  · rw [← hW1, hrec]; exact run_enterLoop_outer _ _ _ _ _
  · simp only [resolve, hg]
    simp [go_sem]
  · intro f' hf'; simp [Target.leads] at hf'; subst hf'; exact hFg
  · simp [invoke, go_sem, eg]
  · have put : ∀ (U : Nat → Prop) (W : World) (o : Obj), ¬ U (w.heap.size + 1) → Kept U W (W.putObj (w.heap.size + 1) o) := fun U W o h => (Kept.refl U W).putObj h o
    have fr : ∀ G, Fresh O G W1 → ∀ k, G k → w.heap.size + 2 ≤ k ∨ O k := fun G h k hk => (h k hk).imp (fun q => by omega) id
    have fx : ∀ G, Fresh O G W1 → ¬ G w.heap.size ∧ ¬ G (w.heap.size + 1) := fun G h => ⟨fun q => by rcases h _ q with h | h; (have := hs1; omega); (have := hO _ h; omega), fun q => by rcases h _ q with h | h; (have := hs1; omega); (have := hO _ h; omega)⟩
    have kl : ∀ {G : Nat → Prop} {A B : World} {o : Obj}, Fresh O G W1 → A.heap[w.heap.size + 1]? = some o → Kept (fun k => ¬ G k) A B → B.heap[w.heap.size + 1]? = some o := fun hf hl hk => (hk.block _ (Array.getElem?_eq_some_iff.1 hl).1 (fx _ hf).2).trans hl
    have kd : ∀ {G : Nat → Prop} {A B : World} {o : Obj}, Fresh O G W1 → A.heap[w.heap.size]? = some o → Kept (fun k => ¬ G k) A B → B.heap[w.heap.size]? = some o := fun hf hl hk => (hk.block _ (Array.getElem?_eq_some_iff.1 hl).1 (fx _ hf).1).trans hl
    refine (hseq W1 hb1 hs1 (w.heap.size + 1)
      (fun G pre W => I G pre W ∧ W.heap[w.heap.size + 1]? = some (.loop (rec .ready none)) ∧ W.heap[w.heap.size]? = some (.deferred (some [])))
      (fun G hf s A B hs hk => ⟨hI G s A B (fr G hf) hs.1 (hk.mono fun _ _ h => h.1), kl hf hs.2.1 hk, kd hf hs.2.2 hk⟩)
      ?_ (fun G W' hf hb => ⟨h0 G W' (fr G hf) (hb1.trans (hb.mono (by omega))), (hb.block _ (by omega)).trans hL1, (hb.block _ (by omega)).trans hK1⟩)).mono ?_
    · -- ONE ROUND
      rintro G pre x W hf hGl ⟨hi, hl, hk⟩ hit hlen
      have hG2 := fr G hf
      have hlt : w.heap.size + 1 < W.heap.size := (Array.getElem?_eq_some_iff.1 hl).1
      have hy := run_yield (P := P) (args := encs x) hl (by rw [hrec]; exact hps x)
      rw [hrec] at hy
      refine ⟨fn, _, assign, body, hy, roundIn_of_wpIn hfn (hassign _ pre x W _ hit (by omega) fun a' W0 hb0 hg0 => ?_)⟩
      have hk0 : ∀ (V : Nat → Prop), Kept V W W0 := fun V => (Kept.refl V W).below hb0
      have hl0 := (hb0.block _ hlt).trans hl
      have hd0 := (hb0.block w.heap.size (by omega)).trans hk
      have hlt0 : w.heap.size + 1 < W0.heap.size := Nat.lt_of_lt_of_le hlt hb0.size
      refine ⟨_, run_beginRound hl0 (by rw [hrec]), ?_⟩
      have hl2 : (W0.putObj (w.heap.size + 1) (.loop { rec .ready none with state := .busy })).heap[w.heap.size + 1]? = some (.loop { rec .ready none with state := .busy }) := World.putObj_heap_same hlt0
      have hk2 : (W0.putObj (w.heap.size + 1) (.loop { rec .ready none with state := .busy })).heap[w.heap.size]? = some (.deferred (some [])) := (World.putObj_heap_other (by omega)).trans hd0
      have hno : ∀ k, G k → k ≠ w.heap.size + 1 := fun k h e => (fx _ hf).2 (e ▸ h)
      refine wpIn_mono (hbody _ G pre x a' _ hG2 (fun k h => by have := hGl k h; have := hb0.size; simp; omega) (hI _ _ _ _ hG2 (hI _ _ _ _ hG2 hi (hk0 _)) (put _ _ _ (fun h => h.2 rfl))) (hIt _ _ _ _ (hIt _ _ _ _ hit (hk0 _)) (put _ _ _ (fun h => h rfl))) (hG _ _ _ _ hg0 (put _ _ _ (fun h => h rfl))) hlen (by simp; omega)) ?_
      have hsz2 : (W0.putObj (w.heap.size + 1) (.loop { rec .ready none with state := .busy })).heap.size = W0.heap.size := by simp
      rintro e a3 W3 hp
      cases e with
      | normal =>
        obtain ⟨hk3, hi3⟩ := hp
        have hl3 := (hk3.block (w.heap.size + 1) (by rw [hsz2]; exact hlt0) (.inr (.inr (.inr rfl)))).trans hl2
        have hd3 := (hk3.block w.heap.size (by rw [hsz2]; omega) (.inr (.inr (.inl rfl)))).trans hk2
        have hr := run_endRound (P := P) none hl3
        rw [hrec] at hr
        have hl4 : (W3.putObj (w.heap.size + 1) (.loop (rec .ready none))).heap[w.heap.size + 1]? = some (.loop (rec .ready none)) := World.putObj_heap_same (Array.getElem?_eq_some_iff.1 hl3).1
        have hd4 : (W3.putObj (w.heap.size + 1) (.loop (rec .ready none))).heap[w.heap.size]? = some (.deferred (some [])) := (World.putObj_heap_other (by omega)).trans hd3
        rw [hrec] at hl4 hd4
        have hU2 : ¬ (G (w.heap.size + 1) ∨ w.heap.size + 1 < n0) := by
          rintro (h | h)
          · exact hno _ h rfl
          · omega
        rw [hrec]
        exact ⟨_, _, hr, rfl, ⟨hI _ _ _ _ hG2 hi3 (put _ _ _ (fun h => h.2 rfl)), hl4, hd4⟩,
          (((hk0 _).trans (put _ W0 _ hU2)).trans (by rw [hrec] at hk3; exact hk3.mono fun _ _ h => h.elim .inl (fun h => .inr (.inl h)))).trans (put _ _ _ hU2)⟩
      | ret => exact hp.elim
      | exit id => exact hp.elim
      | goto t => exact hp.elim
      | panic ch => exact hp.elim
      | outgrown => exact hp.elim
    · -- BEHIND THE ITERATOR
      rintro e W2 ⟨⟨v, rfl⟩, G, xs, hf, hS, hi, hl, hk⟩
      have hlt := (Array.getElem?_eq_some_iff.1 hl).1
      exact ⟨none, _, by have := run_endLoop (P := P) hl (by rw [hrec]; simp); rw [hrec] at this; exact this, hdone G xs _ hS (hI _ _ _ _ (fr G hf) hi (put _ _ _ (fun h => h.2 rfl))) (by simp; omega) ((World.putObj_heap_other (by omega)).trans hk)⟩

end Go.Proofs.Ytnohglkilpnjhaa

/- A range over a function whose round makes a variable of its own (a struct that the iterator hands over): the law of XSeq, the assignment making blocks. No condition. -/
import Derived.Test.YtnomekfemadpeaaDoorGa
namespace Go.Proofs.YtnomekfemadpeaaDoor
open Go.RowKit
set_option linter.unusedVariables false
set_option linter.unusedSimpArgs false

variable {F : Fence} {n : Nat} {P : Program}

/-- THE LAW. -/
theorem wpIn_rangeFunc_var {α : Type} {g : Operand} {ps : Array Tmp} {assign body : Code} {Q : Exit → Act → World → Prop} {a : Act} {w : World}
    (hro : F.round = none) (h1 : 1 ≤ n) {gf : Nat} {lb : Array Value} (hg : a.eval g = .func (.func gf) #[] lb) (hFg : F.fn gf) (eg : ∀ args w, (callFunc gf args).run P w = .ok (.enter gf args) w)
    {encs : α → Array Value} {It : List α → α → World → Prop} {O U : Nat → Prop} {S Sp : List α → Prop} {N : Nat}
    (hseq : ∀ W1, Below w.heap.size w W1 → W1.heap.size = w.heap.size + 2 → SeqC F (n - 1) P gf lb encs It O U S Sp N W1)
    (hO1 : ¬ O w.heap.size) (hO2 : ¬ O (w.heap.size + 1)) (hU2 : ¬ U (w.heap.size + 1)) (hps : ∀ x, (encs x).size = ps.size)
    (I : List α → World → Prop) (Ix : Code → List α → World → Prop)
    (hI : ∀ s A B, I s A → Kept (fun k => ¬ O k ∧ k ≠ w.heap.size + 1) A B → I s B) (hIx : ∀ c s A B, Ix c s A → Kept (fun k => ¬ O k ∧ k ≠ w.heap.size + 1) A B → Ix c s B)
    (hIt : ∀ pre x A B, It pre x A → Kept (fun k => k ≠ w.heap.size + 1) A B → It pre x B)
    (h0 : I [] w) (G : α → Act → World → Prop) (hG : ∀ x a A B, G x a A → Kept (fun k => k ≠ w.heap.size + 1) A B → G x a B)
    (hassign : ∀ (l : Nat) (pre : List α) (x : α) (W : World) (K : Act → World → Prop), I pre W → It pre x W → w.heap.size + 2 ≤ W.heap.size → (∀ a' W2, Below W.heap.size W W2 → G x a' W2 → K a' W2) →
      assign.wpIn (F.inRound l) (n - 1 - 1) P (Exit.then K (fun _ _ _ => False)) { tmps := (ps.zip (encs x)).foldl (fun t (p, v) => t.setIfInBounds p v) a.tmps, defers := [] } W)
    (hbody : ∀ (l : Nat) (pre : List α) (x : α) (a' : Act) (W : World), I pre W → It pre x W → G x a' W → pre.length < N → w.heap.size + 2 ≤ W.heap.size → body.wpIn (F.inRound l) (n - 1 - 1) P (postC w.heap.size U I Ix (pre ++ [x]) W) a' W)
    (hdone : ∀ (xs : List α) (W : World), S xs → I xs W → w.heap.size + 2 ≤ W.heap.size → W.heap[w.heap.size]? = some (.deferred (some [])) → Q .normal { a with defers := { target := .collected w.heap.size, args := #[] } :: a.defers } W)
    (hstop : ∀ (c : Code) (pre : List α) (W : World), Sp pre → Ix c pre W → w.heap.size + 2 ≤ W.heap.size → W.heap[w.heap.size]? = some (.deferred (some [])) → c.wpIn F n P Q { a with defers := { target := .collected w.heap.size, args := #[] } :: a.defers } W) :
    (Code.rangeFunc g ps assign body).wpIn F n P Q a w := by
  refine wpIn_rangeFunc ?_
  intro fn hfn
  rw [hro]
  obtain ⟨rec, hrec⟩ : ∃ rec : LoopState → Option Code → Loop, rec = fun st pe => { state := st, pending := pe, fn, tmps := a.tmps, params := ps, assign, body, defers := w.heap.size } := ⟨_, rfl⟩
  obtain ⟨W1, hW1⟩ : ∃ W1, (w.alloc (.deferred (some []))).alloc (.loop (rec .ready none)) = W1 := ⟨_, rfl⟩
  have hL1 : W1.heap[w.heap.size + 1]? = some (.loop (rec .ready none)) := by
    rw [← hW1]; have := World.alloc_heap_new (w.alloc (.deferred (some []))) (.loop (rec .ready none)); rwa [World.size_alloc] at this
  have hK1 : W1.heap[w.heap.size]? = some (.deferred (some [])) := by
    rw [← hW1]; exact (Below.heap_alloc _ _ _ (by simp)).trans (World.alloc_heap_new w _)
  have hI1 : I [] W1 := by rw [← hW1]; exact hI _ _ _ h0 (((Kept.refl _ w).alloc _).alloc _)
  have hb1 : Below w.heap.size w W1 := by
    rw [← hW1]; exact ((Below.refl _ w).alloc (Nat.le_refl _) _).alloc (by simp) _
  have hs1 : W1.heap.size = w.heap.size + 2 := by rw [← hW1]; simp
  refine ⟨w.heap.size + 1, [{ target := .collected w.heap.size, args := #[] }], W1, { target := .fn (.func gf) lb, args := #[.func (.yield (w.heap.size + 1)) #[] #[]] }, W1, gf,
    #[.func (.yield (w.heap.size + 1)) #[] #[]] ++ lb, W1, ?_, ?_, ?_, ?_, fun _ => h1, ?_⟩
  · rw [← hW1, hrec]; exact run_enterLoop_outer _ _ _ _ _
  · simp only [resolve, hg]
    simp [go_sem]
  · intro f' hf'; simp [Target.leads] at hf'; subst hf'; exact hFg
  · simp [invoke, go_sem, eg]
  · have put : ∀ (U : Nat → Prop) (W : World) (o : Obj), ¬ U (w.heap.size + 1) → Kept U W (W.putObj (w.heap.size + 1) o) := fun U W o h => (Kept.refl U W).putObj h o
    have kl : ∀ {A B : World} {o : Obj}, A.heap[w.heap.size + 1]? = some o → Kept (fun k => ¬ O k) A B → B.heap[w.heap.size + 1]? = some o := fun hl hk => (hk.block _ (Array.getElem?_eq_some_iff.1 hl).1 hO2).trans hl
    have kd : ∀ {A B : World} {o : Obj}, A.heap[w.heap.size]? = some o → Kept (fun k => ¬ O k) A B → B.heap[w.heap.size]? = some o := fun hl hk => (hk.block _ (Array.getElem?_eq_some_iff.1 hl).1 hO1).trans hl
    refine (hseq W1 hb1 hs1 (w.heap.size + 1)
      (fun pre W => I pre W ∧ W.heap[w.heap.size + 1]? = some (.loop (rec .ready none)) ∧ W.heap[w.heap.size]? = some (.deferred (some [])))
      (fun pre W => ∃ c, Ix c pre W ∧ W.heap[w.heap.size + 1]? = some (.loop (rec .done (some c))) ∧ W.heap[w.heap.size]? = some (.deferred (some [])))
      (fun s A B hs hk => ⟨hI s A B hs.1 (hk.mono fun _ _ h => h.1), kl hs.2.1 hk, kd hs.2.2 hk⟩)
      (fun s A B hs hk => by
        obtain ⟨c, hc, hl, hd⟩ := hs
        exact ⟨c, hIx c s A B hc (hk.mono fun _ _ h => h.1), kl hl hk, kd hd hk⟩)
      ?_ ⟨hI1, hL1, hK1⟩).mono ?_
    · -- ONE ROUND
      rintro pre x W ⟨hi, hl, hk⟩ hit hlen
      have hlt : w.heap.size + 1 < W.heap.size := (Array.getElem?_eq_some_iff.1 hl).1
      have hy := run_yield (P := P) (args := encs x) hl (by rw [hrec]; exact hps x)
      rw [hrec] at hy
      refine ⟨fn, _, assign, body, hy, roundIn_of_wpIn hfn (hassign _ pre x W _ hi hit (by omega) fun a' W0 hb0 hg0 => ?_)⟩
      have hk0 : ∀ (V : Nat → Prop), Kept V W W0 := fun V => (Kept.refl V W).below hb0
      have hl0 := (hb0.block _ hlt).trans hl
      have hd0 := (hb0.block w.heap.size (by omega)).trans hk
      have hlt0 : w.heap.size + 1 < W0.heap.size := Nat.lt_of_lt_of_le hlt hb0.size
      refine ⟨_, run_beginRound hl0 (by rw [hrec]), ?_⟩
      have hl2 : (W0.putObj (w.heap.size + 1) (.loop { rec .ready none with state := .busy })).heap[w.heap.size + 1]? = some (.loop { rec .ready none with state := .busy }) := World.putObj_heap_same hlt0
      have hk2 : (W0.putObj (w.heap.size + 1) (.loop { rec .ready none with state := .busy })).heap[w.heap.size]? = some (.deferred (some [])) := (World.putObj_heap_other (by omega)).trans hd0
      refine wpIn_mono (hbody _ pre x a' _ (hI _ _ _ (hI _ _ _ hi (hk0 _)) (put _ _ _ (fun h => h.2 rfl))) (hIt _ _ _ _ (hIt _ _ _ _ hit (hk0 _)) (put _ _ _ (fun h => h rfl))) (hG _ _ _ _ hg0 (put _ _ _ (fun h => h rfl))) hlen (by simp; omega)) ?_
      have hsz2 : (W0.putObj (w.heap.size + 1) (.loop { rec .ready none with state := .busy })).heap.size = W0.heap.size := by simp
      have fin : ∀ (jump : Option Code) (W3 : World), Kept (fun k => k = w.heap.size ∨ k = w.heap.size + 1) (W0.putObj (w.heap.size + 1) (.loop { rec .ready none with state := .busy })) W3 →
          (Instr.endRound (w.heap.size + 1) jump).run P W3 = .ok (.bool jump.isNone) (W3.putObj (w.heap.size + 1) (.loop (rec (if jump.isNone then .ready else .done) jump))) ∧
          (W3.putObj (w.heap.size + 1) (.loop (rec (if jump.isNone then .ready else .done) jump))).heap[w.heap.size + 1]? = some (.loop (rec (if jump.isNone then .ready else .done) jump)) ∧
          (W3.putObj (w.heap.size + 1) (.loop (rec (if jump.isNone then .ready else .done) jump))).heap[w.heap.size]? = some (.deferred (some [])) := fun jump W3 hk3 => by
        have hl3 := (hk3.block (w.heap.size + 1) (by rw [hsz2]; exact hlt0) (.inr rfl)).trans hl2
        have hd3 := (hk3.block w.heap.size (by rw [hsz2]; omega) (.inl rfl)).trans hk2
        have := run_endRound (P := P) jump hl3
        rw [hrec] at this ⊢
        exact ⟨this, World.putObj_heap_same (Array.getElem?_eq_some_iff.1 hl3).1, (World.putObj_heap_other (by omega)).trans hd3⟩
      rintro e a3 W3 hp
      cases e with
      | normal =>
        obtain ⟨hk3, hi3⟩ := hp
        obtain ⟨hr, hl4, hk4⟩ := fin none W3 (hk3.mono fun _ _ h => .inr h)
        exact ⟨_, _, hr, .inl ⟨rfl, ⟨hI _ _ _ hi3 (put _ _ _ (fun h => h.2 rfl)), hl4, hk4⟩, (((hk0 U).trans (put U W0 _ hU2)).trans (hk3.mono fun _ _ h => .inl h)).trans (put U _ _ hU2)⟩⟩
      | ret =>
        obtain ⟨hk3, hi3⟩ := hp
        obtain ⟨hr, hl4, hk4⟩ := fin (some .ret) W3 hk3
        exact ⟨_, _, hr, .inr ⟨rfl, .ret, hIx _ _ _ _ hi3 (put _ _ _ (fun h => h.2 rfl)), hl4, hk4⟩⟩
      | exit id =>
        obtain ⟨hk3, hi3⟩ := hp
        obtain ⟨hr, hl4, hk4⟩ := fin (some (.exit id)) W3 hk3
        exact ⟨_, _, hr, .inr ⟨rfl, .exit id, hIx _ _ _ _ hi3 (put _ _ _ (fun h => h.2 rfl)), hl4, hk4⟩⟩
      | goto t =>
        obtain ⟨hk3, hi3⟩ := hp
        obtain ⟨hr, hl4, hk4⟩ := fin (some (.goto t)) W3 hk3
        exact ⟨_, _, hr, .inr ⟨rfl, .goto t, hIx _ _ _ _ hi3 (put _ _ _ (fun h => h.2 rfl)), hl4, hk4⟩⟩
      | panic ch => exact hp.elim
      | outgrown => exact hp.elim
    · -- BEHIND THE ITERATOR
      rintro e W2 ⟨⟨v, rfl⟩, (⟨xs, hS, hi, hl, hk⟩ | ⟨pre, hSp, c, hi, hl, hk⟩)⟩
      · have hlt := (Array.getElem?_eq_some_iff.1 hl).1
        exact ⟨none, _, by have := run_endLoop (P := P) hl (by rw [hrec]; simp); rw [hrec] at this; exact this, hdone xs _ hS (hI _ _ _ hi (put _ _ _ (fun h => h.2 rfl))) (by simp; omega) ((World.putObj_heap_other (by omega)).trans hk)⟩
      · have hlt := (Array.getElem?_eq_some_iff.1 hl).1
        exact ⟨some c, _, by have := run_endLoop (P := P) hl (by rw [hrec]; simp); rw [hrec] at this; exact this, hstop c pre _ hSp (hIx c _ _ _ hi (put _ _ _ (fun h => h.2 rfl))) (by simp; omega) ((World.putObj_heap_other (by omega)).trans hk)⟩

end Go.Proofs.YtnomekfemadpeaaDoor

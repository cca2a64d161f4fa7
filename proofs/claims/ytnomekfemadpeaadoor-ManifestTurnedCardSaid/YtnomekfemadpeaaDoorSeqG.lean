/- A range over a function whose iterator makes a block of its own (g, of which its caller cannot know the number) and writes it in place between the rounds. No condition. -/
import Derived.Test.YtnomekfemadpeaaDoorSeq
namespace Go.Proofs.YtnomekfemadpeaaDoor
open Go.RowKit
set_option linter.unusedVariables false
set_option linter.unusedSimpArgs false

/-- The contract of an iterator that makes a block g of its own and then turns that block alone; a round must leave g alone; It is what it tells the round about memory. -/
def SeqG {α : Type} (F : Fence) (n : Nat) (P : Program) (f : Nat) (lb : Array Value) (encs : Nat → α → Array Value) (It : Nat → List α → α → World → Prop) (S Sp : List α → Prop) (n0 N : Nat) (W : World) : Prop :=
  ∀ (l : Nat) (J Jx : Nat → List α → World → Prop), (∀ g, W.heap.size ≤ g → AbidesC (fun k => k = g) (J g)) → (∀ g, W.heap.size ≤ g → AbidesC (fun k => k = g) (Jx g)) →
    (∀ g pre x W1, W.heap.size ≤ g → J g pre W1 → It g pre x W1 → pre.length < N → YieldAt F (n - 1) P l (encs g x) W1 fun e W' =>
      (e = .returned (.bool true) ∧ J g (pre ++ [x]) W' ∧ Kept (fun k => k = g ∨ k < n0) W1 W') ∨ (e = .returned (.bool false) ∧ Jx g (pre ++ [x]) W')) →
    (∀ g W', W.heap.size ≤ g → Below W.heap.size W W' → J g [] W') →
    CallsIn F n P f (#[.func (.yield l) #[] #[]] ++ lb) W fun e W' => (∃ v, e = .returned v) ∧ ∃ g, W.heap.size ≤ g ∧ ((∃ xs, S xs ∧ J g xs W') ∨ (∃ pre, Sp pre ∧ Jx g pre W'))

variable {F : Fence} {n : Nat} {P : Program}

/-- THE LAW. -/
theorem wpIn_rangeFunc_block {α : Type} {g : Operand} {ps : Array Tmp} {assign body : Code} {Q : Exit → Act → World → Prop} {a : Act} {w : World}
    (hro : F.round = none) (h1 : 1 ≤ n) {gf : Nat} {lb : Array Value} (hg : a.eval g = .func (.func gf) #[] lb) (hFg : F.fn gf) (eg : ∀ args w, (callFunc gf args).run P w = .ok (.enter gf args) w)
    {encs : Nat → α → Array Value} {It : Nat → List α → α → World → Prop} {S Sp : List α → Prop} {n0 N : Nat} (hn0 : n0 ≤ w.heap.size)
    (hseq : ∀ W1, Below w.heap.size w W1 → W1.heap.size = w.heap.size + 2 → SeqG F (n - 1) P gf lb encs It S Sp n0 N W1)
    (hps : ∀ g x, (encs g x).size = ps.size)
    (I : Nat → List α → World → Prop) (Ix : Code → Nat → List α → World → Prop)
    (hI : ∀ g s A B, w.heap.size + 2 ≤ g → I g s A → Kept (fun k => k ≠ g ∧ k ≠ w.heap.size + 1) A B → I g s B) (hIx : ∀ c g s A B, w.heap.size + 2 ≤ g → Ix c g s A → Kept (fun k => k ≠ g ∧ k ≠ w.heap.size + 1) A B → Ix c g s B)
    (hIt : ∀ g pre x A B, w.heap.size + 2 ≤ g → It g pre x A → Kept (fun k => k ≠ w.heap.size + 1) A B → It g pre x B)
    (h0 : ∀ g W', w.heap.size + 2 ≤ g → Below w.heap.size w W' → I g [] W') (a₁ : Nat → α → Act)
    (hassign : ∀ (l : Nat) (g : Nat) (x : α) (W : World) (K : Act → World → Prop), K (a₁ g x) W →
      assign.wpIn (F.inRound l) (n - 1 - 1) P (Exit.then K (fun _ _ _ => False)) { tmps := (ps.zip (encs g x)).foldl (fun t (p, v) => t.setIfInBounds p v) a.tmps, defers := [] } W)
    (hbody : ∀ (l : Nat) (g : Nat) (pre : List α) (x : α) (W : World), w.heap.size + 2 ≤ g → I g pre W → It g pre x W → pre.length < N → w.heap.size + 2 ≤ W.heap.size → body.wpIn (F.inRound l) (n - 1 - 1) P (postC w.heap.size (fun k => k = g ∨ k < n0) (I g) (fun c => Ix c g) (pre ++ [x]) W) (a₁ g x) W)
    (hdone : ∀ (g : Nat) (xs : List α) (W : World), w.heap.size + 2 ≤ g → S xs → I g xs W → w.heap.size + 2 ≤ W.heap.size → W.heap[w.heap.size]? = some (.deferred (some [])) → Q .normal { a with defers := { target := .collected w.heap.size, args := #[] } :: a.defers } W)
    (hstop : ∀ (g : Nat) (c : Code) (pre : List α) (W : World), w.heap.size + 2 ≤ g → Sp pre → Ix c g pre W → w.heap.size + 2 ≤ W.heap.size → W.heap[w.heap.size]? = some (.deferred (some [])) → c.wpIn F n P Q { a with defers := { target := .collected w.heap.size, args := #[] } :: a.defers } W) :
    (Code.rangeFunc g ps assign body).wpIn F n P Q a w := by
  refine wpIn_rangeFunc ?_
  intro fn hfn
  rw [hro]
  obtain ⟨rec, hrec⟩ : ∃ rec : LoopState → Option Code → Loop, rec = fun st pe => { state := st, pending := pe, fn, tmps := a.tmps, params := ps, assign, body, defers := w.heap.size } := ⟨_, rfl⟩
  obtain ⟨W1, hW1⟩ : ∃ W1, (w.alloc (.deferred (some []))).alloc (.loop (rec .ready none)) = W1 := ⟨_, rfl⟩
  have hL1 : W1.heap[w.heap.size + 1]? = some (.loop (rec .ready none)) := by
    rw [← hW1]; have := World.alloc_heap_new (w.alloc (.deferred (some []))) (.loop (rec .ready none)); rwa [World.size_alloc] at this
  have hK1 : W1.heap[w.heap.size]? = some (.deferred (some [])) := by
    rw [← hW1]; exact (Below.heap_alloc _ _ _ (by simp)).trans (World.alloc_heap_new w _)
  have hb1 : Below w.heap.size w W1 := by
    rw [← hW1]; exact ((Below.refl _ w).alloc (Nat.le_refl _) _).alloc (by simp) _
  have hs1 : W1.heap.size = w.heap.size + 2 := by rw [← hW1]; simp
  refine ⟨w.heap.size + 1, [{ target := .collected w.heap.size, args := #[] }], W1, { target := .fn (.func gf) lb, args := #[.func (.yield (w.heap.size + 1)) #[] #[]] }, W1, gf,
    #[.func (.yield (w.heap.size + 1)) #[] #[]] ++ lb, W1, ?_, ?_, ?_, ?_, fun _ => h1, ?_⟩
  · rw [← hW1, hrec]; exact run_enterLoop_outer _ _ _ _ _
  · simp only [resolve, hg]
    simp [go_sem]
  · intro f' hf'; simp [Target.leads] at hf'; subst hf'; exact hFg
  · simp [invoke, go_sem, eg]
  · have put : ∀ (U : Nat → Prop) (W : World) (o : Obj), ¬ U (w.heap.size + 1) → Kept U W (W.putObj (w.heap.size + 1) o) := fun U W o h => (Kept.refl U W).putObj h o
    have kl : ∀ {g : Nat} {A B : World} {o : Obj}, W1.heap.size ≤ g → A.heap[w.heap.size + 1]? = some o → Kept (fun k => ¬ k = g) A B → B.heap[w.heap.size + 1]? = some o := fun hg hl hk => (hk.block _ (Array.getElem?_eq_some_iff.1 hl).1 (by omega)).trans hl
    have kd : ∀ {g : Nat} {A B : World} {o : Obj}, W1.heap.size ≤ g → A.heap[w.heap.size]? = some o → Kept (fun k => ¬ k = g) A B → B.heap[w.heap.size]? = some o := fun hg hl hk => (hk.block _ (Array.getElem?_eq_some_iff.1 hl).1 (by omega)).trans hl
    refine (hseq W1 hb1 hs1 (w.heap.size + 1)
      (fun g pre W => I g pre W ∧ W.heap[w.heap.size + 1]? = some (.loop (rec .ready none)) ∧ W.heap[w.heap.size]? = some (.deferred (some [])))
      (fun g pre W => ∃ c, Ix c g pre W ∧ W.heap[w.heap.size + 1]? = some (.loop (rec .done (some c))) ∧ W.heap[w.heap.size]? = some (.deferred (some [])))
      (fun g hg s A B hs hk => ⟨hI g s A B (by omega) hs.1 (hk.mono fun _ _ h => h.1), kl hg hs.2.1 hk, kd hg hs.2.2 hk⟩)
      (fun g hg s A B hs hk => by
        obtain ⟨c, hc, hl, hd⟩ := hs
        exact ⟨c, hIx c g s A B (by omega) hc (hk.mono fun _ _ h => h.1), kl hg hl hk, kd hg hd hk⟩)
      ?_ (fun g W' hg hb => ⟨h0 g W' (by omega) (hb1.trans (hb.mono (by omega))), (hb.block _ (by omega)).trans hL1, (hb.block _ (by omega)).trans hK1⟩)).mono ?_
    · -- ONE ROUND
      rintro g pre x W hgs ⟨hi, hl, hk⟩ hit hlen
      have hg2 : w.heap.size + 2 ≤ g := by omega
      have hlt : w.heap.size + 1 < W.heap.size := (Array.getElem?_eq_some_iff.1 hl).1
      have hy := run_yield (P := P) (args := encs g x) hl (by rw [hrec]; exact hps g x)
      rw [hrec] at hy
      refine ⟨fn, _, assign, body, hy, roundIn_of_wpIn hfn (hassign _ g x W _ ⟨_, run_beginRound hl (by rw [hrec]), ?_⟩)⟩
      have hl2 : (W.putObj (w.heap.size + 1) (.loop { rec .ready none with state := .busy })).heap[w.heap.size + 1]? = some (.loop { rec .ready none with state := .busy }) := World.putObj_heap_same hlt
      have hk2 : (W.putObj (w.heap.size + 1) (.loop { rec .ready none with state := .busy })).heap[w.heap.size]? = some (.deferred (some [])) := (World.putObj_heap_other (by omega)).trans hk
      refine wpIn_mono (hbody _ g pre x _ hg2 (hI _ _ _ _ hg2 hi (put _ _ _ (fun h => h.2 rfl))) (hIt _ _ _ _ _ hg2 hit (put _ _ _ (fun h => h rfl))) hlen (by simp; omega)) ?_
      have hsz2 : (W.putObj (w.heap.size + 1) (.loop { rec .ready none with state := .busy })).heap.size = W.heap.size := by simp
      have fin : ∀ (jump : Option Code) (W3 : World), Kept (fun k => k = w.heap.size ∨ k = w.heap.size + 1) (W.putObj (w.heap.size + 1) (.loop { rec .ready none with state := .busy })) W3 →
          (Instr.endRound (w.heap.size + 1) jump).run P W3 = .ok (.bool jump.isNone) (W3.putObj (w.heap.size + 1) (.loop (rec (if jump.isNone then .ready else .done) jump))) ∧
          (W3.putObj (w.heap.size + 1) (.loop (rec (if jump.isNone then .ready else .done) jump))).heap[w.heap.size + 1]? = some (.loop (rec (if jump.isNone then .ready else .done) jump)) ∧
          (W3.putObj (w.heap.size + 1) (.loop (rec (if jump.isNone then .ready else .done) jump))).heap[w.heap.size]? = some (.deferred (some [])) := fun jump W3 hk3 => by
        have hl3 := (hk3.block (w.heap.size + 1) (by rw [hsz2]; exact hlt) (.inr rfl)).trans hl2
        have hd3 := (hk3.block w.heap.size (by rw [hsz2]; omega) (.inl rfl)).trans hk2
        have := run_endRound (P := P) jump hl3
        rw [hrec] at this ⊢
        exact ⟨this, World.putObj_heap_same (Array.getElem?_eq_some_iff.1 hl3).1, (World.putObj_heap_other (by omega)).trans hd3⟩
      rintro e a3 W3 hp
      cases e with
      | normal =>
        obtain ⟨hk3, hi3⟩ := hp
        obtain ⟨hr, hl4, hk4⟩ := fin none W3 (hk3.mono fun _ _ h => .inr h)
        exact ⟨_, _, hr, .inl ⟨rfl, ⟨hI _ _ _ _ hg2 hi3 (put _ _ _ (fun h => h.2 rfl)), hl4, hk4⟩, ((put (fun k => k = g ∨ k < n0) W _ (by omega)).trans (hk3.mono fun _ _ h => .inl h)).trans (put (fun k => k = g ∨ k < n0) _ _ (by omega))⟩⟩
      | ret =>
        obtain ⟨hk3, hi3⟩ := hp
        obtain ⟨hr, hl4, hk4⟩ := fin (some .ret) W3 hk3
        exact ⟨_, _, hr, .inr ⟨rfl, .ret, hIx _ _ _ _ _ hg2 hi3 (put _ _ _ (fun h => h.2 rfl)), hl4, hk4⟩⟩
      | exit id =>
        obtain ⟨hk3, hi3⟩ := hp
        obtain ⟨hr, hl4, hk4⟩ := fin (some (.exit id)) W3 hk3
        exact ⟨_, _, hr, .inr ⟨rfl, .exit id, hIx _ _ _ _ _ hg2 hi3 (put _ _ _ (fun h => h.2 rfl)), hl4, hk4⟩⟩
      | goto t =>
        obtain ⟨hk3, hi3⟩ := hp
        obtain ⟨hr, hl4, hk4⟩ := fin (some (.goto t)) W3 hk3
        exact ⟨_, _, hr, .inr ⟨rfl, .goto t, hIx _ _ _ _ _ hg2 hi3 (put _ _ _ (fun h => h.2 rfl)), hl4, hk4⟩⟩
      | panic ch => exact hp.elim
      | outgrown => exact hp.elim
    · -- BEHIND THE ITERATOR
      rintro e W2 ⟨⟨v, rfl⟩, g, hgs, (⟨xs, hS, hi, hl, hk⟩ | ⟨pre, hSp, c, hi, hl, hk⟩)⟩
      all_goals have hg2 : w.heap.size + 2 ≤ g := by omega
      · have hlt := (Array.getElem?_eq_some_iff.1 hl).1
        exact ⟨none, _, by have := run_endLoop (P := P) hl (by rw [hrec]; simp); rw [hrec] at this; exact this, hdone g xs _ hg2 hS (hI _ _ _ _ hg2 hi (put _ _ _ (fun h => h.2 rfl))) (by simp; omega) ((World.putObj_heap_other (by omega)).trans hk)⟩
      · have hlt := (Array.getElem?_eq_some_iff.1 hl).1
        exact ⟨some c, _, by have := run_endLoop (P := P) hl (by rw [hrec]; simp); rw [hrec] at this; exact this, hstop g c pre _ hg2 hSp (hIx c _ _ _ _ hg2 hi (put _ _ _ (fun h => h.2 rfl))) (by simp; omega) ((World.putObj_heap_other (by omega)).trans hk)⟩

end Go.Proofs.YtnomekfemadpeaaDoor

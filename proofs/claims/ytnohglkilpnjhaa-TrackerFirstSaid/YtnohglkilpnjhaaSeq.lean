/- A range over a function whose iterator keeps state of its own in cells: what the iterator owns (O), what a round must leave alone (U), what the iterator tells a round about memory (It). No condition. -/
import Derived.RangeFuncNested
import Derived.RangeFuncBound
import Derived.RangeFuncCalls
import Derived.RangeFuncLeaves
import Derived.TacticsInMore
import Derived.OwnWalkIn
namespace Go.Proofs.Ytnohglkilpnjhaa
open Go.RowKit
set_option linter.unusedVariables false
set_option linter.unusedSimpArgs false

/-- The blocks of U that were there lie as they lay; no block has gone; the streams are as they were. -/
structure Kept (U : Nat → Prop) (A B : World) : Prop where
  os : B.os = A.os
  tape : B.tape = A.tape
  output : B.output = A.output
  size : A.heap.size ≤ B.heap.size
  block : ∀ k, k < A.heap.size → U k → B.heap[k]? = A.heap[k]?

theorem Kept.refl (U : Nat → Prop) (A : World) : Kept U A A := ⟨rfl, rfl, rfl, Nat.le_refl _, fun _ _ _ => rfl⟩
theorem Kept.trans {U : Nat → Prop} {A B C : World} (h : Kept U A B) (k : Kept U B C) : Kept U A C :=
  ⟨k.os.trans h.os, k.tape.trans h.tape, k.output.trans h.output, Nat.le_trans h.size k.size, fun i hi hu => (k.block i (Nat.lt_of_lt_of_le hi h.size) hu).trans (h.block i hi hu)⟩
theorem Kept.mono {U V : Nat → Prop} {A B : World} (h : Kept U A B) (hv : ∀ k, k < A.heap.size → V k → U k) : Kept V A B :=
  ⟨h.os, h.tape, h.output, h.size, fun i hi hu => h.block i hi (hv i hi hu)⟩
theorem Kept.alloc {U : Nat → Prop} {A B : World} (h : Kept U A B) (o : Obj) : Kept U A (B.alloc o) :=
  h.trans ⟨rfl, rfl, rfl, by simp, fun k hk _ => Below.heap_alloc _ _ _ hk⟩
theorem Kept.drew {U : Nat → Prop} {A B : World} (h : Kept U A B) : Kept U A B.drew := ⟨h.os, h.tape, h.output, h.size, h.block⟩
theorem Kept.setCell {U : Nat → Prop} {A B : World} (h : Kept U A B) {p : Addr} (hp : ¬ U p.block) (u : Value) : Kept U A (B.setCell p u) :=
  h.trans ⟨rfl, rfl, rfl, by simp [World.setCell], fun k hk hu => Below.heap_setCell _ _ _ _ (fun e => hp (e ▸ hu))⟩
theorem Kept.putObj {U : Nat → Prop} {A B : World} (h : Kept U A B) {l : Nat} (hl : ¬ U l) (o : Obj) : Kept U A (B.putObj l o) :=
  h.trans ⟨rfl, rfl, rfl, by simp, fun k hk hu => World.putObj_heap_other (fun e => hl (e ▸ hu))⟩
/-- Whatever only grew kept all. -/
theorem Kept.below {U : Nat → Prop} {A B C : World} (h : Kept U A B) (hb : Below B.heap.size B C) : Kept U A C :=
  h.trans ⟨hb.os, hb.tape, hb.output, hb.size, fun k hk _ => hb.block k hk⟩
theorem Kept.grown {U : Nat → Prop} {A B C : World} {row : Option Nat} (h : Kept U A B) (hg : B.grownBy C row) (hr : ∀ r, row = some r → ¬ U r) : Kept U A C :=
  h.trans ⟨hg.os, hg.tape, hg.output, hg.size, fun k hk hu => hg.block k hk (fun e => hr k e.symm hu)⟩
theorem Kept.to_below {U : Nat → Prop} {w A B : World} {n : Nat} (hb : Below n w A) (h : Kept U A B) (hn : n ≤ A.heap.size) (hu : ∀ k, k < n → U k) : Below n w B :=
  hb.trans ⟨h.os, h.tape, h.output, h.size, fun k hk => h.block k (by omega) (hu k hk)⟩
theorem Kept.cell {U : Nat → Prop} {A B : World} (h : Kept U A B) {p : Addr} (hp : p.block < A.heap.size) (hu : U p.block) : B.cell? p = A.cell? p :=
  World.cell?_of_block (h.block _ hp hu)

def AbidesC {β : Type} (O : Nat → Prop) (J : β → World → Prop) : Prop := ∀ s A B, J s A → Kept (fun k => ¬ O k) A B → J s B

/-- The contract of an iterator that owns the blocks O: it keeps all others; a round must leave U alone; It is what it tells the round about memory. -/
def SeqC {α : Type} (F : Fence) (n : Nat) (P : Program) (g : Nat) (lb : Array Value) (encs : α → Array Value) (It : List α → α → World → Prop) (O U : Nat → Prop) (S Sp : List α → Prop) (N : Nat) (W : World) : Prop :=
  ∀ (l : Nat) (J Jx : List α → World → Prop), AbidesC O J → AbidesC O Jx →
    (∀ pre x W1, J pre W1 → It pre x W1 → pre.length < N → YieldAt F (n - 1) P l (encs x) W1 fun e W' =>
      (e = .returned (.bool true) ∧ J (pre ++ [x]) W' ∧ Kept U W1 W') ∨ (e = .returned (.bool false) ∧ Jx (pre ++ [x]) W')) →
    J [] W →
    CallsIn F n P g (#[.func (.yield l) #[] #[]] ++ lb) W fun e W' => (∃ v, e = .returned v) ∧ ((∃ xs, S xs ∧ J xs W') ∨ (∃ pre, Sp pre ∧ Jx pre W'))

/-- How the body of a round may be left. -/
def postC {α : Type} (B : Nat) (U : Nat → Prop) (I : List α → World → Prop) (Ix : Code → List α → World → Prop) (xs : List α) (W : World) : Exit → Act → World → Prop
  | .normal, _, W' => Kept (fun k => U k ∨ k = B ∨ k = B + 1) W W' ∧ I xs W'
  | .ret, _, W' => Kept (fun k => k = B ∨ k = B + 1) W W' ∧ Ix .ret xs W'
  | .exit id, _, W' => Kept (fun k => k = B ∨ k = B + 1) W W' ∧ Ix (.exit id) xs W'
  | .goto t, _, W' => Kept (fun k => k = B ∨ k = B + 1) W W' ∧ Ix (.goto t) xs W'
  | .panic _, _, _ => False
  | .outgrown, _, _ => False

variable {F : Fence} {n : Nat} {P : Program}

/-- THE LAW. -/
theorem wpIn_rangeFunc_cells {α : Type} {g : Operand} {ps : Array Tmp} {assign body : Code} {Q : Exit → Act → World → Prop} {a : Act} {w : World}
    (hro : F.round = none) (h1 : 1 ≤ n) {gf : Nat} {lb : Array Value} (hg : a.eval g = .func (.func gf) #[] lb) (hFg : F.fn gf) (eg : ∀ args w, (callFunc gf args).run P w = .ok (.enter gf args) w)
    {encs : α → Array Value} {It : List α → α → World → Prop} {O U : Nat → Prop} {S Sp : List α → Prop} {N : Nat}
    (hseq : ∀ W1, Below w.heap.size w W1 → W1.heap.size = w.heap.size + 2 → SeqC F (n - 1) P gf lb encs It O U S Sp N W1)
    (hO1 : ¬ O w.heap.size) (hO2 : ¬ O (w.heap.size + 1)) (hU2 : ¬ U (w.heap.size + 1)) (hps : ∀ x, (encs x).size = ps.size)
    (I : List α → World → Prop) (Ix : Code → List α → World → Prop)
    (hI : ∀ s A B, I s A → Kept (fun k => ¬ O k ∧ k ≠ w.heap.size + 1) A B → I s B) (hIx : ∀ c s A B, Ix c s A → Kept (fun k => ¬ O k ∧ k ≠ w.heap.size + 1) A B → Ix c s B)
    (hIt : ∀ pre x A B, It pre x A → Kept (fun k => k ≠ w.heap.size + 1) A B → It pre x B)
    (h0 : I [] w) (a₁ : α → Act)
    (hassign : ∀ (l : Nat) (x : α) (W : World) (K : Act → World → Prop), K (a₁ x) W →
      assign.wpIn (F.inRound l) (n - 1 - 1) P (Exit.then K (fun _ _ _ => False)) { tmps := (ps.zip (encs x)).foldl (fun t (p, v) => t.setIfInBounds p v) a.tmps, defers := [] } W)
    (hbody : ∀ (l : Nat) (pre : List α) (x : α) (W : World), I pre W → It pre x W → pre.length < N → w.heap.size + 2 ≤ W.heap.size → body.wpIn (F.inRound l) (n - 1 - 1) P (postC w.heap.size U I Ix (pre ++ [x]) W) (a₁ x) W)
    (hdone : ∀ (xs : List α) (W : World), S xs → I xs W → w.heap.size + 2 ≤ W.heap.size → W.heap[w.heap.size]? = some (.deferred (some [])) → Q .normal { a with defers := { target := .collected w.heap.size, args := #[] } :: a.defers } W)
    (hstop : ∀ (c : Code) (pre : List α) (W : World), Sp pre → Ix c pre W → w.heap.size + 2 ≤ W.heap.size → W.heap[w.heap.size]? = some (.deferred (some [])) → c.wpIn F n P Q { a with defers := { target := .collected w.heap.size, args := #[] } :: a.defers } W) :
    (Code.rangeFunc g ps assign body).wpIn F n P Q a w := by
  refine wpIn_rangeFunc ?_
  intro fn hfn
  rw [hro]
  obtain ⟨rec, hrec⟩ : ∃ rec : LoopState → Option Code → Loop, rec = fun st pe => { state := st, pending := pe, fn, tmps := a.tmps, params := ps, assign, body, defers := w.heap.size } := ⟨_, rfl⟩
  obtain ⟨W1, hW1⟩ : ∃ W1, (w.alloc (.deferred (some []))).alloc (.loop (rec .ready none)) = W1 := ⟨_, rfl⟩
  have hL1 : W1.heap[w.heap.size + 1]? = some (.loop (rec .ready none)) := by
    rw [← hW1]; have := World.alloc_heap_new (w.alloc (.deferred (some []))) (.loop (rec .ready none)); rwa [World.size_alloc] at this
  have hK1 : W1.heap[w.heap.size]? = some (.deferred (some [])) := by
    rw [← hW1]; exact (Below.heap_alloc _ _ _ (by simp)).trans (World.alloc_heap_new w _)
  have hI1 : I [] W1 := by rw [← hW1]; exact hI _ _ _ h0 (((Kept.refl _ w).alloc _).alloc _)
  have hb1 : Below w.heap.size w W1 := by
    rw [← hW1]; exact ((Below.refl _ w).alloc (Nat.le_refl _) _).alloc (by simp) _
  have hs1 : W1.heap.size = w.heap.size + 2 := by rw [← hW1]; simp
  refine ⟨w.heap.size + 1, [{ target := .collected w.heap.size, args := #[] }], W1, { target := .fn (.func gf) lb, args := #[.func (.yield (w.heap.size + 1)) #[] #[]] }, W1, gf,
    #[.func (.yield (w.heap.size + 1)) #[] #[]] ++ lb, W1, ?_, ?_, ?_, ?_, fun _ => h1, ?_⟩
  · rw [← hW1, hrec]; exact run_enterLoop_outer _ _ _ _ _
  · simp only [resolve, hg]
    simp [go_sem]
  · intro f' hf'; simp [Target.leads] at hf'; subst hf'; exact hFg
  · simp [invoke, go_sem, eg]
  · have put : ∀ (U : Nat → Prop) (W : World) (o : Obj), ¬ U (w.heap.size + 1) → Kept U W (W.putObj (w.heap.size + 1) o) := fun U W o h => (Kept.refl U W).putObj h o
    have kl : ∀ {A B : World} {o : Obj}, A.heap[w.heap.size + 1]? = some o → Kept (fun k => ¬ O k) A B → B.heap[w.heap.size + 1]? = some o := fun hl hk => (hk.block _ (Array.getElem?_eq_some_iff.1 hl).1 hO2).trans hl
    have kd : ∀ {A B : World} {o : Obj}, A.heap[w.heap.size]? = some o → Kept (fun k => ¬ O k) A B → B.heap[w.heap.size]? = some o := fun hl hk => (hk.block _ (Array.getElem?_eq_some_iff.1 hl).1 hO1).trans hl
    refine (hseq W1 hb1 hs1 (w.heap.size + 1)
      (fun pre W => I pre W ∧ W.heap[w.heap.size + 1]? = some (.loop (rec .ready none)) ∧ W.heap[w.heap.size]? = some (.deferred (some [])))
      (fun pre W => ∃ c, Ix c pre W ∧ W.heap[w.heap.size + 1]? = some (.loop (rec .done (some c))) ∧ W.heap[w.heap.size]? = some (.deferred (some [])))
      (fun s A B hs hk => ⟨hI s A B hs.1 (hk.mono fun _ _ h => h.1), kl hs.2.1 hk, kd hs.2.2 hk⟩)
      (fun s A B hs hk => by
        obtain ⟨c, hc, hl, hd⟩ := hs
        exact ⟨c, hIx c s A B hc (hk.mono fun _ _ h => h.1), kl hl hk, kd hd hk⟩)
      ?_ ⟨hI1, hL1, hK1⟩).mono ?_
    · -- ONE ROUND
      rintro pre x W ⟨hi, hl, hk⟩ hit hlen
      have hlt : w.heap.size + 1 < W.heap.size := (Array.getElem?_eq_some_iff.1 hl).1
      have hy := run_yield (P := P) (args := encs x) hl (by rw [hrec]; exact hps x)
      rw [hrec] at hy
      refine ⟨fn, _, assign, body, hy, roundIn_of_wpIn hfn (hassign _ x W _ ⟨_, run_beginRound hl (by rw [hrec]), ?_⟩)⟩
      have hl2 : (W.putObj (w.heap.size + 1) (.loop { rec .ready none with state := .busy })).heap[w.heap.size + 1]? = some (.loop { rec .ready none with state := .busy }) := World.putObj_heap_same hlt
      have hk2 : (W.putObj (w.heap.size + 1) (.loop { rec .ready none with state := .busy })).heap[w.heap.size]? = some (.deferred (some [])) := (World.putObj_heap_other (by omega)).trans hk
      refine wpIn_mono (hbody _ pre x _ (hI _ _ _ hi (put _ _ _ (fun h => h.2 rfl))) (hIt _ _ _ _ hit (put _ _ _ (fun h => h rfl))) hlen (by simp; omega)) ?_
      have hsz2 : (W.putObj (w.heap.size + 1) (.loop { rec .ready none with state := .busy })).heap.size = W.heap.size := by simp
      have fin : ∀ (jump : Option Code) (W3 : World), Kept (fun k => k = w.heap.size ∨ k = w.heap.size + 1) (W.putObj (w.heap.size + 1) (.loop { rec .ready none with state := .busy })) W3 →
          (Instr.endRound (w.heap.size + 1) jump).run P W3 = .ok (.bool jump.isNone) (W3.putObj (w.heap.size + 1) (.loop (rec (if jump.isNone then .ready else .done) jump))) ∧
          (W3.putObj (w.heap.size + 1) (.loop (rec (if jump.isNone then .ready else .done) jump))).heap[w.heap.size + 1]? = some (.loop (rec (if jump.isNone then .ready else .done) jump)) ∧
          (W3.putObj (w.heap.size + 1) (.loop (rec (if jump.isNone then .ready else .done) jump))).heap[w.heap.size]? = some (.deferred (some [])) := fun jump W3 hk3 => by
        have hl3 := (hk3.block (w.heap.size + 1) (by rw [hsz2]; exact hlt) (.inr rfl)).trans hl2
        have hd3 := (hk3.block w.heap.size (by rw [hsz2]; omega) (.inl rfl)).trans hk2
        have := run_endRound (P := P) jump hl3
        rw [hrec] at this ⊢
        exact ⟨this, World.putObj_heap_same (Array.getElem?_eq_some_iff.1 hl3).1, (World.putObj_heap_other (by omega)).trans hd3⟩
      rintro e a3 W3 hp
      cases e with
      | normal =>
        obtain ⟨hk3, hi3⟩ := hp
        obtain ⟨hr, hl4, hk4⟩ := fin none W3 (hk3.mono fun _ _ h => .inr h)
        exact ⟨_, _, hr, .inl ⟨rfl, ⟨hI _ _ _ hi3 (put _ _ _ (fun h => h.2 rfl)), hl4, hk4⟩, ((put U W _ hU2).trans (hk3.mono fun _ _ h => .inl h)).trans (put U _ _ hU2)⟩⟩
      | ret =>
        obtain ⟨hk3, hi3⟩ := hp
        obtain ⟨hr, hl4, hk4⟩ := fin (some .ret) W3 hk3
        exact ⟨_, _, hr, .inr ⟨rfl, .ret, hIx _ _ _ _ hi3 (put _ _ _ (fun h => h.2 rfl)), hl4, hk4⟩⟩
      | exit id =>
        obtain ⟨hk3, hi3⟩ := hp
        obtain ⟨hr, hl4, hk4⟩ := fin (some (.exit id)) W3 hk3
        exact ⟨_, _, hr, .inr ⟨rfl, .exit id, hIx _ _ _ _ hi3 (put _ _ _ (fun h => h.2 rfl)), hl4, hk4⟩⟩
      | goto t =>
        obtain ⟨hk3, hi3⟩ := hp
        obtain ⟨hr, hl4, hk4⟩ := fin (some (.goto t)) W3 hk3
        exact ⟨_, _, hr, .inr ⟨rfl, .goto t, hIx _ _ _ _ hi3 (put _ _ _ (fun h => h.2 rfl)), hl4, hk4⟩⟩
      | panic ch => exact hp.elim
      | outgrown => exact hp.elim
    · -- BEHIND THE ITERATOR
      rintro e W2 ⟨⟨v, rfl⟩, (⟨xs, hS, hi, hl, hk⟩ | ⟨pre, hSp, c, hi, hl, hk⟩)⟩
      · have hlt := (Array.getElem?_eq_some_iff.1 hl).1
        exact ⟨none, _, by have := run_endLoop (P := P) hl (by rw [hrec]; simp); rw [hrec] at this; exact this, hdone xs _ hS (hI _ _ _ hi (put _ _ _ (fun h => h.2 rfl))) (by simp; omega) ((World.putObj_heap_other (by omega)).trans hk)⟩
      · have hlt := (Array.getElem?_eq_some_iff.1 hl).1
        exact ⟨some c, _, by have := run_endLoop (P := P) hl (by rw [hrec]; simp); rw [hrec] at this; exact this, hstop c pre _ hSp (hIx c _ _ _ hi (put _ _ _ (fun h => h.2 rfl))) (by simp; omega) ((World.putObj_heap_other (by omega)).trans hk)⟩

end Go.Proofs.Ytnohglkilpnjhaa

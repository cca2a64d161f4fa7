/- The plain half of the law TrackerFirst: of too many peers the one goes whose time is over first. No condition. -/
import Derived.Test.YtjmjaailmlnkjaaDoorTrPlain
namespace Go.Proofs.YtjmjaailmlnkjaaDoor
set_option linter.unusedVariables false
set_option linter.unusedSimpArgs false

def stepF (most : Int) (P : List PeerL) (k : Nat) (x : Int) : List PeerL := roomP most (withP ((k : Int) + 1) (0 + x) false P)
structure FInv (most : Int) (l : List Int) (k : Nat) (P : List PeerL) : Prop where
  ps : PsOk P
  ids : ∀ p ∈ P, ∃ j : Nat, j < k ∧ p.id = (j : Int) + 1 ∧ p.till = l.getD j 0
  len : (P.length : Int) = min most (k : Int)
  drop : ∀ j : Nat, j < k → (∀ p ∈ P, p.id ≠ (j : Int) + 1) → ∀ p ∈ P, l.getD j 0 ≤ p.till
  all : (k : Int) ≤ most → ∀ j : Nat, j < k → ∃ p ∈ P, p.id = (j : Int) + 1
  le : ∀ j : Nat, j < k → l.getD j 0 ≤ 1048576
theorem FInv.start {most : Int} (h : 1 ≤ most) (l : List Int) : FInv most l 0 [] := ⟨PsOk.nil, fun p hp => (by cases hp), by simp; omega, fun j hj => (by omega), fun _ j hj => (by omega), fun j hj => (by omega)⟩
theorem FInv.step {most : Int} {l : List Int} {k : Nat} {P : List PeerL} (h : FInv most l k P) (hm : 1 ≤ most) (hk : k ≤ 1000) (hx : 1 ≤ l.getD k 0 ∧ l.getD k 0 ≤ 1048576) : FInv most l (k + 1) (stepF most P k (l.getD k 0)) := by
  have hnew : getK PeerL.id ((k : Int) + 1) P = none := getK_none.2 fun p hp e => by
    obtain ⟨j, h1, h2, _⟩ := h.ids p hp
    omega
  have hold : oldP ((k : Int) + 1) P = PeerL.zero := by unfold oldP; rw [hnew]; rfl
  have hwe : withP ((k : Int) + 1) (0 + l.getD k 0) false P = insK PeerL.id ⟨(k : Int) + 1, l.getD k 0, false⟩ P := by
    unfold withP
    rw [hold]
    congr 2
    show max 0 (0 + l.getD k 0) = l.getD k 0
    omega
  obtain ⟨N, hN⟩ : ∃ N : PeerL, (⟨(k : Int) + 1, l.getD k 0, false⟩ : PeerL) = N := ⟨_, rfl⟩
  have hNi : N.id = (k : Int) + 1 := by rw [← hN]
  have hNt : N.till = l.getD k 0 := by rw [← hN]
  obtain ⟨P', hP'⟩ : ∃ P', insK PeerL.id N P = P' := ⟨_, rfl⟩
  have hmem : ∀ p, p ∈ P' ↔ p = N ∨ p ∈ P := fun p => by
    rw [← hP', mem_insK h.ps.rise]
    constructor
    · rintro (h1 | ⟨h1, _⟩)
      · exact .inl h1
      · exact .inr h1
    · rintro (h1 | h1)
      · exact .inl h1
      · refine .inr ⟨h1, fun e => ?_⟩
        rw [hNi] at e
        exact getK_none.1 hnew p h1 e
  have hps' : PsOk P' := by
    rw [← hP', ← hN, ← hwe]
    exact h.ps.withP false (by omega) (by omega)
  have hlen' : P'.length = P.length + 1 := by
    rw [← hP', insK_len h.ps.rise, hNi, hnew]; rfl
  have hne : P' ≠ [] := fun e => by rw [e] at hlen'; simp at hlen'
  unfold stepF
  rw [hwe, hN, hP']
  have hl := h.len
  have hle2 : ∀ j : Nat, j < k + 1 → l.getD j 0 ≤ 1048576 := fun j hj => by
    rcases Nat.lt_or_ge j k with q | q
    · exact h.le j q
    · rw [show j = k by omega]; exact hx.2
  by_cases hbig : most < (P'.length : Int)
  · have hr : roomP most P' = delK PeerL.id (firstP P').id P' := if_pos hbig
    rw [hr]
    obtain ⟨f, hf⟩ : ∃ f, firstP P' = f := ⟨_, rfl⟩
    have hfm : f ∈ P' := by rw [← hf]; exact firstP_mem hne
    have hmin : ∀ y ∈ P', f.till ≤ y.till := fun y hy => by
      have : y = f ∨ goesP f y = true := by
        cases P' with
        | nil => exact absurd rfl hne
        | cons x L =>
          rw [← hf]
          exact pickL_min (goesP_slo hps'.rise) L x (by simp) (fun z hz => by simp [hz]) y (by simpa using hy)
      rcases this with rfl | h1
      · exact Int.le_refl _
      · simp only [goesP, goesK, Bool.or_eq_true, Bool.and_eq_true, decide_eq_true_eq] at h1
        omega
    rw [hf]
    have hgf : getK PeerL.id f.id P' ≠ none := by rw [(getK_some hps'.rise).2 ⟨hfm, rfl⟩]; simp
    have hdl := delK_len hps'.rise hgf
    have hmk : most = (k : Int) ∨ most < (k : Int) := by omega
    refine ⟨hps'.del _, fun p hp => ?_, by omega, fun j hj hno p hp => ?_, fun hle => by omega, hle2⟩
    · obtain ⟨h1, h2⟩ := mem_delK.1 hp
      rcases (hmem p).1 h1 with rfl | h3
      · exact ⟨k, by omega, hNi, hNt⟩
      · obtain ⟨j, h4, h5, h6⟩ := h.ids p h3
        exact ⟨j, by omega, h5, h6⟩
    · obtain ⟨h1, h2⟩ := mem_delK.1 hp
      -- j is gone now, or was before
      by_cases hjf : f.id = (j : Int) + 1
      · have : f.till = l.getD j 0 := by
          rcases (hmem f).1 hfm with e | h3
          · rw [e, hNt]; rw [e, hNi] at hjf; have : j = k := by omega
            rw [this]
          · obtain ⟨j', h4, h5, h6⟩ := h.ids f h3
            have : j = j' := by omega
            rw [h6, this]
        rw [← this]
        exact hmin p h1
      · have hjk : j < k := by
          rcases Nat.lt_or_ge j k with q | q
          · exact q
          · have hjk : j = k := by omega
            refine absurd rfl (hno N (mem_delK.2 ⟨(hmem N).2 (.inl rfl), fun e => ?_⟩) |> fun q => by rw [hNi, hjk] at q; exact q)
            exact hjf (by rw [← e, hNi, hjk])
        have hgone : ∀ p ∈ P, p.id ≠ (j : Int) + 1 := fun q hq e => by
          refine hno q (mem_delK.2 ⟨(hmem q).2 (.inr hq), fun e2 => hjf (by rw [← e2, e])⟩) e
        have hd := h.drop j hjk hgone
        rcases (hmem p).1 h1 with rfl | h3
        · -- the new one stays: another one goes
          rcases (hmem f).1 hfm with e | h4
          · exact absurd (by rw [e]) h2
          · have := hd f h4
            have := hmin p h1
            omega
        · exact hd p h3
  · have hr : roomP most P' = P' := if_neg hbig
    rw [hr]
    refine ⟨hps', fun p hp => ?_, by omega, fun j hj hno p hp => ?_, fun hle j hj => ?_, hle2⟩
    · rcases (hmem p).1 hp with rfl | h3
      · exact ⟨k, by omega, hNi, hNt⟩
      · obtain ⟨j, h4, h5, h6⟩ := h.ids p h3
        exact ⟨j, by omega, h5, h6⟩
    · rcases Nat.lt_or_ge j k with q | q
      · obtain ⟨p', h1, h2⟩ := h.all (by omega) j q
        exact absurd h2 (hno p' ((hmem p').2 (.inr h1)))
      · have hjk : j = k := by omega
        exact absurd (by rw [hNi, hjk]) (hno N ((hmem N).2 (.inl rfl)))
    · rcases Nat.lt_or_ge j k with q | q
      · obtain ⟨p', h1, h2⟩ := h.all (by omega) j q
        exact ⟨p', (hmem p').2 (.inr h1), h2⟩
      · have hjk : j = k := by omega
        exact ⟨N, (hmem N).2 (.inl rfl), by rw [hNi, hjk]⟩
theorem FInv.ne {most : Int} {l : List Int} {k : Nat} {P : List PeerL} (h : FInv most l k P) (hm : 1 ≤ most) (hk : 1 ≤ k) : P ≠ [] := fun e => by
  have := h.len
  rw [e] at this
  simp at this
  omega

/-- A table of one blob. -/
theorem peersT_one {d : List UInt8} {P : List PeerL} : peersT d (oneT d P) = P := by
  unfold oneT
  split
  · rename_i e; rw [e]; rfl
  · unfold peersT getK
    simp [kD]
theorem ann_one {most : Int} {l : List Int} {k : Nat} {P : List PeerL} {d : List UInt8} (h : FInv most l k P) (hm : 1 ≤ most) (hk : k ≤ 1000) (hx : 1 ≤ l.getD k 0 ∧ l.getD k 0 ≤ 1048576) :
    annT 1 most (oneT d P) d ((k : Int) + 1) 0 (l.getD k 0) false = (oneT d (stepF most P k (l.getD k 0)), 0) := by
  have hn := (h.step hm hk hx).ne hm (by omega)
  unfold annT
  have ha : ∀ x : Int, 1 ≤ x ∧ x ≤ 1048576 → argsB ((k : Int) + 1) 0 x = true := fun x hx => by simp [argsB]; omega
  rw [if_pos (ha _ hx), peersT_one]
  show (roomT 1 (insK kD (d, stepF most P k (l.getD k 0)) (oneT d P)), (0 : Int)) = _
  generalize stepF most P k (l.getD k 0) = Q at *
  have hi : insK kD (d, Q) (oneT d P) = [(d, Q)] := by
    unfold oneT
    split
    · rfl
    · simp [insK, kD]
  rw [hi]
  unfold roomT oneT
  rw [if_neg (by simp), if_neg hn]

/-- The least moment, and who is there. -/
def leastF (l : List PeerL) : Int := l.foldl (fun n p => min n p.till) 1073741824
theorem leastF_snoc (l : List PeerL) (p : PeerL) : leastF (l ++ [p]) = min (leastF l) p.till := by simp [leastF]
theorem leastF_le : ∀ (l : List PeerL) (m : Int) (p : PeerL), (p ∈ l → l.foldl (fun n p => min n p.till) m ≤ p.till) ∧ l.foldl (fun n p => min n p.till) m ≤ m
  | [], m, p => ⟨fun h => (by cases h), Int.le_refl _⟩
  | x :: l, m, p => by
    have h1 := leastF_le l (min m x.till) p
    refine ⟨fun hp => ?_, ?_⟩
    · rcases List.mem_cons.1 hp with rfl | hp
      · have := h1.2; simp only [List.foldl_cons]; omega
      · exact h1.1 hp
    · have := h1.2; simp only [List.foldl_cons]; omega
theorem leastF_ge : ∀ (l : List PeerL) (m n : Int), n ≤ m → (∀ p ∈ l, n ≤ p.till) → n ≤ l.foldl (fun n p => min n p.till) m
  | [], m, n, h, _ => h
  | x :: l, m, n, h, hp => leastF_ge l (min m x.till) n (by have := hp x (by simp); omega) (fun p hq => hp p (by simp [hq]))
/-- What the law asks of each. -/
theorem FInv.said {most : Int} {l : List Int} {k : Nat} {P : List PeerL} (h : FInv most l k P) {j : Nat} (hj : j < k) (hno : ∀ p ∈ P, p.id ≠ (j : Int) + 1) : ¬ leastF P < l.getD j 0 := by
  have hx := h.le j hj
  have := leastF_ge P 1073741824 (l.getD j 0) (by omega) (h.drop j hj hno)
  unfold leastF
  omega

end Go.Proofs.YtjmjaailmlnkjaaDoor

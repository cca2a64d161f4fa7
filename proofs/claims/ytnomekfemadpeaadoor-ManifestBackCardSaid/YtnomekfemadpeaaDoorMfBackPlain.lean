/- The plain half of the law ManifestBack: each piece of a blob is told as its piece, by its proof. No condition. -/
import Derived.Test.YtnomekfemadpeaaDoorGc
import Derived.Test.YtnomekfemadpeaaDoorMfImgPlain
namespace Go.Proofs.YtnomekfemadpeaaDoor
open Go.RowKit
set_option linter.unusedVariables false
set_option linter.unusedSimpArgs false

theorem proofL_count (n : Nat) : ∀ (l : List (List UInt8)) (i : Nat), l.length ≤ n → i < l.length → l.length ≤ 1024 → (proofL l i).length = cntP (walkN l.length i) := by
  induction n with
  | zero => intro l i h1 h2; omega
  | succ n ih =>
    intro l i h1 h2 h3
    by_cases h : 1 < l.length
    · rw [proofL_step h, walkN_step h h3, cntP_cons, List.length_append, ih (aboveL l) (i / 2) (by rw [aboveL_len]; omega) (by rw [aboveL_len]; omega) (by rw [aboveL_len]; omega), aboveL_len]
      unfold stepP
      split <;> simp
    · rw [proofL_end (by omega) i h2, walkN_end (by omega)]
      rfl
theorem depth_proof (l : List (List UInt8)) (i : Nat) (h : i < l.length) (hl : l.length ≤ 1024) : depthZ (l.length : Int) (i : Int) = (proofL l i).length := by
  rw [proofL_count _ l i (Nat.le_refl _) h hl]
  unfold depthZ
  rw [if_pos (by simp [rightB]; omega)]
  simp

theorem check_leads {l : List (List UInt8)} {i : Nat} (h : i < l.length) (hl : l.length ≤ 1024) : checkL (rootL l) (l.length : Int) (i : Int) (l.getD i []) (proofL l i) = true := by
  unfold checkL
  have h1 : rightB (l.length : Int) (i : Int) = true := by simp [rightB]; omega
  rw [h1, depth_proof l i h hl]
  have := leads _ l i (Nat.le_refl _) h hl
  simp only [Int.toNat_natCast, this, decide_true, Bool.and_self]

theorem piece_back {b : List UInt8} {kn j : Nat} (hr : mrightB b.length (kn : Int) = true) (hj : j < (leavesL b kn).length) :
    spanZ b.length kn (j : Int) = (((j * kn : Nat) : Int), ((min kn (b.length - j * kn) : Nat) : Int), 0) ∧ j * kn + min kn (b.length - j * kn) ≤ b.length ∧
      pieceB ⟨sumL b, b.length, kn, rootL (leavesL b kn)⟩ (j : Int) ((b.drop (j * kn)).take (min kn (b.length - j * kn))) (proofL (leavesL b kn) j) = true := by
  obtain ⟨q1, q2, q3, q4, q5⟩ := right_parts hr
  have hfew := leaves_few hr
  simp only [Int.toNat_natCast] at *
  have hcnt := count_nat (b := b) (n := kn) (by omega)
  have hll := leavesL_len b kn
  have hmc : mcountB b.length kn = ((leavesL b kn).length : Int) := by unfold mcountB; rw [if_pos hr, hll]; exact hcnt.symm
  have hs : ¬ ((j : Int) < 0 ∨ mcountB b.length kn ≤ (j : Int)) := by omega
  have hsp : spanZ b.length kn (j : Int) = ((j : Int) * kn, min (kn : Int) (b.length - (j : Int) * kn), 0) := by unfold spanZ; rw [if_neg hs]
  obtain ⟨e1, e2, _⟩ := span_parts (n := (b.length : Int)) (k := (kn : Int)) (i := (j : Int)) (by omega) (by omega)
  have hjk : ((j : Int) * (kn : Int)) = ((j * kn : Nat) : Int) := by simp
  rw [hjk] at hsp e1 e2
  have hmin : min (kn : Int) ((b.length : Int) - ((j * kn : Nat) : Int)) = ((min kn (b.length - j * kn) : Nat) : Int) := by omega
  rw [hmin] at hsp
  refine ⟨hsp, by omega, ?_⟩
  unfold pieceB
  dsimp only
  rw [hsp, hmc]
  have hleaf := leaves_at hj
  have e : (b.drop (j * kn)).take kn = (b.drop (j * kn)).take (min kn (b.length - j * kn)) := by
    rcases Nat.le_total kn (b.length - j * kn) with h | h
    · rw [Nat.min_eq_left h]
    · rw [Nat.min_eq_right h, List.take_of_length_le (by simp; omega), List.take_of_length_le (by simp)]
  rw [e] at hleaf
  rw [← hleaf, check_leads hj hfew]
  simp

/-! ### An image that may be has bytes -/

theorem img_check : ∀ (l : List BlobL) (i : Nat) (last : Int), last ≤ i → i + l.length ≤ 63 → checkF (imgItsF i l) last = some (imgItsF i l)
  | [], _, _, _, _ => rfl
  | x :: l, i, last, h1, h2 => by
    simp only [List.length_cons] at h2
    simp only [imgItsF, checkF]
    rw [if_neg (by omega), img_check l (i + 1) _ (Int.le_refl _) (by omega)]
    rfl
theorem blobB_len {x : BlobL} (hx : x.ok) (h : mrightB x.size x.piece = true) : (blobB x).length ≤ 150 := by
  have hb := right_bd h
  have u1 := uint_len 2 x.size.toNat (by omega)
  have u2 := uint_len 2 x.piece.toNat (by omega)
  rw [flat_blob]
  have e1 := uint_len10 (n := x.dig.length) (by rw [hx.1]; omega)
  have e2 := uint_len10 (n := (uint x.size.toNat).length) (by omega)
  have e3 := uint_len10 (n := (uint x.piece.toNat).length) (by omega)
  have e4 := uint_len10 (n := x.root.length) (by rw [hx.2]; omega)
  simp only [itB, List.length_append, List.length_cons, hx.1, hx.2] at *
  omega
theorem img_len : ∀ (l : List BlobL) (i : Nat), (∀ x ∈ l, x.ok) → (∀ x ∈ l, mrightB x.size x.piece = true) → (flatB (imgItsF i l)).length ≤ l.length * 200
  | [], _, _, _ => by simp [imgItsF, flatB]
  | x :: l, i, h1, h2 => by
    have := img_len l (i + 1) (fun y hy => h1 y (by simp [hy])) (fun y hy => h2 y (by simp [hy]))
    have hb := blobB_len (h1 x (by simp)) (h2 x (by simp))
    have e := uint_len10 (n := (blobB x).length) (by omega)
    simp only [imgItsF, flatB_cons, itB, List.length_append, List.length_cons]
    omega
theorem encG_some {l : List BlobL} (h : imageE l = 0) (ho : ∀ x ∈ l, x.ok) : encG l = some (flatB (imgIts l)) ∧ (flatB (imgIts l)).length ≤ 3200 := by
  have hr := image_rights h
  have hl : l.length ≤ 16 := by
    unfold imageE at h
    split at h
    · cases h
    · rename_i hc; omega
  have h3 := img_len l 0 ho hr
  have := encF_of (imgItsF 0 l) 0 [] (img_check l 0 0 (by omega) (by omega)) (by rw [List.nil_append]; omega)
  refine ⟨?_, by unfold imgIts; omega⟩
  unfold encG
  rw [if_pos h]
  simpa [encL, imgIts] using this
theorem image_one {y : BlobL} (h : mrightB y.size y.piece = true) : imageE [y] = 0 := by
  unfold imageE rightsB digs
  rw [if_neg (by simp [h]), if_pos (by simp)]

end Go.Proofs.YtnomekfemadpeaaDoor

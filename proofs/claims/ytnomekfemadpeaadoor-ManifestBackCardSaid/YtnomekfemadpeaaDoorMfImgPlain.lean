/- Images as bytes and back, in plain Lean: what package manifest computes, what the document's answer computes. No condition. -/
import Derived.Test.YtnomekfemadpeaaDoorTlvBackPlain
import Derived.Test.YtnomekfemadpeaaDoorTlvFindR
import Derived.Test.YtnomekfemadpeaaDoorGc
namespace Go.Proofs.YtnomekfemadpeaaDoor
set_option linter.unusedVariables false
set_option linter.unusedSimpArgs false

/-- Whether an image may be. -/
def digs (l : List BlobL) : List (List UInt8) := l.map (·.dig)
def rightsB (l : List BlobL) : Bool := l.all fun x => mrightB x.size x.piece
def imageE (l : List BlobL) : Int := if l.length < 1 ∨ 16 < l.length ∨ rightsB l = false then 1 else if (digs l).Nodup then 0 else 5

/-- What tells of a blob, as a record. -/
def blobIts (x : BlobL) : List It := [(1, x.dig), (2, uint x.size.toNat), (3, uint x.piece.toNat), (4, x.root)]
def blobB (x : BlobL) : List UInt8 := flatB (blobIts x)
def imgItsF : Nat → List BlobL → List It
  | _, [] => []
  | i, x :: l => (((i + 1 : Nat) : Int), blobB x) :: imgItsF (i + 1) l
def imgIts (l : List BlobL) : List It := imgItsF 0 l
def encG (l : List BlobL) : Option (List UInt8) := if imageE l = 0 then encL (imgIts l) else none
/-- The error of Encode. -/
def encGE (l : List BlobL) : Int := if imageE l = 0 then (if (encL (imgIts l)).isSome then 0 else 1) else imageE l

theorem imgItsF_snoc : ∀ (l : List BlobL) (i : Nat) (x : BlobL), imgItsF i (l ++ [x]) = imgItsF i l ++ [(((i + l.length + 1 : Nat) : Int), blobB x)]
  | [], i, x => rfl
  | y :: l, i, x => by
    simp only [List.cons_append, imgItsF, imgItsF_snoc l (i + 1) x, List.length_cons]
    rw [show i + 1 + l.length + 1 = i + (l.length + 1) + 1 by omega]
theorem imgItsF_len : ∀ (l : List BlobL) (i : Nat), (imgItsF i l).length = l.length
  | [], _ => rfl
  | x :: l, i => by simp [imgItsF, imgItsF_len l (i + 1)]

theorem right_bd {n k : Int} (h : mrightB n k = true) : 1 ≤ n ∧ n ≤ 1048576 ∧ 16 ≤ k ∧ k ≤ 16384 := by
  unfold mrightB at h
  simp only [Bool.and_eq_true, decide_eq_true_eq] at h
  omega
theorem flat_blob (x : BlobL) : blobB x = itB (1, x.dig) ++ (itB (2, uint x.size.toNat) ++ (itB (3, uint x.piece.toNat) ++ itB (4, x.root))) := by
  simp [blobB, blobIts, flatB]
theorem enc_blob {x : BlobL} (hx : x.ok) (h1 : 0 ≤ x.size ∧ x.size ≤ 1048576) (h2 : 0 ≤ x.piece ∧ x.piece ≤ 1048576) : encL (blobIts x) = some (blobB x) := by
  have u1 := uint_len 2 x.size.toNat (by omega)
  have u2 := uint_len 2 x.piece.toNat (by omega)
  have hc : checkF (blobIts x) 0 = some (blobIts x) := by
    unfold blobIts
    simp [checkF]
  have := encF_of (blobIts x) 0 [] hc (by
    rw [List.nil_append]
    show (blobB x).length ≤ 65536
    rw [flat_blob]
    have e1 := uint_len10 (n := x.dig.length) (by rw [hx.1]; omega)
    have e2 := uint_len10 (n := (uint x.size.toNat).length) (by omega)
    have e3 := uint_len10 (n := (uint x.piece.toNat).length) (by omega)
    have e4 := uint_len10 (n := x.root.length) (by rw [hx.2]; omega)
    simp only [itB, List.length_append, List.length_cons, hx.1, hx.2] at *
    omega)
  simpa [encL, blobB] using this

/-- What a record tells of a blob. -/
def blobD2 : List It → Option BlobL
  | [a, s, p, r] => if r.1 = 4 ∧ a.2.length = 32 ∧ r.2.length = 32 then
      (if (toU s.2).isSome ∧ (toU p.2).isSome ∧ max ((toU s.2).getD 0) ((toU p.2).getD 0) ≤ 1048576 then some ⟨a.2, ((toU s.2).getD 0 : Nat), ((toU p.2).getD 0 : Nat), r.2⟩ else none) else none
  | _ => none
def blobD (b : List UInt8) : Option BlobL := (decL b).bind blobD2
def blobsD : Nat → List It → Option (List BlobL)
  | _, [] => some []
  | i, x :: l => (blobD x.2).bind fun y => if x.1 = ((i + 1 : Nat) : Int) then (blobsD (i + 1) l).map (y :: ·) else none
def okI (xs : List BlobL) : Option (List BlobL) := if imageE xs = 0 then some xs else none
def imgD (b : List UInt8) : Option (List BlobL) := (decL b).bind fun l => (blobsD 0 l).bind okI

theorem toU_back {l : List UInt8} {n : Nat} (h : toU l = some n) : l = uint n := by
  unfold toU at h
  split at h
  · rename_i x m hc
    split at h
    · rename_i hm
      cases h
      have := (cutL_take hc).1
      rw [hm, List.take_length] at this
      exact this
    · cases h
  · cases h
theorem blobD_back {b : List UInt8} {x : BlobL} (h : blobD b = some x) : b = blobB x ∧ x.ok ∧ 0 ≤ x.size ∧ x.size ≤ 1048576 ∧ 0 ≤ x.piece ∧ x.piece ≤ 1048576 := by
  obtain ⟨l, hl, h⟩ := Option.bind_eq_some_iff.1 h
  have hb : b = flatB l := by
    have := (encF_parts l 0 [] b (by simp) (encL_decL hl)).1; simpa using this
  have hck : checkF l 0 = some l := (encF_parts l 0 [] b (by simp) (encL_decL hl)).2.1
  match l, h with
  | [a, s, p, r], h =>
    simp only [blobD2] at h
    split at h
    · rename_i hc
      split at h
      · rename_i hn
        cases h
        obtain ⟨n, hn1⟩ := Option.isSome_iff_exists.1 hn.1
        obtain ⟨k, hk1⟩ := Option.isSome_iff_exists.1 hn.2.1
        have e1 := toU_back hn1
        have e2 := toU_back hk1
        have h3 := hn.2.2
        rw [hn1, hk1] at h3 ⊢
        simp only [Option.getD_some] at h3 ⊢
        have hnum : a.1 = 1 ∧ s.1 = 2 ∧ p.1 = 3 := by
          have h4 := hc.1
          simp only [checkF] at hck
          split at hck
          · cases hck
          rename_i q1
          split at hck
          · cases hck
          rename_i q2
          split at hck
          · cases hck
          rename_i q3
          split at hck
          · cases hck
          rename_i q4
          omega
        refine ⟨?_, ⟨hc.2.1, hc.2.2⟩, by omega, by omega, by omega, by omega⟩
        rw [hb]
        unfold blobB blobIts
        dsimp only
        rw [Int.toNat_natCast, Int.toNat_natCast, ← e1, ← e2, ← hnum.1, ← hnum.2.1, ← hnum.2.2, ← hc.1]
      · cases h
    · cases h
theorem blobD_blob {x : BlobL} (hx : x.ok) (h1 : 0 ≤ x.size ∧ x.size ≤ 1048576) (h2 : 0 ≤ x.piece ∧ x.piece ≤ 1048576) : blobD (blobB x) = some x := by
  unfold blobD
  rw [decL_encL (enc_blob hx h1 h2), Option.bind_some]
  have t1 := toU_uint (n := x.size.toNat) (by omega)
  have t2 := toU_uint (n := x.piece.toNat) (by omega)
  unfold blobIts
  simp only [blobD2, t1, t2, Option.isSome_some, Option.getD_some]
  rw [if_pos (by simp [hx.1, hx.2]), if_pos (by simp; omega)]
  obtain ⟨d, n, k, r⟩ := x
  dsimp only at h1 h2
  simp only [Option.some.injEq, BlobL.mk.injEq, true_and, and_true]
  omega
theorem blobsD_back : ∀ (l : List It) (i : Nat) (xs : List BlobL), blobsD i l = some xs → l = imgItsF i xs ∧ ∀ x ∈ xs, x.ok
  | [], i, xs, h => by
    simp only [blobsD, Option.some.injEq] at h
    subst h
    exact ⟨rfl, fun x hx => by cases hx⟩
  | z :: l, i, xs, h => by
    simp only [blobsD] at h
    obtain ⟨y, hy, h⟩ := Option.bind_eq_some_iff.1 h
    split at h
    · rename_i hz
      obtain ⟨ys, hys, rfl⟩ := Option.map_eq_some_iff.1 h
      obtain ⟨e, ho⟩ := blobsD_back l (i + 1) ys hys
      obtain ⟨hb, hok, _⟩ := blobD_back hy
      refine ⟨?_, fun x hx => ?_⟩
      · simp only [imgItsF]
        rw [← e, ← hb, ← hz]
      · rcases List.mem_cons.1 hx with rfl | hx
        · exact hok
        · exact ho x hx
    · cases h
theorem blobsD_img : ∀ (xs : List BlobL) (i : Nat), (∀ x ∈ xs, x.ok) → (∀ x ∈ xs, mrightB x.size x.piece = true) → blobsD i (imgItsF i xs) = some xs
  | [], _, _, _ => rfl
  | x :: xs, i, ho, hr => by
    have hb := right_bd (hr x (by simp))
    simp only [imgItsF, blobsD]
    rw [blobD_blob (ho x (by simp)) ⟨by omega, by omega⟩ ⟨by omega, by omega⟩, Option.bind_some, if_pos trivial, blobsD_img xs (i + 1) (fun y hy => ho y (by simp [hy])) (fun y hy => hr y (by simp [hy]))]
    rfl
theorem image_rights {l : List BlobL} (h : imageE l = 0) : ∀ x ∈ l, mrightB x.size x.piece = true := by
  unfold imageE at h
  split at h
  · cases h
  · rename_i hc
    have : rightsB l = true := by
      cases hr : rightsB l
      · exact absurd (.inr (.inr hr)) hc
      · rfl
    exact List.all_eq_true.1 this
/-- What Decode answers is just the image whose bytes these are. -/
theorem imgD_iff {b : List UInt8} {xs : List BlobL} : imgD b = some xs ↔ encG xs = some b ∧ ∀ x ∈ xs, x.ok := by
  constructor
  · intro h
    obtain ⟨l, hl, h⟩ := Option.bind_eq_some_iff.1 h
    obtain ⟨ys, hy, h⟩ := Option.bind_eq_some_iff.1 h
    unfold okI at h
    split at h
    · rename_i h0
      cases h
      obtain ⟨e, ho⟩ := blobsD_back l 0 xs hy
      refine ⟨?_, ho⟩
      unfold encG imgIts
      rw [if_pos h0, ← e]
      exact encL_decL hl
    · cases h
  · rintro ⟨h, ho⟩
    unfold encG at h
    split at h
    · rename_i h0
      unfold imgD
      rw [decL_encL h, Option.bind_some, imgIts, blobsD_img xs 0 ho (image_rights h0), Option.bind_some, okI, if_pos h0]
    · cases h

/-! ### The document's answer's -/

def rhash (l : List It) (n : Int) : List UInt8 := if ((findL n l).getD []).length = 32 then (findL n l).getD [] else z32
def rnum (l : List It) (n : Int) : Int := match toU ((findL n l).getD []) with
  | some k => if k ≤ 1048576 then (k : Int) else 0
  | none => 0
def rblob (l : List It) : BlobL := ⟨rhash l 1, rnum l 2, rnum l 3, rhash l 4⟩
def rblobs : List It → Option (List BlobL)
  | [] => some []
  | x :: l => (decL x.2).bind fun y => (rblobs l).map (rblob y :: ·)
def rimgD (b : List UInt8) : Option (List BlobL) := (decL b).bind fun l => (rblobs l).bind fun xs => if encG xs = some b then some xs else none
theorem rhash_len (l : List It) (n : Int) : (rhash l n).length = 32 := by
  unfold rhash
  split
  · assumption
  · rfl
theorem rblob_ok (l : List It) : (rblob l).ok := ⟨rhash_len l 1, rhash_len l 4⟩
theorem rblobs_ok : ∀ (l : List It) (xs : List BlobL), rblobs l = some xs → ∀ x ∈ xs, x.ok
  | [], xs, h => by simp only [rblobs, Option.some.injEq] at h; subst h; exact fun x hx => by cases hx
  | z :: l, xs, h => by
    simp only [rblobs] at h
    obtain ⟨y, hy, h⟩ := Option.bind_eq_some_iff.1 h
    obtain ⟨ys, hys, rfl⟩ := Option.map_eq_some_iff.1 h
    intro x hx
    rcases List.mem_cons.1 hx with rfl | hx
    · exact rblob_ok y
    · exact rblobs_ok l ys hys x hx
theorem rblob_its {x : BlobL} (hx : x.ok) (h1 : 0 ≤ x.size ∧ x.size ≤ 1048576) (h2 : 0 ≤ x.piece ∧ x.piece ≤ 1048576) : rblob (blobIts x) = x := by
  have t1 := toU_uint (n := x.size.toNat) (by omega)
  have t2 := toU_uint (n := x.piece.toNat) (by omega)
  unfold rblob rhash rnum blobIts
  simp only [findL]
  simp [hx.1, hx.2, t1, t2]
  obtain ⟨d, n, k, r⟩ := x
  simp only [BlobL.mk.injEq, true_and, and_true] at *
  constructor
  · rw [if_pos (by omega)]; omega
  · rw [if_pos (by omega)]; omega
theorem rblobs_img : ∀ (xs : List BlobL) (i : Nat), (∀ x ∈ xs, x.ok) → (∀ x ∈ xs, mrightB x.size x.piece = true) → rblobs (imgItsF i xs) = some xs
  | [], _, _, _ => rfl
  | x :: xs, i, ho, hr => by
    have hb := right_bd (hr x (by simp))
    simp only [imgItsF, rblobs]
    rw [decL_encL (enc_blob (ho x (by simp)) ⟨by omega, by omega⟩ ⟨by omega, by omega⟩), Option.bind_some, rblobs_img xs (i + 1) (fun y hy => ho y (by simp [hy])) (fun y hy => hr y (by simp [hy])), rblob_its (ho x (by simp)) ⟨by omega, by omega⟩ ⟨by omega, by omega⟩]
    rfl
theorem rimgD_eq (b : List UInt8) : rimgD b = imgD b := by
  refine Option.ext fun xs => ?_
  constructor
  · intro h
    obtain ⟨l, hl, h⟩ := Option.bind_eq_some_iff.1 h
    obtain ⟨ys, hy, h⟩ := Option.bind_eq_some_iff.1 h
    split at h
    · rename_i h0
      cases h
      exact imgD_iff.2 ⟨h0, rblobs_ok l xs hy⟩
    · cases h
  · intro h
    obtain ⟨h1, ho⟩ := imgD_iff.1 h
    have h1' := h1
    unfold encG at h1'
    split at h1'
    · rename_i h0
      unfold rimgD
      rw [decL_encL h1', Option.bind_some, imgIts, rblobs_img xs 0 ho (image_rights h0), Option.bind_some, if_pos h1]
    · cases h1'

end Go.Proofs.YtnomekfemadpeaaDoor

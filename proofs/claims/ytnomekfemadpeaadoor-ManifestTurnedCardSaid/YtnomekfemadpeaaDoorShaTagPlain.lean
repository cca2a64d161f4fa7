/- Plain laws of the bytes of parts: how they are laid one behind the other, and that unlike ones are unlike bytes. No program in sight. No condition. -/
import Derived.Test.YtnomekfemadpeaaDoorBase
namespace Go.Proofs.YtnomekfemadpeaaDoor
set_option linter.unusedVariables false

/-- The eight bytes of a length, the least first. -/
def len8 (n : Nat) : List UInt8 := (List.range 8).map fun i => UInt8.ofNat (n / 256 ^ i % 256)
/-- A part, with its length ahead. -/
def partL (p : List UInt8) : List UInt8 := len8 p.length ++ p
/-- The bytes of which Tagged is the Sum. -/
def partsL (tag : UInt8) (ps : List (List UInt8)) : List UInt8 := [tag] ++ ps.flatMap partL

theorem len8_len (n : Nat) : (len8 n).length = 8 := by simp [len8]
theorem len8_next (n k : Nat) (h : k < 8) : (len8 n).take (k + 1) = (len8 n).take k ++ [UInt8.ofNat (n / 256 ^ k % 256)] := by
  unfold len8
  rw [← List.map_take, ← List.map_take, List.take_range, List.take_range, Nat.min_eq_left (by omega), Nat.min_eq_left (by omega), List.range_succ, List.map_append]
  rfl
theorem len8_inj {n m : Nat} (hn : n < 18446744073709551616) (hm : m < 18446744073709551616) (h : len8 n = len8 m) : n = m := by
  have key : ∀ i, i < 8 → n / 256 ^ i % 256 = m / 256 ^ i % 256 := by
    intro i hi
    have := congrArg (·[i]?) h
    simp only [len8, List.getElem?_map, List.getElem?_range hi, Option.map_some, Option.some.injEq] at this
    have := congrArg UInt8.toNat this
    simpa using this
  have h0 := key 0 (by decide)
  have h1 := key 1 (by decide)
  have h2 := key 2 (by decide)
  have h3 := key 3 (by decide)
  have h4 := key 4 (by decide)
  have h5 := key 5 (by decide)
  have h6 := key 6 (by decide)
  have h7 := key 7 (by decide)
  simp only [Nat.pow_zero, Nat.div_one, show (256 : Nat) ^ 1 = 256 from rfl, show (256 : Nat) ^ 2 = 65536 from rfl, show (256 : Nat) ^ 3 = 16777216 from rfl, show (256 : Nat) ^ 4 = 4294967296 from rfl, show (256 : Nat) ^ 5 = 1099511627776 from rfl, show (256 : Nat) ^ 6 = 281474976710656 from rfl, show (256 : Nat) ^ 7 = 72057594037927936 from rfl] at h0 h1 h2 h3 h4 h5 h6 h7
  omega
theorem partL_len (p : List UInt8) : (partL p).length = 8 + p.length := by simp [partL, len8_len]

theorem flat_inj (ps qs : List (List UInt8)) (hp : ∀ p ∈ ps, p.length < 18446744073709551616) (hq : ∀ q ∈ qs, q.length < 18446744073709551616) (h : ps.flatMap partL = qs.flatMap partL) : ps = qs := by
  induction ps generalizing qs with
  | nil =>
    cases qs with
    | nil => rfl
    | cons q qs =>
      have := congrArg List.length h
      simp [partL_len] at this
      omega
  | cons p ps ih =>
    cases qs with
    | nil =>
      have := congrArg List.length h
      simp [partL_len] at this
    | cons q qs =>
      simp only [List.flatMap_cons, partL, List.append_assoc] at h
      obtain ⟨h1, h2⟩ := List.append_inj h (by rw [len8_len, len8_len])
      have hl := len8_inj (hp p (by simp)) (hq q (by simp)) h1
      obtain ⟨h3, h4⟩ := List.append_inj h2 hl
      rw [h3, ih qs (fun x hx => hp x (by simp [hx])) (fun x hx => hq x (by simp [hx])) h4]
theorem parts_inj (s t : UInt8) (ps qs : List (List UInt8)) (hp : ∀ p ∈ ps, p.length < 18446744073709551616) (hq : ∀ q ∈ qs, q.length < 18446744073709551616) : partsL s ps = partsL t qs ↔ (s = t ∧ ps = qs) := by
  constructor
  · intro h
    simp only [partsL, List.singleton_append, List.cons.injEq] at h
    exact ⟨h.1, flat_inj ps qs hp hq h.2⟩
  · rintro ⟨rfl, rfl⟩; rfl

/-- The bytes of the first k parts. -/
theorem partsTo_next (tag : UInt8) (ps : List (List UInt8)) (k : Nat) (h : k < ps.length) : partsL tag (ps.take (k + 1)) = partsL tag (ps.take k) ++ len8 (ps.getD k []).length ++ ps.getD k [] := by
  unfold partsL
  rw [List.take_succ_eq_append_getElem h, List.flatMap_append]
  simp [partL, List.getD_eq_getElem?_getD, List.getElem?_eq_getElem h]

/-- How many bytes parts take at most. -/
theorem partsL_len (tag : UInt8) (ps : List (List UInt8)) (m : Nat) (h : ∀ p ∈ ps, p.length ≤ m) : (partsL tag ps).length ≤ 1 + ps.length * (8 + m) := by
  unfold partsL
  rw [List.length_append]
  have : (ps.flatMap partL).length ≤ ps.length * (8 + m) := by
    induction ps with
    | nil => simp
    | cons p ps ih =>
      have h1 := ih (fun x hx => h x (by simp [hx]))
      have h2 := h p (by simp)
      simp only [List.flatMap_cons, List.length_append, partL_len, List.length_cons, Nat.add_mul, Nat.one_mul]
      omega
  simp only [List.length_singleton]; omega

/-- Parts no more than a test should have. -/
def fewB (ps : List (List UInt8)) : Bool := decide (ps.length ≤ 40) && ps.all fun p => decide (p.length ≤ 2000)

end Go.Proofs.YtnomekfemadpeaaDoor

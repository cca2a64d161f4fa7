/- Plain laws of hashes written as signs, and parsed again. No program in sight. No condition. -/
import Derived.Test.YtakdbhehacbokaaDoorShaCmpPlain
import Derived.Laws.BitsAllLaws
namespace Go.Proofs.YtakdbhehacbokaaDoor
set_option linter.unusedVariables false

/-- The sign of a number below 16. -/
def hexc (n : Nat) : UInt8 := if n < 10 then UInt8.ofNat (48 + n) else UInt8.ofNat (87 + n)
def textB (c : UInt8) : List UInt8 := [hexc (c.toNat / 16), hexc (c.toNat % 16)]
def textL (d : List UInt8) : List UInt8 := d.flatMap textB
/-- A sign's number; 16: it is none. -/
def valN (c : UInt8) : Nat := if 48 ≤ c.toNat ∧ c.toNat ≤ 57 then c.toNat - 48 else if 97 ≤ c.toNat ∧ c.toNat ≤ 102 then c.toNat - 87 else 16

theorem valN_le (c : UInt8) : valN c ≤ 16 := by unfold valN; split <;> (try split) <;> omega
theorem valN_hexc : ∀ n : Fin 16, valN (hexc n.val) = n.val := by decide
theorem textL_len (d : List UInt8) : (textL d).length = 2 * d.length := by
  induction d with
  | nil => rfl
  | cons c d ih =>
    have e : textL (c :: d) = textB c ++ textL d := rfl
    rw [e, List.length_append, ih]; simp [textB]; omega
theorem textL_next (d : List UInt8) (k : Nat) (h : k < d.length) : textL (d.take (k + 1)) = textL (d.take k) ++ textB (d.getD k 0) := by
  unfold textL
  rw [List.take_succ_eq_append_getElem h, List.flatMap_append]
  simp [List.getD_eq_getElem?_getD, List.getElem?_eq_getElem h]

/-- The bytes when the first i signs' numbers have been laid. -/
def laidN (v : Nat → Nat) (i : Nat) : List UInt8 := (List.range 32).map fun j => if 2 * j + 1 < i then UInt8.ofNat (16 * v (2 * j) + v (2 * j + 1)) else if 2 * j < i then UInt8.ofNat (v (2 * j)) else 0
/-- The i-th sign's number. -/
def numAt (s : List UInt8) (i : Nat) : Nat := valN (s.getD i 0)
/-- Are the first k signs' numbers such? -/
def okTo (s : List UInt8) (k : Nat) : Bool := (List.range k).all fun j => decide (numAt s j < 16)
def parseL (s : List UInt8) : List UInt8 := if s.length = 64 ∧ okTo s 64 = true then laidN (numAt s) 64 else List.replicate 32 0
def parseE (s : List UInt8) : Int := if s.length = 64 ∧ okTo s 64 = true then 0 else 2

theorem laidN_len (v : Nat → Nat) (i : Nat) : (laidN v i).length = 32 := by simp [laidN]
theorem laidN_zero (v : Nat → Nat) : laidN v 0 = List.replicate 32 0 := by
  unfold laidN
  simp only [Nat.not_lt_zero, if_false]
  rfl
theorem laidN_at (v : Nat → Nat) (i : Nat) (h : i < 64) : (laidN v i).getD (i / 2) 0 = if i % 2 = 0 then 0 else UInt8.ofNat (v (i - 1)) := by
  unfold laidN
  rw [List.getD_eq_getElem?_getD, List.getElem?_map, List.getElem?_range (by omega)]
  simp only [Option.map_some, Option.getD_some]
  by_cases hi : i % 2 = 0
  · rw [if_neg (by omega), if_neg (by omega), if_pos hi]
  · rw [if_neg (by omega), if_pos (by omega), if_neg hi, show 2 * (i / 2) = i - 1 by omega]
theorem laidN_next (v : Nat → Nat) (i : Nat) (h : i < 64) : (laidN v i).set (i / 2) (if i % 2 = 0 then UInt8.ofNat (v i) else UInt8.ofNat (16 * v (i - 1) + v i)) = laidN v (i + 1) := by
  unfold laidN
  apply List.ext_getElem (by simp)
  intro j h1 h2
  rw [List.getElem_set]
  simp only [List.getElem_map, List.getElem_range]
  by_cases hj : i / 2 = j
  · rw [if_pos hj]
    by_cases hi : i % 2 = 0
    · rw [if_pos hi, if_neg (by omega), if_pos (by omega), show 2 * j = i by omega]
    · rw [if_neg hi, if_pos (by omega), show 2 * j = i - 1 by omega, show i - 1 + 1 = i by omega]
  · rw [if_neg hj]
    by_cases h3 : 2 * j + 1 < i
    · rw [if_pos h3, if_pos (by omega)]
    · rw [if_neg h3]
      by_cases h4 : 2 * j < i
      · rw [if_pos h4]
        rw [if_neg (by omega), if_pos (by omega)]
      · rw [if_neg h4, if_neg (by omega), if_neg (by omega)]
theorem laidN_two (v : Nat → Nat) (i : Nat) (h : i < 32) : (laidN v (2 * i)).set i (UInt8.ofNat (16 * v (2 * i) + v (2 * i + 1))) = laidN v (2 * (i + 1)) := by
  have h1 := laidN_next v (2 * i) (by omega)
  have h2 := laidN_next v (2 * i + 1) (by omega)
  rw [show 2 * i / 2 = i by omega, if_pos (by omega)] at h1
  rw [show (2 * i + 1) / 2 = i by omega, if_neg (by omega), show 2 * i + 1 - 1 = 2 * i by omega, ← h1, List.set_set] at h2
  exact h2
theorem okTo_next (s : List UInt8) (k : Nat) : okTo s (k + 1) = (okTo s k && decide (numAt s k < 16)) := by
  unfold okTo
  rw [List.range_succ, List.all_append]
  simp
theorem okTo_false (s : List UInt8) (k n : Nat) (hk : k < n) (h : ¬ numAt s k < 16) : okTo s n = false := by
  unfold okTo
  rw [List.all_eq_false]
  exact ⟨k, List.mem_range.2 hk, by simpa using h⟩

/-! ### What is written is parsed as it was -/

theorem textL_at (d : List UInt8) (i : Nat) (h : i < 2 * d.length) : (textL d).getD i 0 = if i % 2 = 0 then hexc ((d.getD (i / 2) 0).toNat / 16) else hexc ((d.getD (i / 2) 0).toNat % 16) := by
  induction d generalizing i with
  | nil => simp at h
  | cons c d ih =>
    have e : textL (c :: d) = hexc (c.toNat / 16) :: hexc (c.toNat % 16) :: textL d := rfl
    rw [e]
    match i, h with
    | 0, _ => simp
    | 1, _ => simp
    | i + 2, h =>
      rw [List.getD_cons_succ, List.getD_cons_succ, ih i (by simp at h; omega)]
      rw [show (i + 2) / 2 = i / 2 + 1 by omega, show (i + 2) % 2 = i % 2 by omega, List.getD_cons_succ]
theorem num_text (d : List UInt8) (i : Nat) (h : i < 2 * d.length) : numAt (textL d) i = if i % 2 = 0 then (d.getD (i / 2) 0).toNat / 16 else (d.getD (i / 2) 0).toNat % 16 := by
  unfold numAt
  rw [textL_at d i h]
  have hc := (d.getD (i / 2) 0).toNat_lt
  split
  · exact valN_hexc ⟨(d.getD (i / 2) 0).toNat / 16, by omega⟩
  · exact valN_hexc ⟨(d.getD (i / 2) 0).toNat % 16, by omega⟩
theorem ok_text (d : List UInt8) (h : d.length = 32) : okTo (textL d) 64 = true := by
  unfold okTo
  rw [List.all_eq_true]
  intro j hj
  have hj' := List.mem_range.1 hj
  rw [num_text d j (by omega)]
  have hc := (d.getD (j / 2) 0).toNat_lt
  simp only [decide_eq_true_eq]
  split <;> omega
theorem laid_text (d : List UInt8) (h : d.length = 32) : laidN (numAt (textL d)) 64 = d := by
  unfold laidN
  apply List.ext_getElem (by simp [h])
  intro j h1 h2
  have hj : j < 32 := by simpa using h1
  simp only [List.getElem_map, List.getElem_range]
  rw [if_pos (by omega), num_text d (2 * j) (by omega), num_text d (2 * j + 1) (by omega), if_pos (by omega), if_neg (by omega), show 2 * j / 2 = j by omega, show (2 * j + 1) / 2 = j by omega]
  rw [List.getD_eq_getElem?_getD, List.getElem?_eq_getElem h2, Option.getD_some, Nat.div_add_mod]
  simp
theorem parse_text (d : List UInt8) (h : d.length = 32) : parseL (textL d) = d ∧ parseE (textL d) = 0 := by
  unfold parseL parseE
  have e : (textL d).length = 64 ∧ okTo (textL d) 64 = true := ⟨by rw [textL_len, h], ok_text d h⟩
  rw [if_pos e, if_pos e]
  exact ⟨laid_text d h, rfl⟩

/-! ### The order stays -/

theorem hexc_lt : ∀ m n : Fin 16, (hexc m.val < hexc n.val) ↔ m.val < n.val := by decide
theorem cmpL_text (a b : List UInt8) (h : a.length = b.length) : cmpL (textL a) (textL b) = cmpL a b := by
  induction a generalizing b with
  | nil => cases b with | nil => rfl | cons y b => simp at h
  | cons x a ih =>
    cases b with
    | nil => simp at h
    | cons y b =>
      simp only [List.length_cons, Nat.add_right_cancel_iff] at h
      have e : ∀ (c : UInt8) (d : List UInt8), textL (c :: d) = hexc (c.toNat / 16) :: hexc (c.toNat % 16) :: textL d := fun _ _ => rfl
      have hx := x.toNat_lt
      have hy := y.toNat_lt
      rw [e, e]
      simp only [cmpL, ih b h]
      have q1 := hexc_lt ⟨x.toNat / 16, by omega⟩ ⟨y.toNat / 16, by omega⟩
      have q2 := hexc_lt ⟨y.toNat / 16, by omega⟩ ⟨x.toNat / 16, by omega⟩
      have q3 := hexc_lt ⟨x.toNat % 16, by omega⟩ ⟨y.toNat % 16, by omega⟩
      have q4 := hexc_lt ⟨y.toNat % 16, by omega⟩ ⟨x.toNat % 16, by omega⟩
      simp only at q1 q2 q3 q4
      simp only [q1, q2, q3, q4]
      simp only [UInt8.lt_iff_toNat_lt]
      by_cases h1 : x.toNat / 16 < y.toNat / 16
      · rw [if_pos h1, if_pos (by omega)]
      · rw [if_neg h1]
        by_cases h2 : y.toNat / 16 < x.toNat / 16
        · rw [if_pos h2, if_neg (by omega), if_pos (by omega)]
        · rw [if_neg h2]
          by_cases h3 : x.toNat % 16 < y.toNat % 16
          · rw [if_pos h3, if_pos (by omega)]
          · rw [if_neg h3]
            by_cases h4 : y.toNat % 16 < x.toNat % 16
            · rw [if_pos h4, if_neg (by omega), if_pos (by omega)]
            · rw [if_neg h4, if_neg (by omega), if_neg (by omega)]

theorem bytesLess_cmp (a b : List UInt8) : Op.bytesLess a b = decide (cmpL a b = -1) := by
  induction a generalizing b with
  | nil => cases b <;> simp [Op.bytesLess, cmpL]
  | cons x a ih =>
    cases b with
    | nil => simp [Op.bytesLess, cmpL]
    | cons y b =>
      simp only [Op.bytesLess, cmpL, ih b]
      by_cases h1 : x < y
      · simp [h1]
      · by_cases h2 : y < x
        · have : x ≠ y := fun e => by subst e; exact h1 h2
          simp [h1, h2, this]
        · have : x = y := by
            apply UInt8.toNat_inj.1
            rw [UInt8.lt_iff_toNat_lt] at h1 h2
            omega
          subst this
          simp [h1]

end Go.Proofs.YtakdbhehacbokaaDoor

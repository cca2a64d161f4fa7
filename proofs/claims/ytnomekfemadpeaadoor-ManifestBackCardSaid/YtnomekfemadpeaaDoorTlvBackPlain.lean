/- Plain laws on records: what was encoded is decoded as it was, what was decoded is encoded so again, and two records one behind the other. No program in sight. No condition. -/
import Derived.Test.YtnomekfemadpeaaDoorTlvDecSpec
namespace Go.Proofs.YtnomekfemadpeaaDoor
set_option linter.unusedVariables false

/-- An item as bytes. -/
def itB (x : It) : List UInt8 := UInt8.ofNat x.1.toNat :: (uint x.2.length ++ x.2)
def flatB (l : List It) : List UInt8 := l.flatMap itB
theorem flatB_cons (x : It) (l : List It) : flatB (x :: l) = itB x ++ flatB l := by simp [flatB]
theorem flatB_append (a b : List It) : flatB (a ++ b) = flatB a ++ flatB b := by simp [flatB]

theorem encF_parts : ∀ (l : List It) (last : Int) (out c : List UInt8), out.length ≤ 65536 → encF l last out = some c → c = out ++ flatB l ∧ checkF l last = some l ∧ c.length ≤ 65536
  | [], last, out, c, ho, h => by
    simp only [encF, Option.some.injEq] at h
    subst h
    exact ⟨by simp [flatB], rfl, ho⟩
  | x :: r, last, out, c, ho, h => by
    rw [encF] at h
    split at h
    · cases h
    · rename_i h1
      split at h
      · cases h
      · rename_i h2
        obtain ⟨q1, q2, q3⟩ := encF_parts r x.1 _ c (by omega) h
        refine ⟨?_, ?_, q3⟩
        · rw [q1, flatB_cons]; simp [itB]
        · simp only [checkF]
          rw [if_neg (by omega), q2]; rfl
theorem encF_of : ∀ (l : List It) (last : Int) (out : List UInt8), checkF l last = some l → (out ++ flatB l).length ≤ 65536 → encF l last out = some (out ++ flatB l)
  | [], last, out, _, _ => by simp [encF, flatB]
  | x :: r, last, out, h, hl => by
    simp only [checkF] at h
    split at h
    · cases h
    · rename_i h1
      have hc : checkF r x.1 = some r := by
        cases hc : checkF r x.1 with
        | none => rw [hc] at h; cases h
        | some q => rw [checkF_some r x.1 q hc]
      rw [flatB_cons, itB] at hl
      simp only [List.length_append, List.length_cons] at hl
      rw [encF, if_neg (by omega), if_neg (by simp only [List.length_append, List.length_cons, List.length_nil]; omega), encF_of r x.1 _ hc (by simp only [List.length_append, List.length_cons, List.length_nil]; omega)]
      rw [flatB_cons, itB]; simp
theorem checkF_all : ∀ (l : List It) (last : Int), checkF l last = some l → ∀ x ∈ l, last < x.1 ∧ x.1 ≤ 63
  | [], _, _, x, hx => by cases hx
  | y :: l, last, h, x, hx => by
    simp only [checkF] at h
    split at h
    · cases h
    · rename_i h1
      cases hc : checkF l y.1 with
      | none => rw [hc] at h; cases h
      | some q =>
        rw [checkF_some l y.1 q hc] at hc
        cases hx with
        | head => omega
        | tail _ hx => have := checkF_all l y.1 hc x hx; omega
theorem flatB_mem_len : ∀ (l : List It) (x : It), x ∈ l → x.2.length ≤ (flatB l).length
  | [], x, h => by cases h
  | y :: l, x, h => by
    rw [flatB_cons, List.length_append]
    cases h with
    | head => simp only [itB, List.length_cons, List.length_append]; omega
    | tail _ h => have := flatB_mem_len l x h; omega
theorem oneI_itB (x : It) (r : List UInt8) (h0 : 0 ≤ x.1) (h1 : x.1 ≤ 63) (h2 : x.2.length < 18446744073709551616) : oneI (itB x ++ r) = some (x, r) := by
  unfold itB
  simp only [List.cons_append, oneI, List.append_assoc]
  rw [cutL_uint0 _ _ h2]
  have e1 : (List.drop (uint x.2.length).length (uint x.2.length ++ (x.2 ++ r))) = x.2 ++ r := by simp
  simp only [e1]
  have e2 : ((UInt8.ofNat x.1.toNat).toNat : Int) = x.1 := by simp; omega
  rw [if_neg (by simp), e2]
  simp
theorem itemsL_flat : ∀ (l : List It) (r : List UInt8), (∀ x ∈ l, 0 ≤ x.1 ∧ x.1 ≤ 63 ∧ x.2.length < 18446744073709551616) → itemsL (flatB l ++ r) = l ++ itemsL r
  | [], r, _ => by simp [flatB]
  | x :: l, r, h => by
    obtain ⟨h0, h1, h2⟩ := h x (.head _)
    rw [flatB_cons, List.append_assoc, itemsL_step (oneI_itB x _ h0 h1 h2), itemsL_flat l r (fun y hy => h y (.tail _ hy)), List.cons_append]
theorem itemsL_flat0 {l : List It} {last : Int} (h : checkF l last = some l) (h0 : 0 ≤ last) (hl : (flatB l).length ≤ 65536) : itemsL (flatB l) = l := by
  have := itemsL_flat l [] (fun x hx => by have q1 := checkF_all l last h x hx; have q2 := flatB_mem_len l x hx; omega)
  simpa [itemsL_nil] using this

/-- What was encoded is decoded as it was. -/
theorem decL_encL {l : List It} {c : List UInt8} (h : encL l = some c) : decL c = some l := by
  obtain ⟨h1, h2, h3⟩ := encF_parts l 0 [] c (by simp) h
  rw [List.nil_append] at h1
  subst h1
  unfold decL
  rw [if_neg (by omega), itemsL_flat0 h2 (by omega) h3, h2]

theorem oneI_back {b r : List UInt8} {x : It} (h : oneI b = some (x, r)) : b = itB x ++ r := by
  cases b with
  | nil => simp [oneI] at h
  | cons y t =>
    simp only [oneI] at h
    split at h
    · cases h
    · rename_i n m hc
      split at h
      · cases h
      · rename_i hlt
        simp only [Option.some.injEq, Prod.mk.injEq] at h
        obtain ⟨rfl, rfl⟩ := h
        obtain ⟨q1, q2⟩ := cutL_take hc
        have hlen : ((t.drop m).take n).length = n := by rw [List.length_take]; omega
        unfold itB
        simp only [hlen, List.cons_append, List.append_assoc, List.take_append_drop]
        rw [← q1, List.take_append_drop]
        congr 1
        simp
theorem check_back (n : Nat) : ∀ (b : List UInt8) (last : Int) (l : List It), b.length ≤ n → 0 ≤ last → checkF (itemsL b) last = some l → b = flatB l := by
  induction n with
  | zero =>
    intro b last l hb h0 h
    obtain rfl : b = [] := List.eq_nil_of_length_eq_zero (by omega)
    rw [itemsL_nil] at h
    simp only [checkF, Option.some.injEq] at h
    subst h; rfl
  | succ n ih =>
    intro b last l hb h0 h
    by_cases hne : b = []
    · subst hne
      rw [itemsL_nil] at h
      simp only [checkF, Option.some.injEq] at h
      subst h; rfl
    · cases ho : oneI b with
      | none =>
        rw [itemsL_bad hne ho] at h
        simp only [checkF] at h
        rw [if_pos (by omega)] at h
        cases h
      | some p =>
        obtain ⟨x, r⟩ := p
        rw [itemsL_step ho] at h
        simp only [checkF] at h
        split at h
        · cases h
        · rename_i h1
          cases hc : checkF (itemsL r) x.1 with
          | none => rw [hc] at h; cases h
          | some q =>
            rw [hc] at h
            simp only [Option.map_some, Option.some.injEq] at h
            subst h
            have := (oneI_len ho).1
            rw [oneI_back ho, flatB_cons, ← ih r x.1 q (by omega) (by omega) hc]

/-- What was decoded is encoded so again. -/
theorem encL_decL {b : List UInt8} {l : List It} (h : decL b = some l) : encL l = some b := by
  unfold decL at h
  split at h
  · cases h
  · rename_i hb
    have e := check_back b.length b 0 l (Nat.le_refl _) (by omega) h
    have hl := checkF_some _ _ _ h
    rw [← hl] at h
    have := encF_of l 0 [] h (by rw [List.nil_append, ← e]; omega)
    rw [List.nil_append, ← e] at this
    exact this

theorem encL_le {l : List It} {c : List UInt8} (h : encL l = some c) : c.length ≤ 65536 := (encF_parts l 0 [] c (by simp) h).2.2

/-- Two records, one behind the other. -/
theorem decL_join {a b : List It} {x y : List UInt8} (ha : encL a = some x) (hb : encL b = some y) (hl : x.length + y.length ≤ 65536) (z : It) (r : List It) (hr : b = z :: r) :
    decL (x ++ y) = if lastN a 0 < z.1 then some (a ++ b) else none := by
  obtain ⟨a1, a2, a3⟩ := encF_parts a 0 [] x (by simp) ha
  obtain ⟨b1, b2, b3⟩ := encF_parts b 0 [] y (by simp) hb
  rw [List.nil_append] at a1 b1
  have hi : itemsL (x ++ y) = a ++ b := by
    rw [a1, b1, itemsL_flat a (flatB b) (fun x hx => by have q1 := checkF_all a 0 a2 x hx; have q2 := flatB_mem_len a x hx; rw [← a1] at q2; omega), itemsL_flat0 b2 (by omega) (by rw [← b1]; omega)]
  unfold decL
  rw [if_neg (by rw [List.length_append]; omega), hi, checkF_append a 0 b a2]
  have hk := lastN_ok a2 (by omega) (by omega)
  subst hr
  simp only [checkF] at b2 ⊢
  split at b2
  · cases b2
  · rename_i h1
    cases hc : checkF r z.1 with
    | none => rw [hc] at b2; cases b2
    | some q =>
      rw [checkF_some r z.1 q hc]
      by_cases hlt : lastN a 0 < z.1
      · rw [if_neg (by omega), if_pos hlt]; rfl
      · rw [if_pos (by omega), if_neg hlt]; rfl
theorem lastN_getD {a : List It} (h : 0 < a.length) (last : Int) : lastN a last = (a.getD (a.length - 1) (0, [])).1 := by
  induction a generalizing last with
  | nil => simp at h
  | cons y l ih =>
    cases l with
    | nil => rfl
    | cons u t =>
      rw [lastN, ih (by simp)]
      simp [List.getD]

end Go.Proofs.YtnomekfemadpeaaDoor

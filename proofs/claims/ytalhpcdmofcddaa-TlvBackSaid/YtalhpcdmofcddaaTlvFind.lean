/- The walks of tlv.Find, of the reference's, and of the law TlvFinds. Condition on Find: no item has more than 2^47 bytes. -/
import Derived.Test.YtalhpcdmofcddaaClone
import Derived.Test.YtalhpcdmofcddaaTlvFew
import Derived.Test.YtalhpcdmofcddaaTlvAwake
namespace Go.Proofs.Ytalhpcdmofcddaa
open Go.RowKit
set_option linter.unusedVariables false

/-- The bytes of the first item of a number. -/
def findL (number : Int) : List It → Option (List UInt8)
  | [] => none
  | x :: r => if x.1 = number then some x.2 else findL number r

/-- What Find comes to. -/
def FindPost (w : World) (r : Option (List UInt8)) (e : Ending) (w' : World) : Prop :=
  ∃ v, e = .returned (.tuple #[v, .bool r.isSome]) ∧ Bytes w' v (r.getD []) ∧ Below w.heap.size w w'

theorem fewF_le {l : List It} : ∀ {n : Nat}, fewF n l = true → ∀ x ∈ l, x.2.length ≤ 70000 := by
  induction l with
  | nil => intro n _ x hx; cases hx
  | cons y r ih =>
    intro n h x hx
    rw [fewF] at h
    split at h
    · cases h
    · cases hx with
      | head => omega
      | tail _ hx => exact ih h x hx

theorem fewL_le {l : List It} (h : fewL l = true) : ∀ x ∈ l, x.2.length ≤ 70000 := by
  unfold fewL at h
  split at h
  · cases h
  · exact fewF_le h

theorem getD_mem {l : List It} {k : Nat} (h : k < l.length) : l.getD k (0, []) ∈ l := by
  rw [List.getD_eq_getElem?_getD, List.getElem?_eq_getElem h]; exact List.getElem_mem h

set_option maxRecDepth 100000 in
set_option maxHeartbeats 1600000 in
theorem Find_any (v : Value) (l : List It) (number : Int) (w : World) (hl : Items w v l) (hle : ∀ x ∈ l, x.2.length ≤ 70000) :
    Calls Try.prog 19 #[v, .int .i64 number] w (FindPost w (findL number l)) := by
  obtain ⟨a, cp, rfl⟩ := hl.len
  have HL := Lib.hid hl
  have hll := hl.le
  have HE := Lib.hid hle
  clear hl hle
  go_enter Try.func19, Try.ntmps19
  go_wp2
  go_loopw [10] (fun iv wr => ∃ (k : Nat), k ≤ l.length ∧ iv = .int .i64 k ∧ findL number l = findL number (l.drop k) ∧ Below w.heap.size w wr)
    (fun iv _ => l.length - (intOf iv).toNat)
  case atStart => exact ⟨0, by omega, rfl, rfl, Below.refl _ _⟩
  case round =>
    obtain ⟨k, hk, rfl, heq, hb⟩ := hrel
    have hsz := hb.size
    by_cases hlt : k < l.length
    · obtain ⟨b, off, c', hv, hbl, hc⟩ := HL.out.cell (by omega)
      obtain ⟨rfl, rfl⟩ : a = some ⟨b, off, none⟩ ∧ cp = c' := by cases hv; exact ⟨rfl, rfl⟩
      obtain ⟨hc1', u, hc2', hu⟩ := hc k hlt
      have hc1 := (hb.cell (p := ⟨b, off + k * 2, none⟩) hbl).trans hc1'
      have hc2 := (hb.cell (p := ⟨b, off + k * 2 + 1, none⟩) hbl).trans hc2'
      rw [drop_at_it hlt] at heq
      have hm := HE.out _ (getD_mem hlt)
      generalize l.getD k (0, []) = x at *
      obtain ⟨ua, uc, rfl⟩ := hu.len
      have hu1 := (hu.of_new hb).of_alloc (.cells #[.int .i64 x.1, .slice ua x.2.length uc] 46)
      have hb1 := hb.alloc hsz (.cells #[.int .i64 x.1, .slice ua x.2.length uc] 46)
      have HU := Lib.hid hu1
      have Heq := Lib.hid heq
      clear hc hv hu heq hc1' hc2' hu1
      by_cases hx : x.1 = number
      · have hxb : (x.1 == number) = true := by simp [hx]
        have Hx := Lib.hid hx
        clear hx
        go_wp2_with fail
        refine (Clone_any _ x.2 _ HU.out (by omega)).mono ?_
        rintro e w2 ⟨v2, rfl, ho2, hb2⟩
        obtain ⟨a2, c2, h2⟩ := ho2.bytes.len
        subst h2
        go_wp2
        go_ret2
        have hf : findL number l = some x.2 := by rw [Heq.out, findL, if_pos Hx.out]
        rw [hf]
        exact ⟨_, rfl, ho2.bytes, below_next hb1 hb2⟩
      · have hxb : (x.1 == number) = false := by simp [hx]
        have Hx := Lib.hid hx
        clear hx
        go_wp2
        go_roundw
        case rel => exact ⟨k + 1, hlt, by go_num, by rw [Heq.out, findL, if_neg Hx.out], hb1⟩
        case measure => simp [intOf]; omega
    · have Heq := Lib.hid heq
      clear heq
      go_wp2
      go_ret2
      have hf : findL number l = none := by rw [Heq.out, List.drop_of_length_le (by omega)]; rfl
      rw [hf]
      exact ⟨_, rfl, Bytes.of_nil, hb⟩

set_option maxRecDepth 100000 in
set_option maxHeartbeats 1600000 in
theorem refFind_any (v : Value) (l : List It) (number : Int) (w : World) (hl : Items w v l) :
    Calls Try.prog 20 #[v, .int .i64 number] w (FindPost w (findL number l)) := by
  obtain ⟨a, cp, rfl⟩ := hl.len
  have HL := Lib.hid hl
  have hll := hl.le
  clear hl
  go_enter Try.func20, Try.ntmps20
  go_wp2
  go_loop [6] (fun iv => ∃ (k : Nat), k ≤ l.length ∧ iv = .int .i64 k ∧ findL number l = findL number (l.drop k))
    (fun iv => l.length - (intOf iv).toNat)
  case atStart => exact ⟨0, by omega, rfl, rfl⟩
  case round =>
    obtain ⟨k, hk, rfl, heq⟩ := hrel
    by_cases hlt : k < l.length
    · obtain ⟨b, off, c', hv, hbl, hc⟩ := HL.out.cell (by omega)
      obtain ⟨rfl, rfl⟩ : a = some ⟨b, off, none⟩ ∧ cp = c' := by cases hv; exact ⟨rfl, rfl⟩
      obtain ⟨hc1, u, hc2, hu⟩ := hc k hlt
      rw [drop_at_it hlt] at heq
      generalize l.getD k (0, []) = x at *
      obtain ⟨ua, uc, rfl⟩ := hu.len
      have HU := Lib.hid hu
      have Heq := Lib.hid heq
      clear hc hv hu heq
      by_cases hx : x.1 = number
      · have hxb : (x.1 == number) = true := by simp [hx]
        have Hx := Lib.hid hx
        clear hx
        go_wp2
        go_ret2
        have hf : findL number l = some x.2 := by rw [Heq.out, findL, if_pos Hx.out]
        rw [hf]
        exact ⟨_, rfl, HU.out, Below.refl _ _⟩
      · have hxb : (x.1 == number) = false := by simp [hx]
        have Hx := Lib.hid hx
        clear hx
        go_wp2
        go_round
        case rel => exact ⟨k + 1, hlt, by go_num, by rw [Heq.out, findL, if_neg Hx.out]⟩
        case measure => simp [intOf]; omega
    · have Heq := Lib.hid heq
      clear heq
      go_wp2
      go_ret2
      have hf : findL number l = none := by rw [Heq.out, List.drop_of_length_le (by omega)]; rfl
      rw [hf]
      exact ⟨_, rfl, Bytes.of_nil, Below.refl _ _⟩

set_option maxRecDepth 100000 in
set_option maxHeartbeats 3200000 in
theorem TlvFinds_walk (v : Value) (l : List It) (number : Int) (w : World) (hl : Items w v l) (hr : ∀ x ∈ l, -9223372036854775808 ≤ x.1 ∧ x.1 ≤ 9223372036854775807) (hn1 : -9223372036854775808 ≤ number) (hn2 : number ≤ 9223372036854775807) :
    Calls Try.prog 5 #[v, .int .i64 number] w fun e w' => e = .returned (.bool true) ∧ Below w.heap.size w w' := by
  clear hr
  obtain ⟨a, c, hv⟩ := hl.len
  have HL := Lib.hid hl
  clear hl
  subst hv
  go_enter Try.func5, Try.ntmps5
  go_wp2_with fail
  refine (awake_any _).mono ?_
  rintro e w1 ⟨rfl, hb⟩
  go_wp2_with fail
  refine (few_any _ l _ (HL.out.of_new hb)).mono ?_
  rintro e w1' ⟨rfl, rfl⟩
  cases hf : fewL l with
  | false =>
    go_wp2
    go_ret
    exact ⟨rfl, hb⟩
  | true =>
    have hE := fun W (h : Items W (.slice a l.length c) l) => Find_any _ l number W h (fewL_le hf)
    have hF := fun W (h : Items W (.slice a l.length c) l) => refFind_any _ l number W h
    have HE := Lib.hid hE
    have HF := Lib.hid hF
    clear hE hF hf
    generalize findL number l = R at *
    go_wp2_with fail
    refine (HE.out _ (HL.out.of_new hb)).mono ?_
    rintro e w2 ⟨v2, rfl, ho2, hb2⟩
    have hbA := below_next hb hb2
    obtain ⟨a2, c2, hs2⟩ := ho2.len
    subst hs2
    have HF2 := Lib.hid (HF.out _ (HL.out.of_new hbA))
    cases R
    all_goals
      go_wp2_with fail
      refine HF2.out.mono ?_
      rintro e w3 ⟨v3, rfl, ho3, hb3⟩
      have hbB := below_next hbA hb3
      obtain ⟨a3, c3, hs3⟩ := ho3.len
      subst hs3
      have hx := (ho2.of_new hb3).str
      have hy := ho3.str
      simp only [Option.getD_some, Option.getD_none, List.length_nil] at hx hy
      go_wp2
      go_ret
      exact ⟨rfl, hbB⟩

end Go.Proofs.Ytalhpcdmofcddaa

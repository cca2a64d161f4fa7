/- The walk of the law TlvEncodes: it answers true. No condition. -/
import Derived.Test.YtalhpcdmofcddaaTlvAwake
namespace Go.Proofs.Ytalhpcdmofcddaa
open Go.RowKit
set_option linter.unusedVariables false




/-- What Encode comes to, as a slice and a number. -/
theorem enc_slice {w w' : World} {r : Option (List UInt8)} {e : Ending} (h : EncPost w r e w') : Below w.heap.size w w' ∧ ∃ v, e = .returned (.tuple #[v, .int .i64 (if r.isSome then 0 else 1)]) ∧ Own8 w' w.heap.size 5 v (r.getD []) ∧ ∃ a c, v = .slice a (r.getD []).length c := by
  obtain ⟨hb, v, hv⟩ := h
  cases r with
  | none => exact ⟨hb, _, hv, Own8.nil _ _ _, none, 0, rfl⟩
  | some c => exact ⟨hb, v, hv.1, hv.2, hv.2.bytes.len⟩

set_option maxRecDepth 100000 in
set_option maxHeartbeats 3200000 in
theorem TlvEncodes_walk (v : Value) (l : List It) (w : World) (hl : Items w v l) (hr : ∀ x ∈ l, -9223372036854775808 ≤ x.1 ∧ x.1 ≤ 9223372036854775807) :
    Calls Try.prog 3 #[v] w fun e w' => e = .returned (.bool true) ∧ Below w.heap.size w w' := by
  clear hr
  obtain ⟨a, c, hv⟩ := hl.len
  have HL := Lib.hid hl
  clear hl
  subst hv
  obtain ⟨R, hR⟩ : ∃ R, encL l = R := ⟨_, rfl⟩
  have hE := fun W (h : Items W (.slice a l.length c) l) => Encode_any _ l W h
  have hF := fun W (h : Items W (.slice a l.length c) l) => refEncode_any _ l W h
  rw [rencL_eq] at hF
  rw [hR] at hE hF
  have HE := Lib.hid hE
  have HF := Lib.hid hF
  clear hE hF hR
  go_enter Try.func3, Try.ntmps3
  go_wp2_with fail
  refine (awake_any _).mono ?_
  rintro e w1 ⟨rfl, hb⟩
  go_wp2_with fail
  refine (few_any _ l _ (HL.out.of_new hb)).mono ?_
  rintro e w1' ⟨rfl, rfl⟩
  cases hf : fewL l with
  | false =>
    go_wp2
    go_ret
    exact ⟨rfl, hb⟩
  | true =>
    go_wp2_with fail
    refine (HE.out _ (HL.out.of_new hb)).mono ?_
    intro e w2 he
    obtain ⟨hb2, v2, rfl, ho2, a2, c2, hs2⟩ := enc_slice he
    have hbA := below_next hb hb2
    have HF2 := Lib.hid (HF.out _ (HL.out.of_new hbA))
    subst hs2
    clear he
    cases R
    all_goals
      go_wp2_with fail
      refine HF2.out.mono ?_
      intro e w3 he3
      obtain ⟨hb3, v3, rfl, ho3, a3, c3, hs3⟩ := enc_slice he3
      have hbB := below_next hbA hb3
      subst hs3
      have hx := (ho2.bytes.of_new hb3).str
      have hy := ho3.bytes.str
      simp only [Option.getD_some, Option.getD_none, List.length_nil] at hx hy
      clear he3
      go_wp2
      go_ret
      exact ⟨rfl, hbB⟩

end Go.Proofs.Ytalhpcdmofcddaa

/- The walk of the law TlvDecodes: it answers true. No condition. -/
import Derived.Test.YtalhpcdmofcddaaTlvSame
namespace Go.Proofs.Ytalhpcdmofcddaa
open Go.RowKit
set_option linter.unusedVariables false

set_option maxRecDepth 100000 in
set_option maxHeartbeats 1600000 in
theorem TlvDecodes_walk (v : Value) (l : List UInt8) (w : World) (hl : Bytes w v l) :
    Calls Try.prog 8 #[v] w fun e w' => e = .returned (.bool true) ∧ Below w.heap.size w w' := by
  obtain ⟨a, c, hv⟩ := hl.len
  have hle := hl.le
  have HL := Lib.hid hl
  clear hl
  subst hv
  obtain ⟨R, hR⟩ : ∃ R, decL l = R := ⟨_, rfl⟩
  have hE := fun W (h : Bytes W (.slice a l.length c) l) => Decode_any _ l W h
  have hF := fun W (h : Bytes W (.slice a l.length c) l) => refDecode_any _ l W h
  rw [hR] at hE hF
  have HE := Lib.hid hE
  have HF := Lib.hid hF
  clear hE hF hR
  go_enter Try.func8, Try.ntmps8
  go_wp2_with fail
  refine (awake_any _).mono ?_
  rintro e w1 ⟨rfl, hb⟩
  by_cases hbig : 70000 < l.length
  · have t0 : (70000 : Int) < (l.length : Int) := by omega
    go_wp2
    go_ret
    exact ⟨rfl, hb⟩
  have t0 : ¬ (70000 : Int) < (l.length : Int) := by omega
  go_wp2_with fail
  refine (HE.out _ (HL.out.of_new hb)).mono ?_
  rintro e w2 ⟨v2, rfl, hi2, hb2⟩
  have hbA := below_next hb hb2
  obtain ⟨i, hi⟩ : ∃ i : Int, (if R.isSome = true then (0 : Int) else 2) = i := ⟨_, rfl⟩
  rw [hi]
  obtain ⟨a2, c2, h2⟩ := hi2.len
  subst h2
  go_wp2_with fail
  refine (HF.out _ (HL.out.of_new hbA)).mono ?_
  rintro e w3 ⟨v3, rfl, hi3, hb3⟩
  have hbB := below_next hbA hb3
  rw [hi]
  obtain ⟨a3, c3, h3⟩ := hi3.len
  subst h3
  have hi2' := hi2.of_new hb3
  clear hi
  generalize R.getD [] = L at *
  go_wp2_with fail
  refine (Same_any _ _ L L _ hi2' hi3).mono ?_
  rintro e w4 ⟨rfl, hb4⟩
  rw [decide_eq_true rfl]
  have hq : (i == i) = true := by simp
  go_wp2
  go_ret
  exact ⟨rfl, below_next hbB hb4⟩

end Go.Proofs.Ytalhpcdmofcddaa

/- The walk of the law TlvSigns: it answers true. No condition. -/
import Derived.Test.YtalhpcdmofcddaaTlvTo
import Derived.Test.YtalhpcdmofcddaaTlvLaws
import Derived.Test.YtalhpcdmofcddaaTlvAwake
namespace Go.Proofs.Ytalhpcdmofcddaa
open Go.RowKit
set_option linter.unusedVariables false

theorem zig_small {a : Int} : zig a < 128 ↔ (-64 ≤ a ∧ a ≤ 63) := by unfold zig; split <;> omega

theorem zig_near {a b : Int} (h : (0 ≤ a ∧ a ≤ b) ∨ (a < 0 ∧ b ≤ a)) : zig a ≤ zig b := by
  unfold zig; split <;> split <;> omega

/-- The law's two tests as one Bool. -/
def nearB (a b : Int) : Bool := decide (0 ≤ a ∧ a ≤ b) || decide (a < 0 ∧ b ≤ a)

set_option maxRecDepth 100000 in
set_option maxHeartbeats 3200000 in
theorem TlvSigns_walk (a b : Int) (w : World) (ha1 : -9223372036854775808 ≤ a) (ha2 : a ≤ 9223372036854775807) (hb1 : -9223372036854775808 ≤ b) (hb2 : b ≤ 9223372036854775807) :
    Calls Try.prog 7 #[.int .i64 a, .int .i64 b] w fun e w' => e = .returned (.bool true) ∧ Below w.heap.size w w' := by
  have hza := zig_lt ⟨ha1, ha2⟩
  have hzb := zig_lt ⟨hb1, hb2⟩
  have hla := uint_len10 hza
  have hlb := uint_len10 hzb
  have hto : toU (uint (zig a)) = some (zig a) := toU_uint hza
  have htz : toZ (uint (zig a)) = a := by rw [toZ_some hto, zag_zig]
  have HT := Lib.hid hto
  have HZ := Lib.hid htz
  have H1 := Lib.hid ((uint_one (zig a)).trans zig_small)
  have HN := Lib.hid (fun h : (0 ≤ a ∧ a ≤ b) ∨ (a < 0 ∧ b ≤ a) => uint_mono 9 (zig a) (zig b) (zig_near h) (by omega))
  clear hto htz hza hzb
  go_enter Try.func7, Try.ntmps7
  go_wp2_with fail
  refine (awake_any _).mono ?_
  rintro e w1 ⟨rfl, hb⟩
  go_wp2_with fail
  refine (Int_any a _ ha1 ha2).mono ?_
  rintro e w2 ⟨v2, rfl, ho2, hbb2⟩
  have hbA := below_next hb hbb2
  go_wp2_with fail
  refine (ToInt_any _ _ _ ho2.bytes).mono ?_
  rintro e w3 ⟨rfl, hbb3⟩
  rw [HT.out, HZ.out]
  have hbB := below_next hbA hbb3
  simp only [Option.isSome_some, errOf, if_true]
  clear ho2 hbb2 hbb3
  have hLA : ∃ n : Nat, n = (uint (zig a)).length ∧ n ≤ 10 := ⟨_, rfl, hla⟩
  obtain ⟨n, hn, hn10⟩ := hLA
  have hLB : ∃ n : Nat, n = (uint (zig b)).length ∧ n ≤ 10 := ⟨_, rfl, hlb⟩
  obtain ⟨m, hm, hm10⟩ := hLB
  have HN' := Lib.hid (fun h => by rw [hn, hm]; exact HN.out h : (0 ≤ a ∧ a ≤ b) ∨ (a < 0 ∧ b ≤ a) → n ≤ m)
  have H1' := Lib.hid (by rw [hn]; exact H1.out : n = 1 ↔ (-64 ≤ a ∧ a ≤ 63))
  have Hn := Lib.hid hn
  have Hm := Lib.hid hm
  clear hn hm hla hlb H1 HN HT HZ
  have hcase : (a < -64 ∧ ((n : Int) == 1) = false ∧ (b ≤ a ∧ n ≤ m ∨ a < b)) ∨ (-64 ≤ a ∧ a < 0 ∧ ((n : Int) == 1) = true ∧ (b ≤ a ∧ n ≤ m ∨ a < b)) ∨
      (0 ≤ a ∧ a ≤ 63 ∧ ((n : Int) == 1) = true ∧ (a ≤ b ∧ n ≤ m ∨ b < a)) ∨ (63 < a ∧ ((n : Int) == 1) = false ∧ (a ≤ b ∧ n ≤ m ∨ b < a)) := by
    have h1 := H1'.out
    have hN := HN'.out
    have t1 : -64 ≤ a → a ≤ 63 → ((n : Int) == 1) = true := fun p q => by rw [h1.2 ⟨p, q⟩]; rfl
    have t2 : (a < -64 ∨ 63 < a) → ((n : Int) == 1) = false := fun p => by
      have : n ≠ 1 := fun e => by have := h1.1 e; omega
      simp; omega
    by_cases p1 : a < -64
    · exact .inl ⟨p1, t2 (.inl p1), by by_cases q : b ≤ a; exact .inl ⟨q, hN (.inr ⟨by omega, q⟩)⟩; exact .inr (by omega)⟩
    · by_cases p2 : a < 0
      · exact .inr (.inl ⟨by omega, p2, t1 (by omega) (by omega), by by_cases q : b ≤ a; exact .inl ⟨q, hN (.inr ⟨by omega, q⟩)⟩; exact .inr (by omega)⟩)
      · by_cases p3 : a ≤ 63
        · exact .inr (.inr (.inl ⟨by omega, p3, t1 (by omega) p3, by by_cases q : a ≤ b; exact .inl ⟨q, hN (.inl ⟨by omega, q⟩)⟩; exact .inr (by omega)⟩))
        · exact .inr (.inr (.inr ⟨by omega, t2 (.inr (by omega)), by by_cases q : a ≤ b; exact .inl ⟨q, hN (.inl ⟨by omega, q⟩)⟩; exact .inr (by omega)⟩))
  have Hself : a = a := rfl
  have hne : (a != a) = false := by simp
  clear Hself H1' HN'
  have hcase' : (a < -64 ∧ ((n : Int) == 1) = false ∧ (b ≤ a ∧ n ≤ m ∨ a < b)) ∨ (-64 ≤ a ∧ a ≤ 63 ∧ a < 0 ∧ ((n : Int) == 1) = true ∧ (b ≤ a ∧ n ≤ m ∨ a < b)) ∨
      (-64 ≤ a ∧ 0 ≤ a ∧ a ≤ 63 ∧ ((n : Int) == 1) = true ∧ (a ≤ b ∧ n ≤ m ∨ b < a)) ∨ (-64 ≤ a ∧ 0 ≤ a ∧ 63 < a ∧ ((n : Int) == 1) = false ∧ (a ≤ b ∧ n ≤ m ∨ b < a)) := by
    rcases hcase with h | ⟨h1, h2, h⟩ | ⟨h1, h2, h⟩ | ⟨h1, h⟩
    · exact .inl h
    · exact .inr (.inl ⟨h1, by omega, h2, h⟩)
    · exact .inr (.inr (.inl ⟨by omega, h1, h2, h⟩))
    · exact .inr (.inr (.inr ⟨by omega, by omega, h1, h⟩))
  clear hcase
  rcases hcase' with ⟨h1, h2, ⟨h3, h4⟩ | h3⟩ | ⟨h0, h1, h1', h2, ⟨h3, h4⟩ | h3⟩ | ⟨h0, h1, h1', h2, ⟨h3, h4⟩ | h3⟩ | ⟨h0, h1', h1, h2, ⟨h3, h4⟩ | h3⟩
  case inl.inl | inr.inl.inl | inr.inr.inl.inl | inr.inr.inr.inl =>
    go_wp2_with fail
    refine (Int_any a _ ha1 ha2).mono ?_
    rintro e w4 ⟨v4, rfl, ho4, hbb4⟩
    have hbC := below_next hbB hbb4
    obtain ⟨a4, c4, hs4⟩ := ho4.bytes.len
    rw [← Hn.out] at hs4
    subst hs4
    clear ho4 hbb4
    go_wp2_with fail
    refine (Int_any a _ ha1 ha2).mono ?_
    rintro e w5 ⟨v5, rfl, ho5, hbb5⟩
    have hbD := below_next hbC hbb5
    obtain ⟨a5, c5, hs5⟩ := ho5.bytes.len
    rw [← Hn.out] at hs5
    subst hs5
    clear ho5 hbb5
    go_wp2_with fail
    refine (Int_any b _ hb1 hb2).mono ?_
    rintro e w6 ⟨v6, rfl, ho6, hbb6⟩
    have hbE := below_next hbD hbb6
    obtain ⟨a6, c6, hs6⟩ := ho6.bytes.len
    rw [← Hm.out] at hs6
    subst hs6
    clear ho6 hbb6
    go_wp2
    go_ret
    exact ⟨rfl, hbE⟩
  all_goals
    go_wp2_with fail
    refine (Int_any a _ ha1 ha2).mono ?_
    rintro e w4 ⟨v4, rfl, ho4, hbb4⟩
    have hbC := below_next hbB hbb4
    obtain ⟨a4, c4, hs4⟩ := ho4.bytes.len
    rw [← Hn.out] at hs4
    subst hs4
    clear ho4 hbb4
    go_wp2
    go_ret
    exact ⟨rfl, hbC⟩

end Go.Proofs.Ytalhpcdmofcddaa

/- The walks of tlv.ToUint, tlv.ToInt and of the references'. No condition. -/
import Derived.Test.YtnomekfemadpeaaDoorTlvRefCut
namespace Go.Proofs.YtnomekfemadpeaaDoor
open Go.RowKit
set_option linter.unusedVariables false

def errOf (b : Bool) : Int := if b then 0 else 2
def toZ (l : List UInt8) : Int := match toU l with
  | some n => zag n
  | none => 0

theorem toZ_some {l : List UInt8} {n : Nat} (h : toU l = some n) : toZ l = zag n := by unfold toZ; rw [h]
theorem toZ_none {l : List UInt8} (h : toU l = none) : toZ l = 0 := by unfold toZ; rw [h]

theorem ret_two {k k' : IntKind} {a b c d : Int} (h : a = b) (h' : c = d) : Ending.returned (.tuple #[.int k a, .int k' c]) = .returned (.tuple #[.int k b, .int k' d]) := by rw [h, h']

set_option maxRecDepth 100000 in
set_option maxHeartbeats 800000 in
theorem ToUint_any (v : Value) (l : List UInt8) (w : World) (hl : Bytes w v l) :
    Calls Tryd.prog 78 #[v] w fun e w' => e = .returned (.tuple #[.int .u64 (((toU l).getD 0 : Nat) : Int), .int .i64 (errOf (toU l).isSome)]) ∧ Below w.heap.size w w' := by
  go_enter Tryd.func78, Tryd.ntmps78
  go_wp2_with fail
  refine (cut_any _ l _ hl).mono ?_
  rintro e w1 ⟨x, r, ok, rfl, hb, hok, hsome⟩
  cases hc : cutL 0 0 l with
  | none =>
    have ht : toU l = none := by unfold toU; rw [hc]
    rw [hc] at hok
    obtain rfl : ok = false := hok
    have Ht := Lib.hid ht
    clear hsome hc ht
    go_wp2
    go_ret2
    exact ⟨by rw [Ht.out]; rfl, hb⟩
  | some nm =>
    obtain ⟨n, m⟩ := nm
    rw [hc] at hok
    obtain rfl : ok = true := hok
    obtain ⟨rfl, hr, _⟩ := hsome n m hc
    obtain ⟨ra, rc, rfl⟩ := hr.len
    have hm := (cutL_lt (by omega) (by simp) hc).2.2
    by_cases h : m = l.length
    · have ht : toU l = some n := by unfold toU; rw [hc]; simp [h]
      have hd : (l.drop m).length = 0 := by simp; omega
      have Ht := Lib.hid ht
      have Hh := Lib.hid h
      generalize (l.drop m).length = q at *
      subst hd
      clear hsome hc ht h hr
      go_wp2
      go_ret2
      exact ⟨by rw [Ht.out]; rfl, hb⟩
    · have ht : toU l = none := by unfold toU; rw [hc]; simp [h]
      have hd : (0 : Int) < (l.drop m).length := by simp; omega
      have Ht := Lib.hid ht
      have Hh := Lib.hid h
      generalize (l.drop m).length = q at *
      clear hsome hc ht h hr
      go_wp2
      go_ret2
      exact ⟨by rw [Ht.out]; rfl, hb⟩

set_option maxRecDepth 100000 in
set_option maxHeartbeats 800000 in
theorem refToUint_any (v : Value) (l : List UInt8) (w : World) (hl : Bytes w v l) :
    Calls Tryd.prog 81 #[v] w fun e w' => e = .returned (.tuple #[.int .u64 (((toU l).getD 0 : Nat) : Int), .int .i64 (errOf (toU l).isSome)]) ∧ Below w.heap.size w w' := by
  obtain ⟨a, c, hv⟩ := hl.len
  subst hv
  go_enter Tryd.func81, Tryd.ntmps81
  go_wp2_with fail
  refine (refcut_any _ l _ hl).mono ?_
  rintro e w1 ⟨rfl, rfl⟩
  cases hc : cutL 0 0 l with
  | none =>
    have ht : toU l = none := by unfold toU; rw [hc]
    have Ht := Lib.hid ht
    clear hc ht
    simp only [Option.getD_none]
    go_wp2
    go_ret2
    exact ⟨by rw [Ht.out]; rfl, Below.refl _ _⟩
  | some nm =>
    obtain ⟨n, m⟩ := nm
    have hm := (cutL_lt (by omega) (by simp) hc).2
    have hm0 : ((m : Int) == 0) = false := by simp; omega
    simp only [Option.getD_some]
    by_cases h : m = l.length
    · have ht : toU l = some n := by unfold toU; rw [hc]; simp [h]
      have Ht := Lib.hid ht
      clear hc ht
      subst h
      go_wp2
      go_ret2
      exact ⟨by rw [Ht.out]; rfl, Below.refl _ _⟩
    · have ht : toU l = none := by unfold toU; rw [hc]; simp [h]
      have hd : ((m : Int) != (l.length : Int)) = true := by rw [bne_iff_ne]; omega
      have Ht := Lib.hid ht
      clear hc ht h
      go_wp2
      go_ret2
      exact ⟨by rw [Ht.out]; rfl, Below.refl _ _⟩

end Go.Proofs.YtnomekfemadpeaaDoor

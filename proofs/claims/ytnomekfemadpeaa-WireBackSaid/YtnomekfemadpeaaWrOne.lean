/- The walk of wire.one: the only number of bytes. No condition beyond the bytes' length. -/
import Derived.Test.YtnomekfemadpeaaGa
import Derived.Test.YtnomekfemadpeaaWrNumSeq
import Derived.Test.YtnomekfemadpeaaWrCollI
namespace Go.Proofs.Ytnomekfemadpeaa
open Go.RowKit Go.Shelf
attribute [local go_sem] Oper.semAt_some
set_option linter.unusedVariables false
set_option linter.unusedSimpArgs false
set_option maxRecDepth 100000

/-- slices.Collect of what wire.numbers made. -/
theorem collNums_any (va : Option Addr) (vc : Nat) (b : List UInt8) (w : World) (hl : Bytes w (.slice va b.length vc) b) (hlen : b.length ≤ 1048576) :
    Calls Try.prog 48 #[.func (.func 58) #[] #[.pointer (some ⟨w.heap.size, 0, none⟩)]] (w.alloc (.cells #[.slice va b.length vc] 25)) fun e w' => ∃ v, e = .returned v ∧ OwnN w' w.heap.size v (numsL b) ∧ Below w.heap.size w w' := by
  obtain ⟨w2, hw2⟩ : ∃ w2, w.alloc (.cells #[.slice va b.length vc] 25) = w2 := ⟨_, rfl⟩
  have hb : Below w.heap.size w w2 := by rw [← hw2]; exact (Below.refl _ w).alloc (Nat.le_refl _) _
  have o1 : One w2 w.heap.size (.slice va b.length vc) 25 := by rw [← hw2]; exact heap_alloc_new _ _
  have hs : w2.heap.size = w.heap.size + 1 := by rw [← hw2]; simp
  rw [hw2]
  refine (CollectI_any 58 _ (numsL b) w.heap.size (fun j => j = w.heap.size) w2 (Nat.le_trans (numsL_len _ b (Nat.le_refl _)) hlen) (by omega) (fun k h => by omega) (enters_of Try.func58 (by kernel_rfl) rfl)
    (fun W1 hb1 hs1 => numbers_seq 4 (by omega) w.heap.size w.heap.size _ b hlen W1 w rfl (hb.trans (hb1.mono (by omega))) (Nat.le_refl _) (o1.of_new hb1) hl)).mono ?_
  rintro e w4 ⟨v4, rfl, ho4, hb4⟩
  exact ⟨v4, rfl, ho4.mono (by omega), hb.trans hb4⟩

theorem one_any (v : Value) (b : List UInt8) (w : World) (hl : Bytes w v b) (hlen : b.length ≤ 1048576) :
    Calls Try.prog 32 #[v] w fun e w' => e = .returned (.tuple #[.int .i64 ((oneL b).getD 0), .bool (oneL b).isSome]) ∧ Below w.heap.size w w' := by
  obtain ⟨va, vc, hv⟩ := hl.len
  subst hv
  obtain ⟨L, hL⟩ : ∃ L, numsL b = L := ⟨_, rfl⟩
  have hcl := collNums_any va vc b w hl hlen
  have hone : oneL b = oneO L := by rw [← hL]; rfl
  rw [hL] at hcl
  obtain ⟨O, hO⟩ : ∃ O, oneL b = O := ⟨_, rfl⟩
  rw [hO] at hone ⊢
  clear hL hO
  have HONE := Lib.hid hone
  clear hone
  have hn := numbers_any va b.length vc w
  go_enter Try.func32, Try.ntmps32
  go_wp2_with fail
  refine hn.mono ?_
  rintro e w2 ⟨rfl, rfl⟩
  go_wp2_with fail
  refine hcl.mono ?_
  rintro e w4 ⟨v4, rfl, ho4, hb4⟩
  obtain ⟨a4, c4, hv4⟩ := ho4.ints.len
  subst hv4
  by_cases h1 : L.length = 1
  · obtain ⟨n, rfl⟩ := List.length_eq_one_iff.1 h1
    have hcell := ho4.ints.cell (by simp)
    obtain ⟨g, off, c, hv, hg, hc⟩ := hcell
    have hc0 := hc 0 (by simp)
    cases hv
    simp only [List.getD_cons_zero, Nat.add_zero] at hc0
    by_cases h0 : 0 ≤ n
    · have e : O = some n := by rw [HONE.out]; simp [oneO, h0]
      subst e
      have h0' : ¬ n < 0 := by omega
      go_wp2
      go_ret2
      exact ⟨rfl, hb4⟩
    · have e : O = none := by rw [HONE.out]; simp [oneO, h0]
      subst e
      have h0' : n < 0 := by omega
      go_wp2
      go_ret2
      exact ⟨rfl, hb4⟩
  · have e : O = none := by
      rw [HONE.out]
      match L, h1 with
      | [], _ => rfl
      | [n], h => exact absurd rfl h
      | _ :: _ :: _, _ => rfl
    subst e
    have h1i : ¬ (L.length : Int) = 1 := by omega
    go_wp2
    go_ret2
    exact ⟨rfl, hb4⟩

end Go.Proofs.Ytnomekfemadpeaa

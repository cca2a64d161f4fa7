/- Texts of this claim, one behind the other: each begins with a comment that says what it proves and asks. -/
import Derived.Test.YtnohglkilpnjhaaGreatDoorNa14
import Derived.Lib.Mul64
import Derived.Laws.Bits64b
import Derived.Shelf.RegionOpenPlain
import Derived.Below
import Derived.IntWalk
import Derived.Great.BuildSlice
/- Numbers that look like chance, and a list in another order, in plain Lean. No condition. -/
namespace Go.Proofs.YtnohglkilpnjhaaGreatDoor
set_option linter.unusedVariables false
set_option linter.unusedSimpArgs false

def mix1 (z : Nat) : Nat := ((z ^^^ (z / 1073741824)) * 13787848793156543929) % 18446744073709551616
def mix2 (z : Nat) : Nat := ((z ^^^ (z / 134217728)) * 10723151780598845931) % 18446744073709551616
def mix3 (z : Nat) : Nat := z ^^^ (z / 2147483648)
def mixN (z : Nat) : Nat := mix3 (mix2 (mix1 z))
def nextN (s : Nat) : Nat := (s + 11400714819323198485) % 18446744073709551616
def belowN (s n : Nat) : Nat := mixN (nextN s) * n / 18446744073709551616
def swapL (l : List Int) (i k : Nat) : List Int := (l.set i (l.getD k 0)).set k (l.getD i 0)
/-- Places i, i - 1 .. 1 each get the number of a place not behind them. -/
def shufF : Nat → Nat → List Int → List Int
  | 0, _, l => l
  | i + 1, s, l => shufF i (nextN s) (swapL l (i + 1) (belowN s (i + 2)))
def shufL (s : Nat) (l : List Int) : List Int := shufF (l.length - 1) s l
def sampleL (s : Nat) (l : List Int) (k : Int) : List Int := (shufL s l).take (max 0 (min k l.length)).toNat

theorem mix_lt (z : Nat) : mixN z < 18446744073709551616 := by
  unfold mixN
  generalize mix1 z = a
  have h : mix2 a < 18446744073709551616 := Nat.mod_lt _ (by decide)
  generalize mix2 a = b at *
  exact Nat.xor_lt_two_pow (n := 64) h (by omega)
theorem next_lt (s : Nat) : nextN s < 18446744073709551616 := Nat.mod_lt _ (by decide)
theorem below_lt (s n : Nat) (h : 0 < n) : belowN s n < n := by
  unfold belowN
  have := mix_lt (nextN s)
  refine (Nat.div_lt_iff_lt_mul (by decide)).2 ?_
  rw [Nat.mul_comm n]
  exact Nat.mul_lt_mul_of_pos_right this h
theorem swapL_len (l : List Int) (i k : Nat) : (swapL l i k).length = l.length := by simp [swapL]
theorem swapL_perm (l : List Int) {i k : Nat} (hi : i < l.length) (hk : k < l.length) : (swapL l i k).Perm l := by
  unfold swapL
  rw [List.perm_iff_count]
  intro a
  have e1 : l.getD k 0 = l[k] := by simp [List.getD, hk]
  have e2 : l.getD i 0 = l[i] := by simp [List.getD, hi]
  rw [e1, e2]
  rw [List.count_set (by simpa using hk), List.count_set hi, List.getElem_set]
  have c1 : (l[i] == a) = true → 0 < List.count a l := fun h => List.count_pos_iff.2 (by rw [← beq_iff_eq.1 h]; exact List.getElem_mem _)
  have c2 : (l[k] == a) = true → 0 < List.count a l := fun h => List.count_pos_iff.2 (by rw [← beq_iff_eq.1 h]; exact List.getElem_mem _)
  by_cases hik : i = k
  · subst hik
    simp only [if_true]
    by_cases h1 : (l[i] == a) = true
    · have := c1 h1
      simp only [h1, if_true]; omega
    · simp only [h1]; simp
  · rw [if_neg hik]
    by_cases h1 : (l[i] == a) = true <;> by_cases h2 : (l[k] == a) = true
    · have := c1 h1
      simp only [h1, h2, if_true]; omega
    · have := c1 h1
      simp only [h1, h2, if_true]; simp <;> omega
    · have := c2 h2
      simp only [h1, h2, if_true]; simp <;> omega
    · simp only [h1, h2]; simp
theorem shufF_perm : ∀ (i s : Nat) (l : List Int), i < l.length ∨ i = 0 → (shufF i s l).Perm l
  | 0, _, l, _ => List.Perm.refl _
  | i + 1, s, l, h => by
    have hi : i + 1 < l.length := by omega
    have hb := below_lt s (i + 2) (by omega)
    rw [shufF]
    exact (shufF_perm i _ _ (.inl (by rw [swapL_len]; omega))).trans (swapL_perm l hi (by omega))
theorem shufL_perm (s : Nat) (l : List Int) : (shufL s l).Perm l := shufF_perm _ _ _ (by omega)

end Go.Proofs.YtnohglkilpnjhaaGreatDoor

/- The walks of package draw's Next and Below. No condition. -/
namespace Go.Proofs.YtnohglkilpnjhaaGreatDoor
open Go.RowKit
set_option linter.unusedVariables false
set_option linter.unusedSimpArgs false
set_option maxRecDepth 100000

/-- A source's block. -/
def SrcO (w : World) (g s : Nat) : Prop := One w g (.int .u64 (s : Int)) 224 ∧ s < 18446744073709551616

/-- The steps of the mix, as a walk meets them. -/
theorem mix_facts (S : Nat) (hS : S < 18446744073709551616) : ∃ X M Y N : Nat, bits .xor .u64 (S : Int) ((S : Int) / 1073741824) = (X : Int) ∧ IntKind.u64.wrap ((X : Int) * 13787848793156543929) = (M : Int) ∧ bits .xor .u64 (M : Int) ((M : Int) / 134217728) = (Y : Int) ∧
    IntKind.u64.wrap ((Y : Int) * 10723151780598845931) = (N : Int) ∧ bits .xor .u64 (N : Int) ((N : Int) / 2147483648) = (mixN S : Int) := by
  have hM : mix1 S < 18446744073709551616 := Nat.mod_lt _ (by decide)
  have hN : mix2 (mix1 S) < 18446744073709551616 := Nat.mod_lt _ (by decide)
  refine ⟨S ^^^ (S / 1073741824), mix1 S, mix1 S ^^^ (mix1 S / 134217728), mix2 (mix1 S), ?_, ?_, ?_, ?_, ?_⟩
  · rw [← bits_xor_u64_nat S (S / 1073741824) hS (by omega)]; congr 1
  · rw [IntKind.wrap_u64]; unfold mix1; omega
  · rw [← bits_xor_u64_nat (mix1 S) (mix1 S / 134217728) hM (by omega)]; congr 1
  · rw [IntKind.wrap_u64]; unfold mix2; omega
  · have := bits_xor_u64_nat (mix2 (mix1 S)) (mix2 (mix1 S) / 2147483648) hN (by omega)
    unfold mixN mix3
    rw [← this]; congr 1

set_option maxHeartbeats 1600000 in
theorem Next_any (g s : Nat) (w : World) (hs : SrcO w g s) :
    Calls Tryz.prog 185 #[.pointer (some ⟨g, 0, none⟩)] w fun e w' => e = .returned (.int .u64 (mixN (nextN s) : Nat)) ∧ SrcO w' g (nextN s) ∧ w.grownBy w' (some g) ∧ w'.heap.size = w.heap.size := by
  obtain ⟨ho, hlt⟩ := hs
  have hc := ho.cell
  have hf := ho.free
  go_enter Tryz.func185, Tryz.ntmps185
  go_upto_region 2 with (fail)
  generalize hW : World.setCell w _ _ = W1
  obtain ⟨h1, hg, hz⟩ : SrcO W1 g (nextN s) ∧ w.grownBy W1 (some g) ∧ W1.heap.size = w.heap.size := by
    subst hW
    have e : ∀ x : Int, x = ((nextN s : Nat) : Int) → SrcO (w.setCell ⟨g, 0, none⟩ (.int .u64 x)) g (nextN s) := fun x hx => by rw [hx]; exact ⟨ho.set _, next_lt s⟩
    refine ⟨e _ ?_, ⟨rfl, rfl, rfl, by simp, fun k hk hne => Below.heap_setCell _ _ _ _ (fun q => hne (by rw [q]))⟩, by simp⟩
    rw [IntKind.wrap_u64]
    unfold nextN
    omega
  clear hW hc hf ho
  have hc1 := h1.1.cell
  obtain ⟨S, hSe⟩ : ∃ S, nextN s = S := ⟨_, rfl⟩
  rw [hSe] at h1 hc1
  obtain ⟨X, M, Y, N, x1, m1, x2, m2, x3⟩ := mix_facts S h1.2
  obtain ⟨Z, hZ⟩ : ∃ Z, mixN S = Z := ⟨_, rfl⟩
  rw [hZ] at x3
  have HSE := Lib.hid hSe
  have HMX := Lib.hid hZ
  have H1 := Lib.hid h1
  have HG := Lib.hid hg
  have HZ := Lib.hid hz
  clear hZ h1 hg hz hSe
  go_wp2
  go_ret
  exact ⟨by rw [HSE.out, HMX.out]; rfl, by rw [HSE.out]; exact H1.out, HG.out, HZ.out⟩

theorem maskN11 (a : Nat) (ha : a < 18446744073709551616) : bits .and .u64 (a : Int) 4294967295 = ((a % 4294967296 : Nat) : Int) := by
  have h := bits_and_u64_nat a 4294967295 ha (by omega)
  have e : a &&& 4294967295 = a % 4294967296 := Nat.and_two_pow_sub_one_eq_mod a 32
  rw [e] at h
  exact h
theorem divN11 (a : Nat) : (a : Int) / 4294967296 = ((a / 4294967296 : Nat) : Int) := by omega
theorem mulN11 (a b : Nat) : (a : Int) * (b : Int) = ((a * b : Nat) : Int) := (Int.natCast_mul a b).symm
theorem addN11 (a b : Nat) : (a : Int) + (b : Int) = ((a + b : Nat) : Int) := (Int.natCast_add a b).symm
theorem wrapN11 (a : Nat) (ha : a < 18446744073709551616) : IntKind.u64.wrap (a : Int) = (a : Int) := by rw [IntKind.wrap_u64]; omega
theorem wrapM11 (a : Nat) : IntKind.u64.wrap (a : Int) = ((a % 18446744073709551616 : Nat) : Int) := by rw [IntKind.wrap_u64]; omega

set_option maxHeartbeats 1600000 in
theorem Mul64_any (x y : Nat) (hx : x < 18446744073709551616) (hy : y < 18446744073709551616) (w : World) :
    Calls Tryz.prog 184 #[.int .u64 x, .int .u64 y] w fun e w' => e = .returned (.tuple #[.int .u64 ((x * y / 18446744073709551616 : Nat) : Int), .int .u64 ((x * y % 18446744073709551616 : Nat) : Int)]) ∧ w' = w := by
  obtain ⟨bd, bt, bw, hhi⟩ := Lib.mul64_hi x y hx hy
  have ba := Lib.half_mul_le (a := x / 4294967296) (b := y / 4294967296) (by omega) (by omega)
  have bb := Lib.half_mul_le (a := x / 4294967296) (b := y % 4294967296) (by omega) (by omega)
  have bc := Lib.half_mul_le (a := x % 4294967296) (b := y / 4294967296) (by omega) (by omega)
  have ba' : x / 4294967296 * (y / 4294967296) < 18446744073709551616 := by omega
  have bb' : x / 4294967296 * (y % 4294967296) < 18446744073709551616 := by omega
  have bc' : x % 4294967296 * (y / 4294967296) < 18446744073709551616 := by omega
  have bh1 : x / 4294967296 * (y / 4294967296) + (x / 4294967296 * (y % 4294967296) + x % 4294967296 * (y % 4294967296) / 4294967296) / 4294967296 < 18446744073709551616 := by omega
  have bh : x / 4294967296 * (y / 4294967296) + (x / 4294967296 * (y % 4294967296) + x % 4294967296 * (y % 4294967296) / 4294967296) / 4294967296 + ((x / 4294967296 * (y % 4294967296) + x % 4294967296 * (y % 4294967296) / 4294967296) % 4294967296 + x % 4294967296 * (y / 4294967296)) / 4294967296 < 18446744073709551616 := by omega
  go_enter Tryz.func184, Tryz.ntmps184
  go_wp2
  simp only [maskN11 x hx, maskN11 y hy, divN11, mulN11, addN11, wrapN11 _ bd, wrapN11 _ bb', wrapN11 _ bt, maskN11 _ bt, wrapN11 _ bc', wrapN11 _ bw, wrapN11 _ ba', wrapN11 _ bh1, wrapN11 _ bh, wrapM11 (x * y)]
  rw [hhi]
  go_ret2
  exact ⟨rfl, rfl⟩

set_option maxHeartbeats 1600000 in
theorem Below_any (g s n : Nat) (w : World) (hs : SrcO w g s) (hn : n < 18446744073709551616) :
    Calls Tryz.prog 172 #[.pointer (some ⟨g, 0, none⟩), .int .u64 (n : Int)] w fun e w' => e = .returned (.int .u64 (belowN s n : Nat)) ∧ SrcO w' g (nextN s) ∧ w.grownBy w' (some g) ∧ w'.heap.size = w.heap.size := by
  have hN := Next_any g s w hs
  have hM := fun w' => Mul64_any (mixN (nextN s)) n (mix_lt _) hn w'
  have hb : mixN (nextN s) * n / 18446744073709551616 = belowN s n := rfl
  rw [hb] at hM
  obtain ⟨B, hB⟩ : ∃ B, belowN s n = B := ⟨_, rfl⟩
  rw [hB] at hM
  obtain ⟨X, hX⟩ : ∃ X, mixN (nextN s) = X := ⟨_, rfl⟩
  rw [hX] at hM hN
  have HN := Lib.hid hN
  have HM := Lib.hid hM
  have HB := Lib.hid hB
  clear hN hM hb hB hX
  go_enter Tryz.func172, Tryz.ntmps172
  go_wp2_with (first
    | (go_at_call 185; refine HN.out.mono ?_; rintro e w1 ⟨rfl, h1, hg1, hz1⟩; have H1 := Lib.hid h1; have HG1 := Lib.hid hg1; have HZ1 := Lib.hid hz1; clear h1 hg1 hz1)
    | (go_at_call 184; refine (HM.out _).mono ?_; rintro e w2 ⟨rfl, rfl⟩))
  go_ret
  exact ⟨by rw [HB.out]; rfl, H1.out, HG1.out, HZ1.out⟩

end Go.Proofs.YtnohglkilpnjhaaGreatDoor

/- The walks of slices.Clone of numbers, of package draw's Shuffle and Sample, and of the document's answer's. No condition. -/
namespace Go.Proofs.YtnohglkilpnjhaaGreatDoor
open Go.RowKit
set_option linter.unusedVariables false
set_option linter.unusedSimpArgs false
set_option maxRecDepth 100000

theorem ownN_empty (w : World) : OwnN (w.alloc (.cells #[] 3)) w.heap.size (.slice (some ⟨w.heap.size, 0, none⟩) 0 0) [] :=
  ⟨rfl, .inr ⟨w.heap.size, 0, #[], rfl, Nat.le_refl _, heap_alloc_new w _, Nat.le_refl _, by unfold maxLen; omega, rfl, rfl⟩⟩
section
variable {w : World} {base g cap : Nat} {l : List Int}
theorem OwnN.shape {v : Value} (h : OwnN w base v l) (h0 : 0 < l.length) : ∃ g cap, v = .slice (some ⟨g, 0, none⟩) l.length cap ∧ base ≤ g ∧ g < w.heap.size := by
  rcases h.2 with ⟨_, h1⟩ | ⟨g, cap, cur, hv, hb, hh, _⟩
  · omega
  · exact ⟨g, cap, hv, hb, (Array.getElem?_eq_some_iff.1 hh).1⟩
theorem OwnN.cell (h : OwnN w base (.slice (some ⟨g, 0, none⟩) l.length cap) l) {i : Nat} (hi : i < l.length) : w.cell? ⟨g, i, none⟩ = some (.int .i64 (l.getD i 0)) ∧ w.frozen? ⟨g, i, none⟩ = false := by
  rcases h.2 with ⟨h1, _⟩ | ⟨g', cap', cur, hv, hb, hh, hn, hc, hs, hx⟩
  · cases h1
  · obtain ⟨rfl, rfl⟩ : g = g' ∧ cap = cap' := by cases hv; exact ⟨rfl, rfl⟩
    refine ⟨?_, by simp [World.frozen?, hh]⟩
    have h1 : (cur.toList.take (l.length * 1))[i]? = some (.int .i64 (l.getD i 0)) := by
      rw [hx]; simp [List.getElem?_map, List.getElem?_eq_getElem hi, List.getD, I64]
    rw [List.getElem?_take, if_pos (by omega)] at h1
    simp only [World.cell?, hh]
    simpa using h1
theorem OwnN.set (h : OwnN w base (.slice (some ⟨g, 0, none⟩) l.length cap) l) (i : Nat) (x : Int) : OwnN (w.setCell ⟨g, i, none⟩ (.int .i64 x)) base (.slice (some ⟨g, 0, none⟩) l.length cap) (l.set i x) := by
  rcases h.2 with ⟨h1, _⟩ | ⟨g', cap', cur, hv, hb, hh, hn, hc, hs, hx⟩
  · cases h1
  · obtain ⟨rfl, rfl⟩ : g = g' ∧ cap = cap' := by cases hv; exact ⟨rfl, rfl⟩
    have hnew : (w.setCell ⟨g, i, none⟩ (.int .i64 x)).heap[g]? = some (.cells (cur.setIfInBounds i (.int .i64 x)) 3 (0, 0)) := by
      simp only [World.setCell, Array.getElem?_modify, if_true, hh, Option.map_some]
      rfl
    refine ⟨by simp, .inr ⟨g, cap, cur.setIfInBounds i (.int .i64 x), by rw [List.length_set], hb, hnew, by rw [List.length_set]; exact hn, hc, by simpa using hs, ?_⟩⟩
    rw [List.length_set, Array.toList_setIfInBounds, List.take_set, hx, List.map_set]
    rfl
end

set_option maxHeartbeats 800000 in
theorem CloneI_any (v : Value) (l : List Int) (w : World) (hl : Ints w v l) (hlen : l.length ≤ 1000000) :
    Calls Tryz.prog 171 #[v] w fun e w' => ∃ v', e = .returned v' ∧ OwnN w' w.heap.size v' l ∧ Below w.heap.size w w' := by
  obtain ⟨a, c, hv⟩ := hl.len
  have he := fun (w : World) (a : Option Addr) (n c : Nat) => Lib.run_eql_slice_nil (P := Tryz.prog) w 32 3 a n c 0 0 Tryz.underlying32
  cases a with
  | none =>
    have hl0 : l = [] ∧ c = 0 := by
      obtain ⟨_, a', c', hv', h1, _, h3, _⟩ := hl
      rw [hv'] at hv; cases hv
      have := h3 rfl
      exact ⟨List.eq_nil_of_length_eq_zero (by omega), this⟩
    obtain ⟨rfl, rfl⟩ := hl0
    subst hv
    go_enter Tryz.func171, Tryz.ntmps171
    go_wp2
    go_ret
    exact ⟨_, rfl, OwnN.nil _ _, Below.refl _ _⟩
  | some a =>
    subst hv
    have HO := Lib.hid (ownN_empty w)
    have HL := Lib.hid (hl.of_new ((Below.refl _ w).alloc (Nat.le_refl _) (.cells #[] 3)))
    clear hl
    go_enter Tryz.func171, Tryz.ntmps171
    go_wp2_with ((with_reducible refine wpList_plain (o := ⟨some 7, _, _, _, _, _⟩) rfl fun K hK => ?_); refine wp_appN (.tmp 5) (.tmp 6) rfl w.heap.size _ [] rfl HO.out _ l rfl HL.out (by simp; omega) (by simp) fun v1 w1 hown1 hg1 hu1 => hK _ _ ?_; have HO1 := Lib.hid (show OwnN w1 w.heap.size v1 l from by simpa using hown1); have HB1 := Lib.hid (((Below.refl _ w).alloc (Nat.le_refl _) (.cells #[] 3)).grown hg1 (by simp) (fun j hj => by cases hj; exact Nat.le_refl _)); clear hown1 hg1 hu1)
    go_ret
    exact ⟨_, rfl, HO1.out, HB1.out⟩

/-- How Shuffle's loop stands. -/
structure ShufSt (w0 : World) (g s : Nat) (l : List Int) (b cap : Nat) (i s' : Nat) (cur : List Int) (W : World) : Prop where
  src : SrcO W g s'
  own : OwnN W w0.heap.size (.slice (some ⟨b, 0, none⟩) cur.length cap) cur
  len : cur.length = l.length
  eq : shufL s l = shufF i s' cur
  kept : Kept (fun k => k ≠ g) w0 W
  le : i ≤ l.length - 1

set_option maxHeartbeats 3200000 in
theorem Shuffle_any (g s : Nat) (v : Value) (l : List Int) (w : World) (hs : SrcO w g s) (hl : Ints w v l) (hlen : l.length ≤ 1000000) :
    Calls Tryz.prog 142 #[.pointer (some ⟨g, 0, none⟩), v] w fun e w' => ∃ v', e = .returned v' ∧ OwnN w' w.heap.size v' (shufL s l) ∧ Kept (fun k => k ≠ g) w w' := by
  obtain ⟨a, c, hv⟩ := hl.len
  subst hv
  have HL := Lib.hid hl
  have HS := Lib.hid hs
  have hgl := hs.1.lt
  clear hl hs
  go_enter Tryz.func142, Tryz.ntmps142
  go_upto_region 2 with (go_at_call 171; refine (CloneI_any _ l _ HL.out hlen).mono ?_; rintro e w1 ⟨v1, rfl, ho1, hb1⟩; obtain ⟨a1, c1, hv⟩ := ho1.ints.len; subst hv; have HO1 := Lib.hid ho1; have HB1 := Lib.hid hb1; have HS1 := Lib.hid (show SrcO w1 g s from ⟨HS.out.1.of_new hb1, HS.out.2⟩); clear ho1 hb1)
  rcases Nat.eq_zero_or_pos l.length with h0 | h0
  · have hl0 : l = [] := List.length_eq_zero_iff.1 h0
    subst hl0
    simp only [List.length_nil]
    go_wp2
    go_loopw [6, 7] (fun iv _ W => iv = .int .i64 (-1) ∧ W = w1) (fun _ _ _ => 0)
    case atStart => exact ⟨rfl, rfl⟩
    case round =>
      obtain ⟨rfl, rfl⟩ := hrel
      go_wp2
      go_ret
      exact ⟨_, rfl, HO1.out, (Kept.refl _ w).below HB1.out⟩
  · obtain ⟨b, cap, hv, hbb, hbl⟩ := HO1.out.shape h0
    obtain ⟨rfl, rfl⟩ : a1 = some ⟨b, 0, none⟩ ∧ c1 = cap := by cases hv; exact ⟨rfl, rfl⟩
    obtain ⟨N, hN⟩ : ∃ N, l.length - 1 = N := ⟨_, rfl⟩
    have hn1 : (l.length : Int) - 1 = (N : Int) := by omega
    have hst : ShufSt w g s l b c1 N s l w1 := ⟨HS1.out, HO1.out, rfl, by unfold shufL; rw [hN], (Kept.refl _ w).below HB1.out, by omega⟩
    have HST := Lib.hid hst
    have HN := Lib.hid hN
    clear hv hst hN
    go_wp2
    try rw [hn1]
    go_loopw [6, 7] (fun iv _ W => ∃ (i s' : Nat) (cur : List Int), iv = .int .i64 (i : Int) ∧ ShufSt w g s l b c1 i s' cur W) (fun iv _ _ => (intOf iv).toNat)
    case atStart => exact ⟨N, s, l, by first | rfl | (congr 1), HST.out⟩
    case round =>
      obtain ⟨i, s', cur, rfl, hst⟩ := hrel
      cases i with
      | zero =>
        have he := hst.eq
        have hln := hst.len
        have HO := Lib.hid hst.own
        have HK := Lib.hid hst.kept
        have HE := Lib.hid (show shufL s l = cur from he)
        have HLN := Lib.hid hln
        clear he hln hst
        go_wp2
        go_ret
        exact ⟨_, rfl, by rw [HE.out]; have := HO.out; rwa [HLN.out] at this, HK.out⟩
      | succ j =>
        have hnx : shufF (j + 1) s' cur = shufF j (nextN s') (swapL cur (j + 1) (belowN s' (j + 2))) := rfl
        have heq := hst.eq.trans hnx
        have hle := hst.le
        have hln := hst.len
        have hk := below_lt s' (j + 2) (by omega)
        have hB := Below_any g s' (j + 2) wr hst.src (by omega)
        obtain ⟨I, hI⟩ : ∃ I, j + 1 = I := ⟨_, rfl⟩
        have e2 : ((j + 2 : Nat) : Int) = (I : Int) + 1 := by omega
        rw [e2] at hB
        rw [hI] at heq hle ⊢
        obtain ⟨k, hke⟩ : ∃ k, belowN s' (j + 2) = k := ⟨_, rfl⟩
        rw [hke] at hB heq hk
        have hkl : k < cur.length := by omega
        have hIl : I < cur.length := by omega
        have hI0 : (0 : Int) < (I : Int) := by omega
        have w1' : IntKind.u64.wrap (I : Int) = (I : Int) := by rw [IntKind.wrap_u64]; omega
        have w2' : IntKind.u64.wrap ((I : Int) + 1) = (I : Int) + 1 := by rw [IntKind.wrap_u64]; omega
        have w3' : IntKind.i64.wrap (k : Int) = (k : Int) := by rw [IntKind.wrap_i64]; omega
        have hIn : (I : Int) < (l.length : Int) := by omega
        have hkn : (k : Int) < (l.length : Int) := by omega
        have hIj : (I : Int) - 1 = (j : Int) := by omega
        have HST2 := Lib.hid hst
        have HB2 := Lib.hid hB
        have HEQ := Lib.hid heq
        have HLN := Lib.hid hln
        have HII := Lib.hid hI
        have HIJ := Lib.hid hIj
        have HKL := Lib.hid hkl
        have HIL := Lib.hid hIl
        clear hst hB heq hnx e2 hke hI hk hIj hln hkl hIl
        go_upto_region 6 with (go_at_call 172; refine HB2.out.mono ?_; rintro e w5 ⟨rfl, h5, hg5, hz5⟩; have H5 := Lib.hid h5; have HG5 := Lib.hid hg5; have HZ5 := Lib.hid hz5; clear h5 hg5 hz5)
        have hbg : b ≠ g := by omega
        have ho5 : OwnN w5 w.heap.size (.slice (some ⟨b, 0, none⟩) cur.length c1) cur := HST2.out.own.kept fun k' hk' => HG5.out.block _ (HST2.out.own.lt k' hk').2 (fun e => by have h1 := Option.some.inj e; have h2 := (HST2.out.own.lt k' hk').1; omega)
        obtain ⟨ci, fi⟩ := ho5.cell HIL.out
        obtain ⟨ck, fk⟩ := ho5.cell HKL.out
        have HO5 := Lib.hid ho5
        obtain ⟨xi, hxi⟩ : ∃ x, cur.getD I 0 = x := ⟨_, rfl⟩
        obtain ⟨xk, hxk⟩ : ∃ x, cur.getD k 0 = x := ⟨_, rfl⟩
        rw [hxi] at ci
        rw [hxk] at ck
        have HXI := Lib.hid hxi
        have HXK := Lib.hid hxk
        have mixed : Tryz.prog.follows .mixedOrders = true := by kernel_rfl
        have ho6 := ho5.set I xk
        have c6 : (w5.setCell ⟨b, I, none⟩ (.int .i64 xk)).cell? ⟨b, k, none⟩ = some (.int .i64 xk) := by
          have h1 := (show OwnN (w5.setCell ⟨b, I, none⟩ (.int .i64 xk)) w.heap.size (.slice (some ⟨b, 0, none⟩) (cur.set I xk).length c1) (cur.set I xk) from by rw [List.length_set]; exact ho6).cell (i := k) (by rw [List.length_set]; exact HKL.out)
          rw [h1.1]
          congr 2
          by_cases e : I = k
          · subst e; simp [List.getD, HIL.out]
          · rw [← hxk]; simp [List.getD, List.getElem?_set, e]
        have f6 : (w5.setCell ⟨b, I, none⟩ (.int .i64 xk)).frozen? ⟨b, k, none⟩ = false := by rw [World.frozen?_setCell]; exact fk
        clear ho5 ho6 hxi hxk
        go_region_o
        generalize hW9 : World.drew _ = W9
        have hst9 : ShufSt w g s l b c1 j (nextN s') (swapL cur I k) W9 := by
          subst hW9
          have q1 := HO5.out.set I xk
          have q2 := (show OwnN (w5.setCell ⟨b, I, none⟩ (.int .i64 xk)) w.heap.size (.slice (some ⟨b, 0, none⟩) (cur.set I xk).length c1) (cur.set I xk) from by rw [List.length_set]; exact q1).set k xi
          have hb5 : ∀ (W : World) (i : Nat) (x : Value) (h : Nat), h ≠ b → (W.setCell ⟨b, i, none⟩ x).heap[h]? = W.heap[h]? := fun W i x h hne => Below.heap_setCell _ _ _ _ hne
          refine ⟨⟨?_, H5.out.2⟩, ?_, by rw [swapL_len]; exact HLN.out, HEQ.out, ?_, by have := HII.out; omega⟩
          · exact (show One ((w5.setCell ⟨b, I, none⟩ (.int .i64 xk)).setCell ⟨b, k, none⟩ (.int .i64 xi)) g _ _ from H5.out.1.of_block ((hb5 _ _ _ _ (fun e => hbg e.symm)).trans (hb5 _ _ _ _ (fun e => hbg e.symm))))
          · unfold swapL
            rw [HXI.out, HXK.out, List.length_set, List.length_set]
            rw [List.length_set] at q2
            exact q2.kept (fun k' hk' => rfl)
          · have h1 : Kept (fun k => k ≠ g) w w5 := HST2.out.kept.grown HG5.out (fun r e => by cases e; exact fun h => h rfl)
            have hwb : ∀ j', j' < w.heap.size → j' ≠ b := fun j' hj e => by omega
            refine ⟨h1.os, h1.tape, h1.output, ?_, fun j' hj hu => ?_⟩
            · show w.heap.size ≤ ((w5.setCell ⟨b, I, none⟩ (.int .i64 xk)).setCell ⟨b, k, none⟩ (.int .i64 xi)).heap.size
              simp only [World.size_setCell]
              exact h1.size
            · exact ((hb5 _ _ _ _ (hwb j' hj)).trans (hb5 _ _ _ _ (hwb j' hj))).trans (h1.block j' hj hu)
        have HST9 := Lib.hid hst9
        clear hW9 hst9 c6 f6 ci fi ck fk
        go_wp2
        try rw [HIJ.out]
        go_roundw
        case rel => exact ⟨j, nextN s', swapL cur I k, by first | rfl | (congr 1), HST9.out⟩
        case measure => have := HII.out; simp [intOf]; omega

end Go.Proofs.YtnohglkilpnjhaaGreatDoor

/- The walks of package draw's Sample and New, and of the document's answer's Sample. No condition. -/
namespace Go.Proofs.YtnohglkilpnjhaaGreatDoor
open Go.RowKit
set_option linter.unusedVariables false
set_option linter.unusedSimpArgs false
set_option maxRecDepth 100000

theorem Ints.first {w : World} {v : Value} {l : List Int} (h : Ints w v l) (N : Nat) (h2 : N ≤ l.length) :
    ∃ v', (∀ W : World, (Instr.slice 32 v .none (some (.int .i64 (N : Int))) Option.none).run Tryz.prog W = .ok v' W) ∧ Ints w v' (l.take N) := by
  obtain ⟨i, hi0, hz, hsize, hby⟩ := info_parts infoInt
  obtain ⟨v', hr, hrow, hob⟩ := Row.run_part h Tryz.underlying32 hi0 hsize .none (some (.int .i64 (N : Int))) 0 N (Nat.zero_le _) h2 (.inl ⟨rfl, rfl⟩) (.inr ⟨_, rfl⟩)
  refine ⟨v', hr, ?_⟩
  have e : (l.take N).length = N := by simp; omega
  unfold Ints
  rw [e]
  simpa [List.map_take] using hrow

theorem Ints.firstO {w : World} {v : Value} {l : List Int} (h : Ints w v l) (N : Nat) (h2 : N ≤ l.length) :
    ∃ v', (∀ W : World, (Instr.slice 32 v .none (some (.int .i64 (N : Int))) Option.none).run Tryz.prog W = .ok v' W) ∧ Ints w v' (l.take N) ∧ v'.ownBlock = v.ownBlock := by
  obtain ⟨i, hi0, hz, hsize, hby⟩ := info_parts infoInt
  obtain ⟨v', hr, hrow, hob⟩ := Row.run_part h Tryz.underlying32 hi0 hsize .none (some (.int .i64 (N : Int))) 0 N (Nat.zero_le _) h2 (.inl ⟨rfl, rfl⟩) (.inr ⟨_, rfl⟩)
  refine ⟨v', hr, ?_, hob⟩
  have e : (l.take N).length = N := by simp; omega
  unfold Ints
  rw [e]
  simpa [List.map_take] using hrow

theorem samp_num (k : Int) (n : Nat) : ∃ N : Nat, max 0 (min k (n : Int)) = (N : Int) ∧ (max 0 (min k (n : Int))).toNat = N ∧ N ≤ n := ⟨(max 0 (min k (n : Int))).toNat, by omega, rfl, by omega⟩

set_option maxHeartbeats 1600000 in
theorem SampleO_any (g s : Nat) (v : Value) (l : List Int) (k : Int) (w : World) (hs : SrcO w g s) (hl : Ints w v l) (hlen : l.length ≤ 1000000) :
    Calls Tryz.prog 86 #[.pointer (some ⟨g, 0, none⟩), v, .int .i64 k] w fun e w' => ∃ v', e = .returned v' ∧ Ints w' v' (sampleL s l k) ∧ Kept (fun k => k ≠ g) w w' ∧ ∀ q, v'.ownBlock = some q → w.heap.size ≤ q ∧ ∃ cur, w'.heap[q]? = some (.cells cur 3 (0, 0)) := by
  obtain ⟨N, hN, hN2, hNl⟩ := samp_num k l.length
  have hsl : (shufL s l).length = l.length := (shufL_perm s l).length_eq
  obtain ⟨S, hS⟩ : ∃ S, shufL s l = S := ⟨_, rfl⟩
  have hsam : sampleL s l k = S.take N := by unfold sampleL; rw [hS, hN2]
  rw [hsam]
  rw [hS] at hsl
  rw [← hsl] at hN hNl
  have HSS := Lib.hid hS
  have HNL := Lib.hid hNl
  have hsh := Shuffle_any g s v l w hs hl hlen
  rw [hS] at hsh
  have HSH := Lib.hid hsh
  clear hS hNl hsam hN2 hs hl hsl hsh
  go_enter Tryz.func86, Tryz.ntmps86
  go_upto_region 2 with (go_at_call 142; refine HSH.out.mono ?_; rintro e w1 ⟨v1, rfl, ho1, hb1⟩; have HO1 := Lib.hid ho1; have HB1 := Lib.hid hb1; clear ho1 hb1)
  obtain ⟨a1, c1, hv⟩ := HO1.out.ints.len
  obtain ⟨v2, hr2, hi2, hob⟩ := HO1.out.ints.firstO N HNL.out
  have HOB := Lib.hid (fun q (hq : v2.ownBlock = some q) => And.intro (HO1.out.lt q (hob ▸ hq)).1 (HO1.out.block (hob ▸ hq)))
  clear hob
  subst hv
  have HI2 := Lib.hid hi2
  clear hi2
  have hcase : (N = 0 ∧ (k ≤ 0 ∨ S.length = 0)) ∨ (k = (N : Int) ∧ 0 < N ∧ N ≤ S.length) ∨ (N = S.length ∧ 0 < S.length ∧ (S.length : Int) < k) := by omega
  clear hN
  rcases hcase with ⟨rfl, h⟩ | ⟨rfl, h0, h1⟩ | ⟨rfl, h0, h1⟩
  · rw [show ((0 : Nat) : Int) = 0 from rfl] at hr2
    rcases h with h | h
    · have h1 : ¬ (S.length : Int) < k := by omega
      have h2 : ¬ 0 < k := by omega
      go_wp2
      go_ret
      exact ⟨_, rfl, HI2.out, HB1.out, HOB.out⟩
    · rw [h] at hr2 ⊢
      by_cases h2 : 0 < k
      · go_wp2
        go_ret
        exact ⟨_, rfl, HI2.out, HB1.out, HOB.out⟩
      · go_wp2
        go_ret
        exact ⟨_, rfl, HI2.out, HB1.out, HOB.out⟩
  · have h2 : ¬ S.length < N := by omega
    go_wp2
    go_ret
    exact ⟨_, rfl, HI2.out, HB1.out, HOB.out⟩
  · go_wp2
    go_ret
    exact ⟨_, rfl, HI2.out, HB1.out, HOB.out⟩
theorem DNew_any (s : Nat) (w : World) (hs : s < 18446744073709551616) :
    Calls Tryz.prog 85 #[.int .u64 (s : Int)] w fun e w' => ∃ g, e = .returned (.pointer (some ⟨g, 0, none⟩)) ∧ SrcO w' g s ∧ w.heap.size ≤ g ∧ Below w.heap.size w w' := by
  have hb : ∀ (x : Int) (w : World), (Instr.build 224 #[(0, .int .u64 x)]).run Tryz.prog w = .ok (.agg #[.int .u64 x]) w := fun x w => by kernel_rfl
  go_enter Tryz.func85, Tryz.ntmps85
  go_wp2
  go_ret
  refine ⟨_, rfl, ⟨?_, hs⟩, Nat.le_refl _, (Below.refl _ w).alloc (Nat.le_refl _) _⟩
  exact heap_alloc_new w _

end Go.Proofs.YtnohglkilpnjhaaGreatDoor

/- What package wire computes, in plain Lean: which items a kind has, whether a message may be, its items' bytes; the document's answer computes the same. No program in sight. No condition. -/
namespace Go.Proofs.YtnohglkilpnjhaaGreatDoor
set_option linter.unusedVariables false

/-- A peer as it is heard of. -/
structure MemL where
  id : Int
  inc : Int
  state : Int
  since : Int
deriving DecidableEq

/-- A message. -/
structure MsgL where
  kind : Int
  hash : List UInt8
  piece : Int
  ids : List Int
  bytes : List UInt8
  proof : List (List UInt8)
  members : List MemL
  seed : Bool
deriving DecidableEq

def zero32 : List UInt8 := List.replicate 32 0

/-- Which items a kind has. -/
def hasL (k : Int) : List Int :=
  if k = 1 then [1, 2, 5] else if k = 10 then [1, 2, 5] else if k = 2 then [1, 2, 3] else if k = 3 then [1, 2, 3] else if k = 5 then [1, 2, 3] else if k = 4 then [1, 2, 3, 5, 6] else if k = 6 then [1, 2, 8] else if k = 7 then [1, 2, 4]
  else if k = 8 then [1, 7] else if k = 9 then [1, 2] else if k = 11 then [1, 2] else []
def mostL (k : Int) : Int := if k = 1 then 128 else if k = 4 then 16384 else if k = 10 then 4096 else 0
def withinB (n lo hi : Int) : Bool := decide (lo ≤ n) && decide (n ≤ hi)
def idB (n : Int) : Bool := withinB n 1 65536
def memB (x : MemL) : Bool := idB x.id && withinB x.inc 0 1073741824 && withinB x.state 1 3
def memB0 (x : MemL) : Bool := memB x && decide (x.since = 0)

/-- Whether a message has nothing of an item. -/
def bareB (m : MsgL) (i : Int) : Bool :=
  if i = 1 then false else if i = 2 then decide (m.hash = zero32) else if i = 3 then decide (m.piece = 0) else if i = 4 then decide (m.ids.length = 0) else if i = 5 then decide (m.bytes.length = 0) else if i = 6 then decide (m.proof.length = 0)
  else if i = 7 then decide (m.members.length = 0) else !m.seed
/-- Whether what a message has of an item may be. -/
def fitsB (m : MsgL) (i : Int) : Bool :=
  if i = 3 then withinB m.piece 0 1023 else if i = 4 then decide (m.ids.length ≤ 64) && m.ids.all idB else if i = 5 then withinB m.bytes.length 1 (mostL m.kind) else if i = 6 then decide (m.proof.length ≤ 10)
  else if i = 7 then withinB m.members.length 1 65 && m.members.all memB0 else true
def itemB (m : MsgL) (i : Int) : Bool := if i ∈ hasL m.kind then fitsB m i else bareB m i
/-- Whether a message may be: its items from the i-th on. -/
def rightF (m : MsgL) : Nat → Int → Bool
  | 0, _ => true
  | f + 1, i => itemB m i && rightF m f (i + 1)
def wrightB (m : MsgL) : Bool := rightF m 8 1

/-! ### The document's answer's -/

/-- The eleven kinds, or none of them. -/
theorem kinds (k : Int) : k = 1 ∨ k = 2 ∨ k = 3 ∨ k = 4 ∨ k = 5 ∨ k = 6 ∨ k = 7 ∨ k = 8 ∨ k = 9 ∨ k = 10 ∨ k = 11 ∨ (k < 1 ∨ 11 < k) := by omega
theorem hasL_none {k : Int} (h : k < 1 ∨ 11 < k) : hasL k = [] := by
  unfold hasL
  simp [show ¬ k = 1 by omega, show ¬ k = 2 by omega, show ¬ k = 3 by omega, show ¬ k = 4 by omega, show ¬ k = 5 by omega, show ¬ k = 6 by omega, show ¬ k = 7 by omega, show ¬ k = 8 by omega, show ¬ k = 9 by omega, show ¬ k = 10 by omega, show ¬ k = 11 by omega]
theorem wrightB_eq (m : MsgL) : wrightB m = (itemB m 1 && (itemB m 2 && (itemB m 3 && (itemB m 4 && (itemB m 5 && (itemB m 6 && (itemB m 7 && itemB m 8))))))) := by
  simp [wrightB, rightF]

end Go.Proofs.YtnohglkilpnjhaaGreatDoor

/- What the document's answer's small functions on tables compute, in plain Lean: place, with, first, last, Announce's choice. No condition. -/
namespace Go.Proofs.YtnohglkilpnjhaaGreatDoor
set_option linter.unusedVariables false
set_option linter.unusedSimpArgs false

/-! ### place -/
structure PlaceT (T : TabL) (d : List UInt8) (i : Nat) (is : Bool) : Prop where
  le : i ≤ T.length
  low : ∀ x ∈ T.take i, kD x < (natL d : Int)
  yes : is = true → ∃ ps, T[i]? = some (d, ps)
  no : is = false → ∀ x ∈ T.drop i, (natL d : Int) < kD x
theorem split_at {α : Type} {T : List α} {i : Nat} {x : α} (h : T[i]? = some x) : T = T.take i ++ x :: T.drop (i + 1) := by
  have hlt : i < T.length := (List.getElem?_eq_some_iff.1 h).1
  have e : T[i]'hlt = x := (List.getElem?_eq_some_iff.1 h).2
  rw [← e, ← List.drop_eq_getElem_cons, List.take_append_drop]
theorem set_split {α : Type} {T : List α} {i : Nat} {x : α} (h : T[i]? = some x) (y : α) : T.set i y = T.take i ++ y :: T.drop (i + 1) := by
  have hlt : i < T.length := (List.getElem?_eq_some_iff.1 h).1
  rw [List.set_eq_take_append_cons_drop, if_pos hlt]
theorem PlaceT.is {T : TabL} {d : List UInt8} {i : Nat} (h : PlaceT T d i true) (hr : Rising kD T) :
    ∃ ps, T[i]? = some (d, ps) ∧ peersT d T = ps ∧ (∀ q, insK kD (d, q) T = T.set i (d, q)) ∧ delK kD (natL d) T = T.take i ++ T.drop (i + 1) ∧ getK kD (natL d) T = some (d, ps) := by
  obtain ⟨ps, hi⟩ := h.yes rfl
  have hs := split_at hi
  have hr2 := hr
  rw [hs] at hr2
  have hg : getK kD (natL d) T = some (d, ps) := (getK_some hr).2 ⟨List.mem_of_getElem? hi, rfl⟩
  refine ⟨ps, hi, ?_, fun q => ?_, ?_, hg⟩
  · unfold peersT; rw [hg]; rfl
  · have := insK_mid (f := kD) (x := (d, q)) hr2 rfl
    rw [← hs] at this
    rw [this, set_split hi]
  · have := delK_mid (f := kD) hr2
    rw [← hs] at this
    exact this
/-! ### with -/
/-! ### first, last -/
theorem pickL_snoc {α : Type} (goes : α → α → Bool) (l : List α) : ∀ (m y : α), pickL goes (l ++ [y]) m = if goes y (pickL goes l m) then y else pickL goes l m := by
  induction l with
  | nil => intro m y; rfl
  | cons x l ih => intro m y; exact ih _ y
theorem firstP_snoc {A : List PeerL} (h : A ≠ []) (y : PeerL) : firstP (A ++ [y]) = if goesP y (firstP A) then y else firstP A := by
  cases A with
  | nil => exact absurd rfl h
  | cons x A => exact pickL_snoc _ A x y
theorem firstT_snoc {A : TabL} (h : A ≠ []) (y : List UInt8 × List PeerL) : firstT (A ++ [y]) = if goesT y (firstT A) then y else firstT A := by
  cases A with
  | nil => exact absurd rfl h
  | cons x A => exact pickL_snoc _ A x y
/-- The first so far stands at a. -/
def AtP (l : List PeerL) (k a : Nat) : Prop := a < k ∧ k ≤ l.length ∧ l[a]? = some (firstP (l.take k))
theorem AtP.start {l : List PeerL} (h : 0 < l.length) : AtP l 1 0 := by
  cases l with
  | nil => simp at h
  | cons x l => exact ⟨by decide, by simp, rfl⟩
theorem take_snoc_at {α : Type} {l : List α} {k : Nat} {y : α} (hy : l[k]? = some y) : l.take (k + 1) = l.take k ++ [y] := by rw [List.take_add_one, hy]; rfl
theorem AtP.step {l : List PeerL} {k a : Nat} (h : AtP l k a) {x y : PeerL} (hx : l[a]? = some x) (hy : l[k]? = some y) :
    AtP l (k + 1) (if y.till < x.till ∨ (y.till = x.till ∧ x.id < y.id) then k else a) := by
  obtain ⟨h1, h2, h3⟩ := h
  have hk : k < l.length := (List.getElem?_eq_some_iff.1 hy).1
  have hx2 : firstP (l.take k) = x := by rw [hx] at h3; exact (Option.some.inj h3).symm
  have hne : l.take k ≠ [] := fun e => by have := congrArg List.length e; rw [List.length_take, List.length_nil] at this; omega
  have hf : firstP (l.take (k + 1)) = if y.till < x.till ∨ (y.till = x.till ∧ x.id < y.id) then y else x := by
    rw [take_snoc_at hy, firstP_snoc hne, hx2]
    by_cases hg : y.till < x.till ∨ (y.till = x.till ∧ x.id < y.id)
    · rw [if_pos hg, if_pos (by simp [goesP, goesK, hg])]
    · rw [if_neg hg, if_neg (by simp [goesP, goesK]; omega)]
  refine ⟨?_, by omega, ?_⟩
  · split <;> omega
  · rw [hf]
    split
    · exact hy
    · exact hx
theorem AtP.cut {l : List PeerL} {a : Nat} (h : AtP l l.length a) (hr : Rising PeerL.id l) : l.take a ++ l.drop (a + 1) = delK PeerL.id (firstP l).id l := by
  obtain ⟨h1, h2, h3⟩ := h
  rw [List.take_length] at h3
  have hs := split_at h3
  have hr2 := hr
  rw [hs] at hr2
  have := delK_mid hr2
  rw [← hs] at this
  exact this.symm
def AtT (T : TabL) (k a : Nat) : Prop := a < k ∧ k ≤ T.length ∧ T[a]? = some (firstT (T.take k))
theorem AtT.start {l : TabL} (h : 0 < l.length) : AtT l 1 0 := by
  cases l with
  | nil => simp at h
  | cons x l => exact ⟨by decide, by simp, rfl⟩
theorem AtT.step {T : TabL} (hr : Rising kD T) {k a : Nat} (h : AtT T k a) {x y : List UInt8 × List PeerL} (hx : T[a]? = some x) (hy : T[k]? = some y) :
    AtT T (k + 1) (if lastP y.2 ≤ lastP x.2 then k else a) := by
  obtain ⟨h1, h2, h3⟩ := h
  have hk : k < T.length := (List.getElem?_eq_some_iff.1 hy).1
  have hx2 : firstT (T.take k) = x := by rw [hx] at h3; exact (Option.some.inj h3).symm
  have hne : T.take k ≠ [] := fun e => by have := congrArg List.length e; rw [List.length_take, List.length_nil] at this; omega
  have hxy : kD x < kD y := by
    have hxt : x ∈ T.take k := by
      have : (T.take k)[a]? = some x := by rw [List.getElem?_take, if_pos h1]; exact hx
      exact List.mem_of_getElem? this
    rw [split_at hy] at hr
    exact hr.mid.1 x hxt
  have hf : firstT (T.take (k + 1)) = if lastP y.2 ≤ lastP x.2 then y else x := by
    rw [take_snoc_at hy, firstT_snoc hne, hx2]
    by_cases hg : lastP y.2 ≤ lastP x.2
    · rw [if_pos hg, if_pos (by simp [goesT, goesK]; omega)]
    · rw [if_neg hg, if_neg (by simp [goesT, goesK]; omega)]
  refine ⟨?_, by omega, ?_⟩
  · split <;> omega
  · rw [hf]
    split
    · exact hy
    · exact hx
theorem AtT.cut {T : TabL} {a : Nat} (h : AtT T T.length a) (hr : Rising kD T) : T.take a ++ T.drop (a + 1) = delK kD (kD (firstT T)) T := by
  obtain ⟨h1, h2, h3⟩ := h
  rw [List.take_length] at h3
  have hs := split_at h3
  have hr2 := hr
  rw [hs] at hr2
  have := delK_mid hr2
  rw [← hs] at this
  exact this.symm

end Go.Proofs.YtnohglkilpnjhaaGreatDoor

/- The walk of the document's answer's place. Condition: the table as it lies. -/
namespace Go.Proofs.YtnohglkilpnjhaaGreatDoor
open Go.RowKit
set_option linter.unusedVariables false
set_option linter.unusedSimpArgs false
set_option maxRecDepth 100000

theorem ROf_val {w : World} {g off : Nat} {x : List UInt8 × Value} (h : ROf.At w g off x) : w.cell? ⟨g, off + 32, none⟩ = some x.2 := by
  have h1 := h.2.2 32 (by show 32 < 33; omega)
  rw [h1]
  show (x.1.map B8 ++ [x.2])[32]? = _
  rw [List.getElem?_append_right (by simp [h.1.1])]
  simp [h.1.1]
theorem RTabP.fst {w : World} {r B : Nat} {many most : Int} {v : Value} {L : RefL} {T : TabL} (h : RTabP w r many most B v L T) {i : Nat} {x : List UInt8 × Value} {y : List UInt8 × List PeerL} (hx : L[i]? = some x) (hy : T[i]? = some y) : x.1 = y.1 := by
  have := congrArg (fun l => l[i]?) h.keys
  simpa [hx, hy] using this

end Go.Proofs.YtnohglkilpnjhaaGreatDoor

/- Regions that draw their order, in an order of one's own choosing: operations that only yield a value, in whatever places they stand, taken first; then some that keep to a class of worlds, one behind the other; then those that wait for all. No condition. -/
namespace Go.Proofs.YtnohglkilpnjhaaGreatDoor
open Go.RowKit
set_option linter.unusedVariables false
set_option linter.unusedSimpArgs false

/-- An operation that only yields a value. -/
def earlyOp2 (o : Oper) : Bool := o.guard.isNone && match o.op with
  | .move _ | .assign _ | .load .. | .indexAddr .. | .fieldAddr .. | .convert .. | .slice .. | .extract .. | .nilCheck _ | .binOp .. | .unOp .. | .build .. | .lookup .. | .field .. | .index .. => true
  | _ => false
theorem early_value2 {P : Program} {o : Oper} {ρ : Operand → Value} {w w' : World} {r : Next} (h : earlyOp2 o = true) (hr : (execOp ρ o).run P w = .ok r w') : ∃ u, r = .value u := by
  cases ho : earlyOp o with
  | true => exact early_value ho hr
  | false =>
    unfold earlyOp2 at h
    unfold earlyOp at ho
    unfold execOp at hr
    cases hop : o.op <;> simp [hop] at h ho <;> simp only [hop] at hr
    all_goals first
      | (rw [h] at ho; simp at ho; done)
      | exact only_value hr
      | (simp [Sem.run_pure] at hr; exact ⟨_, hr.1.symm⟩)

section
variable {ro : Option Nat} {m : Nat} {P : Program} {ops : Array Oper} {md : Region.Mode} {C : World → Prop} {D : Nat → Bool} {Q : Exit → Act → World → Prop}

theorem still_of_quiet2 {o : Oper} {v : Value} {a : Act} (he : earlyOp2 o = true) (hq : ∀ w, C w → o.quietAt P a C w v) : StillIn P ops C o v a := by
  have hg : o.guard = none := by
    unfold earlyOp2 at he
    simp only [Bool.and_eq_true, Option.isNone_iff_eq_none] at he
    exact he.1
  refine ⟨by simp [Region.wanted, hg], fun w hw => ?_⟩
  have h := hq w hw
  unfold Oper.quietAt at h
  cases hr : (execOp a.eval o).run P w with
  | ok r w' =>
    rw [hr] at h
    obtain ⟨u, rfl⟩ := early_value2 he hr
    simp only [Oper.quietUpon] at h
    rw [h.1, h.2]
  | halt x w' => rw [hr] at h; simp [Oper.quietUpon] at h

/-- The operations at these places. -/
def opsAt (l : List Oper) (is : List Nat) : List Oper := is.flatMap fun i => (l[i]?).toList
def listedI : List Nat → Array Bool → Array Bool
  | [], listed => listed
  | p :: ps, listed => listedI ps (listed.setIfInBounds p true)
def earlyI (md : Region.Mode) (ops : Array Oper) (D : Nat → Bool) : List Nat → Array Bool → Bool
  | [], _ => true
  | p :: ps, listed => (Region.ready md ops listed).contains p && Region.free md ops listed p && (match ops[p]? with | some o => earlyOp2 o | none => false) &&
      ((List.range ops.size).all fun j => !D j || waitsB md ops p ops.size j) && earlyI md ops D ps (listed.setIfInBounds p true)
def seqI (md : Region.Mode) (ops : Array Oper) : List Nat → Array Bool → Bool
  | [], listed => decide (Region.ready md ops listed = [])
  | p :: ps, listed => decide (Region.ready md ops listed = [p]) && seqI md ops ps (listed.setIfInBounds p true)

theorem opsAt_cons {l : List Oper} {p : Nat} {ps : List Nat} {o : Oper} (h : l[p]? = some o) : opsAt l (p :: ps) = o :: opsAt l ps := by
  unfold opsAt
  rw [List.flatMap_cons, h]
  rfl

/-- The early operations, one by one. -/
theorem wpAnyS_earlyI (hnd : noDefer ops = true) (hsel : Region.noSelect ops = true) (hQ : ∀ c (a : Act) (d : Option Tmp) (v : Value) w, Q (.panic c) (a.put d v) w → Q (.panic c) a w) (hD : ∀ j, ops.size ≤ j → D j = false) {R : Act → Prop} {g : Nat} (ps : List Nat) :
    ∀ (listed : Array Bool) (a : Act) (w : World), listed.size = ops.size → ClosedL md ops listed → C w → earlyI md ops D ps listed = true →
      wpQuiet P ops C R (opsAt ops.toList ps) a → (∀ a' w, C w → R a' → wpAnyS ro m P md ops C D Q g (listedI ps listed) a' w) → wpAnyS ro m P md ops C D Q (ps.length + g) listed a w := by
  induction ps with
  | nil =>
    intro listed a w _ _ hC _ h hL
    rw [List.length_nil, Nat.zero_add]
    exact hL a w hC h
  | cons p ps ih =>
    intro listed a w hsz hcl hC hB h hL
    simp only [earlyI, Bool.and_eq_true] at hB
    obtain ⟨⟨⟨⟨hr, hf⟩, he⟩, hw⟩, hB⟩ := hB
    have hr' : p ∈ Region.ready md ops listed := by simpa using hr
    obtain ⟨o, h0⟩ : ∃ o, ops[p]? = some o := by
      cases q : ops[p]? with
      | some o => exact ⟨o, rfl⟩
      | none => rw [q] at he; cases he
    rw [h0] at he
    rw [opsAt_cons (o := o) (by simpa using h0)] at h
    have hg : o.guard = none := by
      have := he
      unfold earlyOp2 at this
      simp only [Bool.and_eq_true, Option.isNone_iff_eq_none] at this
      exact this.1
    have hq : o.quiet P a C (wpQuiet P ops C R (opsAt ops.toList ps)) := by
      have h' : if Region.wanted o (yielded ops a.tmps) then o.quiet P a C (wpQuiet P ops C R (opsAt ops.toList ps)) else wpQuiet P ops C R (opsAt ops.toList ps) (a.put o.dst undef) := h
      rwa [if_pos (by simp [Region.wanted, hg])] at h'
    obtain ⟨v, hv, hK⟩ := hq
    have hDi : ∀ j, D j = true → WaitsT md ops p j := fun j hj => by
      have hjs : j < ops.size := by
        rcases Nat.lt_or_ge j ops.size with h | h
        · exact h
        · rw [hD j h] at hj; cases hj
      have := List.all_eq_true.1 hw j (List.mem_range.2 hjs)
      simp only [hj, Bool.not_true, Bool.false_or] at this
      exact waitsB_spec _ _ this
    rw [List.length_cons, show ps.length + 1 + g = (ps.length + g) + 1 by omega]
    refine wpAnyS_take hnd h0 (Region.noSelect_spec hsel) hQ hDi (ps.length + g) listed a w hsz hcl (Region.free_spec h0 hf) hr' (still_of_quiet2 he hv) hC ?_
    exact ih _ _ w (by simpa using hsz) (hcl.set hr' hsz) hC hB hK hL

theorem ready_get {p : Nat} {listed : Array Bool} (h : Region.ready md ops listed = [p]) : ∃ o, ops[p]? = some o := by
  obtain ⟨_, o, ho, _⟩ := mem_ready.1 (show p ∈ Region.ready md ops listed by rw [h]; simp)
  exact ⟨o, ho⟩

/-- Those behind them, in one order. -/
theorem wpAnyS_restI (hD : ∀ j, D j = true → True) : ∀ (rests : List Nat) (listed : Array Bool) (a : Act) (w : World), (∀ j ∈ rests, D j = true) → seqI md ops rests listed = true →
    wpListIn (WF ro) m P ops Q (opsAt ops.toList rests) a w → wpAnyS ro m P md ops C D Q rests.length listed a w
  | [], listed, a, w, _, hB, h => ⟨by simpa [seqI] using hB, h⟩
  | p :: ps, listed, a, w, hd, hB, h => by
    simp only [seqI, Bool.and_eq_true, decide_eq_true_eq] at hB
    obtain ⟨o, h0⟩ := ready_get hB.1
    rw [opsAt_cons (o := o) (by simpa using h0)] at h
    refine ⟨fun h1 => (by rw [hB.1] at h1; cases h1), fun i hi => ?_⟩
    rw [hB.1] at hi
    obtain rfl : i = p := by simpa using hi
    have hdi : D i = true := hd i (by simp)
    have hrec := fun a' w' h' => wpAnyS_restI hD ps (listed.setIfInBounds i true) a' w' (fun j hj => hd j (by simp [hj])) hB.2 h'
    unfold wpOpIn
    simp only [h0]
    unfold wpListIn at h
    split
    · rename_i hq
      rw [if_pos hq] at h
      exact Oper.wpIn_mono (fun a' w' h' => ⟨fun e => (by rw [hdi] at e; cases e), hrec a' w' h'⟩) h
    · rename_i hq
      rw [if_neg hq] at h
      exact ⟨fun _ _ => trivial, fun e => (by rw [hdi] at e; cases e), hrec _ w h.2⟩
theorem wpAnyS_lateI (hnd : noDefer ops = true) : ∀ (mids rests : List Nat) (listed : Array Bool) (a : Act) (w : World), (∀ j ∈ rests, D j = true) → seqI md ops (mids ++ rests) listed = true → C w →
    LateL ro m P ops C Q (opsAt ops.toList mids) (opsAt ops.toList rests) a w → wpAnyS ro m P md ops C D Q (mids.length + rests.length) listed a w
  | [], rests, listed, a, w, hd, hB, hC, h => by
    rw [List.length_nil, Nat.zero_add]
    exact wpAnyS_restI (fun _ _ => trivial) rests listed a w hd hB h
  | p :: ps, rests, listed, a, w, hd, hB, hC, h => by
    simp only [List.cons_append, seqI, Bool.and_eq_true, decide_eq_true_eq] at hB
    obtain ⟨o, h0⟩ := ready_get hB.1
    rw [opsAt_cons (o := o) (by simpa using h0)] at h
    rw [List.length_cons, show ps.length + 1 + rests.length = (ps.length + rests.length) + 1 by omega]
    refine ⟨fun h1 => (by rw [hB.1] at h1; cases h1), fun i hi => ?_⟩
    rw [hB.1] at hi
    obtain rfl : i = p := by simpa using hi
    have hrec := fun a' w' hC' h' => wpAnyS_lateI hnd ps rests (listed.setIfInBounds i true) a' w' hd hB.2 hC' h'
    unfold wpOpIn
    simp only [h0]
    unfold LateL at h
    split
    · rename_i hq
      rw [if_pos hq] at h
      exact wpIn_of_wp (noDefer_spec hnd h0) (Oper.wp_mono (fun a' w' h' => ⟨fun _ => h'.1, hrec a' w' h'.1 h'.2⟩) h)
    · rename_i hq
      rw [if_neg hq] at h
      exact ⟨fun _ _ => trivial, fun _ => hC, hrec _ w hC h⟩

def mixB (l : List Oper) (hs ts1 ts2 : List Nat) : Bool :=
  Region.noSelect l.toArray && noDefer l.toArray && decide (hs.length + (ts1.length + ts2.length) = l.length) && (ts2.all fun j => decide (j < l.length)) &&
    earlyI .any l.toArray (fun j => ts2.contains j) hs (Array.replicate l.length false) && seqI .any l.toArray (ts1 ++ ts2) (listedI hs (Array.replicate l.length false))
/-- THE REGION: hs only yield values; ts1 keep to the class; ts2 wait for all of hs. -/
theorem wpIn_region_mix {id : Nat} {a : Act} {w : World} {l : List Oper} (hs ts1 ts2 : List Nat) (hm : P.follows .mixedOrders = true) (hB : mixB l hs ts1 ts2 = true)
    (hC : C { w with drawn := w.drawn + 1 }) (hQ : ∀ c (a : Act) (d : Option Tmp) (v : Value) w, Q (.panic c) (a.put d v) w → Q (.panic c) a w)
    (h : wpQuiet P l.toArray C (fun a' => ∀ w', C w' → LateL ro m P l.toArray C Q (opsAt l ts1) (opsAt l ts2) a' w') (opsAt l hs) a) :
    (Code.region id l.toArray true).wpIn (WF ro) m P Q a w := by
  simp only [mixB, Bool.and_eq_true, decide_eq_true_eq] at hB
  obtain ⟨⟨⟨⟨⟨hsel, hnd⟩, hlen⟩, hlt⟩, hearly⟩, hseq⟩ := hB
  have hsz : l.toArray.size = l.length := by simp
  refine wpIn_region_any hm ?_
  rw [hsz, ← hlen]
  refine wpAnyS_any (C := C) (D := fun j => ts2.contains j) _ _ _ _ ?_
  refine wpAnyS_earlyI (R := fun a' => ∀ w', C w' → LateL ro m P l.toArray C Q (opsAt l ts1) (opsAt l ts2) a' w') hnd hsel hQ (fun j hj => ?_) hs (Array.replicate (hs.length + (ts1.length + ts2.length)) false) a _ (by simp [hlen]) (fun j oj _ hl => (by rw [getD_replicate_false] at hl; cases hl)) hC (by rw [hlen]; exact hearly) h (fun a' w' hw' hR => ?_)
  · cases hc : ts2.contains j with
    | false => rfl
    | true =>
      have := List.all_eq_true.1 hlt j (by simpa using hc)
      simp only [decide_eq_true_eq] at this
      omega
  · exact wpAnyS_lateI hnd ts1 ts2 _ a' w' (fun j hj => by simpa using hj) (by rw [hlen]; exact hseq) hw' (hR w' hw')
end

end Go.Proofs.YtnohglkilpnjhaaGreatDoor

/- The walks of the document's answer's cutPeer and cut. Condition: the place is one of the list's. -/
namespace Go.Proofs.YtnohglkilpnjhaaGreatDoor
open Go.RowKit
set_option linter.unusedVariables false
set_option linter.unusedSimpArgs false
set_option maxRecDepth 100000

section
variable {e se : TypeId} {α : Type} {R : RecT e α} {w : World}
end

/-- What a table's block holds when its blobs are others. -/
theorem RTabP.put {w w' W : World} {r B : Nat} {many most : Int} {v v' : Value} {L L' : RefL} {T T' : TabL} (h : RTabP w r many most B v L T) (hw : Below w.heap.size w w') (ho : ROf.Own w' w.heap.size v' L') (hk : L'.map (·.1) = T'.map (·.1))
    (hr : ∀ (i : Nat) (x : List UInt8 × Value) (y : List UInt8 × List PeerL), L'[i]? = some x → T'[i]? = some y → RPeer.Own w' B x.2 y.2) (hW : W = w'.setCell ⟨r, 2, none⟩ v') : RTabP W r many most B v' L' T' ∧ RStp r v w W := by
  have hlt := h.lt
  have hBr := h.base
  have hr1 : w'.heap[r]? = some (.cells #[.int .i64 many, .int .i64 most, v] 144 (0, 0)) := (hw.block _ hlt).trans h.tab
  have hoth : ∀ k, k ≠ r → W.heap[k]? = w'.heap[k]? := fun k hk => by subst hW; exact Below.heap_setCell _ _ _ _ hk
  refine ⟨⟨?_, h.base, (ho.kept fun k e => hoth k (fun q => ?_)).mono (by omega), hk, fun i x y hx hy => (hr i x y hx hy).kept fun k e => hoth k (fun q => ?_)⟩, ?_⟩
  · subst hW
    obtain ⟨hl, hkk⟩ := Array.getElem?_eq_some_iff.1 hr1
    show (w'.heap.modify r _)[r]? = _
    rw [Array.getElem?_eq_getElem (by rw [Array.size_modify]; exact hl), Array.getElem_modify_self, hkk]
    rfl
  · have := (ho.lt k e).1; omega
  · subst q
    obtain ⟨cur, h1⟩ := (hr i x y hx hy).block e
    rw [hr1] at h1; cases h1
  · have h1 : Kept (fun k => k ≠ r ∧ v.ownBlock ≠ some k) w w' := (Kept.refl _ w).below hw
    refine ⟨?_, ?_, ?_, ?_, fun k hk hu => ?_⟩
    · subst hW; exact h1.os
    · subst hW; exact h1.tape
    · subst hW; exact h1.output
    · subst hW; simpa using h1.size
    · exact (hoth k hu.1).trans (h1.block k hk hu)

end Go.Proofs.YtnohglkilpnjhaaGreatDoor

/- How memory stands in the midst of a call on the document's answer's table; its entries' literals. No condition. -/
namespace Go.Proofs.YtnohglkilpnjhaaGreatDoor
open Go.RowKit
set_option linter.unusedVariables false
set_option linter.unusedSimpArgs false
set_option linter.unusedSectionVars false
set_option maxRecDepth 100000

/-- In the midst of a call: the table, what was written. -/
structure RSt (w : World) (r : Nat) (many most : Int) (B : Nat) (v : Value) (W : World) (v1 : Value) (L1 : RefL) (T1 : TabL) : Prop where
  tab : RTabP W r many most B v1 L1 T1
  step : RStp r v w W
  own : ∀ k, v1.ownBlock = some k → v.ownBlock = some k ∨ w.heap.size ≤ k
section
variable {w W W' : World} {r B : Nat} {many most : Int} {v v1 v2 : Value} {L L1 L2 : RefL} {T T1 T2 : TabL}
theorem RSt.start (h : RTabP w r many most B v L T) : RSt w r many most B v w v L T := ⟨h, Kept.refl _ _, fun k e => .inl e⟩
theorem RSt.new (h : RSt w r many most B v W v1 L1 T1) (hb : Below W.heap.size W W') : RSt w r many most B v W' v1 L1 T1 := ⟨h.tab.of_new hb, Kept.below h.step hb, h.own⟩
theorem RSt.next (h : RSt w r many most B v W v1 L1 T1) (ht : RTabP W' r many most B v2 L2 T2) (hs : RStp r v1 W W') (ho : ∀ k, v2.ownBlock = some k → v1.ownBlock = some k ∨ W.heap.size ≤ k) : RSt w r many most B v W' v2 L2 T2 := by
  refine ⟨ht, ⟨hs.os.trans h.step.os, hs.tape.trans h.step.tape, hs.output.trans h.step.output, Nat.le_trans h.step.size hs.size, fun k hk hu => ?_⟩, fun k e => ?_⟩
  · refine (hs.block k (Nat.lt_of_lt_of_le hk h.step.size) ⟨hu.1, fun e => ?_⟩).trans (h.step.block k hk hu)
    rcases h.own k e with h1 | h1
    · exact hu.2 h1
    · omega
  · rcases ho k e with h1 | h1
    · exact h.own k h1
    · exact .inr (Nat.le_trans h.step.size h1)
/-- The blobs are others. -/
theorem RSt.put (h : RSt w r many most B v W v1 L1 T1) (hw : Below W.heap.size W W') {v2 : Value} {L2 : RefL} {T2 : TabL} (ho : ROf.Own W' W.heap.size v2 L2) (hk : L2.map (·.1) = T2.map (·.1))
    (hr : ∀ (i : Nat) (x : List UInt8 × Value) (y : List UInt8 × List PeerL), L2[i]? = some x → T2[i]? = some y → RPeer.Own W' B x.2 y.2) : RSt w r many most B v (W'.setCell ⟨r, 2, none⟩ v2) v2 L2 T2 := by
  obtain ⟨h1, h2⟩ := h.tab.put hw ho hk hr rfl
  exact h.next h1 h2 fun k e => .inr (ho.lt k e).1
/-- One entry's peers are others. -/
theorem RSt.set {g1 n1 c1 i : Nat} {d : List UInt8} {u0 u : Value} {ps q : List PeerL} (h : RSt w r many most B v W (.slice (some ⟨g1, 0, none⟩) n1 c1) L1 T1) (hi : L1[i]? = some (d, u0)) (hT : T1[i]? = some (d, ps)) (hu : RPeer.Own W B u q) :
    RSt w r many most B v (W.setCell ⟨g1, i * 33 + 32, none⟩ u) (.slice (some ⟨g1, 0, none⟩) n1 c1) (L1.set i (d, u)) (T1.set i (d, q)) := by
  obtain ⟨ho, hg⟩ := ROf.set h.tab.own (u := u) hi hu.one
  obtain ⟨cur, hcur⟩ := h.tab.own.block (k := g1) rfl
  have hoth : ∀ k, k ≠ g1 → (W.setCell ⟨g1, i * 33 + 32, none⟩ u).heap[k]? = W.heap[k]? := fun k hk => Below.heap_setCell _ _ _ _ hk
  have hne : ∀ {x : Value} {y : List PeerL}, RPeer.Own W B x y → RPeer.Own (W.setCell ⟨g1, i * 33 + 32, none⟩ u) B x y := fun {x y} hx => hx.kept fun k e => hoth k fun q => by
    subst q
    obtain ⟨cur2, h2⟩ := hx.block e
    rw [hcur] at h2; cases h2
  refine h.next ⟨(hoth r (h.tab.ne rfl).symm).trans h.tab.tab, h.tab.base, ho, ?_, fun j x y hx hy => ?_⟩ ⟨rfl, rfl, rfl, by simp, fun k hk hu2 => hoth k fun q => hu2.2 (by rw [q]; rfl)⟩ (fun k e => .inl e)
  · rw [List.map_set, List.map_set, h.tab.keys]
  · by_cases hj : i = j
    · subst hj
      have hil : i < L1.length := (List.getElem?_eq_some_iff.1 hi).1
      have hil2 : i < T1.length := (List.getElem?_eq_some_iff.1 hT).1
      rw [List.getElem?_set_self hil] at hx
      rw [List.getElem?_set_self hil2] at hy
      cases hx; cases hy
      exact hne hu
    · rw [List.getElem?_set_ne hj] at hx hy
      exact hne (h.tab.rows j x y hx hy)
theorem RTabP.val (h : RTabP w r many most B v1 L1 T1) {i : Nat} {d : List UInt8} {ps : List PeerL} (hi : T1[i]? = some (d, ps)) : ∃ u, L1[i]? = some (d, u) ∧ RPeer.Own w B u ps := by
  have hl : i < L1.length := by rw [h.len]; exact (List.getElem?_eq_some_iff.1 hi).1
  obtain ⟨x, hx⟩ : ∃ x, L1[i]? = some x := ⟨_, List.getElem?_eq_getElem hl⟩
  have h1 := h.fst hx hi
  obtain ⟨xd, xv⟩ := x
  cases h1
  exact ⟨xv, hx, h.rows i _ _ hx hi⟩
/-- Its slice's form, an entry's place. -/
theorem RTabP.form (h : RTabP w r many most B v1 L1 T1) (h0 : 0 < T1.length) : ∃ g c, v1 = .slice (some ⟨g, 0, none⟩) T1.length c ∧ B ≤ g ∧ g < w.heap.size ∧ g ≠ r ∧ (∀ j, w.frozen? ⟨g, j, none⟩ = false) ∧ ∀ i x, L1[i]? = some x → ROf.At w g (i * 33) x := by
  obtain ⟨g, c, hv, h1, h2⟩ := h.own.form (by rw [h.len]; exact h0)
  rw [h.len] at hv
  obtain ⟨cur, hcur⟩ := h.own.block (k := g) (by rw [hv]; rfl)
  refine ⟨g, c, hv, h1, h2, h.ne (by rw [hv]; rfl), fun j => by simp [World.frozen?, hcur], fun i x hx => ?_⟩
  obtain ⟨b, off, c', hv2, _, hat⟩ := h.own.row.at_ (by rw [h.len]; exact h0)
  rw [hv] at hv2
  have hq := (Value.slice.inj hv2).1
  cases hq
  have := hat i x hx
  rwa [Nat.zero_add] at this
theorem RTabP.entry {g n c i : Nat} {d : List UInt8} {ps : List PeerL} (h : RTabP w r many most B (.slice (some ⟨g, 0, none⟩) n c) L1 T1) (hi : T1[i]? = some (d, ps)) :
    ∃ a k, L1[i]? = some (d, .slice a ps.length k) ∧ RPeer.Own w B (.slice a ps.length k) ps ∧ w.cell? ⟨g, i * 33 + 32, none⟩ = some (.slice a ps.length k) ∧ w.frozen? ⟨g, i * 33 + 32, none⟩ = false ∧ i < n ∧ n = T1.length := by
  obtain ⟨u, hu, hrow⟩ := h.val hi
  obtain ⟨a, k, hv⟩ := hrow.row.len
  subst hv
  have hil : i < T1.length := (List.getElem?_eq_some_iff.1 hi).1
  obtain ⟨g', c', hv', _, _, _, hfz, hat⟩ := h.form (by omega)
  have e1 := (Value.slice.inj hv').1
  have e2 := (Value.slice.inj hv').2.1
  cases e1
  exact ⟨a, k, hu, hrow, ROf_val (hat i _ hu), hfz _, by omega, e2⟩
end
end Go.Proofs.YtnohglkilpnjhaaGreatDoor

/- The walk of slices.Clone of blobs. No condition. -/
namespace Go.Proofs.YtnohglkilpnjhaaGreatDoor
open Go.RowKit
set_option linter.unusedVariables false

set_option maxRecDepth 100000 in
set_option maxHeartbeats 800000 in
/-- slices.Clone of blobs. -/
theorem BlClone_any (v : Value) (l : List BlobL) (w : World) (hl : RBlob.Row w v l) (hlen : l.length ≤ 1000000) :
    Calls Tryz.prog 53 #[v] w fun e w' => ∃ v', e = .returned v' ∧ RBlob.Own w' w.heap.size v' l ∧ Below w.heap.size w w' := by
  obtain ⟨a, c, hv⟩ := hl.len
  have he := fun (w : World) (a : Option Addr) (n c : Nat) => Lib.run_eql_slice_nil (P := Tryz.prog) w 50 81 a n c 0 0 Tryz.underlying50
  cases a with
  | none =>
    have hl0 : l = [] := by
      obtain ⟨_, _, a', c', hv', h1, _, h3, _⟩ := hl
      rw [hv'] at hv; cases hv
      have := h3 rfl
      exact List.eq_nil_of_length_eq_zero (by omega)
    subst hl0
    have hc : c = 0 := by
      obtain ⟨_, _, a', c', hv', h1, _, h3, _⟩ := hl
      rw [hv'] at hv; cases hv
      exact h3 rfl
    subst hc
    subst hv
    go_enter Tryz.func53, Tryz.ntmps53
    go_wp2
    go_ret
    exact ⟨_, rfl, RecT.Own.nil _ _, Below.refl _ _⟩
  | some a =>
    subst hv
    have HO := Lib.hid (show RBlob.Own (w.alloc (.cells #[] 81)) w.heap.size (.slice (some ⟨w.heap.size, 0, none⟩) 0 0) [] from ⟨(fun _ h => by cases h), World.ownsRow_made w #[] 0 (Nat.le_refl _) (by unfold maxLen; omega) rfl⟩)
    have HL := Lib.hid (hl.of_new ((Below.refl _ w).alloc (Nat.le_refl _) (.cells #[] 81)))
    clear hl
    go_enter Tryz.func53, Tryz.ntmps53
    go_wp2_with ((with_reducible refine wpList_plain (o := ⟨some 7, _, _, _, _, _⟩) rfl fun K hK => ?_); (refine HO.out.app Tryz.underlying50 (.tmp 5) (.tmp 6) rfl rfl rfl HL.out (by simp; omega) (by simp) fun v1 w1 hown1 hg1 _ => hK _ _ ?_); have HW1 := Lib.hid hown1; have hbA : Below w.heap.size w w1 := ((Below.refl _ w).alloc (Nat.le_refl _) _).grown hg1 (by simp) (fun j hj => by cases hj; exact Nat.le_refl _); have HBA := Lib.hid hbA; clear hown1 hg1 hbA)
    go_ret
    exact ⟨_, rfl, by simpa using HW1.out, HBA.out⟩

end Go.Proofs.YtnohglkilpnjhaaGreatDoor

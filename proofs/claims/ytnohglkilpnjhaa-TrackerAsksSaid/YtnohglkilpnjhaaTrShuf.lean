/- The walks of slices.Clone of numbers, of package draw's Shuffle and Sample, and of the document's answer's. No condition. -/
import Derived.Test.YtnohglkilpnjhaaTrDraw
import Derived.Shelf.RegionOpenPlain
namespace Go.Proofs.Ytnohglkilpnjhaa
open Go.RowKit
set_option linter.unusedVariables false
set_option linter.unusedSimpArgs false
set_option maxRecDepth 100000

theorem ownN_empty (w : World) : OwnN (w.alloc (.cells #[] 3)) w.heap.size (.slice (some ⟨w.heap.size, 0, none⟩) 0 0) [] :=
  ⟨rfl, .inr ⟨w.heap.size, 0, #[], rfl, Nat.le_refl _, heap_alloc_new w _, Nat.le_refl _, by unfold maxLen; omega, rfl, rfl⟩⟩
section
variable {w : World} {base g cap : Nat} {l : List Int}
theorem OwnN.shape {v : Value} (h : OwnN w base v l) (h0 : 0 < l.length) : ∃ g cap, v = .slice (some ⟨g, 0, none⟩) l.length cap ∧ base ≤ g ∧ g < w.heap.size := by
  rcases h.2 with ⟨_, h1⟩ | ⟨g, cap, cur, hv, hb, hh, _⟩
  · omega
  · exact ⟨g, cap, hv, hb, (Array.getElem?_eq_some_iff.1 hh).1⟩
theorem OwnN.cell (h : OwnN w base (.slice (some ⟨g, 0, none⟩) l.length cap) l) {i : Nat} (hi : i < l.length) : w.cell? ⟨g, i, none⟩ = some (.int .i64 (l.getD i 0)) ∧ w.frozen? ⟨g, i, none⟩ = false := by
  rcases h.2 with ⟨h1, _⟩ | ⟨g', cap', cur, hv, hb, hh, hn, hc, hs, hx⟩
  · cases h1
  · obtain ⟨rfl, rfl⟩ : g = g' ∧ cap = cap' := by cases hv; exact ⟨rfl, rfl⟩
    refine ⟨?_, by simp [World.frozen?, hh]⟩
    have h1 : (cur.toList.take (l.length * 1))[i]? = some (.int .i64 (l.getD i 0)) := by
      rw [hx]; simp [List.getElem?_map, List.getElem?_eq_getElem hi, List.getD, I64]
    rw [List.getElem?_take, if_pos (by omega)] at h1
    simp only [World.cell?, hh]
    simpa using h1
theorem OwnN.set (h : OwnN w base (.slice (some ⟨g, 0, none⟩) l.length cap) l) (i : Nat) (x : Int) : OwnN (w.setCell ⟨g, i, none⟩ (.int .i64 x)) base (.slice (some ⟨g, 0, none⟩) l.length cap) (l.set i x) := by
  rcases h.2 with ⟨h1, _⟩ | ⟨g', cap', cur, hv, hb, hh, hn, hc, hs, hx⟩
  · cases h1
  · obtain ⟨rfl, rfl⟩ : g = g' ∧ cap = cap' := by cases hv; exact ⟨rfl, rfl⟩
    have hnew : (w.setCell ⟨g, i, none⟩ (.int .i64 x)).heap[g]? = some (.cells (cur.setIfInBounds i (.int .i64 x)) 3 (0, 0)) := by
      simp only [World.setCell, Array.getElem?_modify, if_true, hh, Option.map_some]
      rfl
    refine ⟨by simp, .inr ⟨g, cap, cur.setIfInBounds i (.int .i64 x), by rw [List.length_set], hb, hnew, by rw [List.length_set]; exact hn, hc, by simpa using hs, ?_⟩⟩
    rw [List.length_set, Array.toList_setIfInBounds, List.take_set, hx, List.map_set]
    rfl
end

set_option maxHeartbeats 800000 in
theorem CloneI_any (v : Value) (l : List Int) (w : World) (hl : Ints w v l) (hlen : l.length ≤ 1000000) :
    Calls Try.prog 73 #[v] w fun e w' => ∃ v', e = .returned v' ∧ OwnN w' w.heap.size v' l ∧ Below w.heap.size w w' := by
  obtain ⟨a, c, hv⟩ := hl.len
  have he := fun (w : World) (a : Option Addr) (n c : Nat) => Lib.run_eql_slice_nil (P := Try.prog) w 22 3 a n c 0 0 Try.underlying22
  cases a with
  | none =>
    have hl0 : l = [] ∧ c = 0 := by
      obtain ⟨_, a', c', hv', h1, _, h3, _⟩ := hl
      rw [hv'] at hv; cases hv
      have := h3 rfl
      exact ⟨List.eq_nil_of_length_eq_zero (by omega), this⟩
    obtain ⟨rfl, rfl⟩ := hl0
    subst hv
    go_enter Try.func73, Try.ntmps73
    go_wp2
    go_ret
    exact ⟨_, rfl, OwnN.nil _ _, Below.refl _ _⟩
  | some a =>
    subst hv
    have HO := Lib.hid (ownN_empty w)
    have HL := Lib.hid (hl.of_new ((Below.refl _ w).alloc (Nat.le_refl _) (.cells #[] 3)))
    clear hl
    go_enter Try.func73, Try.ntmps73
    go_wp2_with ((with_reducible refine wpList_plain (o := ⟨some 7, _, _, _, _, _⟩) rfl fun K hK => ?_); refine wp_appN (.tmp 5) (.tmp 6) rfl w.heap.size _ [] rfl HO.out _ l rfl HL.out (by simp; omega) (by simp) fun v1 w1 hown1 hg1 hu1 => hK _ _ ?_; have HO1 := Lib.hid (show OwnN w1 w.heap.size v1 l from by simpa using hown1); have HB1 := Lib.hid (((Below.refl _ w).alloc (Nat.le_refl _) (.cells #[] 3)).grown hg1 (by simp) (fun j hj => by cases hj; exact Nat.le_refl _)); clear hown1 hg1 hu1)
    go_ret
    exact ⟨_, rfl, HO1.out, HB1.out⟩

/-- How Shuffle's loop stands. -/
structure ShufSt (w0 : World) (g s : Nat) (l : List Int) (b cap : Nat) (i s' : Nat) (cur : List Int) (W : World) : Prop where
  src : SrcO W g s'
  own : OwnN W w0.heap.size (.slice (some ⟨b, 0, none⟩) cur.length cap) cur
  len : cur.length = l.length
  eq : shufL s l = shufF i s' cur
  kept : Kept (fun k => k ≠ g) w0 W
  le : i ≤ l.length - 1

set_option maxHeartbeats 3200000 in
theorem Shuffle_any (g s : Nat) (v : Value) (l : List Int) (w : World) (hs : SrcO w g s) (hl : Ints w v l) (hlen : l.length ≤ 1000000) :
    Calls Try.prog 65 #[.pointer (some ⟨g, 0, none⟩), v] w fun e w' => ∃ v', e = .returned v' ∧ OwnN w' w.heap.size v' (shufL s l) ∧ Kept (fun k => k ≠ g) w w' := by
  obtain ⟨a, c, hv⟩ := hl.len
  subst hv
  have HL := Lib.hid hl
  have HS := Lib.hid hs
  have hgl := hs.1.lt
  clear hl hs
  go_enter Try.func65, Try.ntmps65
  go_upto_region 2 with (go_at_call 73; refine (CloneI_any _ l _ HL.out hlen).mono ?_; rintro e w1 ⟨v1, rfl, ho1, hb1⟩; obtain ⟨a1, c1, hv⟩ := ho1.ints.len; subst hv; have HO1 := Lib.hid ho1; have HB1 := Lib.hid hb1; have HS1 := Lib.hid (show SrcO w1 g s from ⟨HS.out.1.of_new hb1, HS.out.2⟩); clear ho1 hb1)
  rcases Nat.eq_zero_or_pos l.length with h0 | h0
  · have hl0 : l = [] := List.length_eq_zero_iff.1 h0
    subst hl0
    simp only [List.length_nil]
    go_wp2
    go_loopw [6, 7] (fun iv _ W => iv = .int .i64 (-1) ∧ W = w1) (fun _ _ _ => 0)
    case atStart => exact ⟨rfl, rfl⟩
    case round =>
      obtain ⟨rfl, rfl⟩ := hrel
      go_wp2
      go_ret
      exact ⟨_, rfl, HO1.out, (Kept.refl _ w).below HB1.out⟩
  · obtain ⟨b, cap, hv, hbb, hbl⟩ := HO1.out.shape h0
    obtain ⟨rfl, rfl⟩ : a1 = some ⟨b, 0, none⟩ ∧ c1 = cap := by cases hv; exact ⟨rfl, rfl⟩
    obtain ⟨N, hN⟩ : ∃ N, l.length - 1 = N := ⟨_, rfl⟩
    have hn1 : (l.length : Int) - 1 = (N : Int) := by omega
    have hst : ShufSt w g s l b c1 N s l w1 := ⟨HS1.out, HO1.out, rfl, by unfold shufL; rw [hN], (Kept.refl _ w).below HB1.out, by omega⟩
    have HST := Lib.hid hst
    have HN := Lib.hid hN
    clear hv hst hN
    go_wp2
    try rw [hn1]
    go_loopw [6, 7] (fun iv _ W => ∃ (i s' : Nat) (cur : List Int), iv = .int .i64 (i : Int) ∧ ShufSt w g s l b c1 i s' cur W) (fun iv _ _ => (intOf iv).toNat)
    case atStart => exact ⟨N, s, l, by first | rfl | (congr 1), HST.out⟩
    case round =>
      obtain ⟨i, s', cur, rfl, hst⟩ := hrel
      cases i with
      | zero =>
        have he := hst.eq
        have hln := hst.len
        have HO := Lib.hid hst.own
        have HK := Lib.hid hst.kept
        have HE := Lib.hid (show shufL s l = cur from he)
        have HLN := Lib.hid hln
        clear he hln hst
        go_wp2
        go_ret
        exact ⟨_, rfl, by rw [HE.out]; have := HO.out; rwa [HLN.out] at this, HK.out⟩
      | succ j =>
        have hnx : shufF (j + 1) s' cur = shufF j (nextN s') (swapL cur (j + 1) (belowN s' (j + 2))) := rfl
        have heq := hst.eq.trans hnx
        have hle := hst.le
        have hln := hst.len
        have hk := below_lt s' (j + 2) (by omega)
        have hB := Below_any g s' (j + 2) wr hst.src (by omega)
        obtain ⟨I, hI⟩ : ∃ I, j + 1 = I := ⟨_, rfl⟩
        have e2 : ((j + 2 : Nat) : Int) = (I : Int) + 1 := by omega
        rw [e2] at hB
        rw [hI] at heq hle ⊢
        obtain ⟨k, hke⟩ : ∃ k, belowN s' (j + 2) = k := ⟨_, rfl⟩
        rw [hke] at hB heq hk
        have hkl : k < cur.length := by omega
        have hIl : I < cur.length := by omega
        have hI0 : (0 : Int) < (I : Int) := by omega
        have w1' : IntKind.u64.wrap (I : Int) = (I : Int) := by rw [IntKind.wrap_u64]; omega
        have w2' : IntKind.u64.wrap ((I : Int) + 1) = (I : Int) + 1 := by rw [IntKind.wrap_u64]; omega
        have w3' : IntKind.i64.wrap (k : Int) = (k : Int) := by rw [IntKind.wrap_i64]; omega
        have hIn : (I : Int) < (l.length : Int) := by omega
        have hkn : (k : Int) < (l.length : Int) := by omega
        have hIj : (I : Int) - 1 = (j : Int) := by omega
        have HST2 := Lib.hid hst
        have HB2 := Lib.hid hB
        have HEQ := Lib.hid heq
        have HLN := Lib.hid hln
        have HII := Lib.hid hI
        have HIJ := Lib.hid hIj
        have HKL := Lib.hid hkl
        have HIL := Lib.hid hIl
        clear hst hB heq hnx e2 hke hI hk hIj hln hkl hIl
        go_upto_region 6 with (go_at_call 74; refine HB2.out.mono ?_; rintro e w5 ⟨rfl, h5, hg5, hz5⟩; have H5 := Lib.hid h5; have HG5 := Lib.hid hg5; have HZ5 := Lib.hid hz5; clear h5 hg5 hz5)
        have hbg : b ≠ g := by omega
        have ho5 : OwnN w5 w.heap.size (.slice (some ⟨b, 0, none⟩) cur.length c1) cur := HST2.out.own.kept fun k' hk' => HG5.out.block _ (HST2.out.own.lt k' hk').2 (fun e => by have h1 := Option.some.inj e; have h2 := (HST2.out.own.lt k' hk').1; omega)
        obtain ⟨ci, fi⟩ := ho5.cell HIL.out
        obtain ⟨ck, fk⟩ := ho5.cell HKL.out
        have HO5 := Lib.hid ho5
        obtain ⟨xi, hxi⟩ : ∃ x, cur.getD I 0 = x := ⟨_, rfl⟩
        obtain ⟨xk, hxk⟩ : ∃ x, cur.getD k 0 = x := ⟨_, rfl⟩
        rw [hxi] at ci
        rw [hxk] at ck
        have HXI := Lib.hid hxi
        have HXK := Lib.hid hxk
        have mixed : Try.prog.follows .mixedOrders = true := by kernel_rfl
        have ho6 := ho5.set I xk
        have c6 : (w5.setCell ⟨b, I, none⟩ (.int .i64 xk)).cell? ⟨b, k, none⟩ = some (.int .i64 xk) := by
          have h1 := (show OwnN (w5.setCell ⟨b, I, none⟩ (.int .i64 xk)) w.heap.size (.slice (some ⟨b, 0, none⟩) (cur.set I xk).length c1) (cur.set I xk) from by rw [List.length_set]; exact ho6).cell (i := k) (by rw [List.length_set]; exact HKL.out)
          rw [h1.1]
          congr 2
          by_cases e : I = k
          · subst e; simp [List.getD, HIL.out]
          · rw [← hxk]; simp [List.getD, List.getElem?_set, e]
        have f6 : (w5.setCell ⟨b, I, none⟩ (.int .i64 xk)).frozen? ⟨b, k, none⟩ = false := by rw [World.frozen?_setCell]; exact fk
        clear ho5 ho6 hxi hxk
        go_region_o
        generalize hW9 : World.drew _ = W9
        have hst9 : ShufSt w g s l b c1 j (nextN s') (swapL cur I k) W9 := by
          subst hW9
          have q1 := HO5.out.set I xk
          have q2 := (show OwnN (w5.setCell ⟨b, I, none⟩ (.int .i64 xk)) w.heap.size (.slice (some ⟨b, 0, none⟩) (cur.set I xk).length c1) (cur.set I xk) from by rw [List.length_set]; exact q1).set k xi
          have hb5 : ∀ (W : World) (i : Nat) (x : Value) (h : Nat), h ≠ b → (W.setCell ⟨b, i, none⟩ x).heap[h]? = W.heap[h]? := fun W i x h hne => Below.heap_setCell _ _ _ _ hne
          refine ⟨⟨?_, H5.out.2⟩, ?_, by rw [swapL_len]; exact HLN.out, HEQ.out, ?_, by have := HII.out; omega⟩
          · exact (show One ((w5.setCell ⟨b, I, none⟩ (.int .i64 xk)).setCell ⟨b, k, none⟩ (.int .i64 xi)) g _ _ from H5.out.1.of_block ((hb5 _ _ _ _ (fun e => hbg e.symm)).trans (hb5 _ _ _ _ (fun e => hbg e.symm))))
          · unfold swapL
            rw [HXI.out, HXK.out, List.length_set, List.length_set]
            rw [List.length_set] at q2
            exact q2.kept (fun k' hk' => rfl)
          · have h1 : Kept (fun k => k ≠ g) w w5 := HST2.out.kept.grown HG5.out (fun r e => by cases e; exact fun h => h rfl)
            have hwb : ∀ j', j' < w.heap.size → j' ≠ b := fun j' hj e => by omega
            refine ⟨h1.os, h1.tape, h1.output, ?_, fun j' hj hu => ?_⟩
            · show w.heap.size ≤ ((w5.setCell ⟨b, I, none⟩ (.int .i64 xk)).setCell ⟨b, k, none⟩ (.int .i64 xi)).heap.size
              simp only [World.size_setCell]
              exact h1.size
            · exact ((hb5 _ _ _ _ (hwb j' hj)).trans (hb5 _ _ _ _ (hwb j' hj))).trans (h1.block j' hj hu)
        have HST9 := Lib.hid hst9
        clear hW9 hst9 c6 f6 ci fi ck fk
        go_wp2
        try rw [HIJ.out]
        go_roundw
        case rel => exact ⟨j, nextN s', swapL cur I k, by first | rfl | (congr 1), HST9.out⟩
        case measure => have := HII.out; simp [intOf]; omega

end Go.Proofs.Ytnohglkilpnjhaa

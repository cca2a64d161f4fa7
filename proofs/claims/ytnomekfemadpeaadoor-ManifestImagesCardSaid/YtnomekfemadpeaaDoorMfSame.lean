/- The walk of the reference's Same: are two images the same. No condition. -/
import Derived.Test.YtnomekfemadpeaaDoorMfDecImg
namespace Go.Proofs.YtnomekfemadpeaaDoor
open Go.RowKit
set_option linter.unusedVariables false
set_option linter.unusedSimpArgs false
set_option maxRecDepth 100000

theorem run_neq_blob (x y : BlobL) (hx : x.ok) (hy : y.ok) (w : World) : (binOp .neq 27 (BlobV x) (BlobV y)).run Tryd.prog w = .ok (.bool (!decide (x = y))) w := by
  have := run_equalIn_blob 9997 x y hx hy w
  unfold BlobV at this ⊢
  rw [run_neq_struct, this]; rfl
theorem run_guard_nblob (x y : Operand) (a b : BlobL) (w : World) : (eqGuard .neq 27 x y (BlobV a) (BlobV b)).run Tryd.prog w = .ok () w := run_eqGuard_agg (P := Tryd.prog) w .neq 27 x y a.cells.toArray b.cells.toArray guard_blob

def SameIM (l m : List BlobL) (W2 : World) (iv : Value) (W : World) : Prop := ∃ k : Nat, k ≤ l.length ∧ iv = .int .i64 k ∧ l.take k = m.take k ∧ Below W2.heap.size W2 W

set_option maxHeartbeats 3200000 in
theorem SameImg_any (v u : Value) (l m : List BlobL) (w : World) (hl : RBlob.Row w v l) (hm : RBlob.Row w u m) :
    Calls Tryd.prog 34 #[.agg #[v], .agg #[u]] w fun e w' => e = .returned (.bool (decide (l = m))) ∧ Below w.heap.size w w' := by
  obtain ⟨va, vc, hv⟩ := hl.len
  subst hv
  obtain ⟨ua, uc, hv⟩ := hm.len
  subst hv
  have hle := hl.le
  have hme := hm.le
  obtain ⟨W1, hW1⟩ : ∃ W1, w.alloc (.cells #[.slice va l.length vc] 52) = W1 := ⟨_, rfl⟩
  have ho1 : One W1 w.heap.size (.slice va l.length vc) 52 := by rw [← hW1]; exact heap_alloc_new w _
  have hb1 : Below w.heap.size w W1 := by rw [← hW1]; exact (Below.refl _ w).alloc (Nat.le_refl _) _
  obtain ⟨W2, hW2⟩ : ∃ W2, W1.alloc (.cells #[.slice ua m.length uc] 52) = W2 := ⟨_, rfl⟩
  have ho2 : One W2 (w.heap.size + 1) (.slice ua m.length uc) 52 := by
    rw [← hW2, show w.heap.size + 1 = W1.heap.size by rw [← hW1]; simp]
    exact heap_alloc_new W1 _
  have hb2' : Below W1.heap.size W1 W2 := by rw [← hW2]; exact (Below.refl _ W1).alloc (Nat.le_refl _) _
  have hb2 : Below w.heap.size w W2 := below_next hb1 hb2'
  have HO1 := Lib.hid (ho1.of_new hb2')
  have HO2 := Lib.hid ho2
  have HL := Lib.hid (hl.of_new hb2)
  have HM := Lib.hid (hm.of_new hb2)
  have HB2 := Lib.hid hb2
  have HW1 := Lib.hid hW1
  have HW2 := Lib.hid hW2
  have hc1 := HO1.out.cell
  have hc2 := HO2.out.cell
  have hs1 := HO1.out.lt
  have hs2 := HO2.out.lt
  clear hl hm hW1 hW2 ho1 ho2 hb1 hb2 hb2'
  by_cases hlen : l.length = m.length
  · have t1 : ((l.length : Int) != (m.length : Int)) = false := by simp; omega
    have HLM := Lib.hid hlen
    clear hlen
    go_enter Tryd.func34, Tryd.ntmps34
    go_upto_region 1 with (fail)
    rw [HW1.out, HW2.out]
    go_wp2
    go_loopw [5] (SameIM l m W2) (fun iv _ => l.length - (intOf iv).toNat)
    case atStart => exact ⟨0, by omega, rfl, by simp, Below.refl _ _⟩
    case round =>
      obtain ⟨k, hk, rfl, heq, hb⟩ := hrel
      have hc1 := (hb.cell (p := ⟨w.heap.size, 0, none⟩) hs1).trans hc1
      have hc2 := (hb.cell (p := ⟨w.heap.size + 1, 0, none⟩) hs2).trans hc2
      have HQ := Lib.hid heq
      clear heq
      by_cases hlt : k < l.length
      · have t2 : (k : Int) < (l.length : Int) := by omega
        have t3 : (k : Int) < (m.length : Int) := by have := HLM.out; omega
        have hkm : k < m.length := by have := HLM.out; omega
        obtain ⟨b, off, c, hv, hbl, hat⟩ := HL.out.at_ (by omega)
        obtain ⟨rfl, rfl⟩ : va = some ⟨b, off, none⟩ ∧ vc = c := by cases hv; exact ⟨rfl, rfl⟩
        obtain ⟨b2, off2, c2, hv2, hbl2, hat2⟩ := HM.out.at_ (by omega)
        obtain ⟨rfl, rfl⟩ : ua = some ⟨b2, off2, none⟩ ∧ uc = c2 := by cases hv2; exact ⟨rfl, rfl⟩
        obtain ⟨x, hx⟩ : ∃ x, l[k]? = some x := ⟨_, List.getElem?_eq_getElem hlt⟩
        obtain ⟨y, hy⟩ : ∃ y, m[k]? = some y := ⟨_, List.getElem?_eq_getElem hkm⟩
        have h1 := (hat k x hx).of_new hb
        have h2 := (hat2 k y hy).of_new hb
        have hneq : ∀ w : World, (binOp .neq 27 (RBlob.V x) (RBlob.V y)).run Tryd.prog w = .ok (.bool (!decide (x = y))) w := run_neq_blob x y h1.1 h2.1
        have hgd : ∀ (p q : Operand) (w : World), (eqGuard .neq 27 p q (RBlob.V x) (RBlob.V y)).run Tryd.prog w = .ok () w := fun p q w' => run_guard_nblob p q x y w'
        have hts1 : l.take (k + 1) = l.take k ++ [x] := by rw [List.take_add_one, hx]; rfl
        have hts2 : m.take (k + 1) = m.take k ++ [y] := by rw [List.take_add_one, hy]; rfl
        have hne : l = m → x = y := fun e => by rw [e] at hx; rw [hx] at hy; cases hy; rfl
        have H1 := Lib.hid h1
        have H2 := Lib.hid h2
        have HT1 := Lib.hid hts1
        have HT2 := Lib.hid hts2
        have HNE := Lib.hid hne
        have HBB := Lib.hid hb
        have hr1 : ∀ w', Grew wr w' → w'.cell? ⟨w.heap.size, 0, none⟩ = some (.slice (some ⟨b, off, none⟩) l.length vc) := fun w' h => Grew.cell h hc1
        have hr2 : ∀ w', Grew wr w' → w'.cell? ⟨w.heap.size + 1, 0, none⟩ = some (.slice (some ⟨b2, off2, none⟩) m.length uc) := fun w' h => Grew.cell h hc2
        clear hv hv2 hat hat2 hx hy h1 h2 hts1 hts2 hne hb
        go_upto_region 6 with (fail)
        refine wp_region_grew (by kernel_rfl) (by kernel_rfl) ?_
        repeat (first
          | (go_big_quiet_want; (refine RecT.At.quiet (R := RBlob) (x := y) (p := .tmp 28) (fun w' hw' => H2.out.of_new hw') rfl rfl ?_); go_simp; go_big_quiet_on)
          | (go_big_quiet_want; (refine RecT.At.quiet (R := RBlob) (x := x) (p := .tmp 23) (fun w' hw' => H1.out.of_new hw') rfl rfl ?_); go_simp; go_big_quiet_on)
          | (go_big_quiet_want; (with_reducible apply quiet_load_at (ty := 25) (x := .tmp _)); rfl; rfl; assumption; go_simp; go_big_quiet_on)
          | (go_big_quiet_want; apply quiet_val; (intro w' hw'; go_simp; first | done | rfl); go_simp; go_big_quiet_on)
          | (go_big_quiet_skip))
        refine wpQuiet_nil ?_
        intro w5 hw5
        have HB5 := Lib.hid (below_next HBB.out hw5)
        clear hneq hgd hw5 hr1 hr2
        by_cases hd : x = y
        · have t4 : decide (x = y) = true := by simp [hd]
          have HTK := Lib.hid (show l.take (k + 1) = m.take (k + 1) by rw [HT1.out, HT2.out, HQ.out, hd])
          clear hd
          simp only [t4, Bool.not_true]
          go_wp2
          exact ⟨⟨k + 1, by omega, by go_num, HTK.out, HB5.out⟩, by simp [intOf]; omega⟩
        · have t4 : decide (x = y) = false := by simp [hd]
          have HN := Lib.hid (show l ≠ m from fun e => hd (HNE.out e))
          have HB6 := Lib.hid (below_next HB2.out HB5.out)
          clear hd
          simp only [t4, Bool.not_false]
          go_wp2
          go_ret
          exact ⟨ret_bool5 (by simp; exact HN.out), HB6.out⟩
      · obtain rfl : k = l.length := by omega
        have t2 : ¬ (l.length : Int) < (l.length : Int) := by omega
        have he : l = m := by
          have := HQ.out
          rwa [List.take_of_length_le (Nat.le_refl _), List.take_of_length_le (by have := HLM.out; omega)] at this
        have HE := Lib.hid he
        have HBB := Lib.hid (below_next HB2.out hb)
        clear he hb
        go_wp2
        go_ret
        exact ⟨ret_bool5 (by simp; exact HE.out), HBB.out⟩
  · have t1 : ((l.length : Int) != (m.length : Int)) = true := by simp; omega
    have HN := Lib.hid (show l ≠ m from fun e => hlen (by rw [e]))
    clear hlen
    go_enter Tryd.func34, Tryd.ntmps34
    go_upto_region 1 with (fail)
    rw [HW1.out, HW2.out]
    go_wp2
    go_ret
    exact ⟨ret_bool5 (by simp; exact HN.out), HB2.out⟩

end Go.Proofs.YtnomekfemadpeaaDoor

/- The walk of what compares two blobs: by their last moments. Condition: the table as it lies. -/
import Derived.Test.YtjmjaailmlnkjaaDoorTrPeers
import Derived.Test.YtjmjaailmlnkjaaDoorTrIterD
import Derived.Test.YtjmjaailmlnkjaaDoorTrCollD
namespace Go.Proofs.YtjmjaailmlnkjaaDoor
open Go.RowKit
set_option linter.unusedVariables false
set_option linter.unusedSimpArgs false
set_option maxRecDepth 100000

def tabC (T : TabL) (a b : List UInt8) : Int := orL [cmpI (lastP (peersT a T)) (lastP (peersT b T)), cmpL b a]
theorem tabC_goes (T : TabL) {a b : List UInt8} (ha : a.length = 32) (hb : b.length = 32) : decide (tabC T a b < 0) = goesD T a b := by
  unfold tabC
  rw [orL_two, cmpL_sign b a (by omega)]
  show _ = goesV (lastP (peersT a T)) (lastP (peersT b T)) (natL a) (natL b)
  generalize lastP (peersT a T) = x
  generalize lastP (peersT b T) = y
  generalize natL a = m
  generalize natL b = n
  unfold cmpI goesV
  by_cases h1 : x < y
  · simp [h1]
  · by_cases h2 : y < x
    · have h3 : ¬ x = y := by omega
      simp [h1, h2, h3]
    · have h3 : x = y := by omega
      by_cases h4 : n < m
      · simp [h3, h4]
      · by_cases h5 : m < n <;> simp [h3, h4, h5]

/-- What the closure needs of memory: the box in which the table's pointer lies, and the table. -/
structure TabB (w : World) (bt t mb : Nat) (most each : Int) (E : EntL) : Prop where
  box : One w bt (.pointer (some ⟨t, 0, none⟩)) 24
  tab : TabP w t most each mb E
theorem TabB.of_new {w w' : World} {bt t mb : Nat} {most each : Int} {E : EntL} (h : TabB w bt t mb most each E) (hb : Below w.heap.size w w') : TabB w' bt t mb most each E := ⟨h.box.of_new hb, h.tab.of_new hb⟩

set_option maxHeartbeats 3200000 in
theorem TabCmp_any (bt t mb : Nat) (most each : Int) (E : EntL) (a b : List UInt8) (w : World) (hT : TabB w bt t mb most each E) (hd : ∀ x ∈ E, x.1.length = 32) (ha : a.length = 32) (hb : b.length = 32) :
    Calls Tryd.prog 27 #[RDig.V a, RDig.V b, .pointer (some ⟨bt, 0, none⟩)] w fun e w' => e = .returned (.int .i64 (tabC (tabOf E) a b)) ∧ Below w.heap.size w w' := by
  unfold tabC
  rw [show RDig.V a = .agg (a.map B8).toArray from rfl, show RDig.V b = .agg (b.map B8).toArray from rfl]
  obtain ⟨W, hW⟩ : ∃ W, (w.alloc (.cells (a.map B8).toArray 29)).alloc (.cells (b.map B8).toArray 29) = W := ⟨_, rfl⟩
  obtain ⟨h0, h1, hbW⟩ : DigAt W w.heap.size 0 a ∧ DigAt W (w.heap.size + 1) 0 b ∧ Below w.heap.size w W := by
    subst hW
    obtain ⟨q1, q2, q3, _⟩ := octs_pair w 29 a b _ _ rfl rfl
    exact ⟨q1.digAt ha, q2.digAt hb, q3⟩
  have hTW := hT.of_new hbW
  obtain ⟨m1, hl1, hm1, hs1⟩ := hTW.tab.inner hd ha
  obtain ⟨m2, hl2, hm2, hs2⟩ := hTW.tab.inner hd hb
  obtain ⟨p1, hp1⟩ : ∃ p1, peersT a (tabOf E) = p1 := ⟨_, rfl⟩
  obtain ⟨p2, hp2⟩ : ∃ p2, peersT b (tabOf E) = p2 := ⟨_, rfl⟩
  rw [hp1] at hm1 ⊢
  rw [hp2] at hm2 ⊢
  have hcb := fun w' (h : Grew W w') => Grew.cell h hTW.box.cell
  have hc2 := fun w' (h : Grew W w') => Grew.cell h hTW.tab.cell2
  have hk1 : ∀ w', Grew W w' → (Instr.lookup 37 (.map (some mb)) (.agg (a.map B8).toArray) false).run Tryd.prog w' = .ok m1 w' := hl1
  have hk2 : ∀ w', Grew W w' → (Instr.lookup 37 (.map (some mb)) (.agg (b.map B8).toArray) false).run Tryd.prog w' = .ok m2 w' := hl2
  have HW := Lib.hid hW
  have HB := Lib.hid hbW
  have HM1 := Lib.hid hm1
  have HM2 := Lib.hid hm2
  have HAa := Lib.hid ha
  have HBb := Lib.hid hb
  clear hT hTW hl1 hl2 hm1 hm2 hs1 hs2 hp1 hp2 hW hbW ha hb hd
  go_enter Tryd.func27, Tryd.ntmps27
  go_upto_region 1 with (fail)
  rw [HW.out]
  refine wp_region_grew_tail 18 (by kernel_rfl) (by kernel_rfl) ?_
  simp only [List.take_succ_cons, List.take_zero, List.drop_succ_cons, List.drop_zero]
  repeat (first
    | (go_big_quiet_want; (with_reducible apply quiet_load_at (ty := 29) (x := .tmp _)); rfl; rfl; assumption; go_simp; go_big_quiet_on)
    | (go_big_quiet_want; apply quiet_val; (intro w' hw'; go_simp; first | done | rfl); go_simp; go_big_quiet_on)
    | (go_big_quiet_want; apply quiet_call (f := 28); (intro w' hw'; go_simp; first | done | rfl); (intro w' hw'; exact Grew.call hw' (PLast_any _ _ w' (by first | exact HM1.out.of_new hw' | exact HM2.out.of_new hw'))); go_simp; go_big_quiet_on)
    | (go_big_quiet_want; apply quiet_call (f := 23); (intro w' hw'; go_simp; first | done | rfl); (intro w' hw'; exact Grew.call hw' (below_eq (CmpI_any _ _ w'))); go_simp; go_big_quiet_on)
    | (go_big_quiet_want; apply quiet_call (f := 29); (intro w' hw'; go_simp; first | done | rfl); (intro w' hw'; exact Grew.call hw' (Compare_any b a w' HBb.out HAa.out)); go_simp; go_big_quiet_on)
    | (go_big_quiet_skip))
  refine wpQuiet_nil ?_
  intro w9 hw9
  have HB9 := Lib.hid (below_next HB.out hw9)
  clear hcb hc2 hk1 hk2 h0 h1 hw9
  go_wp2_with (first | (go_at_call 22; refine (Or_any _ [cmpI (lastP p1) (lastP p2), cmpL b a] _ (two_ints w9 _ _ _)).mono ?_; rintro e w' ⟨rfl, rfl⟩))
  go_ret
  exact ⟨rfl, HB9.out.alloc (by have := HB9.out.size; omega) _⟩

end Go.Proofs.YtjmjaailmlnkjaaDoor

/- The walk of tracker.Peers, through slices.SortedFunc. Condition: the table as it lies. -/
import Derived.Test.YtjmjaailmlnkjaaDoorTrSort
import Derived.Test.YtjmjaailmlnkjaaDoorTrFirst
namespace Go.Proofs.YtjmjaailmlnkjaaDoor
open Go.RowKit
set_option linter.unusedVariables false
set_option linter.unusedSimpArgs false
set_option maxRecDepth 100000

set_option maxHeartbeats 800000 in
theorem SortedP_any (m : Value) (ps : List PeerL) (w W : World) (hm : MapV KInt w m (ps.map inE)) (hr : Rising PeerL.id ps) (hl : ps.length ≤ 1000000) (hW : W = w.alloc (.cells #[m] 47)) :
    Calls Tryd.prog 30 #[.func (.func 35) #[] #[.pointer (some ⟨w.heap.size, 0, none⟩)], .func (.func 31) #[] #[]] W
      fun e w' => ∃ v, e = .returned v ∧ RPeer.Own w' W.heap.size v ps ∧ Below w.heap.size w w' := by
  have hC := collectPeers m ps w W hm hl hW
  have hS : W.heap.size = w.heap.size + 1 := by rw [hW]; simp
  have HC := Lib.hid hC
  have HR := Lib.hid hr
  have HS := Lib.hid hS
  clear hC hr hm hW hS
  go_enter Tryd.func30, Tryd.ntmps30
  go_upto_region 2 with (go_at_call 18; refine HC.out.mono ?_; rintro e w2 ⟨v2, qs, rfl, hp2, ho2, hb2⟩; have HP2 := Lib.hid hp2; have HO2 := Lib.hid ho2; have HB2 := Lib.hid hb2; clear hp2 ho2 hb2)
  obtain ⟨a2, c2, hv⟩ := HO2.out.row.len
  subst hv
  have hlt := HO2.out.lt
  have HS2 := Lib.hid (SortP_any _ qs w2 _ HO2.out (by rw [HP2.out.length_eq]; exact hl))
  have HLT := Lib.hid hlt
  clear hlt
  go_wp2_with (go_at_call 40; refine HS2.out.mono ?_; rintro e w3 ⟨rfl, l', hp3, hs3, ho3, hg3⟩; have hB3 := HB2.out.grown hg3 (by have := HB2.out.size; omega) (fun k e => by have := (HLT.out k e).1; have := HS.out; omega); have he3 := rise_sorted HR.out (hp3.trans HP2.out) hs3; have HO3 := Lib.hid ho3; have HB3 := Lib.hid hB3; have HE3 := Lib.hid he3; clear ho3 hB3 he3 hp3 hs3 hg3)
  go_ret
  exact ⟨_, rfl, by have := HO3.out; rwa [HE3.out] at this, HB3.out⟩

/-- The map of a blob's peers (nil, where the blob is not there). -/
theorem TabP.inner {w : World} {t mb : Nat} {most each : Int} {E : EntL} (h : TabP w t most each mb E) (hd : ∀ x ∈ E, x.1.length = 32) {d : List UInt8} (h32 : d.length = 32) :
    ∃ m, (∀ w', Below w.heap.size w w' → (Instr.lookup 37 (.map (some mb)) (.agg (d.map B8).toArray) false).run Tryd.prog w' = .ok m w') ∧ MapV KInt w m ((peersT d (tabOf E)).map inE) ∧ ((getK kD (natL d) E = none ∧ m = .map none) ∨ ∃ x, getK kD (natL d) E = some x ∧ m = .map (some x.2.1)) := by
  refine ⟨(getL (E.map outE) d).getD (.map none), fun w' hb => ?_, ?_, ?_⟩
  · exact (h.map.of_new hb).look (t := 37) Tryd.underlying37 (zero_peers w') (KT := KDig) h32
  · rw [getL_out hd h32]
    unfold peersT
    rw [← tabOf_get]
    cases e : getK kD (natL d) E with
    | none => exact .inr ⟨rfl, rfl⟩
    | some x => exact .inl ⟨x.2.1, rfl, h.ins x (List.mem_of_find?_eq_some e)⟩
  · rw [getL_out hd h32]
    cases e : getK kD (natL d) E with
    | none => exact .inl ⟨rfl, rfl⟩
    | some x => exact .inr ⟨x, rfl, rfl⟩

set_option maxHeartbeats 1600000 in
theorem Peers_any (t mb : Nat) (most each : Int) (E : EntL) (d : List UInt8) (w : World) (hT : TabP w t most each mb E) (hE : EntOk most each E) (he : 1 ≤ each ∧ each ≤ 64) (h32 : d.length = 32) :
    Calls Tryd.prog 13 #[.pointer (some ⟨t, 0, none⟩), .agg (d.map B8).toArray] w fun e w' => ∃ v, e = .returned v ∧ RPeer.Own w' w.heap.size v (peersT d (tabOf E)) ∧ Below w.heap.size w w' := by
  obtain ⟨W, hW⟩ : ∃ W, w.alloc (.cells (d.map B8).toArray 29) = W := ⟨_, rfl⟩
  have ho : DigO W w.heap.size d := by rw [← hW]; exact digO_new w h32
  have hb : Below w.heap.size w W := by rw [← hW]; exact (Below.refl _ w).alloc (Nat.le_refl _) _
  have hTW := hT.of_new hb
  obtain ⟨m, hlk, hmv, hsh⟩ := hTW.inner (fun x hx => hE.dig _ (tabOf_mem hx)) h32
  obtain ⟨hps, hpl⟩ := peersT_ok hE he.1 d
  obtain ⟨ps, hps2⟩ : ∃ ps, peersT d (tabOf E) = ps := ⟨_, rfl⟩
  rw [hps2] at hmv hps hpl ⊢
  have hc2 := fun w' (h : Grew W w') => Grew.cell h hTW.cell2
  have hdg : DigAt W w.heap.size 0 d := ho.at_
  have HW := Lib.hid hW
  have HB := Lib.hid hb
  have HMV := Lib.hid hmv
  have HPS := Lib.hid hps
  have hlk2 : ∀ w', Grew W w' → (Instr.lookup 37 (.map (some mb)) (.agg (d.map B8).toArray) false).run Tryd.prog w' = .ok m w' := hlk
  have hm2 : (∃ b, m = .map (some b)) ∨ m = .map none := hsh.elim (fun h => .inr h.2) (fun ⟨x, h⟩ => .inl ⟨_, h.2⟩)
  have HM2 := Lib.hid hm2
  clear hT hE hW hb hTW hlk hmv hsh hps hps2 ho hm2
  go_enter Tryd.func13, Tryd.ntmps13
  go_upto_region 1 with (fail)
  rw [HW.out]
  refine wp_region_grew_tail 6 (by kernel_rfl) (by kernel_rfl) ?_
  simp only [List.take_succ_cons, List.take_zero, List.drop_succ_cons, List.drop_zero]
  repeat (first
    | (go_big_quiet_want; (with_reducible apply quiet_load_at (ty := 29) (x := .tmp _)); rfl; rfl; assumption; go_simp; go_big_quiet_on)
    | (go_big_quiet_want; apply quiet_val; (intro w' hw'; go_simp; first | done | rfl); go_simp; go_big_quiet_on)
    | (go_big_quiet_skip))
  refine wpQuiet_nil ?_
  intro w5 hw5
  have HB5 := Lib.hid (below_next HB.out hw5)
  obtain ⟨W6, hW6⟩ : ∃ W6, w5.alloc (.cells #[m] 47) = W6 := ⟨_, rfl⟩
  have hV := Values_any m w5 HM2.out
  rw [hW6] at hV
  have hS := SortedP_any m ps w5 W6 (HMV.out.of_new hw5) HPS.out.rise (by omega) hW6.symm
  have HV := Lib.hid hV
  have HS := Lib.hid hS
  have HS6 := Lib.hid (show w.heap.size ≤ W6.heap.size by have := HB5.out.size; rw [← hW6]; simp; omega)
  clear hV hS hW6 hw5 hlk2 hc2 hdg
  go_wp2_with (first
    | (go_at_call 19; refine HV.out.mono ?_; rintro e w6 ⟨rfl, rfl⟩)
    | (go_at_call 30; refine HS.out.mono ?_; rintro e w7 ⟨v7, rfl, ho7, hb7⟩; have HO7 := Lib.hid ho7; have HB7 := Lib.hid (below_next HB5.out hb7); clear ho7 hb7))
  go_ret
  exact ⟨_, rfl, HO7.out.mono HS6.out, HB7.out⟩

end Go.Proofs.YtjmjaailmlnkjaaDoor

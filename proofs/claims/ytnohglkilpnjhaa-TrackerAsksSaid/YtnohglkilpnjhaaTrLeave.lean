/- The walk of tracker.Leave. Condition: the table as it lies. -/
import Derived.Test.YtnohglkilpnjhaaTrAnn
namespace Go.Proofs.Ytnohglkilpnjhaa
open Go.RowKit
set_option linter.unusedVariables false
set_option linter.unusedSimpArgs false
set_option maxRecDepth 100000

def LeavePost (w : World) (t mb : Nat) (most each : Int) (E : EntL) (d : List UInt8) (id : Int) (e : Ending) (w' : World) : Prop :=
  ∃ E', tabOf E' = (leaveT (tabOf E) d id).1 ∧ e = .returned (.int .i64 (leaveT (tabOf E) d id).2) ∧ TabP w' t most each mb E' ∧ TabStep mb E E' w w' ∧ ∀ k, ownE mb E' k → ownE mb E k

set_option maxHeartbeats 6400000 in
theorem Leave_any (t mb : Nat) (most each : Int) (E : EntL) (d : List UInt8) (id : Int) (w : World) (hT : TabP w t most each mb E) (hE : EntOk most each E) (hm : 1 ≤ most ∧ most ≤ 1000) (he : 1 ≤ each ∧ each ≤ 64) (h32 : d.length = 32)
    (hi : -9223372036854775808 ≤ id ∧ id ≤ 9223372036854775807) :
    Calls Try.prog 13 #[.pointer (some ⟨t, 0, none⟩), .agg (d.map B8).toArray, .int .i64 id] w (LeavePost w t mb most each E d id) := by
  have hdig : ∀ x ∈ E, x.1.length = 32 := fun x hx => hE.dig _ (tabOf_mem hx)
  have hrise : Rising kD E := entL_rise hE.rise
  have hElen : E.length ≤ 1000 := by have := hE.few; unfold tabOf at this; rw [List.length_map] at this; omega
  obtain ⟨W, hW⟩ : ∃ W, w.alloc (.cells (d.map B8).toArray 30) = W := ⟨_, rfl⟩
  have ho : DigO W w.heap.size d := by rw [← hW]; exact digO_new w h32
  have hb : Below w.heap.size w W := by rw [← hW]; exact (Below.refl _ w).alloc (Nat.le_refl _) _
  have hTW := hT.of_new hb
  obtain ⟨m, hlk, hmv, hsh⟩ := hTW.inner hdig h32
  obtain ⟨hps, hpl⟩ := peersT_ok hE he.1 d
  obtain ⟨ps, hps2⟩ : ∃ ps, peersT d (tabOf E) = ps := ⟨_, rfl⟩
  have hms : (m = .map none ∧ ps = []) ∨ ∃ b, m = .map (some b) ∧ (d, (b, ps)) ∈ E := by
    rcases hsh with ⟨h1, h2⟩ | ⟨x, h1, h2⟩
    · refine .inl ⟨h2, ?_⟩
      rw [← hps2]; unfold peersT; rw [← tabOf_get, h1]; rfl
    · obtain ⟨h3, h4⟩ := (getK_some hrise).1 h1
      have hx1 : x.1 = d := natL_inj _ _ (by rw [hdig x h3, h32]) (by unfold kD at h4; omega)
      refine .inr ⟨x.2.1, h2, ?_⟩
      have : ps = x.2.2 := by rw [← hps2]; unfold peersT; rw [← tabOf_get, h1]; rfl
      rw [this, ← hx1]; exact h3
  rw [hps2] at hmv hps hpl
  have hlt : leaveT (tabOf E) d id = if (getK PeerL.id id ps).isSome then (backT d (delK PeerL.id id ps) (tabOf E), 0) else (tabOf E, 4) := by unfold leaveT; rw [hps2]
  have hc2 := fun w' (h : Grew W w') => Grew.cell h hTW.cell2
  have hdg : DigAt W w.heap.size 0 d := ho.at_
  have hlk2 : ∀ w', Grew W w' → (Instr.lookup 64 (.map (some mb)) (.agg (d.map B8).toArray) false).run Try.prog w' = .ok m w' := hlk
  have HW := Lib.hid hW
  have HB := Lib.hid hb
  have HT := Lib.hid hTW
  have HPS := Lib.hid hps
  have HO := Lib.hid ho
  have HDG := Lib.hid hdig
  have HRS := Lib.hid hrise
  have H32 := Lib.hid h32
  have HMV := Lib.hid hmv
  have HMS := Lib.hid hms
  have HLT := Lib.hid hlt
  clear hT hE hW hb hTW hps hpl ho hdig hrise hElen h32 hps2 hmv hms hsh hlk hlt
  go_enter Try.func13, Try.ntmps13
  go_upto_region 1 with (fail)
  rw [HW.out]
  refine wp_region_grew (by kernel_rfl) (by kernel_rfl) ?_
  repeat (first
    | (go_big_quiet_want; (with_reducible apply quiet_load_at (ty := 30) (x := .tmp _)); rfl; rfl; assumption; go_simp; go_big_quiet_on)
    | (go_big_quiet_want; apply quiet_val; (intro w' hw'; go_simp; first | done | rfl); go_simp; go_big_quiet_on)
    | (go_big_quiet_skip))
  refine wpQuiet_nil ?_
  intro w3 hw3
  have HT3 := Lib.hid (HT.out.of_new hw3)
  have HO3 := Lib.hid (HO.out.of_new hw3)
  have HB3 := Lib.hid (below_next HB.out hw3)
  have hlk3 := (HMV.out.of_new hw3).look_ok (t := 68) Try.underlying68 (zero_peer w3) (KT := KInt) (x := id) hi
  rw [hasKey_get, getL_in] at hlk3
  rw [Option.isSome_map] at hlk3
  obtain ⟨o, ho⟩ : ∃ o, oldP id ps = o := ⟨_, rfl⟩
  rw [show ((getK PeerL.id id ps).map RPeer.V).getD (RPeer.V PeerL.zero) = RPeer.V (oldP id ps) by unfold oldP; cases getK PeerL.id id ps <;> rfl, ho] at hlk3
  obtain ⟨is, his⟩ : ∃ is, (getK PeerL.id id ps).isSome = is := ⟨_, rfl⟩
  rw [his] at hlk3
  replace hlk3 : (Instr.lookup 68 m (.int .i64 id) true).run Try.prog w3 = .ok (.tuple #[RPeer.V o, .bool is]) w3 := hlk3
  have HIS := Lib.hid his
  clear hlk2 hc2 hdg hw3 ho his
  cases is with
  | false =>
    go_wp2_with (first
      | ((with_reducible refine wpList_plain (o := ⟨some 8, Op.alloc _, _, _, _, _⟩) rfl fun K hK => ?_); (refine RPeer.wp_alloc rfl fun w7 ho7 hb7 hs7 => hK _ _ ?_); have HO7 := Lib.hid ho7; have HB7 := Lib.hid hb7; clear ho7 hb7 hs7)
      | ((with_reducible refine wpList_plain (o := ⟨none, Op.store _ (.tmp 8) (.tmp 20), _, _, _, _⟩) rfl fun K hK => ?_); (refine HO7.out.store (.tmp 8) (.tmp 20) rfl rfl rfl (RPeer_ok o) fun w8 ho8 hg8 hs8 => hK _ _ ?_); have HB8 := Lib.hid (HB7.out.grown hg8 (by have := HB7.out.size; omega) (fun k e => by cases e; exact Nat.le_refl _)); clear ho8 hg8 hs8))
    go_ret
    exact ⟨E, by rw [HLT.out, HIS.out]; rfl, by rw [HLT.out, HIS.out]; rfl, HT3.out.of_new HB8.out, (TabStep.refl mb E w).new (below_next HB3.out HB8.out), fun k hk => hk⟩
  | true =>
    rcases HMS.out with ⟨_, h0⟩ | ⟨b, hmb, hmem⟩
    · exact absurd HIS.out (by rw [h0]; simp [getK])
    · subst hmb
      have HMEM := Lib.hid hmem
      clear hmem
      go_upto_region 5 with (first
        | ((with_reducible refine wpList_plain (o := ⟨some 8, Op.alloc _, _, _, _, _⟩) rfl fun K hK => ?_); (refine RPeer.wp_alloc rfl fun w7 ho7 hb7 hs7 => hK _ _ ?_); have HO7 := Lib.hid ho7; have HB7 := Lib.hid hb7; clear ho7 hb7 hs7)
        | ((with_reducible refine wpList_plain (o := ⟨none, Op.store _ (.tmp 8) (.tmp 20), _, _, _, _⟩) rfl fun K hK => ?_); (refine HO7.out.store (.tmp 8) (.tmp 20) rfl rfl rfl (RPeer_ok o) fun w8 ho8 hg8 hs8 => hK _ _ ?_); have HB8 := Lib.hid (HB7.out.grown hg8 (by have := HB7.out.size; omega) (fun k e => by cases e; exact Nat.le_refl _)); clear ho8 hg8 hs8))
      have hT8 := HT3.out.of_new HB8.out
      have hin8 : MapL KInt w8 b (ps.map inE) := hT8.ins _ HMEM.out
      obtain ⟨w9, hdel, hm9, hg9, hs9⟩ := hin8.del (t := 68) Try.underlying68 (KT := KInt) (x := id) hi 0
      replace hdel : (Builtin.delete_ #[68, 3] 0 #[.map (some b), .int .i64 id]).run Try.prog w8 = .ok (.tuple #[]) w9 := hdel
      rw [delL_in] at hm9
      obtain ⟨r, hr⟩ : ∃ r, delK PeerL.id id ps = r := ⟨_, rfl⟩
      rw [hr] at hm9
      have hT9 : TabP w9 t most each mb (insK kD (d, (b, r)) E) := hT8.set HRS.out HMEM.out hm9 hg9
      have hS9 : TabStep mb E (insK kD (d, (b, r)) E) w w9 := ((TabStep.refl mb E w).new (below_next HB3.out HB8.out)).grown hg9 (.inr ⟨_, HMEM.out, rfl⟩) (fun k hk => own_set HRS.out HMEM.out hk)
      have hO9 : DigO w9 w.heap.size d := (HO3.out.of_new HB8.out).of_block (hg9.block _ (HO3.out.of_new HB8.out).lt (fun e => by
        have h1 : b = w.heap.size := by cases e; rfl
        obtain ⟨es, ⟨a, c, h4, _⟩, _⟩ := hin8
        rw [h1, (HO3.out.of_new HB8.out).1] at h4; cases h4))
      have hlen := hm9.len (t := 68) Try.underlying68 3
      rw [List.length_map] at hlen
      have HT9 := Lib.hid hT9
      have HS9 := Lib.hid hS9
      have HO9 := Lib.hid hO9
      have HR := Lib.hid hr
      clear hT8 hin8 hm9 hg9 hs9 hT9 hS9 hO9 hr
      by_cases h0 : r = []
      · have hz : ((r.length : Int) == 0) = true := by rw [h0]; rfl
        go_upto_region 7 with (fail)
        have hdg : DigAt w9 w.heap.size 0 d := HO9.out.at_
        have hc2 := fun w' (h : Grew w9 w') => Grew.cell h HT9.out.cell2
        refine wp_region_grew_tail 5 (by kernel_rfl) (by kernel_rfl) ?_
        simp only [List.take_succ_cons, List.take_zero, List.drop_succ_cons, List.drop_zero]
        repeat (first
          | (go_big_quiet_want; (with_reducible apply quiet_load_at (ty := 30) (x := .tmp _)); rfl; rfl; assumption; go_simp; go_big_quiet_on)
          | (go_big_quiet_want; apply quiet_val; (intro w' hw'; go_simp; first | done | rfl); go_simp; go_big_quiet_on)
          | (go_big_quiet_skip))
        refine wpQuiet_nil ?_
        intro w10 hw10
        have hT10 := HT9.out.of_new hw10
        have hd10 : ∀ x ∈ insK kD (d, (b, r)) E, x.1.length = 32 := fun x hx => by
          rcases (mem_insK HRS.out).1 hx with rfl | ⟨h1, _⟩
          · exact H32.out
          · exact HDG.out x h1
        obtain ⟨w11, hdel2, hm11, hg11, hs11⟩ := hT10.map.del (t := 64) Try.underlying64 (KT := KDig) (x := d) H32.out 0
        replace hdel2 : (Builtin.delete_ #[64, 30] 0 #[.map (some mb), .agg (d.map B8).toArray]).run Try.prog w10 = .ok (.tuple #[]) w11 := hdel2
        have hT11 := hT10.cut hd10 H32.out hm11 hg11
        have hS11 : TabStep mb E (delK kD (natL d) (insK kD (d, (b, r)) E)) w w11 := (HS9.out.new hw10).grown hg11 (.inl rfl) (fun k hk => own_cut hk)
        have hfin : tabOf (delK kD (natL d) (insK kD (d, (b, r)) E)) = (leaveT (tabOf E) d id).1 := by
          rw [HLT.out, HIS.out, HR.out, if_pos rfl]
          unfold backT
          rw [if_pos h0, tabOf_del, tabOf_ins]
          exact delK_ins (f := kD) (x := (d, r)) (Rising.map (f := kD) (fun _ => rfl) HRS.out)
        have HT11 := Lib.hid hT11
        have HS11 := Lib.hid hS11
        have HFN := Lib.hid hfin
        clear hT10 hd10 hm11 hg11 hs11 hT11 hS11 hw10 hdg hc2 hfin
        go_wp2
        go_ret
        exact ⟨_, HFN.out, by rw [HLT.out, HIS.out]; rfl, HT11.out, HS11.out, fun k hk => own_set HRS.out HMEM.out (own_cut hk)⟩
      · have hz : ((r.length : Int) == 0) = false := by
          rw [beq_eq_false_iff_ne]
          intro e
          exact h0 (List.length_eq_zero_iff.1 (by omega))
        have hfin : tabOf (insK kD (d, (b, r)) E) = (leaveT (tabOf E) d id).1 := by
          rw [HLT.out, HIS.out, HR.out, if_pos rfl]
          unfold backT
          rw [if_neg h0, tabOf_ins]
        have HFN := Lib.hid hfin
        clear hfin
        go_wp2
        go_ret
        exact ⟨_, HFN.out, by rw [HLT.out, HIS.out]; rfl, HT9.out, HS9.out, fun k hk => own_set HRS.out HMEM.out hk⟩

end Go.Proofs.Ytnohglkilpnjhaa

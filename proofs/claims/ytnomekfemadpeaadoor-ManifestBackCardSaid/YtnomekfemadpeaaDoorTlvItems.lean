/- The walks of tlv.items: the maker, and the iterator over a record's items. Conditions: no more than 65536 bytes, which lie below what the call made. -/
import Derived.Test.YtnomekfemadpeaaDoorTlvDecSpec
import Derived.Test.YtnomekfemadpeaaDoorItRow
import Derived.Test.YtnomekfemadpeaaDoorTlvCut
import Derived.Test.YtnomekfemadpeaaDoorClone
import Derived.Test.YtnomekfemadpeaaDoorGa
import Derived.Test.YtnomekfemadpeaaDoorRegionEarly
import Derived.LoopNIn
import Derived.LoopIn
import Derived.Shelf.Abstract
import Derived.Shelf.RegionOpen
namespace Go.Proofs.YtnomekfemadpeaaDoor
open Go.RowKit Go.Shelf
attribute [local go_sem] Oper.semAt_some
set_option linter.unusedVariables false
set_option linter.unusedSimpArgs false

theorem items_any (a : Option Addr) (n c : Nat) (w : World) :
    Calls Tryd.prog 77 #[.slice a n c] w fun e w' => e = .returned (.func (.func 93) #[] #[.pointer (some ⟨w.heap.size, 0, none⟩)]) ∧ w' = w.alloc (.cells #[.slice a n c] 22) := by
  go_enter Tryd.func77, Tryd.ntmps77
  go_wp2
  go_ret
  exact ⟨rfl, rfl⟩

/-- An item, and the slice in which its bytes lie. -/
abbrev encI (x : ItV) : Array Value := #[.agg #[.int .i64 x.1.1, x.2]]

theorem oneI_drop {b : List UInt8} (h : 0 < b.length) : oneI b = match cutL 0 0 (b.drop 1) with
    | none => none
    | some (n, m) => if ((b.drop 1).drop m).length < n then none else some ((((b.getD 0 0).toNat : Int), ((b.drop 1).drop m).take n), ((b.drop 1).drop m).drop n) := by
  cases b with
  | nil => simp at h
  | cons y t => rfl
theorem Bytes.back {w w2 : World} {v : Value} {l : List UInt8} (h : Bytes w2 v l) (hb : Below w.heap.size w w2) (hk : ∀ k, v.ownBlock = some k → k < w.heap.size) : Bytes w v l := by
  obtain ⟨h1, a, c, rfl, h2, h3, h4, h5⟩ := h
  refine ⟨h1, a, c, rfl, h2, h3, h4, fun hne => ?_⟩
  obtain ⟨b, off, rfl, hb2, hc⟩ := h5 hne
  have hlt := hk b rfl
  exact ⟨b, off, rfl, hlt, fun j hj => by rw [← hc j hj]; exact (hb.cell (p := ⟨b, off + j, none⟩) hlt).symm⟩
theorem Bytes.blk {w : World} {v : Value} {l : List UInt8} (h : Bytes w v l) (h0 : 0 < l.length) : ∀ k, v.ownBlock = some k → k < w.heap.size := fun k e => by
  obtain ⟨b, off, c, rfl, hb, _⟩ := h.cell h0
  cases e
  exact hb

theorem cut_bad (v : Value) (l : List UInt8) (w : World) (hl : Bytes w v l) (h : cutL 0 0 l = none) :
    Calls Tryd.prog 94 #[v] w fun e w' => ∃ (x : Int) (r : Value), e = .returned (.tuple #[.int .u64 x, r, .bool false]) ∧ Below w.heap.size w w' :=
  (cut_any v l w hl).mono fun e w' ⟨x, r, ok, he, hb, hok, _⟩ => ⟨x, r, by rw [he, hok, h]; rfl, hb⟩
theorem cut_good (v : Value) (l d : List UInt8) (w : World) (hl : Bytes w v l) {n m : Nat} (h : cutL 0 0 l = some (n, m)) (hd : l.drop m = d) :
    Calls Tryd.prog 94 #[v] w fun e w' => ∃ (ra : Option Addr) (rc : Nat), e = .returned (.tuple #[.int .u64 (n : Int), .slice ra d.length rc, .bool true]) ∧ Bytes w' (.slice ra d.length rc) d ∧ (Value.slice ra d.length rc).ownBlock = v.ownBlock ∧ Below w.heap.size w w' :=
  (cut_any v l w hl).mono fun e w' ⟨x, r, ok, he, hb, hok, hs⟩ => by
    obtain ⟨h1, h2, h3⟩ := hs n m h
    rw [hd] at h2
    obtain ⟨ra, rc, rfl⟩ := h2.len
    exact ⟨ra, rc, by rw [he, hok, h, h1]; rfl, h2, h3, hb⟩

/-- What holds ahead of each round of the iterator. -/
def ItemsI (w0 W : World) (n0 bb : Nat) (b : List UInt8) (J : List ItV → World → Prop) (wr : World) : Prop :=
  ∃ (pre : List ItV) (rest : List UInt8) (rv : Value), One wr bb rv 22 ∧ Bytes w0 rv rest ∧ rest.length ≤ 65536 ∧ itemsL b = pre.map (·.1) ++ itemsL rest ∧ Below n0 w0 wr ∧ J pre wr ∧ W.heap.size ≤ wr.heap.size

set_option maxRecDepth 100000 in
set_option maxHeartbeats 3200000 in
theorem items_seq (n : Nat) (hn : 1 ≤ n) (bb n0 : Nat) (v : Value) (b : List UInt8) (hlen : b.length ≤ 65536) (W w0 : World) (hw0 : w0.heap.size = n0) (hb0 : Below n0 w0 W) (hbb : n0 ≤ bb) (hc : One W bb v 22) (hl : Bytes w0 v b) :
    SeqC Fence.wide n Tryd.prog 93 #[.pointer (some ⟨bb, 0, none⟩)] encI (fun pre x W' => (pre ++ [x]).map (·.1) <+: itemsL b ∧ Own8 W' W.heap.size 5 x.2 x.1.2) (fun k => k = bb) (fun k => k = bb ∨ k < n0)
      (fun xs => xs.map (·.1) = itemsL b) (fun _ => True) (itemsL b).length W := fun l J Jx hJ hJx hY h0 => by
  obtain ⟨i0, hi, hz0, hz1, hz2⟩ := info_parts infoU8
  subst hw0
  refine callsIn_of_wp Tryd.func93 rfl trivial ?_ rfl
  simp only [Tryd.ntmps93, List.size_toArray, List.length_cons, List.length_nil, Nat.reduceAdd, Nat.reduceSub, Array.replicate_succ, Array.replicate_zero, List.push_toArray, List.append_toArray, List.nil_append, List.cons_append]
  gi_wp2
  gi_loopw [] (ItemsI w0 W w0.heap.size bb b J) (fun wr => lenV ((wr.cell? ⟨bb, 0, none⟩).getD undef))
  case atStart => exact ⟨[], b, v, hc, hl, hlen, rfl, hb0, h0, Nat.le_refl _⟩
  case round =>
    clear hc hl hlen h0 hb0
    obtain ⟨pre, rest, rv, hc, hl, hlen, hit, hB, hj, hs⟩ := hrel
    obtain ⟨ra, rc, hv⟩ := hl.len
    subst hv
    have hcc := hc.cell
    have hcf := hc.free
    have HI := Lib.hid hit
    have HCC := Lib.hid hc.cell
    clear hit
    by_cases hlt : 0 < rest.length
    · have hlt2 : (0 : Int) < (rest.length : Int) := by omega
      obtain ⟨rb, roff, rc', hv, hbl, hcell⟩ := hl.cell hlt
      obtain ⟨rfl, rfl⟩ : ra = some ⟨rb, roff, none⟩ ∧ rc = rc' := by cases hv; exact ⟨rfl, rfl⟩
      have hc0 := (hB.cell (p := ⟨rb, roff + 0, none⟩) hbl).trans (hcell 0 hlt)
      rw [Nat.add_zero] at hc0
      unfold B8 at hc0
      have hyl := (rest.getD 0 0).toNat_lt
      obtain ⟨tv, hrt, ht, hto⟩ := hl.part (P := Tryd.prog) (t := 22) Tryd.underlying22 hi hz1 (some (.int .i64 1)) none 1 rest.length (by omega) (Nat.le_refl _) (.inr ⟨.i64, rfl⟩) (.inl ⟨rfl, rfl⟩)
      rw [List.take_of_length_le (by simp)] at ht
      have hone := oneI_drop hlt
      have htl : (rest.drop 1).length = rest.length - 1 := by simp
      have hne : rest ≠ [] := by intro e; rw [e] at hlt; simp at hlt
      have hbad := itemsL_bad (b := rest) hne
      have hstep := fun x r => itemsL_step (b := rest) (r := r) (x := x)
      clear hcell hv
      have HTL := Lib.hid htl
      have HBAD := Lib.hid hbad
      have HST := Lib.hid hstep
      clear htl hbad hstep hne
      generalize rest.drop 1 = t at *
      generalize rest.getD 0 0 = y at *
      obtain ⟨ta, tc, hv⟩ := ht.len
      subst hv
      have hto' : ∀ k, (Value.slice ta t.length tc).ownBlock = some k → k < w0.heap.size := fun k e => hl.blk hlt k (by rw [← hto]; exact e)
      have HONE := Lib.hid hone
      clear hone hto
      rcases hcut : cutL 0 0 t with _ | ⟨n', m'⟩
      · have hbd : oneI rest = none := by rw [HONE.out, hcut]
        have HCU := Lib.hid hcut
        clear hcut
        · skip
          have hb0 : itemsL rest = [(0, [])] := HBAD.out hbd
          have hpre : (pre ++ [(((0 : Int), ([] : List UInt8)), Value.slice none 0 0)]).map (·.1) = itemsL b := by rw [HI.out, hb0]; simp
          have hY2 := fun w2 (hb2 : Below wr.heap.size wr w2) => hY pre ((0, []), .slice none 0 0) w2 (hJ _ _ _ hj ((Kept.refl _ wr).below hb2)) ⟨by rw [hpre]; exact List.prefix_rfl, Own8.nil _ _ _⟩ (by rw [← hpre]; simp)
          have HP := Lib.hid hpre
          clear hbd hb0 hpre
          gi_wp2_with (refine ⟨trivial, ?_⟩; gi_at_call 94; refine (callsIn_wide.2 (cut_bad _ t _ (ht.of_new hB) HCU.out)).mono ?_; rintro e w2 ⟨x, r, rfl, hb2⟩; obtain ⟨fn, tmps, assign, body, hy, hR⟩ := hY2 w2 hb2; dsimp only [encI] at hy)
          refine hR.mono ?_
          rintro e W3 (⟨rfl, hJ3, hk3⟩ | ⟨rfl, hJx3⟩)
          · gi_wp2
            refine bodyPost_ret (results_none rfl _ _ _) rfl ?_
            exact ⟨⟨_, rfl⟩, .inl ⟨_, HP.out, hJ3⟩⟩
          · gi_wp2
            refine bodyPost_ret (results_none rfl _ _ _) rfl ?_
            exact ⟨⟨_, rfl⟩, .inr ⟨_, trivial, hJx3⟩⟩
      · have HCU := Lib.hid hcut
        have hone := HONE.out
        rw [hcut] at hone
        dsimp only at hone
        have hn64 := (cutL_lt (by omega) (by simp) hcut).1
        clear hcut HONE
        have hdl : (t.drop m').length ≤ 65536 := by have := HTL.out; simp; omega
        obtain ⟨d, hd⟩ : ∃ d, t.drop m' = d := ⟨_, rfl⟩
        rw [hd] at hone hdl
        have HD := Lib.hid hd
        clear hd
        by_cases hfit : d.length < n'
        · have hbd : oneI rest = none := by rw [hone, if_pos hfit]
          have hgt : (d.length : Int) < (n' : Int) := by omega
          clear hone hfit
          · skip
            have hb0 : itemsL rest = [(0, [])] := HBAD.out hbd
            have hpre : (pre ++ [(((0 : Int), ([] : List UInt8)), Value.slice none 0 0)]).map (·.1) = itemsL b := by rw [HI.out, hb0]; simp
            have hY2 := fun w2 (hb2 : Below wr.heap.size wr w2) => hY pre ((0, []), .slice none 0 0) w2 (hJ _ _ _ hj ((Kept.refl _ wr).below hb2)) ⟨by rw [hpre]; exact List.prefix_rfl, Own8.nil _ _ _⟩ (by rw [← hpre]; simp)
            have HP := Lib.hid hpre
            clear hbd hb0 hpre
            gi_wp2_with (refine ⟨trivial, ?_⟩; gi_at_call 94; refine (callsIn_wide.2 (cut_good _ t d _ (ht.of_new hB) HCU.out HD.out)).mono ?_; rintro e w2 ⟨rra, rrc, rfl, hr, hro, hb2⟩; obtain ⟨fn, tmps, assign, body, hy, hR⟩ := hY2 w2 hb2; dsimp only [encI] at hy)
            refine hR.mono ?_
            rintro e W3 (⟨rfl, hJ3, hk3⟩ | ⟨rfl, hJx3⟩)
            · gi_wp2
              refine bodyPost_ret (results_none rfl _ _ _) rfl ?_
              exact ⟨⟨_, rfl⟩, .inl ⟨_, HP.out, hJ3⟩⟩
            · gi_wp2
              refine bodyPost_ret (results_none rfl _ _ _) rfl ?_
              exact ⟨⟨_, rfl⟩, .inr ⟨_, trivial, hJx3⟩⟩
        · have hgt : ¬ (d.length : Int) < (n' : Int) := by omega
          rw [if_neg hfit] at hone
          have hst := HST.out _ _ hone
          have HST2 := Lib.hid hst
          clear hone hst HST HBAD
          gi_wp2_with (refine ⟨trivial, ?_⟩; gi_at_call 94; refine (callsIn_wide.2 (cut_good _ t d _ (ht.of_new hB) HCU.out HD.out)).mono ?_; rintro e w2 ⟨rra, rrc, rfl, hr, hro, hb2⟩)
          have hB2 : Below w0.heap.size w0 w2 := hB.trans (hb2.mono hB.size)
          have hc2 := hc.of_new hb2
          have hco : ∀ w', Grew w2 w' → w'.cell? ⟨bb, 0, none⟩ = some (.slice (some ⟨rb, roff, none⟩) rest.length rc) := fun w' h => (hc2.of_new h).cell
          have hcy : ∀ w', Grew w2 w' → w'.cell? ⟨rb, roff, none⟩ = some (.int .u8 (y.toNat : Int)) := fun w' h => (Below.cell h (p := ⟨rb, roff, none⟩) (by have := hB2.size; show rb < w2.heap.size; omega)).trans ((hb2.cell (p := ⟨rb, roff, none⟩) (by have := hB.size; show rb < wr.heap.size; omega)).trans hc0)
          obtain ⟨pv, hrp, hpb, hpo⟩ := hr.part (P := Tryd.prog) (t := 22) Tryd.underlying22 hi hz1 none (some (.int .u64 (n' : Int))) 0 n' (by omega) (by omega) (.inl ⟨rfl, rfl⟩) (.inr ⟨.u64, rfl⟩)
          rw [List.drop_zero, Nat.sub_zero] at hpb
          obtain ⟨qv, hrq, hqb, hqo⟩ := hr.part (P := Tryd.prog) (t := 22) Tryd.underlying22 hi hz1 (some (.int .u64 (n' : Int))) none n' d.length (by omega) (Nat.le_refl _) (.inr ⟨.u64, rfl⟩) (.inl ⟨rfl, rfl⟩)
          rw [List.take_of_length_le (by simp)] at hqb
          have hdt : (d.take n').length ≤ 65536 := by rw [List.length_take]; omega
          have hdd : (d.drop n').length ≤ 65536 := by rw [List.length_drop]; omega
          have hdd3 : (d.drop n').length < rest.length := by have := HD.out; have := HTL.out; rw [List.length_drop, ← HD.out, List.length_drop]; omega
          generalize hdt2 : d.take n' = dt at *
          generalize hdd2 : d.drop n' = dd at *
          have hqo' : ∀ k, qv.ownBlock = some k → k < w0.heap.size := fun k e => hto' k (by rw [← hro, ← hqo]; exact e)
          have hq0 := hqb.back (hB2) hqo'
          obtain ⟨qa, qc, hv⟩ := hq0.len
          subst hv
          clear hdt2 hdd2 hcc hcf hc hc0 hrt
          have hyw : IntKind.i64.wrap (y.toNat : Int) = (y.toNat : Int) := IntWalk.i64_in _ (by omega)
          refine wpIn_region_early (ro := none) (C := Grew w2) 5 8 10 (by kernel_rfl) (by kernel_rfl) (Grew.start _) (fun c a d v w h => by cases d <;> exact h) ?_
          simp only [List.take_succ_cons, List.take_zero, List.drop_succ_cons, List.drop_zero]
          go_simp
          repeat (first
            | (go_big_quiet_want; apply quiet_val; (intro w' hw'; go_simp; first | done | rfl); go_simp; go_big_quiet_on)
            | (go_big_quiet_skip))
          refine wpQuiet_nil ?_
          intro w3 hw3
          refine LateL.cons rfl (wp_enter (f := 95) (args := #[pv]) ?_ (Clone_any pv dt w3 (hpb.of_new hw3) (by omega)) ?_)
          · go_simp
          rintro e w4 ⟨cv, rfl, hcv, hb4⟩
          refine ⟨cv, rfl, below_next hw3 hb4, ?_⟩
          refine LateL.cons rfl (wp_val (v := .agg #[.int .i64 (y.toNat : Int), cv]) ?_ ?_)
          · obtain ⟨ca, cc, hv⟩ := hcv.bytes.len
            subst hv
            go_simp
          refine ⟨below_next hw3 hb4, ?_⟩
          refine LateL.nil ?_
          rw [wF_none]
          have hb24 : Below w2.heap.size w2 w4 := below_next hw3 hb4
          have hpre : (pre ++ [(((y.toNat : Int), dt), cv)]).map (·.1) <+: itemsL b := ⟨itemsL dd, by rw [HI.out, HST2.out]; simp⟩
          have hcv2 : Own8 w4 W.heap.size 5 cv dt := hcv.mono (by have := Below.size hw3; have := hb2.size; omega)
          have hkw : Kept (fun k => ¬ k = bb) wr w4 := (((Kept.refl _ wr).below hb2).below hb24)
          obtain ⟨fn, tmps, assign, body, hy, hR⟩ := hY pre (((y.toNat : Int), dt), cv) w4 (hJ _ _ _ hj hkw) ⟨hpre, hcv2⟩ (by have := hpre.length_le; simp at this; omega)
          dsimp only [encI] at hy
          have HP := Lib.hid hpre
          have hc4 := hc2.of_new hb24
          have hB4 : Below w0.heap.size w0 w4 := below_next' hB2 hb24 hB2.size
          have hs4 : W.heap.size ≤ w4.heap.size := by have := Below.size hb24; have := hb2.size; omega
          clear hpre hcv2 hkw hco hcy hpb hpo hqo hqb hrp hr hro hj hcv hb4 hw3 hb24 hb2 hc2 hB2 hB hs
          gi_wp2
          refine hR.mono ?_
          rintro e W3 (⟨rfl, hJ3, hk3⟩ | ⟨rfl, hJx3⟩)
          · have hc5 := hc4.of_block (hk3.block _ hc4.lt (.inl rfl))
            have hcc := hc5.cell
            have hcf := hc5.free
            have hB5 : Below w0.heap.size w0 W3 := hk3.to_below hB4 hB4.size (fun k hk => .inr hk)
            have hs5 : W.heap.size ≤ W3.heap.size := by have := hk3.size; omega
            have hit2 : itemsL b = (pre ++ [(((y.toNat : Int), dt), cv)]).map (·.1) ++ itemsL dd := by rw [HI.out, HST2.out]; simp
            have HIT := Lib.hid hit2
            clear hit2
            gi_wp2
            refine ⟨⟨_, dd, .slice qa dd.length qc, hc5.set _, hq0, by omega, HIT.out, hB5.setCell (p := ⟨bb, 0, none⟩) hbb _, hJ _ _ _ hJ3 ((Kept.refl _ W3).setCell (p := ⟨bb, 0, none⟩) (fun h => h rfl) _), by simpa [World.setCell] using hs5⟩, ?_⟩
            rw [(hc5.set _).cell, ‹Hid (wr.cell? ⟨bb, 0, none⟩ = _)›.out]
            exact hdd3
          · gi_wp2
            refine bodyPost_ret (results_none rfl _ _ _) rfl ?_
            exact ⟨⟨_, rfl⟩, .inr ⟨_, trivial, hJx3⟩⟩
    · have e0 : rest = [] := List.eq_nil_of_length_eq_zero (by omega)
      have hg : ¬ (0 : Int) < (rest.length : Int) := by omega
      have hfin : pre.map (·.1) = itemsL b := by rw [HI.out, e0]; simp [itemsL_nil]
      have HF := Lib.hid hfin
      clear hfin e0
      gi_wp2
      go_end0
      exact ⟨⟨_, rfl⟩, .inl ⟨pre, HF.out, hj⟩⟩

end Go.Proofs.YtnomekfemadpeaaDoor

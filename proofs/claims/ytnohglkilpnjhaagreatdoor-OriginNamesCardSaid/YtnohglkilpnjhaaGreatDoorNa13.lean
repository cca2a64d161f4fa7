/- Texts of this claim, one behind the other: each begins with a comment that says what it proves and asks. -/
import Derived.Test.YtnohglkilpnjhaaGreatDoorNa12
import Derived.Deep.QuietTactic
import Derived.BigQuiet
import Derived.LoopNIn
import Derived.LoopIn
import Derived.Shelf.Abstract
import Derived.Shelf.RegionOpen
import Derived.Maps.AppendAt
import Derived.Great.BuildSlice
import Derived.IntWalk
/- The walk of the reference's Encode of an image. No condition. -/
namespace Go.Proofs.YtnohglkilpnjhaaGreatDoor
open Go.RowKit
set_option linter.unusedVariables false
set_option linter.unusedSimpArgs false
set_option maxRecDepth 100000

set_option maxHeartbeats 6400000 in
theorem REncImgO_any (v : Value) (l : List BlobL) (w : World) (hl : RBlob.Row w v l) : Calls Tryz.prog 54 #[.agg #[v]] w (EncIPostO w l) := by
  obtain ⟨a, c, hv⟩ := hl.len
  subst hv
  have hle := hl.le
  obtain ⟨W, hW⟩ : ∃ W, w.alloc (.cells #[.slice a l.length c] 52) = W := ⟨_, rfl⟩
  have ho : One W w.heap.size (.slice a l.length c) 52 := by rw [← hW]; exact heap_alloc_new w _
  have hb : Below w.heap.size w W := by rw [← hW]; exact (Below.refl _ w).alloc (Nat.le_refl _) _
  have hc1 := ho.cell
  have hI := RImage_any _ l W (hl.of_new hb)
  have HL := Lib.hid (hl.of_new hb)
  have HO := Lib.hid ho
  have HW := Lib.hid hW
  have HB := Lib.hid hb
  have HI := Lib.hid hI
  have hls := ho.lt
  clear hl ho hW hb hI
  obtain ⟨E, hE⟩ : ∃ E, imageE l = E := ⟨_, rfl⟩
  rw [hE] at HI
  have HE := Lib.hid hE
  by_cases h0 : E = 0
  case neg =>
    have HN := Lib.hid (show imageE l ≠ 0 by rw [hE]; exact h0)
    have t1 : (E == 0) = false := beq_eq_false_iff_ne.2 h0
    have t2 : (E != 0) = true := bne_iff_ne.2 h0
    clear hE h0
    go_enter Tryz.func54, Tryz.ntmps54
    go_upto_region 1 with (fail)
    rw [HW.out]
    go_wp2_with (go_at_call 92; refine HI.out.mono ?_; rintro e w2 ⟨rfl, hb2⟩; have HB2 := Lib.hid (below_next HB.out hb2); clear hb2)
    go_ret2
    rw [← HE.out]
    exact encG_bad HN.out HB2.out
  subst h0
  have HR := Lib.hid (image_rights hE)
  have h16 : l.length ≤ 16 := by
    unfold imageE at hE
    split at hE
    · cases hE
    · omega
  clear hE
  go_enter Tryz.func54, Tryz.ntmps54
  go_upto_region 1 with (fail)
  rw [HW.out]
  go_wp2_with (go_at_call 92; refine HI.out.mono ?_; rintro e w2 ⟨rfl, hb2⟩; have hc2 := Grew.cell hb2 hc1; have HB2 := Lib.hid (below_next HB.out hb2); have HL2 := Lib.hid (HL.out.of_new hb2); clear hb2)
  go_loopw [5, 6, 7, 8, 9] (fun lv iv _ _ _ W' => EncIM w2 l lv iv W') (fun _ iv _ _ _ _ => l.length - (intOf iv).toNat)
  case atStart => exact ⟨0, [], Nat.zero_le _, rfl, by simp [imgIts, imgItsF], rfl, OwnIt.nil _ _, Below.refl _ _⟩
  case round =>
    obtain ⟨k, its, hk, rfl, hit, hil, hown, hbr⟩ := hrel
    have hc3 := Grew.cell hbr hc2
    obtain ⟨la, lc, hv⟩ := hown.len
    subst hv
    by_cases hlt : k < l.length
    · obtain ⟨b, off, c', hv, hbl, hc⟩ := HL2.out.at_ (by omega)
      obtain ⟨rfl, rfl⟩ : a = some ⟨b, off, none⟩ ∧ c = c' := by cases hv; exact ⟨rfl, rfl⟩
      obtain ⟨y, hy⟩ : ∃ y, l[k]? = some y := ⟨_, List.getElem?_eq_getElem hlt⟩
      have hat := (hc k y hy).of_new hbr
      have hyo := hat.1
      have hyr := right_bd (HR.out y (List.mem_of_getElem? hy))
      have hki : (k : Int) < (l.length : Int) := by omega
      have hk16 : (k : Int) ≤ 16 := by omega
      have hst := imgIts_step hy
      obtain ⟨n, hn⟩ : ∃ n : Nat, y.size = (n : Int) := ⟨y.size.toNat, by omega⟩
      obtain ⟨q, hq⟩ : ∃ q : Nat, y.piece = (q : Int) := ⟨y.piece.toNat, by omega⟩
      have hnq : n ≤ 1048576 ∧ q ≤ 1048576 := by omega
      have HY := Lib.hid hy
      have HIT := Lib.hid hit
      have HIL := Lib.hid hil
      have HWN := Lib.hid hown
      have HBR := Lib.hid hbr
      have HAT := Lib.hid hat
      have HYO := Lib.hid hyo
      have HYR := Lib.hid hyr
      have HST := Lib.hid hst
      have HN := Lib.hid hn
      have HQ := Lib.hid hq
      have HNQ := Lib.hid hnq
      clear hv hc hy hit hil hown hbr hat hyo hyr hst hn hq hnq
      go_upto_region 9 with (first
        | ((with_reducible refine wpList_plain (o := ⟨some 26, Op.load _ _, _, _, _, _⟩) rfl fun K hK => ?_); (refine HAT.out.wp rfl rfl (hK _ _ ?_)))
        | ((with_reducible refine wpList_plain (o := ⟨some 7, Op.alloc _, _, _, _, _⟩) rfl fun K hK => ?_); (refine RBlob.wp_alloc rfl fun w4 ho4 hb4 hs4 => hK _ _ ?_); have HO4 := Lib.hid ho4; have HB4 := Lib.hid hb4; clear ho4 hb4 hs4)
        | ((with_reducible refine wpList_plain (o := ⟨none, Op.store _ (.tmp 7) (.tmp 26), _, _, _, _⟩) rfl fun K hK => ?_); (refine HO4.out.store (.tmp 7) (.tmp 26) rfl rfl rfl HYO.out fun w5 ho5 hg5 hs5 => hK _ _ ?_); have hb5 := HB4.out.grown hg5 (by have := HB4.out.size; omega) (fun k e => by cases e; exact Nat.le_refl _); have HO5 := Lib.hid ho5; have HB5 := Lib.hid hb5; clear ho5 hg5 hs5 hb5))
      have hyO := HO5.out.blobO
      have c32 := hyO.size
      have c33 := hyO.piece
      rw [HN.out] at c32
      rw [HQ.out] at c33
      have hwn : IntKind.u64.wrap (n : Int) = (n : Int) := by have := HNQ.out; simp [IntKind.wrap, IntKind.bits, IntKind.signed]; omega
      have hwq : IntKind.u64.wrap (q : Int) = (q : Int) := by have := HNQ.out; simp [IntKind.wrap, IntKind.bits, IntKind.signed]; omega
      have hbx := Below.refl w5.heap.size w5
      have hn64 : n < 18446744073709551616 := by have := HNQ.out; omega
      have hq64 : q < 18446744073709551616 := by have := HNQ.out; omega
      have hls5 := HO5.out.lt
      have HD5 := Lib.hid hyO.dig.bytes
      have HR5 := Lib.hid hyO.root.bytes
      have hits : blobIts y = [(1, y.dig), (2, uint n), (3, uint q), (4, y.root)] := by unfold blobIts; rw [HN.out, HQ.out]; rfl
      have hyr := HYR.out
      have henc : rencL (blobIts y) = some (blobB y) := (rencL_eq _).trans (enc_blob HYO.out ⟨by omega, by omega⟩ ⟨by omega, by omega⟩)
      rw [hits] at henc
      have HEN := Lib.hid henc
      clear hyO hits hyr henc
      go_upto_region 9 with (fail)
      try simp only [Act.put]
      try go_frame
      go_cut [8] (fun v8 W' => Own8 W' w5.heap.size 5 v8 (blobB y) ∧ Below w5.heap.size w5 W')
      case first =>
        go_region_with (first
          | (go_at_call 89; (with_reducible refine (refUint_at _ n _ rfl hn64).mono ?_); rintro e w6 ⟨v6, rfl, ho6, hb6⟩; obtain ⟨a6, c6, hv6⟩ := ho6.bytes.len; subst hv6; (try replace c32 := Grew.cell hb6 c32); (try replace c33 := Grew.cell hb6 c33); (try replace ho7 := ho7.new hb6); (first | replace hbx := below_next hbx.drew hb6 | replace hbx := below_next hbx hb6))
          | (go_at_call 89; (with_reducible refine (refUint_at _ q _ rfl hq64).mono ?_); rintro e w7 ⟨v7, rfl, ho7, hb7⟩; obtain ⟨a7, c7, hv7⟩ := ho7.bytes.len; subst hv7; (try replace c32 := Grew.cell hb7 c32); (try replace c33 := Grew.cell hb7 c33); (try replace ho6 := ho6.new hb7); (first | replace hbx := below_next hbx.drew hb7 | replace hbx := below_next hbx hb7))
          | (go_at_call 46; refine (refEncode_any _ [(1, y.dig), (2, uint n), (3, uint q), (4, y.root)] _ (by exact items_four (HD5.out.of_new hbx) ho6.bytes ho7.bytes (HR5.out.of_new hbx))).mono ?_; intro e w9 hp; rw [HEN.out] at hp; obtain ⟨hb9, v9, rfl, ho9⟩ := hp))
        all_goals
          go_wp2_with fail
          go_meet
          have hz := hbx.size
          exact ⟨ho9.mono (by simp [World.drew]; omega), below_next (hbx.alloc hz _) hb9⟩
      case rest =>
        rename World => w9
        obtain ⟨ho9, hb9⟩ := hcut
        have hlo := ho9.lt
        have HB9 := Lib.hid (below_next HB5.out hb9)
        have HB5s := Lib.hid HB5.out.size
        obtain ⟨a10, c10, hv⟩ := ho9.bytes.len
        subst hv
        have HV9 := Lib.hid ho9.bytes
        have HLO := Lib.hid hlo
        have hs6 := HB5.out.size
        have hs9 := HB9.out.size
        have hsr := HBR.out.size
        clear hb9 ho9 hlo c32 c33 hbx hwn hwq
        go_wp2_with (first
          | ((with_reducible refine wpList_plain (o := ⟨some 54, _, _, _, _, _⟩) rfl fun K hK => ?_); refine wp_appIt (.tmp 48) (.tmp 53) rfl w2.heap.size _ its (((k : Int) + 1, blobB y), .slice a10 (blobB y).length c10) w9.heap.size rfl ((HWN.out.of_new HB9.out).of_new ((Below.refl _ w9).alloc (Nat.le_refl _) _)) rfl (HV9.out.of_new ((Below.refl _ w9).alloc (Nat.le_refl _) _)) (fun z hz => ⟨by have := (HLO.out z hz).2; simp; omega, fun e => by have := (HWN.out.lt z e).2; have := (HLO.out z hz).1; omega⟩) (heap_alloc_new w9 _) (by have := HIL.out; omega) (by simp; omega) ?_; intro v11 w11 ho11 hg11 hn11; refine hK _ _ ?_; obtain ⟨a11, c11, hv11⟩ := ho11.len; subst hv11; have HO11 := Lib.hid ho11; have HG11 := Lib.hid hg11; clear ho11 hg11 hn11 hK))
        go_roundw
        case rel =>
          refine ⟨k + 1, its ++ [(((k : Int) + 1, blobB y), .slice a10 (blobB y).length c10)], by omega, by go_num, ?_, by have := HIL.out; simp; omega, by have h := HO11.out; rw [List.length_append, List.length_singleton] at h; exact h, (below_next HBR.out ((HB9.out).alloc HB9.out.size _)).grown HG11.out (by simp; omega) (fun z hz => (HWN.out.lt z hz).1)⟩
          rw [List.map_append, HIT.out, HST.out]
          rfl
        case measure => simp [intOf]; omega
    · obtain rfl : k = l.length := by omega
      rw [List.take_length] at hit
      have hI := hown.items
      rw [hit] at hI
      have hEn := refEncode_any _ _ wr hI
      rw [rencL_eq] at hEn
      have hc4 := hc3
      have HEn := Lib.hid hEn
      have HBR := Lib.hid (below_next HB2.out hbr)
      clear hI hit hil hown hEn hbr
      go_wp2_with fail
      refine HEn.out.mono ?_
      intro e w4 hp
      have hq := encG_post HE.out hp HBR.out
      obtain ⟨v4, rfl, hv4, hb4⟩ := hq
      have HV4 := Lib.hid hv4
      have HB4 := Lib.hid hb4
      clear hp hv4 hb4
      go_wp2
      go_ret2
      exact ⟨_, rfl, HV4.out, HB4.out⟩

theorem REncImg_any (v : Value) (l : List BlobL) (w : World) (hl : RBlob.Row w v l) : Calls Tryz.prog 54 #[.agg #[v]] w (EncIPost w l) := (REncImgO_any v l w hl).mono fun _ _ h => h.post

end Go.Proofs.YtnohglkilpnjhaaGreatDoor

/- The walk of slices.Clone at a slice of bytes: a slice of the call's own with the same bytes. Condition: no more than 2^47 bytes. -/
namespace Go.Proofs.YtnohglkilpnjhaaGreatDoor
open Go.RowKit
set_option linter.unusedVariables false

set_option maxRecDepth 100000 in
set_option maxHeartbeats 800000 in
theorem Clone_any (v : Value) (l : List UInt8) (w : World) (hl : Bytes w v l) (hlen : l.length ≤ 140737488355328) :
    Calls Tryz.prog 36 #[v] w fun e w' => ∃ v', e = .returned v' ∧ Own8 w' w.heap.size 5 v' l ∧ Below w.heap.size w w' := by
  obtain ⟨i0, hi, hz0, hz1, hz2⟩ := info_parts infoU8
  obtain ⟨a, c, hv⟩ := hl.len
  cases a with
  | none =>
    have hl0 : l = [] := by
      obtain ⟨_, a', c', hv', h1, _, h3, _⟩ := hl
      rw [hv'] at hv; cases hv
      have := h3 rfl
      exact List.eq_nil_of_length_eq_zero (by omega)
    subst hl0
    have hc : c = 0 := by
      obtain ⟨_, a', c', hv', h1, _, h3, _⟩ := hl
      rw [hv'] at hv; cases hv
      exact h3 rfl
    subst hc
    subst hv
    have he := fun (w : World) (a : Option Addr) (n c : Nat) => Lib.run_eql_slice_nil (P := Tryz.prog) w 33 5 a n c 0 0 Tryz.underlying33
    go_enter Tryz.func36, Tryz.ntmps36
    go_wp2
    go_ret
    exact ⟨_, rfl, Own8.nil _ _ _, Below.refl _ _⟩
  | some a =>
    subst hv
    have he := fun (w : World) (a : Option Addr) (n c : Nat) => Lib.run_eql_slice_nil (P := Tryz.prog) w 33 5 a n c 0 0 Tryz.underlying33
    have hown0 : Own8 (w.alloc (.cells #[] 5)) w.heap.size 5 (.slice (some ⟨w.heap.size, 0, none⟩) 0 0) [] := World.ownsRow_made w #[] 0 (Nat.le_refl _) (by unfold maxLen; omega) rfl
    have hl0 := hl.of_alloc (.cells #[] 5)
    have HO := Lib.hid hown0
    have HL := Lib.hid hl0
    clear hown0 hl0 hl
    go_enter Tryz.func36, Tryz.ntmps36
    go_wp2_with (at_builtin; refine wpList_app8 rfl (.tmp 5) (.tmp 6) 33 rfl w.heap.size 5 i0 Tryz.underlying33 hi hz0 hz1 hz2 _ [] rfl HO.out _ l rfl HL.out ?c1 ?c2 ?_)
    case c1 => first | omega | (simp; omega)
    case c2 => simp
    intro v1 w1 hown1 hg1 _
    have hbA : Below w.heap.size w w1 := ((Below.refl _ w).alloc (Nat.le_refl _) _).grown hg1 (by simp) (fun j hj => (HO.out.lt j hj).1)
    clear hg1
    go_wp2
    go_ret
    exact ⟨_, rfl, by simpa using hown1, hbA⟩

end Go.Proofs.YtnohglkilpnjhaaGreatDoor

/- Regions that draw their order: operations that only read and are waited for late (taken first, one by one), quiet ones, some that keep to a class of worlds, then those that wait for all. No condition. -/
namespace Go.Proofs.YtnohglkilpnjhaaGreatDoor
open Go.RowKit
set_option linter.unusedVariables false
set_option linter.unusedSimpArgs false

/-- An operation that only yields a value. -/
def earlyOp (o : Oper) : Bool := o.guard.isNone && match o.op with
  | .move _ | .load .. | .indexAddr .. | .fieldAddr .. | .convert .. | .slice .. | .extract .. | .nilCheck _ => true
  | _ => false

theorem only_value {P : Program} {w w' : World} {s : Sem Value} {r : Next} (h : (do pure (Next.value (← s)) : Sem Next).run P w = .ok r w') : ∃ u, r = .value u := by
  simp only [Sem.run_bind] at h
  generalize s.run P w = q at h
  cases q with
  | ok x w2 => simp [Sem.run_pure, Result.andThen] at h; exact ⟨x, h.1.symm⟩
  | halt x w2 => simp [Result.andThen] at h

theorem early_value {P : Program} {o : Oper} {ρ : Operand → Value} {w w' : World} {r : Next} (h : earlyOp o = true) (hr : (execOp ρ o).run P w = .ok r w') : ∃ u, r = .value u := by
  unfold earlyOp at h
  unfold execOp at hr
  cases ho : o.op <;> simp [ho] at h <;> simp only [ho] at hr
  case move => simp [Sem.run_pure] at hr; exact ⟨_, hr.1.symm⟩
  case nilCheck x =>
    split at hr
    all_goals first
      | exact only_value hr
      | (simp [Sem.run_pure] at hr; exact ⟨_, hr.1.symm⟩)
      | (simp [go_sem] at hr)
      | skip
    split at hr
    · simp [go_sem] at hr
    · simp only [Sem.run_bind] at hr
      generalize Sem.run P _ w = q0 at hr
      cases q0 with
      | halt x2 w2 => simp [Result.andThen] at hr
      | ok pp w2 =>
        simp only [Result.andThen] at hr
        generalize Sem.run P _ w2 = q at hr
        cases q with
        | halt x2 w2 => simp [Result.andThen] at hr
        | ok b w3 =>
          simp only [Result.andThen] at hr
          split at hr
          · simp [go_sem, Sem.run_bind, Result.andThen] at hr; exact ⟨_, hr.1.symm⟩
          · simp [go_sem, Sem.run_pure, Sem.run_bind, Result.andThen] at hr
    · simp [Sem.run_pure] at hr; exact ⟨_, hr.1.symm⟩
  all_goals exact only_value hr

section
variable {ro : Option Nat} {m : Nat} {P : Program} {ops : Array Oper} {md : Region.Mode} {C : World → Prop} {D : Nat → Bool} {Q : Exit → Act → World → Prop}

theorem still_of_quiet {o : Oper} {v : Value} {a : Act} (he : earlyOp o = true) (hq : ∀ w, C w → o.quietAt P a C w v) : StillIn P ops C o v a := by
  have hg : o.guard = none := by
    unfold earlyOp at he
    simp only [Bool.and_eq_true, Option.isNone_iff_eq_none] at he
    exact he.1
  refine ⟨by simp [Region.wanted, hg], fun w hw => ?_⟩
  have h := hq w hw
  unfold Oper.quietAt at h
  cases hr : (execOp a.eval o).run P w with
  | ok r w' =>
    rw [hr] at h
    obtain ⟨u, rfl⟩ := early_value he hr
    simp only [Oper.quietUpon] at h
    rw [h.1, h.2]
  | halt x w' => rw [hr] at h; simp [Oper.quietUpon] at h

/-- j waits for i, by whatever way. -/
inductive WaitsT (md : Region.Mode) (ops : Array Oper) (i : Nat) : Nat → Prop
  | one {j : Nat} : Region.waitsFor md ops j i = true → WaitsT md ops i j
  | more {j k : Nat} : Region.waitsFor md ops j k = true → WaitsT md ops i k → WaitsT md ops i j

def waitsB (md : Region.Mode) (ops : Array Oper) (i : Nat) : Nat → Nat → Bool
  | 0, _ => false
  | f + 1, j => Region.waitsFor md ops j i || (List.range ops.size).any fun k => Region.waitsFor md ops j k && waitsB md ops i f k
theorem waitsB_spec {i : Nat} : ∀ (f j : Nat), waitsB md ops i f j = true → WaitsT md ops i j
  | 0, _, h => by simp [waitsB] at h
  | f + 1, j, h => by
    simp only [waitsB, Bool.or_eq_true, List.any_eq_true, Bool.and_eq_true] at h
    rcases h with h | ⟨k, _, h1, h2⟩
    · exact .one h
    · exact .more h1 (waitsB_spec f k h2)

def ClosedL (md : Region.Mode) (ops : Array Oper) (listed : Array Bool) : Prop :=
  ∀ j oj, ops[j]? = some oj → listed.getD j false = true → ∀ e ∈ oj.after, Region.binds md e = true → listed.getD e.on false = true

theorem not_ready {listed : Array Bool} {i j : Nat} (hcl : ClosedL md ops listed) (hi : listed.getD i false = false) (hw : WaitsT md ops i j) : j ∉ Region.ready md ops listed ∧ listed.getD j false = false := by
  induction hw with
  | @one j h =>
    obtain ⟨oj, hoj, e, he, hb, hon⟩ := Region.waitsFor_spec h
    refine ⟨fun hr => ?_, ?_⟩
    · obtain ⟨_, oj', hoj', hall⟩ := mem_ready.1 hr
      rw [hoj] at hoj'
      cases hoj'
      have := hall e he hb
      rw [hon, hi] at this
      cases this
    · cases hl : listed.getD j false with
      | false => rfl
      | true =>
        have := hcl j oj hoj hl e he hb
        rw [hon, hi] at this
        cases this
  | @more j k h _ ih =>
    obtain ⟨oj, hoj, e, he, hb, hon⟩ := Region.waitsFor_spec h
    refine ⟨fun hr => ?_, ?_⟩
    · obtain ⟨_, oj', hoj', hall⟩ := mem_ready.1 hr
      rw [hoj] at hoj'
      cases hoj'
      have := hall e he hb
      rw [hon, ih.2] at this
      cases this
    · cases hl : listed.getD j false with
      | false => rfl
      | true =>
        have := hcl j oj hoj hl e he hb
        rw [hon, ih.2] at this
        cases this

theorem ClosedL.set {listed : Array Bool} {j : Nat} (hcl : ClosedL md ops listed) (hj : j ∈ Region.ready md ops listed) (hsz : listed.size = ops.size) : ClosedL md ops (listed.setIfInBounds j true) := by
  intro k ok hk hl e he hb
  have keep : ∀ x, listed.getD x false = true → (listed.setIfInBounds j true).getD x false = true := fun x hx => by
    by_cases q : j = x
    · subst q
      have hlt : j < listed.size := by
        rcases Nat.lt_or_ge j listed.size with h | h
        · exact h
        · simp [Array.getElem?_eq_none h] at hx
      simp [hlt]
    · rw [getD_set_ne false q]; exact hx
  obtain ⟨_, oj, hoj, hall⟩ := mem_ready.1 hj
  by_cases q : j = k
  · subst q
    rw [hoj] at hk
    cases hk
    exact keep _ (hall e he hb)
  · rw [getD_set_ne false q] at hl
    exact keep _ (hcl k ok hk hl e he hb)

/-- An early operation may be taken first. -/
theorem wpAnyS_take {i : Nat} {oi : Oper} {v : Value} (hnd : noDefer ops = true) (hi : ops[i]? = some oi) (hsel : ∀ (j : Nat) (o : Oper) cs b, ops[j]? = some o → o.op ≠ .select cs b)
    (hQ : ∀ c (a : Act) (d : Option Tmp) (v : Value) w, Q (.panic c) (a.put d v) w → Q (.panic c) a w) (hDi : ∀ j, D j = true → WaitsT md ops i j) :
    ∀ (fuel : Nat) (listed : Array Bool) (a : Act) (w : World), listed.size = ops.size → ClosedL md ops listed →
      (∀ j oj, ops[j]? = some oj → j ≠ i → listed.getD j true = false → (∀ e ∈ oj.after, Region.binds md e = true → e.on ≠ i) → oi.apart ops oj = true) →
      i ∈ Region.ready md ops listed → StillIn P ops C oi v a → C w →
      wpAnyS ro m P md ops C D Q fuel (listed.setIfInBounds i true) (a.put oi.dst v) w → wpAnyS ro m P md ops C D Q (fuel + 1) listed a w := by
  intro fuel
  induction fuel with
  | zero =>
    intro listed a w _ _ _ hr hy hC H
    refine ⟨fun h => (by rw [h] at hr; cases hr), fun j hj => ?_⟩
    by_cases hji : j = i
    · subst hji; exact hy.wpOpIn hnd hi hC ⟨fun _ => hC, H⟩
    · have := ready_mono hj hji
      rw [H.1] at this
      cases this
  | succ fuel ih =>
    intro listed a w hsz hcl hfree hr hy hC H
    refine ⟨fun h => (by rw [h] at hr; cases hr), fun j hj => ?_⟩
    by_cases hji : j = i
    · subst hji; exact hy.wpOpIn hnd hi hC ⟨fun _ => hC, H⟩
    · have h1 := H.2 j (ready_mono hj hji)
      obtain ⟨hjun, oj, hoj, hall⟩ := mem_ready.1 hj
      have h0 := (mem_ready.1 hr).1
      have h0f : listed.getD i false = false := getD_both h0
      have hnot : ∀ e ∈ oj.after, Region.binds md e = true → e.on ≠ i := fun e he hb heq => by
        have h1 := hall e he hb
        rw [heq, h0f] at h1
        cases h1
      have hDj : D j = false := by
        cases hd : D j with
        | false => rfl
        | true => exact absurd hj (not_ready hcl h0f (hDi j hd)).1
      have h2 := wpOpIn_putS (C := C) hnd hoj (hfree j oj hoj hji hjun hnot) (fun cs b => hsel i oi cs b hi) (fun cs b => hsel j oj cs b hoj) (fun c a w h => hQ c _ _ _ w h) hy h1
      have hfree' : ∀ k ok, ops[k]? = some ok → k ≠ i → (listed.setIfInBounds j true).getD k true = false →
          (∀ e ∈ ok.after, Region.binds md e = true → e.on ≠ i) → oi.apart ops ok = true := fun k ok hk hki hun hno => by
        refine hfree k ok hk hki ?_ hno
        by_cases hjk : j = k
        · subst hjk; exact hjun
        · rw [getD_set_ne true hjk] at hun; exact hun
      refine wpOpIn_mono (fun a' w' h3 => ⟨h3.2.1, ih (listed.setIfInBounds j true) a' w' (by simpa using hsz) (hcl.set hj hsz) hfree' (ready_mono hr (Ne.symm hji)) h3.1 (h3.2.1 hDj) ?_⟩) h2
      rw [Array.setIfInBounds_comm _ _ hji]
      exact h3.2.2

def earlyB (md : Region.Mode) (ops : Array Oper) (D : Nat → Bool) : Nat → Nat → Array Bool → Bool
  | 0, _, _ => true
  | f + 1, p, listed => (Region.ready md ops listed).contains p && Region.free md ops listed p && (match ops[p]? with | some o => earlyOp o | none => false) &&
      ((List.range ops.size).all fun j => !D j || waitsB md ops p ops.size j) && earlyB md ops D f (p + 1) (listed.setIfInBounds p true)
def listedTo (f p : Nat) (listed : Array Bool) : Array Bool := match f with
  | 0 => listed
  | f + 1 => listedTo f (p + 1) (listed.setIfInBounds p true)

/-- The early operations, one by one. -/
theorem wpAnyS_early (hnd : noDefer ops = true) (hsel : Region.noSelect ops = true) (hQ : ∀ c (a : Act) (d : Option Tmp) (v : Value) w, Q (.panic c) (a.put d v) w → Q (.panic c) a w) (hD : ∀ j, ops.size ≤ j → D j = false) {R : Act → Prop} {g : Nat} (l : List Oper) :
    ∀ (p : Nat) (listed : Array Bool) (a : Act) (w : World), (∀ j, j < l.length → l[j]? = ops[p + j]?) → listed.size = ops.size → ClosedL md ops listed → C w → earlyB md ops D l.length p listed = true →
      wpQuiet P ops C R l a → (∀ a' w, C w → R a' → wpAnyS ro m P md ops C D Q g (listedTo l.length p listed) a' w) → wpAnyS ro m P md ops C D Q (l.length + g) listed a w := by
  induction l with
  | nil =>
    intro p listed a w _ _ _ hC _ h hL
    rw [List.length_nil, Nat.zero_add]
    exact hL a w hC h
  | cons o l ih =>
    intro p listed a w hl hsz hcl hC hB h hL
    have h0 : ops[p]? = some o := by simpa using (hl 0 (by simp)).symm
    simp only [List.length_cons, earlyB, Bool.and_eq_true, h0] at hB
    obtain ⟨⟨⟨⟨hr, hf⟩, he⟩, hw⟩, hB⟩ := hB
    have hr' : p ∈ Region.ready md ops listed := by simpa using hr
    have hg : o.guard = none := by
      have := he
      unfold earlyOp at this
      simp only [Bool.and_eq_true, Option.isNone_iff_eq_none] at this
      exact this.1
    have hq : o.quiet P a C (wpQuiet P ops C R l) := by
      have h' : if Region.wanted o (yielded ops a.tmps) then o.quiet P a C (wpQuiet P ops C R l) else wpQuiet P ops C R l (a.put o.dst undef) := h
      rwa [if_pos (by simp [Region.wanted, hg])] at h'
    obtain ⟨v, hv, hK⟩ := hq
    have hDi : ∀ j, D j = true → WaitsT md ops p j := fun j hj => by
      have hjs : j < ops.size := by
        rcases Nat.lt_or_ge j ops.size with h | h
        · exact h
        · rw [hD j h] at hj; cases hj
      have := List.all_eq_true.1 hw j (List.mem_range.2 hjs)
      simp only [hj, Bool.not_true, Bool.false_or] at this
      exact waitsB_spec _ _ this
    rw [List.length_cons, show l.length + 1 + g = (l.length + g) + 1 by omega]
    refine wpAnyS_take hnd h0 (Region.noSelect_spec hsel) hQ hDi (l.length + g) listed a w hsz hcl (Region.free_spec h0 hf) hr' (still_of_quiet he hv) hC ?_
    exact ih (p + 1) _ _ w (fun j hj => by have := hl (j + 1) (by simp; omega); simpa [Nat.add_assoc, Nat.add_comm 1 j] using this) (by simpa using hsz) (hcl.set hr' hsz) hC hB hK hL

/-- What is owed behind the head: some operations that keep to the class, then the others. -/
def LateL (ro : Option Nat) (m : Nat) (P : Program) (ops : Array Oper) (C : World → Prop) (Q : Exit → Act → World → Prop) : List Oper → List Oper → Act → World → Prop
  | [], rest, a, w => wpListIn (WF ro) m P ops Q rest a w
  | o :: mid, rest, a, w => if Region.wanted o (yielded ops a.tmps) then o.wp P a w (fun a' w' => C w' ∧ LateL ro m P ops C Q mid rest a' w') Q else LateL ro m P ops C Q mid rest (a.put o.dst undef) w
theorem LateL.nil {rest : List Oper} {a : Act} {w : World} (h : wpListIn (WF ro) m P ops Q rest a w) : LateL ro m P ops C Q [] rest a w := h
theorem LateL.cons {o : Oper} {mid rest : List Oper} {a : Act} {w : World} (hg : o.guard = none) (h : o.wp P a w (fun a' w' => C w' ∧ LateL ro m P ops C Q mid rest a' w') Q) : LateL ro m P ops C Q (o :: mid) rest a w := by
  unfold LateL
  rw [if_pos (by simp [Region.wanted, hg])]
  exact h

theorem wpListS_of_late (hnd : ∀ o, o ∈ ops.toList → ∀ c, o.op ≠ .defer c) : ∀ (mid rest : List Oper) (k : Nat) (a : Act) (w : World), (∀ o ∈ mid, o ∈ ops.toList) → C w → (∀ j, k + mid.length ≤ j → j < k + mid.length + rest.length → D j = true) →
    LateL ro m P ops C Q mid rest a w → wpListS ro m P ops C D Q k (mid ++ rest) a w
  | [], rest, k, a, w, _, _, hD, h => wpListS_of_list _ _ _ _ (fun j h1 h2 => hD j (by simpa using h1) (by simpa using h2)) h
  | o :: mid, rest, k, a, w, hm, hC, hD, h => by
    rw [List.cons_append]
    unfold wpListS
    unfold LateL at h
    have hrec := fun a' w' hC' h' => wpListS_of_late hnd mid rest (k + 1) a' w' (fun o ho => hm o (by simp [ho])) hC' (fun j h1 h2 => hD j (by simp only [List.length_cons]; omega) (by simp only [List.length_cons]; omega)) h'
    split
    · rename_i hq
      rw [if_pos hq] at h
      exact Oper.wpIn_mono (fun a' w' h' => ⟨fun _ => h'.1, hrec a' w' h'.1 h'.2⟩) (wpIn_of_wp (hnd o (hm o (by simp))) h)
    · rename_i hq
      rw [if_neg hq] at h
      exact ⟨fun _ => hC, hrec _ w hC h⟩

/-- THE REGION: the first e operations only read; those up to n yield one value each in every world of the class; those up to k keep to the class; the others wait for the early ones. -/
theorem wpIn_region_early {id : Nat} {a : Act} {w : World} {l : List Oper} (e n k : Nat) (hm : P.follows .mixedOrders = true)
    (hB : (Region.noSelect l.toArray && noDefer l.toArray && decide (e ≤ n) && decide (n ≤ k) && decide (k ≤ l.length) && decide (n < l.length) && earlyB .any l.toArray (fun j => decide (k ≤ j) && decide (j < l.length)) e 0 (Array.replicate l.length false) &&
      invB .any l.toArray n (listedTo e 0 (Array.replicate l.length false)) && sinkU .any l.toArray n (listedTo e 0 (Array.replicate l.length false)) && Region.chainB .any l.toArray n &&
      Region.lexHead .any l.toArray (l.length - n) (n - e) e (listedTo e 0 (Array.replicate l.length false))) = true)
    (hC : C { w with drawn := w.drawn + 1 }) (hQ : ∀ c (a : Act) (d : Option Tmp) (v : Value) w, Q (.panic c) (a.put d v) w → Q (.panic c) a w)
    (h : wpQuiet P l.toArray C (fun a' => ∀ w', C w' → LateL ro m P l.toArray C Q ((l.take k).drop n) (l.drop k) a' w') (l.take n) a) :
    (Code.region id l.toArray true).wpIn (WF ro) m P Q a w := by
  simp only [Bool.and_eq_true, decide_eq_true_eq] at hB
  obtain ⟨⟨⟨⟨⟨⟨⟨⟨⟨⟨hsel, hnd⟩, hen⟩, hnk⟩, hkl⟩, hnl⟩, hearly⟩, hinv⟩, hs⟩, hc⟩, hlex⟩ := hB
  have hsz : l.toArray.size = l.length := by simp
  refine wpIn_region_any hm ?_
  rw [hsz]
  obtain ⟨D, hDd⟩ : ∃ D : Nat → Bool, D = fun j => decide (k ≤ j) && decide (j < l.length) := ⟨_, rfl⟩
  rw [← hDd] at hearly
  have hDo : ∀ j, l.toArray.size ≤ j → D j = false := fun j hj => by rw [hDd]; simp; omega
  refine wpAnyS_any (C := C) (D := D) _ _ _ _ ?_
  have hte : (l.take e).length = e := by simp; omega
  have htn : ((l.take n).drop e).length = n - e := by simp; omega
  have hdl : (l.drop n).length = l.length - n := by simp
  have hsplit : l.take n = l.take e ++ (l.take n).drop e := by
    have := (List.take_append_drop e (l.take n)).symm
    rwa [List.take_take, Nat.min_eq_left hen] at this
  have happ : ∀ (x y : List Oper) (a : Act) (R : Act → Prop), wpQuiet P l.toArray C R (x ++ y) a → wpQuiet P l.toArray C (wpQuiet P l.toArray C R y) x a := by
    intro x
    induction x with
    | nil => intro y a R h; exact h
    | cons o x ih =>
      intro y a R h
      have h' : if Region.wanted o (yielded l.toArray a.tmps) then o.quiet P a C (wpQuiet P l.toArray C R (x ++ y)) else wpQuiet P l.toArray C R (x ++ y) (a.put o.dst undef) := h
      show if Region.wanted o (yielded l.toArray a.tmps) then o.quiet P a C (wpQuiet P l.toArray C (wpQuiet P l.toArray C R y) x) else wpQuiet P l.toArray C (wpQuiet P l.toArray C R y) x (a.put o.dst undef)
      split
      · rename_i hq; rw [if_pos hq] at h'; exact Oper.quiet_mono (fun a' => ih y a' R) h'
      · rename_i hq; rw [if_neg hq] at h'; exact ih y _ R h'
  rw [hsplit] at h
  have h1 := happ _ _ _ _ h
  have := wpAnyS_early (ro := ro) (m := m) (D := D) (Q := Q) (g := l.length - e) hnd hsel hQ hDo (l.take e) 0 (Array.replicate l.length false) a _ (fun j hj => by
    have hj' : j < e := by rw [hte] at hj; exact hj
    simp [hj']) (by simp) (fun j oj _ hl => (by rw [getD_replicate_false] at hl; cases hl)) hC (by rw [hte]; exact hearly) h1 (fun a' w' hw' hR => by
      rw [hte]
      have H := wpHeadQ_lexU (md := .any) (C := C) (g := l.length - n) (l0 := listedTo e 0 (Array.replicate l.length false)) hsel hs hc (by rw [hsz]; exact hnl) ((l.take n).drop e) e _ a' (fun j hj => by
        have hj' : j < n - e := by rw [htn] at hj; exact hj
        rw [List.getElem?_drop, List.getElem?_take, if_pos (by omega)]
        simp) (by rw [htn]; omega) (invB_spec hinv) (fun _ h => h) (by rw [htn]; exact hlex) hR
      have := wpAnyS_of_headQ (ro := ro) (m := m) (D := D) (Q := Q) (g := l.length - n) hnd (fun listed a'' w'' hw'' hL => by
        have hmid : l.drop n = (l.take k).drop n ++ l.drop k := by
          have h3 := (List.take_append_drop (k - n) (l.drop n)).symm
          rw [List.drop_drop, show n + (k - n) = k by omega] at h3
          rw [h3]
          congr 1
          rw [List.take_drop, show n + (k - n) = k by omega]
        have hlist := wpListS_of_late (ro := ro) (m := m) (C := C) (D := D) (Q := Q) (ops := l.toArray) (P := P) (fun o ho c => by
          obtain ⟨i, hi⟩ := List.getElem?_of_mem ho
          exact noDefer_spec hnd (i := i) (by simpa using hi) c) ((l.take k).drop n) (l.drop k) n a'' w'' (fun o ho => by simpa using List.mem_of_mem_take (List.mem_of_mem_drop ho)) hw'' (fun j h1 h2 => by
            rw [hDd]
            simp only [List.length_drop, List.length_take] at h1 h2
            simp; omega) (hL.2 w'' hw'')
        rw [← hmid] at hlist
        have := wpAnyS_of_seq (md := .any) (Q := Q) (l.drop n) n listed a'' w'' (fun j => by simp [List.getElem?_drop]) (by rw [hdl]; exact hL.1) hlist
        rwa [hdl] at this) _ _ _ _ hw' H
      rw [htn, show n - e + (l.length - n) = l.length - e by omega] at this
      exact this)
  rw [hte, show e + (l.length - e) = l.length by omega] at this
  exact this

end
end Go.Proofs.YtnohglkilpnjhaaGreatDoor

/- The walks of tlv.items: the maker, and the iterator over a record's items. Conditions: no more than 65536 bytes, which lie below what the call made. -/
namespace Go.Proofs.YtnohglkilpnjhaaGreatDoor
open Go.RowKit Go.Shelf
attribute [local go_sem] Oper.semAt_some
set_option linter.unusedVariables false
set_option linter.unusedSimpArgs false

theorem oneI_drop {b : List UInt8} (h : 0 < b.length) : oneI b = match cutL 0 0 (b.drop 1) with
    | none => none
    | some (n, m) => if ((b.drop 1).drop m).length < n then none else some ((((b.getD 0 0).toNat : Int), ((b.drop 1).drop m).take n), ((b.drop 1).drop m).drop n) := by
  cases b with
  | nil => simp at h
  | cons y t => rfl
theorem Bytes.back {w w2 : World} {v : Value} {l : List UInt8} (h : Bytes w2 v l) (hb : Below w.heap.size w w2) (hk : ∀ k, v.ownBlock = some k → k < w.heap.size) : Bytes w v l := by
  obtain ⟨h1, a, c, rfl, h2, h3, h4, h5⟩ := h
  refine ⟨h1, a, c, rfl, h2, h3, h4, fun hne => ?_⟩
  obtain ⟨b, off, rfl, hb2, hc⟩ := h5 hne
  have hlt := hk b rfl
  exact ⟨b, off, rfl, hlt, fun j hj => by rw [← hc j hj]; exact (hb.cell (p := ⟨b, off + j, none⟩) hlt).symm⟩
theorem Bytes.blk {w : World} {v : Value} {l : List UInt8} (h : Bytes w v l) (h0 : 0 < l.length) : ∀ k, v.ownBlock = some k → k < w.heap.size := fun k e => by
  obtain ⟨b, off, c, rfl, hb, _⟩ := h.cell h0
  cases e
  exact hb

end Go.Proofs.YtnohglkilpnjhaaGreatDoor

/- The walk of tlv.Decode. Condition: none beyond the argument's reading. -/
namespace Go.Proofs.YtnohglkilpnjhaaGreatDoor
open Go.RowKit Go.Shelf
attribute [local go_sem] Oper.semAt_some
set_option linter.unusedVariables false
set_option linter.unusedSimpArgs false

/-- The slice v of items is the call's own, and so are the items' bytes. -/
def OwnI (w : World) (base : Nat) (v : Value) (l : List ItV) : Prop := w.ownsRow base 110 2 v l.length (flatI l) ∧ ∀ x ∈ l, Own8 w base 5 x.2 x.1.2
theorem OwnI.nil (w : World) (base : Nat) : OwnI w base (.slice none 0 0) [] := ⟨World.ownsRow_nil _ _ _ _, fun _ h => by cases h⟩
theorem OwnI.lt {w : World} {base : Nat} {v : Value} {l : List ItV} (h : OwnI w base v l) : ∀ k, v.ownBlock = some k → base ≤ k ∧ k < w.heap.size := World.ownsRow.lt h.1
theorem OwnI.len {w : World} {base : Nat} {v : Value} {l : List ItV} (h : OwnI w base v l) : ∃ a c, v = .slice a l.length c := by
  rcases h.1.2 with ⟨h1, h2⟩ | ⟨g, cap, cur, rfl, _⟩
  · rw [h1, show l.length = 0 by omega]; exact ⟨_, _, rfl⟩
  · exact ⟨_, _, rfl⟩
theorem OwnI.items {w : World} {base : Nat} {v : Value} {l : List ItV} (h : OwnI w base v l) : Items w v (l.map (·.1)) := by
  obtain ⟨h1, a, c, rfl, h2, h3, h4, h5⟩ := Row.of_owns h.1
  refine ⟨a, c, by simp, by simpa using h2, h3, h4, fun h0 => ?_⟩
  have h0' : 0 < l.length := by simpa using h0
  obtain ⟨b, off, rfl, hb, hc⟩ := h5 (by omega)
  refine ⟨b, off, rfl, hb, fun i hi => ?_⟩
  have hi' : i < l.length := by simpa using hi
  obtain ⟨f1, f2⟩ := flatI_at hi'
  have e : (l.map (·.1)).getD i (0, []) = (l.getD i ((0, []), undef)).1 := by simp [List.getD, hi']
  rw [e]
  refine ⟨(hc _ (by omega)).trans f1, _, (by rw [Nat.add_assoc]; exact (hc _ (by omega)).trans f2), ?_⟩
  have hm : l.getD i ((0, []), undef) ∈ l := by
    rw [List.getD_eq_getElem?_getD, List.getElem?_eq_getElem hi']; exact List.getElem_mem hi'
  exact (h.2 _ hm).bytes
theorem Own8.blk {w w' : World} {base e : Nat} {v : Value} {l : List UInt8} (h : Own8 w base e v l) (hk : ∀ k, v.ownBlock = some k → w'.heap[k]? = w.heap[k]?) : Own8 w' base e v l := by
  refine ⟨h.1, ?_⟩
  rcases h.2 with h | ⟨g, cap, cur, hv, hb, hh, hr⟩
  · exact .inl h
  · exact .inr ⟨g, cap, cur, hv, hb, (hk g (by rw [hv]; rfl)).trans hh, hr⟩
/-- It stays, while only other blocks are written. -/
theorem OwnI.keep {w w' : World} {base : Nat} {v : Value} {l : List ItV} (h : OwnI w base v l) (hk : ∀ k, base ≤ k → k < w.heap.size → w'.heap[k]? = w.heap[k]?) : OwnI w' base v l := by
  refine ⟨⟨h.1.1, ?_⟩, fun x hx => (h.2 x hx).blk fun k hk2 => hk k ((h.2 x hx).lt k hk2).1 ((h.2 x hx).lt k hk2).2⟩
  rcases h.1.2 with h2 | ⟨g, cap, cur, hv, hb, hh, hr⟩
  · exact .inl h2
  · exact .inr ⟨g, cap, cur, hv, hb, (hk g hb (Array.getElem?_eq_some_iff.1 hh).1).trans hh, hr⟩

/-- 'append(out, x)' of an item, out the call's own. -/
theorem run_appI {w : World} (base ty : Nat) (v : Value) (l : List ItV) (x : ItV) (hown : OwnI w base v l) (hx : Own8 w base 5 x.2 x.1.2) (g : Nat) (hg : w.heap[g]? = some (.cells #[.int .i64 x.1.1, x.2] 110 (0, 0))) (hlen : l.length + 1 ≤ 1099511627776) (hbase : base ≤ w.heap.size) :
    ∃ v' w', (Builtin.append_ #[111, 111] ty #[v, .slice (some ⟨g, 0, none⟩) 1 1]).run Tryz.prog w = .ok v' w' ∧ OwnI w' base v' (l ++ [x]) ∧ w.grownBy w' v.ownBlock ∧ (∀ k, v'.ownBlock = some k → v.ownBlock = some k ∨ w.heap.size ≤ k) := by
  obtain ⟨i, hi, hz, hsize, hby⟩ := info_parts infoItem
  obtain ⟨v', w', h1, h2, h3, _, h5⟩ := run_append_own_at (P := Tryz.prog) w base 111 ty 110 i _ 2 32 Tryz.underlying111 hi hz hsize hby (by simp [Value.cells]) (by decide) v l.length (flatI l) hown.1 ⟨g, 0, none⟩ 1 1 [.int .i64 x.1.1, x.2] (by simp)
    (fun j u hj => by
      have hjl : j < 2 := by
        rcases Nat.lt_or_ge j 2 with h | h
        · exact h
        · rw [List.getElem?_eq_none (by simpa using h)] at hj; cases hj
      have hadd : (⟨g, 0, none⟩ : Addr).add j = ⟨g, j, none⟩ := by unfold Addr.add; split <;> simp_all
      rw [hadd]
      simp only [World.cell?, hg]
      match j, hjl with
      | 0, _ => simpa using hj
      | 1, _ => simpa using hj)
    (fun u hu => by
      obtain ⟨a, c, he⟩ := hx.bytes.len
      simp at hu
      rcases hu with rfl | rfl
      · rfl
      · rw [he]; rfl) (by unfold maxLen; omega) (by omega) hbase
  refine ⟨v', w', h1, ⟨?_, ?_⟩, h3, ?_⟩
  · rw [flatI_snoc, List.length_append]; exact h2
  · have diff : ∀ (y : ItV), Own8 w base 5 y.2 y.1.2 → Own8 w' base 5 y.2 y.1.2 := fun y hy => hy.blk fun k hk => h3.block k (hy.lt k hk).2 (fun e => by
      have hy2 : ∃ cur, w.heap[k]? = some (.cells cur 5 (0, 0)) := by
        rcases hy.2 with ⟨h, _⟩ | ⟨g2, cap, cur, hv, hb, hh, hr⟩
        · rw [h] at hk; cases hk
        · rw [hv] at hk; cases hk; exact ⟨cur, hh⟩
      have ho2 : ∃ cur, w.heap[k]? = some (.cells cur 110 (0, 0)) := by
        rcases hown.1.2 with ⟨h, _⟩ | ⟨g2, cap, cur, hv, hb, hh, hr⟩
        · rw [h] at e; cases e
        · rw [hv] at e; cases e; exact ⟨cur, hh⟩
      obtain ⟨c1, q1⟩ := hy2
      obtain ⟨c2, q2⟩ := ho2
      rw [q1] at q2
      simp at q2)
    intro y hy
    rcases List.mem_append.1 hy with hy | hy
    · exact diff y (hown.2 y hy)
    · have : y = x := by simpa using hy
      subst this
      exact diff y hx
  · intro k hk
    rcases h5 with h5 | h5
    · exact .inl (by rw [← h5]; exact hk)
    · rw [h5] at hk; cases hk; exact .inr (Nat.le_refl _)

theorem wp_appI {w : World} {o : Oper} {a : Act} {K : Act → World → Prop} {Q : Exit → Act → World → Prop} (s y : Operand)
    (ho : o.op = .call { callee := .builtin .append, args := #[s, y], argTypes := #[111, 111] }) (base : Nat)
    (v : Value) (l : List ItV) (x : ItV) (g : Nat) (hs : a.eval s = v) (hown : OwnI w base v l) (hy : a.eval y = .slice (some ⟨g, 0, none⟩) 1 1) (hx : Own8 w base 5 x.2 x.1.2) (hg : w.heap[g]? = some (.cells #[.int .i64 x.1.1, x.2] 110 (0, 0)))
    (hlen : l.length + 1 ≤ 1099511627776) (hbase : base ≤ w.heap.size)
    (h : ∀ v' w', OwnI w' base v' (l ++ [x]) → w.grownBy w' v.ownBlock → (∀ k, v'.ownBlock = some k → v.ownBlock = some k ∨ w.heap.size ≤ k) → K (a.put o.dst v') w') : o.wp Tryz.prog a w K Q := by
  obtain ⟨v', w', hr, h2, h3, h4⟩ := run_appI base o.type v l x hown hx g hg hlen hbase
  unfold Oper.wp execOp
  simp only [ho, resolve, invoke, builtin, Sem.run_bind, Sem.run_pure, Result.andThen_ok, List.map_toArray, List.map_cons, List.map_nil, hs, hy, hr]
  exact h v' w' h2 h3 h4

/-- What Decode hands back. -/
def DecPost (w : World) (r : Option (List It)) (e : Ending) (w' : World) : Prop :=
  ∃ v, e = .returned (.tuple #[v, .int .i64 (if r.isSome then 0 else 2)]) ∧ Items w' v (r.getD []) ∧ Below w.heap.size w w'

/-- .. the items in blocks of the call's own. -/
def DecPostO (w : World) (r : Option (List It)) (e : Ending) (w' : World) : Prop :=
  ∃ v pre base, e = .returned (.tuple #[v, .int .i64 (if r.isSome then 0 else 2)]) ∧ OwnI w' base v pre ∧ pre.map (·.1) = r.getD [] ∧ Below w.heap.size w w' ∧ w.heap.size ≤ base
theorem DecPostO.post {w : World} {r : Option (List It)} {e : Ending} {w' : World} (h : DecPostO w r e w') : DecPost w r e w' := by
  obtain ⟨v, pre, base, h1, h2, h3, h4, _⟩ := h
  exact ⟨v, h1, h3 ▸ h2.items, h4⟩

/-- What holds ahead of each round. -/
def DecI (w : World) (b : List UInt8) (pre : List ItV) (W : World) : Prop :=
  ∃ (ov : Value), One W (w.heap.size + 2) ov 111 ∧ One W (w.heap.size + 3) (.int .i64 (lastN (pre.map (·.1)) 0)) 3 ∧ One W w.heap.size (.slice none 0 0) 111 ∧ One W (w.heap.size + 1) (.int .i64 0) 26 ∧
    OwnI W (w.heap.size + 7) ov pre ∧ checkF (pre.map (·.1)) 0 = some (pre.map (·.1)) ∧ Below w.heap.size w W ∧ w.heap.size + 5 ≤ W.heap.size
/-- .. and how a round may leave. -/
def DecX (w : World) (b : List UInt8) (c : Code) (pre : List ItV) (W : World) : Prop :=
  c = .ret ∧ One W w.heap.size (.slice none 0 0) 111 ∧ One W (w.heap.size + 1) (.int .i64 2) 26 ∧ checkF (itemsL b) 0 = none ∧ Below w.heap.size w W ∧ w.heap.size + 5 ≤ W.heap.size

theorem DecI.keep {w : World} {b : List UInt8} {pre : List ItV} {A B : World} (h : DecI w b pre A) (hk : Kept (fun k => k ≠ w.heap.size + 4 ∧ k ≠ w.heap.size + 6) A B) : DecI w b pre B := by
  obtain ⟨ov, h1, h2, h3, h4, h5, h6, h7, h8⟩ := h
  exact ⟨ov, h1.of_block (hk.block _ h1.lt (by omega)), h2.of_block (hk.block _ h2.lt (by omega)), h3.of_block (hk.block _ h3.lt (by omega)), h4.of_block (hk.block _ h4.lt (by omega)),
    h5.keep (fun k h1 h2 => hk.block k h2 (by omega)), h6, hk.to_below h7 (by omega) (fun k hk2 => by omega), Nat.le_trans h8 hk.size⟩
theorem DecX.keep {w : World} {b : List UInt8} {c : Code} {pre : List ItV} {A B : World} (h : DecX w b c pre A) (hk : Kept (fun k => k ≠ w.heap.size + 4 ∧ k ≠ w.heap.size + 6) A B) : DecX w b c pre B := by
  obtain ⟨h0, h1, h2, h3, h7, h8⟩ := h
  exact ⟨h0, h1.of_block (hk.block _ h1.lt (by omega)), h2.of_block (hk.block _ h2.lt (by omega)), h3, hk.to_below h7 (by omega) (fun k hk2 => by omega), Nat.le_trans h8 hk.size⟩

end Go.Proofs.YtnohglkilpnjhaaGreatDoor

/- The items of a row of the call's own, in their places. No condition. -/
namespace Go.Proofs.YtnohglkilpnjhaaGreatDoor
open Go.RowKit
set_option linter.unusedVariables false

theorem OwnI.cellsAt {w : World} {base : Nat} {v : Value} {l : List ItV} (h : OwnI w base v l) (h0 : 0 < l.length) : ∃ g c, v = .slice (some ⟨g, 0, none⟩) l.length c ∧ g < w.heap.size ∧
    ∀ i, i < l.length → w.cell? ⟨g, i * 2, none⟩ = some (.int .i64 ((l.map (·.1)).getD i (0, [])).1) ∧ ∃ u, w.cell? ⟨g, i * 2 + 1, none⟩ = some u ∧ Bytes w u ((l.map (·.1)).getD i (0, [])).2 ∧ ∀ k, u.ownBlock = some k → base ≤ k ∧ k < w.heap.size := by
  obtain ⟨h1, a, c, hv, h2, h3, h4, h5⟩ := Row.of_owns h.1
  obtain ⟨b, off, hab, hb, hc⟩ := h5 (by omega)
  have hoff : off = 0 := by
    rcases h.1.2 with ⟨hn, _⟩ | ⟨g, cap, cur, hv2, _⟩
    · rw [hn] at hv; simp only [Value.slice.injEq] at hv; omega
    · rw [hv2, hab] at hv; cases hv; rfl
  subst hoff
  refine ⟨b, c, by rw [hv, hab], hb, fun i hi => ?_⟩
  obtain ⟨f1, f2⟩ := flatI_at hi
  have e : (l.map (·.1)).getD i (0, []) = (l.getD i ((0, []), undef)).1 := by simp [List.getD, hi]
  have hm : l.getD i ((0, []), undef) ∈ l := by
    rw [List.getD_eq_getElem?_getD, List.getElem?_eq_getElem hi]; exact List.getElem_mem hi
  rw [e]
  have c1 := hc (i * 2) (by omega)
  have c2 := hc (i * 2 + 1) (by omega)
  rw [Nat.zero_add] at c1 c2
  exact ⟨c1.trans f1, _, c2.trans f2, (h.2 _ hm).bytes, fun k hk => (h.2 _ hm).lt k hk⟩

end Go.Proofs.YtnohglkilpnjhaaGreatDoor

/- The walk of the reference's cut. No condition. -/
namespace Go.Proofs.YtnohglkilpnjhaaGreatDoor
open Go.RowKit

/-- What the reference's cut comes to. -/
def RefCutPost (w : World) (l : List UInt8) (e : Ending) (w' : World) : Prop :=
  e = .returned (.tuple #[.int .u64 (((cutL 0 0 l).getD (0, 0)).1 : Int), .int .i64 (((cutL 0 0 l).getD (0, 0)).2 : Int)]) ∧ w' = w

theorem refcut_none {w : World} {l : List UInt8} (h : cutL 0 0 l = none) : RefCutPost w l (.returned (.tuple #[.int .u64 0, .int .i64 0])) w := by
  unfold RefCutPost; rw [h]; exact ⟨rfl, rfl⟩

theorem refcut_some {w : World} {l : List UInt8} {x y : Int} {n m : Nat} (h : cutL 0 0 l = some (n, m)) (hx : x = n) (hy : y = m) : RefCutPost w l (.returned (.tuple #[.int .u64 x, .int .i64 y])) w := by
  unfold RefCutPost; rw [h]; subst hx; subst hy; exact ⟨rfl, rfl⟩

theorem wrap_u64 {n : Int} (h0 : 0 ≤ n) (h1 : n < 18446744073709551616) : IntKind.u64.wrap n = n := by simp [IntKind.wrap, IntKind.bits, IntKind.signed]; omega

theorem refcut_sum {k acc c P : Nat} (hk : k < 9) (ha : acc < P) (hP : P = 128 ^ k) :
    IntKind.u64.wrap ((acc : Int) + IntKind.u64.wrap ((c : Int) % 128 * (P : Int))) = ((acc + c % 128 * 128 ^ k : Nat) : Int) ∧ IntKind.u64.wrap ((P : Int) * 128) = ((128 ^ (k + 1) : Nat) : Int) ∧ acc + c % 128 * 128 ^ k < 128 ^ (k + 1) := by
  have h1 := pow9 (show k + 1 ≤ 9 by omega)
  have h2 : c % 128 * 128 ^ k ≤ 127 * 128 ^ k := Nat.mul_le_mul_right _ (by omega)
  have e : (c : Int) % 128 * (P : Int) = ((c % 128 * 128 ^ k : Nat) : Int) := by rw [hP]; simp
  rw [e, Nat.pow_succ] at *
  rw [hP] at ha ⊢
  generalize c % 128 * 128 ^ k = z at *
  generalize 128 ^ k = q at *
  refine ⟨?_, ?_, by omega⟩
  · rw [wrap_u64 (n := (z : Int)) (by omega) (by omega), wrap_u64 (by omega) (by omega)]; simp
  · rw [wrap_u64 (by omega) (by omega)]; simp

theorem refcut_sum9 {acc c P : Nat} (ha : acc < P) (hP : P = 128 ^ 9) (hc : (c : Int) < 128) (h1 : ¬ 1 < (c : Int) % 128) :
    IntKind.u64.wrap ((acc : Int) + IntKind.u64.wrap ((c : Int) % 128 * (P : Int))) = ((acc + c * 128 ^ 9 : Nat) : Int) := by
  have hc1 : c ≤ 1 := by omega
  subst hP
  have e : (c : Int) % 128 * ((128 ^ 9 : Nat) : Int) = ((c * 128 ^ 9 : Nat) : Int) := by rw [show (c : Int) % 128 = c from by omega]; simp
  rw [e, wrap_u64 (n := ((c * 128 ^ 9 : Nat) : Int)) (by omega) (by omega), wrap_u64 (by omega) (by omega)]
  simp

set_option maxRecDepth 100000 in
set_option maxHeartbeats 1600000 in
theorem refcut_any (v : Value) (l : List UInt8) (w : World) (hl : Bytes w v l) :
    Calls Tryz.prog 90 #[v] w (RefCutPost w l) := by
  obtain ⟨a, cp, rfl⟩ := hl.len
  have HL := Lib.hid hl
  clear hl
  go_enter Tryz.func90, Tryz.ntmps90
  go_wp2
  go_loopw [4, 5, 6] (fun nv pv iv wr => ∃ (k acc : Nat) (p : Int), k ≤ l.length ∧ k ≤ 10 ∧ (k ≤ 9 → acc < 128 ^ k ∧ p = ((128 ^ k : Nat) : Int)) ∧ (k = 10 → cutL 0 0 l = none) ∧ nv = .int .u64 acc ∧ pv = .int .u64 p ∧ iv = .int .i64 k ∧ cutL 0 0 l = cutL k acc (l.drop k) ∧ wr = w)
    (fun _ _ iv _ => l.length - (intOf iv).toNat)
  case atStart => exact ⟨0, 0, 1, by omega, by omega, by simp, by simp, rfl, rfl, rfl, rfl, rfl⟩
  case round =>
    obtain ⟨k, acc, p, hk, hk10, hacc, hten, rfl, rfl, rfl, heq, rfl⟩ := hrel
    by_cases hlt : k < l.length
    · by_cases h10 : k = 10
      · have hn := hten h10
        have Hn := Lib.hid hn
        clear hn heq hacc hten
        subst h10
        go_wp2
        go_ret2
        exact refcut_none Hn.out
      · obtain ⟨ha1, hp⟩ := hacc (by omega)
        clear hacc
        obtain ⟨b, off, c', hv, hbl, hc⟩ := HL.out.cell (by omega)
        obtain ⟨rfl, rfl⟩ : a = some ⟨b, off, none⟩ ∧ cp = c' := by cases hv; exact ⟨rfl, rfl⟩
        have hck := hc k hlt
        have Hc := Lib.hid hc
        clear hc hv hten
        rw [drop_at hlt] at heq
        obtain ⟨c, hcc⟩ : ∃ c, c = l.getD k 0 := ⟨_, rfl⟩
        rw [← hcc] at hck heq
        have Heq := Lib.hid heq
        clear hcc heq
        unfold B8 at hck
        have hcn := c.toNat_lt
        have hcb : (c.toNat : Int) < 256 := by omega
        have hp9 := pow9 (show k ≤ 9 by omega)
        obtain ⟨P, hP⟩ : ∃ P : Nat, P = 128 ^ k := ⟨_, rfl⟩
        rw [← hP] at hp hp9 ha1
        subst hp
        have HP := Lib.hid hP
        clear hP
        have hlt10 : (k : Int) < 10 := by omega
        by_cases h9 : k = 9
        · subst h9
          by_cases hc1 : 1 < (c.toNat : Int) % 128
          · go_wp2
            go_ret2
            exact refcut_none (Heq.out.trans (by rw [cutL, if_pos (.inr ⟨rfl, by omega⟩)]))
          · by_cases hc128 : (c.toNat : Int) < 128
            · by_cases hc0 : c.toNat = 0
              · have hz : ((c.toNat : Int) == 0) = true := by simp [hc0]
                have Hc0 := Lib.hid hc0
                clear hc0
                go_wp2
                go_ret2
                exact refcut_none (Heq.out.trans (by rw [cutL, if_neg (by omega), if_pos (by omega), if_neg (by have := Hc0.out; omega)]))
              · have hz : ((c.toNat : Int) == 0) = false := by simp; omega
                go_wp2
                go_ret2
                exact refcut_some (Heq.out.trans (by rw [cutL, if_neg (by omega), if_pos (by omega), if_pos (by omega)])) (refcut_sum9 ha1 HP.out hc128 (by omega)) (by omega)
            · go_wp2
              go_round
              case rel =>
                refine ⟨10, _, _, by omega, by omega, fun h => absurd h (by omega), fun _ => ?_, rfl, rfl, by go_num, ?_, by first | trivial | rfl⟩
                · rw [Heq.out, cutL, if_pos (.inr ⟨rfl, by omega⟩)]
                · rw [Heq.out, cutL, if_pos (.inr ⟨rfl, by omega⟩), cutL_ten]
              case measure => simp [intOf]; omega
        · have e9 : ((k : Int) == 9) = false := by simp; omega
          have hk9 : k < 9 := by omega
          by_cases hc128 : (c.toNat : Int) < 128
          · by_cases hc0 : c.toNat = 0
            · have hz : ((c.toNat : Int) == 0) = true := by simp [hc0]
              have Hc0 := Lib.hid hc0
              clear hc0
              by_cases hk0 : k = 0
              · have hk1 : ¬ (0 : Int) < k := by omega
                have Hk0 := Lib.hid hk0
                clear hk0
                go_wp2
                go_ret2
                exact refcut_some (Heq.out.trans (by rw [cutL, if_neg (by omega), if_pos (by omega), if_pos (.inl Hk0.out)])) (by rw [(refcut_sum hk9 ha1 HP.out).1, Nat.mod_eq_of_lt (by omega)]) (by omega)
              · have hk1 : (0 : Int) < k := by omega
                go_wp2
                go_ret2
                exact refcut_none (Heq.out.trans (by rw [cutL, if_neg (by omega), if_pos (by omega), if_neg (by have := Hc0.out; omega)]))
            · have hz : ((c.toNat : Int) == 0) = false := by simp; omega
              go_wp2
              all_goals
                go_ret2
                exact refcut_some (Heq.out.trans (by rw [cutL, if_neg (by omega), if_pos (by omega), if_pos (by omega)])) (by rw [(refcut_sum hk9 ha1 HP.out).1, Nat.mod_eq_of_lt (by omega)]) (by omega)
          · go_wp2
            go_round
            case rel =>
              obtain ⟨q1, q2, q3⟩ := refcut_sum (c := c.toNat) hk9 ha1 HP.out
              exact ⟨k + 1, _, _, by omega, by omega, fun _ => ⟨q3, rfl⟩, fun h => absurd h (by omega), by rw [q1], by rw [q2], by go_num, by rw [Heq.out, cutL, if_neg (by omega), if_neg (by omega)], by first | trivial | rfl⟩
            case measure => simp [intOf]; omega
    · go_wp2
      go_ret2
      exact refcut_none (heq.trans (by rw [List.drop_of_length_le (by omega), cutL]))

end Go.Proofs.YtnohglkilpnjhaaGreatDoor

/- The walks of tlv.ToUint, tlv.ToInt and of the references'. No condition. -/
namespace Go.Proofs.YtnohglkilpnjhaaGreatDoor
open Go.RowKit
set_option linter.unusedVariables false

def errOf (b : Bool) : Int := if b then 0 else 2
set_option maxRecDepth 100000 in
set_option maxHeartbeats 800000 in
theorem refToUint_any (v : Value) (l : List UInt8) (w : World) (hl : Bytes w v l) :
    Calls Tryz.prog 91 #[v] w fun e w' => e = .returned (.tuple #[.int .u64 (((toU l).getD 0 : Nat) : Int), .int .i64 (errOf (toU l).isSome)]) ∧ Below w.heap.size w w' := by
  obtain ⟨a, c, hv⟩ := hl.len
  subst hv
  go_enter Tryz.func91, Tryz.ntmps91
  go_wp2_with fail
  refine (refcut_any _ l _ hl).mono ?_
  rintro e w1 ⟨rfl, rfl⟩
  cases hc : cutL 0 0 l with
  | none =>
    have ht : toU l = none := by unfold toU; rw [hc]
    have Ht := Lib.hid ht
    clear hc ht
    simp only [Option.getD_none]
    go_wp2
    go_ret2
    exact ⟨by rw [Ht.out]; rfl, Below.refl _ _⟩
  | some nm =>
    obtain ⟨n, m⟩ := nm
    have hm := (cutL_lt (by omega) (by simp) hc).2
    have hm0 : ((m : Int) == 0) = false := by simp; omega
    simp only [Option.getD_some]
    by_cases h : m = l.length
    · have ht : toU l = some n := by unfold toU; rw [hc]; simp [h]
      have Ht := Lib.hid ht
      clear hc ht
      subst h
      go_wp2
      go_ret2
      exact ⟨by rw [Ht.out]; rfl, Below.refl _ _⟩
    · have ht : toU l = none := by unfold toU; rw [hc]; simp [h]
      have hd : ((m : Int) != (l.length : Int)) = true := by rw [bne_iff_ne]; omega
      have Ht := Lib.hid ht
      clear hc ht h
      go_wp2
      go_ret2
      exact ⟨by rw [Ht.out]; rfl, Below.refl _ _⟩

end Go.Proofs.YtnohglkilpnjhaaGreatDoor

/- The walk of manifest.blob: what a record tells of a blob. No condition. -/
namespace Go.Proofs.YtnohglkilpnjhaaGreatDoor
open Go.RowKit
set_option linter.unusedVariables false
set_option linter.unusedSimpArgs false
set_option maxRecDepth 100000

/-- 32 bytes as a hash in its place. -/
theorem Bytes.dig5 {w : World} {v : Value} {l : List UInt8} (h : Bytes w v l) (h32 : l.length = 32) : ∃ g off c, v = .slice (some ⟨g, off, none⟩) 32 c ∧ DigAt w g off l := by
  obtain ⟨g, off, c, hv, _, hc⟩ := h.cell (by omega)
  exact ⟨g, off, c, by rw [hv, h32], h32, fun j hj => by rw [hc j (by omega)]; simp [List.getElem?_eq_getElem (show j < l.length by omega), List.getD]⟩
/-- A blob built out of four parts, among operations of any order. -/
theorem quiet_build_blob {W : World} {o : Oper} {a : Act} {K : Act → Prop} {p q r s : Operand} (x y : List UInt8) (n k : Int) (ho : o.op = .build 81 #[(0, p), (1, q), (2, r), (3, s)])
    (hp : a.eval p = .agg (x.map B8).toArray) (hq : a.eval q = .int .i64 n) (hr : a.eval r = .int .i64 k) (hs : a.eval s = .agg (y.map B8).toArray) (hx : x.length = 32) (hy : y.length = 32)
    (hK : K (a.put o.dst (BlobV ⟨x, n, k, y⟩))) : o.quiet Tryz.prog a (Grew W) K := by
  refine quiet_val (fun w _ => ?_) hK
  have := run_build_blob x y n k hx hy w
  unfold execOp
  simp only [ho, List.map_toArray, List.map_cons, List.map_nil, hp, hq, hr, hs, Sem.run_bind, this, Result.andThen_ok, Sem.run_pure]

end Go.Proofs.YtnohglkilpnjhaaGreatDoor

/- The walk of manifest.Decode: the image that bytes are. No condition. -/
namespace Go.Proofs.YtnohglkilpnjhaaGreatDoor
open Go.RowKit
set_option linter.unusedVariables false
set_option linter.unusedSimpArgs false
set_option maxRecDepth 100000

/-- An image as a value of one cell: the slice of its blobs. -/
def RImg : RecT 52 Value where
  n := 1
  bytes := 24
  zero := .slice none 0 0
  cells := fun v => [v]
  ok := fun v => v.oneCell' = true
  pos := by decide
  small := by decide
  few := by decide
  zok := rfl
  len := fun _ => rfl
  one := fun {x} h v hv => by simp at hv; rw [hv]; exact h
  agg := ⟨_, Tryz.underlying52, rfl⟩
  info := by kernel_rfl
theorem RImg_one {w : World} {g : Nat} {v : Value} (h : RImg.O w g v) : One w g v 52 := h.1
theorem one_RImg {w : World} {g : Nat} {v : Value} (h : One w g v 52) (hv : v.oneCell' = true) : RImg.O w g v := ⟨h, hv⟩
def ImgDPost (w : World) (r : Option (List BlobL)) (e : Ending) (w' : World) : Prop := ∃ v, e = .returned (.tuple #[.agg #[v], .int .i64 (if r.isSome then 0 else 2)]) ∧ RBlob.Row w' v (r.getD []) ∧ Below w.heap.size w w'
theorem imgD_fail {w w' : World} {r : Option (List BlobL)} (h : r = none) (hb : Below w.heap.size w w') : ImgDPost w r (.returned (.tuple #[RImg.V (.slice none 0 0), .int .i64 2])) w' := ⟨_, by rw [h]; rfl, by rw [h]; exact RecT.Row.nil _, hb⟩
theorem build_img0 (w : World) : (Instr.build 52 #[]).run Tryz.prog w = .ok (.agg #[.slice none 0 0]) w := by kernel_rfl

theorem flatB_ge : ∀ l : List It, l.length ≤ (flatB l).length
  | [] => by simp [flatB]
  | x :: l => by
    have ih := flatB_ge l
    rw [flatB_cons, List.length_append, List.length_cons]
    have : 1 ≤ (itB x).length := by unfold itB; simp
    omega
theorem below_set {w2 w10 : World} {g : Nat} (h : Below g w2 w10) (v : Value) : Below g w2 (w10.setCell ⟨g, 0, none⟩ v) :=
  h.trans ⟨rfl, rfl, rfl, by simp [World.setCell], fun k hk => Below.heap_setCell _ _ _ _ (by show k ≠ g; omega)⟩
end Go.Proofs.YtnohglkilpnjhaaGreatDoor

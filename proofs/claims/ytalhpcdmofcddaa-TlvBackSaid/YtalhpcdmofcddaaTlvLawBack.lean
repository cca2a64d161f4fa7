/- The walk of the law TlvBack: it answers true. No condition. -/
import Derived.Test.YtalhpcdmofcddaaTlvSame
import Derived.Test.YtalhpcdmofcddaaTlvFind
import Derived.Test.YtalhpcdmofcddaaTlvBackPlain
namespace Go.Proofs.Ytalhpcdmofcddaa
open Go.RowKit
set_option linter.unusedVariables false

theorem findL_check : ∀ (l : List It) (last : Int), checkF l last = some l → ∀ x ∈ l, findL x.1 l = some x.2
  | [], _, _, x, hx => by cases hx
  | y :: l, last, h, x, hx => by
    simp only [checkF] at h
    split at h
    · cases h
    · rename_i h1
      cases hc : checkF l y.1 with
      | none => rw [hc] at h; cases h
      | some q =>
        rw [checkF_some l y.1 q hc] at hc
        cases hx with
        | head => simp [findL]
        | tail _ hx =>
          have := checkF_all l y.1 hc x hx
          rw [findL, if_neg (by omega)]
          exact findL_check l y.1 hc x hx
theorem findL_encL {l : List It} {c : List UInt8} (h : encL l = some c) : ∀ x ∈ l, findL x.1 l = some x.2 :=
  findL_check l 0 (encF_parts l 0 [] c (by simp) h).2.1

theorem getD_memI {l : List It} {k : Nat} (h : k < l.length) : l.getD k (0, []) ∈ l := by
  rw [List.getD_eq_getElem?_getD, List.getElem?_eq_getElem h]; exact List.getElem_mem h

set_option maxRecDepth 100000 in
set_option maxHeartbeats 3200000 in
theorem TlvBack_walk (v : Value) (l : List It) (vb : Value) (lb : List UInt8) (w : World) (hl : Items w v l) (hr : ∀ x ∈ l, -9223372036854775808 ≤ x.1 ∧ x.1 ≤ 9223372036854775807) (hlb : Bytes w vb lb) :
    Calls Try.prog 10 #[v, vb] w fun e w' => e = .returned (.bool true) ∧ Below w.heap.size w w' := by
  clear hr
  obtain ⟨a, c, hv⟩ := hl.len
  have hll := hl.le
  have HL := Lib.hid hl
  clear hl
  subst hv
  obtain ⟨ba, bc, hv⟩ := hlb.len
  have hbl := hlb.le
  have HLB := Lib.hid hlb
  clear hlb
  subst hv
  go_enter Try.func10, Try.ntmps10
  go_wp2_with fail
  refine (awake_any _).mono ?_
  rintro e w1 ⟨rfl, hb⟩
  go_wp2_with fail
  refine (few_any _ l _ (HL.out.of_new hb)).mono ?_
  rintro e w1' ⟨rfl, rfl⟩
  cases hf : fewL l with
  | false =>
    go_wp2
    go_ret
    exact ⟨rfl, hb⟩
  | true =>
    by_cases hbig : 70000 < lb.length
    · have t0 : (70000 : Int) < (lb.length : Int) := by omega
      go_wp2
      go_ret
      exact ⟨rfl, hb⟩
    have t0 : ¬ (70000 : Int) < (lb.length : Int) := by omega
    clear hf
    rcases henc : encL l with _ | cc
    · have HENC := Lib.hid henc
      clear henc
      go_wp2_with fail
      refine (Encode_any _ l _ (HL.out.of_new hb)).mono ?_
      intro e w2 he
      rw [HENC.out] at he
      obtain ⟨hb2, v2, rfl⟩ := he
      have HBT := Lib.hid (below_next hb hb2)
      rcases hdb : decL lb with _ | L
      · have HDB := Lib.hid hdb
        clear hdb
        go_wp2_with fail
        refine (Decode_any _ lb _ (HLB.out.of_new HBT.out)).mono ?_
        rintro e w9 ⟨v9, rfl, hi9, hb9⟩
        rw [HDB.out] at hi9 ⊢
        obtain ⟨a9, c9, h9⟩ := hi9.len
        subst h9
        go_wp2
        go_ret
        exact ⟨rfl, below_next HBT.out hb9⟩
      · have hbk := encL_decL hdb
        have HDB := Lib.hid hdb
        clear hdb
        go_wp2_with fail
        refine (Decode_any _ lb _ (HLB.out.of_new HBT.out)).mono ?_
        rintro e w9 ⟨v9, rfl, hi9, hb9⟩
        rw [HDB.out] at hi9 ⊢
        obtain ⟨a9, c9, h9⟩ := hi9.len
        subst h9
        have HEB := Lib.hid hbk
        clear hbk
        have hbT := below_next HBT.out hb9
        simp only [Option.isSome_some, if_true]
        go_wp2_with fail
        refine (Encode_any _ L _ hi9).mono ?_
        intro e w10 he
        rw [HEB.out] at he
        obtain ⟨hb10, v10, rfl, ho10⟩ := he
        obtain ⟨a10, c10, h10⟩ := ho10.bytes.len
        subst h10
        have hx := ho10.bytes.str
        have hy := (HLB.out.of_new (below_next hbT hb10)).str
        have hq : (lb == lb) = true := by simp
        go_wp2
        go_ret
        exact ⟨rfl, below_next hbT hb10⟩
    · have hdc := decL_encL henc
      have hfd := findL_encL henc
      have hcl := encL_le henc
      have hil : ∀ x ∈ l, x.2.length ≤ 70000 := fun x hx => by
        obtain ⟨q1, q2, q3⟩ := encF_parts l 0 [] cc (by simp) henc
        have := flatB_mem_len l x hx
        rw [List.nil_append] at q1
        rw [← q1] at this
        omega
      have HENC := Lib.hid henc
      have HDC := Lib.hid hdc
      have HFD := Lib.hid hfd
      have HIL := Lib.hid hil
      clear henc hdc hfd hil
      go_wp2_with fail
      refine (Encode_any _ l _ (HL.out.of_new hb)).mono ?_
      intro e w2 he
      rw [HENC.out] at he
      obtain ⟨hb2, v2, rfl, ho2⟩ := he
      obtain ⟨a2, c2, h2⟩ := ho2.bytes.len
      subst h2
      have hbA := below_next hb hb2
      clear hb hb2
      go_wp2_with fail
      refine (Decode_any _ cc _ ho2.bytes).mono ?_
      rintro e w3 ⟨v3, rfl, hi3, hb3⟩
      rw [HDC.out] at hi3 ⊢
      simp only [Option.isSome_some, if_true, Option.getD_some] at hi3 ⊢
      obtain ⟨a3, c3, h3⟩ := hi3.len
      subst h3
      have hbB := below_next hbA hb3
      clear ho2 hbA hb3
      go_wp2_with fail
      refine (Same_any _ _ l l _ hi3 (HL.out.of_new hbB)).mono ?_
      rintro e w4 ⟨rfl, hb4⟩
      rw [decide_eq_true rfl]
      have hbC := below_next hbB hb4
      have hi4 := hi3.of_new hb4
      have HI4 := Lib.hid hi4
      have HBC := Lib.hid hbC
      clear hi3 hb4 hbB hi4 hbC
      go_wp2
      go_loopw [4, 12, 13, 14] (fun _ iv _ _ wr => ∃ (k : Nat), k ≤ l.length ∧ iv = .int .i64 k ∧ Below w4.heap.size w4 wr)
        (fun _ iv _ _ _ => l.length - (intOf iv).toNat)
      case atStart => exact ⟨0, by omega, rfl, Below.refl _ _⟩
      case round =>
        obtain ⟨k, hk, rfl, hwr⟩ := hrel
        have hbr := below_next HBC.out hwr
        by_cases hlt : k < l.length
        · obtain ⟨lb', loff, lc, hv, hbl', hc⟩ := HL.out.cell (by omega)
          obtain ⟨rfl, rfl⟩ : a = some ⟨lb', loff, none⟩ ∧ c = lc := by cases hv; exact ⟨rfl, rfl⟩
          obtain ⟨x1', xu, x2', hxu⟩ := hc k hlt
          have x1 := (hbr.cell (p := ⟨lb', loff + k * 2, none⟩) hbl').trans x1'
          have hk1 : (k : Int) < (l.length : Int) := by omega
          have hfx := HFD.out _ (getD_memI hlt)
          generalize l.getD k (0, []) = x at *
          obtain ⟨xn, xb⟩ := x
          dsimp only at *
          obtain ⟨xa, xc, hv2⟩ := hxu.len
          subst hv2
          have HFX := Lib.hid hfx
          have HXU := Lib.hid hxu
          have HX2 := Lib.hid x2'
          clear hfx hc hv x1' hxu x2'
          go_wp2_with fail
          refine (Find_any _ l xn _ (HI4.out.of_new hwr) HIL.out).mono ?_
          rintro e w5 ⟨v5, rfl, ho5, hb5⟩
          rw [HFX.out] at ho5 ⊢
          simp only [Option.isSome_some, Option.getD_some] at ho5 ⊢
          obtain ⟨a5, c5, h5⟩ := ho5.len
          subst h5
          have hb5' := below_next hbr hb5
          have hwr5 := below_next hwr hb5
          have x2 := (hb5'.cell (p := ⟨lb', loff + k * 2 + 1, none⟩) hbl').trans HX2.out
          have hs1 := fun n => (ho5.of_new (below_drewn n)).str
          have hs2 := fun n => ((HXU.out.of_new hb5').of_new (below_drewn n)).str
          have hq : (xb == xb) = true := by simp
          clear ho5 hb5 hwr hbr
          go_wp2
          go_quiet (fail)
          go_wp2
          go_roundw
          case rel => exact ⟨k + 1, hlt, by go_num, hwr5.trans (below_drewn _)⟩
          case measure => simp [intOf]; omega
        · have hk1 : ¬ (k : Int) < (l.length : Int) := by omega
          have HBT := Lib.hid (hbr)
          rcases hdb : decL lb with _ | L
          · have HDB := Lib.hid hdb
            clear hdb
            go_wp2_with fail
            refine (Decode_any _ lb _ (HLB.out.of_new HBT.out)).mono ?_
            rintro e w9 ⟨v9, rfl, hi9, hb9⟩
            rw [HDB.out] at hi9 ⊢
            obtain ⟨a9, c9, h9⟩ := hi9.len
            subst h9
            go_wp2
            go_ret
            exact ⟨rfl, below_next HBT.out hb9⟩
          · have hbk := encL_decL hdb
            have HDB := Lib.hid hdb
            clear hdb
            go_wp2_with fail
            refine (Decode_any _ lb _ (HLB.out.of_new HBT.out)).mono ?_
            rintro e w9 ⟨v9, rfl, hi9, hb9⟩
            rw [HDB.out] at hi9 ⊢
            obtain ⟨a9, c9, h9⟩ := hi9.len
            subst h9
            have HEB := Lib.hid hbk
            clear hbk
            have hbT := below_next HBT.out hb9
            simp only [Option.isSome_some, if_true]
            go_wp2_with fail
            refine (Encode_any _ L _ hi9).mono ?_
            intro e w10 he
            rw [HEB.out] at he
            obtain ⟨hb10, v10, rfl, ho10⟩ := he
            obtain ⟨a10, c10, h10⟩ := ho10.bytes.len
            subst h10
            have hx := ho10.bytes.str
            have hy := (HLB.out.of_new (below_next hbT hb10)).str
            have hq : (lb == lb) = true := by simp
            go_wp2
            go_ret
            exact ⟨rfl, below_next hbT hb10⟩

end Go.Proofs.Ytalhpcdmofcddaa

/- The walk of the reference's Encode, and of the law's awake. No condition. -/
import Derived.Test.YtnomekfemadpeaaDoorTlvEncode
namespace Go.Proofs.YtnomekfemadpeaaDoor
open Go.RowKit
set_option linter.unusedVariables false

set_option maxRecDepth 100000 in
set_option maxHeartbeats 3200000 in
theorem refEncode_any (v : Value) (l : List It) (w : World) (hl : Items w v l) :
    Calls Tryd.prog 53 #[v] w (EncPost w (rencL l)) := by
  obtain ⟨i0, hi, hz0, hz1, hz2⟩ := info_parts infoU8
  obtain ⟨a, cp, rfl⟩ := hl.len
  have HL := Lib.hid hl
  have hll := hl.le
  clear hl
  go_enter Tryd.func53, Tryd.ntmps53
  by_cases hmany : (63 : Int) < l.length
  · go_wp2
    go_ret2
    exact enc_none (by rw [rencL, if_pos (by omega)]) (Below.refl _ _)
  · go_wp2
    go_loopw [4, 5, 6] (fun ov lv iv wr => ∃ (k : Nat) (last : Int) (out : List UInt8), k ≤ l.length ∧ out.length ≤ 65536 ∧ 0 ≤ last ∧ last ≤ 63 ∧ lv = .int .i64 last ∧ iv = .int .i64 k ∧ rencL l = rencF (l.drop k) last out ∧
        Own8 wr w.heap.size 5 ov out ∧ Below w.heap.size w wr)
      (fun _ _ iv _ => l.length - (intOf iv).toNat)
    case atStart => exact ⟨0, 0, [], by omega, by simp, by omega, by omega, rfl, rfl, by rw [rencL, if_neg (by omega)]; rfl, Own8.nil _ _ _, Below.refl _ _⟩
    case round =>
      obtain ⟨k, last, out, hk, ho, hla, hlb, rfl, rfl, heq, hown, hb⟩ := hrel
      have hsz := hb.size
      by_cases hlt : k < l.length
      · obtain ⟨b, off, c', hv, hbl, hc⟩ := HL.out.cell (by omega)
        obtain ⟨rfl, rfl⟩ : a = some ⟨b, off, none⟩ ∧ cp = c' := by cases hv; exact ⟨rfl, rfl⟩
        obtain ⟨hc1', u, hc2', hu⟩ := hc k hlt
        have hc1 := (hb.cell (p := ⟨b, off + k * 2, none⟩) hbl).trans hc1'
        have hc2 := (hb.cell (p := ⟨b, off + k * 2 + 1, none⟩) hbl).trans hc2'
        rw [drop_at_it hlt] at heq
        generalize l.getD k (0, []) = x at *
        obtain ⟨ua, uc, rfl⟩ := hu.len
        obtain ⟨oa, oc, hoe⟩ := hown.bytes.len
        subst hoe
        have Hc := Lib.hid hc
        have Hu := Lib.hid hu
        have Heq := Lib.hid heq
        have Hw1 := Lib.hid hc1'
        have Hw2 := Lib.hid hc2'
        clear hc hv hu heq hc1' hc2'
        by_cases hx1 : x.1 ≤ last
        · go_wp2
          go_ret2
          exact enc_none (Heq.out.trans (by rw [rencF, if_pos (.inl hx1)])) hb
        · by_cases hx2 : 63 < x.1
          · go_wp2
            go_ret2
            exact enc_none (Heq.out.trans (by rw [rencF, if_pos (.inr (.inl hx2))])) hb
          · by_cases hx3 : (65536 : Int) < x.2.length
            · go_wp2
              go_ret2
              exact enc_none (Heq.out.trans (by rw [rencF, if_pos (.inr (.inr (by omega)))])) hb
            · have hul := uint_len10 (n := x.2.length) (by omega)
              have hk1 : k + 1 ≤ l.length := hlt
              have hx1p : 0 ≤ x.1 := by omega
              have one1 : ∀ W : World, Bytes (W.alloc (.cells #[.int .u8 x.1] 5)) (.slice (some ⟨W.heap.size, 0, none⟩) 1 1) [UInt8.ofNat x.1.toNat] := fun W => by
                have e : Value.int .u8 x.1 = B8 (UInt8.ofNat x.1.toNat) := by unfold B8; congr 1; simp; omega
                rw [e]; exact Bytes.one _ _ _
              have Hone := Lib.hid one1
              clear one1
              go_wp2_with (at_builtin; refine wpList_app8 rfl (.tmp 45) (.tmp 48) 22 rfl w.heap.size 5 i0 Tryd.underlying22 hi hz0 hz1 hz2 _ out rfl (hown.alloc _) _ [UInt8.ofNat x.1.toNat] rfl ?c1 ?c2 ?c3 ?_)
              case c1 => exact Hone.out _
              case c2 => first | omega | (simp; omega)
              case c3 => first | omega | (simp; omega)
              intro v1 w1 hown1 hg1 _
              have hbA : Below w.heap.size w w1 := (hb.alloc hsz _).grown hg1 (by simp; omega) (fun j hj => (hown.lt j hj).1)
              have hc1 := (hbA.cell (p := ⟨b, off + k * 2, none⟩) hbl).trans Hw1.out
              have hc2 := (hbA.cell (p := ⟨b, off + k * 2 + 1, none⟩) hbl).trans Hw2.out
              clear hg1 hb hown
              have hszA := hbA.size
              go_wp2_with fail
              refine (refUint_at _ x.2.length _ rfl (by omega)).mono ?_
              rintro e w2 ⟨v2, rfl, ho2, hb2⟩
              have hbB : Below w.heap.size w w2 := hbA.trans (hb2.mono hszA)
              have hown2 := hown1.new hb2
              have hszB := hbB.size
              go_wp2_with (at_builtin; refine wpList_app8 rfl (.tmp 50) (.tmp 58) 22 rfl w.heap.size 5 i0 Tryd.underlying22 hi hz0 hz1 hz2 _ (out ++ [UInt8.ofNat x.1.toNat]) rfl hown2 _ (uint x.2.length) rfl ho2.bytes ?d2 hszB ?_)
              case d2 => simp; omega
              intro v3 w3 hown3 hg3 _
              have hbC : Below w.heap.size w w3 := hbB.grown hg3 hszB (fun j hj => (hown2.lt j hj).1)
              have hc1 := (hbC.cell (p := ⟨b, off + k * 2, none⟩) hbl).trans Hw1.out
              have hc2 := (hbC.cell (p := ⟨b, off + k * 2 + 1, none⟩) hbl).trans Hw2.out
              have hszC := hbC.size
              have hu3 := Hu.out.of_new hbC
              clear hg3 hb2 ho2 hown1 hown2 hbA hbB
              go_wp2_with (at_builtin; refine wpList_app8 rfl (.tmp 60) (.tmp 65) 22 rfl w.heap.size 5 i0 Tryd.underlying22 hi hz0 hz1 hz2 _ _ rfl hown3 _ x.2 rfl hu3 ?e2 hszC ?_)
              case e2 => simp; omega
              intro v4 w4 hown4 hg4 _
              have hbD : Below w.heap.size w w4 := hbC.grown hg4 hszC (fun j hj => (hown3.lt j hj).1)
              have Heq2 := Heq.out
              rw [rencF, if_neg (by omega)] at Heq2
              clear hg4 hu3 hown3 hbC hc1 hc2
              simp only [List.append_assoc, List.cons_append, List.nil_append] at hown4 Heq2
              generalize out ++ UInt8.ofNat x.1.toNat :: (uint x.2.length ++ x.2) = out' at *
              obtain ⟨oa', oc', hoe⟩ := hown4.bytes.len
              subst hoe
              have Heq3 := Lib.hid Heq2
              clear Heq2 Heq
              by_cases hx4 : (65536 : Int) < out'.length
              · go_wp2
                go_ret2
                exact enc_none (Heq3.out.trans (if_pos (by omega))) hbD
              · go_wp2
                go_roundw
                case rel => exact ⟨k + 1, x.1, out', hk1, by omega, by omega, by omega, rfl, by go_num, Heq3.out.trans (if_neg (by omega)), hown4, hbD⟩
                case measure => simp [intOf]; omega
      · obtain ⟨oa, oc, rfl⟩ := hown.bytes.len
        have Heq := Lib.hid heq
        clear heq
        go_wp2
        go_ret2
        exact enc_some (Heq.out.trans (by rw [List.drop_of_length_le (by omega)]; rfl)) hb hown

end Go.Proofs.YtnomekfemadpeaaDoor

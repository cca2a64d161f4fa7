/- The walks of tlv.Encode and of the reference's. No condition. -/
import Derived.Test.YtnomekfemadpeaaDoorTlvUint
import Derived.Test.YtnomekfemadpeaaDoorItems
import Derived.Deep.QuietTactic
import Derived.BigQuiet
import Derived.Deep.DeepCutAuto
import Derived.Deep.RegionHeld3
import Derived.Deep.AppendLies
namespace Go.Proofs.YtnomekfemadpeaaDoor
open Go.RowKit
set_option linter.unusedVariables false

/-- What Encode comes to. -/
def EncPost (w : World) (r : Option (List UInt8)) (e : Ending) (w' : World) : Prop :=
  Below w.heap.size w w' ∧ ∃ v, match r with
    | none => e = .returned (.tuple #[.slice none 0 0, .int .i64 1])
    | some c => e = .returned (.tuple #[v, .int .i64 0]) ∧ Own8 w' w.heap.size 5 v c

theorem enc_none {w w' : World} {r : Option (List UInt8)} (h : r = none) (hb : Below w.heap.size w w') : EncPost w r (.returned (.tuple #[.slice none 0 0, .int .i64 1])) w' := by
  subst h; exact ⟨hb, .slice none 0 0, rfl⟩
theorem enc_some {w w' : World} {r : Option (List UInt8)} {c : List UInt8} {v : Value} (h : r = some c) (hb : Below w.heap.size w w') (hv : Own8 w' w.heap.size 5 v c) : EncPost w r (.returned (.tuple #[v, .int .i64 0])) w' := by
  subst h; exact ⟨hb, v, rfl, hv⟩

set_option maxRecDepth 100000 in
set_option maxHeartbeats 1600000 in
theorem Encode_any (v : Value) (l : List It) (w : World) (hl : Items w v l) :
    Calls Tryd.prog 52 #[v] w (EncPost w (encL l)) := by
  obtain ⟨i0, hi, hz0, hz1, hz2⟩ := info_parts infoU8
  obtain ⟨a, cp, rfl⟩ := hl.len
  have HL := Lib.hid hl
  have hll := hl.le
  clear hl
  go_enter Tryd.func52, Tryd.ntmps52
  go_wp2
  go_loopw [4, 5, 10] (fun ov lv iv wr => ∃ (k : Nat) (last : Int) (out : List UInt8), k ≤ l.length ∧ out.length ≤ 65536 ∧ 0 ≤ last ∧ last ≤ 63 ∧ lv = .int .i64 last ∧ iv = .int .i64 k ∧ encL l = encF (l.drop k) last out ∧
      Own8 wr w.heap.size 5 ov out ∧ Below w.heap.size w wr)
    (fun _ _ iv _ => l.length - (intOf iv).toNat)
  case atStart => exact ⟨0, 0, [], by omega, by simp, by omega, by omega, rfl, rfl, rfl, Own8.nil _ _ _, Below.refl _ _⟩
  case round =>
    obtain ⟨k, last, out, hk, ho, hla, hlb, rfl, rfl, heq, hown, hb⟩ := hrel
    have hsz := hb.size
    by_cases hlt : k < l.length
    · obtain ⟨b, off, c', hv, hbl, hc⟩ := HL.out.cell (by omega)
      obtain ⟨rfl, rfl⟩ : a = some ⟨b, off, none⟩ ∧ cp = c' := by cases hv; exact ⟨rfl, rfl⟩
      obtain ⟨hc1, u, hc2, hu⟩ := hc k hlt
      have hc1 := (hb.cell (p := ⟨b, off + k * 2, none⟩) hbl).trans hc1
      have hc2 := (hb.cell (p := ⟨b, off + k * 2 + 1, none⟩) hbl).trans hc2
      rw [drop_at_it hlt] at heq
      generalize l.getD k (0, []) = x at *
      obtain ⟨ua, uc, rfl⟩ := hu.len
      obtain ⟨oa, oc, rfl⟩ := hown.bytes.len
      have Hc := Lib.hid hc
      have Hu := Lib.hid hu
      have Heq := Lib.hid heq
      clear hc hv hu heq
      by_cases hx1 : x.1 ≤ last
      · go_wp2
        go_ret2
        exact enc_none (Heq.out.trans (by rw [encF, if_pos (.inl hx1)])) (hb.alloc hsz _)
      · by_cases hx2 : 63 < x.1
        · go_wp2
          go_ret2
          exact enc_none (Heq.out.trans (by rw [encF, if_pos (.inr (.inl hx2))])) (hb.alloc hsz _)
        · by_cases hx3 : 65536 - (out.length : Int) < x.2.length
          · go_wp2
            go_ret2
            exact enc_none (Heq.out.trans (by rw [encF, if_pos (.inr (.inr hx3))])) (hb.alloc hsz _)
          · go_wp2
            have hown0 := hown.alloc (.cells #[.int .i64 x.1, .slice ua x.2.length uc] 79)
            have hb0 := hb.alloc hsz (.cells #[.int .i64 x.1, .slice ua x.2.length uc] 79)
            have hk0 : (wr.alloc (.cells #[.int .i64 x.1, .slice ua x.2.length uc] 79)).cell? ⟨wr.heap.size, 1, none⟩ = some (.slice ua x.2.length uc) := by go_simp
            have hs0 : wr.heap.size < (wr.alloc (.cells #[.int .i64 x.1, .slice ua x.2.length uc] 79)).heap.size := by simp
            have one1 : ∀ W : World, Bytes (W.alloc (.cells #[.int .u8 (IntKind.u8.wrap x.1)] 5)) (.slice (some ⟨W.heap.size, 0, none⟩) 1 1) [UInt8.ofNat x.1.toNat] := fun W => by
              have e : Value.int .u8 (IntKind.u8.wrap x.1) = B8 (UInt8.ofNat x.1.toNat) := by unfold B8; congr 1; simp [IntKind.wrap_u8']; omega
              rw [e]; exact Bytes.one _ _ _
            generalize wr.alloc (.cells #[.int .i64 x.1, .slice ua x.2.length uc] 79) = W0 at *
            go_cut [4] (fun ov W => Own8 W w.heap.size 5 ov (out ++ [UInt8.ofNat x.1.toNat] ++ uint x.2.length ++ x.2) ∧ Below w.heap.size w W)
            case first =>
              have hlto := hown.lt
              have hul := uint_len10 (n := x.2.length) (by omega)
              have hw64 : IntKind.u64.wrap (x.2.length : Int) = (x.2.length : Int) := by simp [IntKind.wrap, IntKind.bits, IntKind.signed]; omega
              go_region_held3 (fun w' => w'.cell? ⟨wr.heap.size, 1, none⟩ = some (.slice ua x.2.length uc))
                (first
                  | go_keep
                  | exact grownBy.cell_of hg3 (by assumption) (fun k hk => by rcases hn2 k hk with h | h; (rcases hn1 k h with h | h; (have := (hlto k h).2; exact Nat.ne_of_lt this); (simp at h; show k ≠ wr.heap.size; omega)); (show k ≠ wr.heap.size; omega))
                  | exact grownBy.cell_of hg2 (by assumption) (fun k hk => by rcases hn1 k hk with h | h; (have := (hlto k h).2; exact Nat.ne_of_lt this); (simp at h; show k ≠ wr.heap.size; omega))
                  | exact grownBy.cell_of hg1 (by assumption) (fun k hk => by have := (hlto k hk).2; exact Nat.ne_of_lt this)
                  | exact (hb2.cell (p := ⟨wr.heap.size, 1, none⟩) (by show wr.heap.size < _; omega)).trans (by assumption))
                (first
                  | (refine step_app8 rfl (.tmp 34) (.tmp 37) 22 rfl w.heap.size 5 i0 Tryd.underlying22 hi hz0 hz1 hz2 _ out rfl ?own _ [UInt8.ofNat x.1.toNat] rfl ?byt ?len ?bas ?_; (case own => exact hown0.alloc _); (case byt => exact one1 _); (case len => first | omega | (simp; omega)); (case bas => first | omega | (simp; omega)); intro v1 w1 hown1 hg1 hn1; have hsz1 : W0.heap.size < w1.heap.size := Nat.lt_of_lt_of_le (by simp) hg1.size; have hbA : Below w.heap.size w w1 := ((hb0.alloc (by omega) _).drew).grown hg1 (by simp; omega) (fun j hj => (hlto j hj).1))
                  | (refine step_app8 rfl (.tmp 38) (.tmp 43) 22 rfl w.heap.size 5 i0 Tryd.underlying22 hi hz0 hz1 hz2 _ (out ++ [UInt8.ofNat x.1.toNat]) rfl ?own2 _ (uint x.2.length) rfl ?byt2 ?len2 ?bas2 ?_; (case own2 => exact hown1.new hb2); (case byt2 => exact ho2.bytes); (case len2 => simp; omega); (case bas2 => omega); intro v3 w3 hown3 hg2 hn2; have hsz3 := hg2.size; have hbC : Below w.heap.size w w3 := hbB.grown hg2 (by omega) (fun j hj => (hown1.lt j hj).1))
                  | (refine step_app8 rfl (.tmp 44) (.tmp 46) 22 rfl w.heap.size 5 i0 Tryd.underlying22 hi hz0 hz1 hz2 _ (out ++ [UInt8.ofNat x.1.toNat] ++ uint x.2.length) rfl ?own3 _ x.2 rfl ?byt3 ?len3 ?bas3 ?_; (case own3 => exact hown3); (case byt3 => exact Hu.out.of_new hbC); (case len3 => simp; omega); (case bas3 => omega); intro v4 w4 hown4 hg3 hn3; have hbD : Below w.heap.size w w4 := hbC.grown hg3 (by omega) (fun j hj => (hown3.lt j hj).1))
                  | (go_simp; go_at_call 51; refine (Uint_at _ x.2.length _ rfl (by omega)).mono ?_; rintro e w2 ⟨v2, rfl, ho2, hb2⟩; have hsz2 := hb2.size; have hbB : Below w.heap.size w w2 := hbA.trans (hb2.mono (by omega))))
              go_wp2_with fail
              go_meet
              exact ⟨hown4, hbD⟩
            case rest =>
              obtain ⟨hown', hb'⟩ := hcut
              clear hown hb hown0 hb0 hk0 hs0 one1
              have Heq2 := Heq.out
              rw [encF, if_neg (by omega)] at Heq2
              generalize out ++ [UInt8.ofNat x.1.toNat] ++ uint x.2.length ++ x.2 = out' at *
              obtain ⟨oa', oc', hoe⟩ := hown'.bytes.len
              subst hoe
              have Heq3 := Lib.hid Heq2
              clear Heq2 Heq
              have hk1 : k + 1 ≤ l.length := hlt
              have ho1 : ¬ (65536 : Int) < out'.length → out'.length ≤ 65536 := by omega
              by_cases hx4 : (65536 : Int) < out'.length
              · go_wp2
                go_ret2
                exact enc_none (Heq3.out.trans (if_pos (by omega))) hb'
              · go_wp2
                go_roundw
                case rel =>
                  refine ⟨k + 1, x.1, out', hk1, by omega, by omega, by omega, rfl, by go_num, Heq3.out.trans (if_neg (by omega)), hown', hb'⟩
                case measure => simp [intOf]; omega
    · obtain ⟨oa, oc, rfl⟩ := hown.bytes.len
      have Heq := Lib.hid heq
      clear heq
      go_wp2
      go_ret2
      exact enc_some (Heq.out.trans (by rw [List.drop_of_length_le (by omega)]; rfl)) hb hown

end Go.Proofs.YtnomekfemadpeaaDoor

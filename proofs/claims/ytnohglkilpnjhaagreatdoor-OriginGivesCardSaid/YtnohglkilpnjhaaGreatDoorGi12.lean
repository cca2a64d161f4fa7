/- Texts of this claim, one behind the other: each begins with a comment that says what it proves and asks. -/
import Derived.Test.YtnohglkilpnjhaaGreatDoorGi11
import Derived.Test.YtnohglkilpnjhaaGreatDoorProg
import Derived.Deep.QuietTactic
import Derived.BigQuiet
import Derived.Deep.DeepCutAuto
import Derived.Deep.RegionHeld3
import Derived.Deep.AppendLies
import Derived.Maps.AppendAt
import Derived.Great.BuildSlice
import Derived.Deep.Cut
import Derived.LoopNIn
import Derived.LoopIn
import Derived.Shelf.Abstract
import Derived.Shelf.RegionOpen
import Derived.IntWalk
/- The walks of tlv.Uint, tlv.Int and of the references' Uint and Int: each answers, in new memory, the bytes of the number. No condition. -/
namespace Go.Proofs.YtnohglkilpnjhaaGreatDoor
open Go.RowKit

theorem Bytes.str {w : World} {v : Value} {l : List UInt8} (h : Bytes w v l) : (convert 33 9 v).run Tryz.prog w = .ok (.string ⟨l.toArray⟩) w :=
  h.string Tryz.underlying33 Tryz.underlying5 Tryz.underlying9

set_option maxHeartbeats 400000 in
theorem Uint_any (n : Nat) (w : World) (h1 : n < 18446744073709551616) :
    Calls Tryz.prog 124 #[.int .u64 n] w fun e w' => ∃ v, e = .returned v ∧ Own8 w' w.heap.size 5 v (uint n) ∧ Below w.heap.size w w' := by
  obtain ⟨i0, hi, hz0, hz1, hz2⟩ := info_parts infoU8
  go_enter Tryz.func124, Tryz.ntmps124
  go_wp2
  go_loopw [0, 3] (fun nv v wr => ∃ (k : Nat) (pre : List UInt8), k < 18446744073709551616 ∧ nv = .int .u64 k ∧ uint n = pre ++ uint k ∧ Own8 wr w.heap.size 5 v pre ∧ Below w.heap.size w wr)
    (fun nv _ _ => (intOf nv).toNat)
  case atStart => exact ⟨n, [], h1, rfl, rfl, Own8.nil _ _ _, Below.refl _ _⟩
  case round =>
    obtain ⟨k, pre, hk, rfl, heq, hown, hb⟩ := hrel
    have hp : pre.length ≤ 10 := by
      have h2 := uint_len10 h1
      rw [heq, List.length_append] at h2
      omega
    have Heq := Lib.hid heq
    clear heq
    have hsz := hb.size
    by_cases hlt : (128 : Int) ≤ k
    · go_wp2_with (at_builtin; refine wpList_app8 rfl (.tmp 8) (.tmp 12) 33 rfl w.heap.size 5 i0 Tryz.underlying33 hi hz0 hz1 hz2 _ pre rfl (hown.alloc _) _ [UInt8.ofNat (k % 128 + 128)] rfl ?c1 ?c2 ?c3 ?_)
      case c1 =>
        rw [show ((k : Int) % 256) = ((k % 256 : Nat) : Int) from by omega, or128_u8 _ (by omega), show k % 256 % 128 = k % 128 from by omega]
        have e : (((k % 128 + 128 : Nat)) : Int) = ((UInt8.ofNat (k % 128 + 128)).toNat : Int) := by simp; omega
        rw [e]
        exact Bytes.one _ _ _
      case c2 => simp; omega
      case c3 => simp; omega
      · intro v' w1 hown1 hg _
        have hb1 : Below w.heap.size w w1 := (hb.alloc hsz _).grown hg (by simp; omega) (fun j hj => (hown.lt j hj).1)
        clear hown hb hg hsz
        go_wp2
        go_roundw
        case rel =>
          refine ⟨k / 128, _, by omega, by go_num, ?_, hown1, hb1⟩
          rw [Heq.out, uint_big (by omega)]; simp
        case measure => simp [intOf]; omega
    · go_wp2_with (at_builtin; refine wpList_app8 rfl (.tmp 14) (.tmp 17) 33 rfl w.heap.size 5 i0 Tryz.underlying33 hi hz0 hz1 hz2 _ pre rfl (hown.alloc _) _ [UInt8.ofNat k] rfl ?d1 ?d2 ?d3 ?_)
      case d1 =>
        have e : (k : Int) = ((UInt8.ofNat k).toNat : Int) := by simp; omega
        rw [e]
        exact Bytes.one _ _ _
      case d2 => first | omega | (simp; omega)
      case d3 => first | omega | (simp; omega)
      · intro v' w1 hown1 hg _
        have hb1 : Below w.heap.size w w1 := (hb.alloc hsz _).grown hg (by simp; omega) (fun j hj => (hown.lt j hj).1)
        clear hown hb hg hsz
        go_wp2
        go_ret
        refine ⟨_, rfl, ?_, hb1⟩
        rw [Heq.out, uint_small (by omega)]; exact hown1

theorem Uint_at (x : Int) (n : Nat) (w : World) (hx : x = n) (h1 : n < 18446744073709551616) :
    Calls Tryz.prog 124 #[.int .u64 x] w fun e w' => ∃ v, e = .returned v ∧ Own8 w' w.heap.size 5 v (uint n) ∧ Below w.heap.size w w' := by
  subst hx; exact Uint_any n w h1

end Go.Proofs.YtnohglkilpnjhaaGreatDoor

/- The walks of tlv.Encode and of the reference's. No condition. -/
namespace Go.Proofs.YtnohglkilpnjhaaGreatDoor
open Go.RowKit
set_option linter.unusedVariables false

/-- What Encode comes to. -/
def EncPost (w : World) (r : Option (List UInt8)) (e : Ending) (w' : World) : Prop :=
  Below w.heap.size w w' ∧ ∃ v, match r with
    | none => e = .returned (.tuple #[.slice none 0 0, .int .i64 1])
    | some c => e = .returned (.tuple #[v, .int .i64 0]) ∧ Own8 w' w.heap.size 5 v c

theorem enc_none {w w' : World} {r : Option (List UInt8)} (h : r = none) (hb : Below w.heap.size w w') : EncPost w r (.returned (.tuple #[.slice none 0 0, .int .i64 1])) w' := by
  subst h; exact ⟨hb, .slice none 0 0, rfl⟩
theorem enc_some {w w' : World} {r : Option (List UInt8)} {c : List UInt8} {v : Value} (h : r = some c) (hb : Below w.heap.size w w') (hv : Own8 w' w.heap.size 5 v c) : EncPost w r (.returned (.tuple #[v, .int .i64 0])) w' := by
  subst h; exact ⟨hb, v, rfl, hv⟩

set_option maxRecDepth 100000 in
set_option maxHeartbeats 1600000 in
theorem Encode_any (v : Value) (l : List It) (w : World) (hl : Items w v l) :
    Calls Tryz.prog 125 #[v] w (EncPost w (encL l)) := by
  obtain ⟨i0, hi, hz0, hz1, hz2⟩ := info_parts infoU8
  obtain ⟨a, cp, rfl⟩ := hl.len
  have HL := Lib.hid hl
  have hll := hl.le
  clear hl
  go_enter Tryz.func125, Tryz.ntmps125
  go_wp2
  go_loopw [4, 5, 10] (fun ov lv iv wr => ∃ (k : Nat) (last : Int) (out : List UInt8), k ≤ l.length ∧ out.length ≤ 65536 ∧ 0 ≤ last ∧ last ≤ 63 ∧ lv = .int .i64 last ∧ iv = .int .i64 k ∧ encL l = encF (l.drop k) last out ∧
      Own8 wr w.heap.size 5 ov out ∧ Below w.heap.size w wr)
    (fun _ _ iv _ => l.length - (intOf iv).toNat)
  case atStart => exact ⟨0, 0, [], by omega, by simp, by omega, by omega, rfl, rfl, rfl, Own8.nil _ _ _, Below.refl _ _⟩
  case round =>
    obtain ⟨k, last, out, hk, ho, hla, hlb, rfl, rfl, heq, hown, hb⟩ := hrel
    have hsz := hb.size
    by_cases hlt : k < l.length
    · obtain ⟨b, off, c', hv, hbl, hc⟩ := HL.out.cell (by omega)
      obtain ⟨rfl, rfl⟩ : a = some ⟨b, off, none⟩ ∧ cp = c' := by cases hv; exact ⟨rfl, rfl⟩
      obtain ⟨hc1, u, hc2, hu⟩ := hc k hlt
      have hc1 := (hb.cell (p := ⟨b, off + k * 2, none⟩) hbl).trans hc1
      have hc2 := (hb.cell (p := ⟨b, off + k * 2 + 1, none⟩) hbl).trans hc2
      rw [drop_at_it hlt] at heq
      generalize l.getD k (0, []) = x at *
      obtain ⟨ua, uc, rfl⟩ := hu.len
      obtain ⟨oa, oc, rfl⟩ := hown.bytes.len
      have Hc := Lib.hid hc
      have Hu := Lib.hid hu
      have Heq := Lib.hid heq
      clear hc hv hu heq
      by_cases hx1 : x.1 ≤ last
      · go_wp2
        go_ret2
        exact enc_none (Heq.out.trans (by rw [encF, if_pos (.inl hx1)])) (hb.alloc hsz _)
      · by_cases hx2 : 63 < x.1
        · go_wp2
          go_ret2
          exact enc_none (Heq.out.trans (by rw [encF, if_pos (.inr (.inl hx2))])) (hb.alloc hsz _)
        · by_cases hx3 : 65536 - (out.length : Int) < x.2.length
          · go_wp2
            go_ret2
            exact enc_none (Heq.out.trans (by rw [encF, if_pos (.inr (.inr hx3))])) (hb.alloc hsz _)
          · go_wp2
            have hown0 := hown.alloc (.cells #[.int .i64 x.1, .slice ua x.2.length uc] 110)
            have hb0 := hb.alloc hsz (.cells #[.int .i64 x.1, .slice ua x.2.length uc] 110)
            have hk0 : (wr.alloc (.cells #[.int .i64 x.1, .slice ua x.2.length uc] 110)).cell? ⟨wr.heap.size, 1, none⟩ = some (.slice ua x.2.length uc) := by go_simp
            have hs0 : wr.heap.size < (wr.alloc (.cells #[.int .i64 x.1, .slice ua x.2.length uc] 110)).heap.size := by simp
            have one1 : ∀ W : World, Bytes (W.alloc (.cells #[.int .u8 (IntKind.u8.wrap x.1)] 5)) (.slice (some ⟨W.heap.size, 0, none⟩) 1 1) [UInt8.ofNat x.1.toNat] := fun W => by
              have e : Value.int .u8 (IntKind.u8.wrap x.1) = B8 (UInt8.ofNat x.1.toNat) := by unfold B8; congr 1; simp [IntKind.wrap_u8']; omega
              rw [e]; exact Bytes.one _ _ _
            generalize wr.alloc (.cells #[.int .i64 x.1, .slice ua x.2.length uc] 110) = W0 at *
            go_cut [4] (fun ov W => Own8 W w.heap.size 5 ov (out ++ [UInt8.ofNat x.1.toNat] ++ uint x.2.length ++ x.2) ∧ Below w.heap.size w W)
            case first =>
              have hlto := hown.lt
              have hul := uint_len10 (n := x.2.length) (by omega)
              have hw64 : IntKind.u64.wrap (x.2.length : Int) = (x.2.length : Int) := by simp [IntKind.wrap, IntKind.bits, IntKind.signed]; omega
              go_region_held3 (fun w' => w'.cell? ⟨wr.heap.size, 1, none⟩ = some (.slice ua x.2.length uc))
                (first
                  | go_keep
                  | exact grownBy.cell_of hg3 (by assumption) (fun k hk => by rcases hn2 k hk with h | h; (rcases hn1 k h with h | h; (have := (hlto k h).2; exact Nat.ne_of_lt this); (simp at h; show k ≠ wr.heap.size; omega)); (show k ≠ wr.heap.size; omega))
                  | exact grownBy.cell_of hg2 (by assumption) (fun k hk => by rcases hn1 k hk with h | h; (have := (hlto k h).2; exact Nat.ne_of_lt this); (simp at h; show k ≠ wr.heap.size; omega))
                  | exact grownBy.cell_of hg1 (by assumption) (fun k hk => by have := (hlto k hk).2; exact Nat.ne_of_lt this)
                  | exact (hb2.cell (p := ⟨wr.heap.size, 1, none⟩) (by show wr.heap.size < _; omega)).trans (by assumption))
                (first
                  | (refine step_app8 rfl (.tmp 34) (.tmp 37) 33 rfl w.heap.size 5 i0 Tryz.underlying33 hi hz0 hz1 hz2 _ out rfl ?own _ [UInt8.ofNat x.1.toNat] rfl ?byt ?len ?bas ?_; (case own => exact hown0.alloc _); (case byt => exact one1 _); (case len => first | omega | (simp; omega)); (case bas => first | omega | (simp; omega)); intro v1 w1 hown1 hg1 hn1; have hsz1 : W0.heap.size < w1.heap.size := Nat.lt_of_lt_of_le (by simp) hg1.size; have hbA : Below w.heap.size w w1 := ((hb0.alloc (by omega) _).drew).grown hg1 (by simp; omega) (fun j hj => (hlto j hj).1))
                  | (refine step_app8 rfl (.tmp 38) (.tmp 43) 33 rfl w.heap.size 5 i0 Tryz.underlying33 hi hz0 hz1 hz2 _ (out ++ [UInt8.ofNat x.1.toNat]) rfl ?own2 _ (uint x.2.length) rfl ?byt2 ?len2 ?bas2 ?_; (case own2 => exact hown1.new hb2); (case byt2 => exact ho2.bytes); (case len2 => simp; omega); (case bas2 => omega); intro v3 w3 hown3 hg2 hn2; have hsz3 := hg2.size; have hbC : Below w.heap.size w w3 := hbB.grown hg2 (by omega) (fun j hj => (hown1.lt j hj).1))
                  | (refine step_app8 rfl (.tmp 44) (.tmp 46) 33 rfl w.heap.size 5 i0 Tryz.underlying33 hi hz0 hz1 hz2 _ (out ++ [UInt8.ofNat x.1.toNat] ++ uint x.2.length) rfl ?own3 _ x.2 rfl ?byt3 ?len3 ?bas3 ?_; (case own3 => exact hown3); (case byt3 => exact Hu.out.of_new hbC); (case len3 => simp; omega); (case bas3 => omega); intro v4 w4 hown4 hg3 hn3; have hbD : Below w.heap.size w w4 := hbC.grown hg3 (by omega) (fun j hj => (hown3.lt j hj).1))
                  | (go_simp; go_at_call 124; refine (Uint_at _ x.2.length _ rfl (by omega)).mono ?_; rintro e w2 ⟨v2, rfl, ho2, hb2⟩; have hsz2 := hb2.size; have hbB : Below w.heap.size w w2 := hbA.trans (hb2.mono (by omega))))
              go_wp2_with fail
              go_meet
              exact ⟨hown4, hbD⟩
            case rest =>
              obtain ⟨hown', hb'⟩ := hcut
              clear hown hb hown0 hb0 hk0 hs0 one1
              have Heq2 := Heq.out
              rw [encF, if_neg (by omega)] at Heq2
              generalize out ++ [UInt8.ofNat x.1.toNat] ++ uint x.2.length ++ x.2 = out' at *
              obtain ⟨oa', oc', hoe⟩ := hown'.bytes.len
              subst hoe
              have Heq3 := Lib.hid Heq2
              clear Heq2 Heq
              have hk1 : k + 1 ≤ l.length := hlt
              have ho1 : ¬ (65536 : Int) < out'.length → out'.length ≤ 65536 := by omega
              by_cases hx4 : (65536 : Int) < out'.length
              · go_wp2
                go_ret2
                exact enc_none (Heq3.out.trans (if_pos (by omega))) hb'
              · go_wp2
                go_roundw
                case rel =>
                  refine ⟨k + 1, x.1, out', hk1, by omega, by omega, by omega, rfl, by go_num, Heq3.out.trans (if_neg (by omega)), hown', hb'⟩
                case measure => simp [intOf]; omega
    · obtain ⟨oa, oc, rfl⟩ := hown.bytes.len
      have Heq := Lib.hid heq
      clear heq
      go_wp2
      go_ret2
      exact enc_some (Heq.out.trans (by rw [List.drop_of_length_le (by omega)]; rfl)) hb hown

end Go.Proofs.YtnohglkilpnjhaaGreatDoor

/- Rows of items (api.Item): their cells; an append of an item whose bytes lie anywhere but in the row. No condition. -/
namespace Go.Proofs.YtnohglkilpnjhaaGreatDoor
open Go.RowKit
set_option linter.unusedVariables false
set_option linter.unusedSimpArgs false

/-- An item and the value of its bytes. -/
abbrev ItV := It × Value

def flatI (l : List ItV) : List Value := l.flatMap fun x => [.int .i64 x.1.1, x.2]
theorem flatI_snoc (l : List ItV) (x : ItV) : flatI (l ++ [x]) = flatI l ++ [.int .i64 x.1.1, x.2] := by simp [flatI]
theorem flatI_at {l : List ItV} {i : Nat} (hi : i < l.length) : (flatI l)[i * 2]? = some (.int .i64 (l.getD i ((0, []), undef)).1.1) ∧ (flatI l)[i * 2 + 1]? = some (l.getD i ((0, []), undef)).2 := by
  induction l generalizing i with
  | nil => simp at hi
  | cons x l ih =>
    cases i with
    | zero => simp [flatI]
    | succ i =>
      simp only [List.length_cons] at hi
      have := ih (i := i) (by omega)
      simp only [flatI, List.flatMap_cons, List.getD_cons_succ] at this ⊢
      rw [List.getElem?_append_right (by simp; omega), List.getElem?_append_right (by simp; omega)]
      simp only [List.length_cons, List.length_nil]
      rw [show (i + 1) * 2 - (0 + 1 + 1) = i * 2 by omega, show (i + 1) * 2 + 1 - (0 + 1 + 1) = i * 2 + 1 by omega]
      exact this

theorem infoItem : (Tryz.prog.info? 110).map (fun i => (i.zero, i.size, i.bytes)) = some (some (.agg #[.int .i64 0, .slice none 0 0]), 2, 32) := by kernel_rfl

/-- The slice v of items is the call's own; the items' bytes lie elsewhere. -/
def OwnIt (w : World) (base : Nat) (v : Value) (l : List ItV) : Prop := w.ownsRow base 110 2 v l.length (flatI l) ∧ ∀ x ∈ l, Bytes w x.2 x.1.2 ∧ ∀ k, x.2.ownBlock = some k → k < w.heap.size ∧ v.ownBlock ≠ some k
theorem OwnIt.nil (w : World) (base : Nat) : OwnIt w base (.slice none 0 0) [] := ⟨World.ownsRow_nil _ _ _ _, fun _ h => by cases h⟩
theorem OwnIt.lt {w : World} {base : Nat} {v : Value} {l : List ItV} (h : OwnIt w base v l) : ∀ k, v.ownBlock = some k → base ≤ k ∧ k < w.heap.size := World.ownsRow.lt h.1
theorem OwnIt.len {w : World} {base : Nat} {v : Value} {l : List ItV} (h : OwnIt w base v l) : ∃ a c, v = .slice a l.length c := by
  rcases h.1.2 with ⟨h1, h2⟩ | ⟨g, cap, cur, rfl, _⟩
  · rw [h1, show l.length = 0 by omega]; exact ⟨_, _, rfl⟩
  · exact ⟨_, _, rfl⟩
theorem OwnIt.items {w : World} {base : Nat} {v : Value} {l : List ItV} (h : OwnIt w base v l) : Items w v (l.map (·.1)) := by
  obtain ⟨h1, a, c, rfl, h2, h3, h4, h5⟩ := Row.of_owns h.1
  refine ⟨a, c, by simp, by simpa using h2, h3, h4, fun h0 => ?_⟩
  have h0' : 0 < l.length := by simpa using h0
  obtain ⟨b, off, rfl, hb, hc⟩ := h5 (by omega)
  refine ⟨b, off, rfl, hb, fun i hi => ?_⟩
  have hi' : i < l.length := by simpa using hi
  obtain ⟨f1, f2⟩ := flatI_at hi'
  have e : (l.map (·.1)).getD i (0, []) = (l.getD i ((0, []), undef)).1 := by simp [List.getD, hi']
  rw [e]
  refine ⟨(hc _ (by omega)).trans f1, _, (by rw [Nat.add_assoc]; exact (hc _ (by omega)).trans f2), ?_⟩
  have hm : l.getD i ((0, []), undef) ∈ l := by
    rw [List.getD_eq_getElem?_getD, List.getElem?_eq_getElem hi']; exact List.getElem_mem hi'
  exact (h.2 _ hm).1
theorem OwnIt.of_new {w w' : World} {base : Nat} {v : Value} {l : List ItV} (h : OwnIt w base v l) (hb : Below w.heap.size w w') : OwnIt w' base v l := by
  refine ⟨⟨h.1.1, ?_⟩, fun x hx => ⟨(h.2 x hx).1.of_new hb, fun k hk => ⟨Nat.lt_of_lt_of_le ((h.2 x hx).2 k hk).1 hb.size, ((h.2 x hx).2 k hk).2⟩⟩⟩
  rcases h.1.2 with h2 | ⟨g, cap, cur, hv, hbs, hh, hr⟩
  · exact .inl h2
  · exact .inr ⟨g, cap, cur, hv, hbs, (hb.block g (Array.getElem?_eq_some_iff.1 hh).1).trans hh, hr⟩

/-- 'append(out, x)' of an item, out the call's own. -/
theorem run_appIt {w : World} (base ty : Nat) (v : Value) (l : List ItV) (x : ItV) (hown : OwnIt w base v l) (hx : Bytes w x.2 x.1.2) (hxk : ∀ k, x.2.ownBlock = some k → k < w.heap.size ∧ v.ownBlock ≠ some k) (g : Nat)
    (hg : w.heap[g]? = some (.cells #[.int .i64 x.1.1, x.2] 110 (0, 0))) (hlen : l.length + 1 ≤ 1099511627776) (hbase : base ≤ w.heap.size) :
    ∃ v' w', (Builtin.append_ #[111, 111] ty #[v, .slice (some ⟨g, 0, none⟩) 1 1]).run Tryz.prog w = .ok v' w' ∧ OwnIt w' base v' (l ++ [x]) ∧ w.grownBy w' v.ownBlock ∧ (∀ k, v'.ownBlock = some k → v.ownBlock = some k ∨ w.heap.size ≤ k) := by
  obtain ⟨i, hi, hz, hsize, hby⟩ := info_parts infoItem
  obtain ⟨v', w', h1, h2, h3, _, h5⟩ := run_append_own_at (P := Tryz.prog) w base 111 ty 110 i _ 2 32 Tryz.underlying111 hi hz hsize hby (by simp [Value.cells]) (by decide) v l.length (flatI l) hown.1 ⟨g, 0, none⟩ 1 1 [.int .i64 x.1.1, x.2] (by simp)
    (fun j u hj => by
      have hjl : j < 2 := by
        rcases Nat.lt_or_ge j 2 with h | h
        · exact h
        · rw [List.getElem?_eq_none (by simpa using h)] at hj; cases hj
      have hadd : (⟨g, 0, none⟩ : Addr).add j = ⟨g, j, none⟩ := by unfold Addr.add; split <;> simp_all
      rw [hadd]
      simp only [World.cell?, hg]
      match j, hjl with
      | 0, _ => simpa using hj
      | 1, _ => simpa using hj)
    (fun u hu => by
      obtain ⟨a, c, he⟩ := hx.len
      simp at hu
      rcases hu with rfl | rfl
      · rfl
      · rw [he]; rfl) (by unfold maxLen; omega) (by omega) hbase
  have hnew : ∀ k, v'.ownBlock = some k → v.ownBlock = some k ∨ w.heap.size ≤ k := by
    intro k hk
    rcases h5 with h5 | h5
    · exact .inl (by rw [← h5]; exact hk)
    · rw [h5] at hk; cases hk; exact .inr (Nat.le_refl _)
  have one : ∀ y : ItV, Bytes w y.2 y.1.2 → (∀ k, y.2.ownBlock = some k → k < w.heap.size ∧ v.ownBlock ≠ some k) → Bytes w' y.2 y.1.2 ∧ ∀ k, y.2.ownBlock = some k → k < w'.heap.size ∧ v'.ownBlock ≠ some k := fun y hy hyk =>
    ⟨Row.of_kept hy h3 (fun k hk e => (hyk k hk).2 e.symm), fun k hk => ⟨Nat.lt_of_lt_of_le (hyk k hk).1 h3.size, fun e => by
      rcases hnew k e with h | h
      · exact (hyk k hk).2 h
      · have := (hyk k hk).1; omega⟩⟩
  refine ⟨v', w', h1, ⟨?_, ?_⟩, h3, hnew⟩
  · rw [flatI_snoc, List.length_append]; exact h2
  · intro y hy
    rcases List.mem_append.1 hy with hy | hy
    · exact one y (hown.2 y hy).1 (hown.2 y hy).2
    · have : y = x := by simpa using hy
      subst this
      exact one y hx hxk

theorem wp_appIt {w : World} {o : Oper} {a : Act} {K : Act → World → Prop} {Q : Exit → Act → World → Prop} (s y : Operand)
    (ho : o.op = .call { callee := .builtin .append, args := #[s, y], argTypes := #[111, 111] }) (base : Nat)
    (v : Value) (l : List ItV) (x : ItV) (g : Nat) (hs : a.eval s = v) (hown : OwnIt w base v l) (hy : a.eval y = .slice (some ⟨g, 0, none⟩) 1 1) (hx : Bytes w x.2 x.1.2) (hxk : ∀ k, x.2.ownBlock = some k → k < w.heap.size ∧ v.ownBlock ≠ some k)
    (hg : w.heap[g]? = some (.cells #[.int .i64 x.1.1, x.2] 110 (0, 0)))
    (hlen : l.length + 1 ≤ 1099511627776) (hbase : base ≤ w.heap.size)
    (h : ∀ v' w', OwnIt w' base v' (l ++ [x]) → w.grownBy w' v.ownBlock → (∀ k, v'.ownBlock = some k → v.ownBlock = some k ∨ w.heap.size ≤ k) → K (a.put o.dst v') w') : o.wp Tryz.prog a w K Q := by
  obtain ⟨v', w', hr, h2, h3, h4⟩ := run_appIt base o.type v l x hown hx hxk g hg hlen hbase
  unfold Oper.wp execOp
  simp only [ho, resolve, invoke, builtin, Sem.run_bind, Sem.run_pure, Result.andThen_ok, List.map_toArray, List.map_cons, List.map_nil, hs, hy, hr]
  exact h v' w' h2 h3 h4
end Go.Proofs.YtnohglkilpnjhaaGreatDoor

/- A hash at a place, read as bytes. No condition. -/
namespace Go.Proofs.YtnohglkilpnjhaaGreatDoor
open Go.RowKit
set_option linter.unusedVariables false

/-- A whole hash in its place, as a slice. -/
theorem DigAt.bytes {w : World} {g off : Nat} {d : List UInt8} (h : DigAt w g off d) : Bytes w (.slice (some ⟨g, off, none⟩) 32 32) d := by
  have hl := h.1
  unfold Bytes
  rw [hl]
  exact ⟨by simp [hl], _, 32, rfl, Nat.le_refl _, by unfold maxLen; omega, (fun e => nomatch e), fun _ => ⟨g, off, rfl, World.block_lt_of_cell? _ _ (by
    have := h.2 0 (by omega)
    rw [Nat.add_zero] at this
    rw [List.getElem?_map, List.getElem?_eq_getElem (by omega)] at this
    exact this), fun j hj => h.2 j (by omega)⟩⟩

end Go.Proofs.YtnohglkilpnjhaaGreatDoor

/- The walks of manifest.Encode and manifest.Name: an image as bytes, its name. No condition on Encode; on Name: the table of the hash's constants. -/
namespace Go.Proofs.YtnohglkilpnjhaaGreatDoor
open Go.RowKit
set_option linter.unusedVariables false
set_option linter.unusedSimpArgs false
set_option maxRecDepth 100000

theorem imgIts_step {l : List BlobL} {k : Nat} {x : BlobL} (h : l[k]? = some x) : imgIts (l.take (k + 1)) = imgIts (l.take k) ++ [(((k + 1 : Nat) : Int), blobB x)] := by
  have hk : k < l.length := (List.getElem?_eq_some_iff.1 h).1
  unfold imgIts
  rw [List.take_add_one, h, Option.toList_some, imgItsF_snoc, List.length_take, Nat.min_eq_left (by omega), Nat.zero_add]
/-- Four items in a block just made. -/
theorem items_four {w : World} {a b c d : It} {va vb vc vd : Value} (ha : Bytes w va a.2) (hb : Bytes w vb b.2) (hc : Bytes w vc c.2) (hd : Bytes w vd d.2) :
    Items (w.alloc (.cells #[.int .i64 a.1, va, .int .i64 b.1, vb, .int .i64 c.1, vc, .int .i64 d.1, vd] 110)) (.slice (some ⟨w.heap.size, 0, none⟩) 4 4) [a, b, c, d] := by
  have hg := heap_alloc_new w (.cells #[.int .i64 a.1, va, .int .i64 b.1, vb, .int .i64 c.1, vc, .int .i64 d.1, vd] 110)
  refine ⟨some ⟨w.heap.size, 0, none⟩, 4, rfl, Nat.le_refl _, by unfold maxLen; omega, (fun e => nomatch e), fun _ => ⟨_, 0, rfl, by simp, fun i hi => ?_⟩⟩
  simp only [List.length_cons, List.length_nil] at hi
  rcases (by omega : i = 0 ∨ i = 1 ∨ i = 2 ∨ i = 3) with rfl | rfl | rfl | rfl
  · exact ⟨by simp only [World.cell?, hg]; rfl, va, by simp only [World.cell?, hg]; rfl, ha.of_alloc _⟩
  · exact ⟨by simp only [World.cell?, hg]; rfl, vb, by simp only [World.cell?, hg]; rfl, hb.of_alloc _⟩
  · exact ⟨by simp only [World.cell?, hg]; rfl, vc, by simp only [World.cell?, hg]; rfl, hc.of_alloc _⟩
  · exact ⟨by simp only [World.cell?, hg]; rfl, vd, by simp only [World.cell?, hg]; rfl, hd.of_alloc _⟩

/-- What Encode hands back. -/
def EncIPost (w : World) (l : List BlobL) (e : Ending) (w' : World) : Prop := ∃ v, e = .returned (.tuple #[v, .int .i64 (encGE l)]) ∧ Bytes w' v ((encG l).getD []) ∧ Below w.heap.size w w'
/-- .. a slice of the call's own. -/
def EncIPostO (w : World) (l : List BlobL) (e : Ending) (w' : World) : Prop := ∃ v, e = .returned (.tuple #[v, .int .i64 (encGE l)]) ∧ Own8 w' w.heap.size 5 v ((encG l).getD []) ∧ Below w.heap.size w w'
theorem EncIPostO.post {w w' : World} {l : List BlobL} {e : Ending} (h : EncIPostO w l e w') : EncIPost w l e w' := by
  obtain ⟨v, h1, h2, h3⟩ := h
  exact ⟨v, h1, h2.bytes, h3⟩
theorem encG_bad {w w' : World} {l : List BlobL} (h : imageE l ≠ 0) (hb : Below w.heap.size w w') : EncIPostO w l (.returned (.tuple #[.slice none 0 0, .int .i64 (imageE l)])) w' :=
  ⟨_, by unfold encGE; rw [if_neg h], by unfold encG; rw [if_neg h]; exact Own8.nil _ _ _, hb⟩
theorem encG_post {w w1 w' : World} {l : List BlobL} {e : Ending} (h : imageE l = 0) (he : EncPost w1 (encL (imgIts l)) e w') (hb : Below w.heap.size w w1) : EncIPostO w l e w' := by
  unfold EncIPostO encGE encG
  rw [if_pos h, if_pos h]
  cases hc : encL (imgIts l) with
  | none =>
    rw [hc] at he
    obtain ⟨h1, v, rfl⟩ := he
    exact ⟨_, rfl, Own8.nil _ _ _, below_next hb h1⟩
  | some c =>
    rw [hc] at he
    obtain ⟨h1, v, rfl, ho⟩ := he
    exact ⟨_, rfl, ho.mono hb.size, below_next hb h1⟩

/-- Ahead of each round. -/
def EncIM (w0 : World) (l : List BlobL) (lv iv : Value) (W : World) : Prop := ∃ (k : Nat) (its : List ItV), k ≤ l.length ∧ iv = .int .i64 k ∧ its.map (·.1) = imgIts (l.take k) ∧ its.length = k ∧ OwnIt W w0.heap.size lv its ∧ Below w0.heap.size w0 W

set_option maxHeartbeats 6400000 in
theorem EncImgO_any (v : Value) (l : List BlobL) (w : World) (hl : RBlob.Row w v l) : Calls Tryz.prog 77 #[.agg #[v]] w (EncIPostO w l) := by
  obtain ⟨a, c, hv⟩ := hl.len
  subst hv
  have hle := hl.le
  obtain ⟨W, hW⟩ : ∃ W, w.alloc (.cells #[.slice a l.length c] 52) = W := ⟨_, rfl⟩
  have ho : One W w.heap.size (.slice a l.length c) 52 := by rw [← hW]; exact heap_alloc_new w _
  have hb : Below w.heap.size w W := by rw [← hW]; exact (Below.refl _ w).alloc (Nat.le_refl _) _
  have hc1 := ho.cell
  have hI := Image_any _ l W (hl.of_new hb)
  have HL := Lib.hid (hl.of_new hb)
  have HO := Lib.hid ho
  have HW := Lib.hid hW
  have HB := Lib.hid hb
  have HI := Lib.hid hI
  have hls := ho.lt
  clear hl ho hW hb hI
  obtain ⟨E, hE⟩ : ∃ E, imageE l = E := ⟨_, rfl⟩
  rw [hE] at HI
  have HE := Lib.hid hE
  by_cases h0 : E = 0
  case neg =>
    have HN := Lib.hid (show imageE l ≠ 0 by rw [hE]; exact h0)
    have t1 : (E == 0) = false := beq_eq_false_iff_ne.2 h0
    have t2 : (E != 0) = true := bne_iff_ne.2 h0
    clear hE h0
    go_enter Tryz.func77, Tryz.ntmps77
    go_upto_region 1 with (fail)
    rw [HW.out]
    go_wp2_with (go_at_call 123; refine HI.out.mono ?_; rintro e w2 ⟨rfl, hb2⟩; have HB2 := Lib.hid (below_next HB.out hb2); clear hb2)
    go_ret2
    rw [← HE.out]
    exact encG_bad HN.out HB2.out
  subst h0
  have HR := Lib.hid (image_rights hE)
  have h16 : l.length ≤ 16 := by
    unfold imageE at hE
    split at hE
    · cases hE
    · omega
  clear hE
  go_enter Tryz.func77, Tryz.ntmps77
  go_upto_region 1 with (fail)
  rw [HW.out]
  go_wp2_with (go_at_call 123; refine HI.out.mono ?_; rintro e w2 ⟨rfl, hb2⟩; have hc2 := Grew.cell hb2 hc1; have HB2 := Lib.hid (below_next HB.out hb2); have HL2 := Lib.hid (HL.out.of_new hb2); clear hb2)
  go_loopw [5, 6, 7, 8, 9, 10, 11, 20] (fun lv _ _ _ _ _ _ iv W' => EncIM w2 l lv iv W') (fun _ _ _ _ _ _ _ iv _ => l.length - (intOf iv).toNat)
  case atStart => exact ⟨0, [], Nat.zero_le _, rfl, by simp [imgIts, imgItsF], rfl, OwnIt.nil _ _, Below.refl _ _⟩
  case round =>
    obtain ⟨k, its, hk, rfl, hit, hil, hown, hbr⟩ := hrel
    obtain ⟨la, lc, hv⟩ := hown.len
    subst hv
    by_cases hlt : k < l.length
    · obtain ⟨b, off, c', hv, hbl, hc⟩ := HL2.out.at_ (by omega)
      obtain ⟨rfl, rfl⟩ : a = some ⟨b, off, none⟩ ∧ c = c' := by cases hv; exact ⟨rfl, rfl⟩
      obtain ⟨y, hy⟩ : ∃ y, l[k]? = some y := ⟨_, List.getElem?_eq_getElem hlt⟩
      have hat := (hc k y hy).of_new hbr
      have hyo := hat.1
      have hyr := right_bd (HR.out y (List.mem_of_getElem? hy))
      have hki : (k : Int) < (l.length : Int) := by omega
      have hk16 : (k : Int) ≤ 16 := by omega
      have hst := imgIts_step hy
      obtain ⟨n, hn⟩ : ∃ n : Nat, y.size = (n : Int) := ⟨y.size.toNat, by omega⟩
      obtain ⟨q, hq⟩ : ∃ q : Nat, y.piece = (q : Int) := ⟨y.piece.toNat, by omega⟩
      have hnq : n ≤ 1048576 ∧ q ≤ 1048576 := by omega
      have HY := Lib.hid hy
      have HIT := Lib.hid hit
      have HIL := Lib.hid hil
      have HWN := Lib.hid hown
      have HBR := Lib.hid hbr
      have HAT := Lib.hid hat
      have HYO := Lib.hid hyo
      have HYR := Lib.hid hyr
      have HST := Lib.hid hst
      have HN := Lib.hid hn
      have HQ := Lib.hid hq
      have HNQ := Lib.hid hnq
      clear hv hc hy hit hil hown hbr hat hyo hyr hst hn hq hnq
      go_upto_region 8 with (first
        | ((with_reducible refine wpList_plain (o := ⟨some 24, Op.load _ _, _, _, _, _⟩) rfl fun K hK => ?_); (refine HAT.out.wp rfl rfl (hK _ _ ?_)))
        | ((with_reducible refine wpList_plain (o := ⟨some 7, Op.alloc _, _, _, _, _⟩) rfl fun K hK => ?_); (refine RBlob.wp_alloc rfl fun w4 ho4 hb4 hs4 => hK _ _ ?_); have HO4 := Lib.hid ho4; have HB4 := Lib.hid hb4; clear ho4 hb4 hs4)
        | ((with_reducible refine wpList_plain (o := ⟨none, Op.store _ (.tmp 7) (.tmp 24), _, _, _, _⟩) rfl fun K hK => ?_); (refine HO4.out.store (.tmp 7) (.tmp 24) rfl rfl rfl HYO.out fun w5 ho5 hg5 hs5 => hK _ _ ?_); have hb5 := HB4.out.grown hg5 (by have := HB4.out.size; omega) (fun k e => by cases e; exact Nat.le_refl _); have HO5 := Lib.hid ho5; have HB5 := Lib.hid hb5; clear ho5 hg5 hs5 hb5))
      have hyO := HO5.out.blobO
      have c32 := hyO.size
      have c33 := hyO.piece
      rw [HN.out] at c32
      rw [HQ.out] at c33
      have hwn : IntKind.u64.wrap (n : Int) = (n : Int) := by have := HNQ.out; simp [IntKind.wrap, IntKind.bits, IntKind.signed]; omega
      have hwq : IntKind.u64.wrap (q : Int) = (q : Int) := by have := HNQ.out; simp [IntKind.wrap, IntKind.bits, IntKind.signed]; omega
      have hbx := Below.refl w5.heap.size w5
      have hn64 : n < 18446744073709551616 := by have := HNQ.out; omega
      have hq64 : q < 18446744073709551616 := by have := HNQ.out; omega
      have hls5 := HO5.out.lt
      clear hyO
      go_upto_region 8 with (fail)
      try simp only [Act.put]
      try go_frame
      go_cut [8, 9] (fun v8 v9 W' => Own8 W' w5.heap.size 5 v8 (uint n) ∧ Own8 W' w5.heap.size 5 v9 (uint q) ∧ Below w5.heap.size w5 W')
      case first =>
        go_region_with (first
          | (go_at_call 124; (with_reducible refine (Uint_at _ n _ rfl hn64).mono ?_); rintro e w6 ⟨v6, rfl, ho6, hb6⟩; (try replace c32 := Grew.cell hb6 c32); (try replace c33 := Grew.cell hb6 c33); (try replace ho7 := ho7.new hb6); (first | replace hbx := below_next hbx.drew hb6 | replace hbx := below_next hbx hb6))
          | (go_at_call 124; (with_reducible refine (Uint_at _ q _ rfl hq64).mono ?_); rintro e w7 ⟨v7, rfl, ho7, hb7⟩; (try replace c32 := Grew.cell hb7 c32); (try replace c33 := Grew.cell hb7 c33); (try replace ho6 := ho6.new hb7); (first | replace hbx := below_next hbx.drew hb7 | replace hbx := below_next hbx hb7)))
        all_goals
          go_wp2_with fail
          go_meet
          have hdr : w5.drew.heap.size = w5.heap.size := rfl
          have hz6 := hb6.size
          have hz7 := hb7.size
          exact ⟨ho6.mono (by omega), ho7.mono (by omega), hbx⟩
      case rest =>
        rename World => w6
        obtain ⟨ho8, ho9, hb6⟩ := hcut
        obtain ⟨a8, c8, hv⟩ := ho8.bytes.len
        subst hv
        obtain ⟨a9, c9, hv⟩ := ho9.bytes.len
        subst hv
        have HO6 := Lib.hid (HO5.out.of_new hb6)
        have HO8 := Lib.hid ho8
        have HO9 := Lib.hid ho9
        have HB6 := Lib.hid (below_next HB5.out hb6)
        clear ho8 ho9 hb6 c32 c33 hbx hwn hwq
        have hyb := HO6.out.blobO
        have HD7 := Lib.hid hyb.dig.bytes
        have HR7 := Lib.hid hyb.root.bytes
        have hits : blobIts y = [(1, y.dig), (2, uint n), (3, uint q), (4, y.root)] := by unfold blobIts; rw [HN.out, HQ.out]; rfl
        have hyr := HYR.out
        have henc : encL (blobIts y) = some (blobB y) := enc_blob HYO.out ⟨by omega, by omega⟩ ⟨by omega, by omega⟩
        rw [hits] at henc
        have HEN := Lib.hid henc
        clear hyb hits hyr henc
        go_upto_region 9 with (fail)
        go_region_with (go_at_call 125; refine (Encode_any _ [(1, y.dig), (2, uint n), (3, uint q), (4, y.root)] _ (by exact items_four HD7.out HO8.out.bytes HO9.out.bytes HR7.out)).mono ?_; intro e w9 hp; rw [HEN.out] at hp; obtain ⟨hb9, v9, rfl, ho9⟩ := hp)
        have hdr : (w6.alloc (.cells #[.int .i64 1, .slice (some ⟨wr.heap.size, 0, none⟩) 32 32, .int .i64 2, .slice a8 (uint n).length c8, .int .i64 3, .slice a9 (uint q).length c9, .int .i64 4, .slice (some ⟨wr.heap.size, 34, none⟩) 32 32] 110)).drew.heap.size = w6.heap.size + 1 := by simp [World.drew]
        have hlo := ho9.lt
        rw [hdr] at hlo
        have HB9 := Lib.hid (below_next ((HB6.out.alloc HB6.out.size _).drew) hb9)
        obtain ⟨a10, c10, hv⟩ := ho9.bytes.len
        subst hv
        have HV9 := Lib.hid ho9.bytes
        have HLO := Lib.hid hlo
        have hs6 := HB6.out.size
        have hs9 := HB9.out.size
        have hsr := HBR.out.size
        clear hb9 ho9 hdr hlo
        go_wp2_with (first
          | ((with_reducible refine wpList_plain (o := ⟨some 54, _, _, _, _, _⟩) rfl fun K hK => ?_); refine wp_appIt (.tmp 48) (.tmp 53) rfl w2.heap.size _ its (((k : Int) + 1, blobB y), .slice a10 (blobB y).length c10) w9.heap.size rfl ((HWN.out.of_new HB9.out).of_new ((Below.refl _ w9).alloc (Nat.le_refl _) _)) rfl (HV9.out.of_new ((Below.refl _ w9).alloc (Nat.le_refl _) _)) (fun z hz => ⟨by have := (HLO.out z hz).2; simp; omega, fun e => by have := (HWN.out.lt z e).2; have := (HLO.out z hz).1; omega⟩) (heap_alloc_new w9 _) (by have := HIL.out; omega) (by simp; omega) ?_; intro v11 w11 ho11 hg11 hn11; refine hK _ _ ?_; obtain ⟨a11, c11, hv11⟩ := ho11.len; subst hv11; have HO11 := Lib.hid ho11; have HG11 := Lib.hid hg11; clear ho11 hg11 hn11 hK))
        go_roundw
        case rel =>
          refine ⟨k + 1, its ++ [(((k : Int) + 1, blobB y), .slice a10 (blobB y).length c10)], by omega, by go_num, ?_, by have := HIL.out; simp; omega, by have h := HO11.out; rw [List.length_append, List.length_singleton] at h; exact h, (below_next HBR.out ((HB9.out).alloc HB9.out.size _)).grown HG11.out (by simp; omega) (fun z hz => (HWN.out.lt z hz).1)⟩
          rw [List.map_append, HIT.out, HST.out]
          rfl
        case measure => simp [intOf]; omega
    · obtain rfl : k = l.length := by omega
      rw [List.take_length] at hit
      have hI := hown.items
      rw [hit] at hI
      have hEn := Encode_any _ _ wr hI
      have HEn := Lib.hid hEn
      have HBR := Lib.hid (below_next HB2.out hbr)
      clear hI hit hil hown hEn hbr
      go_wp2_with fail
      refine HEn.out.mono ?_
      intro e w4 hp
      have hq := encG_post HE.out hp HBR.out
      obtain ⟨v4, rfl, hv4, hb4⟩ := hq
      have HV4 := Lib.hid hv4
      have HB4 := Lib.hid hb4
      clear hp hv4 hb4
      go_wp2
      go_ret2
      exact ⟨_, rfl, HV4.out, HB4.out⟩

theorem EncImg_any (v : Value) (l : List BlobL) (w : World) (hl : RBlob.Row w v l) : Calls Tryz.prog 77 #[.agg #[v]] w (EncIPost w l) := (EncImgO_any v l w hl).mono fun _ _ h => h.post

end Go.Proofs.YtnohglkilpnjhaaGreatDoor

/- The walk of slices.Clone at a slice of bytes: a slice of the call's own with the same bytes. Condition: no more than 2^47 bytes. -/
namespace Go.Proofs.YtnohglkilpnjhaaGreatDoor
open Go.RowKit
set_option linter.unusedVariables false

set_option maxRecDepth 100000 in
set_option maxHeartbeats 800000 in
theorem Clone_any (v : Value) (l : List UInt8) (w : World) (hl : Bytes w v l) (hlen : l.length ≤ 140737488355328) :
    Calls Tryz.prog 36 #[v] w fun e w' => ∃ v', e = .returned v' ∧ Own8 w' w.heap.size 5 v' l ∧ Below w.heap.size w w' := by
  obtain ⟨i0, hi, hz0, hz1, hz2⟩ := info_parts infoU8
  obtain ⟨a, c, hv⟩ := hl.len
  cases a with
  | none =>
    have hl0 : l = [] := by
      obtain ⟨_, a', c', hv', h1, _, h3, _⟩ := hl
      rw [hv'] at hv; cases hv
      have := h3 rfl
      exact List.eq_nil_of_length_eq_zero (by omega)
    subst hl0
    have hc : c = 0 := by
      obtain ⟨_, a', c', hv', h1, _, h3, _⟩ := hl
      rw [hv'] at hv; cases hv
      exact h3 rfl
    subst hc
    subst hv
    have he := fun (w : World) (a : Option Addr) (n c : Nat) => Lib.run_eql_slice_nil (P := Tryz.prog) w 33 5 a n c 0 0 Tryz.underlying33
    go_enter Tryz.func36, Tryz.ntmps36
    go_wp2
    go_ret
    exact ⟨_, rfl, Own8.nil _ _ _, Below.refl _ _⟩
  | some a =>
    subst hv
    have he := fun (w : World) (a : Option Addr) (n c : Nat) => Lib.run_eql_slice_nil (P := Tryz.prog) w 33 5 a n c 0 0 Tryz.underlying33
    have hown0 : Own8 (w.alloc (.cells #[] 5)) w.heap.size 5 (.slice (some ⟨w.heap.size, 0, none⟩) 0 0) [] := World.ownsRow_made w #[] 0 (Nat.le_refl _) (by unfold maxLen; omega) rfl
    have hl0 := hl.of_alloc (.cells #[] 5)
    have HO := Lib.hid hown0
    have HL := Lib.hid hl0
    clear hown0 hl0 hl
    go_enter Tryz.func36, Tryz.ntmps36
    go_wp2_with (at_builtin; refine wpList_app8 rfl (.tmp 5) (.tmp 6) 33 rfl w.heap.size 5 i0 Tryz.underlying33 hi hz0 hz1 hz2 _ [] rfl HO.out _ l rfl HL.out ?c1 ?c2 ?_)
    case c1 => first | omega | (simp; omega)
    case c2 => simp
    intro v1 w1 hown1 hg1 _
    have hbA : Below w.heap.size w w1 := ((Below.refl _ w).alloc (Nat.le_refl _) _).grown hg1 (by simp) (fun j hj => (HO.out.lt j hj).1)
    clear hg1
    go_wp2
    go_ret
    exact ⟨_, rfl, by simpa using hown1, hbA⟩

end Go.Proofs.YtnohglkilpnjhaaGreatDoor

/- Regions that draw their order: operations that only read and are waited for late (taken first, one by one), quiet ones, some that keep to a class of worlds, then those that wait for all. No condition. -/
namespace Go.Proofs.YtnohglkilpnjhaaGreatDoor
open Go.RowKit
set_option linter.unusedVariables false
set_option linter.unusedSimpArgs false

/-- An operation that only yields a value. -/
def earlyOp (o : Oper) : Bool := o.guard.isNone && match o.op with
  | .move _ | .load .. | .indexAddr .. | .fieldAddr .. | .convert .. | .slice .. | .extract .. | .nilCheck _ => true
  | _ => false

theorem only_value {P : Program} {w w' : World} {s : Sem Value} {r : Next} (h : (do pure (Next.value (← s)) : Sem Next).run P w = .ok r w') : ∃ u, r = .value u := by
  simp only [Sem.run_bind] at h
  generalize s.run P w = q at h
  cases q with
  | ok x w2 => simp [Sem.run_pure, Result.andThen] at h; exact ⟨x, h.1.symm⟩
  | halt x w2 => simp [Result.andThen] at h

theorem early_value {P : Program} {o : Oper} {ρ : Operand → Value} {w w' : World} {r : Next} (h : earlyOp o = true) (hr : (execOp ρ o).run P w = .ok r w') : ∃ u, r = .value u := by
  unfold earlyOp at h
  unfold execOp at hr
  cases ho : o.op <;> simp [ho] at h <;> simp only [ho] at hr
  case move => simp [Sem.run_pure] at hr; exact ⟨_, hr.1.symm⟩
  case nilCheck x =>
    split at hr
    all_goals first
      | exact only_value hr
      | (simp [Sem.run_pure] at hr; exact ⟨_, hr.1.symm⟩)
      | (simp [go_sem] at hr)
      | skip
    split at hr
    · simp [go_sem] at hr
    · simp only [Sem.run_bind] at hr
      generalize Sem.run P _ w = q0 at hr
      cases q0 with
      | halt x2 w2 => simp [Result.andThen] at hr
      | ok pp w2 =>
        simp only [Result.andThen] at hr
        generalize Sem.run P _ w2 = q at hr
        cases q with
        | halt x2 w2 => simp [Result.andThen] at hr
        | ok b w3 =>
          simp only [Result.andThen] at hr
          split at hr
          · simp [go_sem, Sem.run_bind, Result.andThen] at hr; exact ⟨_, hr.1.symm⟩
          · simp [go_sem, Sem.run_pure, Sem.run_bind, Result.andThen] at hr
    · simp [Sem.run_pure] at hr; exact ⟨_, hr.1.symm⟩
  all_goals exact only_value hr

section
variable {ro : Option Nat} {m : Nat} {P : Program} {ops : Array Oper} {md : Region.Mode} {C : World → Prop} {D : Nat → Bool} {Q : Exit → Act → World → Prop}

/-- j waits for i, by whatever way. -/
inductive WaitsT (md : Region.Mode) (ops : Array Oper) (i : Nat) : Nat → Prop
  | one {j : Nat} : Region.waitsFor md ops j i = true → WaitsT md ops i j
  | more {j k : Nat} : Region.waitsFor md ops j k = true → WaitsT md ops i k → WaitsT md ops i j

def waitsB (md : Region.Mode) (ops : Array Oper) (i : Nat) : Nat → Nat → Bool
  | 0, _ => false
  | f + 1, j => Region.waitsFor md ops j i || (List.range ops.size).any fun k => Region.waitsFor md ops j k && waitsB md ops i f k
theorem waitsB_spec {i : Nat} : ∀ (f j : Nat), waitsB md ops i f j = true → WaitsT md ops i j
  | 0, _, h => by simp [waitsB] at h
  | f + 1, j, h => by
    simp only [waitsB, Bool.or_eq_true, List.any_eq_true, Bool.and_eq_true] at h
    rcases h with h | ⟨k, _, h1, h2⟩
    · exact .one h
    · exact .more h1 (waitsB_spec f k h2)

def ClosedL (md : Region.Mode) (ops : Array Oper) (listed : Array Bool) : Prop :=
  ∀ j oj, ops[j]? = some oj → listed.getD j false = true → ∀ e ∈ oj.after, Region.binds md e = true → listed.getD e.on false = true

theorem not_ready {listed : Array Bool} {i j : Nat} (hcl : ClosedL md ops listed) (hi : listed.getD i false = false) (hw : WaitsT md ops i j) : j ∉ Region.ready md ops listed ∧ listed.getD j false = false := by
  induction hw with
  | @one j h =>
    obtain ⟨oj, hoj, e, he, hb, hon⟩ := Region.waitsFor_spec h
    refine ⟨fun hr => ?_, ?_⟩
    · obtain ⟨_, oj', hoj', hall⟩ := mem_ready.1 hr
      rw [hoj] at hoj'
      cases hoj'
      have := hall e he hb
      rw [hon, hi] at this
      cases this
    · cases hl : listed.getD j false with
      | false => rfl
      | true =>
        have := hcl j oj hoj hl e he hb
        rw [hon, hi] at this
        cases this
  | @more j k h _ ih =>
    obtain ⟨oj, hoj, e, he, hb, hon⟩ := Region.waitsFor_spec h
    refine ⟨fun hr => ?_, ?_⟩
    · obtain ⟨_, oj', hoj', hall⟩ := mem_ready.1 hr
      rw [hoj] at hoj'
      cases hoj'
      have := hall e he hb
      rw [hon, ih.2] at this
      cases this
    · cases hl : listed.getD j false with
      | false => rfl
      | true =>
        have := hcl j oj hoj hl e he hb
        rw [hon, ih.2] at this
        cases this

theorem ClosedL.set {listed : Array Bool} {j : Nat} (hcl : ClosedL md ops listed) (hj : j ∈ Region.ready md ops listed) (hsz : listed.size = ops.size) : ClosedL md ops (listed.setIfInBounds j true) := by
  intro k ok hk hl e he hb
  have keep : ∀ x, listed.getD x false = true → (listed.setIfInBounds j true).getD x false = true := fun x hx => by
    by_cases q : j = x
    · subst q
      have hlt : j < listed.size := by
        rcases Nat.lt_or_ge j listed.size with h | h
        · exact h
        · simp [Array.getElem?_eq_none h] at hx
      simp [hlt]
    · rw [getD_set_ne false q]; exact hx
  obtain ⟨_, oj, hoj, hall⟩ := mem_ready.1 hj
  by_cases q : j = k
  · subst q
    rw [hoj] at hk
    cases hk
    exact keep _ (hall e he hb)
  · rw [getD_set_ne false q] at hl
    exact keep _ (hcl k ok hk hl e he hb)

/-- An early operation may be taken first. -/
theorem wpAnyS_take {i : Nat} {oi : Oper} {v : Value} (hnd : noDefer ops = true) (hi : ops[i]? = some oi) (hsel : ∀ (j : Nat) (o : Oper) cs b, ops[j]? = some o → o.op ≠ .select cs b)
    (hQ : ∀ c (a : Act) (d : Option Tmp) (v : Value) w, Q (.panic c) (a.put d v) w → Q (.panic c) a w) (hDi : ∀ j, D j = true → WaitsT md ops i j) :
    ∀ (fuel : Nat) (listed : Array Bool) (a : Act) (w : World), listed.size = ops.size → ClosedL md ops listed →
      (∀ j oj, ops[j]? = some oj → j ≠ i → listed.getD j true = false → (∀ e ∈ oj.after, Region.binds md e = true → e.on ≠ i) → oi.apart ops oj = true) →
      i ∈ Region.ready md ops listed → StillIn P ops C oi v a → C w →
      wpAnyS ro m P md ops C D Q fuel (listed.setIfInBounds i true) (a.put oi.dst v) w → wpAnyS ro m P md ops C D Q (fuel + 1) listed a w := by
  intro fuel
  induction fuel with
  | zero =>
    intro listed a w _ _ _ hr hy hC H
    refine ⟨fun h => (by rw [h] at hr; cases hr), fun j hj => ?_⟩
    by_cases hji : j = i
    · subst hji; exact hy.wpOpIn hnd hi hC ⟨fun _ => hC, H⟩
    · have := ready_mono hj hji
      rw [H.1] at this
      cases this
  | succ fuel ih =>
    intro listed a w hsz hcl hfree hr hy hC H
    refine ⟨fun h => (by rw [h] at hr; cases hr), fun j hj => ?_⟩
    by_cases hji : j = i
    · subst hji; exact hy.wpOpIn hnd hi hC ⟨fun _ => hC, H⟩
    · have h1 := H.2 j (ready_mono hj hji)
      obtain ⟨hjun, oj, hoj, hall⟩ := mem_ready.1 hj
      have h0 := (mem_ready.1 hr).1
      have h0f : listed.getD i false = false := getD_both h0
      have hnot : ∀ e ∈ oj.after, Region.binds md e = true → e.on ≠ i := fun e he hb heq => by
        have h1 := hall e he hb
        rw [heq, h0f] at h1
        cases h1
      have hDj : D j = false := by
        cases hd : D j with
        | false => rfl
        | true => exact absurd hj (not_ready hcl h0f (hDi j hd)).1
      have h2 := wpOpIn_putS (C := C) hnd hoj (hfree j oj hoj hji hjun hnot) (fun cs b => hsel i oi cs b hi) (fun cs b => hsel j oj cs b hoj) (fun c a w h => hQ c _ _ _ w h) hy h1
      have hfree' : ∀ k ok, ops[k]? = some ok → k ≠ i → (listed.setIfInBounds j true).getD k true = false →
          (∀ e ∈ ok.after, Region.binds md e = true → e.on ≠ i) → oi.apart ops ok = true := fun k ok hk hki hun hno => by
        refine hfree k ok hk hki ?_ hno
        by_cases hjk : j = k
        · subst hjk; exact hjun
        · rw [getD_set_ne true hjk] at hun; exact hun
      refine wpOpIn_mono (fun a' w' h3 => ⟨h3.2.1, ih (listed.setIfInBounds j true) a' w' (by simpa using hsz) (hcl.set hj hsz) hfree' (ready_mono hr (Ne.symm hji)) h3.1 (h3.2.1 hDj) ?_⟩) h2
      rw [Array.setIfInBounds_comm _ _ hji]
      exact h3.2.2

/-- What is owed behind the head: some operations that keep to the class, then the others. -/
def LateL (ro : Option Nat) (m : Nat) (P : Program) (ops : Array Oper) (C : World → Prop) (Q : Exit → Act → World → Prop) : List Oper → List Oper → Act → World → Prop
  | [], rest, a, w => wpListIn (WF ro) m P ops Q rest a w
  | o :: mid, rest, a, w => if Region.wanted o (yielded ops a.tmps) then o.wp P a w (fun a' w' => C w' ∧ LateL ro m P ops C Q mid rest a' w') Q else LateL ro m P ops C Q mid rest (a.put o.dst undef) w
theorem LateL.nil {rest : List Oper} {a : Act} {w : World} (h : wpListIn (WF ro) m P ops Q rest a w) : LateL ro m P ops C Q [] rest a w := h
theorem LateL.cons {o : Oper} {mid rest : List Oper} {a : Act} {w : World} (hg : o.guard = none) (h : o.wp P a w (fun a' w' => C w' ∧ LateL ro m P ops C Q mid rest a' w') Q) : LateL ro m P ops C Q (o :: mid) rest a w := by
  unfold LateL
  rw [if_pos (by simp [Region.wanted, hg])]
  exact h

end
end Go.Proofs.YtnohglkilpnjhaaGreatDoor

/- The walks of tlv.items: the maker, and the iterator over a record's items. Conditions: no more than 65536 bytes, which lie below what the call made. -/
namespace Go.Proofs.YtnohglkilpnjhaaGreatDoor
open Go.RowKit Go.Shelf
attribute [local go_sem] Oper.semAt_some
set_option linter.unusedVariables false
set_option linter.unusedSimpArgs false

theorem Bytes.back {w w2 : World} {v : Value} {l : List UInt8} (h : Bytes w2 v l) (hb : Below w.heap.size w w2) (hk : ∀ k, v.ownBlock = some k → k < w.heap.size) : Bytes w v l := by
  obtain ⟨h1, a, c, rfl, h2, h3, h4, h5⟩ := h
  refine ⟨h1, a, c, rfl, h2, h3, h4, fun hne => ?_⟩
  obtain ⟨b, off, rfl, hb2, hc⟩ := h5 hne
  have hlt := hk b rfl
  exact ⟨b, off, rfl, hlt, fun j hj => by rw [← hc j hj]; exact (hb.cell (p := ⟨b, off + j, none⟩) hlt).symm⟩
theorem Bytes.blk {w : World} {v : Value} {l : List UInt8} (h : Bytes w v l) (h0 : 0 < l.length) : ∀ k, v.ownBlock = some k → k < w.heap.size := fun k e => by
  obtain ⟨b, off, c, rfl, hb, _⟩ := h.cell h0
  cases e
  exact hb

end Go.Proofs.YtnohglkilpnjhaaGreatDoor

/- The walk of tlv.Decode. Condition: none beyond the argument's reading. -/
namespace Go.Proofs.YtnohglkilpnjhaaGreatDoor
open Go.RowKit Go.Shelf
attribute [local go_sem] Oper.semAt_some
set_option linter.unusedVariables false
set_option linter.unusedSimpArgs false

/-- The slice v of items is the call's own, and so are the items' bytes. -/
def OwnI (w : World) (base : Nat) (v : Value) (l : List ItV) : Prop := w.ownsRow base 110 2 v l.length (flatI l) ∧ ∀ x ∈ l, Own8 w base 5 x.2 x.1.2
theorem OwnI.nil (w : World) (base : Nat) : OwnI w base (.slice none 0 0) [] := ⟨World.ownsRow_nil _ _ _ _, fun _ h => by cases h⟩
theorem OwnI.lt {w : World} {base : Nat} {v : Value} {l : List ItV} (h : OwnI w base v l) : ∀ k, v.ownBlock = some k → base ≤ k ∧ k < w.heap.size := World.ownsRow.lt h.1
theorem OwnI.len {w : World} {base : Nat} {v : Value} {l : List ItV} (h : OwnI w base v l) : ∃ a c, v = .slice a l.length c := by
  rcases h.1.2 with ⟨h1, h2⟩ | ⟨g, cap, cur, rfl, _⟩
  · rw [h1, show l.length = 0 by omega]; exact ⟨_, _, rfl⟩
  · exact ⟨_, _, rfl⟩
theorem OwnI.items {w : World} {base : Nat} {v : Value} {l : List ItV} (h : OwnI w base v l) : Items w v (l.map (·.1)) := by
  obtain ⟨h1, a, c, rfl, h2, h3, h4, h5⟩ := Row.of_owns h.1
  refine ⟨a, c, by simp, by simpa using h2, h3, h4, fun h0 => ?_⟩
  have h0' : 0 < l.length := by simpa using h0
  obtain ⟨b, off, rfl, hb, hc⟩ := h5 (by omega)
  refine ⟨b, off, rfl, hb, fun i hi => ?_⟩
  have hi' : i < l.length := by simpa using hi
  obtain ⟨f1, f2⟩ := flatI_at hi'
  have e : (l.map (·.1)).getD i (0, []) = (l.getD i ((0, []), undef)).1 := by simp [List.getD, hi']
  rw [e]
  refine ⟨(hc _ (by omega)).trans f1, _, (by rw [Nat.add_assoc]; exact (hc _ (by omega)).trans f2), ?_⟩
  have hm : l.getD i ((0, []), undef) ∈ l := by
    rw [List.getD_eq_getElem?_getD, List.getElem?_eq_getElem hi']; exact List.getElem_mem hi'
  exact (h.2 _ hm).bytes
theorem Own8.blk {w w' : World} {base e : Nat} {v : Value} {l : List UInt8} (h : Own8 w base e v l) (hk : ∀ k, v.ownBlock = some k → w'.heap[k]? = w.heap[k]?) : Own8 w' base e v l := by
  refine ⟨h.1, ?_⟩
  rcases h.2 with h | ⟨g, cap, cur, hv, hb, hh, hr⟩
  · exact .inl h
  · exact .inr ⟨g, cap, cur, hv, hb, (hk g (by rw [hv]; rfl)).trans hh, hr⟩
/-- It stays, while only other blocks are written. -/
theorem OwnI.keep {w w' : World} {base : Nat} {v : Value} {l : List ItV} (h : OwnI w base v l) (hk : ∀ k, base ≤ k → k < w.heap.size → w'.heap[k]? = w.heap[k]?) : OwnI w' base v l := by
  refine ⟨⟨h.1.1, ?_⟩, fun x hx => (h.2 x hx).blk fun k hk2 => hk k ((h.2 x hx).lt k hk2).1 ((h.2 x hx).lt k hk2).2⟩
  rcases h.1.2 with h2 | ⟨g, cap, cur, hv, hb, hh, hr⟩
  · exact .inl h2
  · exact .inr ⟨g, cap, cur, hv, hb, (hk g hb (Array.getElem?_eq_some_iff.1 hh).1).trans hh, hr⟩

/-- What Decode hands back. -/
def DecPost (w : World) (r : Option (List It)) (e : Ending) (w' : World) : Prop :=
  ∃ v, e = .returned (.tuple #[v, .int .i64 (if r.isSome then 0 else 2)]) ∧ Items w' v (r.getD []) ∧ Below w.heap.size w w'

/-- .. the items in blocks of the call's own. -/
def DecPostO (w : World) (r : Option (List It)) (e : Ending) (w' : World) : Prop :=
  ∃ v pre base, e = .returned (.tuple #[v, .int .i64 (if r.isSome then 0 else 2)]) ∧ OwnI w' base v pre ∧ pre.map (·.1) = r.getD [] ∧ Below w.heap.size w w' ∧ w.heap.size ≤ base
theorem DecPostO.post {w : World} {r : Option (List It)} {e : Ending} {w' : World} (h : DecPostO w r e w') : DecPost w r e w' := by
  obtain ⟨v, pre, base, h1, h2, h3, h4, _⟩ := h
  exact ⟨v, h1, h3 ▸ h2.items, h4⟩

/-- What holds ahead of each round. -/
def DecI (w : World) (b : List UInt8) (pre : List ItV) (W : World) : Prop :=
  ∃ (ov : Value), One W (w.heap.size + 2) ov 111 ∧ One W (w.heap.size + 3) (.int .i64 (lastN (pre.map (·.1)) 0)) 3 ∧ One W w.heap.size (.slice none 0 0) 111 ∧ One W (w.heap.size + 1) (.int .i64 0) 26 ∧
    OwnI W (w.heap.size + 7) ov pre ∧ checkF (pre.map (·.1)) 0 = some (pre.map (·.1)) ∧ Below w.heap.size w W ∧ w.heap.size + 5 ≤ W.heap.size
/-- .. and how a round may leave. -/
def DecX (w : World) (b : List UInt8) (c : Code) (pre : List ItV) (W : World) : Prop :=
  c = .ret ∧ One W w.heap.size (.slice none 0 0) 111 ∧ One W (w.heap.size + 1) (.int .i64 2) 26 ∧ checkF (itemsL b) 0 = none ∧ Below w.heap.size w W ∧ w.heap.size + 5 ≤ W.heap.size

theorem DecI.keep {w : World} {b : List UInt8} {pre : List ItV} {A B : World} (h : DecI w b pre A) (hk : Kept (fun k => k ≠ w.heap.size + 4 ∧ k ≠ w.heap.size + 6) A B) : DecI w b pre B := by
  obtain ⟨ov, h1, h2, h3, h4, h5, h6, h7, h8⟩ := h
  exact ⟨ov, h1.of_block (hk.block _ h1.lt (by omega)), h2.of_block (hk.block _ h2.lt (by omega)), h3.of_block (hk.block _ h3.lt (by omega)), h4.of_block (hk.block _ h4.lt (by omega)),
    h5.keep (fun k h1 h2 => hk.block k h2 (by omega)), h6, hk.to_below h7 (by omega) (fun k hk2 => by omega), Nat.le_trans h8 hk.size⟩
theorem DecX.keep {w : World} {b : List UInt8} {c : Code} {pre : List ItV} {A B : World} (h : DecX w b c pre A) (hk : Kept (fun k => k ≠ w.heap.size + 4 ∧ k ≠ w.heap.size + 6) A B) : DecX w b c pre B := by
  obtain ⟨h0, h1, h2, h3, h7, h8⟩ := h
  exact ⟨h0, h1.of_block (hk.block _ h1.lt (by omega)), h2.of_block (hk.block _ h2.lt (by omega)), h3, hk.to_below h7 (by omega) (fun k hk2 => by omega), Nat.le_trans h8 hk.size⟩

end Go.Proofs.YtnohglkilpnjhaaGreatDoor

/- The walk of the reference's cut. No condition. -/
namespace Go.Proofs.YtnohglkilpnjhaaGreatDoor
open Go.RowKit

theorem wrap_u64 {n : Int} (h0 : 0 ≤ n) (h1 : n < 18446744073709551616) : IntKind.u64.wrap n = n := by simp [IntKind.wrap, IntKind.bits, IntKind.signed]; omega

end Go.Proofs.YtnohglkilpnjhaaGreatDoor

/- The walk of manifest.blob: what a record tells of a blob. No condition. -/
namespace Go.Proofs.YtnohglkilpnjhaaGreatDoor
open Go.RowKit
set_option linter.unusedVariables false
set_option linter.unusedSimpArgs false
set_option maxRecDepth 100000

/-- 32 bytes as a hash in its place. -/
theorem Bytes.dig5 {w : World} {v : Value} {l : List UInt8} (h : Bytes w v l) (h32 : l.length = 32) : ∃ g off c, v = .slice (some ⟨g, off, none⟩) 32 c ∧ DigAt w g off l := by
  obtain ⟨g, off, c, hv, _, hc⟩ := h.cell (by omega)
  exact ⟨g, off, c, by rw [hv, h32], h32, fun j hj => by rw [hc j (by omega)]; simp [List.getElem?_eq_getElem (show j < l.length by omega), List.getD]⟩
end Go.Proofs.YtnohglkilpnjhaaGreatDoor

/- The walk of manifest.Decode: the image that bytes are. No condition. -/
namespace Go.Proofs.YtnohglkilpnjhaaGreatDoor
open Go.RowKit
set_option linter.unusedVariables false
set_option linter.unusedSimpArgs false
set_option maxRecDepth 100000

/-- An image as a value of one cell: the slice of its blobs. -/
def RImg : RecT 52 Value where
  n := 1
  bytes := 24
  zero := .slice none 0 0
  cells := fun v => [v]
  ok := fun v => v.oneCell' = true
  pos := by decide
  small := by decide
  few := by decide
  zok := rfl
  len := fun _ => rfl
  one := fun {x} h v hv => by simp at hv; rw [hv]; exact h
  agg := ⟨_, Tryz.underlying52, rfl⟩
  info := by kernel_rfl
theorem RImg_one {w : World} {g : Nat} {v : Value} (h : RImg.O w g v) : One w g v 52 := h.1
theorem one_RImg {w : World} {g : Nat} {v : Value} (h : One w g v 52) (hv : v.oneCell' = true) : RImg.O w g v := ⟨h, hv⟩
end Go.Proofs.YtnohglkilpnjhaaGreatDoor

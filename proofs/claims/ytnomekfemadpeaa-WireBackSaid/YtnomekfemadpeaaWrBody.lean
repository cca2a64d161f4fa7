/- The walks of wire.uints and body, and of the document's num: numbers as bytes, a message's item as bytes. Conditions: no more than 1000 numbers, hashes, members; the numbers' bytes fit. -/
import Derived.Test.YtnomekfemadpeaaWrRight
import Derived.Test.YtnomekfemadpeaaGc
import Derived.Deep.RegionHeld3
import Derived.Deep.AppendLies
namespace Go.Proofs.Ytnomekfemadpeaa
open Go.RowKit
set_option linter.unusedVariables false
set_option linter.unusedSimpArgs false
set_option maxRecDepth 100000

theorem u64_conv (y : Int) : IntKind.u64.wrap y = ((u64L y : Nat) : Int) := by simp [u64L, IntKind.wrap, IntKind.bits, IntKind.signed]; omega
theorem u64_conv' (y : Int) : y % 18446744073709551616 = ((u64L y : Nat) : Int) := by simp [u64L]; omega
theorem uintsL_take {l : List Int} {k : Nat} (h : k < l.length) : uintsL (l.take (k + 1)) = uintsL (l.take k) ++ uint (u64L (l.getD k 0)) := by
  rw [List.take_add_one, List.getElem?_eq_getElem h, ← uintsL_snoc]
  simp [List.getD, List.getElem?_eq_getElem h]
theorem uintsL_len (l : List Int) : (uintsL l).length ≤ 10 * l.length := by
  induction l with
  | nil => simp [uintsL]
  | cons x r ih =>
    have := uint_len10 (u64L_lt x)
    simp only [uintsL, List.flatMap_cons, List.length_append, List.length_cons] at *; omega

/-- What uints comes to. -/
def UintsPost (w : World) (c : List UInt8) (e : Ending) (w' : World) : Prop := ∃ v, e = .returned v ∧ Own8 w' w.heap.size 5 v c ∧ Below w.heap.size w w'
set_option maxHeartbeats 1600000 in
theorem uints_any (v : Value) (l : List Int) (w : World) (hl : Ints w v l) (hlen : l.length ≤ 1000000) : Calls Try.prog 37 #[v] w (UintsPost w (uintsL l)) := by
  obtain ⟨i0, hi, hz0, hz1, hz2⟩ := info_parts infoU8
  obtain ⟨a, c, hv⟩ := hl.len
  subst hv
  have HL := Lib.hid hl
  clear hl
  go_enter Try.func37, Try.ntmps37
  go_wp2
  go_loopw [3, 5, 8] (fun ov _ iv W => ∃ k : Nat, k ≤ l.length ∧ iv = .int .i64 k ∧ Own8 W w.heap.size 5 ov (uintsL (l.take k)) ∧ Below w.heap.size w W) (fun _ _ iv _ => l.length - (intOf iv).toNat)
  case atStart => exact ⟨0, Nat.zero_le _, rfl, Own8.nil _ _ _, Below.refl _ _⟩
  case round =>
    obtain ⟨k, hk, rfl, ho, hb⟩ := hrel
    obtain ⟨oa, oc, hv⟩ := ho.bytes.len
    subst hv
    by_cases hlt : k < l.length
    · obtain ⟨b, off, c', hv, hbl, hc⟩ := HL.out.cell (by omega)
      obtain ⟨rfl, rfl⟩ : a = some ⟨b, off, none⟩ ∧ c = c' := by cases hv; exact ⟨rfl, rfl⟩
      replace hc := (hb.cell (p := ⟨b, off + k, none⟩) hbl).trans (hc k hlt)
      have hst := uintsL_take hlt
      have hol := uintsL_len (l.take k)
      rw [List.length_take] at hol
      generalize l.getD k 0 = y at *
      generalize uintsL (l.take k) = out at *
      have h10 := uint_len10 (u64L_lt y)
      have HO := Lib.hid ho
      have HST := Lib.hid hst
      have hol2 : out.length ≤ 10000000 := by omega
      have hU := fun w' x (hx : x = ((u64L y : Nat) : Int)) => Uint_at x (u64L y) w' hx (u64L_lt y)
      have HU := Lib.hid hU
      have hsz := hb.size
      clear hv ho hst hol hU
      go_wp2_with (first
        | (go_at_call 38; refine (HU.out _ _ (by first | exact u64_conv y | exact u64_conv' y)).mono ?_; rintro e w2 ⟨v2, rfl, ho2, hb2⟩; obtain ⟨a2, c2, hv2⟩ := ho2.bytes.len; subst hv2; have HO2 := Lib.hid ho2; have HB2 := Lib.hid hb2; have hs2 := hb2.size; clear ho2 hb2)
        | (at_builtin; refine wpList_app8 rfl (.tmp 12) (.tmp 15) 25 rfl w.heap.size 5 i0 Try.underlying25 hi hz0 hz1 hz2 _ out rfl (HO.out.new HB2.out) _ (uint (u64L y)) rfl HO2.out.bytes (by omega) (by omega) ?_; intro v3 w3 ho3 hg3 hn3; obtain ⟨a3, c3, hv3⟩ := ho3.bytes.len; subst hv3; have HO3 := Lib.hid ho3; have HG3 := Lib.hid hg3; clear ho3 hg3 hn3))
      go_roundw
      case rel =>
        refine ⟨k + 1, by omega, by go_num, ?_, (below_next hb HB2.out).grown HG3.out (by omega) (fun j hj => (HO.out.lt j hj).1)⟩
        rw [HST.out]
        have h := HO3.out
        rw [List.length_append] at h
        exact h
      case measure => simp [intOf]; omega
    · obtain ⟨out, hout⟩ : ∃ out, uintsL (l.take k) = out := ⟨_, rfl⟩
      rw [hout] at ho ⊢
      rw [List.take_of_length_le (by omega)] at hout
      have HE := Lib.hid hout
      have HO := Lib.hid ho
      clear ho hout
      go_wp2
      go_ret
      exact ⟨_, rfl, by rw [HE.out]; exact HO.out, hb⟩

theorem num_any (n : Int) (w : World) : Calls Try.prog 21 #[.int .i64 n] w (UintsPost w (uint (u64L n))) := by
  have hU := fun w' x (hx : x = ((u64L n : Nat) : Int)) => refUint_at x (u64L n) w' hx (u64L_lt n)
  have HU := Lib.hid hU
  clear hU
  go_enter Try.func21, Try.ntmps21
  go_wp2_with (first | (go_at_call 39; refine (HU.out _ _ (by first | exact u64_conv n | exact u64_conv' n)).mono ?_; rintro e w2 ⟨v2, rfl, ho2, hb2⟩; have HO2 := Lib.hid ho2; have HB2 := Lib.hid hb2; clear ho2 hb2))
  go_ret
  exact ⟨_, rfl, HO2.out, HB2.out⟩

/-- A hash as a slice of bytes. -/
theorem DigAt.bytes {w : World} {g off : Nat} {d : List UInt8} (h : DigAt w g off d) : Bytes w (.slice (some ⟨g, off, none⟩) 32 32) d := by
  have hl := h.1
  refine ⟨by simp, some ⟨g, off, none⟩, 32, by rw [hl], by omega, by unfold maxLen; omega, (fun h => by cases h), fun _ => ⟨g, off, rfl, h.lt, fun j hj => ?_⟩⟩
  exact h.2 j (by omega)

theorem flat_take {l : List (List UInt8)} {k : Nat} (h : k < l.length) : (l.take (k + 1)).flatten = (l.take k).flatten ++ l.getD k [] := by
  rw [List.take_add_one, List.getElem?_eq_getElem h, List.flatten_append]
  simp [List.getD, List.getElem?_eq_getElem h]
theorem flat_len {l : List (List UInt8)} (h : Dig32 l) : l.flatten.length = 32 * l.length := by
  induction l with
  | nil => rfl
  | cons x r ih =>
    have := ih (fun d hd => h d (.tail _ hd))
    have := h x (.head _)
    simp only [List.flatten_cons, List.length_append, List.length_cons]; omega
theorem memU_take {l : List MemL} {k : Nat} (h : k < l.length) : (l.take (k + 1)).flatMap memU = (l.take k).flatMap memU ++ memU (l.getD k mem0) := by
  rw [List.take_add_one, List.getElem?_eq_getElem h, List.flatMap_append]
  simp [List.getD, List.getElem?_eq_getElem h]
theorem memU_len (l : List MemL) : (l.flatMap memU).length ≤ 30 * l.length := by
  induction l with
  | nil => simp
  | cons x r ih =>
    have := uintsL_len [x.id, x.inc, x.state]
    simp only [List.flatMap_cons, List.length_append, List.length_cons, memU, List.length_nil] at *; omega

/-- What body comes to: bytes that lie in the message, or in what the call made. -/
def BodyPost (w : World) (five : Prop) (u : Value) (c : List UInt8) (e : Ending) (w' : World) : Prop := ∃ v, e = .returned v ∧ Bytes w' v c ∧ Below w.heap.size w w' ∧ ∀ k, v.ownBlock = some k → (five ∧ u.ownBlock = some k) ∨ (w.heap.size ≤ k ∧ k < w'.heap.size)
theorem UintsPost.body {five : Prop} {w w2 : World} {u : Value} {c : List UInt8} (hb : Below w.heap.size w w2) : ∀ e w', UintsPost w2 c e w' → BodyPost w five u c e w' := by
  rintro e w' ⟨v, rfl, ho, hb2⟩
  refine ⟨v, rfl, ho.bytes, below_next hb hb2, fun k hk => .inr ?_⟩
  have := ho.lt k hk
  have := hb.size
  exact ⟨by omega, by omega⟩

set_option maxHeartbeats 3200000 in
theorem body_any (m : MsgL) (s : MsgS) (i : Int) (w : World) (hm : MsgR w m s) (h1 : 1 ≤ i) (h2 : i ≤ 8) (hi1 : m.ids.length ≤ 1000) (hp1 : m.proof.length ≤ 1000) (hm1 : m.members.length ≤ 1000) :
    Calls Try.prog 18 #[MsgV m s, .int .i64 i] w (BodyPost w (i = 5) s.vb (bodyL m i)) := by
  obtain ⟨i0, hi, hz0, hz1, hz2⟩ := info_parts infoU8
  obtain ⟨W, hW, ho, hb⟩ := msg_boxed w (s := s) hm.hash
  rw [show MsgV m s = .agg (msgCells m s).toArray from rfl]
  have hmW := hm.of_new hb
  have hii := hmW.ids
  have hpp := hmW.proof
  have hme := hmW.members
  have hby := hmW.bytes
  obtain ⟨ai, ci, hvi⟩ := hii.len
  obtain ⟨ab, cb, hvb⟩ := hby.len
  obtain ⟨ap, cp, hvp⟩ := hpp.len
  obtain ⟨am, cm, hvm⟩ := hme.len
  have e0 := ho.kind
  have eh := ho.hash
  have e3 := ho.piece
  have e4 := ho.ids
  have e5 := ho.bytes
  have e6 := ho.proof
  have e7 := ho.members
  have e8 := ho.seed
  have hls := ho.lt
  have hsb : s.vb.ownBlock = s.vb.ownBlock := rfl
  rw [hvi] at e4 hii
  rw [hvb] at e5 hby ⊢
  rw [hvp] at e6 hpp
  rw [hvm] at e7 hme
  have HW := Lib.hid hW
  have HI := Lib.hid hii
  have HB := Lib.hid hby
  have HP := Lib.hid hpp
  have HM := Lib.hid hme
  have EH := Lib.hid eh
  clear hW hm hmW hvi hvb hvp hvm ho hii hpp hme hby hsb eh
  obtain ⟨F, hF⟩ : ∃ F : Prop, (i = 5) = F := ⟨_, rfl⟩
  rw [hF]
  have HF := Lib.hid hF
  clear hF
  rcases (show i = 1 ∨ i = 2 ∨ i = 3 ∨ i = 4 ∨ i = 5 ∨ i = 6 ∨ i = 7 ∨ i = 8 by omega) with rfl | rfl | rfl | rfl | rfl | rfl | rfl | rfl
  · rw [show bodyL m 1 = uintsL [m.kind] from rfl]
    clear e3 e4 e5 e6 e7 e8
    generalize m.kind = n at *
    have hU := uints_any _ [n] _ (ints_laid W [n] 3 (by unfold maxLen; simp)) (by simp)
    have HU := Lib.hid hU
    clear hU
    go_enter Try.func18, Try.ntmps18
    go_upto_region 2 with (fail)
    rw [HW.out]
    go_wp2_with (first | (go_at_call 37; refine HU.out.mono ?_; intro e w2 hu; have HUP := Lib.hid (UintsPost.body (five := F) (u := .slice ab m.bytes.length cb) (hb.alloc hb.size _) e w2 hu); obtain ⟨v2, rfl, ho2, hb2⟩ := hu; clear ho2 hb2))
    go_ret
    exact HUP.out
  · rw [show bodyL m 2 = m.hash from rfl]
    clear e0 e3 e4 e5 e6 e7 e8
    go_enter Try.func18, Try.ntmps18
    go_upto_region 2 with (fail)
    rw [HW.out]
    go_wp2
    go_ret
    exact ⟨_, rfl, EH.out.bytes, hb, fun k hk => .inr (by cases hk; exact ⟨Nat.le_refl _, hls⟩)⟩
  · rw [show bodyL m 3 = uintsL [m.piece] from rfl]
    clear e0 e4 e5 e6 e7 e8
    generalize m.piece = n at *
    have hU := uints_any _ [n] _ (ints_laid W [n] 3 (by unfold maxLen; simp)) (by simp)
    have HU := Lib.hid hU
    clear hU
    go_enter Try.func18, Try.ntmps18
    go_upto_region 2 with (fail)
    rw [HW.out]
    go_wp2_with (first | (go_at_call 37; refine HU.out.mono ?_; intro e w2 hu; have HUP := Lib.hid (UintsPost.body (five := F) (u := .slice ab m.bytes.length cb) (hb.alloc hb.size _) e w2 hu); obtain ⟨v2, rfl, ho2, hb2⟩ := hu; clear ho2 hb2))
    go_ret
    exact HUP.out
  · rw [show bodyL m 4 = uintsL m.ids from rfl]
    clear e0 e3 e5 e6 e7 e8
    have hU := uints_any _ m.ids W HI.out (by omega)
    have HU := Lib.hid hU
    clear hU
    generalize m.ids.length = n at *
    go_enter Try.func18, Try.ntmps18
    go_upto_region 2 with (fail)
    rw [HW.out]
    go_wp2_with (first | (go_at_call 37; refine HU.out.mono ?_; intro e w2 hu; have HUP := Lib.hid (UintsPost.body (five := F) (u := .slice ab m.bytes.length cb) hb e w2 hu); obtain ⟨v2, rfl, ho2, hb2⟩ := hu; clear ho2 hb2))
    go_ret
    exact HUP.out
  · rw [show bodyL m 5 = m.bytes from rfl]
    clear e0 e3 e4 e6 e7 e8
    go_enter Try.func18, Try.ntmps18
    go_upto_region 2 with (fail)
    rw [HW.out]
    go_wp2
    go_ret
    exact ⟨_, rfl, HB.out, hb, fun k hk => .inl ⟨HF.out.mp (by first | trivial | rfl), hk⟩⟩
  · rw [show bodyL m 6 = m.proof.flatten from rfl]
    clear e0 e3 e4 e5 e7 e8
    have hd32 := HP.out.1
    generalize m.proof = pr at *
    have HD32 := Lib.hid hd32
    clear hd32
    go_enter Try.func18, Try.ntmps18
    go_upto_region 2 with (fail)
    rw [HW.out]
    go_wp2
    go_loopw [5, 7, 41] (fun ov _ iv W' => ∃ k : Nat, k ≤ pr.length ∧ iv = .int .i64 k ∧ Own8 W' W.heap.size 5 ov (pr.take k).flatten ∧ Below W.heap.size W W') (fun _ _ iv _ => pr.length - (intOf iv).toNat)
    case atStart => exact ⟨0, Nat.zero_le _, rfl, Own8.nil _ _ _, Below.refl _ _⟩
    case round =>
      obtain ⟨k, hk, rfl, ho, hbr⟩ := hrel
      obtain ⟨oa, oc, hv⟩ := ho.bytes.len
      subst hv
      have hol := flat_len (l := pr.take k) (fun d hd => HD32.out d (List.mem_of_mem_take hd))
      rw [List.length_take] at hol
      by_cases hlt : k < pr.length
      · obtain ⟨pb, poff, pc, hv⟩ := HP.out.shape (by omega)
        obtain ⟨rfl, rfl⟩ : ap = some ⟨pb, poff, none⟩ ∧ cp = pc := by cases hv; exact ⟨rfl, rfl⟩
        have hd := (HP.out.digAt hlt).of_new hbr
        have hst := flat_take hlt
        generalize pr.getD k [] = d at *
        generalize (pr.take k).flatten = out at *
        have HO := Lib.hid ho
        have HST := Lib.hid hst
        have hdl := hd.1
        have HDL := Lib.hid hdl
        have hol2 : out.length ≤ 32000 := by omega
        have hsz := hbr.size
        clear hv ho hst hol hdl
        go_wp2_with (first
          | ((with_reducible apply wpList_load_at (ty := 23) (x := .tmp _)); rfl; rfl; rfl; assumption)
          | ((with_reducible refine wpList_store_fresh (op := ⟨none, Op.store 23 (.tmp 7) (.tmp 44), _, _, _, _⟩) (.tmp 7) (.tmp 44) (d) ?_ ?_ ?_ ?_ ?_ ?_ ?_); rfl; rfl; rfl; rfl; rfl; exact HDL.out; intro w3 hx3 ho3 hb3 hz3)
          | (at_builtin; refine wpList_app8 rfl (.tmp 45) (.tmp 46) 25 rfl W.heap.size 5 i0 Try.underlying25 hi hz0 hz1 hz2 _ out rfl (HO.out.new hb3) _ d rfl hx3.bytes (by have := HDL.out; omega) (by omega) ?_; intro v4 w4 ho4 hg4 hn4; obtain ⟨a4, c4, hv4⟩ := ho4.bytes.len; subst hv4; have HO4 := Lib.hid ho4; have HG4 := Lib.hid hg4; clear ho4 hg4 hn4))
        go_roundw
        case rel =>
          refine ⟨k + 1, by omega, by go_num, ?_, (below_next hbr hb3).grown HG4.out (by omega) (fun j hj => (HO.out.lt j hj).1)⟩
          rw [HST.out]
          have h := HO4.out
          rw [List.length_append] at h
          exact h
        case measure => simp [intOf]; omega
      · obtain ⟨out, hout⟩ : ∃ out, (pr.take k).flatten = out := ⟨_, rfl⟩
        rw [hout] at ho ⊢
        rw [List.take_of_length_le (by omega)] at hout
        have HE := Lib.hid hout
        have HO := Lib.hid ho
        clear ho hout hol
        go_wp2
        go_ret
        exact ⟨_, rfl, by rw [HE.out]; exact HO.out.bytes, below_next hb hbr, fun j hj => .inr ⟨by have := HO.out.lt j hj; have := hb.size; omega, (HO.out.lt j hj).2⟩⟩
  · rw [show bodyL m 7 = m.members.flatMap memU from rfl]
    clear e0 e3 e4 e5 e6 e8
    generalize m.members = ms at *
    go_enter Try.func18, Try.ntmps18
    go_upto_region 2 with (fail)
    rw [HW.out]
    go_wp2
    go_loopw [5, 9, 54] (fun ov _ iv W' => ∃ k : Nat, k ≤ ms.length ∧ iv = .int .i64 k ∧ Own8 W' W.heap.size 5 ov ((ms.take k).flatMap memU) ∧ Below W.heap.size W W') (fun _ _ iv _ => ms.length - (intOf iv).toNat)
    case atStart => exact ⟨0, Nat.zero_le _, rfl, Own8.nil _ _ _, Below.refl _ _⟩
    case round =>
      obtain ⟨k, hk, rfl, ho, hbr⟩ := hrel
      obtain ⟨oa, oc, hv⟩ := ho.bytes.len
      subst hv
      have hol := memU_len (ms.take k)
      rw [List.length_take] at hol
      by_cases hlt : k < ms.length
      · obtain ⟨pb, poff, pc, hv, hpbl, hcell⟩ := HM.out.cell (by omega)
        obtain ⟨rfl, rfl⟩ : am = some ⟨pb, poff, none⟩ ∧ cm = pc := by cases hv; exact ⟨rfl, rfl⟩
        obtain ⟨d0, d1, d2, d3⟩ := (hcell k hlt).of_new hbr
        have hst := memU_take hlt
        generalize ms.getD k mem0 = x at *
        generalize (ms.take k).flatMap memU = out at *
        have HO := Lib.hid ho
        have HST := Lib.hid hst
        have hol2 : out.length ≤ 30000 := by omega
        have hsz := hbr.size
        have hm10 : (memU x).length ≤ 30 := by have := uintsL_len [x.id, x.inc, x.state]; simpa [memU] using this
        have hU := uints_any _ [x.id, x.inc, x.state] _ (ints_laid (wr.alloc (.cells #[.int .i64 x.id, .int .i64 x.inc, .int .i64 x.state, .int .i64 x.since] 37)) [x.id, x.inc, x.state] 3 (by unfold maxLen; simp)) (by simp)
        rw [World.size_alloc] at hU
        have HU := Lib.hid hU
        have hbU : Below wr.heap.size wr ((wr.alloc (.cells #[.int .i64 x.id, .int .i64 x.inc, .int .i64 x.state, .int .i64 x.since] 37)).alloc (.cells ([x.id, x.inc, x.state].map I64).toArray 3)) := ((Below.refl _ _).alloc (Nat.le_refl _) _).alloc (by simp) _
        have HBU := Lib.hid hbU
        clear hv ho hst hol hU hcell hbU
        go_wp2_with (first
          | (go_at_call 37; refine HU.out.mono ?_; rintro e w2 ⟨v2, rfl, ho2, hb2⟩; obtain ⟨a2, c2, hv2⟩ := ho2.bytes.len; subst hv2; have HO2 := Lib.hid ho2; have HB2 := Lib.hid (below_next HBU.out hb2); have hs2 := HB2.out.size; clear ho2 hb2)
          | (at_builtin; refine wpList_app8 rfl (.tmp 58) (.tmp 66) 25 rfl W.heap.size 5 i0 Try.underlying25 hi hz0 hz1 hz2 _ out rfl (HO.out.new HB2.out) _ (memU x) rfl HO2.out.bytes (by omega) (by omega) ?_; intro v4 w4 ho4 hg4 hn4; obtain ⟨a4, c4, hv4⟩ := ho4.bytes.len; subst hv4; have HO4 := Lib.hid ho4; have HG4 := Lib.hid hg4; clear ho4 hg4 hn4))
        go_roundw
        case rel =>
          refine ⟨k + 1, by omega, by go_num, ?_, (below_next hbr HB2.out).grown HG4.out (by omega) (fun j hj => (HO.out.lt j hj).1)⟩
          rw [HST.out]
          have h := HO4.out
          rw [List.length_append] at h
          exact h
        case measure => simp [intOf]; omega
      · obtain ⟨out, hout⟩ : ∃ out, (ms.take k).flatMap memU = out := ⟨_, rfl⟩
        rw [hout] at ho ⊢
        rw [List.take_of_length_le (by omega)] at hout
        have HE := Lib.hid hout
        have HO := Lib.hid ho
        clear ho hout hol
        go_wp2
        go_ret
        exact ⟨_, rfl, by rw [HE.out]; exact HO.out.bytes, below_next hb hbr, fun j hj => .inr ⟨by have := HO.out.lt j hj; have := hb.size; omega, (HO.out.lt j hj).2⟩⟩
  · rw [show bodyL m 8 = uintsL [if m.seed then 1 else 0] from rfl]
    clear e0 e3 e4 e5 e6 e7
    generalize m.seed = sd at *
    cases sd with
    | true =>
      have hU := uints_any _ [1] _ (ints_laid W [1] 3 (by unfold maxLen; simp)) (by simp)
      have HU := Lib.hid hU
      clear hU
      go_enter Try.func18, Try.ntmps18
      go_upto_region 2 with (fail)
      rw [HW.out]
      go_wp2_with (first | (go_at_call 37; refine HU.out.mono ?_; intro e w2 hu; have HUP := Lib.hid (UintsPost.body (five := F) (u := .slice ab m.bytes.length cb) (hb.alloc hb.size _) e w2 hu); obtain ⟨v2, rfl, ho2, hb2⟩ := hu; clear ho2 hb2))
      go_ret
      exact HUP.out
    | false =>
      have hU := uints_any _ [0] _ (ints_laid W [0] 3 (by unfold maxLen; simp)) (by simp)
      have HU := Lib.hid hU
      clear hU
      go_enter Try.func18, Try.ntmps18
      go_upto_region 2 with (fail)
      rw [HW.out]
      go_wp2_with (first | (go_at_call 37; refine HU.out.mono ?_; intro e w2 hu; have HUP := Lib.hid (UintsPost.body (five := F) (u := .slice ab m.bytes.length cb) (hb.alloc hb.size _) e w2 hu); obtain ⟨v2, rfl, ho2, hb2⟩ := hu; clear ho2 hb2))
      go_ret
      exact HUP.out

end Go.Proofs.Ytnomekfemadpeaa

/- Texts of this claim, one behind the other: each begins with a comment that says what it proves and asks. -/
import Derived.Test.YtnohglkilpnjhaaGreatDoorRi17
import Derived.LoopN
import Derived.LoopNIn
import Derived.LoopIn
/- What the document's answer's Decode computes, in plain Lean: the same as wire.Decode. No condition. -/
namespace Go.Proofs.YtnohglkilpnjhaaGreatDoor
set_option linter.unusedVariables false
set_option linter.unusedSimpArgs false

/-- The reference's numbers: all of them are numbers, and no more than so many. -/
def rnumsL (b : List UInt8) (most : Nat) : Option (List Int) := if (numsL b).all (fun n => decide (0 ≤ n)) = true ∧ (numsL b).length ≤ most then some (numsL b) else none
theorem rnums_bad {b : List UInt8} {most : Nat} {pre : List Int} {rest : List UInt8} (h : numsL b = pre ++ numsL rest) (hr : rest ≠ []) (hs : numStep rest = none) : rnumsL b most = none := by
  unfold rnumsL
  rw [h, numsL_bad hr hs, if_neg]
  simp
theorem rnums_many {b : List UInt8} {most : Nat} {pre : List Int} {rest : List UInt8} {x m : Nat} (h : numsL b = pre ++ numsL rest) (hs : numStep rest = some (x, m)) (hm : most ≤ pre.length) : rnumsL b most = none := by
  unfold rnumsL
  rw [h, numsL_step hs, if_neg]
  simp; omega
theorem rnums_all {b : List UInt8} {most : Nat} {pre : List Int} (h : numsL b = pre ++ numsL []) (hp : ∀ n ∈ pre, 0 ≤ n) (hm : pre.length ≤ most) : rnumsL b most = some pre := by
  unfold rnumsL
  rw [h, numsL_nil, List.append_nil, if_pos ⟨by simpa using hp, hm⟩]

theorem rnums_uints {l : List Int} {most : Nat} (h : ∀ n ∈ l, 0 ≤ n ∧ n < 4398046511104) (hl : l.length ≤ most) : rnumsL (uintsL l) most = some l := by
  unfold rnumsL
  rw [numsL_uints l h, if_pos ⟨by simpa using fun n hn => (h n hn).1, hl⟩]

/-- One number. -/
def roneL (b : List UInt8) : Option Int := if ((rnumsL b 1).isSome && decide (((rnumsL b 1).getD []).length = 1)) = true then some (((rnumsL b 1).getD []).getD 0 0) else none
def rputL (m : MsgL) (i : Int) (b : List UInt8) : Option MsgL :=
  if i = 1 then (roneL b).map fun n => { m with kind := n }
  else if i = 2 then (if b.length = 32 then some { m with hash := b } else none)
  else if i = 3 then (roneL b).map fun n => { m with piece := n }
  else if i = 4 then (rnumsL b 64).map fun l => { m with ids := l }
  else if i = 5 then some { m with bytes := b }
  else if i = 6 then (if b.length % 32 = 0 then some { m with proof := m.proof ++ digsB b } else none)
  else if i = 7 then (rnumsL b 195).bind fun l => if l.length % 3 = 0 then some { m with members := m.members ++ memsB l } else none
  else if i = 8 then (roneL b).map fun n : Int => { m with seed := n == 1 }
  else some m
def rputsL : List It → MsgL → Bool → MsgL × Bool
  | [], m, f => (m, f)
  | x :: xs, m, f => match rputL m x.1 x.2 with
    | some m1 => rputsL xs m1 f
    | none => rputsL xs m false
def rdecP (b : List UInt8) : Option MsgL := (decL b).bind fun l => if (rputsL l msgZ true).2 = true ∧ encM (rputsL l msgZ true).1 = some b then some (rputsL l msgZ true).1 else none

theorem rputs_some {x : It} {xs : List It} {m m1 : MsgL} {f : Bool} (h : rputL m x.1 x.2 = some m1) : rputsL (x :: xs) m f = rputsL xs m1 f := by simp only [rputsL, h]
theorem rputs_none {x : It} {xs : List It} {m : MsgL} {f : Bool} (h : rputL m x.1 x.2 = none) : rputsL (x :: xs) m f = rputsL xs m false := by simp only [rputsL, h]
/-- A message whose hashes are hashes. -/
def MsgL.fine (m : MsgL) : Prop := m.hash.length = 32 ∧ ∀ d ∈ m.proof, d.length = 32
theorem rput_fine {m m1 : MsgL} {i : Int} {b : List UInt8} (h : rputL m i b = some m1) (hm : m.fine) : m1.fine := by
  unfold rputL at h
  split at h
  · obtain ⟨n, _, rfl⟩ := Option.map_eq_some_iff.1 h; exact hm
  split at h
  · split at h
    · rename_i h32; cases h; exact ⟨h32, hm.2⟩
    · cases h
  split at h
  · obtain ⟨n, _, rfl⟩ := Option.map_eq_some_iff.1 h; exact hm
  split at h
  · obtain ⟨n, _, rfl⟩ := Option.map_eq_some_iff.1 h; exact hm
  split at h
  · cases h; exact hm
  split at h
  · split at h
    · rename_i h32
      cases h
      refine ⟨hm.1, fun d hd => ?_⟩
      rcases List.mem_append.1 hd with hd | hd
      · exact hm.2 d hd
      · exact (flat_digsB _ b (Nat.le_refl _) h32).2 d hd
    · cases h
  split at h
  · obtain ⟨n, _, h⟩ := Option.bind_eq_some_iff.1 h
    split at h
    · cases h; exact hm
    · cases h
  split at h
  · obtain ⟨n, _, rfl⟩ := Option.map_eq_some_iff.1 h; exact hm
  · cases h; exact hm
theorem rputs_fine : ∀ (l : List It) (m : MsgL) (f : Bool), m.fine → (rputsL l m f).1.fine
  | [], m, f, h => h
  | x :: xs, m, f, h => by
    cases hp : rputL m x.1 x.2 with
    | none => rw [rputs_none hp]; exact rputs_fine xs m false h
    | some m1 => rw [rputs_some hp]; exact rputs_fine xs m1 f (rput_fine hp h)

theorem roneL_uint {n : Int} (h0 : 0 ≤ n) (h1 : n < 4398046511104) : roneL (uintsL [n]) = some n := by
  unfold roneL
  rw [rnums_uints (fun k hk => by simp at hk; omega) (by simp)]
  rfl
theorem rput1 {m : MsgL} {n : Int} (h0 : 0 ≤ n) (h1 : n < 4398046511104) : rputL m 1 (uintsL [n]) = some { m with kind := n } := by simp [rputL, roneL_uint h0 h1]
theorem rput2 {m : MsgL} {b : List UInt8} (h : b.length = 32) : rputL m 2 b = some { m with hash := b } := by simp [rputL, h]
theorem rput3 {m : MsgL} {n : Int} (h0 : 0 ≤ n) (h1 : n < 4398046511104) : rputL m 3 (uintsL [n]) = some { m with piece := n } := by simp [rputL, roneL_uint h0 h1]
theorem rput4 {m : MsgL} {l : List Int} (h : ∀ n ∈ l, 0 ≤ n ∧ n < 4398046511104) (hl : l.length ≤ 64) : rputL m 4 (uintsL l) = some { m with ids := l } := by simp [rputL, rnums_uints h hl]
theorem rput5 {m : MsgL} {b : List UInt8} : rputL m 5 b = some { m with bytes := b } := by simp [rputL]
theorem flat_mod : ∀ l : List (List UInt8), (∀ d ∈ l, d.length = 32) → l.flatten.length % 32 = 0 := fun l => by
  induction l with
  | nil => intro _; rfl
  | cons d l ih => intro h; rw [List.flatten_cons, List.length_append, h d (by simp)]; have := ih (fun x hx => h x (by simp [hx])); omega
theorem rput6 {m : MsgL} {l : List (List UInt8)} (h : ∀ d ∈ l, d.length = 32) : rputL m 6 l.flatten = some { m with proof := m.proof ++ l } := by simp only [rputL, show ¬ ((6 : Int) = 1) by decide, show ¬ ((6 : Int) = 2) by decide, show ¬ ((6 : Int) = 3) by decide, show ¬ ((6 : Int) = 4) by decide, show ¬ ((6 : Int) = 5) by decide, if_false, if_true, flat_mod l h, digsB_flat l h]
theorem rput7 {m : MsgL} {l : List MemL} (h : l.all memB0 = true) (hl : l.length ≤ 65) : rputL m 7 (l.flatMap memU) = some { m with members := m.members ++ l } := by
  obtain ⟨h1, h2⟩ := memsB_uints l h
  have h3 : rnumsL (l.flatMap memU) 195 = some (numsL (l.flatMap memU)) := by
    unfold rnumsL
    rw [if_pos]
    refine ⟨?_, by omega⟩
    simp only [List.all_eq_true, decide_eq_true_eq]
    exact memsB_pos _ (by omega) (by rw [h1]; exact h)
  simp only [rputL, show ¬ ((7 : Int) = 1) by decide, show ¬ ((7 : Int) = 2) by decide, show ¬ ((7 : Int) = 3) by decide, show ¬ ((7 : Int) = 4) by decide, show ¬ ((7 : Int) = 5) by decide, show ¬ ((7 : Int) = 6) by decide, if_false, if_true, h3, Option.bind_some, h1]
  rw [if_pos (by omega)]
theorem rput8 {m : MsgL} {n : Int} (h0 : 0 ≤ n) (h1 : n < 4398046511104) : rputL m 8 (uintsL [n]) = some { m with seed := n == 1 } := by simp [rputL, roneL_uint h0 h1]

/-- A message's items put together are it. -/
theorem rputs_items {m : MsgL} (hr : wrightB m = true) (hm : m.fine) : rputsL (itemsM m) msgZ true = (m, true) := by
  have hk := right_kind hr
  have i2 := item_of hr (i := 2) (by omega) (by omega)
  have i3 := item_of hr (i := 3) (by omega) (by omega)
  have i4 := item_of hr (i := 4) (by omega) (by omega)
  have i5 := item_of hr (i := 5) (by omega) (by omega)
  have i6 := item_of hr (i := 6) (by omega) (by omega)
  have i7 := item_of hr (i := 7) (by omega) (by omega)
  have i8 := item_of hr (i := 8) (by omega) (by omega)
  obtain ⟨hh, hp⟩ := hm
  obtain ⟨kind, hash, piece, ids, bytes, proof, members, seed⟩ := m
  dsimp only at hk hh hp
  have h1 := rput1 (m := msgZ) (n := kind) (by omega) (by omega)
  rcases kinds kind with h | h | h | h | h | h | h | h | h | h | h | h
  case inr.inr.inr.inr.inr.inr.inr.inr.inr.inr.inr => omega
  all_goals
    subst h
    simp only [itemB, hasL, bareB, fitsB, withinB, mostL] at i2 i3 i4 i5 i6 i7 i8
    simp at i2 i3 i4 i5 i6 i7 i8
    simp only [itemsM]
  case inl =>
    subst i3 i4 i6 i7 i8
    rw [show hasL 1 = [1, 2, 5] from rfl]
    simp only [List.map_cons, List.map_nil]
    rw [show bodyL _ 1 = uintsL [1] from rfl, rputs_some h1]
    rw [rputs_some (rput2 hh)]
    rw [rputs_some rput5]
    rfl
  case inr.inl =>
    subst i4 i5 i6 i7 i8
    rw [show hasL 2 = [1, 2, 3] from rfl]
    simp only [List.map_cons, List.map_nil]
    rw [show bodyL _ 1 = uintsL [2] from rfl, rputs_some h1]
    rw [rputs_some (rput2 hh)]
    rw [rputs_some (rput3 (n := piece) i3.1 (by omega))]
    rfl
  case inr.inr.inl =>
    subst i4 i5 i6 i7 i8
    rw [show hasL 3 = [1, 2, 3] from rfl]
    simp only [List.map_cons, List.map_nil]
    rw [show bodyL _ 1 = uintsL [3] from rfl, rputs_some h1]
    rw [rputs_some (rput2 hh)]
    rw [rputs_some (rput3 (n := piece) i3.1 (by omega))]
    rfl
  case inr.inr.inr.inl =>
    subst i4 i7 i8
    rw [show hasL 4 = [1, 2, 3, 5, 6] from rfl]
    simp only [List.map_cons, List.map_nil]
    rw [show bodyL _ 1 = uintsL [4] from rfl, rputs_some h1]
    rw [rputs_some (rput2 hh)]
    rw [rputs_some (rput3 (n := piece) i3.1 (by omega))]
    rw [rputs_some rput5]
    rw [rputs_some (rput6 (l := proof) hp)]
    rfl
  case inr.inr.inr.inr.inl =>
    subst i4 i5 i6 i7 i8
    rw [show hasL 5 = [1, 2, 3] from rfl]
    simp only [List.map_cons, List.map_nil]
    rw [show bodyL _ 1 = uintsL [5] from rfl, rputs_some h1]
    rw [rputs_some (rput2 hh)]
    rw [rputs_some (rput3 (n := piece) i3.1 (by omega))]
    rfl
  case inr.inr.inr.inr.inr.inl =>
    subst i3 i4 i5 i6 i7
    rw [show hasL 6 = [1, 2, 8] from rfl]
    simp only [List.map_cons, List.map_nil]
    rw [show bodyL _ 1 = uintsL [6] from rfl, rputs_some h1]
    rw [rputs_some (rput2 hh)]
    cases seed
    · rw [rputs_some (rput8 (n := 0) (by omega) (by omega))]
      rfl
    · rw [rputs_some (rput8 (n := 1) (by omega) (by omega))]
      rfl
  case inr.inr.inr.inr.inr.inr.inl =>
    subst i3 i5 i6 i7 i8
    rw [show hasL 7 = [1, 2, 4] from rfl]
    simp only [List.map_cons, List.map_nil]
    rw [show bodyL _ 1 = uintsL [7] from rfl, rputs_some h1]
    rw [rputs_some (rput2 hh)]
    rw [rputs_some (rput4 (l := ids) (fun n hn => by have := i4.2 n hn; simp [idB, withinB] at this; omega) i4.1)]
    rfl
  case inr.inr.inr.inr.inr.inr.inr.inl =>
    subst i2 i3 i4 i5 i6 i8
    rw [show hasL 8 = [1, 7] from rfl]
    simp only [List.map_cons, List.map_nil]
    rw [show bodyL _ 1 = uintsL [8] from rfl, rputs_some h1]
    rw [rputs_some (rput7 (l := members) (List.all_eq_true.2 i7.2) (by omega))]
    rfl
  case inr.inr.inr.inr.inr.inr.inr.inr.inl =>
    subst i3 i4 i5 i6 i7 i8
    rw [show hasL 9 = [1, 2] from rfl]
    simp only [List.map_cons, List.map_nil]
    rw [show bodyL _ 1 = uintsL [9] from rfl, rputs_some h1]
    rw [rputs_some (rput2 hh)]
    rfl
  case inr.inr.inr.inr.inr.inr.inr.inr.inr.inl =>
    subst i3 i4 i6 i7 i8
    rw [show hasL 10 = [1, 2, 5] from rfl]
    simp only [List.map_cons, List.map_nil]
    rw [show bodyL _ 1 = uintsL [10] from rfl, rputs_some h1]
    rw [rputs_some (rput2 hh)]
    rw [rputs_some rput5]
    rfl
  case inr.inr.inr.inr.inr.inr.inr.inr.inr.inr.inl =>
    subst i3 i4 i5 i6 i7 i8
    rw [show hasL 11 = [1, 2] from rfl]
    simp only [List.map_cons, List.map_nil]
    rw [show bodyL _ 1 = uintsL [11] from rfl, rputs_some h1]
    rw [rputs_some (rput2 hh)]
    rfl

theorem rdecP_eq (b : List UInt8) : rdecP b = decP b := by
  refine Option.ext fun m => ?_
  constructor
  · intro h
    obtain ⟨l, hl, h⟩ := Option.bind_eq_some_iff.1 h
    split at h
    · rename_i hc
      cases h
      obtain ⟨f1, f2⟩ := rputs_fine l msgZ true ⟨rfl, fun d hd => by cases hd⟩
      exact decP_iff.2 ⟨hc.2, f1, f2⟩
    · cases h
  · intro h
    obtain ⟨h1, h2, h3⟩ := decP_iff.1 h
    have h1' := h1
    unfold encM at h1'
    split at h1'
    · rename_i hr
      unfold rdecP
      rw [decL_encL h1', Option.bind_some, rputs_items hr ⟨h2, h3⟩, if_pos ⟨rfl, h1⟩]
    · cases h1'

end Go.Proofs.YtnohglkilpnjhaaGreatDoor

/- The walk of the reference's numbers: the numbers that bytes are, so many at most. Condition: no more than 2^20 bytes, no more than 2^20 numbers asked. -/
namespace Go.Proofs.YtnohglkilpnjhaaGreatDoor
open Go.RowKit Go.Shelf
set_option linter.unusedVariables false
set_option linter.unusedSimpArgs false
set_option maxRecDepth 100000

def RNumsPost (w : World) (r : Option (List Int)) (e : Ending) (w' : World) : Prop :=
  ∃ v, e = .returned (.tuple #[v, .bool r.isSome]) ∧ OwnN w' w.heap.size v (r.getD []) ∧ Below w.heap.size w w'
theorem rnums_none {w w' : World} {r : Option (List Int)} (h : r = none) (hb : Below w.heap.size w w') : RNumsPost w r (.returned (.tuple #[.slice none 0 0, .bool false])) w' :=
  ⟨_, by rw [h]; rfl, by rw [h]; exact OwnN.nil _ _, hb⟩
/-- Ahead of each round. -/
def RNumI (w : World) (b : List UInt8) (most : Nat) (rv ov : Value) (W : World) : Prop :=
  ∃ (pre : List Int) (rest : List UInt8), Bytes w rv rest ∧ rest.length ≤ b.length ∧ numsL b = pre ++ numsL rest ∧ (∀ n ∈ pre, 0 ≤ n) ∧ pre.length ≤ most ∧ OwnN W w.heap.size ov pre ∧ Below w.heap.size w W
/-- .. of the loop within. -/
def RStepI (w1 : World) (rest : List UInt8) (nv mv kv : Value) (W : World) : Prop :=
  ∃ k : Nat, 1 ≤ k ∧ k ≤ 7 ∧ kv = .int .i64 (k : Int) ∧ Below w1.heap.size w1 W ∧
    ((mv = .int .i64 0 ∧ nv = .int .i64 0 ∧ ∀ j, 1 ≤ j → j < k → j ≤ rest.length → toU (rest.take j) = none) ∨
     ∃ n m : Nat, 1 ≤ m ∧ mv = .int .i64 (m : Int) ∧ nv = .int .i64 (n : Int) ∧ numStep rest = some (n, m))

set_option maxHeartbeats 6400000 in
theorem rnumbers_any (v : Value) (b : List UInt8) (most : Nat) (w : World) (hl : Bytes w v b) (hlen : b.length ≤ 1048576) (hmost : most ≤ 1048576) :
    Calls Tryz.prog 48 #[v, .int .i64 (most : Int)] w (RNumsPost w (rnumsL b most)) := by
  obtain ⟨i0, hi, hz0, hz1, hz2⟩ := info_parts infoU8
  obtain ⟨va, vc, hv⟩ := hl.len
  subst hv
  have HL := Lib.hid hl
  clear hl
  go_enter Tryz.func48, Tryz.ntmps48
  go_wp2
  go_loopw [0, 6, 7, 8, 9, 10, 11] (fun rv ov _ _ _ _ _ W' => RNumI w b most rv ov W') (fun rv _ _ _ _ _ _ _ => lenV rv)
  case atStart => exact ⟨[], b, HL.out, Nat.le_refl _, rfl, by simp, Nat.zero_le _, OwnN.nil _ _, Below.refl _ _⟩
  case round =>
    obtain ⟨pre, rest, hl, hle, hit, hpos, hpm, ho, hB⟩ := hrel
    obtain ⟨ra, rc, hv⟩ := hl.len
    subst hv
    obtain ⟨oa, oc, hv⟩ := ho.ints.len
    subst hv
    have HI := Lib.hid hit
    have HPOS := Lib.hid hpos
    have HO := Lib.hid ho
    clear hit hpos ho
    by_cases hlt : 0 < rest.length
    · have hlt2 : (0 : Int) < (rest.length : Int) := by omega
      have HL2 := Lib.hid hl
      have HB := Lib.hid hB
      rename World => wo
      clear hl hB
      go_wp2
      go_loopw [7, 8, 9, 10, 11] (fun nv mv kv _ _ W' => RStepI wo rest nv mv kv W') (fun _ _ kv _ _ _ => 8 - (intOf kv).toNat)
      case atStart => exact ⟨1, by omega, by omega, rfl, Below.refl _ _, .inl ⟨rfl, rfl, fun j h1 h2 => by omega⟩⟩
      case round =>
        obtain ⟨k, hk1, hk7, rfl, hbk, hcase⟩ := hrel
        have hsk := hbk.size
        rcases hcase with ⟨rfl, rfl, hno⟩ | ⟨x, m, hm1, rfl, rfl, hst⟩
        · by_cases hkq : k ≤ 6 ∧ k ≤ rest.length
          · obtain ⟨hk6, hkl⟩ := hkq
            obtain ⟨tv, hrt, ht, _⟩ := HL2.out.part (P := Tryz.prog) (t := 33) Tryz.underlying33 hi hz1 none (some (.int .i64 (k : Int))) 0 k (by omega) (by omega) (.inl ⟨rfl, rfl⟩) (.inr ⟨.i64, rfl⟩)
            rw [List.drop_zero, Nat.sub_zero] at ht
            have hTU := refToUint_any tv (rest.take k) wr (ht.of_new (below_next HB.out hbk))
            have hnf := fun x => numStep_found (b := rest) (n := x) (k := k) hk6 hkl
            rcases hu : toU (rest.take k) with _ | x
            · rw [hu, show errOf (none : Option Nat).isSome = 2 from rfl, show (none : Option Nat).getD 0 = 0 from rfl] at hTU
              have HTU := Lib.hid hTU
              have HNO := Lib.hid hno
              have HU := Lib.hid hu
              have HBK := Lib.hid hbk
              clear hTU ht hnf hno hu hbk
              go_wp2_with (go_at_call 91; refine HTU.out.mono ?_; rintro e w3 ⟨rfl, hb3⟩; have HB3 := Lib.hid hb3; clear hb3)
              go_roundw
              case rel =>
                refine ⟨k + 1, by omega, by omega, by go_num, below_next HBK.out HB3.out, .inl ⟨rfl, rfl, fun j h1 h2 h3 => ?_⟩⟩
                rcases Nat.lt_or_ge j k with h | h
                · exact HNO.out j h1 h h3
                · rw [show j = k by omega]; exact HU.out
              case measure => simp only [intOf]; omega
            · have hst := hnf x hu
              have hxl := (numStep_some hst).2.2.2.2.1
              rw [hu, show errOf (some x).isSome = 0 from rfl, show (some x).getD 0 = x from rfl] at hTU
              have HTU := Lib.hid hTU
              have HST := Lib.hid hst
              have HBK := Lib.hid hbk
              clear hTU ht hnf hno hu hst hbk
              go_wp2_with (go_at_call 91; refine HTU.out.mono ?_; rintro e w3 ⟨rfl, hb3⟩; have HB3 := Lib.hid hb3; clear hb3)
              go_roundw
              case rel => exact ⟨k + 1, by omega, by omega, by go_num, below_next HBK.out HB3.out, .inr ⟨x, k, hk1, rfl, rfl, HST.out⟩⟩
              case measure => simp only [intOf]; omega
          · have hsn : numStep rest = none := numStep_none fun j h1 h2 h3 => hno j h1 (by omega) h3
            have hne : rest ≠ [] := fun e => by rw [e] at hlt; simp at hlt
            have HDN := Lib.hid (rnums_bad (most := most) HI.out hne hsn)
            have HBK := Lib.hid hbk
            clear hno hsn hne hbk
            by_cases c2 : (k : Int) ≤ 6
            · have c3 : ¬ ((k : Int) ≤ (rest.length : Int)) := by omega
              clear hkq
              go_wp2
              go_ret2
              exact rnums_none HDN.out (below_next HB.out HBK.out)
            · clear hkq
              go_wp2
              go_ret2
              exact rnums_none HDN.out (below_next HB.out HBK.out)
        · obtain ⟨hcu, -, hm6, hml, hxl, -⟩ := numStep_some hst
          have hnl := numsL_step hst
          have hnb : numsL b = (pre ++ [(x : Int)]) ++ numsL (rest.drop m) := by rw [HI.out, hnl, List.append_assoc]; rfl
          have hmy := rnums_many (most := most) HI.out hst
          obtain ⟨tv, hrt, ht, _⟩ := HL2.out.part (P := Tryz.prog) (t := 33) Tryz.underlying33 hi hz1 (some (.int .i64 (m : Int))) none m rest.length (by omega) (Nat.le_refl _) (.inr ⟨.i64, rfl⟩) (.inl ⟨rfl, rfl⟩)
          rw [List.take_of_length_le (by simp)] at ht
          have hdl : (rest.drop m).length < rest.length := by simp; omega
          obtain ⟨R, hR0⟩ : ∃ R, rest.drop m = R := ⟨_, rfl⟩
          rw [hR0] at ht hnb hdl
          obtain ⟨ta, tc, hv⟩ := ht.len
          subst hv
          have HNB := Lib.hid hnb
          have HT := Lib.hid ht
          have HMY := Lib.hid hmy
          have HBK := Lib.hid hbk
          have tm0 : ((m : Int) == 0) = false := beq_eq_false_iff_ne.2 (by omega)
          clear hnl hnb hst hcu hR0 ht hmy hbk
          have hc4 : (k : Int) ≤ 6 ∧ (k : Int) ≤ (rest.length : Int) ∨ (k : Int) ≤ 6 ∧ ¬ (k : Int) ≤ (rest.length : Int) ∨ ¬ (k : Int) ≤ 6 := by omega
          by_cases hpm2 : pre.length < most
          · have hpmI : ¬ (most : Int) ≤ (pre.length : Int) := by omega
            have hpmN : ¬ most ≤ pre.length := by omega
            rcases hc4 with ⟨c1, c2⟩ | ⟨c1, c2⟩ | c1
            all_goals
              go_wp2_with (first
                | ((with_reducible refine wpList_plain (o := ⟨some 52, Op.call _, _, _, _, _⟩) rfl fun K hK => ?_); refine wp_appN (.tmp 49) (.tmp 51) rfl w.heap.size _ pre rfl (((HO.out.of_new HBK.out)).of_new ((Below.refl _ wr).alloc (Nat.le_refl _) _)) _ [(x : Int)] rfl (one_ints wr x _) (by simp; omega) (by have := HB.out.size; simp; omega) fun v4 w4 ho4 hg4 hu4 => hK _ _ ?_; obtain ⟨va4, vc4, hv4⟩ := ho4.ints.len; subst hv4; rw [List.length_append, List.length_singleton] at ho4 ⊢; have HO4 := Lib.hid ho4; have HG4 := Lib.hid hg4; clear ho4 hg4 hu4))
              go_roundw
              case rel =>
                refine ⟨pre ++ [(x : Int)], R, HT.out, by omega, HNB.out, fun n hn => ?_, by simp; omega, HO4.out, ((below_next HB.out HBK.out).alloc (by have := HB.out.size; omega) _).grown HG4.out (by have := HB.out.size; simp; omega) (fun q e => (HO.out.lt q e).1)⟩
                rcases List.mem_append.1 hn with hn | hn
                · exact HPOS.out n hn
                · simp at hn; omega
              case measure => simp only [lenV]; omega
          · have HDN := Lib.hid (HMY.out (by omega))
            have hpmI : (most : Int) ≤ (pre.length : Int) := by omega
            have hpmN : most ≤ pre.length := by omega
            rcases hc4 with ⟨c1, c2⟩ | ⟨c1, c2⟩ | c1
            all_goals
              go_wp2
              go_ret2
              exact rnums_none HDN.out (below_next HB.out HBK.out)
    · obtain rfl : rest = [] := List.length_eq_zero_iff.1 (by omega)
      have HDN := Lib.hid (rnums_all HI.out HPOS.out hpm)
      have HB := Lib.hid hB
      clear hB
      go_wp2
      go_ret2
      exact ⟨_, by rw [HDN.out]; rfl, by rw [HDN.out]; exact HO.out, HB.out⟩

end Go.Proofs.YtnohglkilpnjhaaGreatDoor

/- The walk of the reference's digest: 32 bytes as a hash. Condition: the bytes are 32. -/
namespace Go.Proofs.YtnohglkilpnjhaaGreatDoor
open Go.RowKit
set_option linter.unusedVariables false
set_option linter.unusedSimpArgs false
set_option maxRecDepth 100000

set_option maxHeartbeats 1600000 in
theorem rdigest_any (v : Value) (b : List UInt8) (w : World) (hl : Bytes w v b) (h32 : b.length = 32) :
    Calls Tryz.prog 49 #[v] w fun e w' => e = .returned (.agg (b.map B8).toArray) ∧ Below w.heap.size w w' := by
  obtain ⟨bb, off, c, hv, hbb, hc⟩ := hl.cell (by omega)
  subst hv
  rw [h32]
  have HC := Lib.hid hc
  have H32 := Lib.hid h32
  have hlc : 32 ≤ c := by
    obtain ⟨_, a', c', hv, hn, _⟩ := hl
    cases hv; omega
  clear hl hc h32
  go_enter Tryz.func49, Tryz.ntmps49
  go_wp2_with (first
    | ((with_reducible refine wpList_plain (o := ⟨some 2, Op.alloc _, _, _, _, _⟩) rfl fun K hK => ?_); (refine wp_alloc_dig rfl fun w1 h1 hb1 hs1 => hK _ _ ?_); have H1 := Lib.hid h1; have HB1 := Lib.hid hb1; have HS1 := Lib.hid hs1; clear h1 hb1 hs1)
    | ((with_reducible refine wpList_plain (o := ⟨some 3, Op.alloc _, _, _, _, _⟩) rfl fun K hK => ?_); (refine wp_alloc_dig rfl fun w2 h2 hb2 hs2 => hK _ _ ?_); rw [HS1.out] at h2 hs2 ⊢; have H2 := Lib.hid h2; have HB2 := Lib.hid hb2; have HS2 := Lib.hid hs2; have H12 := Lib.hid (H1.out.of_new hb2); clear h2 hb2 hs2))
  go_loopw [4] (fun iv W => ∃ k : Nat, k ≤ 32 ∧ iv = .int .i64 k ∧ DigO W w.heap.size dig0 ∧ DigO W (w.heap.size + 1) (filled b k) ∧ Below w.heap.size w W) (fun iv _ => 32 - (intOf iv).toNat)
  case atStart => exact ⟨0, Nat.zero_le _, rfl, H12.out, by rw [filled_zero]; exact H2.out, below_next HB1.out HB2.out⟩
  case round =>
    obtain ⟨k, hk, rfl, hd1, hd2, hb⟩ := hrel
    by_cases hlt : k < 32
    · have hci := (hb.cell (p := ⟨bb, off + k, none⟩) hbb).trans (HC.out k (by rw [H32.out]; exact hlt))
      have hst := filled_step H32.out hlt
      have hc2 := hd2.cell hlt
      have hf2 := hd2.free k
      obtain ⟨x, hx⟩ : ∃ x, b.getD k 0 = x := ⟨_, rfl⟩
      rw [hx] at hci hst
      unfold B8 at hci hc2
      have HST := Lib.hid hst
      have HD1 := Lib.hid hd1
      have HD2 := Lib.hid hd2
      have HB := Lib.hid hb
      have hki : (k : Int) < 32 := by omega
      clear hst hd1 hd2 hb hx
      go_wp2
      go_roundw
      case rel =>
        refine ⟨k + 1, by omega, by go_num, HD1.out.of_block (Below.heap_setCell _ _ _ _ (by show w.heap.size ≠ w.heap.size + 1; omega)), ?_, HB.out.setCell (p := ⟨w.heap.size + 1, k, none⟩) (by show w.heap.size ≤ w.heap.size + 1; omega) _⟩
        rw [← HST.out]
        exact HD2.out.set k x
      case measure => simp [intOf]; omega
    · obtain rfl : k = 32 := by omega
      rw [filled_all H32.out] at hd2
      have HD1 := Lib.hid hd1
      have HD2 := Lib.hid hd2
      have HB := Lib.hid hb
      clear hd1 hd2 hb
      go_wp2_with (first
        | ((with_reducible refine wpList_plain (o := ⟨some 15, Op.load _ _, _, _, _, _⟩) rfl fun K hK => ?_); (refine wp_load_at (ty := 31) (x := .tmp 3) rfl rfl HD2.out.at_ (hK _ _ ?_)))
        | ((with_reducible refine wpList_plain (o := ⟨none, Op.store _ (.tmp 2) (.tmp 15), _, _, _, _⟩) rfl fun K hK => ?_); (refine wp_store_digO (.tmp 2) (.tmp 15) w.heap.size b dig0 rfl rfl rfl H32.out HD1.out fun w3 h3 hg3 hs3 => hK _ _ ?_); have H3 := Lib.hid h3; have HG3 := Lib.hid hg3; clear h3 hg3 hs3))
      refine bodyPost_ret (results_dig rfl _ rfl H3.out) rfl ?_
      exact ⟨rfl, HB.out.grown HG3.out (by have := HB.out.size; omega) (fun k e => by cases e; omega)⟩

end Go.Proofs.YtnohglkilpnjhaaGreatDoor

/- The walk of wire.put at the proof's item. Condition: no more than 2^20 bytes; the message's proof is empty. -/
namespace Go.Proofs.YtnohglkilpnjhaaGreatDoor
open Go.RowKit Go.Shelf
attribute [local go_sem] Oper.semAt_some
set_option linter.unusedVariables false
set_option linter.unusedSimpArgs false
set_option maxRecDepth 100000

/-- A proof that grew, laid into the message. -/
theorem MsgF.appProof {w w' : World} {g : Nat} {m : MsgL} {s : MsgS} {row : Option Nat} (h : MsgF w g m s) (hg : w.grownBy w' row) (hr : some g ≠ row) (hI : ∀ k, s.vi.ownBlock = some k → some k ≠ row) (hB : ∀ k, s.vb.ownBlock = some k → some k ≠ row) (hM : ∀ k, s.vm.ownBlock = some k → some k ≠ row)
    (v : Value) (l : List (List UInt8)) (hl : Digs w' v l) (hv : Off w' g v) : MsgF (w'.setCell ⟨g, 36, none⟩ v) g { m with proof := l } { s with vp := v } := by
  have hG := grown_set w' g 36 v
  have hs := hg.size
  have ho : MsgO w' g m s := h.o.of_block (hg.block g h.o.lt hr)
  exact ⟨msgO_set ho 36 _ (msgCells_put m s h.r.hash 3 _) h.r.hash,
    ⟨h.r.hash, Row.of_kept (Row.of_kept h.r.ids hg hI) hG (fun k hk e => (h.vi k hk).1 (by cases e; rfl)), Row.of_kept (Row.of_kept h.r.bytes hg hB) hG (fun k hk e => (h.vb k hk).1 (by cases e; rfl)),
      ⟨hl.1, Row.of_kept hl.2 hG (fun k hk e => (hv k hk).1 (by cases e; rfl))⟩, Row.of_kept (Row.of_kept h.r.members hg hM) hG (fun k hk e => (h.vm k hk).1 (by cases e; rfl))⟩,
    h.vi.mono (by simpa [World.setCell] using hs), h.vb.mono (by simpa [World.setCell] using hs), hv.mono (by simp [World.setCell]), h.vm.mono (by simpa [World.setCell] using hs)⟩
/-- The first hash of bytes, in its place. -/
theorem Bytes.dig {w : World} {v : Value} {l : List UInt8} (h : Bytes w v l) (h32 : l.length = 32) : ∃ g off c, v = .slice (some ⟨g, off, none⟩) 32 c ∧ DigAt w g off l := by
  obtain ⟨g, off, c, hv, _, hc⟩ := h.cell (by omega)
  exact ⟨g, off, c, by rw [hv, h32], h32, fun j hj => by rw [hc j (by omega)]; simp [List.getElem?_eq_getElem (show j < l.length by omega), List.getD]⟩

end Go.Proofs.YtnohglkilpnjhaaGreatDoor

/- Members in a slice of the call's own. No condition. -/
namespace Go.Proofs.YtnohglkilpnjhaaGreatDoor
open Go.RowKit Go.Shelf
set_option linter.unusedVariables false
set_option linter.unusedSimpArgs false
set_option maxRecDepth 100000

theorem infoMem : (Tryz.prog.info? 113).map (fun i => (i.zero, i.size, i.bytes)) = some (some (.agg #[.int .i64 0, .int .i64 0, .int .i64 0, .int .i64 0]), 4, 32) := by kernel_rfl

/-- The slice v of members is the call's own (its block lies at 'base' or later) and holds l. -/
def OwnM (w : World) (base : Nat) (v : Value) (l : List MemL) : Prop := w.ownsRow base 113 4 v l.length (flatM l)
theorem OwnM.nil (w : World) (base : Nat) : OwnM w base (.slice none 0 0) [] := World.ownsRow_nil _ _ _ _
theorem OwnM.mems {w : World} {base : Nat} {v : Value} {l : List MemL} (h : OwnM w base v l) : Mems w v l := Row.of_owns h
theorem OwnM.lt {w : World} {base : Nat} {v : Value} {l : List MemL} (h : OwnM w base v l) : ∀ k, v.ownBlock = some k → base ≤ k ∧ k < w.heap.size := World.ownsRow.lt h
theorem OwnM.mono {w : World} {base base' : Nat} {v : Value} {l : List MemL} (h : OwnM w base v l) (hb : base' ≤ base) : OwnM w base' v l :=
  ⟨h.1, h.2.imp id (fun ⟨g, cap, cur, a, b, c⟩ => ⟨g, cap, cur, a, Nat.le_trans hb b, c⟩)⟩
theorem OwnM.kept {w w' : World} {base : Nat} {v : Value} {l : List MemL} (h : OwnM w base v l) (hk : ∀ k, v.ownBlock = some k → w'.heap[k]? = w.heap[k]?) : OwnM w' base v l := by
  refine ⟨h.1, ?_⟩
  rcases h.2 with h | ⟨g, cap, cur, hv, hb, hh, hr⟩
  · exact .inl h
  · exact .inr ⟨g, cap, cur, hv, hb, (hk g (by rw [hv]; rfl)).trans hh, hr⟩
theorem OwnM.of_new {w w' : World} {base : Nat} {v : Value} {l : List MemL} (h : OwnM w base v l) (hb : Below w.heap.size w w') : OwnM w' base v l :=
  h.kept fun k hk => hb.block _ (h.lt k hk).2

/-- 'append(s, x...)' of members, s the call's own: the run. -/
theorem run_appM {w : World} (base ty : Nat) (v : Value) (l : List MemL) (hown : OwnM w base v l) (u : Value) (m : List MemL) (hm : Mems w u m) (hlen : l.length + m.length ≤ 1099511627776) (hbase : base ≤ w.heap.size) :
    ∃ v' w', (Builtin.append_ #[35, 35] ty #[v, u]).run Tryz.prog w = .ok v' w' ∧ OwnM w' base v' (l ++ m) ∧ w.grownBy w' v.ownBlock ∧ (∀ k, v'.ownBlock = some k → v.ownBlock = some k ∨ w.heap.size ≤ k) := by
  obtain ⟨i, hi, hz, hsize, hby⟩ := info_parts infoMem
  obtain ⟨hl, ad, c, rfl, hc1, hc2, hc3, hc4⟩ := hm
  cases ad with
  | none =>
    have hc0 := hc3 rfl
    have hm0 : m = [] := List.eq_nil_of_length_eq_zero (by omega)
    subst hm0
    subst hc0
    refine ⟨v, w, run_append_owned_none (P := Tryz.prog) (w := w) base 35 ty 113 i 4 Tryz.underlying35 hi v l.length (flatM l) hown, by simpa using hown, World.grownBy.refl _ _, fun k hk => .inl hk⟩
  | some ad =>
    obtain ⟨v', w', h1, h2, h3, _, h5⟩ := run_append_own_at (P := Tryz.prog) w base 35 ty 113 i _ 4 32 Tryz.underlying35 hi hz hsize hby rfl (by decide) v l.length (flatM l) hown ad m.length c (flatM m) (flatM_len m)
      (fun j u hj => by
        have hjl : j < m.length * 4 := by
          rcases Nat.lt_or_ge j (m.length * 4) with h | h
          · exact h
          · rw [List.getElem?_eq_none (by rw [flatM_len]; exact h)] at hj; cases hj
        obtain ⟨b, off, hab, _, hcell⟩ := hc4 (by omega)
        cases hab
        have hplain : (⟨b, off, none⟩ : Addr).add j = ⟨b, off + j, none⟩ := by unfold Addr.add; split <;> simp_all
        rw [hplain, hcell j (by omega), hj])
      (fun u hu => by
        obtain ⟨b, _, hb⟩ := List.mem_flatMap.1 hu
        simp only [MemL.cells, List.mem_cons, List.not_mem_nil, or_false] at hb
        rcases hb with rfl | rfl | rfl | rfl <;> rfl) (by unfold maxLen; omega) (by omega) hbase
    refine ⟨v', w', h1, ?_, h3, ?_⟩
    · unfold OwnM
      rw [show flatM (l ++ m) = flatM l ++ flatM m by simp [flatM], List.length_append]
      exact h2
    · intro k hk
      rcases h5 with h5 | h5
      · exact .inl (by rw [← h5]; exact hk)
      · rw [h5] at hk; cases hk; exact .inr (Nat.le_refl _)
theorem wp_appM {w : World} {o : Oper} {a : Act} {K : Act → World → Prop} {Q : Exit → Act → World → Prop} (s x : Operand)
    (ho : o.op = .call { callee := .builtin .append, args := #[s, x], argTypes := #[35, 35] }) (base : Nat)
    (v : Value) (l : List MemL) (hs : a.eval s = v) (hown : OwnM w base v l) (u : Value) (m : List MemL) (hx : a.eval x = u) (hm : Mems w u m)
    (hlen : l.length + m.length ≤ 1099511627776) (hbase : base ≤ w.heap.size)
    (h : ∀ v' w', OwnM w' base v' (l ++ m) → w.grownBy w' v.ownBlock → (∀ k, v'.ownBlock = some k → v.ownBlock = some k ∨ w.heap.size ≤ k) → K (a.put o.dst v') w') : o.wp Tryz.prog a w K Q := by
  obtain ⟨v', w', hr, h2, h3, h4⟩ := run_appM base o.type v l hown u m hm hlen hbase
  unfold Oper.wp execOp
  simp only [ho, resolve, invoke, builtin, Sem.run_bind, Sem.run_pure, Result.andThen_ok, List.map_toArray, List.map_cons, List.map_nil, hs, hx, hr]
  exact h v' w' h2 h3 h4

/-- One member in a block just made. -/
theorem one_mems (w : World) (x : MemL) (t : TypeId) : Mems (w.alloc (.cells #[.int .i64 x.id, .int .i64 x.inc, .int .i64 x.state, .int .i64 x.since] t)) (.slice (some ⟨w.heap.size, 0, none⟩) 1 1) [x] := by
  refine ⟨rfl, some ⟨w.heap.size, 0, none⟩, 1, rfl, Nat.le_refl _, by unfold maxLen; omega, fun h => (nomatch h), fun _ => ⟨_, 0, rfl, by simp, fun j hj => ?_⟩⟩
  simp only [World.cell?, heap_alloc_new, Nat.zero_add]
  simp [flatM, MemL.cells]

end Go.Proofs.YtnohglkilpnjhaaGreatDoor

/- The walk of wire.put at the members' item. Condition: no more than 2^20 bytes; the message's members are none. -/
namespace Go.Proofs.YtnohglkilpnjhaaGreatDoor
open Go.RowKit Go.Shelf
attribute [local go_sem] Oper.semAt_some
set_option linter.unusedVariables false
set_option linter.unusedSimpArgs false
set_option maxRecDepth 100000

theorem Ints.part {w : World} {v : Value} {l : List Int} (h : Ints w v l) (low high : Option Value) (lo hi : Nat) (h1 : lo ≤ hi) (h2 : hi ≤ l.length) (hlow : (low = Option.none ∧ lo = 0) ∨ ∃ k, low = some (.int k (lo : Int))) (hhigh : (high = Option.none ∧ hi = l.length) ∨ ∃ k, high = some (.int k (hi : Int))) :
    ∃ v', (∀ W : World, (Instr.slice 32 v low high Option.none).run Tryz.prog W = .ok v' W) ∧ Ints w v' ((l.drop lo).take (hi - lo)) ∧ v'.ownBlock = v.ownBlock := by
  obtain ⟨i, hi0, hz, hsize, hby⟩ := info_parts infoInt
  obtain ⟨v', hr, hrow, hob⟩ := Row.run_part h Tryz.underlying32 hi0 hsize low high lo hi h1 h2 hlow hhigh
  refine ⟨v', hr, ?_, hob⟩
  have e : ((l.drop lo).take (hi - lo)).length = hi - lo := by simp; omega
  unfold Ints
  rw [e]
  simpa [List.map_take, List.map_drop] using hrow

/-- Members that grew, laid into the message. -/
theorem MsgF.appMems {w w' : World} {g : Nat} {m : MsgL} {s : MsgS} {row : Option Nat} (h : MsgF w g m s) (hg : w.grownBy w' row) (hr : some g ≠ row) (hI : ∀ k, s.vi.ownBlock = some k → some k ≠ row) (hB : ∀ k, s.vb.ownBlock = some k → some k ≠ row) (hP : ∀ k, s.vp.ownBlock = some k → some k ≠ row)
    (v : Value) (l : List MemL) (hl : Mems w' v l) (hv : Off w' g v) : MsgF (w'.setCell ⟨g, 37, none⟩ v) g { m with members := l } { s with vm := v } := by
  have hG := grown_set w' g 37 v
  have hs := hg.size
  have ho : MsgO w' g m s := h.o.of_block (hg.block g h.o.lt hr)
  exact ⟨msgO_set ho 37 _ (msgCells_put m s h.r.hash 4 _) h.r.hash,
    ⟨h.r.hash, Row.of_kept (Row.of_kept h.r.ids hg hI) hG (fun k hk e => (h.vi k hk).1 (by cases e; rfl)), Row.of_kept (Row.of_kept h.r.bytes hg hB) hG (fun k hk e => (h.vb k hk).1 (by cases e; rfl)),
      ⟨h.r.proof.1, Row.of_kept (Row.of_kept h.r.proof.2 hg hP) hG (fun k hk e => (h.vp k hk).1 (by cases e; rfl))⟩, Row.of_kept hl hG (fun k hk e => (hv k hk).1 (by cases e; rfl))⟩,
    h.vi.mono (by simpa [World.setCell] using hs), h.vb.mono (by simpa [World.setCell] using hs), h.vp.mono (by simpa [World.setCell] using hs), hv.mono (by simp [World.setCell])⟩

theorem wp_buildMem {w : World} {op : Oper} {a : Act} {K : Act → World → Prop} {Q : Exit → Act → World → Prop} (x : Operand) (m : MemL) (ho : op.op = .buildSlice 35 1 #[(0, x)])
    (hx : a.eval x = .agg #[.int .i64 m.id, .int .i64 m.inc, .int .i64 m.state, .int .i64 m.since])
    (h : ∀ w', Mems w' (.slice (some ⟨w.heap.size, 0, none⟩) 1 1) [m] → Below w.heap.size w w' → w'.heap.size = w.heap.size + 1 → K (a.put op.dst (.slice (some ⟨w.heap.size, 0, none⟩) 1 1)) w') : op.wp Tryz.prog a w K Q := by
  obtain ⟨i, hi, hz, hsize, hby⟩ := info_parts infoMem
  refine wp_buildSlice 35 113 1 #[(0, x)] ho #[.int .i64 m.id, .int .i64 m.inc, .int .i64 m.state, .int .i64 m.since] i _ Tryz.underlying35 hi hz (by rw [hsize]; omega) (by rw [hsize]; omega) ?_ (h _ (one_mems w m _) ((Below.refl _ w).alloc (Nat.le_refl _) _) (by simp))
  rw [hsize]
  simp only [List.map_toArray, List.map_cons, List.map_nil, hx]
  rw [show [((0 : Nat), Value.agg #[.int .i64 m.id, .int .i64 m.inc, .int .i64 m.state, .int .i64 m.since])] = ([Value.agg #[.int .i64 m.id, .int .i64 m.inc, .int .i64 m.state, .int .i64 m.since]].zipIdx 0).map (fun x => (x.2, x.1)) from rfl]
  rw [Great.fill_whole (by omega) _ _ (fun v hv => by
    simp only [List.mem_cons, List.not_mem_nil, or_false] at hv
    subst hv
    rfl) (by simp)]
  rfl

end Go.Proofs.YtnohglkilpnjhaaGreatDoor

/- The walk of wire.Decode: the message that bytes are. No condition. -/
namespace Go.Proofs.YtnohglkilpnjhaaGreatDoor
open Go.RowKit Go.Shelf
set_option linter.unusedVariables false
set_option linter.unusedSimpArgs false
set_option maxRecDepth 100000

/-- What Decode hands back. -/
def DecMPost (w : World) (r : Option MsgL) (e : Ending) (w' : World) : Prop :=
  ∃ m s, e = .returned (.tuple #[MsgV m s, .int .i64 (if r.isSome then 0 else 2)]) ∧ m = r.getD msgZ ∧ MsgR w' m s ∧ Below w.heap.size w w'

/-- The items of a row of the call's own, in their places. -/
theorem OwnI.at_ {w : World} {base : Nat} {v : Value} {l : List ItV} (h : OwnI w base v l) (h0 : 0 < l.length) : ∃ g c, v = .slice (some ⟨g, 0, none⟩) l.length c ∧ g < w.heap.size ∧
    ∀ i, i < l.length → w.cell? ⟨g, i * 2, none⟩ = some (.int .i64 ((l.map (·.1)).getD i (0, [])).1) ∧ ∃ u, w.cell? ⟨g, i * 2 + 1, none⟩ = some u ∧ Bytes w u ((l.map (·.1)).getD i (0, [])).2 ∧ ∀ k, u.ownBlock = some k → base ≤ k ∧ k < w.heap.size := by
  obtain ⟨h1, a, c, hv, h2, h3, h4, h5⟩ := Row.of_owns h.1
  obtain ⟨b, off, hab, hb, hc⟩ := h5 (by omega)
  have hoff : off = 0 := by
    rcases h.1.2 with ⟨hn, _⟩ | ⟨g, cap, cur, hv2, _⟩
    · rw [hn] at hv; simp only [Value.slice.injEq] at hv; omega
    · rw [hv2, hab] at hv; cases hv; rfl
  subst hoff
  refine ⟨b, c, by rw [hv, hab], hb, fun i hi => ?_⟩
  obtain ⟨f1, f2⟩ := flatI_at hi
  have e : (l.map (·.1)).getD i (0, []) = (l.getD i ((0, []), undef)).1 := by simp [List.getD, hi]
  have hm : l.getD i ((0, []), undef) ∈ l := by
    rw [List.getD_eq_getElem?_getD, List.getElem?_eq_getElem hi]; exact List.getElem_mem hi
  rw [e]
  have c1 := hc (i * 2) (by omega)
  have c2 := hc (i * 2 + 1) (by omega)
  rw [Nat.zero_add] at c1 c2
  exact ⟨c1.trans f1, _, c2.trans f2, (h.2 _ hm).bytes, fun k hk => (h.2 _ hm).lt k hk⟩

theorem Bytes.keptBut {w w' : World} {g : Nat} {v : Value} {l : List UInt8} (h : Bytes w v l) (hk : Kept (fun q => q ≠ g) w w') (hv : ∀ k, v.ownBlock = some k → k ≠ g) : Bytes w' v l :=
  Row.of_kept h (row := some g) ⟨hk.os, hk.tape, hk.output, hk.size, fun k hk2 hne => hk.block k hk2 (fun e => hne (by rw [e]))⟩ (fun k hk2 e => hv k hk2 (by cases e; rfl))
/-- What holds ahead of each round: j items are in. -/
def DecMI (w0 : World) (g L : Nat) (k : Int) (l : List It) (r : Option MsgL) (j : Nat) (W : World) : Prop :=
  ∃ m s, MsgF W g m s ∧ Hi L s ∧ (putsL ((hasL k).drop (max j 1)) (l.drop (max j 1)) m).bind rightO = r ∧
    Kept (fun q => q ≠ g) w0 W ∧ (6 ∈ (hasL k).drop j → m.proof = [] ∧ s.vp = .slice none 0 0) ∧ (7 ∈ (hasL k).drop j → m.members = [] ∧ s.vm = .slice none 0 0)
theorem hi_nil (L : Nat) : Hi L sN := ⟨(fun _ h => nomatch h), (fun _ h => nomatch h), (fun _ h => nomatch h), (fun _ h => nomatch h)⟩
theorem DecMI.start {w0 : World} {g L : Nat} {k : Int} {l : List It} {r : Option MsgL} (h : MsgF w0 g { msgZ with kind := k } sN) (hr : r = (putsL (hasL k).tail (l.drop 1) { msgZ with kind := k }).bind rightO) : DecMI w0 g L k l r 0 w0 :=
  ⟨_, _, h, hi_nil L, by rw [hr, ← List.drop_one]; rfl, Kept.refl _ _, fun _ => ⟨rfl, rfl⟩, fun _ => ⟨rfl, rfl⟩⟩
theorem DecMI.first {w0 W : World} {g L : Nat} {k : Int} {l : List It} {r : Option MsgL} (h : DecMI w0 g L k l r 0 W) : DecMI w0 g L k l r 1 W := by
  obtain ⟨m, s, h1, h2, h3, h4, h5, h6⟩ := h
  exact ⟨m, s, h1, h2, h3, h4, fun h => h5 (by rw [List.drop_zero]; exact List.mem_of_mem_drop h), fun h => h6 (by rw [List.drop_zero]; exact List.mem_of_mem_drop h)⟩

theorem fail_msg {w : World} {r : Option MsgL} {w' : World} (h : r = none) (hb : Below w.heap.size w w') : DecMPost w r (.returned (.tuple #[MsgV msgZ sN, .int .i64 2])) w' :=
  ⟨msgZ, sN, by rw [h]; rfl, by rw [h]; rfl, msgR_zero _, hb⟩

end Go.Proofs.YtnohglkilpnjhaaGreatDoor

/- The walk of the reference's Decode. No condition. -/
namespace Go.Proofs.YtnohglkilpnjhaaGreatDoor
open Go.RowKit
set_option linter.unusedVariables false
set_option linter.unusedSimpArgs false

/-- What holds ahead of each round of the reference's Decode. -/
def RDecI (w : World) (b : List UInt8) (ov lv rv : Value) (W : World) : Prop :=
  ∃ (pre : List ItV) (last : Int) (rest : List UInt8), OwnI W w.heap.size ov pre ∧ Bytes w rv rest ∧ lv = .int .i64 last ∧ 0 ≤ last ∧ last ≤ 63 ∧ pre.length + rest.length ≤ 65536 ∧
    checkF (itemsL b) 0 = (checkF (itemsL rest) last).map (pre.map (·.1) ++ ·) ∧ Below w.heap.size w W

theorem refcut_bad {v : Value} {l : List UInt8} {w : World} (hl : Bytes w v l) (h : cutL 0 0 l = none) :
    Calls Tryz.prog 90 #[v] w fun e w' => e = .returned (.tuple #[.int .u64 0, .int .i64 0]) ∧ w' = w :=
  (refcut_any v l w hl).mono fun e w' h2 => by unfold RefCutPost at h2; rw [h] at h2; exact h2
theorem refcut_good {v : Value} {l : List UInt8} {w : World} (hl : Bytes w v l) {n m : Nat} (h : cutL 0 0 l = some (n, m)) :
    Calls Tryz.prog 90 #[v] w fun e w' => e = .returned (.tuple #[.int .u64 n, .int .i64 m]) ∧ w' = w :=
  (refcut_any v l w hl).mono fun e w' h2 => by unfold RefCutPost at h2; rw [h] at h2; exact h2

set_option maxRecDepth 100000 in
set_option maxHeartbeats 3200000 in
theorem refDecode_own (v : Value) (b : List UInt8) (w : World) (hl : Bytes w v b) :
    Calls Tryz.prog 47 #[v] w (DecPostO w (decL b)) := by
  obtain ⟨i0, hi, hz0, hz1, hz2⟩ := info_parts infoU8
  have hle := hl.le
  obtain ⟨va, vc, hv⟩ := hl.len
  subst hv
  by_cases hbig : 65536 < b.length
  · have t0 : (65536 : Int) < (b.length : Int) := by omega
    have hd : decL b = none := by unfold decL; rw [if_pos hbig]
    have HD := Lib.hid hd
    clear hd hbig hl
    go_enter Tryz.func47, Tryz.ntmps47
    go_wp2
    go_ret2
    rw [HD.out]
    exact ⟨_, [], w.heap.size, rfl, OwnI.nil _ _, rfl, Below.refl _ _, Nat.le_refl _⟩
  have t0 : ¬ (65536 : Int) < (b.length : Int) := by omega
  have hd : decL b = checkF (itemsL b) 0 := by unfold decL; rw [if_neg hbig]
  have HD := Lib.hid hd
  clear hd
  have HL := Lib.hid hl
  clear hl
  go_enter Tryz.func47, Tryz.ntmps47
  go_wp2
  go_loopw [4, 5, 6] (RDecI w b) (fun _ _ rv _ => lenV rv)
  case atStart => exact ⟨[], 0, b, OwnI.nil _ _, HL.out, rfl, by omega, by omega, by simp; omega, by simp, Below.refl _ _⟩
  case round =>
    obtain ⟨pre, last, rest, hown, hl, rfl, hla, hlb, hlen, heq, hb⟩ := hrel
    obtain ⟨ra, rc, hv⟩ := hl.len
    subst hv
    obtain ⟨oa, oc, hv⟩ := hown.len
    subst hv
    have HEQ := Lib.hid heq
    clear heq
    by_cases hlt : 0 < rest.length
    · have hlt2 : (0 : Int) < (rest.length : Int) := by omega
      obtain ⟨rb, roff, rc', hv, hbl, hcell⟩ := hl.cell hlt
      obtain ⟨rfl, rfl⟩ : ra = some ⟨rb, roff, none⟩ ∧ rc = rc' := by cases hv; exact ⟨rfl, rfl⟩
      have hc0 := (hb.cell (p := ⟨rb, roff + 0, none⟩) hbl).trans (hcell 0 hlt)
      rw [Nat.add_zero] at hc0
      unfold B8 at hc0
      have hyl := (rest.getD 0 0).toNat_lt
      obtain ⟨tv, hrt, ht, hto⟩ := hl.part (P := Tryz.prog) (t := 33) Tryz.underlying33 hi hz1 (some (.int .i64 1)) none 1 rest.length (by omega) (Nat.le_refl _) (.inr ⟨.i64, rfl⟩) (.inl ⟨rfl, rfl⟩)
      rw [List.take_of_length_le (by simp)] at ht
      have hone := oneI_drop hlt
      have htl : (rest.drop 1).length = rest.length - 1 := by simp
      have hne : rest ≠ [] := by intro e; rw [e] at hlt; simp at hlt
      have hbad := itemsL_bad (b := rest) hne
      have hstep := fun x r => itemsL_step (b := rest) (r := r) (x := x)
      have hone' : ∀ n m, cutL 0 0 (rest.drop 1) = some (n, m) → m ≤ (rest.drop 1).length ∧ 0 < m ∧ n < 18446744073709551616 := fun n m h => by have := cutL_lt (by omega) (by omega) h; omega
      clear hcell hv
      have HTL := Lib.hid htl
      have HBAD := Lib.hid hbad
      have HST := Lib.hid hstep
      have HPART := Lib.hid hl
      clear htl hbad hstep hne
      have hrd : ∀ m, (rest.drop 1).drop m = rest.drop (1 + m) := fun m => by rw [List.drop_drop]
      have HRD := Lib.hid hrd
      clear hrd
      generalize hty : rest.drop 1 = t at *
      generalize rest.getD 0 0 = y at *
      obtain ⟨ta, tc, hv⟩ := ht.len
      subst hv
      have HONE := Lib.hid hone
      clear hone hto hl
      have HTY := Lib.hid hty
      clear hty
      have hyn : checkF [((0 : Int), ([] : List UInt8))] last = none := by simp [checkF]; omega
      have hord : ∀ (x : It) (r : List It), (x.1 ≤ last ∨ 63 < x.1) → checkF (x :: r) last = none := fun x r h => by simp only [checkF, if_pos h]
      have hnone : checkF (itemsL rest) last = none → decL b = none := fun h => by rw [HD.out, HEQ.out, h]; rfl
      have hbadk : (((y.toNat : Nat) : Int) ≤ last ∨ 63 < ((y.toNat : Nat) : Int)) → decL b = none := fun h => hnone (by
        cases ho : oneI rest with
        | none => rw [HBAD.out ho]; exact hyn
        | some p =>
          obtain ⟨x, r⟩ := p
          rw [HST.out _ _ ho]
          refine hord x _ ?_
          have h1 := HONE.out
          rw [ho] at h1
          split at h1
          · cases h1
          · split at h1
            · cases h1
            · cases h1; exact h)
      have HORD := Lib.hid hord
      have HNO := Lib.hid hnone
      have HYN := Lib.hid hyn
      clear hord hnone hyn
      rcases hcut : cutL 0 0 t with _ | ⟨n, m⟩
      · have hbd : oneI rest = none := by rw [HONE.out, hcut]
        have hdn : decL b = none := HNO.out (by rw [HBAD.out hbd]; exact HYN.out)
        have HDN := Lib.hid hdn
        have HCU := Lib.hid hcut
        clear hcut hdn hbd hbadk
        have hl2 := ht.of_new hb
        by_cases h1 : ((y.toNat : Nat) : Int) ≤ last
        · go_wp2_with (refine (refcut_bad hl2 HCU.out).mono ?_; rintro e w2 ⟨rfl, rfl⟩)
          go_ret2
          rw [HDN.out]
          exact ⟨_, [], w.heap.size, rfl, OwnI.nil _ _, rfl, hb, Nat.le_refl _⟩
        · by_cases h2 : 63 < ((y.toNat : Nat) : Int)
          · go_wp2_with (refine (refcut_bad hl2 HCU.out).mono ?_; rintro e w2 ⟨rfl, rfl⟩)
            go_ret2
            rw [HDN.out]
            exact ⟨_, [], w.heap.size, rfl, OwnI.nil _ _, rfl, hb, Nat.le_refl _⟩
          · go_wp2_with (refine (refcut_bad hl2 HCU.out).mono ?_; rintro e w2 ⟨rfl, rfl⟩)
            go_ret2
            rw [HDN.out]
            exact ⟨_, [], w.heap.size, rfl, OwnI.nil _ _, rfl, hb, Nat.le_refl _⟩
      · obtain ⟨q1', q2, q3⟩ := hone' n m hcut
        have q1 : (m : Int) ≤ (rest.length : Int) - 1 := by have := HTL.out; omega
        clear q1' hone'
        have HCU := Lib.hid hcut
        clear hcut
        have hm0 : ((m : Int) == 0) = false := beq_eq_false_iff_ne.2 (by omega)
        have hl2 := ht.of_new hb
        by_cases hk : ((y.toNat : Nat) : Int) ≤ last ∨ 63 < ((y.toNat : Nat) : Int)
        · have HDN := Lib.hid (hbadk hk)
          clear hbadk
          by_cases h1 : ((y.toNat : Nat) : Int) ≤ last
          · clear hk
            go_wp2_with (refine (refcut_good hl2 HCU.out).mono ?_; rintro e w2 ⟨rfl, rfl⟩)
            go_ret2
            rw [HDN.out]
            exact ⟨_, [], w.heap.size, rfl, OwnI.nil _ _, rfl, hb, Nat.le_refl _⟩
          · have h2 := hk.resolve_left h1
            clear hk
            go_wp2_with (refine (refcut_good hl2 HCU.out).mono ?_; rintro e w2 ⟨rfl, rfl⟩)
            go_ret2
            rw [HDN.out]
            exact ⟨_, [], w.heap.size, rfl, OwnI.nil _ _, rfl, hb, Nat.le_refl _⟩
        clear hbadk
        have h1 : ¬ ((y.toNat : Nat) : Int) ≤ last := fun h => hk (.inl h)
        have h2 : ¬ 63 < ((y.toNat : Nat) : Int) := fun h => hk (.inr h)
        clear hk
        have hr60 : rest.length ≤ 65536 := by omega
        have s1 : IntKind.i64.wrap ((rest.length : Int) - 1) = (rest.length : Int) - 1 := IntWalk.i64_in _ (by omega)
        have s2 : IntKind.i64.wrap ((rest.length : Int) - 1 - (m : Int)) = (rest.length : Int) - 1 - (m : Int) := IntWalk.i64_in _ (by omega)
        have s3 : IntKind.u64.wrap ((rest.length : Int) - 1 - (m : Int)) = (rest.length : Int) - 1 - (m : Int) := IntWalk.u64_in _ (by omega)
        by_cases h3 : (rest.length : Int) - 1 - (m : Int) < (n : Int)
        · have hbd : oneI rest = none := by
            rw [HONE.out, HCU.out]
            simp only
            rw [if_pos (by simp only [List.length_drop]; have := HTL.out; omega)]
          have HDN := Lib.hid (HNO.out (by rw [HBAD.out hbd]; exact HYN.out))
          clear hbd
          go_wp2_with (refine (refcut_good hl2 HCU.out).mono ?_; rintro e w2 ⟨rfl, rfl⟩)
          go_ret2
          rw [HDN.out]
          exact ⟨_, [], w.heap.size, rfl, OwnI.nil _ _, rfl, hb, Nat.le_refl _⟩
        · have hone2 : oneI rest = some ((((y.toNat : Nat) : Int), (t.drop m).take n), (t.drop m).drop n) := by
            rw [HONE.out, HCU.out]
            simp only
            rw [if_neg (by simp only [List.length_drop]; have := HTL.out; omega)]
          obtain ⟨b1, hr1, hb1, _⟩ := HPART.out.part (P := Tryz.prog) (t := 33) Tryz.underlying33 hi hz1 (some (.int .i64 (1 + (m : Int)))) (some (.int .i64 (1 + (m : Int) + (n : Int)))) (1 + m) (1 + m + n) (by omega) (by omega) (.inr ⟨.i64, by congr 1⟩) (.inr ⟨.i64, by congr 1⟩)
          obtain ⟨b2, hr2, hb2, _⟩ := HPART.out.part (P := Tryz.prog) (t := 33) Tryz.underlying33 hi hz1 (some (.int .i64 (1 + (m : Int) + (n : Int)))) none (1 + m + n) rest.length (by omega) (Nat.le_refl _) (.inr ⟨.i64, by congr 1⟩) (.inl ⟨rfl, rfl⟩)
          have e1 : (rest.drop (1 + m)).take (1 + m + n - (1 + m)) = (t.drop m).take n := by rw [HRD.out, show 1 + m + n - (1 + m) = n by omega]
          have e2 : (rest.drop (1 + m + n)).take (rest.length - (1 + m + n)) = (t.drop m).drop n := by rw [HRD.out, List.take_of_length_le (by simp), List.drop_drop]
          rw [e1] at hb1
          rw [e2] at hb2
          have hstep := HST.out _ _ hone2
          have hdl : ((t.drop m).take n).length = n := by simp only [List.length_take, List.length_drop]; have := HTL.out; omega
          have hdr : ((t.drop m).drop n).length = rest.length - 1 - m - n := by simp only [List.length_drop]; have := HTL.out; omega
          generalize (t.drop m).take n = d at *
          generalize (t.drop m).drop n = rr at *
          obtain ⟨da, dc, hv⟩ := hb1.len
          subst hv
          obtain ⟨rra, rrc, hv⟩ := hb2.len
          subst hv
          have hO0 : Own8 (wr.alloc (.cells #[] 5)) wr.heap.size 5 (.slice (some ⟨wr.heap.size, 0, none⟩) 0 0) [] := World.ownsRow_made wr #[] 0 (Nat.le_refl _) (by unfold maxLen; omega) rfl
          have HO := Lib.hid hO0
          have HB := Lib.hid ((hb1.of_new hb).of_alloc (.cells #[] 5))
          have HB2 := Lib.hid hb2
          have HOW := Lib.hid hown
          have HST2 := Lib.hid hstep
          have hnr : (n : Int) ≤ (rest.length : Int) - 1 - (m : Int) := by omega
          have hdl2 : d.length ≤ 65536 := by omega
          have hrl : rr.length < rest.length := by omega
          have hpl : pre.length + 1 + rr.length ≤ 65536 := by omega
          have hwb := hb.size
          have HBE := Lib.hid hb
          clear hb1 hb2 hown hO0 hstep hone2 e1 e2 hb hdl hdr
          go_wp2_with (first | (refine (refcut_good hl2 HCU.out).mono ?_; rintro e w2 ⟨rfl, hq⟩; subst w2) | (at_builtin; go_loud (refine wpList_app8 rfl (.tmp 61) (.tmp 62) 33 rfl wr.heap.size 5 i0 Tryz.underlying33 hi hz0 hz1 hz2 _ [] rfl HO.out _ d rfl HB.out ?c1 ?c2 ?_)))
          case c1 => simp; omega
          case c2 => simp
          intro v1 w1 hown1 hg1 _
          have hbn : Below wr.heap.size wr w1 := ((Below.refl _ wr).alloc (Nat.le_refl _) _).grown hg1 (by simp) (fun j hj => (HO.out.lt j hj).1)
          obtain ⟨v1a, v1c, hv⟩ := hown1.bytes.len
          subst hv
          have hown2 : OwnI w1 w.heap.size (.slice oa pre.length oc) pre := HOW.out.keep fun k _ hk2 => hbn.block k hk2
          obtain ⟨Y, hY⟩ : ∃ Y, w1.alloc (.cells #[.int .i64 (y.toNat : Int), .slice v1a d.length v1c] 110) = Y := ⟨_, rfl⟩
          have hYn : Y.heap[w1.heap.size]? = some (.cells #[.int .i64 (y.toNat : Int), .slice v1a d.length v1c] 110 (0, 0)) := by rw [← hY]; exact heap_alloc_new w1 _
          have hYb : Below w1.heap.size w1 Y := by rw [← hY]; exact (Below.refl _ w1).alloc (Nat.le_refl _) _
          have hYo : OwnI Y w.heap.size (.slice oa pre.length oc) pre := hown2.keep fun k _ hk2 => hYb.block k hk2
          have hY8 : Own8 Y w.heap.size 5 (.slice v1a d.length v1c) d := (hown1.new hYb).mono hwb
          have hYs : w.heap.size ≤ Y.heap.size := by have q1 := hbn.size; have q2 := hYb.size; omega
          have hYB : Below w.heap.size w Y := below_next' (below_next HBE.out (hbn.mono (Nat.le_refl _))) hYb (by have q1 := hbn.size; omega)
          have HY := Lib.hid hY
          have HYN := Lib.hid hYn
          have HYO := Lib.hid hYo
          have HY8 := Lib.hid hY8
          have HYB := Lib.hid hYB
          clear hY hYn hYo hY8 hYb hYB hown2 hown1 hg1 hbn HO HB
          go_wp2_with (at_builtin; rw [HY.out]; go_loud (refine wpList_plain rfl fun K hK => wp_appI (.tmp 59) (.tmp 65) rfl w.heap.size _ pre ((y.toNat, d), .slice v1a d.length v1c) w1.heap.size rfl HYO.out rfl HY8.out HYN.out (by omega) hYs fun v2 w3 ho2 hg2 hv2 => hK _ _ ?_))
          obtain ⟨v2a, v2c, hv⟩ := ho2.len
          rw [List.length_append] at hv
          subst hv
          have HO2 := Lib.hid ho2
          clear ho2
          go_wp2
          have hc2 : checkF (itemsL rest) last = (checkF (itemsL rr) (y.toNat : Int)).map ((((y.toNat : Nat) : Int), d) :: ·) := by
            rw [HST2.out]
            simp only [checkF]
            rw [if_neg (by omega)]
          refine ⟨⟨pre ++ [(((y.toNat : Int), d), .slice v1a d.length v1c)], _, rr, HO2.out, HB2.out, rfl, by omega, by omega, by simp; omega, ?_, ?_⟩, hrl⟩
          · rw [HEQ.out, hc2]
            cases checkF (itemsL rr) (y.toNat : Int) <;> simp
          · exact HYB.out.grown hg2 (by have := HYB.out.size; omega) (fun k e => (HYO.out.lt k e).1)
    · have hn : ¬ (0 : Int) < (rest.length : Int) := by omega
      have hr : rest = [] := List.eq_nil_of_length_eq_zero (by omega)
      have hd : decL b = some (pre.map (·.1)) := by rw [HD.out, HEQ.out, hr]; simp [itemsL_nil, checkF]
      have HDN := Lib.hid hd
      clear hd hr
      go_wp2
      go_ret2
      rw [HDN.out]
      exact ⟨_, pre, w.heap.size, rfl, hown, rfl, hb, Nat.le_refl _⟩

end Go.Proofs.YtnohglkilpnjhaaGreatDoor

/- Strings of bytes compared. No condition. -/
namespace Go.Proofs.YtnohglkilpnjhaaGreatDoor
open Go.RowKit
set_option linter.unusedVariables false

theorem str_eq (x y : List UInt8) : ((ByteArray.mk x.toArray) == (ByteArray.mk y.toArray)) = decide (x = y) := by
  have h : ((ByteArray.mk x.toArray) == (ByteArray.mk y.toArray)) = (x.toArray == y.toArray) := rfl
  rw [h, Bool.eq_iff_iff]
  simp
theorem str_same (x : List UInt8) : ((ByteArray.mk x.toArray) == (ByteArray.mk x.toArray)) = true := by rw [str_eq]; simp

end Go.Proofs.YtnohglkilpnjhaaGreatDoor

/- The walks of chapter 17's awake and few: one message is encoded as it should be; whether a message has no more than a test should have. No condition. -/
namespace Go.Proofs.YtnohglkilpnjhaaGreatDoor
open Go.RowKit
set_option linter.unusedVariables false
set_option linter.unusedSimpArgs false
set_option maxRecDepth 100000

/-- What Encode comes to, at once. -/
def errE (r : Option (List UInt8)) : Int := if r.isSome then 0 else 1
theorem EncPost.both {w w' : World} {r : Option (List UInt8)} {e : Ending} (h : EncPost w r e w') : ∃ v, e = .returned (.tuple #[v, .int .i64 (errE r)]) ∧ Bytes w' v (r.getD []) ∧ Below w.heap.size w w' := by
  cases r with
  | none =>
    obtain ⟨hb, v, rfl⟩ := h
    exact ⟨_, rfl, Bytes.of_nil, hb⟩
  | some c =>
    obtain ⟨hb, v, rfl, ho⟩ := h
    exact ⟨_, rfl, ho.bytes, hb⟩

end Go.Proofs.YtnohglkilpnjhaaGreatDoor

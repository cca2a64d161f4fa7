/- Settled texts of this seat, one behind the other: each begins with a comment that says what it proves and asks. -/
import Derived.Test.YtnohglkilpnjhaaGb
import Derived.Sort.Grow
import Derived.Shelf.SlSortCmp.WholeK
import Derived.Test.YtnohglkilpnjhaaGa
import Derived.Laws.Externs
import GoSem.Extern.BytealgCompare
import Derived.Shelf.SlSortCmp.NoneTotal
/- The walks of cmp.Compare, cmp.Or, and of what package tracker hands to slices to compare peers. No condition. -/
namespace Go.Proofs.Ytnohglkilpnjhaa
open Go.RowKit Go.Sort
set_option linter.unusedVariables false
set_option linter.unusedSimpArgs false
set_option maxRecDepth 100000

def cmpI (a b : Int) : Int := if a < b then -1 else if b < a then 1 else 0
def orL (l : List Int) : Int := (l.find? (fun x => !decide (x = 0))).getD 0
theorem orL_two (a b : Int) : orL [a, b] = if a = 0 then b else a := by
  unfold orL
  by_cases h : a = 0
  · by_cases h2 : b = 0 <;> simp [h, h2]
  · simp [h]

theorem isNaN_any (x : Int) (w : World) : Calls Try.prog 51 #[.int .i64 x] w fun e w' => e = .returned (.bool false) ∧ w' = w := by
  have h : ((x != x) = false) := by simp
  go_enter Try.func51, Try.ntmps51
  go_wp2
  go_ret
  exact ⟨by simp, rfl⟩

theorem CmpI_any (a b : Int) (w : World) : Calls Try.prog 29 #[.int .i64 a, .int .i64 b] w fun e w' => e = .returned (.int .i64 (cmpI a b)) ∧ w' = w := by
  have h3 : (a < b ∧ cmpI a b = -1) ∨ (¬ a < b ∧ b < a ∧ cmpI a b = 1) ∨ (¬ a < b ∧ ¬ b < a ∧ cmpI a b = 0) := by
    unfold cmpI
    by_cases h1 : a < b
    · simp [h1]
    · by_cases h2 : b < a <;> simp [h1, h2]
  generalize cmpI a b = r at *
  go_enter Try.func29, Try.ntmps29
  rcases h3 with ⟨h1, rfl⟩ | ⟨h1, h2, rfl⟩ | ⟨h1, h2, rfl⟩
  all_goals
    go_wp2_with (go_at_call 51; refine (isNaN_any _ _).mono ?_; rintro e w' ⟨rfl, rfl⟩)
    go_ret
    exact ⟨rfl, rfl⟩

set_option maxHeartbeats 800000 in
theorem Or_any (v : Value) (l : List Int) (w : World) (hl : Ints w v l) : Calls Try.prog 44 #[v] w fun e w' => e = .returned (.int .i64 (orL l)) ∧ w' = w := by
  obtain ⟨a, c, hv⟩ := hl.len
  subst hv
  have hle := hl.le
  have HL := Lib.hid hl
  clear hl
  go_enter Try.func44, Try.ntmps44
  go_wp2
  go_loopw [5, 8] (fun _ iv W => ∃ k : Nat, k ≤ l.length ∧ iv = .int .i64 (k : Int) ∧ orL l = orL (l.drop k) ∧ W = w) (fun _ iv _ => l.length - (intOf iv).toNat)
  case atStart => exact ⟨0, Nat.zero_le _, rfl, rfl, rfl⟩
  case round =>
    obtain ⟨k, hk, rfl, hm, rfl⟩ := hrel
    by_cases hlt : k < l.length
    · obtain ⟨b, off, c', hv, hb, hc⟩ := HL.out.cell (by omega)
      obtain ⟨rfl, rfl⟩ : a = some ⟨b, off, none⟩ ∧ c = c' := by cases hv; exact ⟨rfl, rfl⟩
      have hck := hc k hlt
      have hdr : l.drop k = l.getD k 0 :: l.drop (k + 1) := by rw [List.drop_eq_getElem_cons hlt]; simp [List.getD, hlt]
      rw [hdr] at hm
      obtain ⟨x, hx⟩ : ∃ x, l.getD k 0 = x := ⟨_, rfl⟩
      rw [hx] at hck hm
      have hki : (k : Int) < (l.length : Int) := by omega
      have hm2 : (x ≠ 0 → orL l = x) ∧ (x = 0 → orL l = orL (l.drop (k + 1))) := by
        rw [hm]
        refine ⟨fun h => by simp [orL, h], fun h => by simp [orL, h]⟩
      have HM := Lib.hid hm2
      clear hc hv hdr hx hm hm2
      by_cases h0 : x = 0
      · subst h0
        have t0 : ((0 : Int) != 0) = false := rfl
        go_wp2
        go_roundw
        case rel => exact ⟨k + 1, by omega, by go_num, HM.out.2 rfl, trivial⟩
        case measure => simp [intOf]; omega
      · have t0 : (x != 0) = true := by simp [h0]
        go_wp2
        go_ret
        exact ⟨ret_int (HM.out.1 h0).symm, rfl⟩
    · rw [List.drop_of_length_le (by omega)] at hm
      have HM := Lib.hid hm
      have hki : ¬ (k : Int) < (l.length : Int) := by omega
      clear hm
      go_wp2
      go_ret
      exact ⟨ret_int (HM.out.trans rfl).symm, rfl⟩

theorem below_eq {P : Program} {f : FuncId} {args : Array Value} {w : World} {v : Value} (h : Calls P f args w fun e w' => e = .returned v ∧ w' = w) : Calls P f args w fun e w' => e = .returned v ∧ Below w.heap.size w w' := h.mono fun e w' ⟨h1, h2⟩ => ⟨h1, by rw [h2]; exact Below.refl _ _⟩
/-- By their ids: what sorts peers. -/
theorem PeersCmp_any (p q : PeerL) (w : World) : Calls Try.prog 28 #[RPeer.V p, RPeer.V q] w fun e w' => e = .returned (.int .i64 (cmpI p.id q.id)) ∧ ∃ os, w' = grow w os := by
  have hC := fun w' => CmpI_any p.id q.id w'
  generalize cmpI p.id q.id = r at *
  have HC := Lib.hid hC
  clear hC
  rw [show RPeer.V p = .agg #[.int .i64 p.id, .int .i64 p.till, .bool p.seed] from rfl, show RPeer.V q = .agg #[.int .i64 q.id, .int .i64 q.till, .bool q.seed] from rfl]
  go_enter Try.func28, Try.ntmps28
  go_wp2_with (go_at_call 29; refine (HC.out _).mono ?_; rintro e w' ⟨rfl, rfl⟩)
  go_ret
  exact ⟨rfl, _, by rw [alloc_eq_grow, alloc_eq_grow, grow_grow]⟩

theorem two_ints (w : World) (x y : Int) (t : TypeId) : Ints (w.alloc (.cells #[.int .i64 x, .int .i64 y] t)) (.slice (some ⟨w.heap.size, 0, none⟩) 2 2) [x, y] := by
  refine ⟨rfl, some ⟨w.heap.size, 0, none⟩, 2, rfl, Nat.le_refl _, by unfold maxLen; omega, fun h => (nomatch h), fun _ => ⟨_, 0, rfl, by simp, fun j hj => ?_⟩⟩
  simp only [World.cell?, heap_alloc_new]
  simp only [List.length_cons, List.length_nil] at hj
  match j, hj with
  | 0, _ => rfl
  | 1, _ => rfl
def firstC (p q : PeerL) : Int := orL [cmpI p.till q.till, cmpI q.id p.id]
theorem firstC_goes (p q : PeerL) : decide (firstC p q < 0) = goesP p q := by
  unfold firstC goesP goesK
  rw [orL_two]
  unfold cmpI
  by_cases h1 : p.till < q.till
  · simp [h1]
  · by_cases h2 : q.till < p.till
    · have h3 : ¬ p.till = q.till := by omega
      simp [h1, h2, h3]
    · have h3 : p.till = q.till := by omega
      by_cases h4 : q.id < p.id
      · simp [h3, h4]
      · by_cases h5 : p.id < q.id <;> simp [h3, h4, h5]

set_option maxHeartbeats 1600000 in
/-- Which of two peers goes first. -/
theorem FirstCmp_any (p q : PeerL) (w : World) : Calls Try.prog 43 #[RPeer.V p, RPeer.V q] w fun e w' => e = .returned (.int .i64 (firstC p q)) ∧ Below w.heap.size w w' := by
  unfold firstC
  rw [show RPeer.V p = .agg (RPeer.cells p).toArray from rfl, show RPeer.V q = .agg (RPeer.cells q).toArray from rfl]
  go_enter Try.func43, Try.ntmps43
  go_upto_region 1 with (fail)
  generalize hW : (w.alloc _).alloc _ = W
  obtain ⟨h0, h1, hb, hs⟩ : RPeer.O W w.heap.size p ∧ RPeer.O W (w.heap.size + 1) q ∧ Below w.heap.size w W ∧ W.heap.size = w.heap.size + 2 := by
    subst hW
    refine ⟨(RPeer.o_new w (RPeer_ok p)).of_new ((Below.refl _ _).alloc (Nat.le_refl _) _), ?_, ((Below.refl _ w).alloc (Nat.le_refl _) _).alloc (by simp) _, by simp⟩
    have := RPeer.o_new (w.alloc (.cells (RPeer.cells p).toArray 35)) (RPeer_ok q)
    rwa [World.size_alloc] at this
  clear hW
  have p0 := RPeer_id h0
  have p1 := RPeer_till h0
  have q0 := RPeer_id h1
  have q1 := RPeer_till h1
  have HB := Lib.hid hb
  have HS := Lib.hid hs
  clear h0 h1 hb hs
  have p0' := fun w' (h : Grew W w') => Grew.cell h p0
  have p1' := fun w' (h : Grew W w') => Grew.cell h p1
  have q0' := fun w' (h : Grew W w') => Grew.cell h q0
  have q1' := fun w' (h : Grew W w') => Grew.cell h q1
  refine wp_region_grew_tail 10 (by kernel_rfl) (by kernel_rfl) ?_
  simp only [List.take_succ_cons, List.take_zero, List.drop_succ_cons, List.drop_zero]
  repeat (first
    | (go_big_quiet_want; (with_reducible apply quiet_load_at (ty := 30) (x := .tmp _)); rfl; rfl; assumption; go_simp; go_big_quiet_on)
    | (go_big_quiet_want; apply quiet_val; (intro w' hw'; go_simp; first | done | rfl); go_simp; go_big_quiet_on)
    | (go_big_quiet_want; apply quiet_call (f := 29); (intro w' hw'; go_simp; first | done | rfl); (intro w' hw'; exact Grew.call hw' (below_eq (CmpI_any _ _ w'))); go_simp; go_big_quiet_on)
    | (go_big_quiet_skip))
  refine wpQuiet_nil ?_
  intro w9 hw9
  have HB9 := Lib.hid (below_next HB.out hw9)
  clear p0 p1 q0 q1 p0' p1' q0' q1' hw9
  go_wp2_with (first | (go_at_call 44; refine (Or_any _ [cmpI p.till q.till, cmpI q.id p.id] _ (two_ints w9 _ _ _)).mono ?_; rintro e w' ⟨rfl, rfl⟩))
  go_ret
  exact ⟨rfl, HB9.out.alloc (by have := HB9.out.size; omega) _⟩

end Go.Proofs.Ytnohglkilpnjhaa

/- slices.SortFunc over a slice of the call's own, of records of any type: the kit's contract in terms of lists. Condition: the function that compares. -/
namespace Go.Proofs.Ytnohglkilpnjhaa
open Go.RowKit
set_option linter.unusedVariables false
set_option linter.unusedSimpArgs false
set_option linter.unusedSectionVars false
set_option maxRecDepth 100000

section
variable {e : TypeId} {α : Type} (R : RecT e α)
/-- Records that are right, as the kit's sort wants them. -/
abbrev RecT.Ok := { x : α // R.ok x }
instance RecT.okInh : Inhabited (RecT.Ok R) := ⟨⟨R.zero, R.zok⟩⟩
def RecT.encOk (x : RecT.Ok R) : List Value := R.cells x.1
def RecT.up (l : List α) (h : ∀ x ∈ l, R.ok x) : List (RecT.Ok R) := l.pmap (fun x hx => ⟨x, hx⟩) h
theorem RecT.up_val {l : List α} (h : ∀ x ∈ l, R.ok x) : (R.up l h).map Subtype.val = l := by
  unfold RecT.up
  rw [List.map_pmap]
  simp
theorem RecT.up_len {l : List α} (h : ∀ x ∈ l, R.ok x) : (R.up l h).length = l.length := by simp [RecT.up]
theorem RecT.enc_len (x : RecT.Ok R) : (R.encOk x).length = R.n := R.len x.2
theorem RecT.flat_vals (d : List (RecT.Ok R)) : R.flat (d.map Subtype.val) = d.flatMap R.encOk := by
  unfold RecT.flat RecT.encOk
  rw [List.flatMap_map]
theorem getBang {β : Type} [Inhabited β] (l : List β) (i : Nat) (hi : i < l.length) : l.toArray[i]! = l[i] := by
  rw [getElem!_pos l.toArray i (by simpa using hi)]
  simp
/-- The flat cells, one by one. -/
theorem RecT.flatK_at (d : List (RecT.Ok R)) (t : Nat) (ht : t < d.length * R.n) : (R.flat (d.map Subtype.val))[t]? = some ((Sort.flatK R.encOk R.n d.toArray)[t]!) := by
  have hp := R.pos
  have hi : t / R.n < d.length := (Nat.div_lt_iff_lt_mul hp).2 ht
  have hm : t % R.n < R.n := Nat.mod_lt _ hp
  rw [Sort.get_flatK _ _ _ _ (by simpa using ht), getBang _ _ hi]
  have h1 := R.flat_at (l := d.map Subtype.val) (fun x hx => by obtain ⟨y, _, rfl⟩ := List.mem_map.1 hx; exact y.2) (i := t / R.n) (j := t % R.n) (x := (d[t / R.n]).1) (by simp [hi]) hm
  have h2 : t / R.n * R.n + t % R.n = t := Nat.div_add_mod' t R.n
  rw [h2] at h1
  rw [h1]
  have h3 := R.enc_len d[t / R.n]
  show (R.encOk d[t / R.n])[t % R.n]? = _
  rw [List.getElem?_eq_getElem (by omega), getElem!_pos _ _ (by omega)]
variable {R} {w : World} {base g cap : Nat} {l : List α}
theorem RecT.Own.holds (h : R.Own w base (.slice (some ⟨g, 0, none⟩) l.length cap) l) (hok : ∀ x ∈ l, R.ok x) : Sort.HoldsK R.encOk R.n w g 0 (R.up l hok).toArray := by
  intro t ht
  rw [Sort.size_flatK] at ht
  simp only [List.size_toArray, RecT.up_len] at ht
  rcases h.2.2 with ⟨h1, h2⟩ | ⟨g', cap', cur, hv, hb, hh, hn, hc, hs, hx⟩
  · cases h1
  · obtain ⟨rfl, rfl⟩ : g = g' ∧ cap = cap' := by cases hv; exact ⟨rfl, rfl⟩
    have h3 := R.flatK_at (R.up l hok) t (by rw [RecT.up_len]; exact ht)
    rw [R.up_val hok, ← hx, List.getElem?_take, if_pos ht] at h3
    refine ⟨?_, by simp [World.frozen?, hh]⟩
    simp only [World.cell?, hh, Nat.zero_add, id_eq]
    simpa using h3
/-- Behind the sort. -/
theorem RecT.Own.sorted (h : R.Own w base (.slice (some ⟨g, 0, none⟩) l.length cap) l) (d : List (RecT.Ok R)) (hd : d.length = l.length) (n : Nat) (os : Array Obj) :
    R.Own (sortWorldK R.encOk R.n w g 0 n d.toArray os) base (.slice (some ⟨g, 0, none⟩) l.length cap) (d.map Subtype.val) ∧ w.grownBy (sortWorldK R.encOk R.n w g 0 n d.toArray os) (some g) := by
  rcases h.2.2 with ⟨h1, h2⟩ | ⟨g', cap', cur, hv, hb, hh, hn, hc, hs, hx⟩
  · cases h1
  · obtain ⟨rfl, rfl⟩ : g = g' ∧ cap = cap' := by cases hv; exact ⟨rfl, rfl⟩
    have hlt : g < w.heap.size := (Array.getElem?_eq_some_iff.1 hh).1
    have hnew : (sortWorldK R.encOk R.n w g 0 n d.toArray os).heap[g]? = some (.cells (Sort.putCells id 0 (Sort.flatK R.encOk R.n d.toArray) cur) e (0, 0)) := by
      show ((w.heap.modify g (Sort.onCells _)) ++ os)[g]? = _
      rw [Array.getElem?_append_left (by simpa using hlt), Array.getElem?_modify, if_pos rfl, hh]
      rfl
    have hdl : (d.map Subtype.val).length = l.length := by rw [List.length_map, hd]
    refine ⟨⟨fun x hx => by obtain ⟨y, _, rfl⟩ := List.mem_map.1 hx; exact y.2, ?_, .inr ⟨g, cap, _, by rw [hdl], hb, hnew, by rw [hdl]; exact hn, hc, by simp [Sort.putCells, hs], ?_⟩⟩, ⟨rfl, rfl, rfl, ?_, ?_⟩⟩
    · exact R.flat_len (fun x hx => by obtain ⟨y, _, rfl⟩ := List.mem_map.1 hx; exact y.2)
    · rw [hdl]
      have hcap : l.length * R.n ≤ cap * R.n := Nat.mul_le_mul_right _ hn
      refine List.ext_getElem? fun t => ?_
      by_cases ht : t < l.length * R.n
      · rw [List.getElem?_take, if_pos ht, R.flatK_at d t (by rw [hd]; exact ht)]
        have hts : t < cur.size := by omega
        simp only [Sort.putCells, Array.getElem?_toList, Array.getElem?_mapIdx]
        rw [Array.getElem?_eq_getElem hts]
        simp only [Option.map_some, Nat.zero_le, true_and, Nat.zero_add, Nat.sub_zero, id_eq]
        rw [if_pos (by rw [Sort.size_flatK]; simp only [List.size_toArray, hd]; exact ht)]
      · have hf := R.flat_len (l := d.map Subtype.val) (fun x hx => by obtain ⟨y, _, rfl⟩ := List.mem_map.1 hx; exact y.2)
        rw [List.getElem?_eq_none (by simp; omega), List.getElem?_eq_none (by rw [hf, hdl]; omega)]
    · show w.heap.size ≤ ((w.heap.modify g (Sort.onCells _)) ++ os).size
      simp
    · intro k hk hne
      show ((w.heap.modify g (Sort.onCells _)) ++ os)[k]? = _
      rw [Array.getElem?_append_left (by simpa using hk), Array.getElem?_modify, if_neg (fun e => hne (by rw [e]))]
theorem sortedIn_list {β : Type} [Inhabited β] {lt : β → β → Bool} {d : List β} (h : Sort.SortedIn lt 0 d.length d.toArray) : d.Pairwise (fun a b => lt b a = false) := by
  rw [List.pairwise_iff_getElem]
  intro i j hi hj hij
  have := h i j (Nat.zero_le _) hij hj
  rwa [getBang _ _ hi, getBang _ _ hj] at this
theorem permIn_list {β : Type} [Inhabited β] {d d' : Array β} (h : Sort.PermIn 0 d.size d d') : d'.toList.Perm d.toList := by
  obtain ⟨h1, _, h2⟩ := h
  have e1 : d'.extract 0 d.size = d' := by rw [← h1]; simp
  have e2 : d.extract 0 d.size = d := by simp
  rw [e1, e2] at h2
  exact h2
end

end Go.Proofs.Ytnohglkilpnjhaa

/- The walk of digest.Compare, through bytes.Compare; what it makes of memory, to the block. Condition: hashes of 32 bytes. -/
namespace Go.Proofs.Ytnohglkilpnjhaa
open Go.RowKit
set_option linter.unusedVariables false
set_option linter.unusedSimpArgs false
set_option maxRecDepth 100000

theorem run_loadBytes {P : Program} {w : World} (b : Nat) : ∀ (l : List UInt8) (off : Nat) (acc : List UInt8), (∀ j, j < l.length → w.cell? ⟨b, off + j, none⟩ = some (B8 (l.getD j 0))) →
    (Extern.Bytes.loadBytes ⟨b, off, none⟩ l.length ⟨acc.toArray⟩).run P w = .ok ⟨(acc ++ l).toArray⟩ w := by
  intro l
  induction l with
  | nil => intro off acc _; simp [Extern.Bytes.loadBytes, Sem.run_pure]
  | cons x l ih =>
    intro off acc h
    have h0 := h 0 (by simp)
    simp only [Nat.add_zero, List.getD_cons_zero, B8] at h0
    have hl : (load ⟨b, off, none⟩).run P w = .ok (.int .u8 (x.toNat : Int)) w := by simp [load, Sem.run, h0]
    simp only [List.length_cons, Extern.Bytes.loadBytes, Sem.run_bind, hl, Result.andThen_ok]
    have hp : (⟨acc.toArray⟩ : ByteArray).push ((x.toNat : Int).toNat.toUInt8) = ⟨(acc ++ [x]).toArray⟩ := by
      simp [ByteArray.push]
    have ha : (⟨b, off, none⟩ : Addr).add 1 = ⟨b, off + 1, none⟩ := rfl
    rw [hp, ha, ih (off + 1) (acc ++ [x]) (fun j hj => by
      have := h (j + 1) (by simp; omega)
      rw [List.getD_cons_succ] at this
      rw [← this, Nat.add_assoc, Nat.add_comm 1 j])]
    simp

theorem run_bytesOf {P : Program} {w : World} {v : Value} {l : List UInt8} (h : Bytes w v l) : (Extern.Bytes.bytesOf v).run P w = .ok ⟨l.toArray⟩ w := by
  by_cases h0 : 0 < l.length
  · obtain ⟨b, off, c, rfl, hb, hc⟩ := h.cell h0
    have := run_loadBytes (P := P) (w := w) b l off [] hc
    rw [List.nil_append] at this
    exact this
  · obtain rfl : l = [] := List.eq_nil_of_length_eq_zero (by omega)
    obtain ⟨a, c, rfl⟩ := h.len
    cases a <;> rfl

theorem run_bytealg (va vb : Value) (a b : List UInt8) (w : World) (ha : Bytes w va a) (hb : Bytes w vb b) (h : a.length = b.length) :
    (callFunc 72 #[va, vb]).run Try.prog w = .ok (.value (.int .i64 (cmpL a b))) w := by
  rw [run_callFunc_extern (e := Extern.BytealgCompare.compare) Try.func72 (by kernel_rfl) (by kernel_rfl) (by kernel_rfl) (by kernel_rfl)]
  change (Sem.run Try.prog (do pure (goInt (Extern.BytealgCompare.cmp (← Extern.Bytes.bytesOf va) (← Extern.Bytes.bytesOf vb)))) w).andThen _ = _
  simp only [Sem.run_bind, run_bytesOf ha, run_bytesOf hb, Result.andThen_ok, Sem.run_pure, cmp_cmpL a b h]
  rfl

/-- Two hashes in boxes of their own. -/
theorem octs_pair (w : World) (t : Nat) (xs ys : List UInt8) (A B : Array Value) (hA : A = (xs.map B8).toArray) (hB : B = (ys.map B8).toArray) :
    Octs ((w.alloc (.cells A t)).alloc (.cells B t)) w.heap.size t xs ∧ Octs ((w.alloc (.cells A t)).alloc (.cells B t)) (w.heap.size + 1) t ys ∧ Below w.heap.size w ((w.alloc (.cells A t)).alloc (.cells B t)) ∧
      w.heap.size + 2 = ((w.alloc (.cells A t)).alloc (.cells B t)).heap.size := by
  subst hA
  subst hB
  refine ⟨(Below.heap_alloc _ _ _ (by simp)).trans (heap_alloc_new w _), ?_, ((Below.refl _ w).alloc (Nat.le_refl _) _).alloc (by simp) _, by simp⟩
  have := heap_alloc_new (w.alloc (.cells (xs.map B8).toArray t)) (.cells (ys.map B8).toArray t)
  rw [World.size_alloc] at this
  exact this
theorem Octs.lt2 {w : World} {g t : Nat} {bs : List UInt8} (h : Octs w g t bs) : g < w.heap.size := (Array.getElem?_eq_some_iff.1 h).1
/-- A block of bytes as a slice. -/
theorem Octs.bytes {w : World} {g t : Nat} {bs : List UInt8} (h : Octs w g t bs) (hl : bs.length ≤ 1000) : Bytes w (.slice (some ⟨g, 0, none⟩) bs.length bs.length) bs := by
  refine ⟨by simp, _, _, rfl, Nat.le_refl _, by unfold maxLen; omega, (fun h => by cases h), fun _ => ⟨g, 0, rfl, h.lt2, fun j hj => ?_⟩⟩
  rw [Nat.zero_add, h.cell (by omega)]
  simp [List.getElem?_eq_getElem (show j < bs.length by omega), List.getD_eq_getElem?_getD]

theorem BCompare_any (va vb : Value) (a b : List UInt8) (w : World) (ha : Bytes w va a) (hb : Bytes w vb b) (h : a.length = b.length) :
    Calls Try.prog 64 #[va, vb] w fun e w' => e = .returned (.int .i64 (cmpL a b)) ∧ w = w' := by
  have hc := run_bytealg va vb a b w ha hb h
  have H := Lib.hid h
  clear h
  go_enter Try.func64, Try.ntmps64
  go_wp2
  go_ret
  exact ⟨rfl, rfl⟩

theorem same_quietC {P : Program} {f : FuncId} {args : Array Value} {w : World} {n : Nat} {v : Value} (h : Calls P f args (w.drewN n) fun e w' => e = .returned v ∧ w.drewN n = w') :
    Calls P f args (w.drewN n) fun e w'' => e = .returned v ∧ ∃ m, w'' = w.drewN m := h.mono fun _ _ ⟨he, hm⟩ => ⟨he, n, hm.symm⟩
set_option maxHeartbeats 800000 in
theorem CompareG_any (a b : List UInt8) (w : World) (ha : a.length = 32) (hb : b.length = 32) :
    Calls Try.prog 38 #[.agg (a.map B8).toArray, .agg (b.map B8).toArray] w fun e w' => e = .returned (.int .i64 (cmpL a b)) ∧ ∃ q os, w' = Sort.grow (w.drewN q) os := by
  have HA := Lib.hid ha
  have HB := Lib.hid hb
  clear ha hb
  go_enter Try.func38, Try.ntmps38
  go_wp2
  generalize hW1 : (w.alloc _).alloc _ = W1
  obtain ⟨hX, hY, hz1, os1, hg1⟩ : Octs W1 w.heap.size 30 a ∧ Octs W1 (w.heap.size + 1) 30 b ∧ w.heap.size + 2 = W1.heap.size ∧ ∃ os, W1 = Sort.grow w os := by
    obtain ⟨h1, h2, h3, h4⟩ := octs_pair w 30 a b _ _ rfl rfl
    subst hW1; exact ⟨h1, h2, h4, _, by rw [Sort.alloc_eq_grow, Sort.alloc_eq_grow, Sort.grow_grow]⟩
  clear hW1
  have hx := hX.bytes (by rw [HA.out]; decide)
  have hy := hY.bytes (by rw [HB.out]; decide)
  rw [HA.out] at hx
  rw [HB.out] at hy
  have HX := fun n => Lib.hid (hx.of_new (below_drewn n))
  have HY := fun n => Lib.hid (hy.of_new (below_drewn n))
  have HG1 := Lib.hid hg1
  clear hx hy hX hY hg1
  go_quiet ((go_at_call 64; exact same_quietC (BCompare_any _ _ a b _ (HX _).out (HY _).out (HA.out.trans HB.out.symm))))
  go_wp2
  go_ret
  exact ⟨rfl, _, os1, by rw [HG1.out]; rfl⟩
theorem grow_below (w : World) (q : Nat) (os : Array Obj) : Below w.heap.size w (Sort.grow (w.drewN q) os) := ⟨rfl, rfl, rfl, by simp, fun k hk => by
  show (w.heap ++ os)[k]? = _
  rw [Array.getElem?_append_left hk]⟩
theorem Compare_any (a b : List UInt8) (w : World) (ha : a.length = 32) (hb : b.length = 32) :
    Calls Try.prog 38 #[.agg (a.map B8).toArray, .agg (b.map B8).toArray] w fun e w' => e = .returned (.int .i64 (cmpL a b)) ∧ Below w.heap.size w w' :=
  (CompareG_any a b w ha hb).mono fun e w' ⟨h1, q, os, h2⟩ => ⟨h1, by rw [h2]; exact grow_below w q os⟩

end Go.Proofs.Ytnohglkilpnjhaa

/- The walks of maps.Values and maps.Keys: the makers, and what they make: all entries, each once, in whatever order. Condition: the map lies below what the call made. -/
namespace Go.Proofs.Ytnohglkilpnjhaa
open Go.RowKit Go.Shelf
attribute [local go_sem] Oper.semAt_some
set_option linter.unusedVariables false
set_option linter.unusedSimpArgs false
set_option maxRecDepth 100000

theorem Values_any (m : Value) (w : World) (hm : (∃ b, m = .map (some b)) ∨ m = .map none) :
    Calls Try.prog 27 #[m] w fun e w' => e = .returned (.func (.func 50) #[] #[.pointer (some ⟨w.heap.size, 0, none⟩)]) ∧ w' = w.alloc (.cells #[m] 68) := by
  rcases hm with ⟨b, rfl⟩ | rfl
  all_goals
    go_enter Try.func27, Try.ntmps27
    go_wp2
    go_ret
    exact ⟨rfl, rfl⟩

abbrev encVal (x : Int × Value) : Array Value := #[x.2]

/-- What holds ahead of each round. -/
def ValI (w0 W : World) (bb : Nat) (m : Value) (L : List (Int × Value)) (J : List (Int × Value) → World → Prop) (k : Nat) (wr : World) : Prop :=
  ∃ pre todo : List (Int × Value), IterV KInt wr m W.heap.size L todo ∧ (pre ++ todo).Perm L ∧ One wr bb m 68 ∧ Below w0.heap.size w0 wr ∧ W.heap.size + 1 ≤ wr.heap.size ∧ J pre wr ∧ todo.length ≤ k

set_option maxHeartbeats 3200000 in
theorem values_seq (n : Nat) (hn : 1 ≤ n) (bb n0 : Nat) (m : Value) (L : List (Int × Value)) (W w0 : World) (hw0 : w0.heap.size = n0) (hb0 : Below n0 w0 W) (hbb : n0 ≤ bb) (hc : One W bb m 68) (hm : MapV KInt w0 m L) (hL : ∀ x ∈ L, ∃ p, x = inE p) :
    SeqT Fence.wide n Try.prog 50 #[.pointer (some ⟨bb, 0, none⟩)] encVal (fun pre x W' => x ∈ L) (fun xs => xs.Perm L) (fun j => j = bb) n0 L.length W := fun l J hJ hY h0 => by
  subst hw0
  obtain ⟨G, hG⟩ : ∃ G : Nat → Prop, G = fun j => j = bb ∨ j = W.heap.size := ⟨_, rfl⟩
  have hGF : Fresh (fun j => j = bb) G W := fun j hj => by
    rw [hG] at hj
    rcases hj with h | h
    · exact .inr h
    · exact .inl (by omega)
  have hJG := hJ G hGF
  have hYG := fun pre x W1 => hY G pre x W1 hGF
  have h0G := fun W' => h0 G W' hGF
  have hG1 : G bb := by rw [hG]; exact .inl rfl
  have hG3 : G W.heap.size := by rw [hG]; exact .inr rfl
  have HG2 := Lib.hid (show ∀ j, G j → j = bb ∨ j = W.heap.size from fun j hj => by rw [hG] at hj; exact hj)
  clear hJ hY h0
  refine (CallsIn.mono (R := fun e W' => (∃ v, e = .returned v) ∧ ∃ xs, xs.Perm L ∧ J G xs W') ?_ (fun e W' h => ⟨h.1, G, by obtain ⟨_, xs, h1, h2⟩ := h; exact ⟨xs, hGF, h1, h2⟩⟩))
  clear hGF hG
  have hmb : ∀ b, m = .map (some b) → b < w0.heap.size := fun b e => by
    rcases hm with ⟨b', rfl, h⟩ | ⟨rfl, _⟩
    · cases e; exact h.lt
    · cases e
  have HMB := Lib.hid hmb
  have hcc := hc.cell
  have hcf := hc.free
  obtain ⟨w1, hr1, hit1, hb1, hs1⟩ := (hm.below (Nat.le_refl _) hb0).range (t := 68) Try.underlying68
  have hbbW := hc.lt
  have HIT := Lib.hid hit1
  have HB1 := Lib.hid hb1
  have HC1 := Lib.hid (hc.of_new hb1)
  have HB0 := Lib.hid (hb0.trans (hb1.mono (by have := hc.lt; have := hb0.size; omega)))
  have HJ0 := Lib.hid (h0G w1 hb1)
  have HS1 := Lib.hid hs1
  have HL := Lib.hid hL
  have hm2 : (∃ b, m = .map (some b)) ∨ m = .map none := hm.imp (fun ⟨b, e, _⟩ => ⟨b, e⟩) And.left
  have HM2 := Lib.hid hm2
  clear hmb hb0 hc hm h0G hit1 hb1 hL hm2
  refine callsIn_of_wp Try.func50 rfl trivial ?_ rfl
  simp only [Try.ntmps50, List.size_toArray, List.length_cons, List.length_nil, Nat.reduceAdd, Nat.reduceSub, Array.replicate_succ, Array.replicate_zero, List.push_toArray, List.append_toArray, List.nil_append, List.cons_append]
  gi_wp2
  gi_loopg [4, 7, 8, 9, 10, 11, 12, 13, 14] L.length (fun k _ _ _ _ _ _ _ _ _ wr => ValI w0 W bb m L (J G) k wr)
  case atStart => exact ⟨[], L, HIT.out, List.Perm.refl _, HC1.out, HB0.out, by rw [HS1.out]; exact Nat.le_refl _, HJ0.out, Nat.le_refl _⟩
  case round =>
    obtain ⟨pre, todo, hit, hp, ho, hb, hsz, hj, hlen⟩ := hrel
    have HO := Lib.hid ho
    have HB := Lib.hid hb
    have HP := Lib.hid hp
    rcases hit.next2 0 with ⟨rfl, hnx⟩ | ⟨p, w2, todo2, hpt, hpl, hnx, hit2, hg2, hs2, hen, htl, hst⟩
    · clear ho hb hp hit
      gi_wp2
      go_end0
      exact ⟨⟨_, rfl⟩, pre, by have := HP.out; rwa [List.append_nil] at this, hj⟩
    · obtain ⟨q, rfl⟩ := HL.out p hpl
      replace hnx : (Instr.next (.pointer (some ⟨W.heap.size, 0, none⟩)) false 0).run Try.prog wr = .ok (.tuple #[.bool true, .int .i64 q.id, RPeer.V q]) w2 := hnx
      replace hen : (Instr.entry (.pointer (some ⟨W.heap.size, 0, none⟩))).run Try.prog w2 = .ok (.tuple #[.int .i64 q.id, RPeer.V q]) w2 := hen
      have HIN := Lib.hid hpl
      have HPT := Lib.hid htl
      have HST := Lib.hid (hst pre hp)
      have HLEN := Lib.hid (show pre.length < L.length by have h1 := hp.length_eq; rw [List.length_append] at h1; have := List.length_pos_of_mem hpt; omega)
      have HIT2 := Lib.hid hit2
      have HG2' := Lib.hid hg2
      have HJ := Lib.hid hj
      have HLE := Lib.hid hlen
      have HS2 := Lib.hid hs2
      clear ho hb hp hit hpt hpl hit2 hg2 hj hlen HP hs2 htl hst
      gi_wp2_with (first
        | ((with_reducible refine wpListIn_one (o := ⟨some 4, Op.alloc _, _, _, _, _⟩) rfl (fun c hc => by cases hc) ?_); (refine RPeer.wp_alloc rfl fun w3 ho3 hb3 hs3 => ?_); have HO3 := Lib.hid ho3; have HB3 := Lib.hid hb3; clear ho3 hb3 hs3)
        | ((with_reducible refine wpListIn_one (o := ⟨none, Op.store _ (.tmp 4) (.tmp 10), _, _, _, _⟩) rfl (fun c hc => by cases hc) ?_); (refine HO3.out.store (.tmp 4) (.tmp 10) rfl rfl rfl (RPeer_ok q) fun w4 ho4 hg4 hs4 => ?_); have HB4 := Lib.hid (HB3.out.grown hg4 (by have := HB3.out.size; omega) (fun k e => by cases e; exact Nat.le_refl _)); have HO4 := Lib.hid ho4; clear ho4 hg4 hs4)
        | ((with_reducible refine wpListIn_one (o := ⟨some 12, Op.load _ _, _, _, _, _⟩) rfl (fun c hc => by cases hc) ?_); (refine HO4.out.at_.wp rfl rfl ?_); have hB24 := HB4.out; have hsz4 := hB24.size; have hS2 := HS2.out; have hk4 : Kept (fun k => ¬ G k) wr w4 := ((Kept.refl _ wr).grown HG2'.out (fun r e => by cases e; exact fun h => h hG3)).below hB24; have hit4 : IterV KInt w4 m W.heap.size L todo2 := HIT2.out.kept ((Kept.refl (fun _ => True) w2).below hB24) trivial (fun _ _ => trivial); have ho4 : One w4 bb m 68 := (HO.out.of_block (HG2'.out.block _ HO.out.lt (fun e => by cases e; omega))).of_new hB24; have hb4 : Below w0.heap.size w0 w4 := (HB.out.grown HG2'.out (by have := HB.out.size; omega) (fun k e => by cases e; have := HB0.out.size; have := HC1.out.lt; omega)).trans (hB24.mono (by have := HB.out.size; omega)); obtain ⟨fn, tmps, assign, body, hy, hR⟩ := hYG pre (inE q) w4 (fun j hj => by rcases HG2.out j hj with h | h <;> (subst h; first | exact ho4.lt | omega)) (hJG _ _ _ HJ.out hk4) HIN.out HLEN.out; have HIT4 := Lib.hid hit4; have HO4' := Lib.hid ho4; have HB4' := Lib.hid hb4; clear hk4 hit4 ho4 hb4 hB24; dsimp only [encVal, inE] at hy))
      refine hR.mono ?_
      rintro e W3 ⟨rfl, hJ3, hk3⟩
      have HJ3 := Lib.hid hJ3
      have hit3 := HIT4.out.kept hk3 (.inl hG3) (fun b e => .inr (HMB.out b e))
      have ho3 := HO4'.out.of_block (hk3.block _ HO4'.out.lt (.inl hG1))
      have hb3 : Below w0.heap.size w0 W3 := hk3.to_below HB4'.out (by have := HB4'.out.size; omega) (fun k hk => .inr hk)
      have hs3 := hk3.size
      gi_wp2
      gi_roundg todo2.length
      case measure => have := HPT.out; have := HLE.out; omega
      case rel =>
        have q1 := HS2.out
        have q2 := HB4.out.size
        exact ⟨pre ++ [inE q], _, hit3, HST.out, ho3, hb3, by omega, HJ3.out, Nat.le_refl _⟩

end Go.Proofs.Ytnohglkilpnjhaa

/- The walks of maps.Keys: the makers, and what they make: all entries, each once, in whatever order. Condition: the map lies below what the call made. -/
namespace Go.Proofs.Ytnohglkilpnjhaa
open Go.RowKit Go.Shelf
attribute [local go_sem] Oper.semAt_some
set_option linter.unusedVariables false
set_option linter.unusedSimpArgs false
set_option maxRecDepth 100000

theorem Keys_any (m : Value) (w : World) (hm : (∃ b, m = .map (some b)) ∨ m = .map none) :
    Calls Try.prog 37 #[m] w fun e w' => e = .returned (.func (.func 63) #[] #[.pointer (some ⟨w.heap.size, 0, none⟩)]) ∧ w' = w.alloc (.cells #[m] 64) := by
  rcases hm with ⟨b, rfl⟩ | rfl
  all_goals
    go_enter Try.func37, Try.ntmps37
    go_wp2
    go_ret
    exact ⟨rfl, rfl⟩

abbrev encKey (x : List UInt8 × Value) : Array Value := #[RDig.V x.1]

/-- What holds ahead of each round. -/
def KeyI (w0 W : World) (bb : Nat) (m : Value) (L : List (List UInt8 × Value)) (J : List (List UInt8 × Value) → World → Prop) (k : Nat) (wr : World) : Prop :=
  ∃ pre todo : List (List UInt8 × Value), IterV KDig wr m W.heap.size L todo ∧ (pre ++ todo).Perm L ∧ One wr bb m 64 ∧ Below w0.heap.size w0 wr ∧ W.heap.size + 1 ≤ wr.heap.size ∧ J pre wr ∧ todo.length ≤ k

set_option maxHeartbeats 3200000 in
theorem keys_seq (n : Nat) (hn : 1 ≤ n) (bb n0 : Nat) (m : Value) (L : List (List UInt8 × Value)) (W w0 : World) (hw0 : w0.heap.size = n0) (hb0 : Below n0 w0 W) (hbb : n0 ≤ bb) (hc : One W bb m 64) (hm : MapV KDig w0 m L) (hL : ∀ x ∈ L, x.1.length = 32) :
    SeqT Fence.wide n Try.prog 63 #[.pointer (some ⟨bb, 0, none⟩)] encKey (fun pre x W' => x ∈ L) (fun xs => xs.Perm L) (fun j => j = bb) n0 L.length W := fun l J hJ hY h0 => by
  subst hw0
  obtain ⟨G, hG⟩ : ∃ G : Nat → Prop, G = fun j => j = bb ∨ j = W.heap.size := ⟨_, rfl⟩
  have hGF : Fresh (fun j => j = bb) G W := fun j hj => by
    rw [hG] at hj
    rcases hj with h | h
    · exact .inr h
    · exact .inl (by omega)
  have hJG := hJ G hGF
  have hYG := fun pre x W1 => hY G pre x W1 hGF
  have h0G := fun W' => h0 G W' hGF
  have hG1 : G bb := by rw [hG]; exact .inl rfl
  have hG3 : G W.heap.size := by rw [hG]; exact .inr rfl
  have HG2 := Lib.hid (show ∀ j, G j → j = bb ∨ j = W.heap.size from fun j hj => by rw [hG] at hj; exact hj)
  clear hJ hY h0
  refine (CallsIn.mono (R := fun e W' => (∃ v, e = .returned v) ∧ ∃ xs, xs.Perm L ∧ J G xs W') ?_ (fun e W' h => ⟨h.1, G, by obtain ⟨_, xs, h1, h2⟩ := h; exact ⟨xs, hGF, h1, h2⟩⟩))
  clear hGF hG
  have hmb : ∀ b, m = .map (some b) → b < w0.heap.size := fun b e => by
    rcases hm with ⟨b', rfl, h⟩ | ⟨rfl, _⟩
    · cases e; exact h.lt
    · cases e
  have HMB := Lib.hid hmb
  have hcc := hc.cell
  have hcf := hc.free
  obtain ⟨w1, hr1, hit1, hb1, hs1⟩ := (hm.below (Nat.le_refl _) hb0).range (t := 64) Try.underlying64
  have hbbW := hc.lt
  have HIT := Lib.hid hit1
  have HB1 := Lib.hid hb1
  have HC1 := Lib.hid (hc.of_new hb1)
  have HB0 := Lib.hid (hb0.trans (hb1.mono (by have := hc.lt; have := hb0.size; omega)))
  have HJ0 := Lib.hid (h0G w1 hb1)
  have HS1 := Lib.hid hs1
  have HL := Lib.hid hL
  have hm2 : (∃ b, m = .map (some b)) ∨ m = .map none := hm.imp (fun ⟨b, e, _⟩ => ⟨b, e⟩) And.left
  have HM2 := Lib.hid hm2
  clear hmb hb0 hc hm h0G hit1 hb1 hL hm2
  refine callsIn_of_wp Try.func63 rfl trivial ?_ rfl
  simp only [Try.ntmps63, List.size_toArray, List.length_cons, List.length_nil, Nat.reduceAdd, Nat.reduceSub, Array.replicate_succ, Array.replicate_zero, List.push_toArray, List.append_toArray, List.nil_append, List.cons_append]
  gi_wp2
  gi_loopg [3, 6, 7, 8, 9, 10, 11, 12, 13] L.length (fun k _ _ _ _ _ _ _ _ _ wr => KeyI w0 W bb m L (J G) k wr)
  case atStart => exact ⟨[], L, HIT.out, List.Perm.refl _, HC1.out, HB0.out, by rw [HS1.out]; exact Nat.le_refl _, HJ0.out, Nat.le_refl _⟩
  case round =>
    obtain ⟨pre, todo, hit, hp, ho, hb, hsz, hj, hlen⟩ := hrel
    have HO := Lib.hid ho
    have HB := Lib.hid hb
    have HP := Lib.hid hp
    rcases hit.next2 0 with ⟨rfl, hnx⟩ | ⟨p, w2, todo2, hpt, hpl, hnx, hit2, hg2, hs2, hen, htl, hst⟩
    · clear ho hb hp hit
      gi_wp2
      go_end0
      exact ⟨⟨_, rfl⟩, pre, by have := HP.out; rwa [List.append_nil] at this, hj⟩
    · have h32 := HL.out p hpl; obtain ⟨d, u⟩ := p; have H32 := Lib.hid (show RDig.ok d from h32); clear h32
      replace hnx : (Instr.next (.pointer (some ⟨W.heap.size, 0, none⟩)) false 0).run Try.prog wr = .ok (.tuple #[.bool true, RDig.V d, u]) w2 := hnx
      replace hen : (Instr.entry (.pointer (some ⟨W.heap.size, 0, none⟩))).run Try.prog w2 = .ok (.tuple #[RDig.V d, u]) w2 := hen
      have HIN := Lib.hid hpl
      have HPT := Lib.hid htl
      have HST := Lib.hid (hst pre hp)
      have HLEN := Lib.hid (show pre.length < L.length by have h1 := hp.length_eq; rw [List.length_append] at h1; have := List.length_pos_of_mem hpt; omega)
      have HIT2 := Lib.hid hit2
      have HG2' := Lib.hid hg2
      have HJ := Lib.hid hj
      have HLE := Lib.hid hlen
      have HS2 := Lib.hid hs2
      clear ho hb hp hit hpt hpl hit2 hg2 hj hlen HP hs2 htl hst
      gi_wp2_with (first
        | ((with_reducible refine wpListIn_one (o := ⟨some 3, Op.alloc _, _, _, _, _⟩) rfl (fun c hc => by cases hc) ?_); (refine RDig.wp_alloc rfl fun w3 ho3 hb3 hs3 => ?_); have HO3 := Lib.hid ho3; have HB3 := Lib.hid hb3; clear ho3 hb3 hs3)
        | ((with_reducible refine wpListIn_one (o := ⟨none, Op.store _ (.tmp 3) (.tmp 9), _, _, _, _⟩) rfl (fun c hc => by cases hc) ?_); (refine HO3.out.store (.tmp 3) (.tmp 9) rfl rfl rfl (H32.out) fun w4 ho4 hg4 hs4 => ?_); have HB4 := Lib.hid (HB3.out.grown hg4 (by have := HB3.out.size; omega) (fun k e => by cases e; exact Nat.le_refl _)); have HO4 := Lib.hid ho4; clear ho4 hg4 hs4)
        | ((with_reducible refine wpListIn_one (o := ⟨some 11, Op.load _ _, _, _, _, _⟩) rfl (fun c hc => by cases hc) ?_); (refine HO4.out.at_.wp rfl rfl ?_); have hB24 := HB4.out; have hsz4 := hB24.size; have hS2 := HS2.out; have hk4 : Kept (fun k => ¬ G k) wr w4 := ((Kept.refl _ wr).grown HG2'.out (fun r e => by cases e; exact fun h => h hG3)).below hB24; have hit4 : IterV KDig w4 m W.heap.size L todo2 := HIT2.out.kept ((Kept.refl (fun _ => True) w2).below hB24) trivial (fun _ _ => trivial); have ho4 : One w4 bb m 64 := (HO.out.of_block (HG2'.out.block _ HO.out.lt (fun e => by cases e; omega))).of_new hB24; have hb4 : Below w0.heap.size w0 w4 := (HB.out.grown HG2'.out (by have := HB.out.size; omega) (fun k e => by cases e; have := HB0.out.size; have := HC1.out.lt; omega)).trans (hB24.mono (by have := HB.out.size; omega)); obtain ⟨fn, tmps, assign, body, hy, hR⟩ := hYG pre ((d, u)) w4 (fun j hj => by rcases HG2.out j hj with h | h <;> (subst h; first | exact ho4.lt | omega)) (hJG _ _ _ HJ.out hk4) HIN.out HLEN.out; have HIT4 := Lib.hid hit4; have HO4' := Lib.hid ho4; have HB4' := Lib.hid hb4; clear hk4 hit4 ho4 hb4 hB24; dsimp only [encKey, inE] at hy))
      refine hR.mono ?_
      rintro e W3 ⟨rfl, hJ3, hk3⟩
      have HJ3 := Lib.hid hJ3
      have hit3 := HIT4.out.kept hk3 (.inl hG3) (fun b e => .inr (HMB.out b e))
      have ho3 := HO4'.out.of_block (hk3.block _ HO4'.out.lt (.inl hG1))
      have hb3 : Below w0.heap.size w0 W3 := hk3.to_below HB4'.out (by have := HB4'.out.size; omega) (fun k hk => .inr hk)
      have hs3 := hk3.size
      gi_wp2
      gi_roundg todo2.length
      case measure => have := HPT.out; have := HLE.out; omega
      case rel =>
        have q1 := HS2.out
        have q2 := HB4.out.size
        exact ⟨pre ++ [(d, u)], _, hit3, HST.out, ho3, hb3, by omega, HJ3.out, Nat.le_refl _⟩

end Go.Proofs.Ytnohglkilpnjhaa

/- The walks of slices.AppendSeq and slices.Collect at a sequence of peers, in whatever order. Condition: the iterator's contract. -/
namespace Go.Proofs.Ytnohglkilpnjhaa
open Go.RowKit Go.Shelf
attribute [local go_sem] Oper.semAt_some
set_option linter.unusedVariables false
set_option linter.unusedSimpArgs false
set_option maxRecDepth 100000

/-- What holds ahead of each round of AppendSeq. -/
def CollPI (w : World) (n0 : Nat) (G : Nat → Prop) (pre : List (Int × Value)) (W : World) : Prop :=
  ∃ ov ps, pre = ps.map inE ∧ One W w.heap.size ov 31 ∧ RPeer.Own W (w.heap.size + 3) ov ps ∧ (∀ k, ov.ownBlock = some k → ¬ G k) ∧ Below n0 w W ∧ w.heap.size + 1 ≤ W.heap.size
/-- A round's variable: in a block of its own. -/
def CollPG (w : World) (tm : Value → Value → Array Value) (x : Int × Value) (a : Act) (W : World) : Prop :=
  ∃ g q, x = inE q ∧ w.heap.size + 3 ≤ g ∧ RPeer.O W g q ∧ a = { tmps := tm (.pointer (some ⟨g, 0, none⟩)) (RPeer.V q), defers := [] }

set_option maxHeartbeats 3200000 in
theorem AppendSeqP_any (gf : Nat) (lb : Array Value) (L : List (Int × Value)) (n0 : Nat) (O : Nat → Prop) (w : World) (hLx : ∀ x ∈ L, ∃ q, x = inE q) (hL : L.length ≤ 1048576) (hn0 : n0 ≤ w.heap.size) (hO : ∀ k, O k → n0 ≤ k ∧ k < w.heap.size)
    (eg : ∀ args w, (callFunc gf args).run Try.prog w = .ok (.enter gf args) w)
    (hseq : ∀ W1, Below w.heap.size w W1 → w.heap.size ≤ W1.heap.size → SeqT Fence.wide 4 Try.prog gf lb (fun x : Int × Value => #[x.2]) (fun pre x _ => x ∈ L) (fun xs => xs.Perm L) O n0 L.length W1) :
    Calls Try.prog 66 #[.slice none 0 0, .func (.func gf) #[] lb] w fun e w' => ∃ v ps, e = .returned v ∧ (ps.map inE).Perm L ∧ RPeer.Own w' w.heap.size v ps ∧ Below n0 w w' := by
  refine (callsIn_wide (n := 5)).1 ?_
  refine callsIn_of_wp_marks Try.func66 rfl trivial ?_ rfl
  simp only [Try.ntmps66, List.size_toArray, List.length_cons, List.length_nil, Nat.reduceAdd, Nat.reduceSub, Array.replicate_succ, Array.replicate_zero, List.push_toArray, List.append_toArray, List.nil_append, List.cons_append]
  gi_wp2
  generalize hW0 : w.alloc _ = W0
  obtain ⟨hsz, hB0, o1⟩ : W0.heap.size = w.heap.size + 1 ∧ Below w.heap.size w W0 ∧ One W0 w.heap.size (.slice none 0 0) 31 := by
    subst hW0
    exact ⟨by simp, (Below.refl _ w).alloc (Nat.le_refl _) _, heap_alloc_new _ _⟩
  clear hW0
  refine wpIn_rangeFunc_total (F := Fence.wide) (n := 5) rfl (by omega) (gf := gf) (lb := lb) rfl trivial eg (encs := fun x : Int × Value => #[x.2]) (It := fun pre x _ => x ∈ L) (S := fun xs => xs.Perm L) (O := O) (n0 := n0) (N := L.length) (by omega) (fun k h => by have := (hO k h).2; omega)
    (fun W1 hb1 hs1 => hseq W1 (hB0.trans (hb1.mono (by omega))) (by omega)) (fun _ => rfl)
    (CollPI w n0)
    (fun G s A B hG hs hk => by
      obtain ⟨ov, ps, a0, a1, a2, a3, a4, a5⟩ := hs
      refine ⟨ov, ps, a0, a1.of_block (hk.block _ a1.lt ⟨fun h => ?_, by omega⟩), a2.kept (fun k hk2 => hk.block _ (a2.lt k hk2).2 ⟨a3 k hk2, ?_⟩), a3, hk.to_below a4 (by omega) (fun k hk2 => ⟨fun h => ?_, by omega⟩), Nat.le_trans a5 hk.size⟩
      · rcases hG _ h with h | h
        · omega
        · have := (hO _ h).2; omega
      · have := (a2.lt k hk2).1; omega
      · rcases hG _ h with h | h
        · omega
        · have := (hO _ h).1; omega)
    (fun _ _ _ _ h _ => h)
    (fun G W' hG hb => ⟨.slice none 0 0, [], rfl, o1.of_block (hb.block _ (by omega)), RecT.Own.nil _ _, (fun k h => by cases h), (hB0.trans (hb.mono (by omega))).mono hn0, by have := hb.size; omega⟩)
    (CollPG w fun p y => #[.slice none 0 0, .func (.func gf) #[] lb, .pointer (some ⟨w.heap.size, 0, none⟩), undef, .slice none 0 0, p, .func (.func gf) #[] lb, y, undef, undef, undef, undef, undef])
    (fun x a A B hg hk => by
      obtain ⟨g, q, h0, h1, h2, h4⟩ := hg
      exact ⟨g, q, h0, h1, h2.of_block (hk.block g h2.lt (by omega)), h4⟩)
    ?assign ?body ?done
  case assign =>
    intro l pre x W K hit hs hK
    obtain ⟨q, rfl⟩ := hLx x hit
    have hK' := Lib.hid hK
    clear hK
    rw [show (inE q).2 = RPeer.V q from rfl]
    go_simp
    gi_wp2_with (first
      | ((with_reducible refine wpListIn_round (o := ⟨some 5, Op.alloc _, _, _, _, _⟩) rfl (fun c hc => by cases hc) ?_); (refine RPeer.wp_alloc rfl fun w3 ho3 hb3 hs3 => ?_); have HO3 := Lib.hid ho3; have HB3 := Lib.hid hb3; clear ho3 hb3 hs3)
      | ((with_reducible refine wpListIn_round (o := ⟨none, Op.store _ (.tmp 5) (.tmp 7), _, _, _, _⟩) rfl (fun c hc => by cases hc) ?_); (refine HO3.out.store (.tmp 5) (.tmp 7) rfl rfl rfl (RPeer_ok q) fun w4 ho4 hg4 hs4 => ?_); have HB4 := Lib.hid (HB3.out.grown hg4 (by have := HB3.out.size; omega) (fun k e => by cases e; exact Nat.le_refl _)); have HO4 := Lib.hid ho4; clear ho4 hg4 hs4))
    exact hK'.out _ _ HB4.out ⟨W.heap.size, q, rfl, by omega, HO4.out, rfl⟩
  case body =>
    rintro l G pre x a' W hG hGl ⟨ov, ps, q0, q1, q2, q3, q4, q5⟩ hit ⟨g, q, rfl, g1, g2, rfl⟩ hlen hW2
    subst q0
    obtain ⟨oa, oc, hv⟩ := q2.row.len
    subst hv
    have qc := q1.cell
    have qf := q1.free
    have hGw : ¬ G w.heap.size := fun h => by
      rcases hG _ h with h | h
      · omega
      · have := (hO _ h).2; omega
    have HQ2 := Lib.hid q2
    have HG2 := Lib.hid g2
    have hpl : ps.length < L.length := by simpa using hlen
    gi_wp2_with (first
      | ((with_reducible refine wpListIn_round (o := ⟨some 9, _, _, _, _, _⟩) rfl (fun c hc => by cases hc) ?_); refine HG2.out.at_.wp rfl rfl ?_)
      | ((with_reducible refine wpListIn_round (o := ⟨some 10, _, _, _, _, _⟩) rfl (fun c hc => by cases hc) ?_); refine RPeer.wp_build1 (x := q) Try.underlying31 (.tmp 9) (RPeer_ok q) rfl rfl ?_; intro w2 ho2 hb2 hs2; have HO2 := Lib.hid ho2.row; have HB2 := Lib.hid hb2; have HQ3 := Lib.hid (q2.kept (w' := w2) (fun k hk2 => hb2.block _ (q2.lt k hk2).2)); have qc2 := (q1.of_new hb2).cell; have qf2 := (q1.of_new hb2).free; clear ho2 hb2)
      | ((with_reducible refine wpListIn_round (o := ⟨some 11, _, _, _, _, _⟩) rfl (fun c hc => by cases hc) ?_); refine HQ3.out.app Try.underlying31 (.tmp 8) (.tmp 10) rfl rfl rfl HO2.out (by simp; omega) (by omega) ?_; intro v3 w3 ho3 hg3 hu3; obtain ⟨va, vc, hv3⟩ := ho3.row.len; subst hv3; have q13 := (q1.of_new HB2.out).grown hg3 (fun e => by have := (HQ3.out.lt _ e.symm).1; omega); have qc3 := q13.cell; have qf3 := q13.free))
    have hwne : ∀ r, (Value.slice oa ps.length oc).ownBlock = some r → w.heap.size + 3 ≤ r := fun r e => (q2.lt r e).1
    have ho4 : RPeer.Own (w3.setCell ⟨w.heap.size, 0, none⟩ (.slice va (ps.length + 1) vc)) (w.heap.size + 3) (.slice va (ps.length + 1) vc) (ps ++ [q]) := by
      rw [List.length_append, List.length_singleton] at ho3
      exact ho3.kept (fun k hk2 => Below.heap_setCell _ _ _ _ (by have := (ho3.lt k hk2).1; show k ≠ w.heap.size; omega))
    refine ⟨(((Kept.refl _ W).below HB2.out).grown hg3 (fun r e => ?_)).setCell (fun h => ?_) _, _, ps ++ [q], by simp, q13.set _, ho4, fun k hk2 hGk => ?_, ?_, ?_⟩
    · rintro (h | h | h | h)
      · exact q3 r e h
      · have := hwne r e; omega
      · have := hwne r e; omega
      · have := hwne r e; omega
    · rcases h with h | h | h | h
      · exact hGw h
      · dsimp only at h; omega
      · dsimp only at h; omega
      · dsimp only at h; omega
    · rcases hu3 k (by rw [List.length_append] at *; exact hk2) with h | h
      · exact q3 k h hGk
      · have := hGl k hGk; have := HB2.out.size; omega
    · have hA : Below n0 w w2 := q4.trans (HB2.out.mono (by omega))
      exact (hA.grown hg3 (by omega) (fun r e => by have := hwne r e; omega)).setCell (by show n0 ≤ w.heap.size; omega) _
    · have := hg3.size
      have := HB2.out.size
      simp only [World.size_setCell]; omega
  case done =>
    rintro G xs W hS ⟨ov, ps, q0, q1, q2, q3, q4, q5⟩ hW2 hD
    subst q0
    obtain ⟨oa, oc, hv⟩ := q2.row.len
    subst hv
    have qc := q1.cell
    have qf := q1.free
    gi_wp2
    refine ⟨by simp, .inl ⟨_, _, rfl, run_takeDeferred hD, ?_⟩⟩
    refine ⟨_, results_tmp rfl _ _ _, ?_⟩
    have ho := q2.kept (w' := W.putObj W0.heap.size (.deferred none)) (fun k hk2 => World.putObj_heap_other (by have := (q2.lt k hk2).1; omega))
    exact ⟨_, ps, rfl, hS, ho.mono (by omega), q4.grown (grownBy_putObj' _ _ _) (by omega) (fun k e => by cases e; omega)⟩

set_option maxHeartbeats 800000 in
theorem CollectP_any (gf : Nat) (lb : Array Value) (L : List (Int × Value)) (n0 : Nat) (O : Nat → Prop) (w : World) (hLx : ∀ x ∈ L, ∃ q, x = inE q) (hL : L.length ≤ 1048576) (hn0 : n0 ≤ w.heap.size) (hO : ∀ k, O k → n0 ≤ k ∧ k < w.heap.size)
    (eg : ∀ args w, (callFunc gf args).run Try.prog w = .ok (.enter gf args) w)
    (hseq : ∀ W1, Below w.heap.size w W1 → w.heap.size ≤ W1.heap.size → SeqT Fence.wide 4 Try.prog gf lb (fun x : Int × Value => #[x.2]) (fun pre x _ => x ∈ L) (fun xs => xs.Perm L) O n0 L.length W1) :
    Calls Try.prog 41 #[.func (.func gf) #[] lb] w fun e w' => ∃ v ps, e = .returned v ∧ (ps.map inE).Perm L ∧ RPeer.Own w' w.heap.size v ps ∧ Below n0 w w' := by
  go_enter Try.func41, Try.ntmps41
  go_wp2_with fail
  refine (AppendSeqP_any gf lb L n0 O w hLx hL hn0 hO eg hseq).mono ?_
  rintro e w2 ⟨v, ps, rfl, hp, ho, hb⟩
  go_wp2
  go_ret
  exact ⟨v, ps, rfl, hp, ho, hb⟩

end Go.Proofs.Ytnohglkilpnjhaa

/- The walks of slices.AppendSeq and slices.Collect at a sequence of hashes, in whatever order. Condition: the iterator's contract. -/
namespace Go.Proofs.Ytnohglkilpnjhaa
open Go.RowKit Go.Shelf
attribute [local go_sem] Oper.semAt_some
set_option linter.unusedVariables false
set_option linter.unusedSimpArgs false
set_option maxRecDepth 100000

/-- What holds ahead of each round of AppendSeq. -/
def CollKI (w : World) (n0 : Nat) (G : Nat → Prop) (pre : List (List UInt8 × Value)) (W : World) : Prop :=
  ∃ ov ps, pre.map Prod.fst = ps ∧ One W w.heap.size ov 52 ∧ RDig.Own W (w.heap.size + 3) ov ps ∧ (∀ k, ov.ownBlock = some k → ¬ G k) ∧ Below n0 w W ∧ w.heap.size + 1 ≤ W.heap.size
/-- A round's variable: in a block of its own. -/
def CollKG (w : World) (tm : Value → Value → Array Value) (x : List UInt8 × Value) (a : Act) (W : World) : Prop :=
  ∃ g q, (x.1 = q ∧ q.length = 32) ∧ w.heap.size + 3 ≤ g ∧ RDig.O W g q ∧ a = { tmps := tm (.pointer (some ⟨g, 0, none⟩)) (RDig.V q), defers := [] }

set_option maxHeartbeats 3200000 in
theorem AppendSeqK_any (gf : Nat) (lb : Array Value) (L : List (List UInt8 × Value)) (n0 : Nat) (O : Nat → Prop) (w : World) (hLx : ∀ x ∈ L, x.1.length = 32) (hL : L.length ≤ 1048576) (hn0 : n0 ≤ w.heap.size) (hO : ∀ k, O k → n0 ≤ k ∧ k < w.heap.size)
    (eg : ∀ args w, (callFunc gf args).run Try.prog w = .ok (.enter gf args) w)
    (hseq : ∀ W1, Below w.heap.size w W1 → w.heap.size ≤ W1.heap.size → SeqT Fence.wide 4 Try.prog gf lb (fun x : List UInt8 × Value => #[RDig.V x.1]) (fun pre x _ => x ∈ L) (fun xs => xs.Perm L) O n0 L.length W1) :
    Calls Try.prog 67 #[.slice none 0 0, .func (.func gf) #[] lb] w fun e w' => ∃ v ps, e = .returned v ∧ ps.Perm (L.map Prod.fst) ∧ RDig.Own w' w.heap.size v ps ∧ Below n0 w w' := by
  refine (callsIn_wide (n := 5)).1 ?_
  refine callsIn_of_wp_marks Try.func67 rfl trivial ?_ rfl
  simp only [Try.ntmps67, List.size_toArray, List.length_cons, List.length_nil, Nat.reduceAdd, Nat.reduceSub, Array.replicate_succ, Array.replicate_zero, List.push_toArray, List.append_toArray, List.nil_append, List.cons_append]
  gi_wp2
  generalize hW0 : w.alloc _ = W0
  obtain ⟨hsz, hB0, o1⟩ : W0.heap.size = w.heap.size + 1 ∧ Below w.heap.size w W0 ∧ One W0 w.heap.size (.slice none 0 0) 52 := by
    subst hW0
    exact ⟨by simp, (Below.refl _ w).alloc (Nat.le_refl _) _, heap_alloc_new _ _⟩
  clear hW0
  refine wpIn_rangeFunc_total (F := Fence.wide) (n := 5) rfl (by omega) (gf := gf) (lb := lb) rfl trivial eg (encs := fun x : List UInt8 × Value => #[RDig.V x.1]) (It := fun pre x _ => x ∈ L) (S := fun xs => xs.Perm L) (O := O) (n0 := n0) (N := L.length) (by omega) (fun k h => by have := (hO k h).2; omega)
    (fun W1 hb1 hs1 => hseq W1 (hB0.trans (hb1.mono (by omega))) (by omega)) (fun _ => rfl)
    (CollKI w n0)
    (fun G s A B hG hs hk => by
      obtain ⟨ov, ps, a0, a1, a2, a3, a4, a5⟩ := hs
      refine ⟨ov, ps, a0, a1.of_block (hk.block _ a1.lt ⟨fun h => ?_, by omega⟩), a2.kept (fun k hk2 => hk.block _ (a2.lt k hk2).2 ⟨a3 k hk2, ?_⟩), a3, hk.to_below a4 (by omega) (fun k hk2 => ⟨fun h => ?_, by omega⟩), Nat.le_trans a5 hk.size⟩
      · rcases hG _ h with h | h
        · omega
        · have := (hO _ h).2; omega
      · have := (a2.lt k hk2).1; omega
      · rcases hG _ h with h | h
        · omega
        · have := (hO _ h).1; omega)
    (fun _ _ _ _ h _ => h)
    (fun G W' hG hb => ⟨.slice none 0 0, [], rfl, o1.of_block (hb.block _ (by omega)), RecT.Own.nil _ _, (fun k h => by cases h), (hB0.trans (hb.mono (by omega))).mono hn0, by have := hb.size; omega⟩)
    (CollKG w fun p y => #[.slice none 0 0, .func (.func gf) #[] lb, .pointer (some ⟨w.heap.size, 0, none⟩), undef, .slice none 0 0, p, .func (.func gf) #[] lb, y, undef, undef, undef, undef, undef])
    (fun x a A B hg hk => by
      obtain ⟨g, q, h0, h1, h2, h4⟩ := hg
      exact ⟨g, q, h0, h1, h2.of_block (hk.block g h2.lt (by omega)), h4⟩)
    ?assign ?body ?done
  case assign =>
    intro l pre x W K hit hs hK
    have h32 := hLx x hit; obtain ⟨q, u⟩ := x; replace h32 : RDig.ok q := h32
    have hK' := Lib.hid hK
    clear hK
    dsimp only
    go_simp
    gi_wp2_with (first
      | ((with_reducible refine wpListIn_round (o := ⟨some 5, Op.alloc _, _, _, _, _⟩) rfl (fun c hc => by cases hc) ?_); (refine RDig.wp_alloc rfl fun w3 ho3 hb3 hs3 => ?_); have HO3 := Lib.hid ho3; have HB3 := Lib.hid hb3; clear ho3 hb3 hs3)
      | ((with_reducible refine wpListIn_round (o := ⟨none, Op.store _ (.tmp 5) (.tmp 7), _, _, _, _⟩) rfl (fun c hc => by cases hc) ?_); (refine HO3.out.store (.tmp 5) (.tmp 7) rfl rfl rfl (h32) fun w4 ho4 hg4 hs4 => ?_); have HB4 := Lib.hid (HB3.out.grown hg4 (by have := HB3.out.size; omega) (fun k e => by cases e; exact Nat.le_refl _)); have HO4 := Lib.hid ho4; clear ho4 hg4 hs4))
    exact hK'.out _ _ HB4.out ⟨W.heap.size, q, ⟨rfl, h32⟩, by omega, HO4.out, rfl⟩
  case body =>
    rintro l G pre x a' W hG hGl ⟨ov, ps, q0, q1, q2, q3, q4, q5⟩ hit ⟨g, q, ⟨hxq, h32⟩, g1, g2, rfl⟩ hlen hW2
    obtain ⟨oa, oc, hv⟩ := q2.row.len
    subst hv
    have qc := q1.cell
    have qf := q1.free
    have hGw : ¬ G w.heap.size := fun h => by
      rcases hG _ h with h | h
      · omega
      · have := (hO _ h).2; omega
    have HQ2 := Lib.hid q2
    have HG2 := Lib.hid g2
    have hpl : ps.length < L.length := by rw [← q0, List.length_map]; exact hlen
    gi_wp2_with (first
      | ((with_reducible refine wpListIn_round (o := ⟨some 9, _, _, _, _, _⟩) rfl (fun c hc => by cases hc) ?_); refine HG2.out.at_.wp rfl rfl ?_)
      | ((with_reducible refine wpListIn_round (o := ⟨some 10, _, _, _, _, _⟩) rfl (fun c hc => by cases hc) ?_); refine RDig.wp_build1 (x := q) Try.underlying52 (.tmp 9) (h32) rfl rfl ?_; intro w2 ho2 hb2 hs2; have HO2 := Lib.hid ho2.row; have HB2 := Lib.hid hb2; have HQ3 := Lib.hid (q2.kept (w' := w2) (fun k hk2 => hb2.block _ (q2.lt k hk2).2)); have qc2 := (q1.of_new hb2).cell; have qf2 := (q1.of_new hb2).free; clear ho2 hb2)
      | ((with_reducible refine wpListIn_round (o := ⟨some 11, _, _, _, _, _⟩) rfl (fun c hc => by cases hc) ?_); refine HQ3.out.app Try.underlying52 (.tmp 8) (.tmp 10) rfl rfl rfl HO2.out (by simp; omega) (by omega) ?_; intro v3 w3 ho3 hg3 hu3; obtain ⟨va, vc, hv3⟩ := ho3.row.len; subst hv3; have q13 := (q1.of_new HB2.out).grown hg3 (fun e => by have := (HQ3.out.lt _ e.symm).1; omega); have qc3 := q13.cell; have qf3 := q13.free))
    have hwne : ∀ r, (Value.slice oa ps.length oc).ownBlock = some r → w.heap.size + 3 ≤ r := fun r e => (q2.lt r e).1
    have ho4 : RDig.Own (w3.setCell ⟨w.heap.size, 0, none⟩ (.slice va (ps.length + 1) vc)) (w.heap.size + 3) (.slice va (ps.length + 1) vc) (ps ++ [q]) := by
      rw [List.length_append, List.length_singleton] at ho3
      exact ho3.kept (fun k hk2 => Below.heap_setCell _ _ _ _ (by have := (ho3.lt k hk2).1; show k ≠ w.heap.size; omega))
    refine ⟨(((Kept.refl _ W).below HB2.out).grown hg3 (fun r e => ?_)).setCell (fun h => ?_) _, _, ps ++ [q], by simp [q0, hxq], q13.set _, ho4, fun k hk2 hGk => ?_, ?_, ?_⟩
    · rintro (h | h | h | h)
      · exact q3 r e h
      · have := hwne r e; omega
      · have := hwne r e; omega
      · have := hwne r e; omega
    · rcases h with h | h | h | h
      · exact hGw h
      · dsimp only at h; omega
      · dsimp only at h; omega
      · dsimp only at h; omega
    · rcases hu3 k (by rw [List.length_append] at *; exact hk2) with h | h
      · exact q3 k h hGk
      · have := hGl k hGk; have := HB2.out.size; omega
    · have hA : Below n0 w w2 := q4.trans (HB2.out.mono (by omega))
      exact (hA.grown hg3 (by omega) (fun r e => by have := hwne r e; omega)).setCell (by show n0 ≤ w.heap.size; omega) _
    · have := hg3.size
      have := HB2.out.size
      simp only [World.size_setCell]; omega
  case done =>
    rintro G xs W hS ⟨ov, ps, q0, q1, q2, q3, q4, q5⟩ hW2 hD
    obtain ⟨oa, oc, hv⟩ := q2.row.len
    subst hv
    have qc := q1.cell
    have qf := q1.free
    gi_wp2
    refine ⟨by simp, .inl ⟨_, _, rfl, run_takeDeferred hD, ?_⟩⟩
    refine ⟨_, results_tmp rfl _ _ _, ?_⟩
    have ho := q2.kept (w' := W.putObj W0.heap.size (.deferred none)) (fun k hk2 => World.putObj_heap_other (by have := (q2.lt k hk2).1; omega))
    exact ⟨_, ps, rfl, by rw [← q0]; exact hS.map _, ho.mono (by omega), q4.grown (grownBy_putObj' _ _ _) (by omega) (fun k e => by cases e; omega)⟩

set_option maxHeartbeats 800000 in
theorem CollectK_any (gf : Nat) (lb : Array Value) (L : List (List UInt8 × Value)) (n0 : Nat) (O : Nat → Prop) (w : World) (hLx : ∀ x ∈ L, x.1.length = 32) (hL : L.length ≤ 1048576) (hn0 : n0 ≤ w.heap.size) (hO : ∀ k, O k → n0 ≤ k ∧ k < w.heap.size)
    (eg : ∀ args w, (callFunc gf args).run Try.prog w = .ok (.enter gf args) w)
    (hseq : ∀ W1, Below w.heap.size w W1 → w.heap.size ≤ W1.heap.size → SeqT Fence.wide 4 Try.prog gf lb (fun x : List UInt8 × Value => #[RDig.V x.1]) (fun pre x _ => x ∈ L) (fun xs => xs.Perm L) O n0 L.length W1) :
    Calls Try.prog 45 #[.func (.func gf) #[] lb] w fun e w' => ∃ v ps, e = .returned v ∧ ps.Perm (L.map Prod.fst) ∧ RDig.Own w' w.heap.size v ps ∧ Below n0 w w' := by
  go_enter Try.func45, Try.ntmps45
  go_wp2_with fail
  refine (AppendSeqK_any gf lb L n0 O w hLx hL hn0 hO eg hseq).mono ?_
  rintro e w2 ⟨v, ps, rfl, hp, ho, hb⟩
  go_wp2
  go_ret
  exact ⟨v, ps, rfl, hp, ho, hb⟩

end Go.Proofs.Ytnohglkilpnjhaa

/- The walks of slices.MinFunc at peers, of a blob's first and last peer. No condition. -/
namespace Go.Proofs.Ytnohglkilpnjhaa
open Go.RowKit
set_option linter.unusedVariables false
set_option linter.unusedSimpArgs false
set_option maxRecDepth 100000

set_option maxHeartbeats 3200000 in
theorem MinP_any (v : Value) (x : PeerL) (l : List PeerL) (w : World) (hl : RPeer.Row w v (x :: l)) :
    Calls Try.prog 42 #[v, .func (.func 43) #[] #[]] w fun e w' => e = .returned (RPeer.V (pickL goesP l x)) ∧ Below w.heap.size w w' := by
  obtain ⟨pb, poff, pc, rfl, hpl, hat⟩ := hl.at_ (by simp)
  have hle := hl.le
  simp only [List.length_cons] at hle ⊢
  have h0 := hat 0 x rfl
  rw [Nat.zero_mul, Nat.add_zero] at h0
  have H0 := Lib.hid h0
  have HAT := Lib.hid (fun k y (h : l[k]? = some y) => hat (k + 1) y (by simpa using h))
  have hn : ¬ ((l.length + 1 : Nat) : Int) < 1 := by omega
  have hn1 : (0 : Int) < ((l.length + 1 : Nat) : Int) := by omega
  obtain ⟨N, hN⟩ : ∃ N, l.length + 1 = N := ⟨_, rfl⟩
  rw [hN] at hle hn hn1 ⊢
  have HN := Lib.hid hN
  clear hl hat h0 hN
  go_enter Try.func42, Try.ntmps42
  go_upto_region 5 with (first
    | ((with_reducible refine wpList_plain (o := ⟨some 4, Op.alloc _, _, _, _, _⟩) rfl fun K hK => ?_); (refine RPeer.wp_alloc rfl fun w1 ho1 hb1 hs1 => hK _ _ ?_); have HO1 := Lib.hid ho1; have HB1 := Lib.hid hb1; have HS1 := Lib.hid hs1; have HA1 := Lib.hid (H0.out.of_new hb1); clear ho1 hb1 hs1)
    | ((with_reducible refine wpList_plain (o := ⟨some 13, Op.load _ _, _, _, _, _⟩) rfl fun K hK => ?_); (refine HA1.out.wp rfl rfl (hK _ _ ?_)))
    | ((with_reducible refine wpList_plain (o := ⟨some 5, Op.alloc _, _, _, _, _⟩) rfl fun K hK => ?_); (refine RPeer.wp_alloc rfl fun w2 ho2 hb2 hs2 => hK _ _ ?_); have HO2 := Lib.hid ho2; have HB2 := Lib.hid hb2; clear ho2 hb2 hs2)
    | ((with_reducible refine wpList_plain (o := ⟨none, Op.store _ (.tmp 5) (.tmp 13), _, _, _, _⟩) rfl fun K hK => ?_); (refine HO2.out.store (.tmp 5) (.tmp 13) rfl rfl rfl (RPeer_ok x) fun w3 ho3 hg3 hs3 => hK _ _ ?_); have hb3 := HB2.out.grown hg3 (by have := HB2.out.size; omega) (fun k e => by cases e; exact Nat.le_refl _); have HO3 := Lib.hid ho3; have HB3 := Lib.hid hb3; have HR3 := Lib.hid (HO1.out.of_new hb3); clear ho3 hg3 hs3 hb3))
  have hb3 := below_next HB1.out HB3.out
  have hr3 := HR3.out
  have ho3 := HO3.out
  clear hn
  go_loopw [6] (fun iv W => ∃ k m, k ≤ l.length ∧ iv = .int .i64 ((k + 1 : Nat) : Int) ∧ pickL goesP l x = pickL goesP (l.drop k) m ∧ RPeer.O W w1.heap.size m ∧ RPeer.O W w.heap.size PeerL.zero ∧ Below w.heap.size w W) (fun iv _ => N - (intOf iv).toNat)
  case atStart => exact ⟨0, x, Nat.zero_le _, rfl, rfl, ho3, hr3, hb3⟩
  case round =>
    clear ho3 hr3 hb3
    obtain ⟨k, m, hk, rfl, hp, ho, hz, hb⟩ := hrel
    have HO := Lib.hid ho
    have HZ := Lib.hid hz
    have HB := Lib.hid hb
    have HK := Lib.hid hk
    by_cases hlt : k < l.length
    · obtain ⟨y, hy⟩ : ∃ y, l[k]? = some y := ⟨_, List.getElem?_eq_getElem hlt⟩
      have hdr : l.drop k = y :: l.drop (k + 1) := by rw [List.drop_eq_getElem_cons hlt]; rw [List.getElem?_eq_getElem hlt] at hy; cases hy; rfl
      have hp2 : pickL goesP l x = pickL goesP (l.drop (k + 1)) (if goesP y m then y else m) := by rw [hp, hdr]; rfl
      have hA := (HAT.out k y hy).of_new hb
      rw [← firstC_goes] at hp2
      have hC := fun w' => FirstCmp_any y m w'
      generalize firstC y m = c at *
      obtain ⟨jj, hjj⟩ : ∃ jj, k + 1 = jj := ⟨_, rfl⟩
      rw [hjj] at hp2 hA ⊢
      have hKN : (jj : Int) < (N : Int) := by have := HN.out; omega
      have hKl : jj ≤ l.length := by omega
      have HK2 := Lib.hid hjj
      have HP := Lib.hid hp2
      have HA := Lib.hid hA
      have HC := Lib.hid hC
      clear hp hdr hy hA hC hp2 ho hz hb hjj hk
      by_cases hc : c < 0
      · have hd : decide (c < 0) = true := decide_eq_true hc
        go_upto_region 7 with (fail)
        refine wp_region_grew (by kernel_rfl) (by kernel_rfl) ?_
        repeat (first
          | (go_big_quiet_want; (refine RecT.At.quiet (R := RPeer) (p := .tmp 5) (fun w' hw' => (HO.out.of_new hw').at_) rfl rfl ?_); go_simp; go_big_quiet_on)
          | (go_big_quiet_want; (refine RecT.At.quiet (R := RPeer) (p := .tmp 23) (fun w' hw' => HA.out.of_new hw') rfl rfl ?_); go_simp; go_big_quiet_on)
          | (go_big_quiet_want; (with_reducible apply quiet_load_at (ty := 30) (x := .tmp _)); rfl; rfl; assumption; go_simp; go_big_quiet_on)
          | (go_big_quiet_want; apply quiet_val; (intro w' hw'; go_simp; first | done | rfl); go_simp; go_big_quiet_on)
          | (go_big_quiet_want; apply quiet_call (f := 43); (intro w' hw'; go_simp; first | done | rfl); (intro w' hw'; exact Grew.call hw' (HC.out w')); go_simp; go_big_quiet_on)
          | (go_big_quiet_skip))
        refine wpQuiet_nil ?_
        intro w5 hw5
        have HO5 := Lib.hid (HO.out.of_new hw5)
        have HZ5 := Lib.hid (HZ.out.of_new hw5)
        have HB5 := Lib.hid (below_next HB.out hw5)
        have HA5 := Lib.hid (HA.out.of_new hw5)
        clear hw5
        go_wp2_with (first
          | ((with_reducible refine wpList_plain (o := ⟨some 31, Op.load _ _, _, _, _, _⟩) rfl fun K hK => ?_); (refine HA5.out.wp rfl rfl (hK _ _ ?_)))
          | ((with_reducible refine wpList_plain (o := ⟨none, Op.store _ (.tmp 5) (.tmp 31), _, _, _, _⟩) rfl fun K hK => ?_); (refine HO5.out.store (.tmp 5) (.tmp 31) rfl rfl rfl (RPeer_ok y) fun w6 ho6 hg6 hs6 => hK _ _ ?_); have HO6 := Lib.hid ho6; have HG6 := Lib.hid hg6; clear ho6 hg6 hs6))
        have hs1 := HS1.out
        go_roundw
        case rel => exact ⟨jj, y, hKl, by go_num, by rw [HP.out, hd]; rfl, HO6.out, HZ5.out.of_block (HG6.out.block _ HZ5.out.lt (fun e => by have := Option.some.inj e; omega)), HB5.out.grown HG6.out (by have := HB5.out.size; omega) (fun r e => by cases e; omega)⟩
        case measure => simp [intOf]; omega
      · have hd : decide (c < 0) = false := decide_eq_false hc
        go_upto_region 7 with (fail)
        refine wp_region_grew (by kernel_rfl) (by kernel_rfl) ?_
        repeat (first
          | (go_big_quiet_want; (refine RecT.At.quiet (R := RPeer) (p := .tmp 5) (fun w' hw' => (HO.out.of_new hw').at_) rfl rfl ?_); go_simp; go_big_quiet_on)
          | (go_big_quiet_want; (refine RecT.At.quiet (R := RPeer) (p := .tmp 23) (fun w' hw' => HA.out.of_new hw') rfl rfl ?_); go_simp; go_big_quiet_on)
          | (go_big_quiet_want; (with_reducible apply quiet_load_at (ty := 30) (x := .tmp _)); rfl; rfl; assumption; go_simp; go_big_quiet_on)
          | (go_big_quiet_want; apply quiet_val; (intro w' hw'; go_simp; first | done | rfl); go_simp; go_big_quiet_on)
          | (go_big_quiet_want; apply quiet_call (f := 43); (intro w' hw'; go_simp; first | done | rfl); (intro w' hw'; exact Grew.call hw' (HC.out w')); go_simp; go_big_quiet_on)
          | (go_big_quiet_skip))
        refine wpQuiet_nil ?_
        intro w5 hw5
        go_wp2
        go_roundw
        case rel => exact ⟨jj, m, hKl, by go_num, by rw [HP.out, hd]; rfl, HO.out.of_new hw5, HZ.out.of_new hw5, below_next HB.out hw5⟩
        case measure => simp [intOf]; omega
    · have hKN : ¬ ((k + 1 : Nat) : Int) < (N : Int) := by have := HN.out; omega
      rw [List.drop_of_length_le (by omega)] at hp
      have HP := Lib.hid hp
      have hs1 := HS1.out
      clear hp ho hz hb
      go_wp2_with (first
        | ((with_reducible refine wpList_plain (o := ⟨some 32, Op.load _ _, _, _, _, _⟩) rfl fun K hK => ?_); (refine HO.out.at_.wp rfl rfl (hK _ _ ?_)))
        | ((with_reducible refine wpList_plain (o := ⟨none, Op.store _ (.tmp 4) (.tmp 32), _, _, _, _⟩) rfl fun K hK => ?_); (refine HZ.out.store (.tmp 4) (.tmp 32) rfl rfl rfl (RPeer_ok m) fun w6 ho6 hg6 hs6 => hK _ _ ?_); have HO6 := Lib.hid ho6; have HB6 := Lib.hid (HB.out.grown hg6 (by have := HB.out.size; omega) (fun k e => by cases e; exact Nat.le_refl _)); clear ho6 hg6 hs6))
      refine bodyPost_ret (RecT.results1 rfl _ rfl HO6.out) rfl ?_
      exact ⟨by rw [HP.out]; rfl, HB6.out⟩

end Go.Proofs.Ytnohglkilpnjhaa

/- slices.SortFunc at peers and at hashes: the kit's contract laid here, and what it says of lists. No condition. -/
namespace Go.Proofs.Ytnohglkilpnjhaa
open Go.RowKit Go.Shelf
set_option linter.unusedVariables false
set_option linter.unusedSimpArgs false
set_option maxRecDepth 100000

def sortP_ren : Go.Shelf.Ren := ⟨fun | 6 => 49 | 15 => 69 | 14 => 68 | 28 => 83 | 29 => 84 | 20 => 75 | 21 => 76 | 22 => 77 | 23 => 78 | 24 => 79 | 25 => 80 | 26 => 81 | 27 => 82 | 46 => 96 | 47 => 97 | 48 => 98 | 49 => 99 | 50 => 100 | 57 => 105 | n => n, fun | 22 => 31 | 24 => 35 | 25 => 77 | 3 => 3 | 39 => 118 | 0 => 0 | 53 => 129 | 55 => 59 | 4 => 4 | 46 => 123 | 45 => 122 | 50 => 80 | 5 => 5 | 9 => 9 | 66 => 139 | 70 => 142 | 76 => 146 | 77 => 147 | n => n, fun | n => n⟩
theorem sortP : Go.Proofs.SlLaysF0.n6 Try.prog sortP_ren where
  mixed := by kernel_rfl
  f6 := ⟨ "slices.SortFunc[[]starling/api.Peer,starling/api.Peer]", by decide, Try.func49.trans (congrArg some (by kernel_rfl))⟩
  f14 := ⟨ "slices.pdqsortCmpFunc[starling/api.Peer]", by decide, Try.func68.trans (congrArg some (by kernel_rfl))⟩
  f15 := Try.func69.trans (congrArg some (by kernel_rfl))
  f20 := ⟨ "slices.insertionSortCmpFunc[starling/api.Peer]", by decide, Try.func75.trans (congrArg some (by kernel_rfl))⟩
  f21 := ⟨ "slices.heapSortCmpFunc[starling/api.Peer]", by decide, Try.func76.trans (congrArg some (by kernel_rfl))⟩
  f22 := ⟨ "slices.breakPatternsCmpFunc[starling/api.Peer]", by decide, Try.func77.trans (congrArg some (by kernel_rfl))⟩
  f23 := ⟨ "slices.choosePivotCmpFunc[starling/api.Peer]", by decide, Try.func78.trans (congrArg some (by kernel_rfl))⟩
  f24 := ⟨ "slices.reverseRangeCmpFunc[starling/api.Peer]", by decide, Try.func79.trans (congrArg some (by kernel_rfl))⟩
  f25 := ⟨ "slices.partialInsertionSortCmpFunc[starling/api.Peer]", by decide, Try.func80.trans (congrArg some (by kernel_rfl))⟩
  f26 := ⟨ "slices.partitionEqualCmpFunc[starling/api.Peer]", by decide, Try.func81.trans (congrArg some (by kernel_rfl))⟩
  f27 := ⟨ "slices.partitionCmpFunc[starling/api.Peer]", by decide, Try.func82.trans (congrArg some (by kernel_rfl))⟩
  f28 := Try.func83.trans (congrArg some (by kernel_rfl))
  f29 := Try.func84.trans (congrArg some (by kernel_rfl))
  f46 := ⟨ "slices.siftDownCmpFunc[starling/api.Peer]", by decide, Try.func96.trans (congrArg some (by kernel_rfl))⟩
  f47 := Try.func97.trans (congrArg some (by kernel_rfl))
  f48 := Try.func98.trans (congrArg some (by kernel_rfl))
  f49 := ⟨ "slices.medianAdjacentCmpFunc[starling/api.Peer]", by decide, Try.func99.trans (congrArg some (by kernel_rfl))⟩
  f50 := ⟨ "slices.medianCmpFunc[starling/api.Peer]", by decide, Try.func100.trans (congrArg some (by kernel_rfl))⟩
  f57 := ⟨ "slices.order2CmpFunc[starling/api.Peer]", by decide, Try.func105.trans (congrArg some (by kernel_rfl))⟩
  t0 := Try.underlying0
  a0 := Try.isAgg0
  z0 := Try.sizeOf0
  v0 := Try.zeroValue0
  t3 := Try.underlying3
  a3 := Try.isAgg3
  z3 := Try.sizeOf3
  v3 := Try.zeroValue3
  t4 := Try.underlying4
  a4 := Try.isAgg4
  z4 := Try.sizeOf4
  v4 := Try.zeroValue4
  t5 := Try.underlying5
  a5 := Try.isAgg5
  z5 := Try.sizeOf5
  v5 := Try.zeroValue5
  t9 := Try.underlying9
  a9 := Try.isAgg9
  z9 := Try.sizeOf9
  v9 := Try.zeroValue9
  t22 := Try.underlying31
  a22 := Try.isAgg31
  z22 := Try.sizeOf31
  v22 := Try.zeroValue31
  t25 := Try.underlying77
  a25 := Try.isAgg77
  z25 := Try.sizeOf77
  v25 := Try.zeroValue77
  t39 := Try.underlying118
  a39 := Try.isAgg118
  z39 := Try.sizeOf118
  v39 := Try.zeroValue118
  t45 := Try.underlying122
  a45 := Try.isAgg122
  z45 := Try.sizeOf122
  v45 := Try.zeroValue122
  t46 := Try.underlying123
  a46 := Try.isAgg123
  z46 := Try.sizeOf123
  v46 := Try.zeroValue123
  t50 := Try.underlying80
  a50 := Try.isAgg80
  z50 := Try.sizeOf80
  v50 := Try.zeroValue80
  t53 := Try.underlying129
  a53 := Try.isAgg129
  z53 := Try.sizeOf129
  v53 := Try.zeroValue129
  t55 := Try.underlying59
  a55 := Try.isAgg59
  z55 := Try.sizeOf59
  v55 := Try.zeroValue59
  t66 := Try.underlying139
  a66 := Try.isAgg139
  z66 := Try.sizeOf139
  v66 := Try.zeroValue139
  t70 := Try.underlying142
  a70 := Try.isAgg142
  z70 := Try.sizeOf142
  v70 := Try.zeroValue142
  t76 := Try.underlying146
  a76 := Try.isAgg146
  z76 := Try.sizeOf146
  v76 := Try.zeroValue146
  t77 := Try.underlying147
  a77 := Try.isAgg147
  z77 := Try.sizeOf147
  v77 := Try.zeroValue147
theorem ltOf_id (x y : RecT.Ok RPeer) : ltOf (fun x y : RecT.Ok RPeer => cmpI x.1.id y.1.id) x y = decide (x.1.id < y.1.id) := by
  unfold ltOf cmpI
  by_cases h1 : x.1.id < y.1.id
  · simp [h1]
  · by_cases h2 : y.1.id < x.1.id <;> simp [h1, h2]
theorem swo_id : Sort.SWO (ltOf fun x y : RecT.Ok RPeer => cmpI x.1.id y.1.id) where
  irrefl x := by rw [ltOf_id]; simp
  trans x y z h1 h2 := by rw [ltOf_id] at *; simp at *; omega
  ntrans x y z h1 h2 := by rw [ltOf_id] at *; simp at *; omega
theorem peersCmp_lays (blk off size : Nat) (w : World) : CmpLays Try.prog 28 #[] RPeer.encOk 3 (fun x y : RecT.Ok RPeer => cmpI x.1.id y.1.id) blk off size w :=
  fun _ _ _ _ x y => (PeersCmp_any x.1 y.1 _).mono fun _ _ ⟨h1, os, h2⟩ => ⟨h1, 0, os, h2⟩

theorem SortP_any (v : Value) (l : List PeerL) (w : World) (base : Nat) (ho : RPeer.Own w base v l) (hl : l.length ≤ 1000000) :
    Calls Try.prog 49 #[v, .func (.func 28) #[] #[]] w fun e w' =>
      e = .returned (.tuple #[]) ∧ ∃ l', l'.Perm l ∧ l'.Pairwise (fun a b => a.id ≤ b.id) ∧ RPeer.Own w' base v l' ∧ w.grownBy w' v.ownBlock := by
  rcases ho.2.2 with ⟨rfl, h0⟩ | ⟨g, cap, cur, rfl, hb, hh, hn, hc, hs, hx⟩
  · have hl0 : l = [] := List.length_eq_zero_iff.1 h0
    subst hl0
    exact (AnyF.slices_SortFunc_none sortP none 0 (.func (.func 28) #[] #[]) w).mono fun e w' ⟨h1, h2⟩ => ⟨h1, [], List.Perm.refl _, List.Pairwise.nil, by rw [h2]; exact ho, by rw [h2]; exact World.grownBy.refl _ _⟩
  · have eg : ∀ args w, (callFunc 28 args).run Try.prog w = .ok (.enter 28 args) w := enters_of Try.func28 (by kernel_rfl) rfl
    have hok : ∀ x ∈ l, RPeer.ok x := fun x _ => RPeer_ok x
    have hu := RPeer.up_len hok
    have hcon := AnyQ.slices_SortFunc sortP 3 Try.isAgg35 Try.sizeOf35 RPeer.encOk (fun x => RPeer.enc_len x) (fun x v hv => RPeer.one x.2 v hv) (fun x y => cmpI x.1.id y.1.id) swo_id 28 #[] g 0 cap (RPeer.up l hok).toArray w eg (peersCmp_lays g 0 _ w) (ho.holds hok) ((Array.getElem?_eq_some_iff.1 hh).1) (by simp only [List.size_toArray, hu]; omega)
    change Calls Try.prog 49 _ _ _ at hcon
    simp only [List.size_toArray, hu] at hcon
    refine hcon.mono ?_
    rintro e w' ⟨h1, d', n, os, hp, hst, rfl⟩
    obtain ⟨d, rfl⟩ : ∃ d : List (RecT.Ok RPeer), d' = d.toArray := ⟨d'.toList, by simp⟩
    have hd : d.length = l.length := by have := hp.1; simpa [hu] using this
    have hp2 := permIn_list (d := (RPeer.up l hok).toArray) (by simpa [hu] using hp)
    have hp3 := hp2.map Subtype.val
    simp only [RPeer.up_val hok] at hp3
    have hs2 := sortedIn_list (d := d) (by rw [hd]; exact hst)
    obtain ⟨k1, k2⟩ := ho.sorted d hd n os
    refine ⟨h1, d.map Subtype.val, hp3, ?_, k1, k2⟩
    rw [List.pairwise_map]
    exact hs2.imp fun {a b} h => by rw [ltOf_id] at h; simpa using h

/-- There is one order. -/
theorem rise_sorted {α : Type} {f : α → Int} {l l' : List α} (h : Rising f l) (hp : l'.Perm l) (hs : l'.Pairwise (fun a b => f a ≤ f b)) : l' = l := by
  have h1 : l'.Pairwise (fun a b => f a ≠ f b) := (hp.symm.pairwise_iff (fun {a b} (h : f a ≠ f b) => h.symm)).1 h.apart
  have h2 : Rising f l' := (hs.and h1).imp fun {a b} ⟨h3, h4⟩ => by omega
  exact h2.perm_eq h hp

end Go.Proofs.Ytnohglkilpnjhaa

/- slices.SortFunc at hashes: the kit's contract laid here, and what it says of lists. No condition. -/
namespace Go.Proofs.Ytnohglkilpnjhaa
open Go.RowKit Go.Shelf
set_option linter.unusedVariables false
set_option linter.unusedSimpArgs false
set_option maxRecDepth 100000

def sortD_ren : Go.Shelf.Ren := ⟨fun | 6 => 62 | 15 => 69 | 14 => 71 | 28 => 83 | 29 => 84 | 20 => 86 | 21 => 87 | 22 => 88 | 23 => 89 | 24 => 90 | 25 => 91 | 26 => 92 | 27 => 93 | 46 => 102 | 47 => 97 | 48 => 98 | 49 => 103 | 50 => 104 | 57 => 107 | n => n, fun | 22 => 52 | 24 => 30 | 25 => 88 | 3 => 3 | 39 => 118 | 0 => 0 | 53 => 129 | 55 => 59 | 4 => 4 | 46 => 123 | 45 => 122 | 50 => 80 | 5 => 5 | 9 => 9 | 66 => 139 | 70 => 142 | 76 => 146 | 77 => 147 | n => n, fun | n => n⟩
theorem sortD : Go.Proofs.SlLaysF0.n6 Try.prog sortD_ren where
  mixed := by kernel_rfl
  f6 := ⟨ "slices.SortFunc[[]starling/api.Digest,starling/api.Digest]", by decide, Try.func62.trans (congrArg some (by kernel_rfl))⟩
  f14 := ⟨ "slices.pdqsortCmpFunc[starling/api.Digest]", by decide, Try.func71.trans (congrArg some (by kernel_rfl))⟩
  f15 := Try.func69.trans (congrArg some (by kernel_rfl))
  f20 := ⟨ "slices.insertionSortCmpFunc[starling/api.Digest]", by decide, Try.func86.trans (congrArg some (by kernel_rfl))⟩
  f21 := ⟨ "slices.heapSortCmpFunc[starling/api.Digest]", by decide, Try.func87.trans (congrArg some (by kernel_rfl))⟩
  f22 := ⟨ "slices.breakPatternsCmpFunc[starling/api.Digest]", by decide, Try.func88.trans (congrArg some (by kernel_rfl))⟩
  f23 := ⟨ "slices.choosePivotCmpFunc[starling/api.Digest]", by decide, Try.func89.trans (congrArg some (by kernel_rfl))⟩
  f24 := ⟨ "slices.reverseRangeCmpFunc[starling/api.Digest]", by decide, Try.func90.trans (congrArg some (by kernel_rfl))⟩
  f25 := ⟨ "slices.partialInsertionSortCmpFunc[starling/api.Digest]", by decide, Try.func91.trans (congrArg some (by kernel_rfl))⟩
  f26 := ⟨ "slices.partitionEqualCmpFunc[starling/api.Digest]", by decide, Try.func92.trans (congrArg some (by kernel_rfl))⟩
  f27 := ⟨ "slices.partitionCmpFunc[starling/api.Digest]", by decide, Try.func93.trans (congrArg some (by kernel_rfl))⟩
  f28 := Try.func83.trans (congrArg some (by kernel_rfl))
  f29 := Try.func84.trans (congrArg some (by kernel_rfl))
  f46 := ⟨ "slices.siftDownCmpFunc[starling/api.Digest]", by decide, Try.func102.trans (congrArg some (by kernel_rfl))⟩
  f47 := Try.func97.trans (congrArg some (by kernel_rfl))
  f48 := Try.func98.trans (congrArg some (by kernel_rfl))
  f49 := ⟨ "slices.medianAdjacentCmpFunc[starling/api.Digest]", by decide, Try.func103.trans (congrArg some (by kernel_rfl))⟩
  f50 := ⟨ "slices.medianCmpFunc[starling/api.Digest]", by decide, Try.func104.trans (congrArg some (by kernel_rfl))⟩
  f57 := ⟨ "slices.order2CmpFunc[starling/api.Digest]", by decide, Try.func107.trans (congrArg some (by kernel_rfl))⟩
  t0 := Try.underlying0
  a0 := Try.isAgg0
  z0 := Try.sizeOf0
  v0 := Try.zeroValue0
  t3 := Try.underlying3
  a3 := Try.isAgg3
  z3 := Try.sizeOf3
  v3 := Try.zeroValue3
  t4 := Try.underlying4
  a4 := Try.isAgg4
  z4 := Try.sizeOf4
  v4 := Try.zeroValue4
  t5 := Try.underlying5
  a5 := Try.isAgg5
  z5 := Try.sizeOf5
  v5 := Try.zeroValue5
  t9 := Try.underlying9
  a9 := Try.isAgg9
  z9 := Try.sizeOf9
  v9 := Try.zeroValue9
  t22 := Try.underlying52
  a22 := Try.isAgg52
  z22 := Try.sizeOf52
  v22 := Try.zeroValue52
  t25 := Try.underlying88
  a25 := Try.isAgg88
  z25 := Try.sizeOf88
  v25 := Try.zeroValue88
  t39 := Try.underlying118
  a39 := Try.isAgg118
  z39 := Try.sizeOf118
  v39 := Try.zeroValue118
  t45 := Try.underlying122
  a45 := Try.isAgg122
  z45 := Try.sizeOf122
  v45 := Try.zeroValue122
  t46 := Try.underlying123
  a46 := Try.isAgg123
  z46 := Try.sizeOf123
  v46 := Try.zeroValue123
  t50 := Try.underlying80
  a50 := Try.isAgg80
  z50 := Try.sizeOf80
  v50 := Try.zeroValue80
  t53 := Try.underlying129
  a53 := Try.isAgg129
  z53 := Try.sizeOf129
  v53 := Try.zeroValue129
  t55 := Try.underlying59
  a55 := Try.isAgg59
  z55 := Try.sizeOf59
  v55 := Try.zeroValue59
  t66 := Try.underlying139
  a66 := Try.isAgg139
  z66 := Try.sizeOf139
  v66 := Try.zeroValue139
  t70 := Try.underlying142
  a70 := Try.isAgg142
  z70 := Try.sizeOf142
  v70 := Try.zeroValue142
  t76 := Try.underlying146
  a76 := Try.isAgg146
  z76 := Try.sizeOf146
  v76 := Try.zeroValue146
  t77 := Try.underlying147
  a77 := Try.isAgg147
  z77 := Try.sizeOf147
  v77 := Try.zeroValue147

/-! ### Hashes -/
theorem ltOf_dig (x y : RecT.Ok RDig) : ltOf (fun x y : RecT.Ok RDig => cmpL x.1 y.1) x y = decide (natL x.1 < natL y.1) := by
  have hx : x.1.length = 32 := x.2
  have hy : y.1.length = 32 := y.2
  unfold ltOf
  have hc := cmpL_sign x.1 y.1 (by omega)
  refine decide_eq_decide.2 ?_
  show cmpL x.1 y.1 < 0 ↔ _
  rw [hc]
  by_cases h1 : natL x.1 < natL y.1
  · simp [h1]
  · by_cases h2 : natL y.1 < natL x.1 <;> simp [h1, h2]
theorem swo_dig : Sort.SWO (ltOf fun x y : RecT.Ok RDig => cmpL x.1 y.1) where
  irrefl x := by rw [ltOf_dig]; simp
  trans x y z h1 h2 := by rw [ltOf_dig] at *; simp at *; omega
  ntrans x y z h1 h2 := by rw [ltOf_dig] at *; simp at *; omega
theorem digCmp_lays (blk off size : Nat) (w : World) : CmpLays Try.prog 38 #[] RDig.encOk 32 (fun x y : RecT.Ok RDig => cmpL x.1 y.1) blk off size w :=
  fun _ _ _ _ x y => CompareG_any x.1 y.1 _ x.2 y.2

theorem SortD_any (v : Value) (l : List (List UInt8)) (w : World) (base : Nat) (ho : RDig.Own w base v l) (hl : l.length ≤ 1000000) :
    Calls Try.prog 62 #[v, .func (.func 38) #[] #[]] w fun e w' =>
      e = .returned (.tuple #[]) ∧ ∃ l', l'.Perm l ∧ l'.Pairwise (fun a b => natL a ≤ natL b) ∧ RDig.Own w' base v l' ∧ w.grownBy w' v.ownBlock := by
  rcases ho.2.2 with ⟨rfl, h0⟩ | ⟨g, cap, cur, rfl, hb, hh, hn, hc, hs, hx⟩
  · have hl0 : l = [] := List.length_eq_zero_iff.1 h0
    subst hl0
    exact (AnyF.slices_SortFunc_none sortD none 0 (.func (.func 38) #[] #[]) w).mono fun e w' ⟨h1, h2⟩ => ⟨h1, [], List.Perm.refl _, List.Pairwise.nil, by rw [h2]; exact ho, by rw [h2]; exact World.grownBy.refl _ _⟩
  · have eg : ∀ args w, (callFunc 38 args).run Try.prog w = .ok (.enter 38 args) w := enters_of Try.func38 (by kernel_rfl) rfl
    have hok : ∀ x ∈ l, RDig.ok x := ho.1
    have hu := RDig.up_len hok
    have hcon := AnyQ.slices_SortFunc sortD 32 Try.isAgg30 Try.sizeOf30 RDig.encOk (fun x => RDig.enc_len x) (fun x v hv => RDig.one x.2 v hv) (fun x y => cmpL x.1 y.1) swo_dig 38 #[] g 0 cap (RDig.up l hok).toArray w eg (digCmp_lays g 0 _ w) (ho.holds hok) ((Array.getElem?_eq_some_iff.1 hh).1) (by simp only [List.size_toArray, hu]; omega)
    change Calls Try.prog 62 _ _ _ at hcon
    simp only [List.size_toArray, hu] at hcon
    refine hcon.mono ?_
    rintro e w' ⟨h1, d', n, os, hp, hst, rfl⟩
    obtain ⟨d, rfl⟩ : ∃ d : List (RecT.Ok RDig), d' = d.toArray := ⟨d'.toList, by simp⟩
    have hd : d.length = l.length := by have := hp.1; simpa [hu] using this
    have hp2 := permIn_list (d := (RDig.up l hok).toArray) (by simpa [hu] using hp)
    have hp3 := hp2.map Subtype.val
    simp only [RDig.up_val hok] at hp3
    have hs2 := sortedIn_list (d := d) (by rw [hd]; exact hst)
    obtain ⟨k1, k2⟩ := ho.sorted d hd n os
    refine ⟨h1, d.map Subtype.val, hp3, ?_, k1, k2⟩
    rw [List.pairwise_map]
    exact hs2.imp fun {a b} h => by rw [ltOf_dig] at h; simpa using h

end Go.Proofs.Ytnohglkilpnjhaa

/- The walks of a blob's first peer and last moment. No condition. -/
namespace Go.Proofs.Ytnohglkilpnjhaa
open Go.RowKit Go.Shelf
attribute [local go_sem] Oper.semAt_some
set_option linter.unusedVariables false
set_option linter.unusedSimpArgs false
set_option maxRecDepth 100000

/-- All of a map's peers as a slice. -/
theorem collectPeers (m : Value) (ps : List PeerL) (w W : World) (hm : MapV KInt w m (ps.map inE)) (hl : ps.length ≤ 1000000) (hW : W = w.alloc (.cells #[m] 68)) :
    Calls Try.prog 41 #[.func (.func 50) #[] #[.pointer (some ⟨w.heap.size, 0, none⟩)]] W fun e w' => ∃ v qs, e = .returned v ∧ qs.Perm ps ∧ RPeer.Own w' W.heap.size v qs ∧ Below w.heap.size w w' := by
  have hs : W.heap.size = w.heap.size + 1 := by rw [hW]; simp
  have hb : Below w.heap.size w W := by rw [hW]; exact (Below.refl _ w).alloc (Nat.le_refl _) _
  have ho : One W w.heap.size m 68 := by rw [hW]; exact heap_alloc_new w _
  have hL : ∀ x ∈ ps.map inE, ∃ q, x = inE q := fun x hx => by obtain ⟨q, _, rfl⟩ := List.mem_map.1 hx; exact ⟨q, rfl⟩
  refine (CollectP_any _ _ (ps.map inE) w.heap.size (fun j => j = w.heap.size) W hL (by simpa using by omega) (by omega) (fun k hk => by subst hk; omega)
    (enters_of Try.func50 (by kernel_rfl) rfl)
    (fun W1 hb1 hs1 => values_seq 4 (by omega) w.heap.size w.heap.size m (ps.map inE) W1 w rfl (hb.trans (hb1.mono (by omega))) (Nat.le_refl _) (ho.of_new hb1) hm hL)).mono ?_
  rintro e w' ⟨v, qs, rfl, hp, hown, hbw⟩
  refine ⟨v, qs, rfl, ?_, hown, hb.trans hbw⟩
  have := hp.map decE
  rwa [dec_map, dec_map] at this

set_option maxHeartbeats 1600000 in
theorem PFirst_any (m : Value) (ps : List PeerL) (w : World) (hm : MapV KInt w m (ps.map inE)) (hr : Rising PeerL.id ps) (h0 : ps ≠ []) (hl : ps.length ≤ 1000000) :
    Calls Try.prog 24 #[m] w fun e w' => e = .returned (.int .i64 (firstP ps).id) ∧ Below w.heap.size w w' := by
  obtain ⟨W, hW⟩ : ∃ W, w.alloc (.cells #[m] 68) = W := ⟨_, rfl⟩
  have hC := collectPeers m ps w W hm hl hW.symm
  have hV := Values_any m w (hm.imp (fun ⟨b, e, _⟩ => ⟨b, e⟩) And.left)
  rw [hW] at hV
  have hS : W.heap.size = w.heap.size + 1 := by rw [← hW]; simp
  have HC := Lib.hid hC
  have HV := Lib.hid hV
  have HR := Lib.hid hr
  have H0 := Lib.hid h0
  have HS := Lib.hid hS
  clear hC hV hr h0 hm hW hS
  go_enter Try.func24, Try.ntmps24
  go_upto_region 2 with (first
    | (go_at_call 27; refine HV.out.mono ?_; rintro e w1 ⟨rfl, rfl⟩)
    | (go_at_call 41; refine HC.out.mono ?_; rintro e w2 ⟨v2, qs, rfl, hp2, ho2, hb2⟩; have HP2 := Lib.hid hp2; have HO2 := Lib.hid ho2; have HB2 := Lib.hid hb2; clear hp2 ho2 hb2))
  cases qs with
  | nil => exact absurd (HP2.out.length_eq) (by simp; exact fun e => H0.out (List.length_eq_zero_iff.1 e.symm))
  | cons x l =>
    have hfp := firstP_perm HR.out HP2.out
    have hM := MinP_any v2 x l w2 HO2.out.row
    rw [← hfp] at hM
    obtain ⟨a2, c2, hv⟩ := HO2.out.row.len
    subst hv
    have HM := Lib.hid hM
    have hfi := field_id (firstP ps)
    clear hM hfp
    go_wp2_with (go_at_call 42; refine HM.out.mono ?_; rintro e w3 ⟨rfl, hb3⟩; rw [show RPeer.V (firstP ps) = .agg #[.int .i64 (firstP ps).id, .int .i64 (firstP ps).till, .bool (firstP ps).seed] from rfl]; have HB3 := Lib.hid (below_next HB2.out hb3); clear hb3)
    go_ret
    exact ⟨rfl, HB3.out⟩

/-- What holds ahead of each round of last. -/
def LastI (w : World) (m : Value) (r : Nat) (L : List (Int × Value)) (k : Nat) (nv : Value) (wr : World) : Prop :=
  ∃ pre todo : List (Int × Value), IterV KInt wr m r L todo ∧ (pre ++ todo).Perm L ∧ nv = .int .i64 (lastP (pre.map decE)) ∧ Below w.heap.size w wr ∧ w.heap.size + 1 ≤ wr.heap.size ∧ todo.length ≤ k

set_option maxHeartbeats 1600000 in
theorem PLast_any (m : Value) (ps : List PeerL) (w : World) (hm : MapV KInt w m (ps.map inE)) :
    Calls Try.prog 48 #[m] w fun e w' => e = .returned (.int .i64 (lastP ps)) ∧ Below w.heap.size w w' := by
  have hm2 : (∃ b, m = .map (some b)) ∨ m = .map none := hm.imp (fun ⟨b, e, _⟩ => ⟨b, e⟩) And.left
  obtain ⟨L, hL⟩ : ∃ L, ps.map inE = L := ⟨_, rfl⟩
  have hX : ∀ x ∈ L, ∃ q, x = inE q := fun x hx => by rw [← hL] at hx; obtain ⟨q, _, rfl⟩ := List.mem_map.1 hx; exact ⟨q, rfl⟩
  rw [hL] at hm
  obtain ⟨w1, hr1, hit1, hb1, hs1⟩ := hm.range (t := 68) Try.underlying68
  have HIT := Lib.hid hit1
  have HB1 := Lib.hid hb1
  have HS1 := Lib.hid hs1
  have HL := Lib.hid hL
  have HX := Lib.hid hX
  clear hm hit1 hb1 hs1 hL hX
  go_enter Try.func48, Try.ntmps48
  go_wp2
  go_loopg [3, 5, 8, 9, 10, 11, 12, 13, 14, 15] L.length (fun k nv _ _ _ _ _ _ _ _ _ wr => LastI w m w.heap.size L k nv wr)
  case atStart => exact ⟨[], L, HIT.out, List.Perm.refl _, rfl, HB1.out, by rw [HS1.out]; exact Nat.le_refl _, Nat.le_refl _⟩
  case round =>
    obtain ⟨pre, todo, hit, hp, rfl, hb, hsz, hlen⟩ := hrel
    have HB := Lib.hid hb
    have HP := Lib.hid hp
    rcases hit.next2 0 with ⟨rfl, hnx⟩ | ⟨p, w2, todo2, hpt, hpl, hnx, hit2, hg2, hs2, hen, htl, hst⟩
    · clear hb hp hit
      go_wp2
      go_ret
      exact ⟨by rw [← lastP_perm (a := pre.map decE) (b := ps) (by have := HP.out.map decE; rwa [List.append_nil, ← HL.out, dec_map] at this)]; rfl, HB.out⟩
    · obtain ⟨q, rfl⟩ := HX.out p hpl
      replace hnx : (Instr.next (.pointer (some ⟨w.heap.size, 0, none⟩)) false 0).run Try.prog wr = .ok (.tuple #[.bool true, .int .i64 q.id, RPeer.V q]) w2 := hnx
      replace hen : (Instr.entry (.pointer (some ⟨w.heap.size, 0, none⟩))).run Try.prog w2 = .ok (.tuple #[.int .i64 q.id, RPeer.V q]) w2 := hen
      have HPT := Lib.hid htl
      have HST := Lib.hid (hst pre hp)
      have HIT2 := Lib.hid hit2
      have HLE := Lib.hid hlen
      have HB2 := Lib.hid (hb.grown hg2 hb.size (fun k e => by cases e; exact Nat.le_refl _))
      have HS2 := Lib.hid hs2
      clear hb hp hit hpt hpl hit2 hg2 hlen HP hs2 htl hst
      go_wp2_with (first
        | ((with_reducible refine wpList_plain (o := ⟨some 5, Op.alloc _, _, _, _, _⟩) rfl fun K hK => ?_); (refine RPeer.wp_alloc rfl fun w3 ho3 hb3 hs3 => hK _ _ ?_); have HO3 := Lib.hid ho3; have HB3 := Lib.hid hb3; clear ho3 hb3 hs3)
        | ((with_reducible refine wpList_plain (o := ⟨none, Op.store _ (.tmp 5) (.tmp 11), _, _, _, _⟩) rfl fun K hK => ?_); (refine HO3.out.store (.tmp 5) (.tmp 11) rfl rfl rfl (RPeer_ok q) fun w4 ho4 hg4 hs4 => hK _ _ ?_); have HB4 := Lib.hid (HB3.out.grown hg4 (by have := HB3.out.size; omega) (fun k e => by cases e; exact Nat.le_refl _)); have hc4 := RPeer_till ho4; clear ho4 hg4 hs4))
      all_goals
        go_roundg todo2.length
        case measure => have := HPT.out; have := HLE.out; omega
        case rel =>
          have q1 := HS2.out
          have q2 := HB4.out.size
          refine ⟨pre ++ [inE q], todo2, HIT2.out.kept ((Kept.refl (fun _ => True) w2).below HB4.out) trivial (fun _ _ => trivial), HST.out, ?_, HB2.out.trans (HB4.out.mono (by omega)), by omega, Nat.le_refl _⟩
          rw [List.map_append, List.map_cons, List.map_nil, dec_in, lastP_snoc]
          all_goals (congr 1; all_goals omega)

end Go.Proofs.Ytnohglkilpnjhaa

/- The walk of tracker.Peers, through slices.SortedFunc. Condition: the table as it lies. -/
namespace Go.Proofs.Ytnohglkilpnjhaa
open Go.RowKit
set_option linter.unusedVariables false
set_option linter.unusedSimpArgs false
set_option maxRecDepth 100000

set_option maxHeartbeats 800000 in
theorem SortedP_any (m : Value) (ps : List PeerL) (w W : World) (hm : MapV KInt w m (ps.map inE)) (hr : Rising PeerL.id ps) (hl : ps.length ≤ 1000000) (hW : W = w.alloc (.cells #[m] 68)) :
    Calls Try.prog 26 #[.func (.func 50) #[] #[.pointer (some ⟨w.heap.size, 0, none⟩)], .func (.func 28) #[] #[]] W
      fun e w' => ∃ v, e = .returned v ∧ RPeer.Own w' W.heap.size v ps ∧ Below w.heap.size w w' := by
  have hC := collectPeers m ps w W hm hl hW
  have hS : W.heap.size = w.heap.size + 1 := by rw [hW]; simp
  have HC := Lib.hid hC
  have HR := Lib.hid hr
  have HS := Lib.hid hS
  clear hC hr hm hW hS
  go_enter Try.func26, Try.ntmps26
  go_upto_region 2 with (go_at_call 41; refine HC.out.mono ?_; rintro e w2 ⟨v2, qs, rfl, hp2, ho2, hb2⟩; have HP2 := Lib.hid hp2; have HO2 := Lib.hid ho2; have HB2 := Lib.hid hb2; clear hp2 ho2 hb2)
  obtain ⟨a2, c2, hv⟩ := HO2.out.row.len
  subst hv
  have hlt := HO2.out.lt
  have HS2 := Lib.hid (SortP_any _ qs w2 _ HO2.out (by rw [HP2.out.length_eq]; exact hl))
  have HLT := Lib.hid hlt
  clear hlt
  go_wp2_with (go_at_call 49; refine HS2.out.mono ?_; rintro e w3 ⟨rfl, l', hp3, hs3, ho3, hg3⟩; have hB3 := HB2.out.grown hg3 (by have := HB2.out.size; omega) (fun k e => by have := (HLT.out k e).1; have := HS.out; omega); have he3 := rise_sorted HR.out (hp3.trans HP2.out) hs3; have HO3 := Lib.hid ho3; have HB3 := Lib.hid hB3; have HE3 := Lib.hid he3; clear ho3 hB3 he3 hp3 hs3 hg3)
  go_ret
  exact ⟨_, rfl, by have := HO3.out; rwa [HE3.out] at this, HB3.out⟩

/-- The map of a blob's peers (nil, where the blob is not there). -/
theorem TabP.inner {w : World} {t mb : Nat} {most each : Int} {E : EntL} (h : TabP w t most each mb E) (hd : ∀ x ∈ E, x.1.length = 32) {d : List UInt8} (h32 : d.length = 32) :
    ∃ m, (∀ w', Below w.heap.size w w' → (Instr.lookup 64 (.map (some mb)) (.agg (d.map B8).toArray) false).run Try.prog w' = .ok m w') ∧ MapV KInt w m ((peersT d (tabOf E)).map inE) ∧ ((getK kD (natL d) E = none ∧ m = .map none) ∨ ∃ x, getK kD (natL d) E = some x ∧ m = .map (some x.2.1)) := by
  refine ⟨(getL (E.map outE) d).getD (.map none), fun w' hb => ?_, ?_, ?_⟩
  · exact (h.map.of_new hb).look (t := 64) Try.underlying64 (zero_peers w') (KT := KDig) h32
  · rw [getL_out hd h32]
    unfold peersT
    rw [← tabOf_get]
    cases e : getK kD (natL d) E with
    | none => exact .inr ⟨rfl, rfl⟩
    | some x => exact .inl ⟨x.2.1, rfl, h.ins x (List.mem_of_find?_eq_some e)⟩
  · rw [getL_out hd h32]
    cases e : getK kD (natL d) E with
    | none => exact .inl ⟨rfl, rfl⟩
    | some x => exact .inr ⟨x, rfl, rfl⟩

set_option maxHeartbeats 1600000 in
theorem Peers_any (t mb : Nat) (most each : Int) (E : EntL) (d : List UInt8) (w : World) (hT : TabP w t most each mb E) (hE : EntOk most each E) (he : 1 ≤ each ∧ each ≤ 64) (h32 : d.length = 32) :
    Calls Try.prog 12 #[.pointer (some ⟨t, 0, none⟩), .agg (d.map B8).toArray] w fun e w' => ∃ v, e = .returned v ∧ RPeer.Own w' w.heap.size v (peersT d (tabOf E)) ∧ Below w.heap.size w w' := by
  obtain ⟨W, hW⟩ : ∃ W, w.alloc (.cells (d.map B8).toArray 30) = W := ⟨_, rfl⟩
  have ho : DigO W w.heap.size d := by rw [← hW]; exact digO_new w h32
  have hb : Below w.heap.size w W := by rw [← hW]; exact (Below.refl _ w).alloc (Nat.le_refl _) _
  have hTW := hT.of_new hb
  obtain ⟨m, hlk, hmv, hsh⟩ := hTW.inner (fun x hx => hE.dig _ (tabOf_mem hx)) h32
  obtain ⟨hps, hpl⟩ := peersT_ok hE he.1 d
  obtain ⟨ps, hps2⟩ : ∃ ps, peersT d (tabOf E) = ps := ⟨_, rfl⟩
  rw [hps2] at hmv hps hpl ⊢
  have hc2 := fun w' (h : Grew W w') => Grew.cell h hTW.cell2
  have hdg : DigAt W w.heap.size 0 d := ho.at_
  have HW := Lib.hid hW
  have HB := Lib.hid hb
  have HMV := Lib.hid hmv
  have HPS := Lib.hid hps
  have hlk2 : ∀ w', Grew W w' → (Instr.lookup 64 (.map (some mb)) (.agg (d.map B8).toArray) false).run Try.prog w' = .ok m w' := hlk
  have hm2 : (∃ b, m = .map (some b)) ∨ m = .map none := hsh.elim (fun h => .inr h.2) (fun ⟨x, h⟩ => .inl ⟨_, h.2⟩)
  have HM2 := Lib.hid hm2
  clear hT hE hW hb hTW hlk hmv hsh hps hps2 ho hm2
  go_enter Try.func12, Try.ntmps12
  go_upto_region 1 with (fail)
  rw [HW.out]
  refine wp_region_grew_tail 6 (by kernel_rfl) (by kernel_rfl) ?_
  simp only [List.take_succ_cons, List.take_zero, List.drop_succ_cons, List.drop_zero]
  repeat (first
    | (go_big_quiet_want; (with_reducible apply quiet_load_at (ty := 30) (x := .tmp _)); rfl; rfl; assumption; go_simp; go_big_quiet_on)
    | (go_big_quiet_want; apply quiet_val; (intro w' hw'; go_simp; first | done | rfl); go_simp; go_big_quiet_on)
    | (go_big_quiet_skip))
  refine wpQuiet_nil ?_
  intro w5 hw5
  have HB5 := Lib.hid (below_next HB.out hw5)
  obtain ⟨W6, hW6⟩ : ∃ W6, w5.alloc (.cells #[m] 68) = W6 := ⟨_, rfl⟩
  have hV := Values_any m w5 HM2.out
  rw [hW6] at hV
  have hS := SortedP_any m ps w5 W6 (HMV.out.of_new hw5) HPS.out.rise (by omega) hW6.symm
  have HV := Lib.hid hV
  have HS := Lib.hid hS
  have HS6 := Lib.hid (show w.heap.size ≤ W6.heap.size by have := HB5.out.size; rw [← hW6]; simp; omega)
  clear hV hS hW6 hw5 hlk2 hc2 hdg
  go_wp2_with (first
    | (go_at_call 27; refine HV.out.mono ?_; rintro e w6 ⟨rfl, rfl⟩)
    | (go_at_call 26; refine HS.out.mono ?_; rintro e w7 ⟨v7, rfl, ho7, hb7⟩; have HO7 := Lib.hid ho7; have HB7 := Lib.hid (below_next HB5.out hb7); clear ho7 hb7))
  go_ret
  exact ⟨_, rfl, HO7.out.mono HS6.out, HB7.out⟩

end Go.Proofs.Ytnohglkilpnjhaa

/- The walk of what compares two blobs: by their last moments. Condition: the table as it lies. -/
namespace Go.Proofs.Ytnohglkilpnjhaa
open Go.RowKit
set_option linter.unusedVariables false
set_option linter.unusedSimpArgs false
set_option maxRecDepth 100000

def tabC (T : TabL) (a b : List UInt8) : Int := orL [cmpI (lastP (peersT a T)) (lastP (peersT b T)), cmpL b a]
theorem tabC_goes (T : TabL) {a b : List UInt8} (ha : a.length = 32) (hb : b.length = 32) : decide (tabC T a b < 0) = goesD T a b := by
  unfold tabC
  rw [orL_two, cmpL_sign b a (by omega)]
  show _ = goesV (lastP (peersT a T)) (lastP (peersT b T)) (natL a) (natL b)
  generalize lastP (peersT a T) = x
  generalize lastP (peersT b T) = y
  generalize natL a = m
  generalize natL b = n
  unfold cmpI goesV
  by_cases h1 : x < y
  · simp [h1]
  · by_cases h2 : y < x
    · have h3 : ¬ x = y := by omega
      simp [h1, h2, h3]
    · have h3 : x = y := by omega
      by_cases h4 : n < m
      · simp [h3, h4]
      · by_cases h5 : m < n <;> simp [h3, h4, h5]

/-- What the closure needs of memory: the box in which the table's pointer lies, and the table. -/
structure TabB (w : World) (bt t mb : Nat) (most each : Int) (E : EntL) : Prop where
  box : One w bt (.pointer (some ⟨t, 0, none⟩)) 24
  tab : TabP w t most each mb E
theorem TabB.of_new {w w' : World} {bt t mb : Nat} {most each : Int} {E : EntL} (h : TabB w bt t mb most each E) (hb : Below w.heap.size w w') : TabB w' bt t mb most each E := ⟨h.box.of_new hb, h.tab.of_new hb⟩

set_option maxHeartbeats 3200000 in
theorem TabCmp_any (bt t mb : Nat) (most each : Int) (E : EntL) (a b : List UInt8) (w : World) (hT : TabB w bt t mb most each E) (hd : ∀ x ∈ E, x.1.length = 32) (ha : a.length = 32) (hb : b.length = 32) :
    Calls Try.prog 47 #[RDig.V a, RDig.V b, .pointer (some ⟨bt, 0, none⟩)] w fun e w' => e = .returned (.int .i64 (tabC (tabOf E) a b)) ∧ Below w.heap.size w w' := by
  unfold tabC
  rw [show RDig.V a = .agg (a.map B8).toArray from rfl, show RDig.V b = .agg (b.map B8).toArray from rfl]
  obtain ⟨W, hW⟩ : ∃ W, (w.alloc (.cells (a.map B8).toArray 30)).alloc (.cells (b.map B8).toArray 30) = W := ⟨_, rfl⟩
  obtain ⟨h0, h1, hbW⟩ : DigAt W w.heap.size 0 a ∧ DigAt W (w.heap.size + 1) 0 b ∧ Below w.heap.size w W := by
    subst hW
    obtain ⟨q1, q2, q3, _⟩ := octs_pair w 30 a b _ _ rfl rfl
    exact ⟨q1.digAt ha, q2.digAt hb, q3⟩
  have hTW := hT.of_new hbW
  obtain ⟨m1, hl1, hm1, hs1⟩ := hTW.tab.inner hd ha
  obtain ⟨m2, hl2, hm2, hs2⟩ := hTW.tab.inner hd hb
  obtain ⟨p1, hp1⟩ : ∃ p1, peersT a (tabOf E) = p1 := ⟨_, rfl⟩
  obtain ⟨p2, hp2⟩ : ∃ p2, peersT b (tabOf E) = p2 := ⟨_, rfl⟩
  rw [hp1] at hm1 ⊢
  rw [hp2] at hm2 ⊢
  have hcb := fun w' (h : Grew W w') => Grew.cell h hTW.box.cell
  have hc2 := fun w' (h : Grew W w') => Grew.cell h hTW.tab.cell2
  have hk1 : ∀ w', Grew W w' → (Instr.lookup 64 (.map (some mb)) (.agg (a.map B8).toArray) false).run Try.prog w' = .ok m1 w' := hl1
  have hk2 : ∀ w', Grew W w' → (Instr.lookup 64 (.map (some mb)) (.agg (b.map B8).toArray) false).run Try.prog w' = .ok m2 w' := hl2
  have HW := Lib.hid hW
  have HB := Lib.hid hbW
  have HM1 := Lib.hid hm1
  have HM2 := Lib.hid hm2
  have HAa := Lib.hid ha
  have HBb := Lib.hid hb
  clear hT hTW hl1 hl2 hm1 hm2 hs1 hs2 hp1 hp2 hW hbW ha hb hd
  go_enter Try.func47, Try.ntmps47
  go_upto_region 1 with (fail)
  rw [HW.out]
  refine wp_region_grew_tail 18 (by kernel_rfl) (by kernel_rfl) ?_
  simp only [List.take_succ_cons, List.take_zero, List.drop_succ_cons, List.drop_zero]
  repeat (first
    | (go_big_quiet_want; (with_reducible apply quiet_load_at (ty := 30) (x := .tmp _)); rfl; rfl; assumption; go_simp; go_big_quiet_on)
    | (go_big_quiet_want; apply quiet_val; (intro w' hw'; go_simp; first | done | rfl); go_simp; go_big_quiet_on)
    | (go_big_quiet_want; apply quiet_call (f := 48); (intro w' hw'; go_simp; first | done | rfl); (intro w' hw'; exact Grew.call hw' (PLast_any _ _ w' (by first | exact HM1.out.of_new hw' | exact HM2.out.of_new hw'))); go_simp; go_big_quiet_on)
    | (go_big_quiet_want; apply quiet_call (f := 29); (intro w' hw'; go_simp; first | done | rfl); (intro w' hw'; exact Grew.call hw' (below_eq (CmpI_any _ _ w'))); go_simp; go_big_quiet_on)
    | (go_big_quiet_want; apply quiet_call (f := 38); (intro w' hw'; go_simp; first | done | rfl); (intro w' hw'; exact Grew.call hw' (Compare_any b a w' HBb.out HAa.out)); go_simp; go_big_quiet_on)
    | (go_big_quiet_skip))
  refine wpQuiet_nil ?_
  intro w9 hw9
  have HB9 := Lib.hid (below_next HB.out hw9)
  clear hcb hc2 hk1 hk2 h0 h1 hw9
  go_wp2_with (first | (go_at_call 44; refine (Or_any _ [cmpI (lastP p1) (lastP p2), cmpL b a] _ (two_ints w9 _ _ _)).mono ?_; rintro e w' ⟨rfl, rfl⟩))
  go_ret
  exact ⟨rfl, HB9.out.alloc (by have := HB9.out.size; omega) _⟩

end Go.Proofs.Ytnohglkilpnjhaa

/- The walks of slices.MinFunc at hashes, by the blobs' last moments. Condition: the table as it lies. -/
namespace Go.Proofs.Ytnohglkilpnjhaa
open Go.RowKit
set_option linter.unusedVariables false
set_option linter.unusedSimpArgs false
set_option maxRecDepth 100000

set_option maxHeartbeats 3200000 in
theorem MinD_any (bt t mb : Nat) (most each : Int) (E : EntL) (v : Value) (x : List UInt8) (l : List (List UInt8)) (w : World) (hT : TabB w bt t mb most each E) (hd : ∀ x ∈ E, x.1.length = 32) (hl : RDig.Row w v (x :: l)) :
    Calls Try.prog 46 #[v, .func (.func 47) #[] #[.pointer (some ⟨bt, 0, none⟩)]] w fun e w' => e = .returned (RDig.V (pickL (goesD (tabOf E)) l x)) ∧ Below w.heap.size w w' := by
  obtain ⟨pb, poff, pc, rfl, hpl, hat⟩ := hl.at_ (by simp)
  have hle := hl.le
  have hx32 : RDig.ok x := hl.1 x (by simp)
  have HX := Lib.hid hx32
  have HTB := Lib.hid hT
  have HD := Lib.hid hd
  clear hx32 hT hd
  simp only [List.length_cons] at hle ⊢
  have h0 := hat 0 x rfl
  rw [Nat.zero_mul, Nat.add_zero] at h0
  have H0 := Lib.hid h0
  have HAT := Lib.hid (fun k y (h : l[k]? = some y) => hat (k + 1) y (by simpa using h))
  have hn : ¬ ((l.length + 1 : Nat) : Int) < 1 := by omega
  have hn1 : (0 : Int) < ((l.length + 1 : Nat) : Int) := by omega
  obtain ⟨N, hN⟩ : ∃ N, l.length + 1 = N := ⟨_, rfl⟩
  rw [hN] at hle hn hn1 ⊢
  have HN := Lib.hid hN
  clear hl hat h0 hN
  go_enter Try.func46, Try.ntmps46
  go_upto_region 5 with (first
    | ((with_reducible refine wpList_plain (o := ⟨some 4, Op.alloc _, _, _, _, _⟩) rfl fun K hK => ?_); (refine RDig.wp_alloc rfl fun w1 ho1 hb1 hs1 => hK _ _ ?_); have HO1 := Lib.hid ho1; have HB1 := Lib.hid hb1; have HS1 := Lib.hid hs1; have HA1 := Lib.hid (H0.out.of_new hb1); clear ho1 hb1 hs1)
    | ((with_reducible refine wpList_plain (o := ⟨some 13, Op.load _ _, _, _, _, _⟩) rfl fun K hK => ?_); (refine HA1.out.wp rfl rfl (hK _ _ ?_)))
    | ((with_reducible refine wpList_plain (o := ⟨some 5, Op.alloc _, _, _, _, _⟩) rfl fun K hK => ?_); (refine RDig.wp_alloc rfl fun w2 ho2 hb2 hs2 => hK _ _ ?_); have HO2 := Lib.hid ho2; have HB2 := Lib.hid hb2; clear ho2 hb2 hs2)
    | ((with_reducible refine wpList_plain (o := ⟨none, Op.store _ (.tmp 5) (.tmp 13), _, _, _, _⟩) rfl fun K hK => ?_); (refine HO2.out.store (.tmp 5) (.tmp 13) rfl rfl rfl HX.out fun w3 ho3 hg3 hs3 => hK _ _ ?_); have hb3 := HB2.out.grown hg3 (by have := HB2.out.size; omega) (fun k e => by cases e; exact Nat.le_refl _); have HO3 := Lib.hid ho3; have HB3 := Lib.hid hb3; have HR3 := Lib.hid (HO1.out.of_new hb3); clear ho3 hg3 hs3 hb3))
  have hb3 := below_next HB1.out HB3.out
  have hr3 := HR3.out
  have ho3 := HO3.out
  clear hn
  go_loopw [6] (fun iv W => ∃ k m, k ≤ l.length ∧ iv = .int .i64 ((k + 1 : Nat) : Int) ∧ pickL (goesD (tabOf E)) l x = pickL (goesD (tabOf E)) (l.drop k) m ∧ RDig.O W w1.heap.size m ∧ RDig.O W w.heap.size dig0 ∧ Below w.heap.size w W) (fun iv _ => N - (intOf iv).toNat)
  case atStart => exact ⟨0, x, Nat.zero_le _, rfl, rfl, ho3, hr3, hb3⟩
  case round =>
    clear ho3 hr3 hb3
    obtain ⟨k, m, hk, rfl, hp, ho, hz, hb⟩ := hrel
    have HO := Lib.hid ho
    have HZ := Lib.hid hz
    have HB := Lib.hid hb
    have HK := Lib.hid hk
    by_cases hlt : k < l.length
    · obtain ⟨y, hy⟩ : ∃ y, l[k]? = some y := ⟨_, List.getElem?_eq_getElem hlt⟩
      have hdr : l.drop k = y :: l.drop (k + 1) := by rw [List.drop_eq_getElem_cons hlt]; rw [List.getElem?_eq_getElem hlt] at hy; cases hy; rfl
      have hp2 : pickL (goesD (tabOf E)) l x = pickL (goesD (tabOf E)) (l.drop (k + 1)) (if goesD (tabOf E) y m then y else m) := by rw [hp, hdr]; rfl
      have hA := (HAT.out k y hy).of_new hb
      have hy32 : RDig.ok y := hA.1
      have hm32 : RDig.ok m := ho.2
      have HY := Lib.hid hy32
      rw [← tabC_goes (tabOf E) hy32 hm32] at hp2
      have hC := fun w' (h : Grew wr w') => TabCmp_any bt t mb most each E y m w' (HTB.out.of_new (below_next hb h)) HD.out hy32 hm32
      clear hy32 hm32
      generalize tabC (tabOf E) y m = c at *
      obtain ⟨jj, hjj⟩ : ∃ jj, k + 1 = jj := ⟨_, rfl⟩
      rw [hjj] at hp2 hA ⊢
      have hKN : (jj : Int) < (N : Int) := by have := HN.out; omega
      have hKl : jj ≤ l.length := by omega
      have HK2 := Lib.hid hjj
      have HP := Lib.hid hp2
      have HA := Lib.hid hA
      have HC := Lib.hid hC
      clear hp hdr hy hA hC hp2 ho hz hb hjj hk
      by_cases hc : c < 0
      · have hd : decide (c < 0) = true := decide_eq_true hc
        go_upto_region 7 with (fail)
        refine wp_region_grew (by kernel_rfl) (by kernel_rfl) ?_
        repeat (first
          | (go_big_quiet_want; (refine RecT.At.quiet (R := RDig) (p := .tmp 5) (fun w' hw' => (HO.out.of_new hw').at_) rfl rfl ?_); go_simp; go_big_quiet_on)
          | (go_big_quiet_want; (refine RecT.At.quiet (R := RDig) (p := .tmp 23) (fun w' hw' => HA.out.of_new hw') rfl rfl ?_); go_simp; go_big_quiet_on)
          | (go_big_quiet_want; (with_reducible apply quiet_load_at (ty := 30) (x := .tmp _)); rfl; rfl; assumption; go_simp; go_big_quiet_on)
          | (go_big_quiet_want; apply quiet_val; (intro w' hw'; go_simp; first | done | rfl); go_simp; go_big_quiet_on)
          | (go_big_quiet_want; apply quiet_call (f := 47); (intro w' hw'; go_simp; first | done | rfl); (intro w' hw'; exact Grew.call hw' (HC.out w' hw')); go_simp; go_big_quiet_on)
          | (go_big_quiet_skip))
        refine wpQuiet_nil ?_
        intro w5 hw5
        have HO5 := Lib.hid (HO.out.of_new hw5)
        have HZ5 := Lib.hid (HZ.out.of_new hw5)
        have HB5 := Lib.hid (below_next HB.out hw5)
        have HA5 := Lib.hid (HA.out.of_new hw5)
        clear hw5
        go_wp2_with (first
          | ((with_reducible refine wpList_plain (o := ⟨some 31, Op.load _ _, _, _, _, _⟩) rfl fun K hK => ?_); (refine HA5.out.wp rfl rfl (hK _ _ ?_)))
          | ((with_reducible refine wpList_plain (o := ⟨none, Op.store _ (.tmp 5) (.tmp 31), _, _, _, _⟩) rfl fun K hK => ?_); (refine HO5.out.store (.tmp 5) (.tmp 31) rfl rfl rfl HY.out fun w6 ho6 hg6 hs6 => hK _ _ ?_); have HO6 := Lib.hid ho6; have HG6 := Lib.hid hg6; clear ho6 hg6 hs6))
        have hs1 := HS1.out
        go_roundw
        case rel => exact ⟨jj, y, hKl, by go_num, by rw [HP.out, hd]; rfl, HO6.out, HZ5.out.of_block (HG6.out.block _ HZ5.out.lt (fun e => by have := Option.some.inj e; omega)), HB5.out.grown HG6.out (by have := HB5.out.size; omega) (fun r e => by cases e; omega)⟩
        case measure => simp [intOf]; omega
      · have hd : decide (c < 0) = false := decide_eq_false hc
        go_upto_region 7 with (fail)
        refine wp_region_grew (by kernel_rfl) (by kernel_rfl) ?_
        repeat (first
          | (go_big_quiet_want; (refine RecT.At.quiet (R := RDig) (p := .tmp 5) (fun w' hw' => (HO.out.of_new hw').at_) rfl rfl ?_); go_simp; go_big_quiet_on)
          | (go_big_quiet_want; (refine RecT.At.quiet (R := RDig) (p := .tmp 23) (fun w' hw' => HA.out.of_new hw') rfl rfl ?_); go_simp; go_big_quiet_on)
          | (go_big_quiet_want; (with_reducible apply quiet_load_at (ty := 30) (x := .tmp _)); rfl; rfl; assumption; go_simp; go_big_quiet_on)
          | (go_big_quiet_want; apply quiet_val; (intro w' hw'; go_simp; first | done | rfl); go_simp; go_big_quiet_on)
          | (go_big_quiet_want; apply quiet_call (f := 47); (intro w' hw'; go_simp; first | done | rfl); (intro w' hw'; exact Grew.call hw' (HC.out w' hw')); go_simp; go_big_quiet_on)
          | (go_big_quiet_skip))
        refine wpQuiet_nil ?_
        intro w5 hw5
        go_wp2
        go_roundw
        case rel => exact ⟨jj, m, hKl, by go_num, by rw [HP.out, hd]; rfl, HO.out.of_new hw5, HZ.out.of_new hw5, below_next HB.out hw5⟩
        case measure => simp [intOf]; omega
    · have hKN : ¬ ((k + 1 : Nat) : Int) < (N : Int) := by have := HN.out; omega
      rw [List.drop_of_length_le (by omega)] at hp
      have HP := Lib.hid hp
      have hs1 := HS1.out
      clear hp ho hz hb
      go_wp2_with (first
        | ((with_reducible refine wpList_plain (o := ⟨some 32, Op.load _ _, _, _, _, _⟩) rfl fun K hK => ?_); (refine HO.out.at_.wp rfl rfl (hK _ _ ?_)))
        | ((with_reducible refine wpList_plain (o := ⟨none, Op.store _ (.tmp 4) (.tmp 32), _, _, _, _⟩) rfl fun K hK => ?_); (refine HZ.out.store (.tmp 4) (.tmp 32) rfl rfl rfl HO.out.2 fun w6 ho6 hg6 hs6 => hK _ _ ?_); have HO6 := Lib.hid ho6; have HB6 := Lib.hid (HB.out.grown hg6 (by have := HB.out.size; omega) (fun k e => by cases e; exact Nat.le_refl _)); clear ho6 hg6 hs6))
      refine bodyPost_ret (RecT.results1 rfl _ rfl HO6.out) rfl ?_
      exact ⟨by rw [HP.out]; rfl, HB6.out⟩

end Go.Proofs.Ytnohglkilpnjhaa

/- The walk of which blob goes first. Condition: the table as it lies, with some blob. -/
namespace Go.Proofs.Ytnohglkilpnjhaa
open Go.RowKit Go.Shelf
attribute [local go_sem] Oper.semAt_some
set_option linter.unusedVariables false
set_option linter.unusedSimpArgs false
set_option maxRecDepth 100000

/-- All of a map's hashes as a slice. -/
theorem collectKeys (m : Value) (E : EntL) (w W : World) (hm : MapV KDig w m (E.map outE)) (hd : ∀ x ∈ E, x.1.length = 32) (hl : E.length ≤ 1000000) (hW : W = w.alloc (.cells #[m] 64)) :
    Calls Try.prog 45 #[.func (.func 63) #[] #[.pointer (some ⟨w.heap.size, 0, none⟩)]] W fun e w' => ∃ v qs, e = .returned v ∧ qs.Perm ((tabOf E).map (·.1)) ∧ RDig.Own w' W.heap.size v qs ∧ Below w.heap.size w w' := by
  have hs : W.heap.size = w.heap.size + 1 := by rw [hW]; simp
  have hb : Below w.heap.size w W := by rw [hW]; exact (Below.refl _ w).alloc (Nat.le_refl _) _
  have ho : One W w.heap.size m 64 := by rw [hW]; exact heap_alloc_new w _
  have hL : ∀ x ∈ E.map outE, x.1.length = 32 := fun x hx => by obtain ⟨q, hq, rfl⟩ := List.mem_map.1 hx; exact hd q hq
  refine (CollectK_any _ _ (E.map outE) w.heap.size (fun j => j = w.heap.size) W hL (by simpa using by omega) (by omega) (fun k hk => by subst hk; omega)
    (enters_of Try.func63 (by kernel_rfl) rfl)
    (fun W1 hb1 hs1 => keys_seq 4 (by omega) w.heap.size w.heap.size m (E.map outE) W1 w rfl (hb.trans (hb1.mono (by omega))) (Nat.le_refl _) (ho.of_new hb1) hm hL)).mono ?_
  rintro e w' ⟨v, qs, rfl, hp, hown, hbw⟩
  refine ⟨v, qs, rfl, ?_, hown, hb.trans hbw⟩
  refine hp.trans (List.Perm.of_eq ?_)
  unfold tabOf
  rw [List.map_map, List.map_map]
  rfl

set_option maxHeartbeats 1600000 in
theorem TFirst_any (t mb : Nat) (most each : Int) (E : EntL) (w : World) (hT : TabP w t most each mb E) (hr : Rising kD (tabOf E)) (hd : ∀ x ∈ E, x.1.length = 32) (h0 : E ≠ []) (hl : E.length ≤ 1000000) :
    Calls Try.prog 25 #[.pointer (some ⟨t, 0, none⟩)] w fun e w' => e = .returned (RDig.V (firstT (tabOf E)).1) ∧ (firstT (tabOf E)).1.length = 32 ∧ Below w.heap.size w w' := by
  have hf32 : (firstT (tabOf E)).1.length = 32 := by
    have hm := firstT_mem (T := tabOf E) (fun e => h0 (List.map_eq_nil_iff.1 e))
    obtain ⟨x, hx, he⟩ := List.mem_map.1 hm
    rw [← he]; exact hd x hx
  have HF32 := Lib.hid hf32
  have HT := Lib.hid hT
  have HR := Lib.hid hr
  have HD := Lib.hid hd
  have H0 := Lib.hid h0
  have HL := Lib.hid hl
  clear hT hr hd h0 hf32 hl
  go_enter Try.func25, Try.ntmps25
  go_upto_region 1 with ((with_reducible refine wpList_plain (o := ⟨some 2, Op.alloc _, _, _, _, _⟩) rfl fun K hK => ?_); (refine RDig.wp_alloc rfl fun w2 ho2 hb2 hs2 => hK _ _ ?_); have HO2 := Lib.hid (show RDig.O w2 (w.heap.size + 1) _ from by rw [World.size_alloc] at ho2; exact ho2); have HB2 := Lib.hid hb2; have HS2 := Lib.hid hs2; clear ho2 hb2 hs2)
  have hb1 : Below w.heap.size w (w.alloc (.cells #[.pointer (some ⟨t, 0, none⟩)] 24)) := (Below.refl _ w).alloc (Nat.le_refl _) _
  have hbx : One (w.alloc (.cells #[.pointer (some ⟨t, 0, none⟩)] 24)) w.heap.size (.pointer (some ⟨t, 0, none⟩)) 24 := heap_alloc_new w _
  have hTB : TabB w2 w.heap.size t mb most each E := ⟨hbx.of_new HB2.out, (HT.out.of_new hb1).of_new HB2.out⟩
  have hB2 : Below w.heap.size w w2 := below_next hb1 HB2.out
  have hcb := hTB.box.cell
  have hc2 := hTB.tab.cell2
  obtain ⟨W3, hW3⟩ : ∃ W3, w2.alloc (.cells #[.map (some mb)] 64) = W3 := ⟨_, rfl⟩
  have hV := Keys_any (.map (some mb)) w2 (.inl ⟨_, rfl⟩)
  rw [hW3] at hV
  have hC := collectKeys (.map (some mb)) E w2 W3 (.inl ⟨_, rfl, hTB.tab.map⟩) HD.out HL.out hW3.symm
  have HTB := Lib.hid hTB
  have HB := Lib.hid hB2
  have HV := Lib.hid hV
  have HC := Lib.hid hC
  have HW3 := Lib.hid hW3
  clear hb1 hbx hTB hB2 hV hC hW3
  go_upto_region 2 with (first
    | (go_at_call 37; refine HV.out.mono ?_; rintro e w4 ⟨rfl, rfl⟩)
    | (go_at_call 45; refine HC.out.mono ?_; rintro e w5 ⟨v5, qs, rfl, hp5, ho5, hb5⟩; have HP5 := Lib.hid hp5; have HO5 := Lib.hid ho5; have HB5 := Lib.hid hb5; clear hp5 ho5 hb5))
  cases qs with
  | nil => exact absurd (HP5.out.length_eq) (by simp [tabOf]; exact fun e => H0.out (List.length_eq_zero_iff.1 e.symm))
  | cons x l =>
    have hfp := firstT_dig HR.out (fun y hy => by obtain ⟨z, hz, rfl⟩ := List.mem_map.1 hy; exact HD.out z hz) HP5.out
    have hM := MinD_any w.heap.size t mb most each E v5 x l w5 (HTB.out.of_new HB5.out) HD.out HO5.out.row
    rw [← hfp] at hM
    obtain ⟨a5, c5, hv⟩ := HO5.out.row.len
    subst hv
    have HM := Lib.hid hM
    have HR5 := Lib.hid (HO2.out.of_new HB5.out)
    clear hM hfp
    go_wp2_with (first
      | (go_at_call 46; refine HM.out.mono ?_; rintro e w6 ⟨rfl, hb6⟩; have HR6 := Lib.hid (HR5.out.of_new hb6); have HB6 := Lib.hid (below_next HB5.out hb6); clear hb6)
      | ((with_reducible refine wpList_plain (o := ⟨none, Op.store _ (.tmp 2) (.tmp 12), _, _, _, _⟩) rfl fun K hK => ?_); (refine HR6.out.store (.tmp 2) (.tmp 12) rfl rfl rfl HF32.out fun w7 ho7 hg7 hs7 => hK _ _ ?_); have HO7 := Lib.hid ho7; have HG7 := Lib.hid hg7; clear ho7 hg7 hs7))
    refine bodyPost_ret (RecT.results1 rfl _ rfl HO7.out) rfl ?_
    exact ⟨rfl, HF32.out, (below_next HB.out HB6.out).grown HG7.out (by have := HB.out.size; have := HB6.out.size; omega) (fun k e => by cases e; simp)⟩

end Go.Proofs.Ytnohglkilpnjhaa

/- The walk of tracker.Blobs, through slices.SortedFunc. Condition: the table as it lies. -/
namespace Go.Proofs.Ytnohglkilpnjhaa
open Go.RowKit
set_option linter.unusedVariables false
set_option linter.unusedSimpArgs false
set_option maxRecDepth 100000

set_option maxHeartbeats 800000 in
theorem SortedK_any (m : Value) (E : EntL) (w W : World) (hm : MapV KDig w m (E.map outE)) (hr : Rising kD (tabOf E)) (hd : ∀ x ∈ E, x.1.length = 32) (hl : E.length ≤ 1000000) (hW : W = w.alloc (.cells #[m] 64)) :
    Calls Try.prog 36 #[.func (.func 63) #[] #[.pointer (some ⟨w.heap.size, 0, none⟩)], .func (.func 38) #[] #[]] W
      fun e w' => ∃ v, e = .returned v ∧ RDig.Own w' W.heap.size v ((tabOf E).map (·.1)) ∧ Below w.heap.size w w' := by
  have hC := collectKeys m E w W hm hd hl hW
  have hS : W.heap.size = w.heap.size + 1 := by rw [hW]; simp
  have hr2 : Rising (fun d : List UInt8 => (natL d : Int)) ((tabOf E).map (·.1)) := Rising.map (f := kD) (fun _ => rfl) hr
  have hln : ((tabOf E).map (·.1)).length = E.length := by simp [tabOf]
  obtain ⟨D, hD⟩ : ∃ D, (tabOf E).map (·.1) = D := ⟨_, rfl⟩
  rw [hD] at hC hr2 hln ⊢
  have HC := Lib.hid hC
  have HR := Lib.hid hr2
  have HS := Lib.hid hS
  have HLN := Lib.hid hln
  clear hC hr hm hW hS hd hr2 hln hD
  go_enter Try.func36, Try.ntmps36
  go_upto_region 2 with (go_at_call 45; refine HC.out.mono ?_; rintro e w2 ⟨v2, qs, rfl, hp2, ho2, hb2⟩; have HP2 := Lib.hid hp2; have HO2 := Lib.hid ho2; have HB2 := Lib.hid hb2; clear hp2 ho2 hb2)
  obtain ⟨a2, c2, hv⟩ := HO2.out.row.len
  subst hv
  have hlt := HO2.out.lt
  have HS2 := Lib.hid (SortD_any _ qs w2 _ HO2.out (by rw [HP2.out.length_eq, HLN.out]; exact hl))
  have HLT := Lib.hid hlt
  clear hlt
  go_wp2_with (go_at_call 62; refine HS2.out.mono ?_; rintro e w3 ⟨rfl, l', hp3, hs3, ho3, hg3⟩; have hB3 := HB2.out.grown hg3 (by have := HB2.out.size; omega) (fun k e => by have := (HLT.out k e).1; have := HS.out; omega); have he3 := rise_sorted HR.out (hp3.trans HP2.out) (hs3.imp (fun {a b} h => by omega)); have HO3 := Lib.hid ho3; have HB3 := Lib.hid hB3; have HE3 := Lib.hid he3; clear ho3 hB3 he3 hp3 hs3 hg3)
  go_ret
  exact ⟨_, rfl, by have := HO3.out; rwa [HE3.out] at this, HB3.out⟩

set_option maxHeartbeats 1600000 in
theorem Blobs_any (t mb : Nat) (most each : Int) (E : EntL) (w : World) (hT : TabP w t most each mb E) (hE : EntOk most each E) (hm : 1 ≤ most ∧ most ≤ 1000) :
    Calls Try.prog 20 #[.pointer (some ⟨t, 0, none⟩)] w fun e w' => ∃ v, e = .returned v ∧ RDig.Own w' w.heap.size v ((tabOf E).map (·.1)) ∧ Below w.heap.size w w' := by
  have hElen : E.length ≤ 1000 := by have := hE.few; unfold tabOf at this; rw [List.length_map] at this; omega
  obtain ⟨W3, hW3⟩ : ∃ W3, w.alloc (.cells #[.map (some mb)] 64) = W3 := ⟨_, rfl⟩
  have hV := Keys_any (.map (some mb)) w (.inl ⟨_, rfl⟩)
  rw [hW3] at hV
  have hS := SortedK_any (.map (some mb)) E w W3 (.inl ⟨_, rfl, hT.map⟩) hE.rise (fun x hx => hE.dig _ (tabOf_mem hx)) (by omega) hW3.symm
  have hc2 := hT.cell2
  have hs3 : w.heap.size ≤ W3.heap.size := by rw [← hW3]; simp
  have HV := Lib.hid hV
  have HS := Lib.hid hS
  have HS3 := Lib.hid hs3
  clear hV hS hW3 hT hE hs3
  go_enter Try.func20, Try.ntmps20
  go_wp2_with (first
    | (go_at_call 37; refine HV.out.mono ?_; rintro e w6 ⟨rfl, rfl⟩)
    | (go_at_call 36; refine HS.out.mono ?_; rintro e w7 ⟨v7, rfl, ho7, hb7⟩; have HO7 := Lib.hid ho7; have HB7 := Lib.hid hb7; clear ho7 hb7))
  go_ret
  exact ⟨_, rfl, HO7.out.mono HS3.out, HB7.out⟩

end Go.Proofs.Ytnohglkilpnjhaa

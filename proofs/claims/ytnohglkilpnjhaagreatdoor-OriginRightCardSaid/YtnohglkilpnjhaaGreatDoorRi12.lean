/- Texts of this claim, one behind the other: each begins with a comment that says what it proves and asks. -/
import Derived.Test.YtnohglkilpnjhaaGreatDoorRi11
import Derived.Maps.AppendAt
import Derived.Great.BuildSlice
import Derived.IntWalk
import Derived.LoopNIn
import Derived.LoopIn
import Derived.Shelf.RegionOpen
import Derived.Sort.QuietIn
/- The walk of tlv.Decode. Condition: none beyond the argument's reading. -/
namespace Go.Proofs.YtnohglkilpnjhaaGreatDoor
open Go.RowKit Go.Shelf
attribute [local go_sem] Oper.semAt_some
set_option linter.unusedVariables false
set_option linter.unusedSimpArgs false

/-- The slice v of items is the call's own, and so are the items' bytes. -/
def OwnI (w : World) (base : Nat) (v : Value) (l : List ItV) : Prop := w.ownsRow base 110 2 v l.length (flatI l) ∧ ∀ x ∈ l, Own8 w base 5 x.2 x.1.2
theorem OwnI.nil (w : World) (base : Nat) : OwnI w base (.slice none 0 0) [] := ⟨World.ownsRow_nil _ _ _ _, fun _ h => by cases h⟩
theorem OwnI.lt {w : World} {base : Nat} {v : Value} {l : List ItV} (h : OwnI w base v l) : ∀ k, v.ownBlock = some k → base ≤ k ∧ k < w.heap.size := World.ownsRow.lt h.1
theorem OwnI.len {w : World} {base : Nat} {v : Value} {l : List ItV} (h : OwnI w base v l) : ∃ a c, v = .slice a l.length c := by
  rcases h.1.2 with ⟨h1, h2⟩ | ⟨g, cap, cur, rfl, _⟩
  · rw [h1, show l.length = 0 by omega]; exact ⟨_, _, rfl⟩
  · exact ⟨_, _, rfl⟩
theorem OwnI.items {w : World} {base : Nat} {v : Value} {l : List ItV} (h : OwnI w base v l) : Items w v (l.map (·.1)) := by
  obtain ⟨h1, a, c, rfl, h2, h3, h4, h5⟩ := Row.of_owns h.1
  refine ⟨a, c, by simp, by simpa using h2, h3, h4, fun h0 => ?_⟩
  have h0' : 0 < l.length := by simpa using h0
  obtain ⟨b, off, rfl, hb, hc⟩ := h5 (by omega)
  refine ⟨b, off, rfl, hb, fun i hi => ?_⟩
  have hi' : i < l.length := by simpa using hi
  obtain ⟨f1, f2⟩ := flatI_at hi'
  have e : (l.map (·.1)).getD i (0, []) = (l.getD i ((0, []), undef)).1 := by simp [List.getD, hi']
  rw [e]
  refine ⟨(hc _ (by omega)).trans f1, _, (by rw [Nat.add_assoc]; exact (hc _ (by omega)).trans f2), ?_⟩
  have hm : l.getD i ((0, []), undef) ∈ l := by
    rw [List.getD_eq_getElem?_getD, List.getElem?_eq_getElem hi']; exact List.getElem_mem hi'
  exact (h.2 _ hm).bytes
theorem Own8.blk {w w' : World} {base e : Nat} {v : Value} {l : List UInt8} (h : Own8 w base e v l) (hk : ∀ k, v.ownBlock = some k → w'.heap[k]? = w.heap[k]?) : Own8 w' base e v l := by
  refine ⟨h.1, ?_⟩
  rcases h.2 with h | ⟨g, cap, cur, hv, hb, hh, hr⟩
  · exact .inl h
  · exact .inr ⟨g, cap, cur, hv, hb, (hk g (by rw [hv]; rfl)).trans hh, hr⟩
/-- It stays, while only other blocks are written. -/
theorem OwnI.keep {w w' : World} {base : Nat} {v : Value} {l : List ItV} (h : OwnI w base v l) (hk : ∀ k, base ≤ k → k < w.heap.size → w'.heap[k]? = w.heap[k]?) : OwnI w' base v l := by
  refine ⟨⟨h.1.1, ?_⟩, fun x hx => (h.2 x hx).blk fun k hk2 => hk k ((h.2 x hx).lt k hk2).1 ((h.2 x hx).lt k hk2).2⟩
  rcases h.1.2 with h2 | ⟨g, cap, cur, hv, hb, hh, hr⟩
  · exact .inl h2
  · exact .inr ⟨g, cap, cur, hv, hb, (hk g hb (Array.getElem?_eq_some_iff.1 hh).1).trans hh, hr⟩

/-- 'append(out, x)' of an item, out the call's own. -/
theorem run_appI {w : World} (base ty : Nat) (v : Value) (l : List ItV) (x : ItV) (hown : OwnI w base v l) (hx : Own8 w base 5 x.2 x.1.2) (g : Nat) (hg : w.heap[g]? = some (.cells #[.int .i64 x.1.1, x.2] 110 (0, 0))) (hlen : l.length + 1 ≤ 1099511627776) (hbase : base ≤ w.heap.size) :
    ∃ v' w', (Builtin.append_ #[111, 111] ty #[v, .slice (some ⟨g, 0, none⟩) 1 1]).run Tryz.prog w = .ok v' w' ∧ OwnI w' base v' (l ++ [x]) ∧ w.grownBy w' v.ownBlock ∧ (∀ k, v'.ownBlock = some k → v.ownBlock = some k ∨ w.heap.size ≤ k) := by
  obtain ⟨i, hi, hz, hsize, hby⟩ := info_parts infoItem
  obtain ⟨v', w', h1, h2, h3, _, h5⟩ := run_append_own_at (P := Tryz.prog) w base 111 ty 110 i _ 2 32 Tryz.underlying111 hi hz hsize hby (by simp [Value.cells]) (by decide) v l.length (flatI l) hown.1 ⟨g, 0, none⟩ 1 1 [.int .i64 x.1.1, x.2] (by simp)
    (fun j u hj => by
      have hjl : j < 2 := by
        rcases Nat.lt_or_ge j 2 with h | h
        · exact h
        · rw [List.getElem?_eq_none (by simpa using h)] at hj; cases hj
      have hadd : (⟨g, 0, none⟩ : Addr).add j = ⟨g, j, none⟩ := by unfold Addr.add; split <;> simp_all
      rw [hadd]
      simp only [World.cell?, hg]
      match j, hjl with
      | 0, _ => simpa using hj
      | 1, _ => simpa using hj)
    (fun u hu => by
      obtain ⟨a, c, he⟩ := hx.bytes.len
      simp at hu
      rcases hu with rfl | rfl
      · rfl
      · rw [he]; rfl) (by unfold maxLen; omega) (by omega) hbase
  refine ⟨v', w', h1, ⟨?_, ?_⟩, h3, ?_⟩
  · rw [flatI_snoc, List.length_append]; exact h2
  · have diff : ∀ (y : ItV), Own8 w base 5 y.2 y.1.2 → Own8 w' base 5 y.2 y.1.2 := fun y hy => hy.blk fun k hk => h3.block k (hy.lt k hk).2 (fun e => by
      have hy2 : ∃ cur, w.heap[k]? = some (.cells cur 5 (0, 0)) := by
        rcases hy.2 with ⟨h, _⟩ | ⟨g2, cap, cur, hv, hb, hh, hr⟩
        · rw [h] at hk; cases hk
        · rw [hv] at hk; cases hk; exact ⟨cur, hh⟩
      have ho2 : ∃ cur, w.heap[k]? = some (.cells cur 110 (0, 0)) := by
        rcases hown.1.2 with ⟨h, _⟩ | ⟨g2, cap, cur, hv, hb, hh, hr⟩
        · rw [h] at e; cases e
        · rw [hv] at e; cases e; exact ⟨cur, hh⟩
      obtain ⟨c1, q1⟩ := hy2
      obtain ⟨c2, q2⟩ := ho2
      rw [q1] at q2
      simp at q2)
    intro y hy
    rcases List.mem_append.1 hy with hy | hy
    · exact diff y (hown.2 y hy)
    · have : y = x := by simpa using hy
      subst this
      exact diff y hx
  · intro k hk
    rcases h5 with h5 | h5
    · exact .inl (by rw [← h5]; exact hk)
    · rw [h5] at hk; cases hk; exact .inr (Nat.le_refl _)

theorem wp_appI {w : World} {o : Oper} {a : Act} {K : Act → World → Prop} {Q : Exit → Act → World → Prop} (s y : Operand)
    (ho : o.op = .call { callee := .builtin .append, args := #[s, y], argTypes := #[111, 111] }) (base : Nat)
    (v : Value) (l : List ItV) (x : ItV) (g : Nat) (hs : a.eval s = v) (hown : OwnI w base v l) (hy : a.eval y = .slice (some ⟨g, 0, none⟩) 1 1) (hx : Own8 w base 5 x.2 x.1.2) (hg : w.heap[g]? = some (.cells #[.int .i64 x.1.1, x.2] 110 (0, 0)))
    (hlen : l.length + 1 ≤ 1099511627776) (hbase : base ≤ w.heap.size)
    (h : ∀ v' w', OwnI w' base v' (l ++ [x]) → w.grownBy w' v.ownBlock → (∀ k, v'.ownBlock = some k → v.ownBlock = some k ∨ w.heap.size ≤ k) → K (a.put o.dst v') w') : o.wp Tryz.prog a w K Q := by
  obtain ⟨v', w', hr, h2, h3, h4⟩ := run_appI base o.type v l x hown hx g hg hlen hbase
  unfold Oper.wp execOp
  simp only [ho, resolve, invoke, builtin, Sem.run_bind, Sem.run_pure, Result.andThen_ok, List.map_toArray, List.map_cons, List.map_nil, hs, hy, hr]
  exact h v' w' h2 h3 h4

/-- What Decode hands back. -/
def DecPost (w : World) (r : Option (List It)) (e : Ending) (w' : World) : Prop :=
  ∃ v, e = .returned (.tuple #[v, .int .i64 (if r.isSome then 0 else 2)]) ∧ Items w' v (r.getD []) ∧ Below w.heap.size w w'

/-- .. the items in blocks of the call's own. -/
def DecPostO (w : World) (r : Option (List It)) (e : Ending) (w' : World) : Prop :=
  ∃ v pre base, e = .returned (.tuple #[v, .int .i64 (if r.isSome then 0 else 2)]) ∧ OwnI w' base v pre ∧ pre.map (·.1) = r.getD [] ∧ Below w.heap.size w w' ∧ w.heap.size ≤ base
theorem DecPostO.post {w : World} {r : Option (List It)} {e : Ending} {w' : World} (h : DecPostO w r e w') : DecPost w r e w' := by
  obtain ⟨v, pre, base, h1, h2, h3, h4, _⟩ := h
  exact ⟨v, h1, h3 ▸ h2.items, h4⟩

/-- What holds ahead of each round. -/
def DecI (w : World) (b : List UInt8) (pre : List ItV) (W : World) : Prop :=
  ∃ (ov : Value), One W (w.heap.size + 2) ov 111 ∧ One W (w.heap.size + 3) (.int .i64 (lastN (pre.map (·.1)) 0)) 3 ∧ One W w.heap.size (.slice none 0 0) 111 ∧ One W (w.heap.size + 1) (.int .i64 0) 26 ∧
    OwnI W (w.heap.size + 7) ov pre ∧ checkF (pre.map (·.1)) 0 = some (pre.map (·.1)) ∧ Below w.heap.size w W ∧ w.heap.size + 5 ≤ W.heap.size
/-- .. and how a round may leave. -/
def DecX (w : World) (b : List UInt8) (c : Code) (pre : List ItV) (W : World) : Prop :=
  c = .ret ∧ One W w.heap.size (.slice none 0 0) 111 ∧ One W (w.heap.size + 1) (.int .i64 2) 26 ∧ checkF (itemsL b) 0 = none ∧ Below w.heap.size w W ∧ w.heap.size + 5 ≤ W.heap.size

theorem DecI.keep {w : World} {b : List UInt8} {pre : List ItV} {A B : World} (h : DecI w b pre A) (hk : Kept (fun k => k ≠ w.heap.size + 4 ∧ k ≠ w.heap.size + 6) A B) : DecI w b pre B := by
  obtain ⟨ov, h1, h2, h3, h4, h5, h6, h7, h8⟩ := h
  exact ⟨ov, h1.of_block (hk.block _ h1.lt (by omega)), h2.of_block (hk.block _ h2.lt (by omega)), h3.of_block (hk.block _ h3.lt (by omega)), h4.of_block (hk.block _ h4.lt (by omega)),
    h5.keep (fun k h1 h2 => hk.block k h2 (by omega)), h6, hk.to_below h7 (by omega) (fun k hk2 => by omega), Nat.le_trans h8 hk.size⟩
theorem DecX.keep {w : World} {b : List UInt8} {c : Code} {pre : List ItV} {A B : World} (h : DecX w b c pre A) (hk : Kept (fun k => k ≠ w.heap.size + 4 ∧ k ≠ w.heap.size + 6) A B) : DecX w b c pre B := by
  obtain ⟨h0, h1, h2, h3, h7, h8⟩ := h
  exact ⟨h0, h1.of_block (hk.block _ h1.lt (by omega)), h2.of_block (hk.block _ h2.lt (by omega)), h3, hk.to_below h7 (by omega) (fun k hk2 => by omega), Nat.le_trans h8 hk.size⟩

end Go.Proofs.YtnohglkilpnjhaaGreatDoor

/- The walk of the reference's cut. No condition. -/
namespace Go.Proofs.YtnohglkilpnjhaaGreatDoor
open Go.RowKit

/-- What the reference's cut comes to. -/
def RefCutPost (w : World) (l : List UInt8) (e : Ending) (w' : World) : Prop :=
  e = .returned (.tuple #[.int .u64 (((cutL 0 0 l).getD (0, 0)).1 : Int), .int .i64 (((cutL 0 0 l).getD (0, 0)).2 : Int)]) ∧ w' = w

theorem refcut_none {w : World} {l : List UInt8} (h : cutL 0 0 l = none) : RefCutPost w l (.returned (.tuple #[.int .u64 0, .int .i64 0])) w := by
  unfold RefCutPost; rw [h]; exact ⟨rfl, rfl⟩

theorem refcut_some {w : World} {l : List UInt8} {x y : Int} {n m : Nat} (h : cutL 0 0 l = some (n, m)) (hx : x = n) (hy : y = m) : RefCutPost w l (.returned (.tuple #[.int .u64 x, .int .i64 y])) w := by
  unfold RefCutPost; rw [h]; subst hx; subst hy; exact ⟨rfl, rfl⟩

theorem wrap_u64 {n : Int} (h0 : 0 ≤ n) (h1 : n < 18446744073709551616) : IntKind.u64.wrap n = n := by simp [IntKind.wrap, IntKind.bits, IntKind.signed]; omega

theorem refcut_sum {k acc c P : Nat} (hk : k < 9) (ha : acc < P) (hP : P = 128 ^ k) :
    IntKind.u64.wrap ((acc : Int) + IntKind.u64.wrap ((c : Int) % 128 * (P : Int))) = ((acc + c % 128 * 128 ^ k : Nat) : Int) ∧ IntKind.u64.wrap ((P : Int) * 128) = ((128 ^ (k + 1) : Nat) : Int) ∧ acc + c % 128 * 128 ^ k < 128 ^ (k + 1) := by
  have h1 := pow9 (show k + 1 ≤ 9 by omega)
  have h2 : c % 128 * 128 ^ k ≤ 127 * 128 ^ k := Nat.mul_le_mul_right _ (by omega)
  have e : (c : Int) % 128 * (P : Int) = ((c % 128 * 128 ^ k : Nat) : Int) := by rw [hP]; simp
  rw [e, Nat.pow_succ] at *
  rw [hP] at ha ⊢
  generalize c % 128 * 128 ^ k = z at *
  generalize 128 ^ k = q at *
  refine ⟨?_, ?_, by omega⟩
  · rw [wrap_u64 (n := (z : Int)) (by omega) (by omega), wrap_u64 (by omega) (by omega)]; simp
  · rw [wrap_u64 (by omega) (by omega)]; simp

theorem refcut_sum9 {acc c P : Nat} (ha : acc < P) (hP : P = 128 ^ 9) (hc : (c : Int) < 128) (h1 : ¬ 1 < (c : Int) % 128) :
    IntKind.u64.wrap ((acc : Int) + IntKind.u64.wrap ((c : Int) % 128 * (P : Int))) = ((acc + c * 128 ^ 9 : Nat) : Int) := by
  have hc1 : c ≤ 1 := by omega
  subst hP
  have e : (c : Int) % 128 * ((128 ^ 9 : Nat) : Int) = ((c * 128 ^ 9 : Nat) : Int) := by rw [show (c : Int) % 128 = c from by omega]; simp
  rw [e, wrap_u64 (n := ((c * 128 ^ 9 : Nat) : Int)) (by omega) (by omega), wrap_u64 (by omega) (by omega)]
  simp

set_option maxRecDepth 100000 in
set_option maxHeartbeats 1600000 in
theorem refcut_any (v : Value) (l : List UInt8) (w : World) (hl : Bytes w v l) :
    Calls Tryz.prog 90 #[v] w (RefCutPost w l) := by
  obtain ⟨a, cp, rfl⟩ := hl.len
  have HL := Lib.hid hl
  clear hl
  go_enter Tryz.func90, Tryz.ntmps90
  go_wp2
  go_loopw [4, 5, 6] (fun nv pv iv wr => ∃ (k acc : Nat) (p : Int), k ≤ l.length ∧ k ≤ 10 ∧ (k ≤ 9 → acc < 128 ^ k ∧ p = ((128 ^ k : Nat) : Int)) ∧ (k = 10 → cutL 0 0 l = none) ∧ nv = .int .u64 acc ∧ pv = .int .u64 p ∧ iv = .int .i64 k ∧ cutL 0 0 l = cutL k acc (l.drop k) ∧ wr = w)
    (fun _ _ iv _ => l.length - (intOf iv).toNat)
  case atStart => exact ⟨0, 0, 1, by omega, by omega, by simp, by simp, rfl, rfl, rfl, rfl, rfl⟩
  case round =>
    obtain ⟨k, acc, p, hk, hk10, hacc, hten, rfl, rfl, rfl, heq, rfl⟩ := hrel
    by_cases hlt : k < l.length
    · by_cases h10 : k = 10
      · have hn := hten h10
        have Hn := Lib.hid hn
        clear hn heq hacc hten
        subst h10
        go_wp2
        go_ret2
        exact refcut_none Hn.out
      · obtain ⟨ha1, hp⟩ := hacc (by omega)
        clear hacc
        obtain ⟨b, off, c', hv, hbl, hc⟩ := HL.out.cell (by omega)
        obtain ⟨rfl, rfl⟩ : a = some ⟨b, off, none⟩ ∧ cp = c' := by cases hv; exact ⟨rfl, rfl⟩
        have hck := hc k hlt
        have Hc := Lib.hid hc
        clear hc hv hten
        rw [drop_at hlt] at heq
        obtain ⟨c, hcc⟩ : ∃ c, c = l.getD k 0 := ⟨_, rfl⟩
        rw [← hcc] at hck heq
        have Heq := Lib.hid heq
        clear hcc heq
        unfold B8 at hck
        have hcn := c.toNat_lt
        have hcb : (c.toNat : Int) < 256 := by omega
        have hp9 := pow9 (show k ≤ 9 by omega)
        obtain ⟨P, hP⟩ : ∃ P : Nat, P = 128 ^ k := ⟨_, rfl⟩
        rw [← hP] at hp hp9 ha1
        subst hp
        have HP := Lib.hid hP
        clear hP
        have hlt10 : (k : Int) < 10 := by omega
        by_cases h9 : k = 9
        · subst h9
          by_cases hc1 : 1 < (c.toNat : Int) % 128
          · go_wp2
            go_ret2
            exact refcut_none (Heq.out.trans (by rw [cutL, if_pos (.inr ⟨rfl, by omega⟩)]))
          · by_cases hc128 : (c.toNat : Int) < 128
            · by_cases hc0 : c.toNat = 0
              · have hz : ((c.toNat : Int) == 0) = true := by simp [hc0]
                have Hc0 := Lib.hid hc0
                clear hc0
                go_wp2
                go_ret2
                exact refcut_none (Heq.out.trans (by rw [cutL, if_neg (by omega), if_pos (by omega), if_neg (by have := Hc0.out; omega)]))
              · have hz : ((c.toNat : Int) == 0) = false := by simp; omega
                go_wp2
                go_ret2
                exact refcut_some (Heq.out.trans (by rw [cutL, if_neg (by omega), if_pos (by omega), if_pos (by omega)])) (refcut_sum9 ha1 HP.out hc128 (by omega)) (by omega)
            · go_wp2
              go_round
              case rel =>
                refine ⟨10, _, _, by omega, by omega, fun h => absurd h (by omega), fun _ => ?_, rfl, rfl, by go_num, ?_, by first | trivial | rfl⟩
                · rw [Heq.out, cutL, if_pos (.inr ⟨rfl, by omega⟩)]
                · rw [Heq.out, cutL, if_pos (.inr ⟨rfl, by omega⟩), cutL_ten]
              case measure => simp [intOf]; omega
        · have e9 : ((k : Int) == 9) = false := by simp; omega
          have hk9 : k < 9 := by omega
          by_cases hc128 : (c.toNat : Int) < 128
          · by_cases hc0 : c.toNat = 0
            · have hz : ((c.toNat : Int) == 0) = true := by simp [hc0]
              have Hc0 := Lib.hid hc0
              clear hc0
              by_cases hk0 : k = 0
              · have hk1 : ¬ (0 : Int) < k := by omega
                have Hk0 := Lib.hid hk0
                clear hk0
                go_wp2
                go_ret2
                exact refcut_some (Heq.out.trans (by rw [cutL, if_neg (by omega), if_pos (by omega), if_pos (.inl Hk0.out)])) (by rw [(refcut_sum hk9 ha1 HP.out).1, Nat.mod_eq_of_lt (by omega)]) (by omega)
              · have hk1 : (0 : Int) < k := by omega
                go_wp2
                go_ret2
                exact refcut_none (Heq.out.trans (by rw [cutL, if_neg (by omega), if_pos (by omega), if_neg (by have := Hc0.out; omega)]))
            · have hz : ((c.toNat : Int) == 0) = false := by simp; omega
              go_wp2
              all_goals
                go_ret2
                exact refcut_some (Heq.out.trans (by rw [cutL, if_neg (by omega), if_pos (by omega), if_pos (by omega)])) (by rw [(refcut_sum hk9 ha1 HP.out).1, Nat.mod_eq_of_lt (by omega)]) (by omega)
          · go_wp2
            go_round
            case rel =>
              obtain ⟨q1, q2, q3⟩ := refcut_sum (c := c.toNat) hk9 ha1 HP.out
              exact ⟨k + 1, _, _, by omega, by omega, fun _ => ⟨q3, rfl⟩, fun h => absurd h (by omega), by rw [q1], by rw [q2], by go_num, by rw [Heq.out, cutL, if_neg (by omega), if_neg (by omega)], by first | trivial | rfl⟩
            case measure => simp [intOf]; omega
    · go_wp2
      go_ret2
      exact refcut_none (heq.trans (by rw [List.drop_of_length_le (by omega), cutL]))

end Go.Proofs.YtnohglkilpnjhaaGreatDoor

/- The walks of tlv.ToUint, tlv.ToInt and of the references'. No condition. -/
namespace Go.Proofs.YtnohglkilpnjhaaGreatDoor
open Go.RowKit
set_option linter.unusedVariables false

def errOf (b : Bool) : Int := if b then 0 else 2
set_option maxRecDepth 100000 in
set_option maxHeartbeats 800000 in
theorem refToUint_any (v : Value) (l : List UInt8) (w : World) (hl : Bytes w v l) :
    Calls Tryz.prog 91 #[v] w fun e w' => e = .returned (.tuple #[.int .u64 (((toU l).getD 0 : Nat) : Int), .int .i64 (errOf (toU l).isSome)]) ∧ Below w.heap.size w w' := by
  obtain ⟨a, c, hv⟩ := hl.len
  subst hv
  go_enter Tryz.func91, Tryz.ntmps91
  go_wp2_with fail
  refine (refcut_any _ l _ hl).mono ?_
  rintro e w1 ⟨rfl, rfl⟩
  cases hc : cutL 0 0 l with
  | none =>
    have ht : toU l = none := by unfold toU; rw [hc]
    have Ht := Lib.hid ht
    clear hc ht
    simp only [Option.getD_none]
    go_wp2
    go_ret2
    exact ⟨by rw [Ht.out]; rfl, Below.refl _ _⟩
  | some nm =>
    obtain ⟨n, m⟩ := nm
    have hm := (cutL_lt (by omega) (by simp) hc).2
    have hm0 : ((m : Int) == 0) = false := by simp; omega
    simp only [Option.getD_some]
    by_cases h : m = l.length
    · have ht : toU l = some n := by unfold toU; rw [hc]; simp [h]
      have Ht := Lib.hid ht
      clear hc ht
      subst h
      go_wp2
      go_ret2
      exact ⟨by rw [Ht.out]; rfl, Below.refl _ _⟩
    · have ht : toU l = none := by unfold toU; rw [hc]; simp [h]
      have hd : ((m : Int) != (l.length : Int)) = true := by rw [bne_iff_ne]; omega
      have Ht := Lib.hid ht
      clear hc ht h
      go_wp2
      go_ret2
      exact ⟨by rw [Ht.out]; rfl, Below.refl _ _⟩

end Go.Proofs.YtnohglkilpnjhaaGreatDoor

/- The walk of manifest.blob: what a record tells of a blob. No condition. -/
namespace Go.Proofs.YtnohglkilpnjhaaGreatDoor
open Go.RowKit
set_option linter.unusedVariables false
set_option linter.unusedSimpArgs false
set_option maxRecDepth 100000

/-- 32 bytes as a hash in its place. -/
theorem Bytes.dig5 {w : World} {v : Value} {l : List UInt8} (h : Bytes w v l) (h32 : l.length = 32) : ∃ g off c, v = .slice (some ⟨g, off, none⟩) 32 c ∧ DigAt w g off l := by
  obtain ⟨g, off, c, hv, _, hc⟩ := h.cell (by omega)
  exact ⟨g, off, c, by rw [hv, h32], h32, fun j hj => by rw [hc j (by omega)]; simp [List.getElem?_eq_getElem (show j < l.length by omega), List.getD]⟩
end Go.Proofs.YtnohglkilpnjhaaGreatDoor

/- The walk of manifest.Decode: the image that bytes are. No condition. -/
namespace Go.Proofs.YtnohglkilpnjhaaGreatDoor
open Go.RowKit
set_option linter.unusedVariables false
set_option linter.unusedSimpArgs false
set_option maxRecDepth 100000

/-- An image as a value of one cell: the slice of its blobs. -/
def RImg : RecT 52 Value where
  n := 1
  bytes := 24
  zero := .slice none 0 0
  cells := fun v => [v]
  ok := fun v => v.oneCell' = true
  pos := by decide
  small := by decide
  few := by decide
  zok := rfl
  len := fun _ => rfl
  one := fun {x} h v hv => by simp at hv; rw [hv]; exact h
  agg := ⟨_, Tryz.underlying52, rfl⟩
  info := by kernel_rfl
theorem RImg_one {w : World} {g : Nat} {v : Value} (h : RImg.O w g v) : One w g v 52 := h.1
theorem one_RImg {w : World} {g : Nat} {v : Value} (h : One w g v 52) (hv : v.oneCell' = true) : RImg.O w g v := ⟨h, hv⟩
end Go.Proofs.YtnohglkilpnjhaaGreatDoor

/- The walks of manifest.Name and of the reference's: what an image is called. Conditions: the constants of the hash are laid. -/
namespace Go.Proofs.YtnohglkilpnjhaaGreatDoor
open Go.RowKit
set_option linter.unusedVariables false
set_option linter.unusedSimpArgs false
set_option maxRecDepth 100000

def nameL (l : List BlobL) : List UInt8 := if encGE l = 0 then sumL ((encG l).getD []) else dig0
theorem encG_len (l : List BlobL) : ((encG l).getD []).length ≤ 1099511627776 := by
  cases h : encG l with
  | none => simp
  | some c =>
    unfold encG at h
    split at h
    · have := encL_le h; simp; omega
    · cases h
theorem build_dig0 (w : World) : (Instr.build 31 #[]).run Tryz.prog w = .ok (.agg (dig0.map B8).toArray) w := by kernel_rfl
def NamePost (w : World) (l : List BlobL) (e : Ending) (w' : World) : Prop := e = .returned (.tuple #[.agg ((nameL l).map B8).toArray, .int .i64 (encGE l)]) ∧ Below w.heap.size w w'
theorem name_ok {w w' : World} {l : List BlobL} {E : Int} (h : encGE l = E) (h0 : E = 0) (hb : Below w.heap.size w w') : NamePost w l (.returned (.tuple #[.agg ((sumL ((encG l).getD [])).map B8).toArray, .int .i64 0])) w' := by
  subst h0
  exact ⟨by unfold nameL; rw [if_pos h, h], hb⟩
theorem name_bad {w w' : World} {l : List BlobL} {E : Int} (h : encGE l = E) (h0 : E ≠ 0) (hb : Below w.heap.size w w') : NamePost w l (.returned (.tuple #[.agg (dig0.map B8).toArray, .int .i64 E])) w' := by
  subst h
  exact ⟨by unfold nameL; rw [if_neg h0], hb⟩

set_option maxHeartbeats 3200000 in
theorem Name_any (v : Value) (l : List BlobL) (w : World) (hl : RBlob.Row w v l) (hK : Consts w) : Calls Tryz.prog 37 #[.agg #[v]] w (NamePost w l) := by
  obtain ⟨a, c, hv⟩ := hl.len
  subst hv
  have hle := hl.le
  obtain ⟨W, hW⟩ : ∃ W, w.alloc (.cells #[.slice a l.length c] 52) = W := ⟨_, rfl⟩
  have ho : RImg.O W w.heap.size (.slice a l.length c) := by rw [← hW]; exact ⟨heap_alloc_new w _, rfl⟩
  have hb : Below w.heap.size w W := by rw [← hW]; exact (Below.refl _ w).alloc (Nat.le_refl _) _
  have hE := fun W' h => EncImg_any (.slice a l.length c) l W' h
  obtain ⟨E, hEE⟩ : ∃ E, encGE l = E := ⟨_, rfl⟩
  have HL := Lib.hid (hl.of_new hb)
  have HO := Lib.hid ho
  have HW := Lib.hid hW
  have HB := Lib.hid hb
  have HE := Lib.hid hE
  have HEE := Lib.hid hEE
  have HKW := Lib.hid (hK.of_new hb)
  have HS := Lib.hid (fun v W' h hk => Sum_any v ((encG l).getD []) W' h (encG_len l) hk)
  clear hl ho hW hb hE hEE hK
  go_enter Tryz.func37, Tryz.ntmps37
  go_upto_region 1 with (first
    | ((with_reducible refine wpList_plain (o := ⟨some 2, Op.alloc _, _, _, _, _⟩) rfl fun K hK => ?_); rw [HW.out]; (refine wp_alloc_dig rfl fun w1 ho1 hb1 hs1 => hK _ _ ?_); have HO1 := Lib.hid ho1; have HB1 := Lib.hid (below_next HB.out hb1); have HI1 := Lib.hid (HO.out.of_new hb1); have HL1 := Lib.hid (HL.out.of_new hb1); have HK1 := Lib.hid (HKW.out.of_new hb1); have hs1' : w.heap.size < W.heap.size := HO.out.lt; clear ho1 hb1 hs1))
  go_upto_region 2 with (first
    | ((with_reducible refine wpList_plain (o := ⟨some 7, Op.load _ _, _, _, _, _⟩) rfl fun K hK => ?_); (refine HI1.out.at_.wp rfl rfl (hK _ _ ?_)))
    | (go_at_call 77; refine (HE.out _ HL1.out).mono ?_; rintro e w2 ⟨v2, rfl, hbv, hb2⟩; have HV := Lib.hid hbv; have HO2 := Lib.hid (HO1.out.of_new hb2); have HB2 := Lib.hid (below_next HB1.out hb2); have HK2 := Lib.hid (HK1.out.of_new hb2); clear hbv hb2))
  rw [HEE.out]
  by_cases h0 : E = 0
  · have HH := Lib.hid h0
    subst h0
    go_wp2_with (first
      | (go_at_call 73; refine (HS.out _ _ HV.out HK2.out).mono ?_; rintro e w3 ⟨rfl, hb3⟩; have HO3 := Lib.hid (HO2.out.of_new hb3); have HB3 := Lib.hid (below_next HB2.out hb3); clear hb3)
      | ((with_reducible refine wpList_plain (o := ⟨none, Op.store _ (.tmp 2) (.tmp 16), _, _, _, _⟩) rfl fun K hK => ?_); (refine wp_store_digO (.tmp 2) (.tmp 16) W.heap.size (sumL ((encG l).getD [])) dig0 rfl rfl rfl (sumL_len _) HO3.out fun w4 ho4 hg4 hs4 => hK _ _ ?_); have HO4 := Lib.hid ho4; have HG4 := Lib.hid hg4; clear ho4 hg4 hs4))
    refine bodyPost_ret (results_dig_tmp rfl _ rfl rfl HO4.out) rfl ?_
    exact name_ok HEE.out rfl (HB3.out.grown HG4.out (by have := HB3.out.size; omega) (fun k e => by cases e; omega))
  · have t1 : (E == 0) = false := beq_eq_false_iff_ne.2 h0
    have t2 : (E != 0) = true := bne_iff_ne.2 h0
    have H0 := Lib.hid h0
    clear h0
    go_wp2_with (first
      | ((with_reducible refine wpList_plain (o := ⟨some 13, Op.build _ _, _, _, _, _⟩) rfl fun K hK => ?_); (refine wp_val (v := .agg (dig0.map B8).toArray) (by unfold execOp; simp only [List.map_toArray, List.map_nil, build_dig0, Sem.run_bind, Result.andThen_ok, Sem.run_pure]) (hK _ _ ?_)))
      | ((with_reducible refine wpList_plain (o := ⟨none, Op.store _ (.tmp 2) (.tmp 13), _, _, _, _⟩) rfl fun K hK => ?_); (refine wp_store_digO (.tmp 2) (.tmp 13) W.heap.size dig0 dig0 rfl rfl rfl rfl HO2.out fun w4 ho4 hg4 hs4 => hK _ _ ?_); have HO4 := Lib.hid ho4; have HG4 := Lib.hid hg4; clear ho4 hg4 hs4))
    refine bodyPost_ret (results_dig_tmp rfl _ rfl rfl HO4.out) rfl ?_
    exact name_bad HEE.out H0.out (HB2.out.grown HG4.out (by have := HB2.out.size; omega) (fun k e => by cases e; omega))
end Go.Proofs.YtnohglkilpnjhaaGreatDoor

/- The walk of slices.Chunk at bytes: the maker, and the iterator over a slice's pieces. Condition: pieces of 1 to 2^20 bytes of no more than 2^40; the slice lies below what the call made. -/
namespace Go.Proofs.YtnohglkilpnjhaaGreatDoor
open Go.RowKit Go.Shelf
attribute [local go_sem] Oper.semAt_some
set_option linter.unusedVariables false
set_option linter.unusedSimpArgs false
set_option maxRecDepth 100000

/-- The pieces of bytes. -/
def chunksL (b : List UInt8) (k : Nat) : List (List UInt8) := (List.range ((b.length + k - 1) / k)).map fun i => (b.drop (i * k)).take k
theorem chunksL_len (b : List UInt8) (k : Nat) : (chunksL b k).length = (b.length + k - 1) / k := by simp [chunksL]
theorem chunks_lt {b : List UInt8} {k j : Nat} (hk : 0 < k) : j * k < b.length ↔ j < (chunksL b k).length := by
  rw [chunksL_len]
  constructor
  · intro h
    exact (Nat.le_div_iff_mul_le hk).2 (by rw [Nat.succ_mul]; omega)
  · intro h
    have := (Nat.le_div_iff_mul_le hk).1 h
    rw [Nat.succ_mul] at this; omega
theorem chunks_take {b : List UInt8} {k j : Nat} (h : j < (chunksL b k).length) : (chunksL b k).take (j + 1) = (chunksL b k).take j ++ [(b.drop (j * k)).take k] := by
  rw [List.take_add_one, List.getElem?_eq_getElem h]
  simp [chunksL]
theorem chunks_le {b : List UInt8} {k : Nat} : ∀ c ∈ chunksL b k, c.length ≤ k := fun c hc => by
  obtain ⟨i, _, rfl⟩ := List.mem_map.1 hc
  rw [List.length_take]; omega

/-- A part of bytes, its room cut too. -/
theorem Bytes.part3 {P : Program} {w : World} {v : Value} {l : List UInt8} {t e : TypeId} {i : TypeInfo} (h : Bytes w v l) (ht : P.underlying t = some (.slice e)) (hi0 : P.info? e = some i) (hsz : i.size = 1) (lo hi : Nat) (h1 : lo < hi) (h2 : hi ≤ l.length) :
    ∃ a c, (∀ W : World, (Instr.slice t v (some (.int .i64 (lo : Int))) (some (.int .i64 (hi : Int))) (some (.int .i64 (hi : Int)))).run P W = .ok (.slice a (hi - lo) c) W) ∧ Bytes w (.slice a (hi - lo) c) ((l.drop lo).take (hi - lo)) := by
  obtain ⟨_, a, c, rfl, hn, hm, hnil, hc⟩ := h
  have e : ((l.drop lo).take (hi - lo)).length = hi - lo := by simp; omega
  have hb : (Instr.sliceBounds true l.length c (some (.int .i64 (lo : Int))) (some (.int .i64 (hi : Int))) (some (.int .i64 (hi : Int)))).run P = fun W => .ok (lo, hi, hi) W := by
    funext W
    simp [Instr.sliceBounds, run_sliceBound, Sem.run_bind, Sem.run_pure, show hi ≤ c by omega, show lo ≤ hi by omega]
  refine ⟨if hi = lo then a else a.map (·.add (lo * 1)), hi - lo, fun W => ?_, ?_⟩
  · simp [Instr.slice, run_underlying ht, hb, sizeOf, typeInfo, hi0, hsz, Sem.run_bind, Sem.run_pure]
  · obtain ⟨bb, off, rfl, hlt, hcell⟩ := hc (by omega)
    unfold Bytes
    rw [e]
    refine ⟨by simp; omega, _, hi - lo, rfl, Nat.le_refl _, by unfold maxLen at *; omega, ?_, fun _ => ⟨bb, off + lo, ?_, hlt, fun j hj => ?_⟩⟩
    · intro h
      rw [if_neg (by omega)] at h
      cases h
    · rw [if_neg (by omega)]
      simp only [Option.map_some, Addr.add, Nat.mul_one]
      split
      · rename_i h0; simp [h0]
      · rfl
    · rw [Nat.add_assoc, hcell (lo + j) (by omega), List.map_take, List.map_drop, List.getElem?_take, if_pos (by omega), List.getElem?_drop]

set_option maxHeartbeats 800000 in
theorem Chunk_any (a : Option Addr) (n c : Nat) (k : Int) (hk : 1 ≤ k) (w : World) :
    Calls Tryz.prog 122 #[.slice a n c, .int .i64 k] w fun e w' =>
      e = .returned (.func (.func 163) #[] #[.pointer (some ⟨w.heap.size, 0, none⟩), .pointer (some ⟨w.heap.size + 1, 0, none⟩)]) ∧ w' = (w.alloc (.cells #[.slice a n c] 33)).alloc (.cells #[.int .i64 k] 3) := by
  have h0 : ¬ k < 1 := by omega
  go_enter Tryz.func122, Tryz.ntmps122
  go_wp2
  go_ret
  exact ⟨rfl, rfl⟩

abbrev encC (x : List UInt8 × Value) : Array Value := #[x.2]

/-- What the iterator tells a round. -/
def ChunkIt (w0 : World) (b : List UInt8) (k : Nat) (pre : List (List UInt8 × Value)) (x : List UInt8 × Value) (W : World) : Prop := (pre ++ [x]).map (·.1) <+: chunksL b k ∧ Bytes w0 x.2 x.1
/-- What holds ahead of each round of the iterator. -/
def ChunkI (w0 : World) (bs bn : Nat) (v : Value) (b : List UInt8) (k : Nat) (J : List (List UInt8 × Value) → World → Prop) (iv : Value) (wr : World) : Prop :=
  ∃ (pre : List (List UInt8 × Value)), iv = .int .i64 ((pre.length * k : Nat) : Int) ∧ pre.map (·.1) = (chunksL b k).take pre.length ∧ pre.length ≤ (chunksL b k).length ∧ J pre wr ∧ One wr bs v 33 ∧ One wr bn (.int .i64 (k : Int)) 3

set_option maxHeartbeats 3200000 in
theorem chunk_seq (n : Nat) (hn : 1 ≤ n) (bs bn n0 : Nat) (v : Value) (b : List UInt8) (k : Nat) (hk : 1 ≤ k) (hk2 : k ≤ 1048576) (hlen : b.length ≤ 1099511627776) (W w0 : World) (hc1 : One W bs v 33) (hc2 : One W bn (.int .i64 (k : Int)) 3) (hl : Bytes w0 v b) :
    SeqT Fence.wide n Tryz.prog 163 #[.pointer (some ⟨bs, 0, none⟩), .pointer (some ⟨bn, 0, none⟩)] encC (ChunkIt w0 b k)
      (fun xs => xs.map (·.1) = chunksL b k) (fun j => j = bs ∨ j = bn) n0 (chunksL b k).length W := fun l J hJ hY h0 => by
  obtain ⟨i0, hi, hz0, hz1, hz2⟩ := info_parts infoU8
  obtain ⟨G, hG⟩ : ∃ G : Nat → Prop, G = fun j => j = bs ∨ j = bn := ⟨_, rfl⟩
  have hGF : Fresh (fun j => j = bs ∨ j = bn) G W := fun j hj => .inr (by rw [hG] at hj; exact hj)
  have hJG := hJ G hGF
  have hYG := fun pre x W1 => hY G pre x W1 hGF
  have h0G := h0 G W hGF (Below.refl _ W)
  have hG1 : G bs := by rw [hG]; exact .inl rfl
  have hG2 : G bn := by rw [hG]; exact .inr rfl
  have hGl : ∀ wr : World, bs < wr.heap.size → bn < wr.heap.size → ∀ j, G j → j < wr.heap.size := fun wr h1 h2 j hj => by
    rw [hG] at hj; rcases hj with rfl | rfl <;> assumption
  clear hJ hY h0
  refine (CallsIn.mono (R := fun e W' => (∃ v, e = .returned v) ∧ ∃ xs, xs.map (·.1) = chunksL b k ∧ J G xs W') ?_ (fun e W' h => ⟨h.1, G, by obtain ⟨_, xs, h1, h2⟩ := h; exact ⟨xs, hGF, h1, h2⟩⟩))
  clear hGF hG
  obtain ⟨va, vc, hv⟩ := hl.len
  subst hv
  refine callsIn_of_wp Tryz.func163 rfl trivial ?_ rfl
  simp only [Tryz.ntmps163, List.size_toArray, List.length_cons, List.length_nil, Nat.reduceAdd, Nat.reduceSub, Array.replicate_succ, Array.replicate_zero, List.push_toArray, List.append_toArray, List.nil_append, List.cons_append]
  gi_wp2
  gi_loopw [4] (ChunkI w0 bs bn (.slice va b.length vc) b k (J G)) (fun iv _ => b.length - (intOf iv).toNat)
  case atStart => exact ⟨[], by simp, by simp, by simp, h0G, hc1, hc2⟩
  case round =>
    clear h0G hc1 hc2
    obtain ⟨pre, rfl, hpre, hple, hj, o1, o2⟩ := hrel
    obtain ⟨j, hj0⟩ : ∃ j, pre.length = j := ⟨_, rfl⟩
    rw [hj0] at hpre hple ⊢
    have c1 := o1.cell
    have c2 := o2.cell
    by_cases hlt : j * k < b.length
    · have hjc := (chunks_lt (b := b) (j := j) (by omega)).1 hlt
      have hsnoc := chunks_take hjc
      rw [← hpre] at hsnoc
      have hstep : (j + 1) * k = j * k + k := Nat.succ_mul j k
      have hcl : j * k + k ≤ 1099512676352 := by omega
      obtain ⟨m, hm⟩ : ∃ m, j * k = m := ⟨_, rfl⟩
      rw [hm] at hlt hsnoc hstep hcl ⊢
      obtain ⟨tv, hrt, ht, _⟩ := hl.part (P := Tryz.prog) (t := 33) Tryz.underlying33 hi hz1 (some (.int .i64 (m : Int))) none m b.length (by omega) (Nat.le_refl _) (.inr ⟨.i64, rfl⟩) (.inl ⟨rfl, rfl⟩)
      rw [List.take_of_length_le (by simp)] at ht
      have hD : (b.drop m).length = b.length - m := by simp
      obtain ⟨e, he⟩ : ∃ e, min k (b.length - m) = e := ⟨_, rfl⟩
      obtain ⟨pa, pc, hr3, hp3⟩ := hl.part3 (P := Tryz.prog) (t := 33) Tryz.underlying33 hi hz1 m (m + e) (by omega) (by omega)
      have hpe : (b.drop m).take (m + e - m) = (b.drop m).take k := by
        rw [show m + e - m = e by omega, ← he]
        rw [List.take_eq_take_iff]; simp
      rw [hpe, show m + e - m = e by omega] at hp3
      rw [show m + e - m = e by omega, Int.natCast_add] at hr3
      have hlt2 : (m : Int) < (b.length : Int) := by omega
      have hpre2 : (pre ++ [((b.drop m).take k, Value.slice pa e pc)]).map (·.1) = (chunksL b k).take (j + 1) := by rw [hsnoc]; simp
      have hyg := fun (wq : World) (hq : Below wr.heap.size wr wq) => hYG pre ((b.drop m).take k, .slice pa e pc) wq (hGl _ ((o1.of_new hq).lt) ((o2.of_new hq).lt)) (hJG _ _ _ hj ((Kept.refl _ wr).below hq)) ⟨by rw [hpre2]; exact List.take_prefix _ _, hp3⟩ (by omega)
      dsimp only [encC] at hyg
      have hpl : (pre ++ [((b.drop m).take k, Value.slice pa e pc)]).length = j + 1 := by simp [hj0]
      have HP := Lib.hid hpre2
      have HPL := Lib.hid hpl
      clear hsnoc hpe hpre hpre2 hpl hp3
      obtain ⟨D, hDD⟩ : ∃ D, b.drop m = D := ⟨_, rfl⟩
      rw [hDD] at ht hD HP HPL hyg
      clear hDD
      obtain ⟨ta, tc, hv⟩ := ht.len
      subst hv
      have hcase : (k ≤ D.length ∧ e = k) ∨ (D.length < k ∧ e = D.length) := by omega
      clear ht
      have HD := Lib.hid hD
      clear hD
      rcases hcase with ⟨hc, hek⟩ | ⟨hc, hek⟩
      all_goals
        rw [hek] at hr3 hyg HPL HP he
        clear hek
        have hcI : ((D.length : Nat) : Int) ≤ 1099511627776 := by have := HD.out; omega
        have hw1 : IntKind.i64.wrap ((m : Int) + (k : Int)) = (m : Int) + (k : Int) := IntWalk.i64_in _ (by omega)
        have hw2 : IntKind.i64.wrap ((m : Int) + (D.length : Int)) = (m : Int) + (D.length : Int) := IntWalk.i64_in _ (by omega)
        gi_wp2
        gi_quiet (fail)
        obtain ⟨fn, tmps, assign, body, hy, hR⟩ := hyg (wr.drewN nq) (below_drewn nq)
        clear hyg hYG
        gi_wp2
        refine hR.mono ?_
        rintro e W3 ⟨rfl, hJ3, hk3⟩
        have o1' := o1.of_block ((hk3.block _ (by simpa using o1.lt) (.inl hG1)).trans rfl)
        have o2' := o2.of_block ((hk3.block _ (by simpa using o2.lt) (.inl hG2)).trans rfl)
        have c2' := o2'.cell
        gi_wp2
        refine ⟨⟨_, ?_, ?_, ?_, hJ3, o1', o2'⟩, ?_⟩
        · rw [HPL.out, hstep, Int.natCast_add]
        · rw [HPL.out]; exact HP.out
        · rw [HPL.out]; exact hjc
        · simp only [intOf]; omega
    · have hge : ¬ (((j * k : Nat) : Int) < (b.length : Int)) := by omega
      have hjc : ¬ j < (chunksL b k).length := fun h => hlt ((chunks_lt (by omega)).2 h)
      obtain ⟨m, hm⟩ : ∃ m, j * k = m := ⟨_, rfl⟩
      rw [hm] at hge ⊢
      have he : pre.map (·.1) = chunksL b k := by rw [hpre, List.take_of_length_le (by omega)]
      have HE := Lib.hid he
      clear he hpre
      gi_wp2
      go_end0
      exact ⟨⟨_, rfl⟩, pre, HE.out, hj⟩

end Go.Proofs.YtnohglkilpnjhaaGreatDoor

/- The walks of slices.AppendSeq and slices.Collect at a sequence of hashes. Condition: the iterator's contract. -/
namespace Go.Proofs.YtnohglkilpnjhaaGreatDoor
open Go.RowKit Go.Shelf
attribute [local go_sem] Oper.semAt_some
set_option linter.unusedVariables false
set_option linter.unusedSimpArgs false
set_option maxRecDepth 100000

theorem wp_store_fresh {w : World} {A : Array Value} {op : Oper} {a : Act} {K : Act → World → Prop} {Q : Exit → Act → World → Prop} (x y : Operand) (d : List UInt8) (ho : op.op = .store 31 x y)
    (hx : a.eval x = .pointer (some ⟨w.heap.size, 0, none⟩)) (hy : a.eval y = .agg (d.map B8).toArray) (hA : A.size = 32) (hd : d.length = 32)
    (h : ∀ w', DigAt w' w.heap.size 0 d → Below w.heap.size w w' → w.heap.size < w'.heap.size → K (a.put op.dst undef) w') : op.wp Tryz.prog a (w.alloc (.cells A 31)) K Q := by
  have hrun := run_storeVar_row (P := Tryz.prog) (w.alloc (.cells A 31)) w.heap.size 31 31 A (d.map B8).toArray (heap_alloc_new w _) (by rw [info_dig]; simp [hd]) (by simp [hA, hd]) (octs_one d)
  have ho' : Octs ((w.alloc (.cells A 31)).setRow w.heap.size (d.map B8).toArray) w.heap.size 31 d := setRow_heap _ _ _ _ _ _ (heap_alloc_new w _)
  unfold Oper.wp execOp
  simp only [ho, hx, hy, Instr.storeAt, Instr.sureAddr, Sem.run_bind, Sem.run_pure, Result.andThen_ok, hrun]
  exact h _ (ho'.digAt hd) (((Below.refl _ w).alloc (Nat.le_refl _) _).trans (below_setRow' _ _ _ (Nat.le_refl _))) (by simp [World.setRow])

abbrev encD (x : List UInt8) : Array Value := #[.agg (x.map B8).toArray]

/-- What holds ahead of each round of AppendSeq. -/
def CollI (w : World) (n0 : Nat) (G : Nat → Prop) (pre : List (List UInt8)) (W : World) : Prop :=
  ∃ ov, One W w.heap.size ov 34 ∧ OwnD W (w.heap.size + 3) ov pre ∧ (∀ k, ov.ownBlock = some k → ¬ G k) ∧ Below n0 w W ∧ w.heap.size + 1 ≤ W.heap.size
/-- A round's variable: a hash in a block of its own. -/
def CollG (w : World) (tm : Value → Value → Array Value) (x : List UInt8) (a : Act) (W : World) : Prop :=
  ∃ g, w.heap.size + 3 ≤ g ∧ DigAt W g 0 x ∧ g < W.heap.size ∧ a = { tmps := tm (.pointer (some ⟨g, 0, none⟩)) (.agg (x.map B8).toArray), defers := [] }

set_option maxHeartbeats 1600000 in
theorem AppendSeqD_any (gf : Nat) (lb : Array Value) (L : List (List UInt8)) (n0 : Nat) (O : Nat → Prop) (w : World) (h32 : Dig32 L) (hL : L.length ≤ 1048576) (hn0 : n0 ≤ w.heap.size) (hO : ∀ k, O k → n0 ≤ k ∧ k < w.heap.size)
    (eg : ∀ args w, (callFunc gf args).run Tryz.prog w = .ok (.enter gf args) w)
    (hseq : ∀ W1, Below w.heap.size w W1 → w.heap.size ≤ W1.heap.size → SeqT Fence.wide 4 Tryz.prog gf lb encD (fun pre x _ => pre ++ [x] <+: L) (fun xs => xs = L) O n0 L.length W1) :
    Calls Tryz.prog 120 #[.slice none 0 0, .func (.func gf) #[] lb] w fun e w' => ∃ v, e = .returned v ∧ OwnD w' w.heap.size v L ∧ Below n0 w w' := by
  refine (callsIn_wide (n := 5)).1 ?_
  refine callsIn_of_wp_marks Tryz.func120 rfl trivial ?_ rfl
  simp only [Tryz.ntmps120, List.size_toArray, List.length_cons, List.length_nil, Nat.reduceAdd, Nat.reduceSub, Array.replicate_succ, Array.replicate_zero, List.push_toArray, List.append_toArray, List.nil_append, List.cons_append]
  gi_wp2
  generalize hW0 : w.alloc _ = W0
  obtain ⟨hsz, hB0, o1⟩ : W0.heap.size = w.heap.size + 1 ∧ Below w.heap.size w W0 ∧ One W0 w.heap.size (.slice none 0 0) 34 := by
    subst hW0
    exact ⟨by simp, (Below.refl _ w).alloc (Nat.le_refl _) _, heap_alloc_new _ _⟩
  clear hW0
  refine wpIn_rangeFunc_total (F := Fence.wide) (n := 5) rfl (by omega) (gf := gf) (lb := lb) rfl trivial eg (encs := encD) (It := fun pre x _ => pre ++ [x] <+: L) (S := fun xs => xs = L) (O := O) (n0 := n0) (N := L.length) (by omega) (fun k h => by have := (hO k h).2; omega)
    (fun W1 hb1 hs1 => hseq W1 (hB0.trans (hb1.mono (by omega))) (by omega)) (fun _ => rfl)
    (CollI w n0)
    (fun G s A B hG hs hk => by
      obtain ⟨ov, a1, a2, a3, a4, a5⟩ := hs
      refine ⟨ov, a1.of_block (hk.block _ a1.lt ⟨fun h => ?_, by omega⟩), a2.kept (U := fun _ => True) (fun k hk2 => hk.block _ (a2.lt k hk2).2 ⟨a3 k hk2, ?_⟩), a3, hk.to_below a4 (by omega) (fun k hk2 => ⟨fun h => ?_, by omega⟩), Nat.le_trans a5 hk.size⟩
      · rcases hG _ h with h | h
        · omega
        · have := (hO _ h).2; omega
      · have := (a2.lt k hk2).1; omega
      · rcases hG _ h with h | h
        · omega
        · have := (hO _ h).1; omega)
    (fun _ _ _ _ h _ => h)
    (fun G W' hG hb => ⟨.slice none 0 0, o1.of_block (hb.block _ (by omega)), OwnD.nil _ _, (fun k h => by cases h), (hB0.trans (hb.mono (by omega))).mono hn0, by have := hb.size; omega⟩)
    (CollG w fun p y => #[.slice none 0 0, .func (.func gf) #[] lb, .pointer (some ⟨w.heap.size, 0, none⟩), undef, .slice none 0 0, p, .func (.func gf) #[] lb, y, undef, undef, undef, undef, undef])
    (fun x a A B hg hk => by
      obtain ⟨g, h1, h2, h3, h4⟩ := hg
      exact ⟨g, h1, h2.of_block (hk.block g h3 (by omega)), Nat.lt_of_lt_of_le h3 hk.size, h4⟩)
    ?assign ?body ?done
  case assign =>
    intro l pre x W K hit hs hK
    have hx : x.length = 32 := h32 x (hit.subset (by simp))
    gi_wp2_with ((with_reducible refine wpListIn_round (o := ⟨none, Op.store 31 _ _, _, _, _, _⟩) rfl ?_ ?_); (intro c hc; cases hc); refine wp_store_fresh (.tmp 5) (.tmp 7) x rfl rfl rfl rfl hx ?_; intro w2 hd2 hb2 hl2)
    exact hK _ _ hb2 ⟨W.heap.size, by omega, hd2, hl2, rfl⟩
  case body =>
    rintro l G pre x a' W hG hGl ⟨ov, q1, q2, q3, q4, q5⟩ hpre ⟨g, g1, g2, g3, rfl⟩ hlen hW2
    have hx : x.length = 32 := h32 x (hpre.subset (by simp))
    have hx32 : Dig32 [x] := fun d hd => by simp at hd; rw [hd]; exact hx
    obtain ⟨oa, oc, hv⟩ := q2.digs.len
    subst hv
    have qc := q1.cell
    have qf := q1.free
    have hGw : ¬ G w.heap.size := fun h => by
      rcases hG _ h with h | h
      · omega
      · have := (hO _ h).2; omega
    have HQ2 := Lib.hid q2
    have HG2 := Lib.hid g2
    gi_wp2_with (first
      | ((with_reducible refine wpListIn_round (o := ⟨some 9, _, _, _, _, _⟩) rfl ?_ ?_); (intro c hc; cases hc); refine wp_load_at (ty := 31) (x := .tmp 5) rfl rfl HG2.out ?_)
      | ((with_reducible refine wpListIn_round (o := ⟨some 10, _, _, _, _, _⟩) rfl ?_ ?_); (intro c hc; cases hc); refine wp_buildDigs 1 #[(0, .tmp 9)] [x] rfl rfl (by simp) (by simp) hx32 (by simp only [List.map_toArray, List.map_cons, List.map_nil]; rfl) ?_; intro w2 ho2 hb2 hs2; have HO2 := Lib.hid ho2.digs; have HB2 := Lib.hid hb2; have HQ3 := Lib.hid (q2.kept (U := fun _ => True) (w' := w2) (fun k hk2 => hb2.block _ (q2.lt k hk2).2)); have qc2 := (q1.of_new hb2).cell; have qf2 := (q1.of_new hb2).free; clear ho2 hb2)
      | ((with_reducible refine wpListIn_round (o := ⟨some 11, _, _, _, _, _⟩) rfl ?_ ?_); (intro c hc; cases hc); refine wp_appD (.tmp 8) (.tmp 10) rfl (w.heap.size + 3) _ pre rfl HQ3.out _ [x] rfl HO2.out (by simp; omega) (by omega) ?_; intro v3 w3 ho3 hg3 hu3; obtain ⟨va, vc, hv3⟩ := ho3.digs.len; subst hv3; have q13 := (q1.of_new HB2.out).grown hg3 (fun e => by have := (HQ3.out.lt _ e.symm).1; omega); have qc3 := q13.cell; have qf3 := q13.free))
    have hwne : ∀ r, (Value.slice oa pre.length oc).ownBlock = some r → w.heap.size + 3 ≤ r := fun r e => (q2.lt r e).1
    have ho4 : OwnD (w3.setCell ⟨w.heap.size, 0, none⟩ (.slice va (pre.length + 1) vc)) (w.heap.size + 3) (.slice va (pre.length + 1) vc) (pre ++ [x]) := by
      rw [List.length_append, List.length_singleton] at ho3
      exact ho3.kept (U := fun _ => True) (fun k hk2 => Below.heap_setCell _ _ _ _ (by have := (ho3.lt k hk2).1; show k ≠ w.heap.size; omega))
    refine ⟨(((Kept.refl _ W).below HB2.out).grown hg3 (fun r e => ?_)).setCell (fun h => ?_) _, _, q13.set _, ho4, fun k hk2 hGk => ?_, ?_, ?_⟩
    · rintro (h | h | h | h)
      · exact q3 r e h
      · have := hwne r e; omega
      · have := hwne r e; omega
      · have := hwne r e; omega
    · rcases h with h | h | h | h
      · exact hGw h
      · dsimp only at h; omega
      · dsimp only at h; omega
      · dsimp only at h; omega
    · rcases hu3 k (by rw [List.length_append] at *; exact hk2) with h | h
      · exact q3 k h hGk
      · have := hGl k hGk; omega
    · have hA : Below n0 w w2 := q4.trans (HB2.out.mono (by omega))
      exact (hA.grown hg3 (by omega) (fun r e => by have := hwne r e; omega)).setCell (by show n0 ≤ w.heap.size; omega) _
    · have := hg3.size
      simp only [World.size_setCell]; omega
  case done =>
    rintro G xs W rfl ⟨ov, q1, q2, q3, q4, q5⟩ hW2 hD
    obtain ⟨oa, oc, hv⟩ := q2.digs.len
    subst hv
    have qc := q1.cell
    have qf := q1.free
    gi_wp2
    refine ⟨by simp, .inl ⟨_, _, rfl, run_takeDeferred hD, ?_⟩⟩
    refine ⟨_, results_tmp rfl _ _ _, ?_⟩
    have ho := q2.kept (U := fun _ => True) (w' := W.putObj W0.heap.size (.deferred none)) (fun k hk2 => World.putObj_heap_other (by have := (q2.lt k hk2).1; omega))
    exact ⟨_, rfl, ⟨ho.1, ho.2.1, ho.2.2.imp id fun ⟨g, cap, cur, h1, h2, h3⟩ => ⟨g, cap, cur, h1, by omega, h3⟩⟩, q4.grown (grownBy_putObj' _ _ _) (by omega) (fun k e => by cases e; omega)⟩

set_option maxHeartbeats 800000 in
theorem CollectD_any (gf : Nat) (lb : Array Value) (L : List (List UInt8)) (n0 : Nat) (O : Nat → Prop) (w : World) (h32 : Dig32 L) (hL : L.length ≤ 1048576) (hn0 : n0 ≤ w.heap.size) (hO : ∀ k, O k → n0 ≤ k ∧ k < w.heap.size)
    (eg : ∀ args w, (callFunc gf args).run Tryz.prog w = .ok (.enter gf args) w)
    (hseq : ∀ W1, Below w.heap.size w W1 → w.heap.size ≤ W1.heap.size → SeqT Fence.wide 4 Tryz.prog gf lb encD (fun pre x _ => pre ++ [x] <+: L) (fun xs => xs = L) O n0 L.length W1) :
    Calls Tryz.prog 75 #[.func (.func gf) #[] lb] w fun e w' => ∃ v, e = .returned v ∧ OwnD w' w.heap.size v L ∧ Below n0 w w' := by
  go_enter Tryz.func75, Tryz.ntmps75
  go_wp2_with fail
  refine (AppendSeqD_any gf lb L n0 O w h32 hL hn0 hO eg hseq).mono ?_
  rintro e w2 ⟨v, rfl, ho, hb⟩
  go_wp2
  go_ret
  exact ⟨v, rfl, ho, hb⟩

end Go.Proofs.YtnohglkilpnjhaaGreatDoor

/- The walks of manifest.leaves: the maker, and the iterator over the hashes of bytes' pieces. Conditions: the table of constants as the program lays it; pieces of 1 to 2^20 bytes of no more than 2^40. -/
namespace Go.Proofs.YtnohglkilpnjhaaGreatDoor
open Go.RowKit Go.Shelf
attribute [local go_sem] Oper.semAt_some
set_option linter.unusedVariables false
set_option linter.unusedSimpArgs false
set_option maxRecDepth 100000

/-- The hashes of the pieces. -/
def leavesL (b : List UInt8) (k : Nat) : List (List UInt8) := (chunksL b k).map leafL
theorem leavesL_len (b : List UInt8) (k : Nat) : (leavesL b k).length = (b.length + k - 1) / k := by simp [leavesL, chunksL_len]
theorem leavesL_32 (b : List UInt8) (k : Nat) : Dig32 (leavesL b k) := fun d hd => by
  obtain ⟨c, _, rfl⟩ := List.mem_map.1 hd
  exact leafL_len c

set_option maxHeartbeats 800000 in
theorem leaves_any (a : Option Addr) (n c : Nat) (k : Int) (w : World) :
    Calls Tryz.prog 76 #[.slice a n c, .int .i64 k] w fun e w' =>
      e = .returned (.func (.func 121) #[] #[.pointer (some ⟨w.heap.size, 0, none⟩), .pointer (some ⟨w.heap.size + 1, 0, none⟩)]) ∧ w' = (w.alloc (.cells #[.slice a n c] 33)).alloc (.cells #[.int .i64 k] 3) := by
  go_enter Tryz.func76, Tryz.ntmps76
  go_wp2
  go_ret
  exact ⟨rfl, rfl⟩

theorem roundIn_wide {l l' n n' : Nat} {P : Program} {f : FuncId} {tmps : Array Value} {assign body : Code} {w : World} {R : Ending → World → Prop} (h : RoundIn Fence.wide n P l f tmps assign body w R) : RoundIn (Fence.wide.inRound l') n' P l f tmps assign body w R :=
  ⟨h.1, fun c cs hr => h.2 c cs (fun d hd => by cases hd)⟩

/-- What holds ahead of each round of the range over the pieces. -/
def LeavesI (w0 : World) (gy l : Nat) (J : List (List UInt8) → World → Prop) (pre : List (List UInt8 × Value)) (W : World) : Prop :=
  J (pre.map (leafL ·.1)) W ∧ One W gy (.func (.yield l) #[] #[]) 210 ∧ Below w0.heap.size w0 W

set_option maxHeartbeats 3200000 in
theorem leaves_seq (bs bn : Nat) (v : Value) (b : List UInt8) (k : Nat) (hk : 1 ≤ k) (hk2 : k ≤ 1048576) (hlen : b.length ≤ 1099511627776) (W w0 : World) (hc1 : One W bs v 33) (hc2 : One W bn (.int .i64 (k : Int)) 3) (hl : Bytes w0 v b) (hK : Consts w0) (hb0 : Below w0.heap.size w0 W) :
    SeqT Fence.wide 4 Tryz.prog 121 #[.pointer (some ⟨bs, 0, none⟩), .pointer (some ⟨bn, 0, none⟩)] encD (fun pre x W' => pre ++ [x] <+: leavesL b k)
      (fun xs => xs = leavesL b k) (fun _ => False) w0.heap.size (leavesL b k).length W := fun l J hJ hY h0 => by
  have hsz0 := hb0.size
  obtain ⟨T, hT⟩ : ∃ T : (Nat → Prop) → Nat → Prop, T = fun G j => (W.heap.size ≤ j ∧ j < W.heap.size + 5) ∨ (G j ∧ W.heap.size ≤ j) := ⟨_, rfl⟩
  have hTF : ∀ G, Fresh (fun _ => False) (T G) W := fun G j hj => .inl (by rw [hT] at hj; rcases hj with h | h; exact h.1; exact h.2)
  have hJG := fun G => hJ (T G) (hTF G)
  have hYG := fun G pre x W1 => hY (T G) pre x W1 (hTF G)
  have h0G := fun G W' => h0 (T G) W' (hTF G)
  have hTi : ∀ G j, W.heap.size ≤ j → j < W.heap.size + 5 → T G j := fun G j h1 h2 => by rw [hT]; exact .inl ⟨h1, h2⟩
  have hTg : ∀ G j, G j → W.heap.size ≤ j → T G j := fun G j h1 h2 => by rw [hT]; exact .inr ⟨h1, h2⟩
  have hTo : ∀ G j, T G j → (W.heap.size ≤ j ∧ j < W.heap.size + 5) ∨ G j := fun G j h => by rw [hT] at h; exact h.imp id (·.1)
  clear hJ hY h0
  refine (CallsIn.mono (R := fun e W' => (∃ v, e = .returned v) ∧ ∃ G, J (T G) (leavesL b k) W') ?_ (fun e W' h => ⟨h.1, by obtain ⟨_, G, h⟩ := h; exact ⟨T G, _, hTF G, rfl, h⟩⟩))
  clear hTF hT
  obtain ⟨va, vc, hv⟩ := hl.len
  subst hv
  have c1 := fun o => (hc1.of_new ((Below.refl _ W).alloc (Nat.le_refl _) o)).cell
  have c2 := fun o => (hc2.of_new ((Below.refl _ W).alloc (Nat.le_refl _) o)).cell
  refine callsIn_of_wp_marks Tryz.func121 rfl trivial ?_ rfl
  simp only [Tryz.ntmps121, List.size_toArray, List.length_cons, List.length_nil, Nat.reduceAdd, Nat.reduceSub, Array.replicate_succ, Array.replicate_zero, List.push_toArray, List.append_toArray, List.nil_append, List.cons_append]
  gi_wp2_with (refine ⟨trivial, ?_⟩; gi_at_call 122; refine (callsIn_wide.2 (Chunk_any _ _ _ _ (by omega) _)).mono ?_; rintro e w' ⟨rfl, rfl⟩)
  generalize hW0 : ((W.alloc _).alloc _).alloc _ = W0
  obtain ⟨hsz, hB0, o1, o2, o3⟩ : W0.heap.size = W.heap.size + 3 ∧ Below W.heap.size W W0 ∧ One W0 W.heap.size (.func (.yield l) #[] #[]) 210 ∧ One W0 (W.heap.size + 1) (.slice va b.length vc) 33 ∧ One W0 (W.heap.size + 1 + 1) (.int .i64 (k : Int)) 3 := by
    subst hW0
    refine ⟨by simp, (((Below.refl _ W).alloc (Nat.le_refl _) _).alloc (by simp) _).alloc (by simp; omega) _, ?_, ?_, ?_⟩
    · exact (Below.heap_alloc _ _ _ (by simp; omega)).trans ((Below.heap_alloc _ _ _ (by simp)).trans (heap_alloc_new _ _))
    · refine (Below.heap_alloc _ _ _ (by simp)).trans ?_
      have := heap_alloc_new (W.alloc (.cells #[.func (.yield l) #[] #[]] 210)) (.cells #[.slice va b.length vc] 33)
      rwa [World.size_alloc] at this
    · have := heap_alloc_new ((W.alloc (.cells #[.func (.yield l) #[] #[]] 210)).alloc (.cells #[.slice va b.length vc] 33)) (.cells #[.int .i64 (k : Int)] 3)
      rwa [World.size_alloc, World.size_alloc] at this
  clear hW0 c1 c2
  refine wpIn_rangeFunc_total (F := Fence.wide) (n := 4) rfl (by omega) (gf := 163) (lb := #[.pointer (some ⟨W.heap.size + 1, 0, none⟩), .pointer (some ⟨W.heap.size + 1 + 1, 0, none⟩)]) rfl trivial
    (enters_of Tryz.func163 (by kernel_rfl) rfl)
    (encs := encC) (It := ChunkIt w0 b k) (S := fun xs => xs.map (·.1) = chunksL b k) (O := fun j => j = W.heap.size + 1 ∨ j = W.heap.size + 1 + 1) (n0 := w0.heap.size) (N := (chunksL b k).length) (by omega) (fun j h => by omega)
    (fun W1 hb1 hs1 => chunk_seq 3 (by omega) _ _ _ _ b k hk hk2 hlen W1 w0 (o2.of_block (hb1.block _ (by omega))) (o3.of_block (hb1.block _ (by omega))) hl)
    (fun _ => rfl)
    (fun G => LeavesI w0 W.heap.size l (J (T G)))
    (fun G s A B hG hs hkp => by
      obtain ⟨a1, a2, a3⟩ := hs
      have hno : ∀ j, j ≤ W.heap.size → ¬ G j := fun j hj h => by rcases hG j h with h | h <;> omega
      exact ⟨hJG G _ _ _ a1 (hkp.mono fun j _ hj => ⟨fun h => hj (hTg G j h (by rcases hG j h with h | h <;> omega)), fun h => hj (hTi G j (by omega) (by omega))⟩), a2.of_block (hkp.block _ a2.lt ⟨hno _ (Nat.le_refl _), by omega⟩), hkp.to_below a3 (by have := a2.lt; omega) (fun j hj => ⟨hno _ (by omega), by omega⟩)⟩)
    (fun _ _ _ _ h _ => h)
    (fun G W' hG hb => by
      have hbw : Below W.heap.size W W' := hB0.trans (hb.mono (by omega))
      exact ⟨h0G G W' hbw, o1.of_block (hb.block _ (by omega)), hb0.trans (hbw.mono (by omega))⟩)
    (fun x a W' => a = { tmps := #[.func (.yield l) #[] #[], .pointer (some ⟨bs, 0, none⟩), .pointer (some ⟨bn, 0, none⟩), .pointer (some ⟨W.heap.size, 0, none⟩), x.2, .slice va b.length vc, .int .i64 (k : Int),
      .func (.func 163) #[] #[.pointer (some ⟨W.heap.size + 1, 0, none⟩), .pointer (some ⟨W.heap.size + 1 + 1, 0, none⟩)], x.2, undef, undef, undef, undef, undef], defers := [] })
    (fun _ _ _ _ h _ => h)
    ?assign ?body ?done
  case assign =>
    rintro l' pre ⟨x, u⟩ W1 K ⟨_, hx⟩ _ hK2
    dsimp only at hx
    obtain ⟨ua, uc, hv⟩ := hx.len
    subst hv
    gi_wp2
    exact hK2 _ _ (Below.refl _ _) rfl
  case body =>
    rintro l' G pre ⟨x, u⟩ a' W1 hG hGl ⟨a1, a2, a3⟩ ⟨hpre, hx⟩ ha hlen hW2
    dsimp only at hx ha
    obtain ⟨ua, uc, hv⟩ := hx.len
    subst hv
    subst ha
    have hxk : x.length ≤ k := chunks_le x (hpre.subset (by simp))
    have hcy : ∀ w2, Grew W1 w2 → w2.cell? ⟨W.heap.size, 0, none⟩ = some (.func (.yield l) #[] #[]) := fun w2 h => (a2.of_new h).cell
    gi_wp2
    refine wpIn_region_class (ro := some l') (C := Grew W1) 3 (by kernel_rfl) (by kernel_rfl) (Grew.start _) ?_
    simp only [List.take_succ_cons, List.take_zero, List.drop_succ_cons, List.drop_zero]
    go_simp
    repeat (first
      | (go_big_quiet_want; (with_reducible apply quiet_load_at (ty := 31) (x := .tmp _)); rfl; rfl; assumption; go_simp; go_big_quiet_on)
      | (go_big_quiet_want; apply quiet_val; (intro w' hw'; go_simp; first | done | rfl); go_simp; go_big_quiet_on)
      | (go_big_quiet_want; apply quiet_call (f := 70); (intro w' hw'; go_simp; first | done | rfl); (intro w' hw'; exact Grew.call hw' (Leaf_any _ x w' (hx.of_new (below_next' a3 hw' (by omega))) (by omega) (hK.of_new (below_next' a3 hw' (by omega))))); go_simp; go_big_quiet_on)
      | (go_big_quiet_skip))
    refine wpQuiet_nil ?_
    intro w6 hw6
    rw [wF_some]
    have hpre2 : pre.map (leafL ·.1) ++ [leafL x] <+: leavesL b k := by
      have := hpre.map leafL
      rw [List.map_map, List.map_append] at this
      exact this
    have hlen2 : (pre.map (leafL ·.1)).length < (leavesL b k).length := by rw [List.length_map, leavesL, List.length_map]; exact hlen
    have hkw : Kept (fun j => ¬ T G j) W1 w6 := (Kept.refl _ W1).below hw6
    have a1' : J (T G) (pre.map (leafL ·.1)) w6 := hJG G _ _ _ a1 hkw
    have hTl : ∀ j, T G j → j < w6.heap.size := fun j hj => by have := hw6.size; rcases hTo G j hj with h | h; omega; (have := hGl j h; omega)
    obtain ⟨P, hP⟩ : ∃ P, pre.map (leafL ·.1) = P := ⟨_, rfl⟩
    rw [hP] at a1' hpre2 hlen2
    obtain ⟨d, hd⟩ : ∃ d, leafL x = d := ⟨_, rfl⟩
    rw [hd] at hpre2 ⊢
    obtain ⟨fn, tmps, assign, body, hy, hR⟩ := hYG G P d w6 hTl a1' hpre2 hlen2
    dsimp only [encD] at hy
    gi_wp2
    refine (roundIn_wide hR).mono ?_
    rintro e W3 ⟨rfl, hJ3, hk3⟩
    gi_wp2
    have hgy := hk3.block W.heap.size (by have := a2.lt; have := hw6.size; omega) (.inl (hTi G _ (Nat.le_refl _) (by omega)))
    refine ⟨((Kept.refl _ W1).below hw6).trans (hk3.mono fun j _ hj => ?_), ?_, (a2.of_new hw6).of_block hgy, hk3.to_below (below_next' a3 hw6 (by omega)) (by have := hw6.size; omega) (fun j hj => .inr hj)⟩
    · rcases hj with h | h | h | h
      · exact .inl (hTg G j h (by rcases hG j h with h | h <;> omega))
      · exact .inr h
      · exact .inl (hTi G j (by omega) (by omega))
      · exact .inl (hTi G j (by omega) (by omega))
    · rw [List.map_append, hP]; rw [← hd] at hJ3; exact hJ3
  case done =>
    rintro G xs W1 hxs ⟨a1, a2, a3⟩ hW2 hD
    have e : xs.map (leafL ·.1) = leavesL b k := by unfold leavesL; rw [← hxs, List.map_map]; rfl
    rw [e] at a1
    gi_wp2
    refine ⟨by simp, .inl ⟨_, _, rfl, run_takeDeferred hD, ?_⟩⟩
    refine ⟨_, results_none rfl _ _ _, ?_⟩
    exact ⟨⟨_, rfl⟩, G, hJG G _ _ _ a1 ((Kept.refl _ W1).putObj (fun h => h (hTi G _ (by omega) (by omega))) _)⟩

end Go.Proofs.YtnohglkilpnjhaaGreatDoor

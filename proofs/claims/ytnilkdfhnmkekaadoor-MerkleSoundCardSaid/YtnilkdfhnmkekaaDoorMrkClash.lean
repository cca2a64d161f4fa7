/- The walk of the document's answer's Clash. Conditions: no more than 1024 leaves, a place among them, as many hashes as are needed. -/
import Derived.Test.YtnilkdfhnmkekaaDoorMrkClashPlain
import Derived.Test.YtnilkdfhnmkekaaDoorMrkRefCheck
import Derived.Test.YtnilkdfhnmkekaaDoorMrkLawChecks
namespace Go.Proofs.YtnilkdfhnmkekaaDoor
open Go.RowKit
set_option linter.unusedVariables false
set_option linter.unusedSimpArgs false

/-- Two hashes as one value. -/
def PairV (x y : List UInt8) : Value := .agg ((x ++ y).map B8).toArray
/-- A block that holds two hashes. -/
def PairAt (w : World) (g : Nat) (x y : List UInt8) : Prop := w.heap[g]? = some (.cells ((x ++ y).map B8).toArray 41 (0, 0)) ∧ x.length = 32 ∧ y.length = 32
theorem PairAt.lt {w : World} {g : Nat} {x y : List UInt8} (h : PairAt w g x y) : g < w.heap.size := (Array.getElem?_eq_some_iff.1 h.1).1
theorem PairAt.of_new {w w' : World} {g : Nat} {x y : List UInt8} (h : PairAt w g x y) (hb : Below w.heap.size w w') : PairAt w' g x y := ⟨(hb.block _ h.lt).trans h.1, h.2⟩
theorem PairAt.of_block {w w' : World} {g : Nat} {x y : List UInt8} (h : PairAt w g x y) (hb : w'.heap[g]? = w.heap[g]?) : PairAt w' g x y := ⟨hb.trans h.1, h.2⟩
theorem PairAt.one {w : World} {g : Nat} {x y : List UInt8} (h : PairAt w g x y) : DigAt w g 0 x := (pair_at h.1 h.2.1 h.2.2).1
theorem PairAt.two {w : World} {g : Nat} {x y : List UInt8} (h : PairAt w g x y) : DigAt w g 32 y := (pair_at h.1 h.2.1 h.2.2).2

theorem infoPair : (Tryd.prog.info? 41).map (fun i => (i.zero, i.size, i.bytes)) = some (some (.agg ((List.replicate 64 (0 : UInt8)).map B8).toArray), 64, 64) := by kernel_rfl
theorem sizePair : (Tryd.prog.info? 41).map (·.size) = some 64 := by kernel_rfl

theorem run_build_pair (x y : List UInt8) (hx : x.length = 32) (hy : y.length = 32) (w : World) : (Instr.build 41 #[(0, .agg (x.map B8).toArray), (1, .agg (y.map B8).toArray)]).run Tryd.prog w = .ok (PairV x y) w := by
  obtain ⟨i, hi, hz, hsize, hby⟩ := info_parts infoPair
  obtain ⟨j, hj, hz2, hsize2, hby2⟩ := info_parts infoDig
  have hf := Great.fill_whole (s := 32) (by omega) [.agg (x.map B8).toArray, .agg (y.map B8).toArray] ((List.replicate 64 (0 : UInt8)).map B8).toArray (fun v hv => by
    simp at hv; rcases hv with rfl | rfl <;> simp [Value.cells, hx, hy]) (by simp)
  have hp : (([Value.agg (x.map B8).toArray, .agg (y.map B8).toArray].zipIdx 0).map fun x => (x.2, x.1)) = [(0, .agg (x.map B8).toArray), (1, .agg (y.map B8).toArray)] := rfl
  rw [hp] at hf
  refine run_build w 41 _ _ ?_
  unfold Program.built
  simp only [hi, Tryd.underlying41, hj, hz, hsize2]
  simp only [Value.cells]
  rw [hf]
  simp [Value.cells]

theorem quiet_build_pair {W : World} {o : Oper} {a : Act} {K : Act → Prop} {p q : Operand} {x y : List UInt8} (ho : o.op = .build 41 #[(0, p), (1, q)]) (hp : a.eval p = .agg (x.map B8).toArray) (hq : a.eval q = .agg (y.map B8).toArray)
    (hx : x.length = 32) (hy : y.length = 32) (hK : K (a.put o.dst (PairV x y))) : o.quiet Tryd.prog a (Grew W) K := by
  refine quiet_val (fun w hw => ?_) hK
  have := run_build_pair x y hx hy w
  unfold execOp
  simp only [ho, List.map_toArray, List.map_cons, List.map_nil, hp, hq, Sem.run_bind, this, Result.andThen_ok, Sem.run_pure]

theorem quiet_load_pair {W : World} {o : Oper} {a : Act} {K : Act → Prop} {p : Operand} {g : Nat} {x y : List UInt8} (ho : o.op = .load 41 p) (hp : a.eval p = .pointer (some ⟨g, 0, none⟩)) (h : PairAt W g x y)
    (hK : K (a.put o.dst (PairV x y))) : o.quiet Tryd.prog a (Grew W) K := by
  refine quiet_val (fun w hw => ?_) hK
  have := run_loadVar_row (P := Tryd.prog) w g 41 41 ((x ++ y).map B8).toArray (0, 0) _ (h.of_new hw).1 Tryd.underlying41 rfl (by rw [sizePair]; simp [h.2.1, h.2.2])
  unfold execOp
  simp only [ho, hp, Instr.loadAt, Instr.sureAddr, Sem.run_bind, Sem.run_pure, Result.andThen_ok, this]
  rfl

theorem wp_store_pair {w : World} {op : Oper} {a : Act} {K : Act → World → Prop} {Q : Exit → Act → World → Prop} (p q : Operand) (g : Nat) (x y u v : List UInt8) (ho : op.op = .store 41 p q)
    (hp : a.eval p = .pointer (some ⟨g, 0, none⟩)) (hq : a.eval q = PairV x y) (hx : x.length = 32) (hy : y.length = 32) (hg : PairAt w g u v)
    (h : ∀ w', PairAt w' g x y → w.grownBy w' (some g) → K (a.put op.dst undef) w') : op.wp Tryd.prog a w K Q := by
  have hrun := run_storeVar_row (P := Tryd.prog) w g 41 41 _ ((x ++ y).map B8).toArray hg.1 (by rw [sizePair]; simp [hx, hy]) (by simp [hx, hy, hg.2.1, hg.2.2]) (octs_one _)
  unfold PairV at hq
  unfold Oper.wp execOp
  simp only [ho, hp, hq, Instr.storeAt, Instr.sureAddr, Sem.run_bind, Sem.run_pure, Result.andThen_ok, hrun]
  exact h _ ⟨setRow_heap _ _ _ _ _ _ hg.1, hx, hy⟩ (grown_setRow _ _ _)

theorem run_equalIn_pair (d : Nat) (x y u v : List UInt8) (hx : x.length = 32) (hy : y.length = 32) (hu : u.length = 32) (hv : v.length = 32) (w : World) :
    (Op.equalIn (d + 3) 41 (PairV x y) (PairV u v)).run Tryd.prog w = .ok (decide (x = u ∧ y = v)) w := by
  have hsz : (sizeOf 25).run Tryd.prog w = .ok 32 w := by kernel_rfl
  have hag : (isAgg 25).run Tryd.prog w = .ok true w := by kernel_rfl
  have hp : ∀ (a b : List UInt8), a.length = 32 → b.length = 32 → ∀ i, i < 2 → (part 25 ((a ++ b).map B8).toArray (i * 32)).run Tryd.prog w = .ok (.agg ((if i = 0 then a else b).map B8).toArray) w := by
    intro a b ha hb i hi
    simp only [part, Sem.run_bind, hag, Result.andThen_ok, if_true, hsz, Sem.run_pure]
    congr 2
    apply Array.ext'
    simp only [Array.toList_extract, List.extract_eq_take_drop]
    match i, hi with
    | 0, _ => simp [ha, List.take_append_of_le_length]
    | 1, _ => simp [ha, hb, List.drop_append, List.take_of_length_le (l := b.map B8) (i := 32) (by simp [hb])]
  have hf : decide (x = u ∧ y = v) = (List.range 2).all (fun i => decide ((if i = 0 then x else y) = (if i = 0 then u else v))) := by
    simp [List.range_succ, Bool.decide_and]
  rw [hf]
  unfold PairV
  refine run_equalIn_array (d + 2) 41 25 2 32 _ _ _ Tryd.underlying41 hsz (fun i hi => ⟨_, _, hp x y hx hy i hi, hp u v hu hv i hi, ?_⟩)
  have h32 : ∀ (a b : List UInt8), a.length = 32 → b.length = 32 → (if i = 0 then a else b).length = 32 := fun a b ha hb => by split <;> assumption
  exact run_equalIn_octs d 25 5 _ _ (by rw [h32 x y hx hy, h32 u v hu hv]) (by rw [h32 x y hx hy]; exact Tryd.underlying25) Tryd.underlying5 (by kernel_rfl) (by kernel_rfl)
theorem run_neq_pair (x y u v : List UInt8) (hx : x.length = 32) (hy : y.length = 32) (hu : u.length = 32) (hv : v.length = 32) (w : World) :
    (binOp .neq 41 (PairV x y) (PairV u v)).run Tryd.prog w = .ok (.bool (!decide (x = u ∧ y = v))) w := by
  have := run_equalIn_pair 9997 x y u v hx hy hu hv w
  unfold PairV at this ⊢
  rw [run_neq_struct, this]; rfl
theorem guard_pair : Tryd.prog.eqGuardType Tryd.prog.depth 41 = false := by kernel_rfl

theorem two_pairs (w : World) : PairAt ((w.alloc (.cells ((List.replicate 64 (0 : UInt8)).map B8).toArray 41)).alloc (.cells ((List.replicate 64 (0 : UInt8)).map B8).toArray 41)) w.heap.size (List.replicate 32 0) (List.replicate 32 0) ∧
    PairAt ((w.alloc (.cells ((List.replicate 64 (0 : UInt8)).map B8).toArray 41)).alloc (.cells ((List.replicate 64 (0 : UInt8)).map B8).toArray 41)) (w.heap.size + 1) (List.replicate 32 0) (List.replicate 32 0) ∧
    Below w.heap.size w ((w.alloc (.cells ((List.replicate 64 (0 : UInt8)).map B8).toArray 41)).alloc (.cells ((List.replicate 64 (0 : UInt8)).map B8).toArray 41)) ∧
    ((w.alloc (.cells ((List.replicate 64 (0 : UInt8)).map B8).toArray 41)).alloc (.cells ((List.replicate 64 (0 : UInt8)).map B8).toArray 41)).heap.size = w.heap.size + 2 := by
  refine ⟨⟨(Below.heap_alloc _ _ _ (by simp)).trans (heap_alloc_new _ _), rfl, rfl⟩, ⟨?_, rfl, rfl⟩, ((Below.refl _ w).alloc (Nat.le_refl _) _).alloc (by simp) _, by simp⟩
  have := heap_alloc_new (w.alloc (.cells ((List.replicate 64 (0 : UInt8)).map B8).toArray 41)) (.cells ((List.replicate 64 (0 : UInt8)).map B8).toArray 41)
  rwa [World.size_alloc] at this

def ClashI (w : World) (ans : Bool) (g : Nat) (iv lv rv : Value) (wr : World) : Prop :=
  ∃ (k : Nat) (cur rest : List (List UInt8)) (x : List UInt8), iv = .int .i64 (k : Int) ∧ Digs wr lv cur ∧ (∀ q, lv.ownBlock = some q → q ≠ g) ∧ Digs w rv rest ∧ Octs wr g 25 x ∧ x.length = 32 ∧ k < cur.length ∧ cur.length ≤ 1024 ∧ cntP (walkN cur.length k) ≤ rest.length ∧
    clashL cur k x rest = ans ∧ Below w.heap.size w wr ∧ w.heap.size ≤ g ∧ g < wr.heap.size

theorem clash_fin {w w10 : World} {ans : Bool} {g k : Nat} {v7 v2 : Value} {cur nxt rest2 : List (List UInt8)} {y : List UInt8} {a : Option Addr} {cc : Nat} (hk : k / 2 < nxt.length) (h1 : nxt.length ≤ 1024) (h2 : nxt.length < cur.length) (hl : Digs w10 v7 nxt) (hdj : ∀ q, v7.ownBlock = some q → q ≠ g) (hr : Digs w v2 rest2)
    (hy : Octs w10 g 25 y) (h32 : y.length = 32) (hck : cntP (walkN nxt.length (k / 2)) ≤ rest2.length) (hf : clashL nxt (k / 2) y rest2 = ans) (hB : Below w.heap.size w w10) (hg : w.heap.size ≤ g) (hg2 : g < w10.heap.size) :
    ClashI w ans g (.int .i64 ((k : Int) / 2)) v7 v2 w10 ∧ lenV v7 < lenV (.slice a cur.length cc) := by
  refine ⟨⟨k / 2, nxt, rest2, y, by simp, hl, hdj, hr, hy, h32, hk, h1, hck, hf, hB, hg, hg2⟩, ?_⟩
  obtain ⟨a2, c2, rfl⟩ := hl.len
  exact h2

set_option maxRecDepth 100000 in
set_option maxHeartbeats 6400000 in
theorem Clash_any (v : Value) (l : List (List UInt8)) (i : Nat) (leaf : List UInt8) (u : Value) (proof : List (List UInt8)) (w : World) (hl : Digs w v l) (hi : i < l.length) (hlen : l.length ≤ 1024) (hleaf : leaf.length = 32) (hp : Digs w u proof) (hc : cntP (walkN l.length i) ≤ proof.length) :
    Calls Tryd.prog 24 #[v, .int .i64 (i : Int), .agg (leaf.map B8).toArray, u] w fun e w' => e = .returned (.bool (clashL l i leaf proof)) ∧ Below w.heap.size w w' := by
  obtain ⟨va, vc, hv⟩ := hl.len
  subst hv
  obtain ⟨ua, uc, hv⟩ := hp.len
  subst hv
  have hgd := guard_dig
  have hgp := guard_pair
  obtain ⟨ans, hans⟩ : ∃ a, clashL l i leaf proof = a := ⟨_, rfl⟩
  rw [hans]
  have HA := Lib.hid hans
  clear hans
  have hbx : DigAt (w.alloc (.cells (leaf.map B8).toArray 25)) w.heap.size 0 leaf := Octs.digAt (t := 25) (heap_alloc_new w _) hleaf
  have hbb := (Below.refl w.heap.size w).alloc (Nat.le_refl _) (.cells (leaf.map B8).toArray 25)
  go_enter Tryd.func24, Tryd.ntmps24
  generalize hW1 : (w.alloc (.cells (leaf.map B8).toArray 25)) = w1 at hbx hbb
  have HW := Lib.hid hW1
  clear hW1
  go_wp2_with (first
    | (rw [HW.out]; (with_reducible apply wpList_load_at (ty := 25) (x := .tmp _)); rfl; rfl; rfl; assumption)
    | ((with_reducible refine wpList_store_fresh (op := ⟨none, Op.store 25 (.tmp 10) (.tmp 16), _, _, _, _⟩) (.tmp 10) (.tmp 16) (leaf) ?_ ?_ ?_ ?_ ?_ ?_ ?_); rfl; rfl; rfl; rfl; rfl; exact hleaf; intro w2 hx2 ho2 hb2 hz2))
  have hB2 := below_next' hbb hb2 hbb.size
  have hl2 := hl.of_new hB2
  have hg2 : w.heap.size ≤ w1.heap.size := hbb.size
  have hne0 : ∀ q, (Value.slice va l.length vc).ownBlock = some q → q ≠ w1.heap.size := fun q e => by
    obtain ⟨b, off, c, hv⟩ := hl.shape (by omega)
    cases hv
    have := hl.blk (by omega)
    have e2 : some b = some q := e
    cases e2
    have := hbx.lt
    omega
  obtain ⟨g, hg⟩ : ∃ g, g = w1.heap.size := ⟨_, rfl⟩
  rw [← hg] at ho2 hz2 hg2 hne0 ⊢
  clear hx2 hb2 hbx hbb HW hg hl
  go_loopw [1, 9, 11] (ClashI w ans g) (fun _ lv _ _ => lenV lv)
  case atStart => exact ⟨i, l, proof, leaf, rfl, hl2, hne0, hp, ho2, hleaf, hi, hlen, hc, HA.out, hB2, hg2, hz2⟩
  case round =>
    clear hl2 hne0 hp ho2 hleaf hi hlen hc HA hB2 hg2 hz2
    obtain ⟨k, cur, rest, x, rfl, hl, hdj0, hp, ho', hx32, hi, hlen, hc, hcl, hB, hgg, hz⟩ := hrel
    obtain ⟨ca, cc, hv⟩ := hl.len
    subst hv
    obtain ⟨ra, rcc, hv⟩ := hp.len
    subst hv
    by_cases hlt : 1 < cur.length
    case neg =>
      have t1 : ¬ (1 : Int) < (cur.length : Int) := by omega
      rw [clashL_end (by omega)] at hcl
      have HCL := Lib.hid hcl
      clear hcl
      go_wp2
      go_ret
      exact ⟨by rw [← HCL.out]; rfl, hB⟩
    have t1 : (1 : Int) < (cur.length : Int) := by omega
    obtain ⟨b, off, c, hv⟩ := hl.shape (by omega)
    obtain ⟨rfl, rfl⟩ : ca = some ⟨b, off, none⟩ ∧ cc = c := by cases hv; exact ⟨rfl, rfl⟩
    clear hv
    rw [clashL_step hlt] at hcl
    rw [walkN_step hlt hlen, cntP_cons] at hc
    dsimp only at hc
    have hal := aboveL_len cur
    have HLK := Lib.hid (show k / 2 < (aboveL cur).length ∧ (aboveL cur).length ≤ 1024 ∧ (aboveL cur).length < cur.length by omega)
    have hl0 := hl
    have hxa := ho'.digAt hx32
    by_cases hz3 : besideZ cur.length k < 0
    · have ho : ¬ k % 2 = 1 := fun h => by rw [besideZ_odd hi h] at hz3; omega
      have he : ¬ k + 1 < cur.length := fun h => by rw [besideZ_even h ho] at hz3; omega
      rw [if_neg (by omega)] at hc
      rw [if_neg ho, if_neg he] at hcl
      have t2 : (k : Int) % 2 = 0 := by omega
      have t3 : ¬ (k : Int) + 1 < (cur.length : Int) := by omega
      have HCK := Lib.hid (show cntP (walkN (aboveL cur).length (k / 2)) ≤ rest.length by rw [hal]; omega)
      have HCL := Lib.hid hcl
      clear hcl hc hz3 hal he
      go_wp2_with fail
      generalize hW1 : (wr.alloc _).alloc _ = w1
      obtain ⟨_, _, hb1, hs1⟩ : PairAt w1 wr.heap.size (List.replicate 32 0) (List.replicate 32 0) ∧ PairAt w1 (wr.heap.size + 1) (List.replicate 32 0) (List.replicate 32 0) ∧ Below wr.heap.size wr w1 ∧ w1.heap.size = wr.heap.size + 2 := by
        subst hW1
        exact two_pairs wr
      have HS1 := Lib.hid hs1
      have hx1 := ho'.of_block (hb1.block _ hz)
      replace hl := hl.of_new hb1
      have hB1 := below_next' hB hb1 hB.size
      clear hW1 hs1 hxa hb1
      refine (Above_any _ cur _ hl (by omega)).mono ?_
      rintro e w7 ⟨v7, rfl, ho7, hb7⟩
      have hl7 := ho7.digs
      have hdj : ∀ q, v7.ownBlock = some q → q ≠ g := fun q e => by have := (ho7.lt q e).1; have := HS1.out; omega
      have hx7 := hx1.of_block (hb7.block _ (by have := HS1.out; omega))
      have hB7 := below_next' hB1 hb7 hB1.size
      have hz7 : g < w7.heap.size := by have := hb7.size; have := HS1.out; omega
      have hck := HCK.out
      have hlk := HLK.out
      have hcf := HCL.out
      have HF := Lib.hid hcf
      clear ho7 hb7 hl HCK HLK HCL hcf
      generalize aboveL cur = nxt at *
      obtain ⟨v7a, v7c, hv7⟩ := hl7.len
      subst hv7
      go_wp2
      exact clash_fin hlk.1 hlk.2.1 hlk.2.2 hl7 hdj hp hx7 hx32 hck HF.out hB7 hgg hz7
    · rw [if_pos (by omega)] at hc
      obtain ⟨rb, roff, rc, hv⟩ := hp.shape (by omega)
      obtain ⟨rfl, rfl⟩ : ra = some ⟨rb, roff, none⟩ ∧ rcc = rc := by cases hv; exact ⟨rfl, rfl⟩
      clear hv
      have hd := (hp.of_new hB).digAt (i := 0) (by omega)
      rw [Nat.zero_mul, Nat.add_zero] at hd
      obtain ⟨v2, hr2, hl2, _⟩ := hp.part (some (.int .i64 1)) none 1 rest.length (by omega) (by omega) (.inr ⟨_, rfl⟩) (.inl ⟨rfl, rfl⟩)
      have e1 : (rest.drop 1).take (rest.length - 1) = rest.tail := by rw [List.take_of_length_le (by simp)]; simp
      rw [e1] at hl2
      have HCK := Lib.hid (show cntP (walkN (aboveL cur).length (k / 2)) ≤ rest.tail.length by rw [hal]; simp; omega)
      have hrl : (0 : Int) < (rest.length : Int) := by omega
      have hrn : 0 < rest.length := by omega
      have hrle : rest.length ≤ 9223372036854775807 := by have := hp.le; unfold maxLen at this; omega
      clear e1 hc hal
      by_cases ho : k % 2 = 1
      · have hz4 := hz3
        clear hz3 hz4
        have t2 : (k : Int) % 2 = 1 := by omega
        have t3 : (0 : Int) ≤ (k : Int) - 1 := by omega
        have t4 : (k : Int) - 1 < (cur.length : Int) := by omega
        have t5 : ((k : Int) - 1).toNat = k - 1 := by omega
        have t6 : IntKind.i64.wrap ((k : Int) - 1) = (k : Int) - 1 := IntWalk.i64_in _ (by omega)
        have t7 : (k : Int) < (cur.length : Int) := by omega
        have t8 : (1 : Int) ≤ (k : Int) := by omega
        have t9 : 0 < k := by omega
        have t10 : (k : Int) ≤ (cur.length : Int) := by omega
        have t11 : k ≤ cur.length := by omega
        have t12 : 1 ≤ k := by omega
        rw [if_pos ho] at hcl
        have hd1 := hl.digAt (i := k - 1) (by omega)
        have hd2 := hl.digAt (i := k) (by omega)
        have hd10 := hd1
        have hd20 := hd2
        generalize cur.getD (k - 1) [] = d1 at *
        generalize cur.getD (k) [] = d2 at *
        generalize rest.getD 0 [] = d at *
        generalize rest.tail = rest2 at *
        obtain ⟨v2a, v2c, hv2⟩ := hl2.len
        subst hv2
        have HCL := Lib.hid hcl
        clear hcl
        go_wp2
        generalize hW1 : (wr.alloc _).alloc _ = w1
        obtain ⟨hp1, hp2, hb1, hs1⟩ : PairAt w1 wr.heap.size (List.replicate 32 0) (List.replicate 32 0) ∧ PairAt w1 (wr.heap.size + 1) (List.replicate 32 0) (List.replicate 32 0) ∧ Below wr.heap.size wr w1 ∧ w1.heap.size = wr.heap.size + 2 := by
          subst hW1
          exact two_pairs wr
        have HS1 := Lib.hid hs1
        clear hW1 hs1
        have hx := ho'.of_block (hb1.block _ hz)
        replace hl := hl.of_new hb1
        replace hd1 := hd1.of_new hb1
        replace hd2 := hd2.of_new hb1
        replace hd := hd.of_new hb1
        replace hxa := hxa.of_new hb1
        have hB1 := below_next' hB hb1 hB.size
        refine wp_region_grew_tail 5 (by kernel_rfl) (by kernel_rfl) ?_
        simp only [List.take_succ_cons, List.take_zero, List.drop_succ_cons, List.drop_zero]
        repeat (first
          | (go_big_quiet_want; (with_reducible apply quiet_build_pair (x := d) (y := x)); rfl; rfl; rfl; exact hd.1; exact hx32; go_simp; go_big_quiet_on)
          | (go_big_quiet_want; (with_reducible apply quiet_load_at (ty := 25) (x := .tmp _)); rfl; rfl; assumption; go_simp; go_big_quiet_on)
          | (go_big_quiet_want; apply quiet_val; (intro w' hw'; go_simp; first | done | rfl); go_simp; go_big_quiet_on)
          | (go_big_quiet_skip))
        refine wpQuiet_nil ?_
        intro w3 hw3
        refine wpList_plain rfl fun K hK => wp_store_pair (.tmp 12) (.tmp 29) wr.heap.size (d) (x) _ _ rfl rfl rfl hd.1 hx32 (hp1.of_new hw3) fun w4 hp4 hg4 => hK _ _ ?_
        simp only [Act.put]
        have hb34 : Below wr.heap.size w3 w4 := (Below.refl _ _).grown hg4 (by have := HS1.out; have := Below.size hw3; omega) (fun j e => by cases e; exact Nat.le_refl _)
        have hb14 : Below wr.heap.size wr w4 := (hb1.trans (Below.mono hw3 (by have := HS1.out; omega))).trans hb34
        have hl4 : Digs w4 (.slice (some ⟨b, off, none⟩) cur.length cc) cur := hl0.of_new hb14
        have hd1' : DigAt w4 _ _ d1 := hd10.of_new hb14
        have hd2' : DigAt w4 _ _ d2 := hd20.of_new hb14
        have hx4 := ho'.of_block (hb14.block _ hz)
        have hp24 := (hp2.of_new hw3).of_block (hg4.block _ (by have := HS1.out; have := Below.size hw3; omega) (by simp))
        have hB4 := below_next' hB hb14 hB.size
        have hs4 : wr.heap.size + 2 ≤ w4.heap.size := by have := HS1.out; have := Below.size hw3; have := hg4.size; omega
        clear hw3 hg4 hb34 hp1 hp2 hx hl hd1 hd2 hxa hB1 hb1
        go_wp2
        refine wp_region_grew_tail 10 (by kernel_rfl) (by kernel_rfl) ?_
        simp only [List.take_succ_cons, List.take_zero, List.drop_succ_cons, List.drop_zero]
        repeat (first
          | (go_big_quiet_want; (with_reducible apply quiet_build_pair (x := d1) (y := d2)); rfl; rfl; rfl; exact hd1'.1; exact hd2'.1; go_simp; go_big_quiet_on)
          | (go_big_quiet_want; (with_reducible apply quiet_load_at (ty := 25) (x := .tmp _)); rfl; rfl; assumption; go_simp; go_big_quiet_on)
          | (go_big_quiet_want; apply quiet_val; (intro w' hw'; go_simp; first | done | rfl); go_simp; go_big_quiet_on)
          | (go_big_quiet_skip))
        refine wpQuiet_nil ?_
        intro w5 hw5
        refine wpList_plain rfl fun K hK => wp_store_pair (.tmp 13) (.tmp 39) (wr.heap.size + 1) d1 d2 _ _ rfl rfl rfl hd1'.1 hd2'.1 (hp24.of_new hw5) fun w6 hp6 hg6 => hK _ _ ?_
        simp only [Act.put]
        have hb56 : Below wr.heap.size w5 w6 := (Below.refl _ _).grown hg6 (by have := Below.size hw5; omega) (fun j e => by cases e; omega)
        have hb16 : Below wr.heap.size wr w6 := (hb14.trans (Below.mono hw5 (by omega))).trans hb56
        have hl6 : Digs w6 (.slice (some ⟨b, off, none⟩) cur.length cc) cur := hl0.of_new hb16
        have hx6 := ho'.of_block (hb16.block _ hz)
        have hp46 := (hp4.of_new hw5).of_block (hg6.block _ (by have := Below.size hw5; omega) (by simp))
        have hB6 := below_next' hB hb16 hB.size
        have hs6 : wr.heap.size + 2 ≤ w6.heap.size := by have := Below.size hw5; have := hg6.size; omega
        have h1a := hd1'.1
        have h2a := hd2'.1
        have hda := hd.1
        have H1A := Lib.hid h1a
        have H2A := Lib.hid h2a
        have HDA := Lib.hid hda
        have HXA := Lib.hid hx32
        clear hw5 hg6 hb56 hp24 hl4 hx4 hB4 hd1' hd2' hd hd10 hd20 h1a h2a hda hp4 hx32
        go_wp2_with fail
        refine (Above_any _ cur _ hl6 (by omega)).mono ?_
        rintro e w7 ⟨v7, rfl, ho7, hb7⟩
        have hl7 := ho7.digs
        have hdj : ∀ q, v7.ownBlock = some q → q ≠ g := fun q e => by have := (ho7.lt q e).1; omega
        have hx7 := hx6.of_block (hb7.block _ (by omega))
        replace hp6 := hp6.of_new hb7
        replace hp46 := hp46.of_new hb7
        have hB7 := below_next' hB6 hb7 hB6.size
        have hs7 : wr.heap.size + 2 ≤ w7.heap.size := by have := hb7.size; omega
        clear ho7 hb7 hl6 hx6 hB6
        obtain ⟨v7a, v7c, hv7⟩ := hl7.len
        subst hv7
        have e1 := hp46.one
        have e2 := hp46.two
        have e3 := hp6.one
        have e4 := hp6.two
        have hck : cntP (walkN (aboveL cur).length (k / 2)) ≤ rest2.length := HCK.out
        have hlk : k / 2 < (aboveL cur).length ∧ (aboveL cur).length ≤ 1024 ∧ (aboveL cur).length < cur.length := HLK.out
        have hgx : w.heap.size ≤ g := hgg
        generalize aboveL cur = nxt at *
        by_cases hpe : d = d1 ∧ x = d2
        · have hdec : decide (d = d1 ∧ x = d2) = true := by simp [hpe.1, hpe.2]
          have hneq := run_neq_pair d x d1 d2 HDA.out HXA.out H1A.out H2A.out
          rw [hdec] at hneq
          have hfin := HCL.out
          rw [if_neg (fun h => h.1 hpe)] at hfin
          have HF := Lib.hid hfin
          clear hfin hdec hpe
          go_wp2
          refine wp_region_grew (by kernel_rfl) (by kernel_rfl) ?_
          repeat (first
            | (go_big_quiet_want; (with_reducible apply quiet_load_pair (x := d1) (y := d2)); rfl; rfl; exact hp6; go_simp; go_big_quiet_on)
            | (go_big_quiet_want; (with_reducible apply quiet_load_pair (x := d) (y := x)); rfl; rfl; exact hp46; go_simp; go_big_quiet_on)
            | (go_big_quiet_want; (with_reducible apply quiet_load_at (ty := 25) (x := .tmp _)); rfl; rfl; assumption; go_simp; go_big_quiet_on)
            | (go_big_quiet_want; apply quiet_val; (intro w' hw'; go_simp; first | done | rfl); go_simp; go_big_quiet_on)
            | (go_big_quiet_skip))
          refine wpQuiet_nil ?_
          intro w8 hw8
          have hx8 := hx7.of_block (hw8.block _ (by omega))
          have hl8 := hl7.of_new hw8
          have hB8 := below_next' hB7 hw8 hB7.size
          have hs8 : wr.heap.size + 2 ≤ w8.heap.size := by have := Below.size hw8; omega
          replace e1 := e1.of_new hw8
          replace e2 := e2.of_new hw8
          clear hw8 hl7 hB7 hx7 e3 e4 hneq hp46 hp6
          go_wp2_with ((with_reducible apply wpList_load_at (ty := 25) (x := .tmp _)); rfl; rfl; rfl; assumption)
          refine (RNode_any _ _ _ HDA.out HXA.out).mono ?_
          rintro e w9 ⟨rfl, hb9⟩
          have hx9 := hx8.of_block (hb9.block _ (by omega))
          have hl9 := hl8.of_new hb9
          have hB9 := below_next' hB8 hb9 hB8.size
          have hs9 : wr.heap.size + 2 ≤ w9.heap.size := by have := Below.size hb9; omega
          clear hb9 hl8 hB8 hx8 e1 e2
          go_wp2_with ((with_reducible refine wpList_plain (o := ⟨none, Op.store 25 (.tmp 10) (.tmp 89), _, _, _, _⟩) ?_ ?_); rfl; (intro K hK; refine wp_store_dig (.tmp 10) (.tmp 89) g x (nodeL d x) rfl rfl rfl hx9 HXA.out (nodeL_len _ _) (fun w10 hx10 hg10 => hK _ _ ?_)); simp only [Act.put])
          exact clash_fin hlk.1 hlk.2.1 hlk.2.2 (hl9.grown hg10 (fun q e e2 => hdj q e (Option.some.inj e2))) hdj hl2 hx10 (nodeL_len _ _) hck HF.out (hB9.grown hg10 hB9.size (fun j e => by cases e; exact hgx)) hgx (by have := hg10.size; omega)
        · have hdec : decide (d = d1 ∧ x = d2) = false := decide_eq_false hpe
          have hneq := run_neq_pair d x d1 d2 HDA.out HXA.out H1A.out H2A.out
          rw [hdec] at hneq
          have heql := run_eql_dig (nodeL d x) (nodeL d1 d2) (nodeL_len _ _) (nodeL_len _ _)
          have hfin := HCL.out
          by_cases hnn : nodeL d x = nodeL d1 d2
          · rw [if_pos ⟨hpe, hnn⟩] at hfin
            rw [decide_eq_true hnn] at heql
            have HF := Lib.hid hfin
            clear hfin hdec hpe hnn
            go_wp2
            refine wp_region_grew (by kernel_rfl) (by kernel_rfl) ?_
            repeat (first
              | (go_big_quiet_want; (with_reducible apply quiet_load_pair (x := d1) (y := d2)); rfl; rfl; exact hp6; go_simp; go_big_quiet_on)
              | (go_big_quiet_want; (with_reducible apply quiet_load_pair (x := d) (y := x)); rfl; rfl; exact hp46; go_simp; go_big_quiet_on)
              | (go_big_quiet_want; (with_reducible apply quiet_load_at (ty := 25) (x := .tmp _)); rfl; rfl; assumption; go_simp; go_big_quiet_on)
              | (go_big_quiet_want; apply quiet_val; (intro w' hw'; go_simp; first | done | rfl); go_simp; go_big_quiet_on)
              | (go_big_quiet_want; apply quiet_call (f := 19); (intro w' hw'; go_simp; first | done | rfl); (intro w' hw'; exact Grew.call hw' (RNode_any _ _ w' HDA.out HXA.out)); go_simp; go_big_quiet_on)
              | (go_big_quiet_want; apply quiet_call (f := 19); (intro w' hw'; go_simp; first | done | rfl); (intro w' hw'; exact Grew.call hw' (RNode_any _ _ w' H1A.out H2A.out)); go_simp; go_big_quiet_on)
              | (go_big_quiet_skip))
            refine wpQuiet_nil ?_
            intro w8 hw8
            have hB8 := below_next' hB7 hw8 hB7.size
            go_wp2
            go_ret
            exact ⟨by rw [← HF.out]; rfl, hB8⟩
          · rw [if_neg (fun h => hnn h.2)] at hfin
            rw [decide_eq_false hnn] at heql
            have HF := Lib.hid hfin
            clear hfin hdec hpe hnn
            go_wp2
            refine wp_region_grew (by kernel_rfl) (by kernel_rfl) ?_
            repeat (first
              | (go_big_quiet_want; (with_reducible apply quiet_load_pair (x := d1) (y := d2)); rfl; rfl; exact hp6; go_simp; go_big_quiet_on)
              | (go_big_quiet_want; (with_reducible apply quiet_load_pair (x := d) (y := x)); rfl; rfl; exact hp46; go_simp; go_big_quiet_on)
              | (go_big_quiet_want; (with_reducible apply quiet_load_at (ty := 25) (x := .tmp _)); rfl; rfl; assumption; go_simp; go_big_quiet_on)
              | (go_big_quiet_want; apply quiet_val; (intro w' hw'; go_simp; first | done | rfl); go_simp; go_big_quiet_on)
              | (go_big_quiet_want; apply quiet_call (f := 19); (intro w' hw'; go_simp; first | done | rfl); (intro w' hw'; exact Grew.call hw' (RNode_any _ _ w' HDA.out HXA.out)); go_simp; go_big_quiet_on)
              | (go_big_quiet_want; apply quiet_call (f := 19); (intro w' hw'; go_simp; first | done | rfl); (intro w' hw'; exact Grew.call hw' (RNode_any _ _ w' H1A.out H2A.out)); go_simp; go_big_quiet_on)
              | (go_big_quiet_skip))
            refine wpQuiet_nil ?_
            intro w8 hw8
            have hx8 := hx7.of_block (hw8.block _ (by omega))
            have hl8 := hl7.of_new hw8
            have hB8 := below_next' hB7 hw8 hB7.size
            have hs8 : wr.heap.size + 2 ≤ w8.heap.size := by have := Below.size hw8; omega
            replace e1 := e1.of_new hw8
            replace e2 := e2.of_new hw8
            clear hw8 hl7 hB7 hx7 e3 e4 hneq heql hp46 hp6
            go_wp2_with ((with_reducible apply wpList_load_at (ty := 25) (x := .tmp _)); rfl; rfl; rfl; assumption)
            refine (RNode_any _ _ _ HDA.out HXA.out).mono ?_
            rintro e w9 ⟨rfl, hb9⟩
            have hx9 := hx8.of_block (hb9.block _ (by omega))
            have hl9 := hl8.of_new hb9
            have hB9 := below_next' hB8 hb9 hB8.size
            have hs9 : wr.heap.size + 2 ≤ w9.heap.size := by have := Below.size hb9; omega
            clear hb9 hl8 hB8 hx8 e1 e2
            go_wp2_with ((with_reducible refine wpList_plain (o := ⟨none, Op.store 25 (.tmp 10) (.tmp 89), _, _, _, _⟩) ?_ ?_); rfl; (intro K hK; refine wp_store_dig (.tmp 10) (.tmp 89) g x (nodeL d x) rfl rfl rfl hx9 HXA.out (nodeL_len _ _) (fun w10 hx10 hg10 => hK _ _ ?_)); simp only [Act.put])
            exact clash_fin hlk.1 hlk.2.1 hlk.2.2 (hl9.grown hg10 (fun q e e2 => hdj q e (Option.some.inj e2))) hdj hl2 hx10 (nodeL_len _ _) hck HF.out (hB9.grown hg10 hB9.size (fun j e => by cases e; exact hgx)) hgx (by have := hg10.size; omega)
      · have he : k + 1 < cur.length := by
          by_cases h : k + 1 < cur.length
          · exact h
          · rw [besideZ_end h ho] at hz3; omega
        clear hz3
        have t2 : (k : Int) % 2 = 0 := by omega
        have t3 : (k : Int) + 1 < (cur.length : Int) := by omega
        have t4 : (0 : Int) ≤ (k : Int) + 1 := by omega
        have t5 : ((k : Int) + 1).toNat = k + 1 := by omega
        have t6 : IntKind.i64.wrap ((k : Int) + 1) = (k : Int) + 1 := IntWalk.i64_in _ (by omega)
        have t7 : (k : Int) < (cur.length : Int) := by omega
        rw [if_neg ho, if_pos he] at hcl
        have hd1 := hl.digAt (i := k) (by omega)
        have hd2 := hl.digAt (i := k + 1) (by omega)
        have hd10 := hd1
        have hd20 := hd2
        generalize cur.getD (k) [] = d1 at *
        generalize cur.getD (k + 1) [] = d2 at *
        generalize rest.getD 0 [] = d at *
        generalize rest.tail = rest2 at *
        obtain ⟨v2a, v2c, hv2⟩ := hl2.len
        subst hv2
        have HCL := Lib.hid hcl
        clear hcl
        go_wp2
        generalize hW1 : (wr.alloc _).alloc _ = w1
        obtain ⟨hp1, hp2, hb1, hs1⟩ : PairAt w1 wr.heap.size (List.replicate 32 0) (List.replicate 32 0) ∧ PairAt w1 (wr.heap.size + 1) (List.replicate 32 0) (List.replicate 32 0) ∧ Below wr.heap.size wr w1 ∧ w1.heap.size = wr.heap.size + 2 := by
          subst hW1
          exact two_pairs wr
        have HS1 := Lib.hid hs1
        clear hW1 hs1
        have hx := ho'.of_block (hb1.block _ hz)
        replace hl := hl.of_new hb1
        replace hd1 := hd1.of_new hb1
        replace hd2 := hd2.of_new hb1
        replace hd := hd.of_new hb1
        replace hxa := hxa.of_new hb1
        have hB1 := below_next' hB hb1 hB.size
        refine wp_region_grew_tail 5 (by kernel_rfl) (by kernel_rfl) ?_
        simp only [List.take_succ_cons, List.take_zero, List.drop_succ_cons, List.drop_zero]
        repeat (first
          | (go_big_quiet_want; (with_reducible apply quiet_build_pair (x := x) (y := d)); rfl; rfl; rfl; exact hx32; exact hd.1; go_simp; go_big_quiet_on)
          | (go_big_quiet_want; (with_reducible apply quiet_load_at (ty := 25) (x := .tmp _)); rfl; rfl; assumption; go_simp; go_big_quiet_on)
          | (go_big_quiet_want; apply quiet_val; (intro w' hw'; go_simp; first | done | rfl); go_simp; go_big_quiet_on)
          | (go_big_quiet_skip))
        refine wpQuiet_nil ?_
        intro w3 hw3
        refine wpList_plain rfl fun K hK => wp_store_pair (.tmp 12) (.tmp 50) wr.heap.size (x) (d) _ _ rfl rfl rfl hx32 hd.1 (hp1.of_new hw3) fun w4 hp4 hg4 => hK _ _ ?_
        simp only [Act.put]
        have hb34 : Below wr.heap.size w3 w4 := (Below.refl _ _).grown hg4 (by have := HS1.out; have := Below.size hw3; omega) (fun j e => by cases e; exact Nat.le_refl _)
        have hb14 : Below wr.heap.size wr w4 := (hb1.trans (Below.mono hw3 (by have := HS1.out; omega))).trans hb34
        have hl4 : Digs w4 (.slice (some ⟨b, off, none⟩) cur.length cc) cur := hl0.of_new hb14
        have hd1' : DigAt w4 _ _ d1 := hd10.of_new hb14
        have hd2' : DigAt w4 _ _ d2 := hd20.of_new hb14
        have hx4 := ho'.of_block (hb14.block _ hz)
        have hp24 := (hp2.of_new hw3).of_block (hg4.block _ (by have := HS1.out; have := Below.size hw3; omega) (by simp))
        have hB4 := below_next' hB hb14 hB.size
        have hs4 : wr.heap.size + 2 ≤ w4.heap.size := by have := HS1.out; have := Below.size hw3; have := hg4.size; omega
        clear hw3 hg4 hb34 hp1 hp2 hx hl hd1 hd2 hxa hB1 hb1
        go_wp2
        refine wp_region_grew_tail 10 (by kernel_rfl) (by kernel_rfl) ?_
        simp only [List.take_succ_cons, List.take_zero, List.drop_succ_cons, List.drop_zero]
        repeat (first
          | (go_big_quiet_want; (with_reducible apply quiet_build_pair (x := d1) (y := d2)); rfl; rfl; rfl; exact hd1'.1; exact hd2'.1; go_simp; go_big_quiet_on)
          | (go_big_quiet_want; (with_reducible apply quiet_load_at (ty := 25) (x := .tmp _)); rfl; rfl; assumption; go_simp; go_big_quiet_on)
          | (go_big_quiet_want; apply quiet_val; (intro w' hw'; go_simp; first | done | rfl); go_simp; go_big_quiet_on)
          | (go_big_quiet_skip))
        refine wpQuiet_nil ?_
        intro w5 hw5
        refine wpList_plain rfl fun K hK => wp_store_pair (.tmp 13) (.tmp 60) (wr.heap.size + 1) d1 d2 _ _ rfl rfl rfl hd1'.1 hd2'.1 (hp24.of_new hw5) fun w6 hp6 hg6 => hK _ _ ?_
        simp only [Act.put]
        have hb56 : Below wr.heap.size w5 w6 := (Below.refl _ _).grown hg6 (by have := Below.size hw5; omega) (fun j e => by cases e; omega)
        have hb16 : Below wr.heap.size wr w6 := (hb14.trans (Below.mono hw5 (by omega))).trans hb56
        have hl6 : Digs w6 (.slice (some ⟨b, off, none⟩) cur.length cc) cur := hl0.of_new hb16
        have hx6 := ho'.of_block (hb16.block _ hz)
        have hp46 := (hp4.of_new hw5).of_block (hg6.block _ (by have := Below.size hw5; omega) (by simp))
        have hB6 := below_next' hB hb16 hB.size
        have hs6 : wr.heap.size + 2 ≤ w6.heap.size := by have := Below.size hw5; have := hg6.size; omega
        have h1a := hd1'.1
        have h2a := hd2'.1
        have hda := hd.1
        have H1A := Lib.hid h1a
        have H2A := Lib.hid h2a
        have HDA := Lib.hid hda
        have HXA := Lib.hid hx32
        clear hw5 hg6 hb56 hp24 hl4 hx4 hB4 hd1' hd2' hd hd10 hd20 h1a h2a hda hp4 hx32
        go_wp2_with fail
        refine (Above_any _ cur _ hl6 (by omega)).mono ?_
        rintro e w7 ⟨v7, rfl, ho7, hb7⟩
        have hl7 := ho7.digs
        have hdj : ∀ q, v7.ownBlock = some q → q ≠ g := fun q e => by have := (ho7.lt q e).1; omega
        have hx7 := hx6.of_block (hb7.block _ (by omega))
        replace hp6 := hp6.of_new hb7
        replace hp46 := hp46.of_new hb7
        have hB7 := below_next' hB6 hb7 hB6.size
        have hs7 : wr.heap.size + 2 ≤ w7.heap.size := by have := hb7.size; omega
        clear ho7 hb7 hl6 hx6 hB6
        obtain ⟨v7a, v7c, hv7⟩ := hl7.len
        subst hv7
        have e1 := hp46.one
        have e2 := hp46.two
        have e3 := hp6.one
        have e4 := hp6.two
        have hck : cntP (walkN (aboveL cur).length (k / 2)) ≤ rest2.length := HCK.out
        have hlk : k / 2 < (aboveL cur).length ∧ (aboveL cur).length ≤ 1024 ∧ (aboveL cur).length < cur.length := HLK.out
        have hgx : w.heap.size ≤ g := hgg
        generalize aboveL cur = nxt at *
        by_cases hpe : x = d1 ∧ d = d2
        · have hdec : decide (x = d1 ∧ d = d2) = true := by simp [hpe.1, hpe.2]
          have hneq := run_neq_pair x d d1 d2 HXA.out HDA.out H1A.out H2A.out
          rw [hdec] at hneq
          have hfin := HCL.out
          rw [if_neg (fun h => h.1 hpe)] at hfin
          have HF := Lib.hid hfin
          clear hfin hdec hpe
          go_wp2
          refine wp_region_grew (by kernel_rfl) (by kernel_rfl) ?_
          repeat (first
            | (go_big_quiet_want; (with_reducible apply quiet_load_pair (x := d1) (y := d2)); rfl; rfl; exact hp6; go_simp; go_big_quiet_on)
            | (go_big_quiet_want; (with_reducible apply quiet_load_pair (x := x) (y := d)); rfl; rfl; exact hp46; go_simp; go_big_quiet_on)
            | (go_big_quiet_want; (with_reducible apply quiet_load_at (ty := 25) (x := .tmp _)); rfl; rfl; assumption; go_simp; go_big_quiet_on)
            | (go_big_quiet_want; apply quiet_val; (intro w' hw'; go_simp; first | done | rfl); go_simp; go_big_quiet_on)
            | (go_big_quiet_skip))
          refine wpQuiet_nil ?_
          intro w8 hw8
          have hx8 := hx7.of_block (hw8.block _ (by omega))
          have hl8 := hl7.of_new hw8
          have hB8 := below_next' hB7 hw8 hB7.size
          have hs8 : wr.heap.size + 2 ≤ w8.heap.size := by have := Below.size hw8; omega
          replace e1 := e1.of_new hw8
          replace e2 := e2.of_new hw8
          clear hw8 hl7 hB7 hx7 e3 e4 hneq hp46 hp6
          go_wp2_with ((with_reducible apply wpList_load_at (ty := 25) (x := .tmp _)); rfl; rfl; rfl; assumption)
          refine (RNode_any _ _ _ HXA.out HDA.out).mono ?_
          rintro e w9 ⟨rfl, hb9⟩
          have hx9 := hx8.of_block (hb9.block _ (by omega))
          have hl9 := hl8.of_new hb9
          have hB9 := below_next' hB8 hb9 hB8.size
          have hs9 : wr.heap.size + 2 ≤ w9.heap.size := by have := Below.size hb9; omega
          clear hb9 hl8 hB8 hx8 e1 e2
          go_wp2_with ((with_reducible refine wpList_plain (o := ⟨none, Op.store 25 (.tmp 10) (.tmp 89), _, _, _, _⟩) ?_ ?_); rfl; (intro K hK; refine wp_store_dig (.tmp 10) (.tmp 89) g x (nodeL x d) rfl rfl rfl hx9 HXA.out (nodeL_len _ _) (fun w10 hx10 hg10 => hK _ _ ?_)); simp only [Act.put])
          exact clash_fin hlk.1 hlk.2.1 hlk.2.2 (hl9.grown hg10 (fun q e e2 => hdj q e (Option.some.inj e2))) hdj hl2 hx10 (nodeL_len _ _) hck HF.out (hB9.grown hg10 hB9.size (fun j e => by cases e; exact hgx)) hgx (by have := hg10.size; omega)
        · have hdec : decide (x = d1 ∧ d = d2) = false := decide_eq_false hpe
          have hneq := run_neq_pair x d d1 d2 HXA.out HDA.out H1A.out H2A.out
          rw [hdec] at hneq
          have heql := run_eql_dig (nodeL x d) (nodeL d1 d2) (nodeL_len _ _) (nodeL_len _ _)
          have hfin := HCL.out
          by_cases hnn : nodeL x d = nodeL d1 d2
          · rw [if_pos ⟨hpe, hnn⟩] at hfin
            rw [decide_eq_true hnn] at heql
            have HF := Lib.hid hfin
            clear hfin hdec hpe hnn
            go_wp2
            refine wp_region_grew (by kernel_rfl) (by kernel_rfl) ?_
            repeat (first
              | (go_big_quiet_want; (with_reducible apply quiet_load_pair (x := d1) (y := d2)); rfl; rfl; exact hp6; go_simp; go_big_quiet_on)
              | (go_big_quiet_want; (with_reducible apply quiet_load_pair (x := x) (y := d)); rfl; rfl; exact hp46; go_simp; go_big_quiet_on)
              | (go_big_quiet_want; (with_reducible apply quiet_load_at (ty := 25) (x := .tmp _)); rfl; rfl; assumption; go_simp; go_big_quiet_on)
              | (go_big_quiet_want; apply quiet_val; (intro w' hw'; go_simp; first | done | rfl); go_simp; go_big_quiet_on)
              | (go_big_quiet_want; apply quiet_call (f := 19); (intro w' hw'; go_simp; first | done | rfl); (intro w' hw'; exact Grew.call hw' (RNode_any _ _ w' HXA.out HDA.out)); go_simp; go_big_quiet_on)
              | (go_big_quiet_want; apply quiet_call (f := 19); (intro w' hw'; go_simp; first | done | rfl); (intro w' hw'; exact Grew.call hw' (RNode_any _ _ w' H1A.out H2A.out)); go_simp; go_big_quiet_on)
              | (go_big_quiet_skip))
            refine wpQuiet_nil ?_
            intro w8 hw8
            have hB8 := below_next' hB7 hw8 hB7.size
            go_wp2
            go_ret
            exact ⟨by rw [← HF.out]; rfl, hB8⟩
          · rw [if_neg (fun h => hnn h.2)] at hfin
            rw [decide_eq_false hnn] at heql
            have HF := Lib.hid hfin
            clear hfin hdec hpe hnn
            go_wp2
            refine wp_region_grew (by kernel_rfl) (by kernel_rfl) ?_
            repeat (first
              | (go_big_quiet_want; (with_reducible apply quiet_load_pair (x := d1) (y := d2)); rfl; rfl; exact hp6; go_simp; go_big_quiet_on)
              | (go_big_quiet_want; (with_reducible apply quiet_load_pair (x := x) (y := d)); rfl; rfl; exact hp46; go_simp; go_big_quiet_on)
              | (go_big_quiet_want; (with_reducible apply quiet_load_at (ty := 25) (x := .tmp _)); rfl; rfl; assumption; go_simp; go_big_quiet_on)
              | (go_big_quiet_want; apply quiet_val; (intro w' hw'; go_simp; first | done | rfl); go_simp; go_big_quiet_on)
              | (go_big_quiet_want; apply quiet_call (f := 19); (intro w' hw'; go_simp; first | done | rfl); (intro w' hw'; exact Grew.call hw' (RNode_any _ _ w' HXA.out HDA.out)); go_simp; go_big_quiet_on)
              | (go_big_quiet_want; apply quiet_call (f := 19); (intro w' hw'; go_simp; first | done | rfl); (intro w' hw'; exact Grew.call hw' (RNode_any _ _ w' H1A.out H2A.out)); go_simp; go_big_quiet_on)
              | (go_big_quiet_skip))
            refine wpQuiet_nil ?_
            intro w8 hw8
            have hx8 := hx7.of_block (hw8.block _ (by omega))
            have hl8 := hl7.of_new hw8
            have hB8 := below_next' hB7 hw8 hB7.size
            have hs8 : wr.heap.size + 2 ≤ w8.heap.size := by have := Below.size hw8; omega
            replace e1 := e1.of_new hw8
            replace e2 := e2.of_new hw8
            clear hw8 hl7 hB7 hx7 e3 e4 hneq heql hp46 hp6
            go_wp2_with ((with_reducible apply wpList_load_at (ty := 25) (x := .tmp _)); rfl; rfl; rfl; assumption)
            refine (RNode_any _ _ _ HXA.out HDA.out).mono ?_
            rintro e w9 ⟨rfl, hb9⟩
            have hx9 := hx8.of_block (hb9.block _ (by omega))
            have hl9 := hl8.of_new hb9
            have hB9 := below_next' hB8 hb9 hB8.size
            have hs9 : wr.heap.size + 2 ≤ w9.heap.size := by have := Below.size hb9; omega
            clear hb9 hl8 hB8 hx8 e1 e2
            go_wp2_with ((with_reducible refine wpList_plain (o := ⟨none, Op.store 25 (.tmp 10) (.tmp 89), _, _, _, _⟩) ?_ ?_); rfl; (intro K hK; refine wp_store_dig (.tmp 10) (.tmp 89) g x (nodeL x d) rfl rfl rfl hx9 HXA.out (nodeL_len _ _) (fun w10 hx10 hg10 => hK _ _ ?_)); simp only [Act.put])
            exact clash_fin hlk.1 hlk.2.1 hlk.2.2 (hl9.grown hg10 (fun q e e2 => hdj q e (Option.some.inj e2))) hdj hl2 hx10 (nodeL_len _ _) hck HF.out (hB9.grown hg10 hB9.size (fun j e => by cases e; exact hgx)) hgx (by have := hg10.size; omega)

end Go.Proofs.YtnilkdfhnmkekaaDoor

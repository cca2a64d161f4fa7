/- Facts about memory as closed words (a hash at a place, one cell with a slice of hashes), and the laws that use them. No condition. -/
import Derived.Test.YtnohglkilpnjhaaDigs
import Derived.Great.BuildSlice
namespace Go.Proofs.Ytnohglkilpnjhaa
open Go.RowKit
set_option linter.unusedVariables false
set_option linter.unusedSimpArgs false

/-- At that place lies the hash d. -/
def DigAt (w : World) (g off : Nat) (d : List UInt8) : Prop := d.length = 32 ∧ ∀ j, j < 32 → w.cell? ⟨g, off + j, none⟩ = (d.map B8)[j]?
theorem DigAt.lt {w : World} {g off : Nat} {d : List UInt8} (h : DigAt w g off d) : g < w.heap.size := by
  have := h.2 0 (by omega)
  rw [List.getElem?_eq_getElem (by simp [h.1])] at this
  exact World.block_lt_of_cell? _ _ this
theorem DigAt.of_new {w w' : World} {g off : Nat} {d : List UInt8} (h : DigAt w g off d) (hg : Below w.heap.size w w') : DigAt w' g off d :=
  ⟨h.1, fun j hj => (hg.cell (p := ⟨g, off + j, none⟩) h.lt).trans (h.2 j hj)⟩
theorem DigAt.of_block {w w' : World} {g off : Nat} {d : List UInt8} (h : DigAt w g off d) (hg : w'.heap[g]? = w.heap[g]?) : DigAt w' g off d :=
  ⟨h.1, fun j hj => (World.cell?_of_block (a := ⟨g, off + j, none⟩) hg).trans (h.2 j hj)⟩
theorem Digs.digAt {w : World} {b off n c : Nat} {l : List (List UInt8)} (h : Digs w (.slice (some ⟨b, off, none⟩) n c) l) {i : Nat} (hi : i < l.length) : DigAt w b (off + i * 32) (l.getD i []) := by
  obtain ⟨b', off', c', hv, hb, hc⟩ := h.at_ (by omega)
  cases hv
  exact ⟨h.1.getD hi, hc i hi⟩
theorem Digs.digAt0 {w : World} {b n c : Nat} {l : List (List UInt8)} (h : Digs w (.slice (some ⟨b, 0, none⟩) n c) l) {i : Nat} (hi : i < l.length) : DigAt w b (i * 32) (l.getD i []) := by
  have := h.digAt hi
  rwa [Nat.zero_add] at this
theorem Octs.digAt {w : World} {g t : Nat} {d : List UInt8} (h : Octs w g t d) (hd : d.length = 32) : DigAt w g 0 d :=
  ⟨hd, fun j hj => by rw [Nat.zero_add]; simp [World.cell?, show w.heap[g]? = _ from h]⟩
theorem Digs.shape {w : World} {v : Value} {l : List (List UInt8)} (h : Digs w v l) (h0 : 0 < l.length) : ∃ b off c, v = .slice (some ⟨b, off, none⟩) l.length c := by
  obtain ⟨b, off, c, hv, _⟩ := h.at_ h0
  exact ⟨b, off, c, hv⟩
theorem OwnD.lt {w : World} {base : Nat} {v : Value} {l : List (List UInt8)} (h : OwnD w base v l) : ∀ k, v.ownBlock = some k → base ≤ k ∧ k < w.heap.size := World.ownsRow.lt h.2
theorem OwnD.mono {w : World} {base base' : Nat} {v : Value} {l : List (List UInt8)} (h : OwnD w base v l) (hb : base' ≤ base) : OwnD w base' v l :=
  ⟨h.1, h.2.1, h.2.2.imp id (fun ⟨g, cap, cur, a, b, c⟩ => ⟨g, cap, cur, a, Nat.le_trans hb b, c⟩)⟩

theorem OwnD.alloc {w : World} {base : Nat} {v : Value} {l : List (List UInt8)} (h : OwnD w base v l) (o : Obj) : OwnD (w.alloc o) base v l := h.of_new ((Below.refl _ _).alloc (Nat.le_refl _) o)

theorem wpList_load_at {w : World} {ops : Array Oper} {rest : List Oper} {op : Oper} {a : Act} {Q : Exit → Act → World → Prop} {ty : TypeId} {x : Operand} {g off : Nat} {d : List UInt8} (hgd : op.guard = none) (ho : op.op = .load 30 x)
    (hx : a.eval x = .pointer (some ⟨g, off, none⟩)) (hd : DigAt w g off d) (h : wpList Try.prog ops Q rest (a.put op.dst (.agg (d.map B8).toArray)) w) : wpList Try.prog ops Q (op :: rest) a w :=
  wpList_load_dig x g off d hgd ho hx hd.1 hd.2 h

theorem quiet_load_at {W : World} {o : Oper} {a : Act} {K : Act → Prop} {ty : TypeId} {x : Operand} {g off : Nat} {d : List UInt8} (ho : o.op = .load 30 x) (hx : a.eval x = .pointer (some ⟨g, off, none⟩))
    (hd : DigAt W g off d) (hK : K (a.put o.dst (.agg (d.map B8).toArray))) : o.quiet Try.prog a (Grew W) K :=
  quiet_load_dig x g off d ho hx hd.1 hd.lt hd.2 hK

/-- One hash that was laid in a new block. -/
theorem digs_one (w : World) (d : List UInt8) (hd : d.length = 32) : Digs (w.alloc (.cells (d.map B8).toArray 30)) (.slice (some ⟨w.heap.size, 0, none⟩) 1 1) [d] := by
  refine ⟨fun e he => by simp at he; rw [he]; exact hd, by simp [flatD, hd], _, 1, rfl, Nat.le_refl _, by unfold maxLen; omega, (fun h => by cases h), fun _ => ⟨_, 0, rfl, by simp, fun j hj => ?_⟩⟩
  have := heap_alloc_new w (.cells (d.map B8).toArray 30)
  simp only [World.cell?, Nat.zero_add, this]
  simp [flatD]

theorem digs_laid (w : World) (ds : List (List UInt8)) (h32 : Dig32 ds) (h1 : ds.length ≤ maxLen) : OwnD (w.alloc (.cells (flatD ds).toArray 30)) w.heap.size (.slice (some ⟨w.heap.size, 0, none⟩) ds.length ds.length) ds :=
  ⟨h32, by rw [flatD_len h32], .inr ⟨w.heap.size, ds.length, (flatD ds).toArray, rfl, Nat.le_refl _, heap_alloc_new _ _, Nat.le_refl _, h1, by simp [flatD_len h32], by rw [← flatD_len h32]; simp⟩⟩

set_option maxRecDepth 100000 in
/-- A slice literal of hashes. -/
theorem wpList_buildDigs {w : World} {ops : Array Oper} {rest : List Oper} {op : Oper} {a : Act} {Q : Exit → Act → World → Prop} (n : Nat) (parts : Array (Nat × Operand)) (ds : List (List UInt8)) (hgd : op.guard = none) (ho : op.op = .buildSlice 52 n parts)
    (hn : n = ds.length) (h0 : 0 < ds.length) (h1 : ds.length ≤ 1000) (h32 : Dig32 ds) (hp : (parts.map fun (i, x) => (i, a.eval x)).toList = ((ds.map fun d => Value.agg (d.map B8).toArray).zipIdx 0).map fun x => (x.2, x.1))
    (h : ∀ w', OwnD w' w.heap.size (.slice (some ⟨w.heap.size, 0, none⟩) n n) ds → Below w.heap.size w w' → w'.heap.size = w.heap.size + 1 → wpList Try.prog ops Q rest (a.put op.dst (.slice (some ⟨w.heap.size, 0, none⟩) n n)) w') : wpList Try.prog ops Q (op :: rest) a w := by
  obtain ⟨i, hi, hz, hsize, hby⟩ := info_parts infoDig
  subst hn
  refine wpList_buildSlice hgd 52 30 ds.length parts ho (flatD ds).toArray i _ Try.underlying52 hi hz (by rw [hsize]; omega) (by rw [hsize]; omega) ?_ (h _ (digs_laid w ds h32 (by unfold maxLen; omega)) ((Below.refl _ w).alloc (Nat.le_refl _) _) (by simp))
  rw [hp, hsize]
  rw [Great.fill_whole (by omega) _ _ (fun v hv => by
    obtain ⟨d, hd, rfl⟩ := List.mem_map.1 hv
    simp [Value.cells, h32 d hd]) (by simp)]
  congr 1
  simp [flatD, List.flatMap_map, Value.cells]

/-- A whole hash laid into the block that was made last. -/
theorem wpList_store_fresh {w : World} {A : Array Value} {ops : Array Oper} {rest : List Oper} {op : Oper} {a : Act} {Q : Exit → Act → World → Prop} (x y : Operand) (d : List UInt8) (hgd : op.guard = none) (ho : op.op = .store 30 x y)
    (hx : a.eval x = .pointer (some ⟨w.heap.size, 0, none⟩)) (hy : a.eval y = .agg (d.map B8).toArray) (hA : A.size = 32) (hd : d.length = 32)
    (h : ∀ w', DigAt w' w.heap.size 0 d → Octs w' w.heap.size 30 d → Below w.heap.size w w' → w.heap.size < w'.heap.size → wpList Try.prog ops Q rest (a.put op.dst undef) w') : wpList Try.prog ops Q (op :: rest) a (w.alloc (.cells A 30)) := by
  have ho' : Octs ((w.alloc (.cells A 30)).setRow w.heap.size (d.map B8).toArray) w.heap.size 30 d := setRow_heap _ _ _ _ _ _ (heap_alloc_new w _)
  exact wpList_store_row hgd 30 x y ho w.heap.size 30 A (d.map B8).toArray hx hy (heap_alloc_new w _) (by rw [info_dig]; simp [hd]) (by simp [hA, hd]) (octs_one d)
    (h _ (ho'.digAt hd) ho' (((Below.refl _ w).alloc (Nat.le_refl _) _).trans (below_setRow' _ _ _ (Nat.le_refl _))) (by simp))

end Go.Proofs.Ytnohglkilpnjhaa

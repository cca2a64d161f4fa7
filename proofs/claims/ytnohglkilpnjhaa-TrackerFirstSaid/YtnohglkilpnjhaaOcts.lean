/- Blocks that hold bytes, whole rows laid into a block: general laws for the walks. No condition. -/
import Derived.Test.YtnohglkilpnjhaaBase
import Derived.Test.YtnohglkilpnjhaaCommon
namespace Go.Proofs.Ytnohglkilpnjhaa
open Go.RowKit
set_option linter.unusedVariables false

theorem results_cell {fn : Func} {p : Tmp} {ty : TypeId} (h : fn.results = #[.cell p ty]) (tmps : Array Value) {P : Program} {w : World} {b : Nat} {v : Value} (hp : tmps.getD p undef = .pointer (some ⟨b, 0, none⟩))
    (hv : (loadVar ty ⟨b, 0, none⟩).run P w = .ok v w) : (results fn tmps).run P w = .ok v w := by
  simp only [results, h]
  have hp' : tmps[p]?.getD undef = .pointer (some ⟨b, 0, none⟩) := by simpa using hp
  simp [hp', asAddr, hv]

theorem wpList_store_row {P : Program} {ops : Array Oper} {rest : List Oper} {op : Oper} {a : Act} {w : World} {Q : Exit → Act → World → Prop} (hgd : op.guard = none) (ty : TypeId) (x y : Operand) (ho : op.op = .store ty x y)
    (g t : Nat) (old cells : Array Value) (hx : a.eval x = .pointer (some ⟨g, 0, none⟩)) (hy : a.eval y = .agg cells) (hg : w.heap[g]? = some (.cells old t (0, 0))) (hi : (P.info? ty).map (·.size) = some cells.size) (hs : old.size = cells.size)
    (h1 : cells.all (·.oneCell') = true) (h : wpList P ops Q rest (a.put op.dst undef) (w.setRow g cells)) : wpList P ops Q (op :: rest) a w :=
  wpList_plain hgd fun _ hK => by
    unfold Oper.wp execOp
    simp only [ho, hx, hy, Instr.storeAt, Instr.sureAddr, Sem.run_bind, Sem.run_pure, Result.andThen_ok, run_storeVar_row (P := P) w g t ty old cells hg hi hs h1]
    exact hK _ _ h

theorem below_setRow' {B : Nat} (w : World) (g : Nat) (cs : Array Value) (h : B ≤ g) : Below B w (w.setRow g cs) :=
  ⟨rfl, rfl, rfl, by simp [World.setRow], fun k hk => by simp only [World.setRow, Array.getElem?_modify]; rw [if_neg (by omega)]⟩

theorem grown_setRow (w : World) (g : Nat) (cs : Array Value) : w.grownBy (w.setRow g cs) (some g) :=
  ⟨rfl, rfl, rfl, by simp [World.setRow], fun k hk hne => by simp only [World.setRow, Array.getElem?_modify]; rw [if_neg (fun e => hne (by rw [e]))]⟩

/-- A block that holds bytes. -/
def Octs (w : World) (g t : Nat) (bs : List UInt8) : Prop := w.heap[g]? = some (.cells (bs.map B8).toArray t (0, 0))
theorem Octs.of_block {w w' : World} {g t : Nat} {bs : List UInt8} (h : Octs w g t bs) (e : w'.heap[g]? = w.heap[g]?) : Octs w' g t bs := by
  unfold Octs at *; rw [e]; exact h

theorem Octs.cell {w : World} {g t : Nat} {bs : List UInt8} (h : Octs w g t bs) {j : Nat} (hj : j < bs.length) : w.cell? ⟨g, j, none⟩ = some (B8 (bs.getD j 0)) := by
  unfold Octs at h
  simp [World.cell?, h, List.getElem?_eq_getElem hj, List.getD]
theorem Octs.free {w : World} {g t : Nat} {bs : List UInt8} (h : Octs w g t bs) (j : Nat) : w.frozen? ⟨g, j, none⟩ = false := by
  unfold Octs at h
  simp [World.frozen?, h]
theorem Octs.set {w : World} {g t : Nat} {bs : List UInt8} (h : Octs w g t bs) (j : Nat) (x : UInt8) : Octs (w.setCell ⟨g, j, none⟩ (B8 x)) g t (bs.set j x) := by
  unfold Octs at *
  obtain ⟨hlt, hk⟩ := Array.getElem?_eq_some_iff.1 h
  show (w.heap.modify g _)[g]? = _
  rw [Array.getElem?_eq_getElem (by rw [Array.size_modify]; exact hlt), Array.getElem_modify_self, hk]
  simp [List.map_set]
theorem info_dig : (Try.prog.info? 30).map (·.size) = some 32 := by kernel_rfl
theorem octs_one (bs : List UInt8) : ((bs.map B8).toArray).all (·.oneCell') = true :=
  Array.all_eq_true_iff_forall_mem.2 (fun v hv => by
    obtain ⟨x, _, rfl⟩ := List.mem_map.1 (by simpa using hv)
    rfl)

theorem three_bytes (w : World) (e : TypeId) (f : Nat × Nat) (x y z : UInt8) : Bytes (w.alloc (.cells #[.int .u8 (x.toNat : Int), .int .u8 (y.toNat : Int), .int .u8 (z.toNat : Int)] e f)) (.slice (some ⟨w.heap.size, 0, none⟩) 3 3) [x, y, z] := by
  refine ⟨rfl, _, 3, rfl, Nat.le_refl _, by unfold maxLen; omega, (fun h => by cases h), fun _ => ⟨_, 0, rfl, by simp, fun j hj => ?_⟩⟩
  have hb := heap_alloc_new w (.cells #[.int .u8 (x.toNat : Int), .int .u8 (y.toNat : Int), .int .u8 (z.toNat : Int)] e f)
  simp only [World.cell?, hb]
  match j, hj with
  | 0, _ => rfl
  | 1, _ => rfl
  | 2, _ => rfl

theorem octs_new (w : World) (t : Nat) (A : Array Value) (xs bs : List UInt8) (hA : A = (xs.map B8).toArray) : Octs ((w.alloc (.cells A t)).setRow w.heap.size (bs.map B8).toArray) w.heap.size t bs ∧ Below w.heap.size w ((w.alloc (.cells A t)).setRow w.heap.size (bs.map B8).toArray) ∧ w.heap.size + 1 = ((w.alloc (.cells A t)).setRow w.heap.size (bs.map B8).toArray).heap.size := by
  subst hA
  exact ⟨setRow_heap _ _ _ _ _ _ (heap_alloc_new w _), ((Below.refl _ w).alloc (Nat.le_refl _) _).trans (below_setRow' _ _ _ (Nat.le_refl _)), by simp⟩

theorem octs_laid (w : World) (t : Nat) (A : Array Value) (bs : List UInt8) : Octs ((w.alloc (.cells A t)).setRow w.heap.size (bs.map B8).toArray) w.heap.size t bs :=
  setRow_heap _ _ _ _ _ _ (heap_alloc_new w _)

/-- A whole hash laid into a block of bytes. -/
theorem wpList_store_octs {P : Program} {ops : Array Oper} {rest : List Oper} {op : Oper} {a : Act} {w : World} {Q : Exit → Act → World → Prop} (ty : TypeId) (x y : Operand) (g t : Nat) (old ws : List UInt8) (hgd : op.guard = none) (ho : op.op = .store ty x y)
    (hx : a.eval x = .pointer (some ⟨g, 0, none⟩)) (hy : a.eval y = .agg (ws.map B8).toArray) (hg : Octs w g t old) (hi : (P.info? ty).map (·.size) = some ws.length) (hs : old.length = ws.length)
    (h : wpList P ops Q rest (a.put op.dst undef) (w.setRow g (ws.map B8).toArray)) : wpList P ops Q (op :: rest) a w :=
  wpList_store_row hgd ty x y ho g t _ _ hx hy hg (by rw [hi]; simp) (by simp [hs]) (octs_one ws) h

end Go.Proofs.Ytnohglkilpnjhaa

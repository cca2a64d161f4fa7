/- A message (api.Message) as a value: its cells, in a block, loads; slices of numbers and of members. No condition. -/
import Derived.Test.YtnomekfemadpeaaDigEq
import Derived.Test.YtnomekfemadpeaaWrSpec
import Derived.Test.YtnomekfemadpeaaMet
namespace Go.Proofs.Ytnomekfemadpeaa
open Go.RowKit
set_option linter.unusedVariables false
set_option linter.unusedSimpArgs false
set_option maxRecDepth 100000

def I64 (n : Int) : Value := .int .i64 n
def inI64 (n : Int) : Prop := -9223372036854775808 ≤ n ∧ n ≤ 9223372036854775807

/-- The slice value v reads as the numbers l. -/
def Ints (w : World) (v : Value) (l : List Int) : Prop := Row w v l.length 1 (l.map I64)
theorem Ints.len {w : World} {v : Value} {l : List Int} (h : Ints w v l) : ∃ a c, v = .slice a l.length c := h.shape
theorem Ints.le {w : World} {v : Value} {l : List Int} (h : Ints w v l) : l.length ≤ 9223372036854775807 := Row.le h
theorem Ints.of_new {w w' : World} {v : Value} {l : List Int} (h : Ints w v l) (hg : Below w.heap.size w w') : Ints w' v l := Row.of_new h hg
theorem Ints.cell {w : World} {v : Value} {l : List Int} (h : Ints w v l) (h0 : 0 < l.length) : ∃ b off c, v = .slice (some ⟨b, off, none⟩) l.length c ∧ b < w.heap.size ∧ ∀ j, j < l.length → w.cell? ⟨b, off + j, none⟩ = some (.int .i64 (l.getD j 0)) := by
  obtain ⟨_, a, c, rfl, _, _, _, h5⟩ := h
  obtain ⟨b, off, rfl, hb, hc⟩ := h5 (by omega)
  refine ⟨b, off, c, rfl, hb, fun j hj => ?_⟩
  rw [hc j (by omega)]
  simp [List.getElem?_map, List.getElem?_eq_getElem hj, List.getD, I64]

def MemL.cells (x : MemL) : List Value := [.int .i64 x.id, .int .i64 x.inc, .int .i64 x.state, .int .i64 x.since]
def MemL.ok (x : MemL) : Prop := inI64 x.id ∧ inI64 x.inc ∧ inI64 x.state ∧ inI64 x.since
def flatM (l : List MemL) : List Value := l.flatMap MemL.cells
theorem flatM_len (l : List MemL) : (flatM l).length = l.length * 4 := by
  induction l with
  | nil => rfl
  | cons x r ih => simp only [flatM, List.flatMap_cons, List.length_append, List.length_cons] at *; rw [ih]; simp [MemL.cells]; omega
def mem0 : MemL := ⟨0, 0, 0, 0⟩
theorem flatM_at : ∀ {l : List MemL} {i : Nat} (hi : i < l.length), (flatM l)[i * 4]? = some (.int .i64 (l.getD i mem0).id) ∧ (flatM l)[i * 4 + 1]? = some (.int .i64 (l.getD i mem0).inc) ∧ (flatM l)[i * 4 + 2]? = some (.int .i64 (l.getD i mem0).state) ∧ (flatM l)[i * 4 + 3]? = some (.int .i64 (l.getD i mem0).since)
  | [], i, hi => by simp at hi
  | x :: r, 0, _ => ⟨rfl, rfl, rfl, rfl⟩
  | x :: r, i + 1, hi => by
    have ih := flatM_at (l := r) (i := i) (by simpa using hi)
    have e : ∀ j, (flatM (x :: r))[(i + 1) * 4 + j]? = (flatM r)[i * 4 + j]? := fun j => by
      show (x.cells ++ flatM r)[(i + 1) * 4 + j]? = _
      rw [List.getElem?_append_right (by simp [MemL.cells]; omega)]
      congr 1
      simp [MemL.cells]; omega
    have e0 := e 0
    rw [Nat.add_zero, Nat.add_zero] at e0
    rw [e0, e 1, e 2, e 3]
    exact ih

/-- The slice value v reads as the members l. -/
def Mems (w : World) (v : Value) (l : List MemL) : Prop := Row w v l.length 4 (flatM l)
theorem Mems.len {w : World} {v : Value} {l : List MemL} (h : Mems w v l) : ∃ a c, v = .slice a l.length c := h.shape
theorem Mems.le {w : World} {v : Value} {l : List MemL} (h : Mems w v l) : l.length ≤ 9223372036854775807 := Row.le h
theorem Mems.of_new {w w' : World} {v : Value} {l : List MemL} (h : Mems w v l) (hg : Below w.heap.size w w') : Mems w' v l := Row.of_new h hg
/-- A member at a place. -/
def MemAt (w : World) (g off : Nat) (x : MemL) : Prop := w.cell? ⟨g, off, none⟩ = some (.int .i64 x.id) ∧ w.cell? ⟨g, off + 1, none⟩ = some (.int .i64 x.inc) ∧ w.cell? ⟨g, off + 2, none⟩ = some (.int .i64 x.state) ∧ w.cell? ⟨g, off + 3, none⟩ = some (.int .i64 x.since)
theorem MemAt.lt {w : World} {g off : Nat} {x : MemL} (h : MemAt w g off x) : g < w.heap.size := World.block_lt_of_cell? _ _ h.1
theorem MemAt.of_new {w w' : World} {g off : Nat} {x : MemL} (h : MemAt w g off x) (hg : Below w.heap.size w w') : MemAt w' g off x :=
  ⟨(hg.cell (p := ⟨g, off, none⟩) h.lt).trans h.1, (hg.cell (p := ⟨g, off + 1, none⟩) h.lt).trans h.2.1, (hg.cell (p := ⟨g, off + 2, none⟩) h.lt).trans h.2.2.1, (hg.cell (p := ⟨g, off + 3, none⟩) h.lt).trans h.2.2.2⟩
theorem Mems.cell {w : World} {v : Value} {l : List MemL} (h : Mems w v l) (h0 : 0 < l.length) : ∃ b off c, v = .slice (some ⟨b, off, none⟩) l.length c ∧ b < w.heap.size ∧ ∀ j, j < l.length → MemAt w b (off + j * 4) (l.getD j mem0) := by
  obtain ⟨_, a, c, rfl, _, _, _, h5⟩ := h
  obtain ⟨b, off, rfl, hb, hc⟩ := h5 (by omega)
  refine ⟨b, off, c, rfl, hb, fun j hj => ?_⟩
  obtain ⟨e0, e1, e2, e3⟩ := flatM_at hj
  have h0 := hc (j * 4) (by omega)
  have h1 := hc (j * 4 + 1) (by omega)
  have h2 := hc (j * 4 + 2) (by omega)
  have h3 := hc (j * 4 + 3) (by omega)
  rw [e0] at h0
  rw [e1] at h1
  rw [e2] at h2
  rw [e3] at h3
  exact ⟨h0, h1, h2, h3⟩

/-- A message's cells, its slices being these values. -/
structure MsgS where
  vi : Value
  vb : Value
  vp : Value
  vm : Value
def msgCells (m : MsgL) (s : MsgS) : List Value := .int .i64 m.kind :: (m.hash.map B8 ++ [.int .i64 m.piece, s.vi, s.vb, s.vp, s.vm, .bool m.seed])
/-- What the slices hold. -/
structure MsgR (w : World) (m : MsgL) (s : MsgS) : Prop where
  hash : m.hash.length = 32
  ids : Ints w s.vi m.ids
  bytes : Bytes w s.vb m.bytes
  proof : Digs w s.vp m.proof
  members : Mems w s.vm m.members
structure MsgL.ok (m : MsgL) : Prop where
  kind : inI64 m.kind
  piece : inI64 m.piece
  ids : ∀ n ∈ m.ids, inI64 n
  members : ∀ x ∈ m.members, x.ok
theorem MsgR.of_new {w w' : World} {m : MsgL} {s : MsgS} (h : MsgR w m s) (hg : Below w.heap.size w w') : MsgR w' m s := ⟨h.hash, h.ids.of_new hg, h.bytes.of_new hg, h.proof.of_new hg, h.members.of_new hg⟩
def MsgV (m : MsgL) (s : MsgS) : Value := .agg (msgCells m s).toArray
/-- The block g holds the message. -/
def MsgO (w : World) (g : Nat) (m : MsgL) (s : MsgS) : Prop := w.heap[g]? = some (.cells (msgCells m s).toArray 29 (0, 0)) ∧ m.hash.length = 32
theorem MsgO.lt {w : World} {g : Nat} {m : MsgL} {s : MsgS} (h : MsgO w g m s) : g < w.heap.size := (Array.getElem?_eq_some_iff.1 h.1).1
theorem MsgO.of_new {w w' : World} {g : Nat} {m : MsgL} {s : MsgS} (h : MsgO w g m s) (hb : Below w.heap.size w w') : MsgO w' g m s := ⟨(hb.block _ h.lt).trans h.1, h.2⟩
theorem MsgO.of_block {w w' : World} {g : Nat} {m : MsgL} {s : MsgS} (h : MsgO w g m s) (hb : w'.heap[g]? = w.heap[g]?) : MsgO w' g m s := ⟨hb.trans h.1, h.2⟩
theorem msg_alloc (w : World) {m : MsgL} {s : MsgS} (h : m.hash.length = 32) : MsgO (w.alloc (.cells (msgCells m s).toArray 29)) w.heap.size m s := ⟨heap_alloc_new w _, h⟩
theorem msgCells_len {m : MsgL} {s : MsgS} (h : m.hash.length = 32) : (msgCells m s).length = 39 := by simp [msgCells, h]
theorem MsgO.at_ {w : World} {g : Nat} {m : MsgL} {s : MsgS} (h : MsgO w g m s) (j : Nat) : w.cell? ⟨g, j, none⟩ = (msgCells m s)[j]? := by
  simp only [World.cell?, h.1]
  simp
theorem MsgO.kind {w : World} {g : Nat} {m : MsgL} {s : MsgS} (h : MsgO w g m s) : w.cell? ⟨g, 0, none⟩ = some (.int .i64 m.kind) := by rw [h.at_]; rfl
theorem msgCells_tail {m : MsgL} {s : MsgS} (h : m.hash.length = 32) (j : Nat) : (msgCells m s)[33 + j]? = [.int .i64 m.piece, s.vi, s.vb, s.vp, s.vm, .bool m.seed][j]? := by
  unfold msgCells
  rw [show 33 + j = (32 + j) + 1 by omega, List.getElem?_cons_succ, List.getElem?_append_right (by simp [h])]
  simp [h]
theorem MsgO.piece {w : World} {g : Nat} {m : MsgL} {s : MsgS} (h : MsgO w g m s) : w.cell? ⟨g, 33, none⟩ = some (.int .i64 m.piece) := by rw [h.at_]; exact msgCells_tail h.2 0
theorem MsgO.ids {w : World} {g : Nat} {m : MsgL} {s : MsgS} (h : MsgO w g m s) : w.cell? ⟨g, 34, none⟩ = some s.vi := by rw [h.at_]; exact msgCells_tail h.2 1
theorem MsgO.bytes {w : World} {g : Nat} {m : MsgL} {s : MsgS} (h : MsgO w g m s) : w.cell? ⟨g, 35, none⟩ = some s.vb := by rw [h.at_]; exact msgCells_tail h.2 2
theorem MsgO.proof {w : World} {g : Nat} {m : MsgL} {s : MsgS} (h : MsgO w g m s) : w.cell? ⟨g, 36, none⟩ = some s.vp := by rw [h.at_]; exact msgCells_tail h.2 3
theorem MsgO.members {w : World} {g : Nat} {m : MsgL} {s : MsgS} (h : MsgO w g m s) : w.cell? ⟨g, 37, none⟩ = some s.vm := by rw [h.at_]; exact msgCells_tail h.2 4
theorem MsgO.seed {w : World} {g : Nat} {m : MsgL} {s : MsgS} (h : MsgO w g m s) : w.cell? ⟨g, 38, none⟩ = some (.bool m.seed) := by rw [h.at_]; exact msgCells_tail h.2 5
theorem MsgO.hash {w : World} {g : Nat} {m : MsgL} {s : MsgS} (h : MsgO w g m s) : DigAt w g 1 m.hash := ⟨h.2, fun j hj => by
  rw [h.at_]
  unfold msgCells
  rw [show 1 + j = j + 1 by omega, List.getElem?_cons_succ, List.getElem?_append_left (by simp [h.2, hj])]⟩

theorem size_msg : (Try.prog.info? 29).map (·.size) = some 39 := by kernel_rfl
theorem run_load_msg {w : World} {g : Nat} {m : MsgL} {s : MsgS} (h : MsgO w g m s) : (loadVar 29 ⟨g, 0, none⟩).run Try.prog w = .ok (MsgV m s) w :=
  run_loadVar_row (P := Try.prog) w g 29 29 (msgCells m s).toArray (0, 0) _ h.1 Try.underlying29 rfl (by rw [size_msg]; simp [msgCells_len h.2])
theorem wp_load_msg {w : World} {o : Oper} {a : Act} {K : Act → World → Prop} {Q : Exit → Act → World → Prop} {p : Operand} {g : Nat} {m : MsgL} {s : MsgS} (ho : o.op = .load 29 p) (hp : a.eval p = .pointer (some ⟨g, 0, none⟩)) (h : MsgO w g m s)
    (hK : K (a.put o.dst (MsgV m s)) w) : o.wp Try.prog a w K Q := by
  refine wp_val (v := MsgV m s) ?_ hK
  have := run_load_msg h
  unfold execOp
  simp only [ho, hp, Instr.loadAt, Instr.sureAddr, Sem.run_bind, Sem.run_pure, Result.andThen_ok, this]
theorem quiet_load_msg {W : World} {o : Oper} {a : Act} {K : Act → Prop} {p : Operand} {g : Nat} {m : MsgL} {s : MsgS} (ho : o.op = .load 29 p) (hp : a.eval p = .pointer (some ⟨g, 0, none⟩)) (h : MsgO W g m s)
    (hK : K (a.put o.dst (MsgV m s))) : o.quiet Try.prog a (Grew W) K := by
  refine quiet_val (fun w hw => ?_) hK
  have := run_load_msg (h.of_new hw)
  unfold execOp
  simp only [ho, hp, Instr.loadAt, Instr.sureAddr, Sem.run_bind, Sem.run_pure, Result.andThen_ok, this]

end Go.Proofs.Ytnomekfemadpeaa

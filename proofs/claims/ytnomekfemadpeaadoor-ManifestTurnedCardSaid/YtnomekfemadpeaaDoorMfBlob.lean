/- What tells of a blob (api.Blob) as a value: its cells, loads, stores, '=='. No condition. -/
import Derived.Test.YtnomekfemadpeaaDoorMrkMore
namespace Go.Proofs.YtnomekfemadpeaaDoor
open Go.RowKit
set_option linter.unusedVariables false
set_option linter.unusedSimpArgs false
set_option maxRecDepth 100000

/-- What tells of a blob. -/
structure BlobL where
  dig : List UInt8
  size : Int
  piece : Int
  root : List UInt8
deriving DecidableEq

def BlobL.cells (x : BlobL) : List Value := x.dig.map B8 ++ (.int .i64 x.size :: .int .i64 x.piece :: x.root.map B8)
def BlobL.ok (x : BlobL) : Prop := x.dig.length = 32 ∧ x.root.length = 32
def BlobV (x : BlobL) : Value := .agg x.cells.toArray
def z32 : List UInt8 := List.replicate 32 0
def BlobL.zero : BlobL := ⟨z32, 0, 0, z32⟩
theorem BlobL.zero_ok : BlobL.zero.ok := ⟨rfl, rfl⟩
theorem BlobL.cells_len {x : BlobL} (h : x.ok) : x.cells.length = 66 := by simp [BlobL.cells, h.1, h.2]

/-- The block g holds what tells of the blob x. -/
def BlobO (w : World) (g : Nat) (x : BlobL) : Prop := w.heap[g]? = some (.cells x.cells.toArray 27 (0, 0)) ∧ x.ok
theorem BlobO.lt {w : World} {g : Nat} {x : BlobL} (h : BlobO w g x) : g < w.heap.size := (Array.getElem?_eq_some_iff.1 h.1).1
theorem BlobO.of_new {w w' : World} {g : Nat} {x : BlobL} (h : BlobO w g x) (hb : Below w.heap.size w w') : BlobO w' g x := ⟨(hb.block _ h.lt).trans h.1, h.2⟩
theorem BlobO.of_block {w w' : World} {g : Nat} {x : BlobL} (h : BlobO w g x) (hb : w'.heap[g]? = w.heap[g]?) : BlobO w' g x := ⟨hb.trans h.1, h.2⟩
theorem blob_alloc (w : World) {x : BlobL} (h : x.ok) : BlobO (w.alloc (.cells x.cells.toArray 27)) w.heap.size x := ⟨heap_alloc_new w _, h⟩
theorem BlobO.size {w : World} {g : Nat} {x : BlobL} (h : BlobO w g x) : w.cell? ⟨g, 32, none⟩ = some (.int .i64 x.size) := by
  simp only [World.cell?, h.1, BlobL.cells]
  have := h.2.1
  simp [List.getElem?_append_right, this]
theorem BlobO.piece {w : World} {g : Nat} {x : BlobL} (h : BlobO w g x) : w.cell? ⟨g, 33, none⟩ = some (.int .i64 x.piece) := by
  simp only [World.cell?, h.1, BlobL.cells]
  have := h.2.1
  simp [List.getElem?_append_right, this]
theorem BlobO.dig {w : World} {g : Nat} {x : BlobL} (h : BlobO w g x) : DigAt w g 0 x.dig := ⟨h.2.1, fun j hj => by
  have := h.2.1
  simp only [World.cell?, h.1, BlobL.cells, Nat.zero_add]
  simp [List.getElem?_append_left (show j < (x.dig.map B8).length by simp [this, hj])]⟩
theorem BlobO.root {w : World} {g : Nat} {x : BlobL} (h : BlobO w g x) : DigAt w g 34 x.root := ⟨h.2.2, fun j hj => by
  have h1 := h.2.1
  simp only [World.cell?, h.1, BlobL.cells]
  have e : 34 + j - 32 = j + 2 := by omega
  simp only [Option.isSome_none, Bool.false_eq_true, if_false, List.getElem?_toArray]
  rw [List.getElem?_append_right (by simp [h1]; omega)]
  simp [h1, e]⟩

theorem size_blob : (Tryd.prog.info? 27).map (·.size) = some 66 := by kernel_rfl
theorem cells_one (x : BlobL) : x.cells.toArray.all (·.oneCell') = true :=
  Array.all_eq_true_iff_forall_mem.2 (fun v hv => by
    have hv' : v ∈ x.cells := by simpa using hv
    simp only [BlobL.cells, List.mem_append, List.mem_cons, List.mem_map] at hv'
    rcases hv' with ⟨b, _, rfl⟩ | rfl | rfl | ⟨b, _, rfl⟩ <;> rfl)
theorem run_load_blob {w : World} {g : Nat} {x : BlobL} (h : BlobO w g x) : (loadVar 27 ⟨g, 0, none⟩).run Tryd.prog w = .ok (BlobV x) w :=
  run_loadVar_row (P := Tryd.prog) w g 27 27 x.cells.toArray (0, 0) _ h.1 Tryd.underlying27 rfl (by rw [size_blob]; simp [BlobL.cells_len h.2])
/-- A guarded operation that is met, at the head of a list. -/
theorem wpList_met {P : Program} {ops : Array Oper} {rest : List Oper} {o : Oper} {a : Act} {w : World} {Q : Exit → Act → World → Prop} (hw : Region.wanted o (yielded ops a.tmps) = true)
    (h : ∀ K : Act → World → Prop, (∀ a w, wpList P ops Q rest a w → K a w) → o.wp P a w K Q) : wpList P ops Q (o :: rest) a w :=
  wpList_step fun K hK => by rw [if_pos hw]; exact h K hK
theorem wp_load_blob {w : World} {o : Oper} {a : Act} {K : Act → World → Prop} {Q : Exit → Act → World → Prop} {p : Operand} {g : Nat} {x : BlobL} (ho : o.op = .load 27 p) (hp : a.eval p = .pointer (some ⟨g, 0, none⟩)) (h : BlobO w g x)
    (hK : K (a.put o.dst (BlobV x)) w) : o.wp Tryd.prog a w K Q := by
  refine wp_val (v := BlobV x) ?_ hK
  have := run_load_blob h
  unfold execOp
  simp only [ho, hp, Instr.loadAt, Instr.sureAddr, Sem.run_bind, Sem.run_pure, Result.andThen_ok, this]
theorem quiet_load_blob {W : World} {o : Oper} {a : Act} {K : Act → Prop} {p : Operand} {g : Nat} {x : BlobL} (ho : o.op = .load 27 p) (hp : a.eval p = .pointer (some ⟨g, 0, none⟩)) (h : BlobO W g x)
    (hK : K (a.put o.dst (BlobV x))) : o.quiet Tryd.prog a (Grew W) K := by
  refine quiet_val (fun w hw => ?_) hK
  have := run_load_blob (h.of_new hw)
  unfold execOp
  simp only [ho, hp, Instr.loadAt, Instr.sureAddr, Sem.run_bind, Sem.run_pure, Result.andThen_ok, this]
theorem wp_store_blob {w : World} {op : Oper} {a : Act} {K : Act → World → Prop} {Q : Exit → Act → World → Prop} (p q : Operand) (g : Nat) (x y : BlobL) (ho : op.op = .store 27 p q)
    (hp : a.eval p = .pointer (some ⟨g, 0, none⟩)) (hq : a.eval q = BlobV x) (hx : x.ok) (hg : BlobO w g y)
    (h : ∀ w', BlobO w' g x → w.grownBy w' (some g) → w'.heap.size = w.heap.size → K (a.put op.dst undef) w') : op.wp Tryd.prog a w K Q := by
  have hrun := run_storeVar_row (P := Tryd.prog) w g 27 27 _ x.cells.toArray hg.1 (by rw [size_blob]; simp [BlobL.cells_len hx]) (by simp [BlobL.cells_len hx, BlobL.cells_len hg.2]) (cells_one x)
  unfold BlobV at hq
  unfold Oper.wp execOp
  simp only [ho, hp, hq, Instr.storeAt, Instr.sureAddr, Sem.run_bind, Sem.run_pure, Result.andThen_ok, hrun]
  exact h _ ⟨setRow_heap _ _ _ _ _ _ hg.1, hx⟩ (grown_setRow _ _ _) (by simp [World.setRow])

/-! ### '==' -/

theorem eqFields_all {P : Program} {w : World} {d : Nat} {xs ys : Array Value} (g : Nat → Bool) : ∀ fs : List Field,
    (∀ f ∈ fs, f.name ≠ "_" ∧ ∃ a b, (part f.type xs f.offset).run P w = .ok a w ∧ (part f.type ys f.offset).run P w = .ok b w ∧ (Op.equalIn d f.type a b).run P w = .ok (g f.offset) w) →
    (Op.eqFields d xs ys fs).run P w = .ok (fs.all fun f => g f.offset) w
  | [], _ => by simp [Op.eqFields, Sem.run_pure]
  | f :: fs, h => by
    obtain ⟨hn, a, b, h1, h2, h3⟩ := h f (.head _)
    have ih := eqFields_all g fs (fun f' hf => h f' (.tail _ hf))
    simp only [Op.eqFields, hn, ne_eq, not_false_eq_true, if_true, Sem.run_bind, h1, h2, h3, Result.andThen_ok, List.all_cons]
    cases g f.offset
    · simp [Sem.run_pure]
    · simpa using ih

theorem fields_blob : (Tryd.prog.fieldsOf 27).toList.map (fun f => (f.name, f.type, f.offset)) = [("Digest", 25, 0), ("Size", 3, 32), ("Piece", 3, 33), ("Root", 25, 34)] := by kernel_rfl
theorem run_equalIn_blob (d : Nat) (x y : BlobL) (hx : x.ok) (hy : y.ok) (w : World) : (Op.equalIn (d + 3) 27 (BlobV x) (BlobV y)).run Tryd.prog w = .ok (decide (x = y)) w := by
  unfold BlobV
  rw [run_equalIn_struct w (d + 2) 27 _ _ (by kernel_rfl) (by kernel_rfl)]
  have hsz : (sizeOf 25).run Tryd.prog w = .ok 32 w := by kernel_rfl
  have hag : (isAgg 25).run Tryd.prog w = .ok true w := by kernel_rfl
  have hai : (isAgg 3).run Tryd.prog w = .ok false w := by kernel_rfl
  have p0 : ∀ z : BlobL, z.ok → (part 25 z.cells.toArray 0).run Tryd.prog w = .ok (.agg (z.dig.map B8).toArray) w := fun z hz => by
    simp only [part, Sem.run_bind, hag, Result.andThen_ok, if_true, hsz, Sem.run_pure]
    congr 2
    apply Array.ext'
    have := hz.1
    simp [Array.toList_extract, List.extract_eq_take_drop, BlobL.cells, List.take_append_of_le_length, this, List.take_of_length_le]
  have p1 : ∀ z : BlobL, z.ok → (part 3 z.cells.toArray 32).run Tryd.prog w = .ok (.int .i64 z.size) w := fun z hz => by
    have := hz.1
    simp [part, Sem.run_bind, hai, Sem.run_pure, BlobL.cells, List.getElem?_append_right, this]
  have p2 : ∀ z : BlobL, z.ok → (part 3 z.cells.toArray 33).run Tryd.prog w = .ok (.int .i64 z.piece) w := fun z hz => by
    have := hz.1
    simp [part, Sem.run_bind, hai, Sem.run_pure, BlobL.cells, List.getElem?_append_right, this]
  have p3 : ∀ z : BlobL, z.ok → (part 25 z.cells.toArray 34).run Tryd.prog w = .ok (.agg (z.root.map B8).toArray) w := fun z hz => by
    simp only [part, Sem.run_bind, hag, Result.andThen_ok, if_true, hsz, Sem.run_pure]
    congr 2
    apply Array.ext'
    have h1 := hz.1
    have h2 := hz.2
    simp [Array.toList_extract, List.extract_eq_take_drop, BlobL.cells, List.drop_append, h1, List.take_of_length_le, h2]
  have hd : ∀ a b : List UInt8, a.length = 32 → b.length = 32 → (Op.equalIn (d + 2) 25 (.agg (a.map B8).toArray) (.agg (b.map B8).toArray)).run Tryd.prog w = .ok (decide (a = b)) w := fun a b ha hb =>
    run_equalIn_octs d 25 5 a b (by omega) (by rw [ha]; exact Tryd.underlying25) Tryd.underlying5 (by kernel_rfl) (by kernel_rfl)
  have hi : ∀ a b : Int, (Op.equalIn (d + 2) 3 (.int .i64 a) (.int .i64 b)).run Tryd.prog w = .ok (a == b) w := fun a b => run_equalIn_int w (d + 1) 3 .i64 .i64 a b Tryd.underlying3
  obtain ⟨g, hg⟩ : ∃ g : Nat → Bool, g = fun k => if k = 0 then decide (x.dig = y.dig) else if k = 32 then x.size == y.size else if k = 33 then x.piece == y.piece else decide (x.root = y.root) := ⟨_, rfl⟩
  have hf := fields_blob
  generalize (Tryd.prog.fieldsOf 27).toList = fs at hf
  rw [eqFields_all g fs (fun f hfm => by
    have hm : (f.name, f.type, f.offset) ∈ fs.map (fun f => (f.name, f.type, f.offset)) := List.mem_map.2 ⟨f, hfm, rfl⟩
    rw [hf] at hm
    simp only [List.mem_cons, Prod.mk.injEq, List.not_mem_nil, or_false] at hm
    rcases hm with ⟨h1, h2, h3⟩ | ⟨h1, h2, h3⟩ | ⟨h1, h2, h3⟩ | ⟨h1, h2, h3⟩
    · rw [h1, h2, h3, hg]; exact ⟨by decide, _, _, p0 x hx, p0 y hy, hd _ _ hx.1 hy.1⟩
    · rw [h1, h2, h3, hg]; exact ⟨by decide, _, _, p1 x hx, p1 y hy, hi _ _⟩
    · rw [h1, h2, h3, hg]; exact ⟨by decide, _, _, p2 x hx, p2 y hy, hi _ _⟩
    · rw [h1, h2, h3, hg]; exact ⟨by decide, _, _, p3 x hx, p3 y hy, hd _ _ hx.2 hy.2⟩)]
  have e : (fs.all fun f => g f.offset) = (fs.map (fun f => (f.name, f.type, f.offset))).all (fun q => g q.2.2) := by rw [List.all_map]; rfl
  rw [e, hf, hg]
  congr 1
  obtain ⟨a, b, c, e⟩ := x
  obtain ⟨a', b', c', e'⟩ := y
  simp [Bool.decide_and]
  rw [Bool.eq_iff_iff]
  simp
theorem run_eql_blob (x y : BlobL) (hx : x.ok) (hy : y.ok) (w : World) : (binOp .eql 27 (BlobV x) (BlobV y)).run Tryd.prog w = .ok (.bool (decide (x = y))) w := by
  have := run_equalIn_blob 9997 x y hx hy w
  unfold BlobV at this ⊢
  rw [run_eql_struct, this]; rfl
theorem guard_blob : Tryd.prog.eqGuardType Tryd.prog.depth 27 = false := by kernel_rfl

theorem run_guard_blob (x y : Operand) (a b : BlobL) (w : World) : (eqGuard .eql 27 x y (BlobV a) (BlobV b)).run Tryd.prog w = .ok () w := run_eqGuard_agg (P := Tryd.prog) w .eql 27 x y a.cells.toArray b.cells.toArray guard_blob

/-! ### The literal -/

theorem fill_step {place : Nat → Option (Nat × Nat)} {i : Nat} {v : Value} {rest : List (Nat × Value)} {cs : Array Value} (A M N B : List Value) (hcs : cs = (A ++ (M ++ B)).toArray) (hp : place i = some (A.length, M.length)) (hv : v.cells = N.toArray) (hn : N.length = M.length) :
    Instr.fill place cs ((i, v) :: rest) = Instr.fill place (A ++ (N ++ B)).toArray rest := by
  subst hcs
  rw [Instr.fill]
  simp only [hp]
  rw [if_neg (by simp [hv, hn])]
  congr 1
  rw [hv]
  apply Array.ext_getElem?
  intro k
  have := (Great.foldl_set A.length N 0 (A ++ (M ++ B)).toArray).2 k
  rw [← Array.foldl_toList, Array.toList_zipIdx, List.toList_toArray, this]
  simp only [Nat.add_zero, List.getElem?_toArray, List.size_toArray, List.length_append]
  by_cases h1 : k < A.length
  · rw [if_neg (by omega), List.getElem?_append_left h1, List.getElem?_append_left h1]
  · by_cases h2 : k < A.length + N.length
    · rw [if_pos (by omega), List.getElem?_append_right (by omega), List.getElem?_append_left (by omega)]
    · rw [if_neg (by omega), List.getElem?_append_right (by omega), List.getElem?_append_right (by omega), List.getElem?_append_right (by omega), List.getElem?_append_right (by omega), hn]

theorem places_blob : ∃ (i : TypeInfo) (fs : Array Field), Tryd.prog.info? 27 = some i ∧ i.zero = some (.agg BlobL.zero.cells.toArray) ∧ Tryd.prog.underlying 27 = some (.struct fs) ∧
    fs.toList.mapM (fun f => (Tryd.prog.info? f.type).map fun i => (f.offset, i.size)) = some [(0, 32), (32, 1), (33, 1), (34, 32)] := by
  have hz : (Tryd.prog.info? 27).map (·.zero) = some (some (.agg BlobL.zero.cells.toArray)) := by kernel_rfl
  obtain ⟨i, hi, hz⟩ := Option.map_eq_some_iff.1 hz
  exact ⟨i, Tryd.prog.fieldsOf 27, hi, hz, by kernel_rfl, by kernel_rfl⟩
theorem run_build_blob (a b : List UInt8) (n k : Int) (ha : a.length = 32) (hb : b.length = 32) (w : World) :
    (Instr.build 27 #[(0, .agg (a.map B8).toArray), (1, .int .i64 n), (2, .int .i64 k), (3, .agg (b.map B8).toArray)]).run Tryd.prog w = .ok (BlobV ⟨a, n, k, b⟩) w := by
  refine run_build w 27 _ _ ?_
  obtain ⟨i, fs, h1, h2, h3, h4⟩ := places_blob
  unfold Program.built
  rw [h1, h3]
  simp only [h2, h4]
  have e0 : BlobL.zero.cells.toArray = ([] ++ (z32.map B8 ++ (Value.int .i64 0 :: Value.int .i64 0 :: z32.map B8))).toArray := rfl
  rw [show (Value.agg BlobL.zero.cells.toArray).cells = BlobL.zero.cells.toArray from rfl, e0]
  rw [fill_step [] (z32.map B8) (a.map B8) _ (by first | rfl | simp) rfl rfl (by simp [ha, z32])]
  rw [fill_step (a.map B8) [.int .i64 0] [.int .i64 n] (.int .i64 0 :: z32.map B8) (by first | rfl | simp) (by simp [ha]) rfl rfl]
  rw [fill_step (a.map B8 ++ [.int .i64 n]) [.int .i64 0] [.int .i64 k] (z32.map B8) (by first | rfl | simp) (by simp [ha]) rfl rfl]
  rw [fill_step (a.map B8 ++ [.int .i64 n, .int .i64 k]) (z32.map B8) (b.map B8) [] (by first | rfl | simp) (by simp [ha, z32]) (by first | rfl | simp) (by simp [hb, z32])]
  simp [Instr.fill, BlobL.cells]
theorem run_build_blob2 (n k : Int) (w : World) :
    (Instr.build 27 #[(1, .int .i64 n), (2, .int .i64 k)]).run Tryd.prog w = .ok (BlobV ⟨z32, n, k, z32⟩) w := by
  refine run_build w 27 _ _ ?_
  obtain ⟨i, fs, h1, h2, h3, h4⟩ := places_blob
  unfold Program.built
  rw [h1, h3]
  simp only [h2, h4]
  rw [show (Value.agg BlobL.zero.cells.toArray).cells = (z32.map B8 ++ ([Value.int .i64 0] ++ (Value.int .i64 0 :: z32.map B8))).toArray from rfl]
  rw [fill_step (z32.map B8) [.int .i64 0] [.int .i64 n] (.int .i64 0 :: z32.map B8) (by first | rfl | simp) (by simp [z32]) rfl rfl]
  rw [fill_step (z32.map B8 ++ [.int .i64 n]) [.int .i64 0] [.int .i64 k] (z32.map B8) (by first | rfl | simp) (by simp [z32]) rfl rfl]
  simp [Instr.fill, BlobL.cells]
theorem run_build_blob0 (w : World) : (Instr.build 27 #[]).run Tryd.prog w = .ok (BlobV BlobL.zero) w := by
  refine run_build w 27 _ _ ?_
  obtain ⟨i, fs, h1, h2, h3, h4⟩ := places_blob
  unfold Program.built
  rw [h1, h3]
  simp only [h2, h4]
  rfl

theorem wp_build_blob {w : World} {o : Oper} {a : Act} {K : Act → World → Prop} {Q : Exit → Act → World → Prop} {p q r s : Operand} (x y : List UInt8) (n k : Int) (ho : o.op = .build 27 #[(0, p), (1, q), (2, r), (3, s)])
    (hp : a.eval p = .agg (x.map B8).toArray) (hq : a.eval q = .int .i64 n) (hr : a.eval r = .int .i64 k) (hs : a.eval s = .agg (y.map B8).toArray) (hx : x.length = 32) (hy : y.length = 32) (hK : K (a.put o.dst (BlobV ⟨x, n, k, y⟩)) w) : o.wp Tryd.prog a w K Q := by
  refine wp_val ?_ hK
  have := run_build_blob x y n k hx hy w
  unfold execOp
  simp only [ho, List.map_toArray, List.map_cons, List.map_nil, hp, hq, hr, hs, Sem.run_bind, this, Result.andThen_ok, Sem.run_pure]
theorem wp_build_blob2 {w : World} {o : Oper} {a : Act} {K : Act → World → Prop} {Q : Exit → Act → World → Prop} {p q : Operand} (n k : Int) (ho : o.op = .build 27 #[(1, p), (2, q)])
    (hp : a.eval p = .int .i64 n) (hq : a.eval q = .int .i64 k) (hK : K (a.put o.dst (BlobV ⟨z32, n, k, z32⟩)) w) : o.wp Tryd.prog a w K Q := by
  refine wp_val ?_ hK
  have := run_build_blob2 n k w
  unfold execOp
  simp only [ho, List.map_toArray, List.map_cons, List.map_nil, hp, hq, Sem.run_bind, this, Result.andThen_ok, Sem.run_pure]
theorem wp_build_blob0 {w : World} {o : Oper} {a : Act} {K : Act → World → Prop} {Q : Exit → Act → World → Prop} (ho : o.op = .build 27 #[])
    (hK : K (a.put o.dst (BlobV BlobL.zero)) w) : o.wp Tryd.prog a w K Q := by
  refine wp_val ?_ hK
  have := run_build_blob0 w
  unfold execOp
  simp only [ho, List.map_toArray, List.map_nil, Sem.run_bind, this, Result.andThen_ok, Sem.run_pure]
theorem results_blob {fn : Func} {p q : Tmp} (h : fn.results = #[.cell p 27, .tmp q]) (tmps : Array Value) {w : World} {b : Nat} {x : BlobL} {u : Value} (hp : tmps.getD p undef = .pointer (some ⟨b, 0, none⟩)) (hq : tmps.getD q undef = u)
    (hx : BlobO w b x) : (results fn tmps).run Tryd.prog w = .ok (.tuple #[BlobV x, u]) w := by
  have hp' : tmps[p]?.getD undef = .pointer (some ⟨b, 0, none⟩) := by simpa using hp
  have hq' : tmps[q]?.getD undef = u := by simpa using hq
  simp [results, h, hp', hq', asAddr, run_load_blob hx]

end Go.Proofs.YtnomekfemadpeaaDoor

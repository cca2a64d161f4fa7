/- Texts of this claim, one behind the other: each begins with a comment that says what it proves and asks. -/
import Derived.Test.YtnohglkilpnjhaaGreatDoorNa10
import Derived.Deep.Cut
import Derived.BigQuiet
import Derived.Carry
/- What tells of a blob (api.Blob) as a value: its cells, loads, stores, '=='. No condition. -/
namespace Go.Proofs.YtnohglkilpnjhaaGreatDoor
open Go.RowKit
set_option linter.unusedVariables false
set_option linter.unusedSimpArgs false
set_option maxRecDepth 100000

/-- What tells of a blob. -/
structure BlobL where
  dig : List UInt8
  size : Int
  piece : Int
  root : List UInt8
deriving DecidableEq

def BlobL.cells (x : BlobL) : List Value := x.dig.map B8 ++ (.int .i64 x.size :: .int .i64 x.piece :: x.root.map B8)
def BlobL.ok (x : BlobL) : Prop := x.dig.length = 32 ∧ x.root.length = 32
def BlobV (x : BlobL) : Value := .agg x.cells.toArray
def z32 : List UInt8 := List.replicate 32 0
def BlobL.zero : BlobL := ⟨z32, 0, 0, z32⟩
theorem BlobL.zero_ok : BlobL.zero.ok := ⟨rfl, rfl⟩
theorem BlobL.cells_len {x : BlobL} (h : x.ok) : x.cells.length = 66 := by simp [BlobL.cells, h.1, h.2]

/-- The block g holds what tells of the blob x. -/
def BlobO (w : World) (g : Nat) (x : BlobL) : Prop := w.heap[g]? = some (.cells x.cells.toArray 81 (0, 0)) ∧ x.ok
theorem BlobO.lt {w : World} {g : Nat} {x : BlobL} (h : BlobO w g x) : g < w.heap.size := (Array.getElem?_eq_some_iff.1 h.1).1
theorem BlobO.of_new {w w' : World} {g : Nat} {x : BlobL} (h : BlobO w g x) (hb : Below w.heap.size w w') : BlobO w' g x := ⟨(hb.block _ h.lt).trans h.1, h.2⟩
theorem BlobO.of_block {w w' : World} {g : Nat} {x : BlobL} (h : BlobO w g x) (hb : w'.heap[g]? = w.heap[g]?) : BlobO w' g x := ⟨hb.trans h.1, h.2⟩
theorem blob_alloc (w : World) {x : BlobL} (h : x.ok) : BlobO (w.alloc (.cells x.cells.toArray 81)) w.heap.size x := ⟨heap_alloc_new w _, h⟩
theorem BlobO.size {w : World} {g : Nat} {x : BlobL} (h : BlobO w g x) : w.cell? ⟨g, 32, none⟩ = some (.int .i64 x.size) := by
  simp only [World.cell?, h.1, BlobL.cells]
  have := h.2.1
  simp [List.getElem?_append_right, this]
theorem BlobO.piece {w : World} {g : Nat} {x : BlobL} (h : BlobO w g x) : w.cell? ⟨g, 33, none⟩ = some (.int .i64 x.piece) := by
  simp only [World.cell?, h.1, BlobL.cells]
  have := h.2.1
  simp [List.getElem?_append_right, this]
theorem BlobO.dig {w : World} {g : Nat} {x : BlobL} (h : BlobO w g x) : DigAt w g 0 x.dig := ⟨h.2.1, fun j hj => by
  have := h.2.1
  simp only [World.cell?, h.1, BlobL.cells, Nat.zero_add]
  simp [List.getElem?_append_left (show j < (x.dig.map B8).length by simp [this, hj])]⟩
theorem BlobO.root {w : World} {g : Nat} {x : BlobL} (h : BlobO w g x) : DigAt w g 34 x.root := ⟨h.2.2, fun j hj => by
  have h1 := h.2.1
  simp only [World.cell?, h.1, BlobL.cells]
  have e : 34 + j - 32 = j + 2 := by omega
  simp only [Option.isSome_none, Bool.false_eq_true, if_false, List.getElem?_toArray]
  rw [List.getElem?_append_right (by simp [h1]; omega)]
  simp [h1, e]⟩

theorem size_blob : (Tryz.prog.info? 81).map (·.size) = some 66 := by kernel_rfl
theorem cells_one (x : BlobL) : x.cells.toArray.all (·.oneCell') = true :=
  Array.all_eq_true_iff_forall_mem.2 (fun v hv => by
    have hv' : v ∈ x.cells := by simpa using hv
    simp only [BlobL.cells, List.mem_append, List.mem_cons, List.mem_map] at hv'
    rcases hv' with ⟨b, _, rfl⟩ | rfl | rfl | ⟨b, _, rfl⟩ <;> rfl)
theorem run_load_blob {w : World} {g : Nat} {x : BlobL} (h : BlobO w g x) : (loadVar 81 ⟨g, 0, none⟩).run Tryz.prog w = .ok (BlobV x) w :=
  run_loadVar_row (P := Tryz.prog) w g 81 81 x.cells.toArray (0, 0) _ h.1 Tryz.underlying81 rfl (by rw [size_blob]; simp [BlobL.cells_len h.2])
theorem wp_load_blob {w : World} {o : Oper} {a : Act} {K : Act → World → Prop} {Q : Exit → Act → World → Prop} {p : Operand} {g : Nat} {x : BlobL} (ho : o.op = .load 81 p) (hp : a.eval p = .pointer (some ⟨g, 0, none⟩)) (h : BlobO w g x)
    (hK : K (a.put o.dst (BlobV x)) w) : o.wp Tryz.prog a w K Q := by
  refine wp_val (v := BlobV x) ?_ hK
  have := run_load_blob h
  unfold execOp
  simp only [ho, hp, Instr.loadAt, Instr.sureAddr, Sem.run_bind, Sem.run_pure, Result.andThen_ok, this]
theorem wp_store_blob {w : World} {op : Oper} {a : Act} {K : Act → World → Prop} {Q : Exit → Act → World → Prop} (p q : Operand) (g : Nat) (x y : BlobL) (ho : op.op = .store 81 p q)
    (hp : a.eval p = .pointer (some ⟨g, 0, none⟩)) (hq : a.eval q = BlobV x) (hx : x.ok) (hg : BlobO w g y)
    (h : ∀ w', BlobO w' g x → w.grownBy w' (some g) → w'.heap.size = w.heap.size → K (a.put op.dst undef) w') : op.wp Tryz.prog a w K Q := by
  have hrun := run_storeVar_row (P := Tryz.prog) w g 81 81 _ x.cells.toArray hg.1 (by rw [size_blob]; simp [BlobL.cells_len hx]) (by simp [BlobL.cells_len hx, BlobL.cells_len hg.2]) (cells_one x)
  unfold BlobV at hq
  unfold Oper.wp execOp
  simp only [ho, hp, hq, Instr.storeAt, Instr.sureAddr, Sem.run_bind, Sem.run_pure, Result.andThen_ok, hrun]
  exact h _ ⟨setRow_heap _ _ _ _ _ _ hg.1, hx⟩ (grown_setRow _ _ _) (by simp [World.setRow])

/-! ### '==' -/

theorem fields_blob : (Tryz.prog.fieldsOf 81).toList.map (fun f => (f.name, f.type, f.offset)) = [("Digest", 31, 0), ("Size", 3, 32), ("Piece", 3, 33), ("Root", 31, 34)] := by kernel_rfl
theorem run_equalIn_blob (d : Nat) (x y : BlobL) (hx : x.ok) (hy : y.ok) (w : World) : (Op.equalIn (d + 3) 81 (BlobV x) (BlobV y)).run Tryz.prog w = .ok (decide (x = y)) w := by
  unfold BlobV
  rw [run_equalIn_struct w (d + 2) 81 _ _ (by kernel_rfl) (by kernel_rfl)]
  have hsz : (sizeOf 31).run Tryz.prog w = .ok 32 w := by kernel_rfl
  have hag : (isAgg 31).run Tryz.prog w = .ok true w := by kernel_rfl
  have hai : (isAgg 3).run Tryz.prog w = .ok false w := by kernel_rfl
  have p0 : ∀ z : BlobL, z.ok → (part 31 z.cells.toArray 0).run Tryz.prog w = .ok (.agg (z.dig.map B8).toArray) w := fun z hz => by
    simp only [part, Sem.run_bind, hag, Result.andThen_ok, if_true, hsz, Sem.run_pure]
    congr 2
    apply Array.ext'
    have := hz.1
    simp [Array.toList_extract, List.extract_eq_take_drop, BlobL.cells, List.take_append_of_le_length, this, List.take_of_length_le]
  have p1 : ∀ z : BlobL, z.ok → (part 3 z.cells.toArray 32).run Tryz.prog w = .ok (.int .i64 z.size) w := fun z hz => by
    have := hz.1
    simp [part, Sem.run_bind, hai, Sem.run_pure, BlobL.cells, List.getElem?_append_right, this]
  have p2 : ∀ z : BlobL, z.ok → (part 3 z.cells.toArray 33).run Tryz.prog w = .ok (.int .i64 z.piece) w := fun z hz => by
    have := hz.1
    simp [part, Sem.run_bind, hai, Sem.run_pure, BlobL.cells, List.getElem?_append_right, this]
  have p3 : ∀ z : BlobL, z.ok → (part 31 z.cells.toArray 34).run Tryz.prog w = .ok (.agg (z.root.map B8).toArray) w := fun z hz => by
    simp only [part, Sem.run_bind, hag, Result.andThen_ok, if_true, hsz, Sem.run_pure]
    congr 2
    apply Array.ext'
    have h1 := hz.1
    have h2 := hz.2
    simp [Array.toList_extract, List.extract_eq_take_drop, BlobL.cells, List.drop_append, h1, List.take_of_length_le, h2]
  have hd : ∀ a b : List UInt8, a.length = 32 → b.length = 32 → (Op.equalIn (d + 2) 31 (.agg (a.map B8).toArray) (.agg (b.map B8).toArray)).run Tryz.prog w = .ok (decide (a = b)) w := fun a b ha hb =>
    run_equalIn_octs d 31 5 a b (by omega) (by rw [ha]; exact Tryz.underlying31) Tryz.underlying5 (by kernel_rfl) (by kernel_rfl)
  have hi : ∀ a b : Int, (Op.equalIn (d + 2) 3 (.int .i64 a) (.int .i64 b)).run Tryz.prog w = .ok (a == b) w := fun a b => run_equalIn_int w (d + 1) 3 .i64 .i64 a b Tryz.underlying3
  obtain ⟨g, hg⟩ : ∃ g : Nat → Bool, g = fun k => if k = 0 then decide (x.dig = y.dig) else if k = 32 then x.size == y.size else if k = 33 then x.piece == y.piece else decide (x.root = y.root) := ⟨_, rfl⟩
  have hf := fields_blob
  generalize (Tryz.prog.fieldsOf 81).toList = fs at hf
  rw [eqFields_all g fs (fun f hfm => by
    have hm : (f.name, f.type, f.offset) ∈ fs.map (fun f => (f.name, f.type, f.offset)) := List.mem_map.2 ⟨f, hfm, rfl⟩
    rw [hf] at hm
    simp only [List.mem_cons, Prod.mk.injEq, List.not_mem_nil, or_false] at hm
    rcases hm with ⟨h1, h2, h3⟩ | ⟨h1, h2, h3⟩ | ⟨h1, h2, h3⟩ | ⟨h1, h2, h3⟩
    · rw [h1, h2, h3, hg]; exact ⟨by decide, _, _, p0 x hx, p0 y hy, hd _ _ hx.1 hy.1⟩
    · rw [h1, h2, h3, hg]; exact ⟨by decide, _, _, p1 x hx, p1 y hy, hi _ _⟩
    · rw [h1, h2, h3, hg]; exact ⟨by decide, _, _, p2 x hx, p2 y hy, hi _ _⟩
    · rw [h1, h2, h3, hg]; exact ⟨by decide, _, _, p3 x hx, p3 y hy, hd _ _ hx.2 hy.2⟩)]
  have e : (fs.all fun f => g f.offset) = (fs.map (fun f => (f.name, f.type, f.offset))).all (fun q => g q.2.2) := by rw [List.all_map]; rfl
  rw [e, hf, hg]
  congr 1
  obtain ⟨a, b, c, e⟩ := x
  obtain ⟨a', b', c', e'⟩ := y
  simp [Bool.decide_and]
  rw [Bool.eq_iff_iff]
  simp
theorem guard_blob : Tryz.prog.eqGuardType Tryz.prog.depth 81 = false := by kernel_rfl

/-! ### The literal -/

theorem fill_step {place : Nat → Option (Nat × Nat)} {i : Nat} {v : Value} {rest : List (Nat × Value)} {cs : Array Value} (A M N B : List Value) (hcs : cs = (A ++ (M ++ B)).toArray) (hp : place i = some (A.length, M.length)) (hv : v.cells = N.toArray) (hn : N.length = M.length) :
    Instr.fill place cs ((i, v) :: rest) = Instr.fill place (A ++ (N ++ B)).toArray rest := by
  subst hcs
  rw [Instr.fill]
  simp only [hp]
  rw [if_neg (by simp [hv, hn])]
  congr 1
  rw [hv]
  apply Array.ext_getElem?
  intro k
  have := (Great.foldl_set A.length N 0 (A ++ (M ++ B)).toArray).2 k
  rw [← Array.foldl_toList, Array.toList_zipIdx, List.toList_toArray, this]
  simp only [Nat.add_zero, List.getElem?_toArray, List.size_toArray, List.length_append]
  by_cases h1 : k < A.length
  · rw [if_neg (by omega), List.getElem?_append_left h1, List.getElem?_append_left h1]
  · by_cases h2 : k < A.length + N.length
    · rw [if_pos (by omega), List.getElem?_append_right (by omega), List.getElem?_append_left (by omega)]
    · rw [if_neg (by omega), List.getElem?_append_right (by omega), List.getElem?_append_right (by omega), List.getElem?_append_right (by omega), List.getElem?_append_right (by omega), hn]

theorem places_blob : ∃ (i : TypeInfo) (fs : Array Field), Tryz.prog.info? 81 = some i ∧ i.zero = some (.agg BlobL.zero.cells.toArray) ∧ Tryz.prog.underlying 81 = some (.struct fs) ∧
    fs.toList.mapM (fun f => (Tryz.prog.info? f.type).map fun i => (f.offset, i.size)) = some [(0, 32), (32, 1), (33, 1), (34, 32)] := by
  have hz : (Tryz.prog.info? 81).map (·.zero) = some (some (.agg BlobL.zero.cells.toArray)) := by kernel_rfl
  obtain ⟨i, hi, hz⟩ := Option.map_eq_some_iff.1 hz
  exact ⟨i, Tryz.prog.fieldsOf 81, hi, hz, by kernel_rfl, by kernel_rfl⟩
theorem run_build_blob (a b : List UInt8) (n k : Int) (ha : a.length = 32) (hb : b.length = 32) (w : World) :
    (Instr.build 81 #[(0, .agg (a.map B8).toArray), (1, .int .i64 n), (2, .int .i64 k), (3, .agg (b.map B8).toArray)]).run Tryz.prog w = .ok (BlobV ⟨a, n, k, b⟩) w := by
  refine run_build w 81 _ _ ?_
  obtain ⟨i, fs, h1, h2, h3, h4⟩ := places_blob
  unfold Program.built
  rw [h1, h3]
  simp only [h2, h4]
  have e0 : BlobL.zero.cells.toArray = ([] ++ (z32.map B8 ++ (Value.int .i64 0 :: Value.int .i64 0 :: z32.map B8))).toArray := rfl
  rw [show (Value.agg BlobL.zero.cells.toArray).cells = BlobL.zero.cells.toArray from rfl, e0]
  rw [fill_step [] (z32.map B8) (a.map B8) _ (by first | rfl | simp) rfl rfl (by simp [ha, z32])]
  rw [fill_step (a.map B8) [.int .i64 0] [.int .i64 n] (.int .i64 0 :: z32.map B8) (by first | rfl | simp) (by simp [ha]) rfl rfl]
  rw [fill_step (a.map B8 ++ [.int .i64 n]) [.int .i64 0] [.int .i64 k] (z32.map B8) (by first | rfl | simp) (by simp [ha]) rfl rfl]
  rw [fill_step (a.map B8 ++ [.int .i64 n, .int .i64 k]) (z32.map B8) (b.map B8) [] (by first | rfl | simp) (by simp [ha, z32]) (by first | rfl | simp) (by simp [hb, z32])]
  simp [Instr.fill, BlobL.cells]
theorem run_build_blob2 (n k : Int) (w : World) :
    (Instr.build 81 #[(1, .int .i64 n), (2, .int .i64 k)]).run Tryz.prog w = .ok (BlobV ⟨z32, n, k, z32⟩) w := by
  refine run_build w 81 _ _ ?_
  obtain ⟨i, fs, h1, h2, h3, h4⟩ := places_blob
  unfold Program.built
  rw [h1, h3]
  simp only [h2, h4]
  rw [show (Value.agg BlobL.zero.cells.toArray).cells = (z32.map B8 ++ ([Value.int .i64 0] ++ (Value.int .i64 0 :: z32.map B8))).toArray from rfl]
  rw [fill_step (z32.map B8) [.int .i64 0] [.int .i64 n] (.int .i64 0 :: z32.map B8) (by first | rfl | simp) (by simp [z32]) rfl rfl]
  rw [fill_step (z32.map B8 ++ [.int .i64 n]) [.int .i64 0] [.int .i64 k] (z32.map B8) (by first | rfl | simp) (by simp [z32]) rfl rfl]
  simp [Instr.fill, BlobL.cells]
theorem run_build_blob0 (w : World) : (Instr.build 81 #[]).run Tryz.prog w = .ok (BlobV BlobL.zero) w := by
  refine run_build w 81 _ _ ?_
  obtain ⟨i, fs, h1, h2, h3, h4⟩ := places_blob
  unfold Program.built
  rw [h1, h3]
  simp only [h2, h4]
  rfl

theorem wp_build_blob {w : World} {o : Oper} {a : Act} {K : Act → World → Prop} {Q : Exit → Act → World → Prop} {p q r s : Operand} (x y : List UInt8) (n k : Int) (ho : o.op = .build 81 #[(0, p), (1, q), (2, r), (3, s)])
    (hp : a.eval p = .agg (x.map B8).toArray) (hq : a.eval q = .int .i64 n) (hr : a.eval r = .int .i64 k) (hs : a.eval s = .agg (y.map B8).toArray) (hx : x.length = 32) (hy : y.length = 32) (hK : K (a.put o.dst (BlobV ⟨x, n, k, y⟩)) w) : o.wp Tryz.prog a w K Q := by
  refine wp_val ?_ hK
  have := run_build_blob x y n k hx hy w
  unfold execOp
  simp only [ho, List.map_toArray, List.map_cons, List.map_nil, hp, hq, hr, hs, Sem.run_bind, this, Result.andThen_ok, Sem.run_pure]
theorem wp_build_blob2 {w : World} {o : Oper} {a : Act} {K : Act → World → Prop} {Q : Exit → Act → World → Prop} {p q : Operand} (n k : Int) (ho : o.op = .build 81 #[(1, p), (2, q)])
    (hp : a.eval p = .int .i64 n) (hq : a.eval q = .int .i64 k) (hK : K (a.put o.dst (BlobV ⟨z32, n, k, z32⟩)) w) : o.wp Tryz.prog a w K Q := by
  refine wp_val ?_ hK
  have := run_build_blob2 n k w
  unfold execOp
  simp only [ho, List.map_toArray, List.map_cons, List.map_nil, hp, hq, Sem.run_bind, this, Result.andThen_ok, Sem.run_pure]
theorem wp_build_blob0 {w : World} {o : Oper} {a : Act} {K : Act → World → Prop} {Q : Exit → Act → World → Prop} (ho : o.op = .build 81 #[])
    (hK : K (a.put o.dst (BlobV BlobL.zero)) w) : o.wp Tryz.prog a w K Q := by
  refine wp_val ?_ hK
  have := run_build_blob0 w
  unfold execOp
  simp only [ho, List.map_toArray, List.map_nil, Sem.run_bind, this, Result.andThen_ok, Sem.run_pure]
theorem results_blob {fn : Func} {p q : Tmp} (h : fn.results = #[.cell p 81, .tmp q]) (tmps : Array Value) {w : World} {b : Nat} {x : BlobL} {u : Value} (hp : tmps.getD p undef = .pointer (some ⟨b, 0, none⟩)) (hq : tmps.getD q undef = u)
    (hx : BlobO w b x) : (results fn tmps).run Tryz.prog w = .ok (.tuple #[BlobV x, u]) w := by
  have hp' : tmps[p]?.getD undef = .pointer (some ⟨b, 0, none⟩) := by simpa using hp
  have hq' : tmps[q]?.getD undef = u := by simpa using hq
  simp [results, h, hp', hq', asAddr, run_load_blob hx]

end Go.Proofs.YtnohglkilpnjhaaGreatDoor

/- The walks of manifest's Right, Count and Span, and of the document's answer's: whether a blob may be, how many pieces it has, where one lies. Condition: hashes of 32 bytes. -/
namespace Go.Proofs.YtnohglkilpnjhaaGreatDoor
open Go.RowKit
set_option linter.unusedVariables false
set_option linter.unusedSimpArgs false
set_option maxRecDepth 100000

def mrightB (n k : Int) : Bool := decide (1 ≤ n) && decide (n ≤ 1048576) && decide (16 ≤ k) && decide (k ≤ 16384) && decide ((n + k - 1) / k ≤ 1024)
def mcountB (n k : Int) : Int := if mrightB n k = true then (n + k - 1) / k else 0

theorem count_any (n k : Int) (w : World) (h1 : 1 ≤ n) (h2 : n ≤ 1048576) (h3 : 16 ≤ k) (h4 : k ≤ 16384) :
    Calls Tryz.prog 67 #[.int .i64 n, .int .i64 k] w fun e w' => e = .returned (.int .i64 ((n + k - 1) / k)) ∧ w' = w := by
  go_enter Tryz.func67, Tryz.ntmps67
  go_wp2
  go_ret
  exact ⟨rfl, rfl⟩

set_option maxHeartbeats 1600000 in
theorem Right_any (x : BlobL) (w : World) (hx : x.ok) :
    Calls Tryz.prog 66 #[BlobV x] w fun e w' => e = .returned (.bool (mrightB x.size x.piece)) ∧ Below w.heap.size w w' := by
  have HO := fun W => (blob_alloc W hx)
  obtain ⟨cs, hcs⟩ : ∃ cs, x.cells.toArray = cs := ⟨_, rfl⟩
  have hbo := blob_alloc w hx
  have hs := hbo.size
  have hp := hbo.piece
  have hb : Below w.heap.size w (w.alloc (.cells x.cells.toArray 81)) := (Below.refl _ w).alloc (Nat.le_refl _) _
  unfold BlobV
  rw [hcs] at hs hp hb ⊢
  clear HO hbo hcs
  obtain ⟨n, hn⟩ : ∃ n, x.size = n := ⟨_, rfl⟩
  obtain ⟨k, hk⟩ : ∃ n, x.piece = n := ⟨_, rfl⟩
  rw [hn] at hs ⊢
  rw [hk] at hp ⊢
  clear hn hk hx
  go_enter Tryz.func66, Tryz.ntmps66
  by_cases h1 : 1 ≤ n
  · by_cases h2 : n ≤ 1048576
    · by_cases h3 : 16 ≤ k
      · by_cases h4 : k ≤ 16384
        · have hr : mrightB n k = decide ((n + k - 1) / k ≤ 1024) := by unfold mrightB; simp [h1, h2, h3, h4]
          rw [hr]
          clear hr
          obtain ⟨q, hq⟩ : ∃ q, (n + k - 1) / k = q := ⟨_, rfl⟩
          rw [hq]
          go_wp2_with fail
          refine (count_any n k _ h1 h2 h3 h4).mono ?_
          rintro e w2 ⟨rfl, hw⟩
          subst w2
          simp only [hq]
          go_wp2
          go_ret
          exact ⟨rfl, hb⟩
        · have hr : mrightB n k = false := by unfold mrightB; simp [h4]
          rw [hr]
          clear hr
          go_wp2
          go_ret
          exact ⟨rfl, hb⟩
      · have hr : mrightB n k = false := by unfold mrightB; simp [h3]
        rw [hr]
        clear hr
        go_wp2
        go_ret
        exact ⟨rfl, hb⟩
    · have hr : mrightB n k = false := by unfold mrightB; simp [h2]
      rw [hr]
      clear hr
      go_wp2
      go_ret
      exact ⟨rfl, hb⟩
  · have hr : mrightB n k = false := by unfold mrightB; simp [h1]
    rw [hr]
    clear hr
    go_wp2
    go_ret
    exact ⟨rfl, hb⟩

set_option maxHeartbeats 1600000 in
theorem RRight_any (x : BlobL) (w : World) (hx : x.ok) :
    Calls Tryz.prog 143 #[BlobV x] w fun e w' => e = .returned (.bool (mrightB x.size x.piece)) ∧ Below w.heap.size w w' := by
  have HO := fun W => (blob_alloc W hx)
  obtain ⟨cs, hcs⟩ : ∃ cs, x.cells.toArray = cs := ⟨_, rfl⟩
  have hbo := blob_alloc w hx
  have hs := hbo.size
  have hp := hbo.piece
  have hb : Below w.heap.size w (w.alloc (.cells x.cells.toArray 81)) := (Below.refl _ w).alloc (Nat.le_refl _) _
  unfold BlobV
  rw [hcs] at hs hp hb ⊢
  clear HO hbo hcs
  obtain ⟨n, hn⟩ : ∃ n, x.size = n := ⟨_, rfl⟩
  obtain ⟨k, hk⟩ : ∃ n, x.piece = n := ⟨_, rfl⟩
  rw [hn] at hs ⊢
  rw [hk] at hp ⊢
  clear hn hk hx
  go_enter Tryz.func143, Tryz.ntmps143
  by_cases h1 : 1 ≤ n
  · by_cases h2 : n ≤ 1048576
    · by_cases h3 : 16 ≤ k
      · by_cases h4 : k ≤ 16384
        · have hr : mrightB n k = decide ((n + k - 1) / k ≤ 1024) := by unfold mrightB; simp [h1, h2, h3, h4]
          rw [hr]
          clear hr
          obtain ⟨q, hq⟩ : ∃ q, (n + k - 1) / k = q := ⟨_, rfl⟩
          skip
          rw [hq]
          go_wp2
          go_ret
          exact ⟨rfl, hb⟩
        · have hr : mrightB n k = false := by unfold mrightB; simp [h4]
          rw [hr]
          clear hr
          go_wp2
          go_ret
          exact ⟨rfl, hb⟩
      · have hr : mrightB n k = false := by unfold mrightB; simp [h3]
        rw [hr]
        clear hr
        go_wp2
        go_ret
        exact ⟨rfl, hb⟩
    · have hr : mrightB n k = false := by unfold mrightB; simp [h2]
      rw [hr]
      clear hr
      go_wp2
      go_ret
      exact ⟨rfl, hb⟩
  · have hr : mrightB n k = false := by unfold mrightB; simp [h1]
    rw [hr]
    clear hr
    go_wp2
    go_ret
    exact ⟨rfl, hb⟩

theorem right_parts {n k : Int} (h : mrightB n k = true) : 1 ≤ n ∧ n ≤ 1048576 ∧ 16 ≤ k ∧ k ≤ 16384 ∧ (n + k - 1) / k ≤ 1024 := by
  unfold mrightB at h
  simp at h
  omega
set_option maxHeartbeats 1600000 in
theorem Count_any (x : BlobL) (w : World) (hx : x.ok) :
    Calls Tryz.prog 30 #[BlobV x] w fun e w' => e = .returned (.int .i64 (mcountB x.size x.piece)) ∧ Below w.heap.size w w' := by
  rw [show BlobV x = .agg x.cells.toArray from rfl]
  have hr1 := fun h => right_parts (n := x.size) (k := x.piece) h
  have hc : mcountB x.size x.piece = if mrightB x.size x.piece = true then (x.size + x.piece - 1) / x.piece else 0 := rfl
  have HC := Lib.hid hc
  clear hc
  go_enter Tryz.func30, Tryz.ntmps30
  go_upto_region 1 with (fail)
  obtain ⟨W, hW⟩ : ∃ W, w.alloc (.cells x.cells.toArray 81) = W := ⟨_, rfl⟩
  have hbo := blob_alloc w hx
  have hb : Below w.heap.size w (w.alloc (.cells x.cells.toArray 81)) := (Below.refl _ w).alloc (Nat.le_refl _) _
  rw [hW] at hbo hb ⊢
  have HBO := Lib.hid hbo
  clear hbo hW
  go_wp2_with ((with_reducible refine wpList_plain (o := ⟨some 3, Op.load 81 (.tmp 1), _, _, _, _⟩) rfl fun K hK => wp_load_blob (g := w.heap.size) rfl rfl HBO.out (hK _ _ ?_)))
  refine (Right_any x W hx).mono ?_
  rintro e w2 ⟨rfl, hb2⟩
  have hbA := below_next hb hb2
  have hbo2 := HBO.out.of_new hb2
  have hs := hbo2.size
  have hp := hbo2.piece
  clear hbo2 hb2 hb HBO
  rcases hq : mrightB x.size x.piece with _ | _
  · rw [hq] at HC
    go_wp2
    go_ret
    exact ⟨ret_int (by rw [HC.out]; rfl), hbA⟩
  · obtain ⟨q1, q2, q3, q4, q5⟩ := hr1 hq
    rw [hq] at HC
    clear hr1 hq
    obtain ⟨n, hn⟩ : ∃ n, x.size = n := ⟨_, rfl⟩
    obtain ⟨k, hk⟩ : ∃ n, x.piece = n := ⟨_, rfl⟩
    rw [hn] at hs q1 q2 q5 HC
    rw [hk] at hp q3 q4 q5 HC
    go_wp2_with fail
    refine (count_any n k _ q1 q2 q3 q4).mono ?_
    rintro e w3 ⟨rfl, hw⟩
    subst w3
    go_wp2
    go_ret
    exact ⟨ret_int (by rw [← hn, ← hk] at *; rw [HC.out]; rfl), hbA⟩

/-- Where a piece lies. -/
def spanZ (n k i : Int) : Int × Int × Int := if i < 0 ∨ mcountB n k ≤ i then (0, 0, 1) else (i * k, min k (n - i * k), 0)
theorem span_parts {n k i : Int} (h0 : 0 ≤ i) (h1 : i < mcountB n k) : 0 ≤ i * k ∧ i * k < n ∧ n ≤ 1048576 ∧ 16 ≤ k ∧ k ≤ 16384 := by
  unfold mcountB at h1
  split at h1
  · rename_i hr
    obtain ⟨a, b, c, d, e⟩ := right_parts hr
    have h2 : i * k + k ≤ n + k - 1 := by
      have := (Int.le_ediv_iff_mul_le (by omega)).1 (show i + 1 ≤ (n + k - 1) / k by omega)
      rw [Int.add_mul, Int.one_mul] at this; exact this
    exact ⟨Int.mul_nonneg h0 (by omega), by omega, b, c, d⟩
  · omega

set_option maxHeartbeats 1600000 in
theorem Span_any (x : BlobL) (i : Int) (w : World) (hx : x.ok) (i1 : -9223372036854775808 ≤ i) (i2 : i ≤ 9223372036854775807) :
    Calls Tryz.prog 68 #[BlobV x, .int .i64 i] w fun e w' => e = .returned (.tuple #[.int .i64 (spanZ x.size x.piece i).1, .int .i64 (spanZ x.size x.piece i).2.1, .int .i64 (spanZ x.size x.piece i).2.2]) ∧ Below w.heap.size w w' := by
  rw [show BlobV x = .agg x.cells.toArray from rfl]
  obtain ⟨S, hS⟩ : ∃ S, spanZ x.size x.piece i = S := ⟨_, rfl⟩
  rw [hS]
  have HS := Lib.hid hS
  clear hS
  go_enter Tryz.func68, Tryz.ntmps68
  go_upto_region 1 with (fail)
  obtain ⟨W, hW⟩ : ∃ W, w.alloc (.cells x.cells.toArray 81) = W := ⟨_, rfl⟩
  have hbo := blob_alloc w hx
  have hb : Below w.heap.size w (w.alloc (.cells x.cells.toArray 81)) := (Below.refl _ w).alloc (Nat.le_refl _) _
  rw [hW] at hbo hb ⊢
  have HBO := Lib.hid hbo
  clear hbo hW
  by_cases h0 : i < 0
  · go_wp2
    go_ret3
    have e : S = (0, 0, 1) := by rw [← HS.out, spanZ, if_pos (.inl h0)]
    rw [e]
    exact ⟨rfl, hb⟩
  have h0' : ¬ i < 0 := h0
  go_wp2_with ((with_reducible refine wpList_met (o := ⟨some 11, _, _, _, _, _⟩) ?_ ?_); rfl; intro K hK; refine wp_load_blob (g := w.heap.size) (x := x) rfl rfl HBO.out (hK _ _ ?_))
  refine (Count_any x W hx).mono ?_
  rintro e w2 ⟨rfl, hb2⟩
  have hbA := below_next hb hb2
  have hbo2 := HBO.out.of_new hb2
  have hs := hbo2.size
  have hp := hbo2.piece
  clear hbo2 hb2 hb HBO
  by_cases h1 : mcountB x.size x.piece ≤ i
  · have e : S = (0, 0, 1) := by rw [← HS.out, spanZ, if_pos (.inr h1)]
    clear HS
    go_wp2
    go_ret3
    rw [e]
    exact ⟨rfl, hbA⟩
  · have e : S = (i * x.piece, min x.piece (x.size - i * x.piece), 0) := by rw [← HS.out, spanZ, if_neg (by omega)]
    obtain ⟨q0, q1, q2, q3, q4⟩ := span_parts (by omega) (Int.not_le.1 h1)
    clear HS
    obtain ⟨c, hc⟩ : ∃ c, mcountB x.size x.piece = c := ⟨_, rfl⟩
    rw [hc] at h1 ⊢
    have hd : ¬ c ≤ i := h1
    obtain ⟨n, hn⟩ : ∃ n, x.size = n := ⟨_, rfl⟩
    obtain ⟨k, hk⟩ : ∃ n, x.piece = n := ⟨_, rfl⟩
    rw [hn] at hs e q1 q2
    rw [hk] at hp e q0 q1 q3 q4
    clear hn hk hc
    obtain ⟨m, hm⟩ : ∃ m, i * k = m := ⟨_, rfl⟩
    rw [hm] at e q0 q1
    have hw1 : IntKind.i64.wrap (i * k) = m := by rw [hm]; exact IntWalk.i64_in _ (by omega)
    have hw2 : IntKind.i64.wrap (n - m) = n - m := IntWalk.i64_in _ (by omega)
    go_wp2
    go_quiet (fail)
    go_wp2
    all_goals
      go_ret3
      refine ⟨?_, hbA.trans (below_drewn _)⟩
      try rw [e]
      first
        | rfl
        | (rw [show min k (n - m) = k by omega]; try rfl)
        | (rw [show min k (n - m) = n - m by omega]; try rfl)

end Go.Proofs.YtnohglkilpnjhaaGreatDoor

/- Images as bytes and back, in plain Lean: what package manifest computes, what the document's answer computes. No condition. -/
namespace Go.Proofs.YtnohglkilpnjhaaGreatDoor
set_option linter.unusedVariables false
set_option linter.unusedSimpArgs false

/-- Whether an image may be. -/
def digs (l : List BlobL) : List (List UInt8) := l.map (·.dig)
def rightsB (l : List BlobL) : Bool := l.all fun x => mrightB x.size x.piece
def imageE (l : List BlobL) : Int := if l.length < 1 ∨ 16 < l.length ∨ rightsB l = false then 1 else if (digs l).Nodup then 0 else 5

/-- What tells of a blob, as a record. -/
def blobIts (x : BlobL) : List It := [(1, x.dig), (2, uint x.size.toNat), (3, uint x.piece.toNat), (4, x.root)]
def blobB (x : BlobL) : List UInt8 := flatB (blobIts x)
def imgItsF : Nat → List BlobL → List It
  | _, [] => []
  | i, x :: l => (((i + 1 : Nat) : Int), blobB x) :: imgItsF (i + 1) l
def imgIts (l : List BlobL) : List It := imgItsF 0 l
def encG (l : List BlobL) : Option (List UInt8) := if imageE l = 0 then encL (imgIts l) else none
/-- The error of Encode. -/
def encGE (l : List BlobL) : Int := if imageE l = 0 then (if (encL (imgIts l)).isSome then 0 else 1) else imageE l

theorem imgItsF_snoc : ∀ (l : List BlobL) (i : Nat) (x : BlobL), imgItsF i (l ++ [x]) = imgItsF i l ++ [(((i + l.length + 1 : Nat) : Int), blobB x)]
  | [], i, x => rfl
  | y :: l, i, x => by
    simp only [List.cons_append, imgItsF, imgItsF_snoc l (i + 1) x, List.length_cons]
    rw [show i + 1 + l.length + 1 = i + (l.length + 1) + 1 by omega]
theorem right_bd {n k : Int} (h : mrightB n k = true) : 1 ≤ n ∧ n ≤ 1048576 ∧ 16 ≤ k ∧ k ≤ 16384 := by
  unfold mrightB at h
  simp only [Bool.and_eq_true, decide_eq_true_eq] at h
  omega
theorem flat_blob (x : BlobL) : blobB x = itB (1, x.dig) ++ (itB (2, uint x.size.toNat) ++ (itB (3, uint x.piece.toNat) ++ itB (4, x.root))) := by
  simp [blobB, blobIts, flatB]
theorem enc_blob {x : BlobL} (hx : x.ok) (h1 : 0 ≤ x.size ∧ x.size ≤ 1048576) (h2 : 0 ≤ x.piece ∧ x.piece ≤ 1048576) : encL (blobIts x) = some (blobB x) := by
  have u1 := uint_len 2 x.size.toNat (by omega)
  have u2 := uint_len 2 x.piece.toNat (by omega)
  have hc : checkF (blobIts x) 0 = some (blobIts x) := by
    unfold blobIts
    simp [checkF]
  have := encF_of (blobIts x) 0 [] hc (by
    rw [List.nil_append]
    show (blobB x).length ≤ 65536
    rw [flat_blob]
    have e1 := uint_len10 (n := x.dig.length) (by rw [hx.1]; omega)
    have e2 := uint_len10 (n := (uint x.size.toNat).length) (by omega)
    have e3 := uint_len10 (n := (uint x.piece.toNat).length) (by omega)
    have e4 := uint_len10 (n := x.root.length) (by rw [hx.2]; omega)
    simp only [itB, List.length_append, List.length_cons, hx.1, hx.2] at *
    omega)
  simpa [encL, blobB] using this

/-- What a record tells of a blob. -/
def blobD2 : List It → Option BlobL
  | [a, s, p, r] => if r.1 = 4 ∧ a.2.length = 32 ∧ r.2.length = 32 then
      (if (toU s.2).isSome ∧ (toU p.2).isSome ∧ max ((toU s.2).getD 0) ((toU p.2).getD 0) ≤ 1048576 then some ⟨a.2, ((toU s.2).getD 0 : Nat), ((toU p.2).getD 0 : Nat), r.2⟩ else none) else none
  | _ => none
def blobD (b : List UInt8) : Option BlobL := (decL b).bind blobD2
def blobsD : Nat → List It → Option (List BlobL)
  | _, [] => some []
  | i, x :: l => (blobD x.2).bind fun y => if x.1 = ((i + 1 : Nat) : Int) then (blobsD (i + 1) l).map (y :: ·) else none
def okI (xs : List BlobL) : Option (List BlobL) := if imageE xs = 0 then some xs else none
def imgD (b : List UInt8) : Option (List BlobL) := (decL b).bind fun l => (blobsD 0 l).bind okI

theorem toU_back {l : List UInt8} {n : Nat} (h : toU l = some n) : l = uint n := by
  unfold toU at h
  split at h
  · rename_i x m hc
    split at h
    · rename_i hm
      cases h
      have := (cutL_take hc).1
      rw [hm, List.take_length] at this
      exact this
    · cases h
  · cases h
theorem blobD_back {b : List UInt8} {x : BlobL} (h : blobD b = some x) : b = blobB x ∧ x.ok ∧ 0 ≤ x.size ∧ x.size ≤ 1048576 ∧ 0 ≤ x.piece ∧ x.piece ≤ 1048576 := by
  obtain ⟨l, hl, h⟩ := Option.bind_eq_some_iff.1 h
  have hb : b = flatB l := by
    have := (encF_parts l 0 [] b (by simp) (encL_decL hl)).1; simpa using this
  have hck : checkF l 0 = some l := (encF_parts l 0 [] b (by simp) (encL_decL hl)).2.1
  match l, h with
  | [a, s, p, r], h =>
    simp only [blobD2] at h
    split at h
    · rename_i hc
      split at h
      · rename_i hn
        cases h
        obtain ⟨n, hn1⟩ := Option.isSome_iff_exists.1 hn.1
        obtain ⟨k, hk1⟩ := Option.isSome_iff_exists.1 hn.2.1
        have e1 := toU_back hn1
        have e2 := toU_back hk1
        have h3 := hn.2.2
        rw [hn1, hk1] at h3 ⊢
        simp only [Option.getD_some] at h3 ⊢
        have hnum : a.1 = 1 ∧ s.1 = 2 ∧ p.1 = 3 := by
          have h4 := hc.1
          simp only [checkF] at hck
          split at hck
          · cases hck
          rename_i q1
          split at hck
          · cases hck
          rename_i q2
          split at hck
          · cases hck
          rename_i q3
          split at hck
          · cases hck
          rename_i q4
          omega
        refine ⟨?_, ⟨hc.2.1, hc.2.2⟩, by omega, by omega, by omega, by omega⟩
        rw [hb]
        unfold blobB blobIts
        dsimp only
        rw [Int.toNat_natCast, Int.toNat_natCast, ← e1, ← e2, ← hnum.1, ← hnum.2.1, ← hnum.2.2, ← hc.1]
      · cases h
    · cases h
theorem blobD_blob {x : BlobL} (hx : x.ok) (h1 : 0 ≤ x.size ∧ x.size ≤ 1048576) (h2 : 0 ≤ x.piece ∧ x.piece ≤ 1048576) : blobD (blobB x) = some x := by
  unfold blobD
  rw [decL_encL (enc_blob hx h1 h2), Option.bind_some]
  have t1 := toU_uint (n := x.size.toNat) (by omega)
  have t2 := toU_uint (n := x.piece.toNat) (by omega)
  unfold blobIts
  simp only [blobD2, t1, t2, Option.isSome_some, Option.getD_some]
  rw [if_pos (by simp [hx.1, hx.2]), if_pos (by simp; omega)]
  obtain ⟨d, n, k, r⟩ := x
  dsimp only at h1 h2
  simp only [Option.some.injEq, BlobL.mk.injEq, true_and, and_true]
  omega
theorem blobsD_back : ∀ (l : List It) (i : Nat) (xs : List BlobL), blobsD i l = some xs → l = imgItsF i xs ∧ ∀ x ∈ xs, x.ok
  | [], i, xs, h => by
    simp only [blobsD, Option.some.injEq] at h
    subst h
    exact ⟨rfl, fun x hx => by cases hx⟩
  | z :: l, i, xs, h => by
    simp only [blobsD] at h
    obtain ⟨y, hy, h⟩ := Option.bind_eq_some_iff.1 h
    split at h
    · rename_i hz
      obtain ⟨ys, hys, rfl⟩ := Option.map_eq_some_iff.1 h
      obtain ⟨e, ho⟩ := blobsD_back l (i + 1) ys hys
      obtain ⟨hb, hok, _⟩ := blobD_back hy
      refine ⟨?_, fun x hx => ?_⟩
      · simp only [imgItsF]
        rw [← e, ← hb, ← hz]
      · rcases List.mem_cons.1 hx with rfl | hx
        · exact hok
        · exact ho x hx
    · cases h
theorem blobsD_img : ∀ (xs : List BlobL) (i : Nat), (∀ x ∈ xs, x.ok) → (∀ x ∈ xs, mrightB x.size x.piece = true) → blobsD i (imgItsF i xs) = some xs
  | [], _, _, _ => rfl
  | x :: xs, i, ho, hr => by
    have hb := right_bd (hr x (by simp))
    simp only [imgItsF, blobsD]
    rw [blobD_blob (ho x (by simp)) ⟨by omega, by omega⟩ ⟨by omega, by omega⟩, Option.bind_some, if_pos trivial, blobsD_img xs (i + 1) (fun y hy => ho y (by simp [hy])) (fun y hy => hr y (by simp [hy]))]
    rfl
theorem image_rights {l : List BlobL} (h : imageE l = 0) : ∀ x ∈ l, mrightB x.size x.piece = true := by
  unfold imageE at h
  split at h
  · cases h
  · rename_i hc
    have : rightsB l = true := by
      cases hr : rightsB l
      · exact absurd (.inr (.inr hr)) hc
      · rfl
    exact List.all_eq_true.1 this
/-- What Decode answers is just the image whose bytes these are. -/
theorem imgD_iff {b : List UInt8} {xs : List BlobL} : imgD b = some xs ↔ encG xs = some b ∧ ∀ x ∈ xs, x.ok := by
  constructor
  · intro h
    obtain ⟨l, hl, h⟩ := Option.bind_eq_some_iff.1 h
    obtain ⟨ys, hy, h⟩ := Option.bind_eq_some_iff.1 h
    unfold okI at h
    split at h
    · rename_i h0
      cases h
      obtain ⟨e, ho⟩ := blobsD_back l 0 xs hy
      refine ⟨?_, ho⟩
      unfold encG imgIts
      rw [if_pos h0, ← e]
      exact encL_decL hl
    · cases h
  · rintro ⟨h, ho⟩
    unfold encG at h
    split at h
    · rename_i h0
      unfold imgD
      rw [decL_encL h, Option.bind_some, imgIts, blobsD_img xs 0 ho (image_rights h0), Option.bind_some, okI, if_pos h0]
    · cases h

/-! ### The document's answer's -/

def rhash (l : List It) (n : Int) : List UInt8 := if ((findL n l).getD []).length = 32 then (findL n l).getD [] else z32
def rnum (l : List It) (n : Int) : Int := match toU ((findL n l).getD []) with
  | some k => if k ≤ 1048576 then (k : Int) else 0
  | none => 0
def rblob (l : List It) : BlobL := ⟨rhash l 1, rnum l 2, rnum l 3, rhash l 4⟩
def rblobs : List It → Option (List BlobL)
  | [] => some []
  | x :: l => (decL x.2).bind fun y => (rblobs l).map (rblob y :: ·)
def rimgD (b : List UInt8) : Option (List BlobL) := (decL b).bind fun l => (rblobs l).bind fun xs => if encG xs = some b then some xs else none
theorem rhash_len (l : List It) (n : Int) : (rhash l n).length = 32 := by
  unfold rhash
  split
  · assumption
  · rfl
theorem rblob_ok (l : List It) : (rblob l).ok := ⟨rhash_len l 1, rhash_len l 4⟩
theorem rblobs_ok : ∀ (l : List It) (xs : List BlobL), rblobs l = some xs → ∀ x ∈ xs, x.ok
  | [], xs, h => by simp only [rblobs, Option.some.injEq] at h; subst h; exact fun x hx => by cases hx
  | z :: l, xs, h => by
    simp only [rblobs] at h
    obtain ⟨y, hy, h⟩ := Option.bind_eq_some_iff.1 h
    obtain ⟨ys, hys, rfl⟩ := Option.map_eq_some_iff.1 h
    intro x hx
    rcases List.mem_cons.1 hx with rfl | hx
    · exact rblob_ok y
    · exact rblobs_ok l ys hys x hx
theorem rblob_its {x : BlobL} (hx : x.ok) (h1 : 0 ≤ x.size ∧ x.size ≤ 1048576) (h2 : 0 ≤ x.piece ∧ x.piece ≤ 1048576) : rblob (blobIts x) = x := by
  have t1 := toU_uint (n := x.size.toNat) (by omega)
  have t2 := toU_uint (n := x.piece.toNat) (by omega)
  unfold rblob rhash rnum blobIts
  simp only [findL]
  simp [hx.1, hx.2, t1, t2]
  obtain ⟨d, n, k, r⟩ := x
  simp only [BlobL.mk.injEq, true_and, and_true] at *
  constructor
  · rw [if_pos (by omega)]; omega
  · rw [if_pos (by omega)]; omega
theorem rblobs_img : ∀ (xs : List BlobL) (i : Nat), (∀ x ∈ xs, x.ok) → (∀ x ∈ xs, mrightB x.size x.piece = true) → rblobs (imgItsF i xs) = some xs
  | [], _, _, _ => rfl
  | x :: xs, i, ho, hr => by
    have hb := right_bd (hr x (by simp))
    simp only [imgItsF, rblobs]
    rw [decL_encL (enc_blob (ho x (by simp)) ⟨by omega, by omega⟩ ⟨by omega, by omega⟩), Option.bind_some, rblobs_img xs (i + 1) (fun y hy => ho y (by simp [hy])) (fun y hy => hr y (by simp [hy])), rblob_its (ho x (by simp)) ⟨by omega, by omega⟩ ⟨by omega, by omega⟩]
    rfl
theorem rimgD_eq (b : List UInt8) : rimgD b = imgD b := by
  refine Option.ext fun xs => ?_
  constructor
  · intro h
    obtain ⟨l, hl, h⟩ := Option.bind_eq_some_iff.1 h
    obtain ⟨ys, hy, h⟩ := Option.bind_eq_some_iff.1 h
    split at h
    · rename_i h0
      cases h
      exact imgD_iff.2 ⟨h0, rblobs_ok l xs hy⟩
    · cases h
  · intro h
    obtain ⟨h1, ho⟩ := imgD_iff.1 h
    have h1' := h1
    unfold encG at h1'
    split at h1'
    · rename_i h0
      unfold rimgD
      rw [decL_encL h1', Option.bind_some, imgIts, rblobs_img xs 0 ho (image_rights h0), Option.bind_some, if_pos h1]
    · cases h1'

end Go.Proofs.YtnohglkilpnjhaaGreatDoor

/- The walk of manifest.Image: whether an image may be. No condition. -/
namespace Go.Proofs.YtnohglkilpnjhaaGreatDoor
open Go.RowKit
set_option linter.unusedVariables false
set_option linter.unusedSimpArgs false
set_option maxRecDepth 100000

def RBlob : RecT 81 BlobL where
  n := 66
  bytes := 80
  zero := BlobL.zero
  cells := BlobL.cells
  ok := BlobL.ok
  pos := by decide
  small := by decide
  few := by decide
  zok := BlobL.zero_ok
  len := fun h => BlobL.cells_len h
  one := fun {x} _ v hv => Array.all_eq_true_iff_forall_mem.1 (cells_one x) v (by simpa using hv)
  agg := ⟨_, Tryz.underlying81, rfl⟩
  info := by kernel_rfl
theorem RecT.O.blobO {w : World} {g : Nat} {x : BlobL} (h : RBlob.O w g x) : BlobO w g x := h
theorem RecT.At.dig5 {w : World} {g off : Nat} {x : BlobL} (h : RBlob.At w g off x) : DigAt w g off x.dig := ⟨h.1.1, fun j hj => by
  have := h.2.2 j (by show j < 66; omega)
  rw [this]
  show x.cells[j]? = _
  unfold BlobL.cells
  rw [List.getElem?_append_left (by simp [h.1.1]; omega)]⟩
theorem BlobO.rec {w : World} {g : Nat} {x : BlobL} (h : BlobO w g x) : RBlob.O w g x := h

set_option maxHeartbeats 1600000 in
theorem oddBlob_any (x : BlobL) (w : World) (hx : x.ok) :
    Calls Tryz.prog 164 #[BlobV x] w fun e w' => e = .returned (.bool (!mrightB x.size x.piece)) ∧ Below w.heap.size w w' := by
  obtain ⟨W, hW⟩ : ∃ W, w.alloc (.cells x.cells.toArray 81) = W := ⟨_, rfl⟩
  have ho : BlobO W w.heap.size x := by rw [← hW]; exact blob_alloc w hx
  have hb : Below w.heap.size w W := by rw [← hW]; exact (Below.refl _ w).alloc (Nat.le_refl _) _
  have hR := Right_any x W hx
  obtain ⟨B, hB⟩ : ∃ B, mrightB x.size x.piece = B := ⟨_, rfl⟩
  rw [hB] at hR ⊢
  have HO := Lib.hid ho
  have HW := Lib.hid hW
  have HB := Lib.hid hb
  have HR := Lib.hid hR
  rw [show BlobV x = .agg x.cells.toArray from rfl]
  clear hB ho hW hb hR
  go_enter Tryz.func164, Tryz.ntmps164
  go_upto_region 1 with (fail)
  rw [HW.out]
  go_wp2_with (first
    | ((with_reducible refine wpList_plain (o := ⟨some 3, Op.load _ _, _, _, _, _⟩) rfl fun K hK => ?_); (refine wp_load_blob (g := w.heap.size) (x := x) rfl rfl HO.out (hK _ _ ?_)))
    | (go_at_call 66; refine HR.out.mono ?_; rintro e w2 ⟨rfl, hb2⟩; have HB2 := Lib.hid (below_next HB.out hb2); clear hb2))
  go_ret
  exact ⟨rfl, HB2.out⟩

def IdxPost5 (w : World) (r : Bool) (e : Ending) (w' : World) : Prop := ∃ i : Int, e = .returned (.int .i64 i) ∧ decide (0 ≤ i) = r ∧ Below w.heap.size w w'
set_option maxHeartbeats 1600000 in
theorem IndexFuncB_any (v : Value) (l : List BlobL) (w : World) (hl : RBlob.Row w v l) : Calls Tryz.prog 182 #[v, .func (.func 164) #[] #[]] w (IdxPost5 w (!rightsB l)) := by
  obtain ⟨a, c, hv⟩ := hl.len
  subst hv
  have hle := hl.le
  have HL := Lib.hid hl
  clear hl
  go_enter Tryz.func182, Tryz.ntmps182
  go_wp2
  go_loopw [5, 8] (fun _ iv W => ∃ k : Nat, k ≤ l.length ∧ iv = .int .i64 k ∧ rightsB l = rightsB (l.drop k) ∧ Below w.heap.size w W) (fun _ iv _ => l.length - (intOf iv).toNat)
  case atStart => exact ⟨0, Nat.zero_le _, rfl, rfl, Below.refl _ _⟩
  case round =>
    obtain ⟨k, hk, rfl, hm, hb⟩ := hrel
    by_cases hlt : k < l.length
    · obtain ⟨b, off, c', hv, hbl, hc⟩ := HL.out.at_ (by omega)
      obtain ⟨rfl, rfl⟩ : a = some ⟨b, off, none⟩ ∧ c = c' := by cases hv; exact ⟨rfl, rfl⟩
      obtain ⟨y, hy⟩ : ∃ y, l[k]? = some y := ⟨_, List.getElem?_eq_getElem hlt⟩
      have hat := (hc k y hy).of_new hb
      have hdr : l.drop k = y :: l.drop (k + 1) := by rw [List.drop_eq_getElem_cons hlt]; rw [List.getElem?_eq_getElem hlt] at hy; cases hy; rfl
      have hm2 : rightsB l = (mrightB y.size y.piece && rightsB (l.drop (k + 1))) := by rw [hm, hdr]; rfl
      have hO := fun w' => oddBlob_any y w' hat.1
      generalize mrightB y.size y.piece = B at *
      have HM := Lib.hid hm2
      have HAT := Lib.hid hat
      have HO := Lib.hid hO
      have HB := Lib.hid hb
      have hki : (k : Int) < (l.length : Int) := by omega
      clear hv hm hm2 hc hy hdr hO hat hb
      cases B with
      | false =>
        go_wp2_with (first
          | ((with_reducible refine wpList_plain (o := ⟨some 15, Op.load _ _, _, _, _, _⟩) rfl fun K hK => ?_); (refine HAT.out.wp rfl rfl (hK _ _ ?_)))
          | (go_at_call 164; refine (HO.out _).mono ?_; rintro e w2 ⟨rfl, hb2⟩; have HB2 := Lib.hid (below_next HB.out hb2); clear hb2))
        go_ret
        exact ⟨(k : Int), rfl, by rw [decide_eq_true (show (0 : Int) ≤ (k : Int) by omega), HM.out]; rfl, HB2.out⟩
      | true =>
        go_wp2_with (first
          | ((with_reducible refine wpList_plain (o := ⟨some 15, Op.load _ _, _, _, _, _⟩) rfl fun K hK => ?_); (refine HAT.out.wp rfl rfl (hK _ _ ?_)))
          | (go_at_call 164; refine (HO.out _).mono ?_; rintro e w2 ⟨rfl, hb2⟩; have HB2 := Lib.hid (below_next HB.out hb2); clear hb2))
        go_roundw
        case rel => exact ⟨k + 1, by omega, by go_num, by rw [HM.out]; rfl, HB2.out⟩
        case measure => simp [intOf]; omega
    · rw [List.drop_of_length_le (by omega)] at hm
      have HM := Lib.hid hm
      have HB := Lib.hid hb
      have hki : ¬ (k : Int) < (l.length : Int) := by omega
      clear hm hb
      go_wp2
      go_ret
      exact ⟨-1, rfl, by rw [decide_eq_false (by omega), HM.out]; rfl, HB.out⟩
theorem ret_int5 {a b : Int} (h : b = a) : Ending.returned (.int .i64 a) = .returned (.int .i64 b) := by rw [h]
theorem ret_bool5 {a b : Bool} (h : a = b) : Ending.returned (.bool a) = .returned (.bool b) := by rw [h]
theorem ContainsFuncB_any (v : Value) (l : List BlobL) (w : World) (hl : RBlob.Row w v l) : Calls Tryz.prog 165 #[v, .func (.func 164) #[] #[]] w fun e w' => e = .returned (.bool (!rightsB l)) ∧ Below w.heap.size w w' := by
  obtain ⟨B, hB⟩ : ∃ B, (!rightsB l) = B := ⟨_, rfl⟩
  have hI := IndexFuncB_any v l w hl
  rw [hB] at hI ⊢
  clear hB
  go_enter Tryz.func165, Tryz.ntmps165
  go_wp2_with fail
  refine hI.mono ?_
  rintro e w1 ⟨r, rfl, hr, hb⟩
  have HR := Lib.hid hr
  clear hr
  go_wp2
  go_ret
  exact ⟨ret_bool5 HR.out, hb⟩

/-- The map of what was seen. -/
def seenL (ds : List (List UInt8)) : List (List UInt8 × Value) := ds.reverse.map fun d => (d, .bool true)
theorem seenL_get (ds : List (List UInt8)) (d : List UInt8) : (getL (seenL ds) d).getD (.bool false) = .bool (decide (d ∈ ds)) := by
  have h : ∀ l : List (List UInt8), (getL (l.map fun d => (d, Value.bool true)) d).getD (.bool false) = .bool (decide (d ∈ l)) := by
    intro l
    induction l with
    | nil => rfl
    | cons x l ih =>
      by_cases hx : x = d
      · subst hx
        simp [getL]
      · have e : getL ((x :: l).map fun d => (d, Value.bool true)) d = getL (l.map fun d => (d, Value.bool true)) d := by
          simp [getL, hx]
        rw [e, ih]
        simp [show ¬ d = x from fun e => hx e.symm]
  unfold seenL
  rw [h]
  simp
theorem seenL_put {ds : List (List UInt8)} {d : List UInt8} (h : d ∉ ds) : putM (seenL ds) d (.bool true) = seenL (ds ++ [d]) := by
  unfold putM
  have : delL (seenL ds) d = seenL ds := by
    unfold delL
    rw [List.filter_eq_self]
    intro p hp
    obtain ⟨x, hx, rfl⟩ := List.mem_map.1 hp
    simp only [List.mem_reverse] at hx
    have : x ≠ d := fun e => h (e ▸ hx)
    simp [this]
  rw [this]
  simp [seenL]
theorem nodup_snoc {ds : List (List UInt8)} {d : List UInt8} : (ds ++ [d]).Nodup ↔ ds.Nodup ∧ d ∉ ds := by
  rw [List.nodup_append]
  simp
  intro _
  constructor
  · intro h2 h
    exact h2 d h rfl
  · intro h2 a ha e
    exact h2 (e ▸ ha)
theorem zero_bool (w : World) : (zeroValue 4).run Tryz.prog w = .ok (.bool false) w := by kernel_rfl

/-- Ahead of each round. -/
def ImgI (w2 : World) (bm : Nat) (l : List BlobL) (k : Nat) (W : World) : Prop := MapL KDig W bm (seenL (digs (l.take k))) ∧ (digs (l.take k)).Nodup ∧ Kept (fun q => q ≠ bm) w2 W
theorem digs_step {l : List BlobL} {k : Nat} {x : BlobL} (h : l[k]? = some x) : digs (l.take (k + 1)) = digs (l.take k) ++ [x.dig] := by
  have hk : k < l.length := (List.getElem?_eq_some_iff.1 h).1
  unfold digs
  rw [List.take_add_one, h]; simp
theorem digs_dup {l : List BlobL} {k : Nat} {x : BlobL} (h : l[k]? = some x) (hm : x.dig ∈ digs (l.take k)) : ¬ (digs l).Nodup := fun hn => by
  have : (digs (l.take (k + 1))).Nodup := hn.sublist ((List.take_sublist _ _).map _)
  rw [digs_step h] at this
  exact (nodup_snoc.1 this).2 hm

set_option maxHeartbeats 3200000 in
theorem Image_any (v : Value) (l : List BlobL) (w : World) (hl : RBlob.Row w v l) : Calls Tryz.prog 123 #[.agg #[v]] w fun e w' => e = .returned (.int .i64 (imageE l)) ∧ Below w.heap.size w w' := by
  have hmm := @run_makeMap Tryz.prog
  obtain ⟨a, c, hv⟩ := hl.len
  subst hv
  have hle := hl.le
  obtain ⟨W, hW⟩ : ∃ W, w.alloc (.cells #[.slice a l.length c] 52) = W := ⟨_, rfl⟩
  have ho : One W w.heap.size (.slice a l.length c) 52 := by rw [← hW]; exact heap_alloc_new w _
  have hb : Below w.heap.size w W := by rw [← hW]; exact (Below.refl _ w).alloc (Nat.le_refl _) _
  have hc1 := ho.cell
  have HL := Lib.hid (hl.of_new hb)
  have HO := Lib.hid ho
  have HW := Lib.hid hW
  have HB := Lib.hid hb
  clear hl ho hW hb
  by_cases h1 : l.length < 1
  · have HE := Lib.hid (show imageE l = 1 by unfold imageE; rw [if_pos (.inl h1)])
    have h1i : (l.length : Int) < 1 := by omega
    clear h1
    go_enter Tryz.func123, Tryz.ntmps123
    go_upto_region 1 with (fail)
    rw [HW.out]
    go_wp2
    go_ret
    exact ⟨ret_int5 HE.out, HB.out⟩
  have h1i : ¬ (l.length : Int) < 1 := by omega
  by_cases h2 : 16 < l.length
  · have HE := Lib.hid (show imageE l = 1 by unfold imageE; rw [if_pos (.inr (.inl h2))])
    have h2i : (16 : Int) < (l.length : Int) := by omega
    clear h1 h2
    go_enter Tryz.func123, Tryz.ntmps123
    go_upto_region 1 with (fail)
    rw [HW.out]
    go_wp2
    go_ret
    exact ⟨ret_int5 HE.out, HB.out⟩
  have h2i : ¬ (16 : Int) < (l.length : Int) := by omega
  have hC := ContainsFuncB_any _ l W HL.out
  rcases hr : rightsB l with _ | _
  · have HE := Lib.hid (show imageE l = 1 by unfold imageE; rw [if_pos (.inr (.inr hr))])
    rw [hr] at hC
    have HC := Lib.hid hC
    clear h1 h2 hC hr
    go_enter Tryz.func123, Tryz.ntmps123
    go_upto_region 1 with (fail)
    rw [HW.out]
    go_wp2_with (go_at_call 165; refine HC.out.mono ?_; rintro e w2 ⟨rfl, hb2⟩; have HB2 := Lib.hid (below_next HB.out hb2); clear hb2)
    go_ret
    exact ⟨ret_int5 HE.out, HB2.out⟩
  have HE := Lib.hid (show imageE l = if (digs l).Nodup then 0 else 5 by
    unfold imageE
    rw [if_neg]
    rintro (h | h | h)
    · exact h1 h
    · exact h2 h
    · rw [hr] at h; cases h)
  rw [hr] at hC
  have HC := Lib.hid hC
  have h2l : (l.length : Int) ≤ 16 := by omega
  clear h1 h2 hC hr
  go_enter Tryz.func123, Tryz.ntmps123
  go_upto_region 1 with (fail)
  rw [HW.out]
  go_upto_region 5 with (go_at_call 165; refine HC.out.mono ?_; rintro e w2 ⟨rfl, hb2⟩; have HB2 := Lib.hid (below_next HB.out hb2); have HL2 := Lib.hid (HL.out.of_new hb2); have HO2 := Lib.hid (HO.out.of_new hb2); clear hb2)
  generalize hW3 : w2.alloc (.map #[] 0) = w3
  have hM3 : MapL KDig w3 w2.heap.size [] := by rw [← hW3]; exact mapL_made w2
  have hb3 : Below w2.heap.size w2 w3 := by rw [← hW3]; exact (Below.refl _ w2).alloc (Nat.le_refl _) _
  have HM3 := Lib.hid hM3
  have HK3 := Lib.hid ((Kept.refl (fun q => q ≠ w2.heap.size) w2).below hb3)
  have hc3 := (HO2.out.of_new hb3).cell
  have hO2 := HO2.out.lt
  have hBS := HB2.out.size
  obtain ⟨bm, hbm⟩ : ∃ bm, w2.heap.size = bm := ⟨_, rfl⟩
  have HBM := Lib.hid hbm
  rw [hbm] at HM3 HK3 hO2 hBS ⊢
  clear hW3 hM3 hb3 hbm hc1
  go_wp2
  go_loopw [6, 27] (fun _ iv W' => ∃ k : Nat, k ≤ l.length ∧ iv = .int .i64 k ∧ ImgI w2 bm l k W') (fun _ iv _ => l.length - (intOf iv).toNat)
  case atStart => exact ⟨0, Nat.zero_le _, rfl, HM3.out, by simp [digs], HK3.out⟩
  case round =>
    obtain ⟨k, hk, rfl, hM, hnd, hK⟩ := hrel
    have hbw : Below w.heap.size w wr := hK.to_below HB2.out (by have := HBM.out; omega) (fun q hq => by have := HBM.out; omega)
    by_cases hlt : k < l.length
    · obtain ⟨b, off, c', hv, hbl, hc⟩ := HL2.out.at_ (by omega)
      obtain ⟨rfl, rfl⟩ : a = some ⟨b, off, none⟩ ∧ c = c' := by cases hv; exact ⟨rfl, rfl⟩
      obtain ⟨y, hy⟩ : ∃ y, l[k]? = some y := ⟨_, List.getElem?_eq_getElem hlt⟩
      have hat := (hc k y hy).of_block (hK.block b hbl (by have := HBM.out; omega))
      have hyo := hat.1
      have hki : (k : Int) < (l.length : Int) := by omega
      have HY := Lib.hid hy
      have HM := Lib.hid hM
      have HND := Lib.hid hnd
      have HK := Lib.hid hK
      have HAT := Lib.hid hat
      have HYO := Lib.hid hyo
      have HBW := Lib.hid hbw
      clear hv hc hy hM hnd hK hat hyo hbw
      go_upto_region 8 with (first
        | ((with_reducible refine wpList_plain (o := ⟨some 30, Op.load _ _, _, _, _, _⟩) rfl fun K hK => ?_); (refine HAT.out.wp rfl rfl (hK _ _ ?_)))
        | ((with_reducible refine wpList_plain (o := ⟨some 6, Op.alloc _, _, _, _, _⟩) rfl fun K hK => ?_); (refine RBlob.wp_alloc rfl fun w4 ho4 hb4 hs4 => hK _ _ ?_); have HO4 := Lib.hid ho4; have HB4 := Lib.hid hb4; clear ho4 hb4 hs4)
        | ((with_reducible refine wpList_plain (o := ⟨none, Op.store _ (.tmp 6) (.tmp 30), _, _, _, _⟩) rfl fun K hK => ?_); (refine HO4.out.store (.tmp 6) (.tmp 30) rfl rfl rfl HYO.out fun w5 ho5 hg5 hs5 => hK _ _ ?_); have hb5 := HB4.out.grown hg5 (by have := HB4.out.size; omega) (fun k e => by cases e; exact Nat.le_refl _); have HO5 := Lib.hid ho5; have HB5 := Lib.hid hb5; have HM5 := Lib.hid (HM.out.of_new hb5); clear ho5 hg5 hs5 hb5))
      have hd := HO5.out.blobO.dig
      have hdl : y.dig.length = 32 := HYO.out.1
      have hlk : (Instr.lookup 242 (.map (some bm)) (.agg (y.dig.map B8).toArray) false).run Tryz.prog w5 = .ok (.bool (decide (y.dig ∈ digs (l.take k)))) w5 := by
        have h := MapL.look HM5.out (e := 4) (t := 242) Tryz.underlying242 (zero_bool _) (x := y.dig) hdl
        rw [seenL_get] at h
        exact h
      have HD := Lib.hid hd
      by_cases hin : y.dig ∈ digs (l.take k)
      · have hn := digs_dup HY.out hin
        rw [show decide (y.dig ∈ digs (l.take k)) = true by simp [hin]] at hlk
        have HN := Lib.hid (show imageE l = 5 by rw [HE.out, if_neg hn])
        clear hin hn hd
        go_wp2_with (first
          | ((with_reducible refine wpList_plain (o := ⟨some 33, Op.load _ _, _, _, _, _⟩) rfl fun K hK => ?_); (refine wp_load_at (ty := 31) (x := .tmp 32) rfl rfl HD.out (hK _ _ ?_))))
        go_ret
        exact ⟨ret_int5 HN.out, below_next HBW.out HB5.out⟩
      · rw [show decide (y.dig ∈ digs (l.take k)) = false by simp [hin]] at hlk
        obtain ⟨w6, hpu, hm6, hg6, hs6⟩ := MapL.put HM5.out (e := 4) (t := 242) Tryz.underlying242 (x := y.dig) hdl (.bool true) (by simp [seenL, digs]; omega)
        rw [seenL_put hin, ← digs_step HY.out] at hm6
        have hpu' : (Instr.mapUpdate 242 (.map (some bm)) (.agg (y.dig.map B8).toArray) (.bool true)).run Tryz.prog w5 = .ok () w6 := hpu
        have HM6 := Lib.hid hm6
        have HK6 := Lib.hid ((HK.out.below HB5.out).grown hg6 (fun r e => by cases e; simp))
        have HND6 := Lib.hid (show (digs (l.take (k + 1))).Nodup by rw [digs_step HY.out]; exact nodup_snoc.2 ⟨HND.out, hin⟩)
        clear hpu hm6 hg6 hs6 hin hd
        go_wp2_with (first
          | ((with_reducible refine wpList_plain (o := ⟨some 33, Op.load _ _, _, _, _, _⟩) rfl fun K hK => ?_); (refine wp_load_at (ty := 31) (x := .tmp 32) rfl rfl HD.out (hK _ _ ?_)))
          | ((with_reducible refine wpList_plain (o := ⟨some 37, Op.load _ _, _, _, _, _⟩) rfl fun K hK => ?_); (refine wp_load_at (ty := 31) (x := .tmp 36) rfl rfl HD.out (hK _ _ ?_))))
        go_roundw
        case rel => exact ⟨k + 1, by omega, by go_num, HM6.out, HND6.out, HK6.out⟩
        case measure => simp [intOf]; omega
    · obtain rfl : k = l.length := by omega
      rw [List.take_length] at hnd
      have HN := Lib.hid (show imageE l = 0 by rw [HE.out, if_pos hnd])
      have HBW := Lib.hid hbw
      clear hM hnd hK hbw
      go_wp2
      go_ret
      exact ⟨ret_int5 HN.out, HBW.out⟩

end Go.Proofs.YtnohglkilpnjhaaGreatDoor

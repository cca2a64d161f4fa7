/- Settled texts of this seat, one behind the other: each begins with a comment that says what it proves and asks. -/
import Derived.Test.YtnomekfemadpeaaDoorGa
import Derived.Laws.StructEq
import Derived.Test.YtnomekfemadpeaaDoorGb
import Derived.Deep.Cut
import Derived.BigQuiet
import Derived.Deep.OwnRows
import Derived.Laws.OwnMore
/- A guarded operation that is met, at the head of a list of operations. No condition. -/
namespace Go.Proofs.YtnomekfemadpeaaDoor
open Go.RowKit
set_option linter.unusedVariables false

/-- A guarded operation that is met, at the head of a list. -/
theorem wpList_met {P : Program} {ops : Array Oper} {rest : List Oper} {o : Oper} {a : Act} {w : World} {Q : Exit → Act → World → Prop} (hw : Region.wanted o (yielded ops a.tmps) = true)
    (h : ∀ K : Act → World → Prop, (∀ a w, wpList P ops Q rest a w → K a w) → o.wp P a w K Q) : wpList P ops Q (o :: rest) a w :=
  wpList_step fun K hK => by rw [if_pos hw]; exact h K hK

end Go.Proofs.YtnomekfemadpeaaDoor

/- '==' of structs, field by field: a general law. No condition. -/
namespace Go.Proofs.YtnomekfemadpeaaDoor
open Go.RowKit
set_option linter.unusedVariables false

theorem eqFields_all {P : Program} {w : World} {d : Nat} {xs ys : Array Value} (g : Nat → Bool) : ∀ fs : List Field,
    (∀ f ∈ fs, f.name ≠ "_" ∧ ∃ a b, (part f.type xs f.offset).run P w = .ok a w ∧ (part f.type ys f.offset).run P w = .ok b w ∧ (Op.equalIn d f.type a b).run P w = .ok (g f.offset) w) →
    (Op.eqFields d xs ys fs).run P w = .ok (fs.all fun f => g f.offset) w
  | [], _ => by simp [Op.eqFields, Sem.run_pure]
  | f :: fs, h => by
    obtain ⟨hn, a, b, h1, h2, h3⟩ := h f (.head _)
    have ih := eqFields_all g fs (fun f' hf => h f' (.tail _ hf))
    simp only [Op.eqFields, hn, ne_eq, not_false_eq_true, if_true, Sem.run_bind, h1, h2, h3, Result.andThen_ok, List.all_cons]
    cases g f.offset
    · simp [Sem.run_pure]
    · simpa using ih

end Go.Proofs.YtnomekfemadpeaaDoor

/- The walks of manifest.leaves: the maker, and the iterator over the hashes of bytes' pieces. Conditions: the table of constants as the program lays it; pieces of 1 to 2^20 bytes of no more than 2^40. -/
namespace Go.Proofs.YtnomekfemadpeaaDoor
open Go.RowKit Go.Shelf
attribute [local go_sem] Oper.semAt_some
set_option linter.unusedVariables false
set_option linter.unusedSimpArgs false
set_option maxRecDepth 100000

/-- The hashes of the pieces. -/
def leavesL (b : List UInt8) (k : Nat) : List (List UInt8) := (chunksL b k).map leafL
theorem leavesL_len (b : List UInt8) (k : Nat) : (leavesL b k).length = (b.length + k - 1) / k := by simp [leavesL, chunksL_len]
theorem leavesL_32 (b : List UInt8) (k : Nat) : Dig32 (leavesL b k) := fun d hd => by
  obtain ⟨c, _, rfl⟩ := List.mem_map.1 hd
  exact leafL_len c

set_option maxHeartbeats 800000 in
theorem leaves_any (a : Option Addr) (n c : Nat) (k : Int) (w : World) :
    Calls Tryd.prog 43 #[.slice a n c, .int .i64 k] w fun e w' =>
      e = .returned (.func (.func 68) #[] #[.pointer (some ⟨w.heap.size, 0, none⟩), .pointer (some ⟨w.heap.size + 1, 0, none⟩)]) ∧ w' = (w.alloc (.cells #[.slice a n c] 22)).alloc (.cells #[.int .i64 k] 3) := by
  go_enter Tryd.func43, Tryd.ntmps43
  go_wp2
  go_ret
  exact ⟨rfl, rfl⟩

theorem roundIn_wide {l l' n n' : Nat} {P : Program} {f : FuncId} {tmps : Array Value} {assign body : Code} {w : World} {R : Ending → World → Prop} (h : RoundIn Fence.wide n P l f tmps assign body w R) : RoundIn (Fence.wide.inRound l') n' P l f tmps assign body w R :=
  ⟨h.1, fun c cs hr => h.2 c cs (fun d hd => by cases hd)⟩

/-- What holds ahead of each round of the range over the pieces. -/
def LeavesI (w0 : World) (gy l : Nat) (J : List (List UInt8) → World → Prop) (pre : List (List UInt8 × Value)) (W : World) : Prop :=
  J (pre.map (leafL ·.1)) W ∧ One W gy (.func (.yield l) #[] #[]) 100 ∧ Below w0.heap.size w0 W

set_option maxHeartbeats 3200000 in
theorem leaves_seq (bs bn : Nat) (v : Value) (b : List UInt8) (k : Nat) (hk : 1 ≤ k) (hk2 : k ≤ 1048576) (hlen : b.length ≤ 1099511627776) (W w0 : World) (hc1 : One W bs v 22) (hc2 : One W bn (.int .i64 (k : Int)) 3) (hl : Bytes w0 v b) (hK : Consts w0) (hb0 : Below w0.heap.size w0 W) :
    SeqT Fence.wide 4 Tryd.prog 68 #[.pointer (some ⟨bs, 0, none⟩), .pointer (some ⟨bn, 0, none⟩)] encD (fun pre x W' => pre ++ [x] <+: leavesL b k)
      (fun xs => xs = leavesL b k) (fun _ => False) w0.heap.size (leavesL b k).length W := fun l J hJ hY h0 => by
  have hsz0 := hb0.size
  obtain ⟨T, hT⟩ : ∃ T : (Nat → Prop) → Nat → Prop, T = fun G j => (W.heap.size ≤ j ∧ j < W.heap.size + 5) ∨ (G j ∧ W.heap.size ≤ j) := ⟨_, rfl⟩
  have hTF : ∀ G, Fresh (fun _ => False) (T G) W := fun G j hj => .inl (by rw [hT] at hj; rcases hj with h | h; exact h.1; exact h.2)
  have hJG := fun G => hJ (T G) (hTF G)
  have hYG := fun G pre x W1 => hY (T G) pre x W1 (hTF G)
  have h0G := fun G W' => h0 (T G) W' (hTF G)
  have hTi : ∀ G j, W.heap.size ≤ j → j < W.heap.size + 5 → T G j := fun G j h1 h2 => by rw [hT]; exact .inl ⟨h1, h2⟩
  have hTg : ∀ G j, G j → W.heap.size ≤ j → T G j := fun G j h1 h2 => by rw [hT]; exact .inr ⟨h1, h2⟩
  have hTo : ∀ G j, T G j → (W.heap.size ≤ j ∧ j < W.heap.size + 5) ∨ G j := fun G j h => by rw [hT] at h; exact h.imp id (·.1)
  clear hJ hY h0
  refine (CallsIn.mono (R := fun e W' => (∃ v, e = .returned v) ∧ ∃ G, J (T G) (leavesL b k) W') ?_ (fun e W' h => ⟨h.1, by obtain ⟨_, G, h⟩ := h; exact ⟨T G, _, hTF G, rfl, h⟩⟩))
  clear hTF hT
  obtain ⟨va, vc, hv⟩ := hl.len
  subst hv
  have c1 := fun o => (hc1.of_new ((Below.refl _ W).alloc (Nat.le_refl _) o)).cell
  have c2 := fun o => (hc2.of_new ((Below.refl _ W).alloc (Nat.le_refl _) o)).cell
  refine callsIn_of_wp_marks Tryd.func68 rfl trivial ?_ rfl
  simp only [Tryd.ntmps68, List.size_toArray, List.length_cons, List.length_nil, Nat.reduceAdd, Nat.reduceSub, Array.replicate_succ, Array.replicate_zero, List.push_toArray, List.append_toArray, List.nil_append, List.cons_append]
  gi_wp2_with (refine ⟨trivial, ?_⟩; gi_at_call 69; refine (callsIn_wide.2 (Chunk_any _ _ _ _ (by omega) _)).mono ?_; rintro e w' ⟨rfl, rfl⟩)
  generalize hW0 : ((W.alloc _).alloc _).alloc _ = W0
  obtain ⟨hsz, hB0, o1, o2, o3⟩ : W0.heap.size = W.heap.size + 3 ∧ Below W.heap.size W W0 ∧ One W0 W.heap.size (.func (.yield l) #[] #[]) 100 ∧ One W0 (W.heap.size + 1) (.slice va b.length vc) 22 ∧ One W0 (W.heap.size + 1 + 1) (.int .i64 (k : Int)) 3 := by
    subst hW0
    refine ⟨by simp, (((Below.refl _ W).alloc (Nat.le_refl _) _).alloc (by simp) _).alloc (by simp; omega) _, ?_, ?_, ?_⟩
    · exact (Below.heap_alloc _ _ _ (by simp; omega)).trans ((Below.heap_alloc _ _ _ (by simp)).trans (heap_alloc_new _ _))
    · refine (Below.heap_alloc _ _ _ (by simp)).trans ?_
      have := heap_alloc_new (W.alloc (.cells #[.func (.yield l) #[] #[]] 100)) (.cells #[.slice va b.length vc] 22)
      rwa [World.size_alloc] at this
    · have := heap_alloc_new ((W.alloc (.cells #[.func (.yield l) #[] #[]] 100)).alloc (.cells #[.slice va b.length vc] 22)) (.cells #[.int .i64 (k : Int)] 3)
      rwa [World.size_alloc, World.size_alloc] at this
  clear hW0 c1 c2
  refine wpIn_rangeFunc_total (F := Fence.wide) (n := 4) rfl (by omega) (gf := 91) (lb := #[.pointer (some ⟨W.heap.size + 1, 0, none⟩), .pointer (some ⟨W.heap.size + 1 + 1, 0, none⟩)]) rfl trivial
    (enters_of Tryd.func91 (by kernel_rfl) rfl)
    (encs := encC) (It := ChunkIt w0 b k) (S := fun xs => xs.map (·.1) = chunksL b k) (O := fun j => j = W.heap.size + 1 ∨ j = W.heap.size + 1 + 1) (n0 := w0.heap.size) (N := (chunksL b k).length) (by omega) (fun j h => by omega)
    (fun W1 hb1 hs1 => chunk_seq 3 (by omega) _ _ _ _ b k hk hk2 hlen W1 w0 (o2.of_block (hb1.block _ (by omega))) (o3.of_block (hb1.block _ (by omega))) hl)
    (fun _ => rfl)
    (fun G => LeavesI w0 W.heap.size l (J (T G)))
    (fun G s A B hG hs hkp => by
      obtain ⟨a1, a2, a3⟩ := hs
      have hno : ∀ j, j ≤ W.heap.size → ¬ G j := fun j hj h => by rcases hG j h with h | h <;> omega
      exact ⟨hJG G _ _ _ a1 (hkp.mono fun j _ hj => ⟨fun h => hj (hTg G j h (by rcases hG j h with h | h <;> omega)), fun h => hj (hTi G j (by omega) (by omega))⟩), a2.of_block (hkp.block _ a2.lt ⟨hno _ (Nat.le_refl _), by omega⟩), hkp.to_below a3 (by have := a2.lt; omega) (fun j hj => ⟨hno _ (by omega), by omega⟩)⟩)
    (fun _ _ _ _ h _ => h)
    (fun G W' hG hb => by
      have hbw : Below W.heap.size W W' := hB0.trans (hb.mono (by omega))
      exact ⟨h0G G W' hbw, o1.of_block (hb.block _ (by omega)), hb0.trans (hbw.mono (by omega))⟩)
    (fun x a W' => a = { tmps := #[.func (.yield l) #[] #[], .pointer (some ⟨bs, 0, none⟩), .pointer (some ⟨bn, 0, none⟩), .pointer (some ⟨W.heap.size, 0, none⟩), x.2, .slice va b.length vc, .int .i64 (k : Int),
      .func (.func 91) #[] #[.pointer (some ⟨W.heap.size + 1, 0, none⟩), .pointer (some ⟨W.heap.size + 1 + 1, 0, none⟩)], x.2, undef, undef, undef, undef, undef], defers := [] })
    (fun _ _ _ _ h _ => h)
    ?assign ?body ?done
  case assign =>
    rintro l' pre ⟨x, u⟩ W1 K ⟨_, hx⟩ _ hK2
    dsimp only at hx
    obtain ⟨ua, uc, hv⟩ := hx.len
    subst hv
    gi_wp2
    exact hK2 _ _ (Below.refl _ _) rfl
  case body =>
    rintro l' G pre ⟨x, u⟩ a' W1 hG hGl ⟨a1, a2, a3⟩ ⟨hpre, hx⟩ ha hlen hW2
    dsimp only at hx ha
    obtain ⟨ua, uc, hv⟩ := hx.len
    subst hv
    subst ha
    have hxk : x.length ≤ k := chunks_le x (hpre.subset (by simp))
    have hcy : ∀ w2, Grew W1 w2 → w2.cell? ⟨W.heap.size, 0, none⟩ = some (.func (.yield l) #[] #[]) := fun w2 h => (a2.of_new h).cell
    gi_wp2
    refine wpIn_region_class (ro := some l') (C := Grew W1) 3 (by kernel_rfl) (by kernel_rfl) (Grew.start _) ?_
    simp only [List.take_succ_cons, List.take_zero, List.drop_succ_cons, List.drop_zero]
    go_simp
    repeat (first
      | (go_big_quiet_want; (with_reducible apply quiet_load_at (ty := 25) (x := .tmp _)); rfl; rfl; assumption; go_simp; go_big_quiet_on)
      | (go_big_quiet_want; apply quiet_val; (intro w' hw'; go_simp; first | done | rfl); go_simp; go_big_quiet_on)
      | (go_big_quiet_want; apply quiet_call (f := 46); (intro w' hw'; go_simp; first | done | rfl); (intro w' hw'; exact Grew.call hw' (Leaf_any _ x w' (hx.of_new (below_next' a3 hw' (by omega))) (by omega) (hK.of_new (below_next' a3 hw' (by omega))))); go_simp; go_big_quiet_on)
      | (go_big_quiet_skip))
    refine wpQuiet_nil ?_
    intro w6 hw6
    rw [wF_some]
    have hpre2 : pre.map (leafL ·.1) ++ [leafL x] <+: leavesL b k := by
      have := hpre.map leafL
      rw [List.map_map, List.map_append] at this
      exact this
    have hlen2 : (pre.map (leafL ·.1)).length < (leavesL b k).length := by rw [List.length_map, leavesL, List.length_map]; exact hlen
    have hkw : Kept (fun j => ¬ T G j) W1 w6 := (Kept.refl _ W1).below hw6
    have a1' : J (T G) (pre.map (leafL ·.1)) w6 := hJG G _ _ _ a1 hkw
    have hTl : ∀ j, T G j → j < w6.heap.size := fun j hj => by have := hw6.size; rcases hTo G j hj with h | h; omega; (have := hGl j h; omega)
    obtain ⟨P, hP⟩ : ∃ P, pre.map (leafL ·.1) = P := ⟨_, rfl⟩
    rw [hP] at a1' hpre2 hlen2
    obtain ⟨d, hd⟩ : ∃ d, leafL x = d := ⟨_, rfl⟩
    rw [hd] at hpre2 ⊢
    obtain ⟨fn, tmps, assign, body, hy, hR⟩ := hYG G P d w6 hTl a1' hpre2 hlen2
    dsimp only [encD] at hy
    gi_wp2
    refine (roundIn_wide hR).mono ?_
    rintro e W3 ⟨rfl, hJ3, hk3⟩
    gi_wp2
    have hgy := hk3.block W.heap.size (by have := a2.lt; have := hw6.size; omega) (.inl (hTi G _ (Nat.le_refl _) (by omega)))
    refine ⟨((Kept.refl _ W1).below hw6).trans (hk3.mono fun j _ hj => ?_), ?_, (a2.of_new hw6).of_block hgy, hk3.to_below (below_next' a3 hw6 (by omega)) (by have := hw6.size; omega) (fun j hj => .inr hj)⟩
    · rcases hj with h | h | h | h
      · exact .inl (hTg G j h (by rcases hG j h with h | h <;> omega))
      · exact .inr h
      · exact .inl (hTi G j (by omega) (by omega))
      · exact .inl (hTi G j (by omega) (by omega))
    · rw [List.map_append, hP]; rw [← hd] at hJ3; exact hJ3
  case done =>
    rintro G xs W1 hxs ⟨a1, a2, a3⟩ hW2 hD
    have e : xs.map (leafL ·.1) = leavesL b k := by unfold leavesL; rw [← hxs, List.map_map]; rfl
    rw [e] at a1
    gi_wp2
    refine ⟨by simp, .inl ⟨_, _, rfl, run_takeDeferred hD, ?_⟩⟩
    refine ⟨_, results_none rfl _ _ _, ?_⟩
    exact ⟨⟨_, rfl⟩, G, hJG G _ _ _ a1 ((Kept.refl _ W1).putObj (fun h => h (hTi G _ (by omega) (by omega))) _)⟩

end Go.Proofs.YtnomekfemadpeaaDoor

/- What tells of a blob (api.Blob) as a value: its cells, loads, stores, '=='. No condition. -/
namespace Go.Proofs.YtnomekfemadpeaaDoor
open Go.RowKit
set_option linter.unusedVariables false
set_option linter.unusedSimpArgs false
set_option maxRecDepth 100000

/-- What tells of a blob. -/
structure BlobL where
  dig : List UInt8
  size : Int
  piece : Int
  root : List UInt8
deriving DecidableEq

def BlobL.cells (x : BlobL) : List Value := x.dig.map B8 ++ (.int .i64 x.size :: .int .i64 x.piece :: x.root.map B8)
def BlobL.ok (x : BlobL) : Prop := x.dig.length = 32 ∧ x.root.length = 32
def BlobV (x : BlobL) : Value := .agg x.cells.toArray
def z32 : List UInt8 := List.replicate 32 0
def BlobL.zero : BlobL := ⟨z32, 0, 0, z32⟩
theorem BlobL.zero_ok : BlobL.zero.ok := ⟨rfl, rfl⟩
theorem BlobL.cells_len {x : BlobL} (h : x.ok) : x.cells.length = 66 := by simp [BlobL.cells, h.1, h.2]

/-- The block g holds what tells of the blob x. -/
def BlobO (w : World) (g : Nat) (x : BlobL) : Prop := w.heap[g]? = some (.cells x.cells.toArray 27 (0, 0)) ∧ x.ok
theorem BlobO.lt {w : World} {g : Nat} {x : BlobL} (h : BlobO w g x) : g < w.heap.size := (Array.getElem?_eq_some_iff.1 h.1).1
theorem BlobO.of_new {w w' : World} {g : Nat} {x : BlobL} (h : BlobO w g x) (hb : Below w.heap.size w w') : BlobO w' g x := ⟨(hb.block _ h.lt).trans h.1, h.2⟩
theorem BlobO.of_block {w w' : World} {g : Nat} {x : BlobL} (h : BlobO w g x) (hb : w'.heap[g]? = w.heap[g]?) : BlobO w' g x := ⟨hb.trans h.1, h.2⟩
theorem blob_alloc (w : World) {x : BlobL} (h : x.ok) : BlobO (w.alloc (.cells x.cells.toArray 27)) w.heap.size x := ⟨heap_alloc_new w _, h⟩
theorem BlobO.size {w : World} {g : Nat} {x : BlobL} (h : BlobO w g x) : w.cell? ⟨g, 32, none⟩ = some (.int .i64 x.size) := by
  simp only [World.cell?, h.1, BlobL.cells]
  have := h.2.1
  simp [List.getElem?_append_right, this]
theorem BlobO.piece {w : World} {g : Nat} {x : BlobL} (h : BlobO w g x) : w.cell? ⟨g, 33, none⟩ = some (.int .i64 x.piece) := by
  simp only [World.cell?, h.1, BlobL.cells]
  have := h.2.1
  simp [List.getElem?_append_right, this]
theorem BlobO.dig {w : World} {g : Nat} {x : BlobL} (h : BlobO w g x) : DigAt w g 0 x.dig := ⟨h.2.1, fun j hj => by
  have := h.2.1
  simp only [World.cell?, h.1, BlobL.cells, Nat.zero_add]
  simp [List.getElem?_append_left (show j < (x.dig.map B8).length by simp [this, hj])]⟩
theorem BlobO.root {w : World} {g : Nat} {x : BlobL} (h : BlobO w g x) : DigAt w g 34 x.root := ⟨h.2.2, fun j hj => by
  have h1 := h.2.1
  simp only [World.cell?, h.1, BlobL.cells]
  have e : 34 + j - 32 = j + 2 := by omega
  simp only [Option.isSome_none, Bool.false_eq_true, if_false, List.getElem?_toArray]
  rw [List.getElem?_append_right (by simp [h1]; omega)]
  simp [h1, e]⟩

theorem size_blob : (Tryd.prog.info? 27).map (·.size) = some 66 := by kernel_rfl
theorem cells_one (x : BlobL) : x.cells.toArray.all (·.oneCell') = true :=
  Array.all_eq_true_iff_forall_mem.2 (fun v hv => by
    have hv' : v ∈ x.cells := by simpa using hv
    simp only [BlobL.cells, List.mem_append, List.mem_cons, List.mem_map] at hv'
    rcases hv' with ⟨b, _, rfl⟩ | rfl | rfl | ⟨b, _, rfl⟩ <;> rfl)
theorem run_load_blob {w : World} {g : Nat} {x : BlobL} (h : BlobO w g x) : (loadVar 27 ⟨g, 0, none⟩).run Tryd.prog w = .ok (BlobV x) w :=
  run_loadVar_row (P := Tryd.prog) w g 27 27 x.cells.toArray (0, 0) _ h.1 Tryd.underlying27 rfl (by rw [size_blob]; simp [BlobL.cells_len h.2])
theorem wp_load_blob {w : World} {o : Oper} {a : Act} {K : Act → World → Prop} {Q : Exit → Act → World → Prop} {p : Operand} {g : Nat} {x : BlobL} (ho : o.op = .load 27 p) (hp : a.eval p = .pointer (some ⟨g, 0, none⟩)) (h : BlobO w g x)
    (hK : K (a.put o.dst (BlobV x)) w) : o.wp Tryd.prog a w K Q := by
  refine wp_val (v := BlobV x) ?_ hK
  have := run_load_blob h
  unfold execOp
  simp only [ho, hp, Instr.loadAt, Instr.sureAddr, Sem.run_bind, Sem.run_pure, Result.andThen_ok, this]
theorem quiet_load_blob {W : World} {o : Oper} {a : Act} {K : Act → Prop} {p : Operand} {g : Nat} {x : BlobL} (ho : o.op = .load 27 p) (hp : a.eval p = .pointer (some ⟨g, 0, none⟩)) (h : BlobO W g x)
    (hK : K (a.put o.dst (BlobV x))) : o.quiet Tryd.prog a (Grew W) K := by
  refine quiet_val (fun w hw => ?_) hK
  have := run_load_blob (h.of_new hw)
  unfold execOp
  simp only [ho, hp, Instr.loadAt, Instr.sureAddr, Sem.run_bind, Sem.run_pure, Result.andThen_ok, this]
theorem wp_store_blob {w : World} {op : Oper} {a : Act} {K : Act → World → Prop} {Q : Exit → Act → World → Prop} (p q : Operand) (g : Nat) (x y : BlobL) (ho : op.op = .store 27 p q)
    (hp : a.eval p = .pointer (some ⟨g, 0, none⟩)) (hq : a.eval q = BlobV x) (hx : x.ok) (hg : BlobO w g y)
    (h : ∀ w', BlobO w' g x → w.grownBy w' (some g) → w'.heap.size = w.heap.size → K (a.put op.dst undef) w') : op.wp Tryd.prog a w K Q := by
  have hrun := run_storeVar_row (P := Tryd.prog) w g 27 27 _ x.cells.toArray hg.1 (by rw [size_blob]; simp [BlobL.cells_len hx]) (by simp [BlobL.cells_len hx, BlobL.cells_len hg.2]) (cells_one x)
  unfold BlobV at hq
  unfold Oper.wp execOp
  simp only [ho, hp, hq, Instr.storeAt, Instr.sureAddr, Sem.run_bind, Sem.run_pure, Result.andThen_ok, hrun]
  exact h _ ⟨setRow_heap _ _ _ _ _ _ hg.1, hx⟩ (grown_setRow _ _ _) (by simp [World.setRow])

/-! ### '==' -/

theorem fields_blob : (Tryd.prog.fieldsOf 27).toList.map (fun f => (f.name, f.type, f.offset)) = [("Digest", 25, 0), ("Size", 3, 32), ("Piece", 3, 33), ("Root", 25, 34)] := by kernel_rfl
theorem run_equalIn_blob (d : Nat) (x y : BlobL) (hx : x.ok) (hy : y.ok) (w : World) : (Op.equalIn (d + 3) 27 (BlobV x) (BlobV y)).run Tryd.prog w = .ok (decide (x = y)) w := by
  unfold BlobV
  rw [run_equalIn_struct w (d + 2) 27 _ _ (by kernel_rfl) (by kernel_rfl)]
  have hsz : (sizeOf 25).run Tryd.prog w = .ok 32 w := by kernel_rfl
  have hag : (isAgg 25).run Tryd.prog w = .ok true w := by kernel_rfl
  have hai : (isAgg 3).run Tryd.prog w = .ok false w := by kernel_rfl
  have p0 : ∀ z : BlobL, z.ok → (part 25 z.cells.toArray 0).run Tryd.prog w = .ok (.agg (z.dig.map B8).toArray) w := fun z hz => by
    simp only [part, Sem.run_bind, hag, Result.andThen_ok, if_true, hsz, Sem.run_pure]
    congr 2
    apply Array.ext'
    have := hz.1
    simp [Array.toList_extract, List.extract_eq_take_drop, BlobL.cells, List.take_append_of_le_length, this, List.take_of_length_le]
  have p1 : ∀ z : BlobL, z.ok → (part 3 z.cells.toArray 32).run Tryd.prog w = .ok (.int .i64 z.size) w := fun z hz => by
    have := hz.1
    simp [part, Sem.run_bind, hai, Sem.run_pure, BlobL.cells, List.getElem?_append_right, this]
  have p2 : ∀ z : BlobL, z.ok → (part 3 z.cells.toArray 33).run Tryd.prog w = .ok (.int .i64 z.piece) w := fun z hz => by
    have := hz.1
    simp [part, Sem.run_bind, hai, Sem.run_pure, BlobL.cells, List.getElem?_append_right, this]
  have p3 : ∀ z : BlobL, z.ok → (part 25 z.cells.toArray 34).run Tryd.prog w = .ok (.agg (z.root.map B8).toArray) w := fun z hz => by
    simp only [part, Sem.run_bind, hag, Result.andThen_ok, if_true, hsz, Sem.run_pure]
    congr 2
    apply Array.ext'
    have h1 := hz.1
    have h2 := hz.2
    simp [Array.toList_extract, List.extract_eq_take_drop, BlobL.cells, List.drop_append, h1, List.take_of_length_le, h2]
  have hd : ∀ a b : List UInt8, a.length = 32 → b.length = 32 → (Op.equalIn (d + 2) 25 (.agg (a.map B8).toArray) (.agg (b.map B8).toArray)).run Tryd.prog w = .ok (decide (a = b)) w := fun a b ha hb =>
    run_equalIn_octs d 25 5 a b (by omega) (by rw [ha]; exact Tryd.underlying25) Tryd.underlying5 (by kernel_rfl) (by kernel_rfl)
  have hi : ∀ a b : Int, (Op.equalIn (d + 2) 3 (.int .i64 a) (.int .i64 b)).run Tryd.prog w = .ok (a == b) w := fun a b => run_equalIn_int w (d + 1) 3 .i64 .i64 a b Tryd.underlying3
  obtain ⟨g, hg⟩ : ∃ g : Nat → Bool, g = fun k => if k = 0 then decide (x.dig = y.dig) else if k = 32 then x.size == y.size else if k = 33 then x.piece == y.piece else decide (x.root = y.root) := ⟨_, rfl⟩
  have hf := fields_blob
  generalize (Tryd.prog.fieldsOf 27).toList = fs at hf
  rw [eqFields_all g fs (fun f hfm => by
    have hm : (f.name, f.type, f.offset) ∈ fs.map (fun f => (f.name, f.type, f.offset)) := List.mem_map.2 ⟨f, hfm, rfl⟩
    rw [hf] at hm
    simp only [List.mem_cons, Prod.mk.injEq, List.not_mem_nil, or_false] at hm
    rcases hm with ⟨h1, h2, h3⟩ | ⟨h1, h2, h3⟩ | ⟨h1, h2, h3⟩ | ⟨h1, h2, h3⟩
    · rw [h1, h2, h3, hg]; exact ⟨by decide, _, _, p0 x hx, p0 y hy, hd _ _ hx.1 hy.1⟩
    · rw [h1, h2, h3, hg]; exact ⟨by decide, _, _, p1 x hx, p1 y hy, hi _ _⟩
    · rw [h1, h2, h3, hg]; exact ⟨by decide, _, _, p2 x hx, p2 y hy, hi _ _⟩
    · rw [h1, h2, h3, hg]; exact ⟨by decide, _, _, p3 x hx, p3 y hy, hd _ _ hx.2 hy.2⟩)]
  have e : (fs.all fun f => g f.offset) = (fs.map (fun f => (f.name, f.type, f.offset))).all (fun q => g q.2.2) := by rw [List.all_map]; rfl
  rw [e, hf, hg]
  congr 1
  obtain ⟨a, b, c, e⟩ := x
  obtain ⟨a', b', c', e'⟩ := y
  simp [Bool.decide_and]
  rw [Bool.eq_iff_iff]
  simp
theorem run_eql_blob (x y : BlobL) (hx : x.ok) (hy : y.ok) (w : World) : (binOp .eql 27 (BlobV x) (BlobV y)).run Tryd.prog w = .ok (.bool (decide (x = y))) w := by
  have := run_equalIn_blob 9997 x y hx hy w
  unfold BlobV at this ⊢
  rw [run_eql_struct, this]; rfl
theorem guard_blob : Tryd.prog.eqGuardType Tryd.prog.depth 27 = false := by kernel_rfl

theorem run_guard_blob (x y : Operand) (a b : BlobL) (w : World) : (eqGuard .eql 27 x y (BlobV a) (BlobV b)).run Tryd.prog w = .ok () w := run_eqGuard_agg (P := Tryd.prog) w .eql 27 x y a.cells.toArray b.cells.toArray guard_blob

/-! ### The literal -/

theorem fill_step {place : Nat → Option (Nat × Nat)} {i : Nat} {v : Value} {rest : List (Nat × Value)} {cs : Array Value} (A M N B : List Value) (hcs : cs = (A ++ (M ++ B)).toArray) (hp : place i = some (A.length, M.length)) (hv : v.cells = N.toArray) (hn : N.length = M.length) :
    Instr.fill place cs ((i, v) :: rest) = Instr.fill place (A ++ (N ++ B)).toArray rest := by
  subst hcs
  rw [Instr.fill]
  simp only [hp]
  rw [if_neg (by simp [hv, hn])]
  congr 1
  rw [hv]
  apply Array.ext_getElem?
  intro k
  have := (Great.foldl_set A.length N 0 (A ++ (M ++ B)).toArray).2 k
  rw [← Array.foldl_toList, Array.toList_zipIdx, List.toList_toArray, this]
  simp only [Nat.add_zero, List.getElem?_toArray, List.size_toArray, List.length_append]
  by_cases h1 : k < A.length
  · rw [if_neg (by omega), List.getElem?_append_left h1, List.getElem?_append_left h1]
  · by_cases h2 : k < A.length + N.length
    · rw [if_pos (by omega), List.getElem?_append_right (by omega), List.getElem?_append_left (by omega)]
    · rw [if_neg (by omega), List.getElem?_append_right (by omega), List.getElem?_append_right (by omega), List.getElem?_append_right (by omega), List.getElem?_append_right (by omega), hn]

theorem places_blob : ∃ (i : TypeInfo) (fs : Array Field), Tryd.prog.info? 27 = some i ∧ i.zero = some (.agg BlobL.zero.cells.toArray) ∧ Tryd.prog.underlying 27 = some (.struct fs) ∧
    fs.toList.mapM (fun f => (Tryd.prog.info? f.type).map fun i => (f.offset, i.size)) = some [(0, 32), (32, 1), (33, 1), (34, 32)] := by
  have hz : (Tryd.prog.info? 27).map (·.zero) = some (some (.agg BlobL.zero.cells.toArray)) := by kernel_rfl
  obtain ⟨i, hi, hz⟩ := Option.map_eq_some_iff.1 hz
  exact ⟨i, Tryd.prog.fieldsOf 27, hi, hz, by kernel_rfl, by kernel_rfl⟩
theorem run_build_blob (a b : List UInt8) (n k : Int) (ha : a.length = 32) (hb : b.length = 32) (w : World) :
    (Instr.build 27 #[(0, .agg (a.map B8).toArray), (1, .int .i64 n), (2, .int .i64 k), (3, .agg (b.map B8).toArray)]).run Tryd.prog w = .ok (BlobV ⟨a, n, k, b⟩) w := by
  refine run_build w 27 _ _ ?_
  obtain ⟨i, fs, h1, h2, h3, h4⟩ := places_blob
  unfold Program.built
  rw [h1, h3]
  simp only [h2, h4]
  have e0 : BlobL.zero.cells.toArray = ([] ++ (z32.map B8 ++ (Value.int .i64 0 :: Value.int .i64 0 :: z32.map B8))).toArray := rfl
  rw [show (Value.agg BlobL.zero.cells.toArray).cells = BlobL.zero.cells.toArray from rfl, e0]
  rw [fill_step [] (z32.map B8) (a.map B8) _ (by first | rfl | simp) rfl rfl (by simp [ha, z32])]
  rw [fill_step (a.map B8) [.int .i64 0] [.int .i64 n] (.int .i64 0 :: z32.map B8) (by first | rfl | simp) (by simp [ha]) rfl rfl]
  rw [fill_step (a.map B8 ++ [.int .i64 n]) [.int .i64 0] [.int .i64 k] (z32.map B8) (by first | rfl | simp) (by simp [ha]) rfl rfl]
  rw [fill_step (a.map B8 ++ [.int .i64 n, .int .i64 k]) (z32.map B8) (b.map B8) [] (by first | rfl | simp) (by simp [ha, z32]) (by first | rfl | simp) (by simp [hb, z32])]
  simp [Instr.fill, BlobL.cells]
theorem run_build_blob2 (n k : Int) (w : World) :
    (Instr.build 27 #[(1, .int .i64 n), (2, .int .i64 k)]).run Tryd.prog w = .ok (BlobV ⟨z32, n, k, z32⟩) w := by
  refine run_build w 27 _ _ ?_
  obtain ⟨i, fs, h1, h2, h3, h4⟩ := places_blob
  unfold Program.built
  rw [h1, h3]
  simp only [h2, h4]
  rw [show (Value.agg BlobL.zero.cells.toArray).cells = (z32.map B8 ++ ([Value.int .i64 0] ++ (Value.int .i64 0 :: z32.map B8))).toArray from rfl]
  rw [fill_step (z32.map B8) [.int .i64 0] [.int .i64 n] (.int .i64 0 :: z32.map B8) (by first | rfl | simp) (by simp [z32]) rfl rfl]
  rw [fill_step (z32.map B8 ++ [.int .i64 n]) [.int .i64 0] [.int .i64 k] (z32.map B8) (by first | rfl | simp) (by simp [z32]) rfl rfl]
  simp [Instr.fill, BlobL.cells]
theorem run_build_blob0 (w : World) : (Instr.build 27 #[]).run Tryd.prog w = .ok (BlobV BlobL.zero) w := by
  refine run_build w 27 _ _ ?_
  obtain ⟨i, fs, h1, h2, h3, h4⟩ := places_blob
  unfold Program.built
  rw [h1, h3]
  simp only [h2, h4]
  rfl

theorem wp_build_blob {w : World} {o : Oper} {a : Act} {K : Act → World → Prop} {Q : Exit → Act → World → Prop} {p q r s : Operand} (x y : List UInt8) (n k : Int) (ho : o.op = .build 27 #[(0, p), (1, q), (2, r), (3, s)])
    (hp : a.eval p = .agg (x.map B8).toArray) (hq : a.eval q = .int .i64 n) (hr : a.eval r = .int .i64 k) (hs : a.eval s = .agg (y.map B8).toArray) (hx : x.length = 32) (hy : y.length = 32) (hK : K (a.put o.dst (BlobV ⟨x, n, k, y⟩)) w) : o.wp Tryd.prog a w K Q := by
  refine wp_val ?_ hK
  have := run_build_blob x y n k hx hy w
  unfold execOp
  simp only [ho, List.map_toArray, List.map_cons, List.map_nil, hp, hq, hr, hs, Sem.run_bind, this, Result.andThen_ok, Sem.run_pure]
theorem wp_build_blob2 {w : World} {o : Oper} {a : Act} {K : Act → World → Prop} {Q : Exit → Act → World → Prop} {p q : Operand} (n k : Int) (ho : o.op = .build 27 #[(1, p), (2, q)])
    (hp : a.eval p = .int .i64 n) (hq : a.eval q = .int .i64 k) (hK : K (a.put o.dst (BlobV ⟨z32, n, k, z32⟩)) w) : o.wp Tryd.prog a w K Q := by
  refine wp_val ?_ hK
  have := run_build_blob2 n k w
  unfold execOp
  simp only [ho, List.map_toArray, List.map_cons, List.map_nil, hp, hq, Sem.run_bind, this, Result.andThen_ok, Sem.run_pure]
theorem wp_build_blob0 {w : World} {o : Oper} {a : Act} {K : Act → World → Prop} {Q : Exit → Act → World → Prop} (ho : o.op = .build 27 #[])
    (hK : K (a.put o.dst (BlobV BlobL.zero)) w) : o.wp Tryd.prog a w K Q := by
  refine wp_val ?_ hK
  have := run_build_blob0 w
  unfold execOp
  simp only [ho, List.map_toArray, List.map_nil, Sem.run_bind, this, Result.andThen_ok, Sem.run_pure]
theorem results_blob {fn : Func} {p q : Tmp} (h : fn.results = #[.cell p 27, .tmp q]) (tmps : Array Value) {w : World} {b : Nat} {x : BlobL} {u : Value} (hp : tmps.getD p undef = .pointer (some ⟨b, 0, none⟩)) (hq : tmps.getD q undef = u)
    (hx : BlobO w b x) : (results fn tmps).run Tryd.prog w = .ok (.tuple #[BlobV x, u]) w := by
  have hp' : tmps[p]?.getD undef = .pointer (some ⟨b, 0, none⟩) := by simpa using hp
  have hq' : tmps[q]?.getD undef = u := by simpa using hq
  simp [results, h, hp', hq', asAddr, run_load_blob hx]

end Go.Proofs.YtnomekfemadpeaaDoor

/- The walks of manifest's Right, Count and Span, and of the document's answer's: whether a blob may be, how many pieces it has, where one lies. Condition: hashes of 32 bytes. -/
namespace Go.Proofs.YtnomekfemadpeaaDoor
open Go.RowKit
set_option linter.unusedVariables false
set_option linter.unusedSimpArgs false
set_option maxRecDepth 100000

def mrightB (n k : Int) : Bool := decide (1 ≤ n) && decide (n ≤ 1048576) && decide (16 ≤ k) && decide (k ≤ 16384) && decide ((n + k - 1) / k ≤ 1024)
def mcountB (n k : Int) : Int := if mrightB n k = true then (n + k - 1) / k else 0

theorem count_any (n k : Int) (w : World) (h1 : 1 ≤ n) (h2 : n ≤ 1048576) (h3 : 16 ≤ k) (h4 : k ≤ 16384) :
    Calls Tryd.prog 44 #[.int .i64 n, .int .i64 k] w fun e w' => e = .returned (.int .i64 ((n + k - 1) / k)) ∧ w' = w := by
  go_enter Tryd.func44, Tryd.ntmps44
  go_wp2
  go_ret
  exact ⟨rfl, rfl⟩

set_option maxHeartbeats 1600000 in
theorem Right_any (x : BlobL) (w : World) (hx : x.ok) :
    Calls Tryd.prog 19 #[BlobV x] w fun e w' => e = .returned (.bool (mrightB x.size x.piece)) ∧ Below w.heap.size w w' := by
  have HO := fun W => (blob_alloc W hx)
  obtain ⟨cs, hcs⟩ : ∃ cs, x.cells.toArray = cs := ⟨_, rfl⟩
  have hbo := blob_alloc w hx
  have hs := hbo.size
  have hp := hbo.piece
  have hb : Below w.heap.size w (w.alloc (.cells x.cells.toArray 27)) := (Below.refl _ w).alloc (Nat.le_refl _) _
  unfold BlobV
  rw [hcs] at hs hp hb ⊢
  clear HO hbo hcs
  obtain ⟨n, hn⟩ : ∃ n, x.size = n := ⟨_, rfl⟩
  obtain ⟨k, hk⟩ : ∃ n, x.piece = n := ⟨_, rfl⟩
  rw [hn] at hs ⊢
  rw [hk] at hp ⊢
  clear hn hk hx
  go_enter Tryd.func19, Tryd.ntmps19
  by_cases h1 : 1 ≤ n
  · by_cases h2 : n ≤ 1048576
    · by_cases h3 : 16 ≤ k
      · by_cases h4 : k ≤ 16384
        · have hr : mrightB n k = decide ((n + k - 1) / k ≤ 1024) := by unfold mrightB; simp [h1, h2, h3, h4]
          rw [hr]
          clear hr
          obtain ⟨q, hq⟩ : ∃ q, (n + k - 1) / k = q := ⟨_, rfl⟩
          rw [hq]
          go_wp2_with fail
          refine (count_any n k _ h1 h2 h3 h4).mono ?_
          rintro e w2 ⟨rfl, hw⟩
          subst w2
          simp only [hq]
          go_wp2
          go_ret
          exact ⟨rfl, hb⟩
        · have hr : mrightB n k = false := by unfold mrightB; simp [h4]
          rw [hr]
          clear hr
          go_wp2
          go_ret
          exact ⟨rfl, hb⟩
      · have hr : mrightB n k = false := by unfold mrightB; simp [h3]
        rw [hr]
        clear hr
        go_wp2
        go_ret
        exact ⟨rfl, hb⟩
    · have hr : mrightB n k = false := by unfold mrightB; simp [h2]
      rw [hr]
      clear hr
      go_wp2
      go_ret
      exact ⟨rfl, hb⟩
  · have hr : mrightB n k = false := by unfold mrightB; simp [h1]
    rw [hr]
    clear hr
    go_wp2
    go_ret
    exact ⟨rfl, hb⟩

set_option maxHeartbeats 1600000 in
theorem RRight_any (x : BlobL) (w : World) (hx : x.ok) :
    Calls Tryd.prog 20 #[BlobV x] w fun e w' => e = .returned (.bool (mrightB x.size x.piece)) ∧ Below w.heap.size w w' := by
  have HO := fun W => (blob_alloc W hx)
  obtain ⟨cs, hcs⟩ : ∃ cs, x.cells.toArray = cs := ⟨_, rfl⟩
  have hbo := blob_alloc w hx
  have hs := hbo.size
  have hp := hbo.piece
  have hb : Below w.heap.size w (w.alloc (.cells x.cells.toArray 27)) := (Below.refl _ w).alloc (Nat.le_refl _) _
  unfold BlobV
  rw [hcs] at hs hp hb ⊢
  clear HO hbo hcs
  obtain ⟨n, hn⟩ : ∃ n, x.size = n := ⟨_, rfl⟩
  obtain ⟨k, hk⟩ : ∃ n, x.piece = n := ⟨_, rfl⟩
  rw [hn] at hs ⊢
  rw [hk] at hp ⊢
  clear hn hk hx
  go_enter Tryd.func20, Tryd.ntmps20
  by_cases h1 : 1 ≤ n
  · by_cases h2 : n ≤ 1048576
    · by_cases h3 : 16 ≤ k
      · by_cases h4 : k ≤ 16384
        · have hr : mrightB n k = decide ((n + k - 1) / k ≤ 1024) := by unfold mrightB; simp [h1, h2, h3, h4]
          rw [hr]
          clear hr
          obtain ⟨q, hq⟩ : ∃ q, (n + k - 1) / k = q := ⟨_, rfl⟩
          skip
          rw [hq]
          go_wp2
          go_ret
          exact ⟨rfl, hb⟩
        · have hr : mrightB n k = false := by unfold mrightB; simp [h4]
          rw [hr]
          clear hr
          go_wp2
          go_ret
          exact ⟨rfl, hb⟩
      · have hr : mrightB n k = false := by unfold mrightB; simp [h3]
        rw [hr]
        clear hr
        go_wp2
        go_ret
        exact ⟨rfl, hb⟩
    · have hr : mrightB n k = false := by unfold mrightB; simp [h2]
      rw [hr]
      clear hr
      go_wp2
      go_ret
      exact ⟨rfl, hb⟩
  · have hr : mrightB n k = false := by unfold mrightB; simp [h1]
    rw [hr]
    clear hr
    go_wp2
    go_ret
    exact ⟨rfl, hb⟩

def count1 (n k : Int) : Int := (n + k - 1) / k
theorem right_parts {n k : Int} (h : mrightB n k = true) : 1 ≤ n ∧ n ≤ 1048576 ∧ 16 ≤ k ∧ k ≤ 16384 ∧ (n + k - 1) / k ≤ 1024 := by
  unfold mrightB at h
  simp at h
  omega
theorem count_pos {n k : Int} (h1 : 1 ≤ n) (h3 : 16 ≤ k) : 1 ≤ (n + k - 1) / k := (Int.le_ediv_iff_mul_le (by omega)).2 (by omega)

set_option maxHeartbeats 1600000 in
theorem Count_any (x : BlobL) (w : World) (hx : x.ok) :
    Calls Tryd.prog 21 #[BlobV x] w fun e w' => e = .returned (.int .i64 (mcountB x.size x.piece)) ∧ Below w.heap.size w w' := by
  rw [show BlobV x = .agg x.cells.toArray from rfl]
  have hr1 := fun h => right_parts (n := x.size) (k := x.piece) h
  have hc : mcountB x.size x.piece = if mrightB x.size x.piece = true then (x.size + x.piece - 1) / x.piece else 0 := rfl
  have HC := Lib.hid hc
  clear hc
  go_enter Tryd.func21, Tryd.ntmps21
  go_upto_region 1 with (fail)
  obtain ⟨W, hW⟩ : ∃ W, w.alloc (.cells x.cells.toArray 27) = W := ⟨_, rfl⟩
  have hbo := blob_alloc w hx
  have hb : Below w.heap.size w (w.alloc (.cells x.cells.toArray 27)) := (Below.refl _ w).alloc (Nat.le_refl _) _
  rw [hW] at hbo hb ⊢
  have HBO := Lib.hid hbo
  clear hbo hW
  go_wp2_with ((with_reducible refine wpList_plain (o := ⟨some 3, Op.load 27 (.tmp 1), _, _, _, _⟩) rfl fun K hK => wp_load_blob (g := w.heap.size) rfl rfl HBO.out (hK _ _ ?_)))
  refine (Right_any x W hx).mono ?_
  rintro e w2 ⟨rfl, hb2⟩
  have hbA := below_next hb hb2
  have hbo2 := HBO.out.of_new hb2
  have hs := hbo2.size
  have hp := hbo2.piece
  clear hbo2 hb2 hb HBO
  rcases hq : mrightB x.size x.piece with _ | _
  · rw [hq] at HC
    go_wp2
    go_ret
    exact ⟨ret_int (by rw [HC.out]; rfl), hbA⟩
  · obtain ⟨q1, q2, q3, q4, q5⟩ := hr1 hq
    rw [hq] at HC
    clear hr1 hq
    obtain ⟨n, hn⟩ : ∃ n, x.size = n := ⟨_, rfl⟩
    obtain ⟨k, hk⟩ : ∃ n, x.piece = n := ⟨_, rfl⟩
    rw [hn] at hs q1 q2 q5 HC
    rw [hk] at hp q3 q4 q5 HC
    go_wp2_with fail
    refine (count_any n k _ q1 q2 q3 q4).mono ?_
    rintro e w3 ⟨rfl, hw⟩
    subst w3
    go_wp2
    go_ret
    exact ⟨ret_int (by rw [← hn, ← hk] at *; rw [HC.out]; rfl), hbA⟩

set_option maxHeartbeats 1600000 in
theorem RCount_any (x : BlobL) (w : World) (hx : x.ok) :
    Calls Tryd.prog 22 #[BlobV x] w fun e w' => e = .returned (.int .i64 (mcountB x.size x.piece)) ∧ Below w.heap.size w w' := by
  rw [show BlobV x = .agg x.cells.toArray from rfl]
  have hr1 := fun h => right_parts (n := x.size) (k := x.piece) h
  have hc : mcountB x.size x.piece = if mrightB x.size x.piece = true then (x.size + x.piece - 1) / x.piece else 0 := rfl
  have HC := Lib.hid hc
  clear hc
  go_enter Tryd.func22, Tryd.ntmps22
  go_upto_region 1 with (fail)
  obtain ⟨W, hW⟩ : ∃ W, w.alloc (.cells x.cells.toArray 27) = W := ⟨_, rfl⟩
  have hbo := blob_alloc w hx
  have hb : Below w.heap.size w (w.alloc (.cells x.cells.toArray 27)) := (Below.refl _ w).alloc (Nat.le_refl _) _
  rw [hW] at hbo hb ⊢
  have HBO := Lib.hid hbo
  clear hbo hW
  go_wp2_with ((with_reducible refine wpList_plain (o := ⟨some 4, Op.load 27 (.tmp 1), _, _, _, _⟩) rfl fun K hK => wp_load_blob (g := w.heap.size) rfl rfl HBO.out (hK _ _ ?_)))
  refine (RRight_any x W hx).mono ?_
  rintro e w2 ⟨rfl, hb2⟩
  have hbA := below_next hb hb2
  have hbo2 := HBO.out.of_new hb2
  have hs := hbo2.size
  have hp := hbo2.piece
  clear hbo2 hb2 hb HBO
  rcases hq : mrightB x.size x.piece with _ | _
  · rw [hq] at HC
    go_wp2
    go_ret
    exact ⟨ret_int (by rw [HC.out]; rfl), hbA⟩
  · obtain ⟨q1, q2, q3, q4, q5⟩ := hr1 hq
    rw [hq] at HC
    clear hr1 hq
    obtain ⟨n, hn⟩ : ∃ n, x.size = n := ⟨_, rfl⟩
    obtain ⟨k, hk⟩ : ∃ n, x.piece = n := ⟨_, rfl⟩
    rw [hn] at hs q1 q2 q5 HC
    rw [hk] at hp q3 q4 q5 HC
    go_wp2
    go_ret
    exact ⟨ret_int (by rw [← hn, ← hk] at *; rw [HC.out]; rfl), hbA⟩

/-- Where a piece lies. -/
def spanZ (n k i : Int) : Int × Int × Int := if i < 0 ∨ mcountB n k ≤ i then (0, 0, 1) else (i * k, min k (n - i * k), 0)
theorem span_parts {n k i : Int} (h0 : 0 ≤ i) (h1 : i < mcountB n k) : 0 ≤ i * k ∧ i * k < n ∧ n ≤ 1048576 ∧ 16 ≤ k ∧ k ≤ 16384 := by
  unfold mcountB at h1
  split at h1
  · rename_i hr
    obtain ⟨a, b, c, d, e⟩ := right_parts hr
    have h2 : i * k + k ≤ n + k - 1 := by
      have := (Int.le_ediv_iff_mul_le (by omega)).1 (show i + 1 ≤ (n + k - 1) / k by omega)
      rw [Int.add_mul, Int.one_mul] at this; exact this
    exact ⟨Int.mul_nonneg h0 (by omega), by omega, b, c, d⟩
  · omega

set_option maxHeartbeats 1600000 in
theorem Span_any (x : BlobL) (i : Int) (w : World) (hx : x.ok) (i1 : -9223372036854775808 ≤ i) (i2 : i ≤ 9223372036854775807) :
    Calls Tryd.prog 17 #[BlobV x, .int .i64 i] w fun e w' => e = .returned (.tuple #[.int .i64 (spanZ x.size x.piece i).1, .int .i64 (spanZ x.size x.piece i).2.1, .int .i64 (spanZ x.size x.piece i).2.2]) ∧ Below w.heap.size w w' := by
  rw [show BlobV x = .agg x.cells.toArray from rfl]
  obtain ⟨S, hS⟩ : ∃ S, spanZ x.size x.piece i = S := ⟨_, rfl⟩
  rw [hS]
  have HS := Lib.hid hS
  clear hS
  go_enter Tryd.func17, Tryd.ntmps17
  go_upto_region 1 with (fail)
  obtain ⟨W, hW⟩ : ∃ W, w.alloc (.cells x.cells.toArray 27) = W := ⟨_, rfl⟩
  have hbo := blob_alloc w hx
  have hb : Below w.heap.size w (w.alloc (.cells x.cells.toArray 27)) := (Below.refl _ w).alloc (Nat.le_refl _) _
  rw [hW] at hbo hb ⊢
  have HBO := Lib.hid hbo
  clear hbo hW
  by_cases h0 : i < 0
  · go_wp2
    go_ret3
    have e : S = (0, 0, 1) := by rw [← HS.out, spanZ, if_pos (.inl h0)]
    rw [e]
    exact ⟨rfl, hb⟩
  have h0' : ¬ i < 0 := h0
  go_wp2_with ((with_reducible refine wpList_met (o := ⟨some 11, _, _, _, _, _⟩) ?_ ?_); rfl; intro K hK; refine wp_load_blob (g := w.heap.size) (x := x) rfl rfl HBO.out (hK _ _ ?_))
  refine (Count_any x W hx).mono ?_
  rintro e w2 ⟨rfl, hb2⟩
  have hbA := below_next hb hb2
  have hbo2 := HBO.out.of_new hb2
  have hs := hbo2.size
  have hp := hbo2.piece
  clear hbo2 hb2 hb HBO
  by_cases h1 : mcountB x.size x.piece ≤ i
  · have e : S = (0, 0, 1) := by rw [← HS.out, spanZ, if_pos (.inr h1)]
    clear HS
    go_wp2
    go_ret3
    rw [e]
    exact ⟨rfl, hbA⟩
  · have e : S = (i * x.piece, min x.piece (x.size - i * x.piece), 0) := by rw [← HS.out, spanZ, if_neg (by omega)]
    obtain ⟨q0, q1, q2, q3, q4⟩ := span_parts (by omega) (Int.not_le.1 h1)
    clear HS
    obtain ⟨c, hc⟩ : ∃ c, mcountB x.size x.piece = c := ⟨_, rfl⟩
    rw [hc] at h1 ⊢
    have hd : ¬ c ≤ i := h1
    obtain ⟨n, hn⟩ : ∃ n, x.size = n := ⟨_, rfl⟩
    obtain ⟨k, hk⟩ : ∃ n, x.piece = n := ⟨_, rfl⟩
    rw [hn] at hs e q1 q2
    rw [hk] at hp e q0 q1 q3 q4
    clear hn hk hc
    obtain ⟨m, hm⟩ : ∃ m, i * k = m := ⟨_, rfl⟩
    rw [hm] at e q0 q1
    have hw1 : IntKind.i64.wrap (i * k) = m := by rw [hm]; exact IntWalk.i64_in _ (by omega)
    have hw2 : IntKind.i64.wrap (n - m) = n - m := IntWalk.i64_in _ (by omega)
    go_wp2
    go_quiet (fail)
    go_wp2
    all_goals
      go_ret3
      refine ⟨?_, hbA.trans (below_drewn _)⟩
      try rw [e]
      first
        | rfl
        | (rw [show min k (n - m) = k by omega]; try rfl)
        | (rw [show min k (n - m) = n - m by omega]; try rfl)

set_option maxHeartbeats 1600000 in
theorem RSpan_any (x : BlobL) (i : Int) (w : World) (hx : x.ok) (i1 : -9223372036854775808 ≤ i) (i2 : i ≤ 9223372036854775807) :
    Calls Tryd.prog 18 #[BlobV x, .int .i64 i] w fun e w' => e = .returned (.tuple #[.int .i64 (spanZ x.size x.piece i).1, .int .i64 (spanZ x.size x.piece i).2.1, .int .i64 (spanZ x.size x.piece i).2.2]) ∧ Below w.heap.size w w' := by
  rw [show BlobV x = .agg x.cells.toArray from rfl]
  obtain ⟨S, hS⟩ : ∃ S, spanZ x.size x.piece i = S := ⟨_, rfl⟩
  rw [hS]
  have HS := Lib.hid hS
  clear hS
  go_enter Tryd.func18, Tryd.ntmps18
  go_upto_region 1 with (fail)
  obtain ⟨W, hW⟩ : ∃ W, w.alloc (.cells x.cells.toArray 27) = W := ⟨_, rfl⟩
  have hbo := blob_alloc w hx
  have hb : Below w.heap.size w (w.alloc (.cells x.cells.toArray 27)) := (Below.refl _ w).alloc (Nat.le_refl _) _
  rw [hW] at hbo hb ⊢
  have HBO := Lib.hid hbo
  clear hbo hW
  by_cases h0 : i < 0
  · go_wp2
    go_ret3
    have e : S = (0, 0, 1) := by rw [← HS.out, spanZ, if_pos (.inl h0)]
    rw [e]
    exact ⟨rfl, hb⟩
  have h0' : ¬ i < 0 := h0
  go_wp2_with ((with_reducible refine wpList_met (o := ⟨some 11, _, _, _, _, _⟩) ?_ ?_); rfl; intro K hK; refine wp_load_blob (g := w.heap.size) (x := x) rfl rfl HBO.out (hK _ _ ?_))
  refine (RCount_any x W hx).mono ?_
  rintro e w2 ⟨rfl, hb2⟩
  have hbA := below_next hb hb2
  have hbo2 := HBO.out.of_new hb2
  have hs := hbo2.size
  have hp := hbo2.piece
  clear hbo2 hb2 hb HBO
  by_cases h1 : mcountB x.size x.piece ≤ i
  · have e : S = (0, 0, 1) := by rw [← HS.out, spanZ, if_pos (.inr h1)]
    clear HS
    go_wp2
    go_ret3
    rw [e]
    exact ⟨rfl, hbA⟩
  · have e : S = (i * x.piece, min x.piece (x.size - i * x.piece), 0) := by rw [← HS.out, spanZ, if_neg (by omega)]
    obtain ⟨q0, q1, q2, q3, q4⟩ := span_parts (by omega) (Int.not_le.1 h1)
    clear HS
    obtain ⟨c, hc⟩ : ∃ c, mcountB x.size x.piece = c := ⟨_, rfl⟩
    rw [hc] at h1 ⊢
    have hd : ¬ c ≤ i := h1
    obtain ⟨n, hn⟩ : ∃ n, x.size = n := ⟨_, rfl⟩
    obtain ⟨k, hk⟩ : ∃ n, x.piece = n := ⟨_, rfl⟩
    rw [hn] at hs e q1 q2
    rw [hk] at hp e q0 q1 q3 q4
    clear hn hk hc
    obtain ⟨m, hm⟩ : ∃ m, i * k = m := ⟨_, rfl⟩
    rw [hm] at e q0 q1
    have hw1 : IntKind.i64.wrap (i * k) = m := by rw [hm]; exact IntWalk.i64_in _ (by omega)
    have hw2 : IntKind.i64.wrap (n - m) = n - m := IntWalk.i64_in _ (by omega)
    go_wp2
    go_quiet (fail)
    go_wp2
    all_goals
      go_ret3
      refine ⟨?_, hbA.trans (below_drewn _)⟩
      try rw [e]
      first
        | rfl
        | (rw [show min k (n - m) = k by omega]; try rfl)
        | (rw [show min k (n - m) = n - m by omega]; try rfl)

end Go.Proofs.YtnomekfemadpeaaDoor

/- The walks of Leaves, of manifest and of the document's answer: the hashes of bytes' pieces. Conditions: the table of constants as the program lays it (manifest's); the pieces' length a number of Go. -/
namespace Go.Proofs.YtnomekfemadpeaaDoor
open Go.RowKit
set_option linter.unusedVariables false
set_option linter.unusedSimpArgs false
set_option maxRecDepth 100000

/-- What Leaves comes to. -/
def leavesE (b : List UInt8) (k : Int) : List (List UInt8) × Int := if mrightB b.length k = true then (leavesL b k.toNat, 0) else ([], 1)
def LeavesPost (w : World) (p : List (List UInt8) × Int) (e : Ending) (w' : World) : Prop :=
  ∃ v, e = .returned (.tuple #[v, .int .i64 p.2]) ∧ OwnD w' w.heap.size v p.1 ∧ Below w.heap.size w w'

theorem count_nat {b : List UInt8} {n : Nat} (hn : 1 ≤ n) : (((b.length + n - 1) / n : Nat) : Int) = ((b.length : Int) + (n : Int) - 1) / (n : Int) := by
  rw [Int.natCast_ediv]; congr 1; omega

set_option maxHeartbeats 1600000 in
theorem Leaves_any (v : Value) (b : List UInt8) (k : Int) (w : World) (hl : Bytes w v b) (hKc : Consts w) :
    Calls Tryd.prog 13 #[v, .int .i64 k] w (LeavesPost w (leavesE b k)) := by
  obtain ⟨va, vc, hv⟩ := hl.len
  subst hv
  have HL := Lib.hid hl
  obtain ⟨E, hE⟩ : ∃ E, leavesE b k = E := ⟨_, rfl⟩
  rw [hE]
  have HE := Lib.hid hE
  clear hE hl
  go_enter Tryd.func13, Tryd.ntmps13
  go_wp2_with ((with_reducible refine wpList_plain (o := ⟨some 9, _, _, _, _, _⟩) rfl fun K hK => wp_build_blob2 (b.length : Int) k rfl rfl rfl (hK _ _ ?_)))
  refine (Right_any ⟨z32, b.length, k, z32⟩ w ⟨rfl, rfl⟩).mono ?_
  rintro e w2 ⟨rfl, hb2⟩
  dsimp only
  rcases hr : mrightB b.length k with _ | _
  · have e : E = ([], 1) := by rw [← HE.out, leavesE, hr]; rfl
    have HE2 := Lib.hid e
    clear e HE hr
    go_wp2
    go_ret2
    rw [HE2.out]
    exact ⟨_, rfl, OwnD.nil _ _, hb2⟩
  · obtain ⟨q1, q2, q3, q4, q5⟩ := right_parts hr
    obtain ⟨n, hn⟩ : ∃ n : Nat, k = (n : Int) := ⟨k.toNat, by omega⟩
    subst hn
    have e : E = (leavesL b n, 0) := by rw [← HE.out, leavesE, hr]; simp
    have HE2 := Lib.hid e
    have hle : (leavesL b n).length ≤ 1048576 := by have := count_nat (b := b) (n := n) (by omega); rw [leavesL_len]; omega
    have hLn := Lib.hid hle
    clear e HE hr q5 hle
    go_wp2_with fail
    refine (leaves_any va b.length vc (n : Int) w2).mono ?_
    rintro e w3 ⟨rfl, hw3⟩
    have hb3 : Below w2.heap.size w2 w3 := by rw [hw3]; exact ((Below.refl _ w2).alloc (Nat.le_refl _) _).alloc (by simp) _
    have o1 : One w3 w2.heap.size (.slice va b.length vc) 22 := by rw [hw3]; exact (Below.heap_alloc _ _ _ (by simp)).trans (heap_alloc_new _ _)
    have o2 : One w3 (w2.heap.size + 1) (.int .i64 (n : Int)) 3 := by
      rw [hw3]
      have := heap_alloc_new (w2.alloc (.cells #[.slice va b.length vc] 22)) (.cells #[.int .i64 (n : Int)] 3)
      rwa [World.size_alloc] at this
    clear hw3
    have hbA := below_next hb2 hb3
    go_wp2_with fail
    refine (CollectD_any 68 _ (leavesL b n) w3.heap.size (fun _ => False) w3 (leavesL_32 b n) hLn.out (Nat.le_refl _) (fun k h => h.elim) (enters_of Tryd.func68 (by kernel_rfl) rfl)
      (fun W1 hb1 hs1 => leaves_seq w2.heap.size (w2.heap.size + 1) _ b n (by omega) (by omega) (by omega) W1 w3 (o1.of_new hb1) (o2.of_new hb1) (HL.out.of_new hbA) (hKc.of_new hbA) hb1)).mono ?_
    rintro e w4 ⟨v4, rfl, ho4, hb4⟩
    obtain ⟨a4, c4, hv4⟩ := ho4.digs.len
    subst hv4
    go_wp2
    go_ret2
    rw [HE2.out]
    have h4 := hbA.size
    exact ⟨_, rfl, ⟨ho4.1, ho4.2.1, ho4.2.2.imp id fun ⟨g, cap, cur, h1, h2, h3⟩ => ⟨g, cap, cur, h1, by omega, h3⟩⟩, below_next hbA hb4⟩

/-- What holds ahead of each round of the document's answer's Leaves. -/
def RLeavesI (w : World) (b : List UInt8) (n : Nat) (ov iv : Value) (W : World) : Prop :=
  ∃ (j : Nat), iv = .int .i64 (j : Int) ∧ j ≤ (leavesL b n).length ∧ OwnD W w.heap.size ov ((leavesL b n).take j) ∧ Below w.heap.size w W

set_option maxHeartbeats 3200000 in
theorem RLeaves_any (v : Value) (b : List UInt8) (k : Int) (w : World) (hl : Bytes w v b) :
    Calls Tryd.prog 14 #[v, .int .i64 k] w (LeavesPost w (leavesE b k)) := by
  obtain ⟨i0, hi, hz0, hz1, hz2⟩ := info_parts infoU8
  obtain ⟨va, vc, hv⟩ := hl.len
  subst hv
  have HL := Lib.hid hl
  obtain ⟨E, hE⟩ : ∃ E, leavesE b k = E := ⟨_, rfl⟩
  rw [hE]
  have HE := Lib.hid hE
  clear hE hl
  go_enter Tryd.func14, Tryd.ntmps14
  go_wp2_with ((with_reducible refine wpList_plain (o := ⟨some 12, _, _, _, _, _⟩) rfl fun K hK => wp_build_blob2 (b.length : Int) k rfl rfl rfl (hK _ _ ?_)))
  refine (RCount_any ⟨z32, b.length, k, z32⟩ w ⟨rfl, rfl⟩).mono ?_
  rintro e w2 ⟨rfl, hb2⟩
  dsimp only
  rcases hr : mrightB b.length k with _ | _
  · have e : E = ([], 1) := by rw [← HE.out, leavesE, hr]; rfl
    have hc : mcountB b.length k = 0 := by rw [mcountB, hr]; rfl
    have HE2 := Lib.hid e
    rw [hc]
    clear e HE hr hc
    go_wp2
    go_ret2
    rw [HE2.out]
    exact ⟨_, rfl, OwnD.nil _ _, hb2⟩
  · obtain ⟨q1, q2, q3, q4, q5⟩ := right_parts hr
    obtain ⟨n, hn⟩ : ∃ n : Nat, k = (n : Int) := ⟨k.toNat, by omega⟩
    subst hn
    have e : E = (leavesL b n, 0) := by rw [← HE.out, leavesE, hr]; simp
    have hcn := count_nat (b := b) (n := n) (by omega)
    have hc : mcountB b.length n = ((leavesL b n).length : Int) := by rw [mcountB, hr, leavesL_len, hcn]; rfl
    have hpos := count_pos q1 q3
    rw [← hcn] at hpos q5
    rw [← leavesL_len] at hpos q5
    have hc0 : (((leavesL b n).length : Int) == 0) = false := beq_eq_false_iff_ne.2 (by omega)
    have HE2 := Lib.hid e
    rw [hc]
    have hlt : ∀ j, j < (leavesL b n).length → j * n < b.length := fun j h => (chunks_lt (by omega)).2 (by rw [chunksL_len, ← leavesL_len]; exact h)
    have hsn : ∀ j, j < (leavesL b n).length → (leavesL b n).take (j + 1) = (leavesL b n).take j ++ [leafL ((b.drop (j * n)).take n)] := fun j h => by
      have := chunks_take (b := b) (k := n) (j := j) (by rw [chunksL_len, ← leavesL_len]; exact h)
      unfold leavesL
      rw [← List.map_take, this, List.map_append, List.map_take]; rfl
    have h32 := leavesL_32 b n
    have HLT := Lib.hid hlt
    have HSN := Lib.hid hsn
    obtain ⟨N, hN⟩ : ∃ N, (leavesL b n).length = N := ⟨_, rfl⟩
    rw [hN] at hpos q5 hc0 HLT HSN ⊢
    have HN := Lib.hid hN
    clear e HE hr hc hcn hlt hsn hN
    go_wp2
    go_loopw [7, 8] (RLeavesI w b n) (fun _ iv _ => N - (intOf iv).toNat)
    case atStart => exact ⟨0, rfl, by omega, by simpa using OwnD.nil _ _, hb2⟩
    case round =>
      obtain ⟨j, rfl, hj, ho, hbw⟩ := hrel
      rw [HN.out] at hj
      obtain ⟨P, hP⟩ : ∃ P, (leavesL b n).take j = P := ⟨_, rfl⟩
      have hol : P.length = j := by rw [← hP, List.length_take, HN.out]; omega
      rw [hP] at ho
      obtain ⟨oa, oc, hv⟩ := ho.digs.len
      subst hv
      have HO := Lib.hid ho
      have HP := Lib.hid hP
      have HOL := Lib.hid hol
      have hol2 : P.length ≤ 1048576 := by omega
      clear hol ho
      have hbL : Bytes wr (.slice va b.length vc) b := HL.out.of_new hbw
      have hsw := hbw.size
      have HBW := Lib.hid hbw
      by_cases hlt : j < N
      · have h1 := HLT.out j hlt
        have h2 := HSN.out j hlt
        rw [HP.out] at h2
        clear hP
        obtain ⟨m, hm⟩ : ∃ m, j * n = m := ⟨_, rfl⟩
        have hmi : (j : Int) * (n : Int) = (m : Int) := by rw [← hm]; simp
        have hm2 : ((j : Int) + 1) * (n : Int) = (m : Int) + (n : Int) := by rw [Int.add_mul, hmi, Int.one_mul]
        rw [hm] at h1 h2
        have hw1 : IntKind.i64.wrap ((j : Int) * (n : Int)) = (m : Int) := by rw [hmi]; exact IntWalk.i64_in _ (by omega)
        have hw2 : IntKind.i64.wrap (((j : Int) + 1) * (n : Int)) = (m : Int) + (n : Int) := by rw [hm2]; exact IntWalk.i64_in _ (by omega)
        have hjN : (j : Int) < (N : Int) := by omega
        obtain ⟨hv, hi', hhv, hpe, hle1, hle2, hcs⟩ : ∃ (hv : Int) (hi' : Nat), hv = (hi' : Int) ∧ (b.drop m).take (hi' - m) = (b.drop m).take n ∧ m ≤ hi' ∧ hi' ≤ b.length ∧ ((hv = (m : Int) + (n : Int) ∧ (m : Int) + (n : Int) < (b.length : Int)) ∨ (hv = (b.length : Int) ∧ (b.length : Int) ≤ (m : Int) + (n : Int))) := by
          by_cases hc : m + n < b.length
          · exact ⟨_, m + n, rfl, by rw [show m + n - m = n by omega], by omega, by omega, .inl ⟨by omega, by omega⟩⟩
          · exact ⟨_, b.length, rfl, by rw [List.take_eq_take_iff]; simp; omega, by omega, Nat.le_refl _, .inr ⟨rfl, by omega⟩⟩
        obtain ⟨pv, hrp, hpp, _⟩ := hbL.part (P := Tryd.prog) (t := 22) Tryd.underlying22 hi hz1 (some (.int .i64 (m : Int))) (some (.int .i64 hv)) m hi' hle1 hle2 (.inr ⟨.i64, rfl⟩) (.inr ⟨.i64, by rw [hhv]⟩)
        rw [hpe] at hpp
        have hxk : ((b.drop m).take n).length ≤ 1048576 := by rw [List.length_take]; omega
        obtain ⟨x, hx⟩ : ∃ x, (b.drop m).take n = x := ⟨_, rfl⟩
        rw [hx] at hpp h2 hxk
        obtain ⟨pa, pc, hv2⟩ := hpp.len
        subst hv2
        have HPP := Lib.hid hpp
        have H2 := Lib.hid h2
        have hx32 : Dig32 [leafL x] := fun d hd => by simp at hd; rw [hd]; exact leafL_len x
        clear hpe hx hm hmi hm2 hpp hbL h1 h2 hbw hhv hle1 hle2
        rcases hcs with ⟨rfl, hcs⟩ | ⟨rfl, hcs⟩
        all_goals
          go_wp2_with (first
            | (go_at_call 26; refine (RLeaf_any _ x _ HPP.out hxk).mono ?_; rintro e w3 ⟨rfl, hb3⟩; have HB3 := Lib.hid hb3; have HO3 := Lib.hid (HO.out.of_new hb3); clear hb3)
            | ((with_reducible refine wpList_plain (o := ⟨some 35, _, _, _, _, _⟩) rfl fun K hK => ?_); refine wp_buildDigs 1 _ [leafL x] rfl rfl (by simp) (by simp) hx32 (by simp only [List.map_toArray, List.map_cons, List.map_nil]; rfl) ?_; intro w4 ho4 hb4 hs4; refine hK _ _ ?_; have HO4 := Lib.hid ho4.digs; have HB4 := Lib.hid hb4; have HO5 := Lib.hid (HO3.out.of_new hb4); clear ho4 hb4 hK)
            | ((with_reducible refine wpList_plain (o := ⟨some 36, _, _, _, _, _⟩) rfl fun K hK => ?_); refine wp_appD (.tmp 21) (.tmp 35) rfl w.heap.size _ P rfl HO5.out _ [leafL x] rfl HO4.out (by simp; omega) (by have := HB3.out.size; have := HB4.out.size; omega) ?_; intro v6 w6 ho6 hg6 hu6; refine hK _ _ ?_; obtain ⟨a6, c6, hv6⟩ := ho6.digs.len; subst hv6; clear hK))
          go_roundw
          case rel =>
            refine ⟨j + 1, by go_num, by have := HN.out; omega, ?_, ?_⟩
            · rw [H2.out]
              rw [List.length_append] at ho6
              exact ho6
            · have hA : Below w.heap.size w w3 := below_next' HBW.out HB3.out hsw
              have hB : Below w.heap.size w _ := below_next' hA HB4.out (by have := HB3.out.size; omega)
              exact hB.grown hg6 (by have := HB3.out.size; have := HB4.out.size; omega) (fun r e => (HO5.out.lt r e).1)
          case measure => simp [intOf]; omega
      · have hjN : ¬ (j : Int) < (N : Int) := by omega
        go_wp2
        go_ret2
        rw [HE2.out]
        have e2 : P = leavesL b n := by rw [← HP.out, List.take_of_length_le (by have := HN.out; omega)]
        exact ⟨_, rfl, e2 ▸ HO.out, HBW.out⟩

end Go.Proofs.YtnomekfemadpeaaDoor

/- The walks of Blob and Whole, of manifest and of the document's answer: what tells of any bytes, and whether bytes are all. Conditions: the table of constants as the program lays it (manifest's). -/
namespace Go.Proofs.YtnomekfemadpeaaDoor
open Go.RowKit
set_option linter.unusedVariables false
set_option linter.unusedSimpArgs false
set_option maxRecDepth 100000

/-- What Blob comes to. -/
def blobE (b : List UInt8) (k : Int) : BlobL × Int := if mrightB b.length k = true then (⟨sumL b, b.length, k, rootL (leavesL b k.toNat)⟩, 0) else (BlobL.zero, 1)
def BlobPost (w : World) (p : BlobL × Int) (e : Ending) (w' : World) : Prop := e = .returned (.tuple #[BlobV p.1, .int .i64 p.2]) ∧ Below w.heap.size w w'
theorem leaves_few {b : List UInt8} {k : Int} (h : mrightB b.length k = true) : (leavesL b k.toNat).length ≤ 1024 := by
  obtain ⟨q1, q2, q3, q4, q5⟩ := right_parts h
  obtain ⟨n, rfl⟩ : ∃ n : Nat, k = (n : Int) := ⟨k.toNat, by omega⟩
  have := count_nat (b := b) (n := n) (by omega)
  rw [leavesL_len, Int.toNat_natCast]; omega
theorem blobE_ok (b : List UInt8) (k : Int) : (blobE b k).1.ok := by
  unfold blobE
  split
  · exact ⟨sumL_len b, rootL_len (leavesL_32 _ _)⟩
  · exact BlobL.zero_ok

set_option maxHeartbeats 1600000 in
theorem Blob_any (v : Value) (b : List UInt8) (k : Int) (w : World) (hl : Bytes w v b) (hKc : Consts w) :
    Calls Tryd.prog 11 #[v, .int .i64 k] w (BlobPost w (blobE b k)) := by
  obtain ⟨va, vc, hv⟩ := hl.len
  subst hv
  have HL := Lib.hid hl
  clear hl
  obtain ⟨E, hE⟩ : ∃ E, blobE b k = E := ⟨_, rfl⟩
  rw [hE]
  have HE := Lib.hid hE
  clear hE
  go_enter Tryd.func11, Tryd.ntmps11
  go_wp2_with fail
  generalize hW : w.alloc _ = W
  obtain ⟨hbo, hb0⟩ : BlobO W w.heap.size BlobL.zero ∧ Below w.heap.size w W := by
    subst hW
    exact ⟨⟨heap_alloc_new _ _, BlobL.zero_ok⟩, (Below.refl _ w).alloc (Nat.le_refl _) _⟩
  clear hW
  refine (Leaves_any _ b k W (HL.out.of_new hb0) (hKc.of_new hb0)).mono ?_
  rintro e w2 ⟨v2, rfl, ho2, hb2⟩
  have hbA := below_next hb0 hb2
  have hbo2 := hbo.of_new hb2
  have hgl := hbo2.lt
  clear hbo hb2
  obtain ⟨a2, c2, hv2⟩ := ho2.digs.len
  subst hv2
  have HBO := Lib.hid hbo2
  clear hbo2
  rcases hr : mrightB b.length k with _ | _
  · have e : E = (BlobL.zero, 1) := by rw [← HE.out, blobE, hr]; rfl
    have el : leavesE b k = ([], 1) := by rw [leavesE, hr]; rfl
    rw [el] at ho2 ⊢
    have HE2 := Lib.hid e
    clear e el HE hr ho2
    go_wp2_with (first
      | ((with_reducible refine wpList_plain (o := ⟨some 16, Op.build 27 #[], _, _, _, _⟩) rfl fun K hK => wp_build_blob0 rfl (hK _ _ ?_)))
      | ((with_reducible refine wpList_plain (o := ⟨none, Op.store 27 _ _, _, _, _, _⟩) rfl fun K hK => wp_store_blob (.tmp 4) (.tmp 16) w.heap.size BlobL.zero BlobL.zero rfl rfl rfl BlobL.zero_ok HBO.out fun w3 hx3 hg3 hs3 => hK _ _ ?_)))
    refine bodyPost_ret (results_blob rfl _ rfl rfl hx3) rfl ?_
    rw [HE2.out]
    exact ⟨rfl, hbA.grown hg3 (by omega) (fun r e => by cases e; omega)⟩
  · have e : E = (⟨sumL b, b.length, k, rootL (leavesL b k.toNat)⟩, 0) := by rw [← HE.out, blobE, hr]; rfl
    have el : leavesE b k = (leavesL b k.toNat, 0) := by rw [leavesE, hr]; rfl
    have hle : (leavesL b k.toNat).length ≤ 1024 := leaves_few hr
    have hbl : b.length ≤ 1048576 := by have := (right_parts hr).2.1; omega
    rw [el] at ho2 ⊢
    have HE2 := Lib.hid e
    clear e el HE hr
    obtain ⟨L, hL⟩ : ∃ L, leavesL b k.toNat = L := ⟨_, rfl⟩
    rw [hL] at ho2 hle ⊢
    have HD32 : Dig32 L := hL ▸ leavesL_32 b _
    have HL2 := Lib.hid hL
    have HO2 := Lib.hid ho2.digs
    clear hL ho2
    go_wp2_with (first
      | (go_at_call 38; refine (Sum_any _ b _ (HL.out.of_new hbA) (by omega) (hKc.of_new hbA)).mono ?_; rintro e w3 ⟨rfl, hb3⟩; have HB3 := Lib.hid hb3; clear hb3)
      | (go_at_call 39; refine (Root_any _ L _ (HO2.out.of_new HB3.out) (by omega) (hKc.of_new (below_next hbA HB3.out))).mono ?_; rintro e w4 ⟨rfl, hb4⟩; have HB4 := Lib.hid hb4; clear hb4)
      | ((with_reducible refine wpList_plain (o := ⟨some 25, Op.build 27 _, _, _, _, _⟩) rfl fun K hK => ?_); (refine wp_build_blob (sumL b) (rootL L) (b.length : Int) k rfl rfl rfl rfl rfl (sumL_len b) ((rootL_len HD32)) (hK _ _ ?_)))
      | ((with_reducible refine wpList_plain (o := ⟨none, Op.store 27 _ _, _, _, _, _⟩) rfl fun K hK => ?_); (refine wp_store_blob (.tmp 4) (.tmp 25) w.heap.size ⟨sumL b, b.length, k, rootL L⟩ BlobL.zero rfl rfl rfl ⟨sumL_len b, (rootL_len HD32)⟩ ((HBO.out.of_new HB3.out).of_new HB4.out) fun w5 hx5 hg5 hs5 => hK _ _ ?_)))
    refine bodyPost_ret (results_blob rfl _ rfl rfl hx5) rfl ?_
    rw [HE2.out, HL2.out]
    have hbB := below_next (below_next hbA HB3.out) HB4.out
    exact ⟨rfl, hbB.grown hg5 (by have := hbB.size; omega) (fun r e => by cases e; omega)⟩

set_option maxHeartbeats 1600000 in
theorem RBlob_any (v : Value) (b : List UInt8) (k : Int) (w : World) (hl : Bytes w v b) :
    Calls Tryd.prog 12 #[v, .int .i64 k] w (BlobPost w (blobE b k)) := by
  obtain ⟨va, vc, hv⟩ := hl.len
  subst hv
  have HL := Lib.hid hl
  clear hl
  obtain ⟨E, hE⟩ : ∃ E, blobE b k = E := ⟨_, rfl⟩
  rw [hE]
  have HE := Lib.hid hE
  clear hE
  go_enter Tryd.func12, Tryd.ntmps12
  go_wp2_with fail
  generalize hW : w.alloc _ = W
  obtain ⟨hbo, hb0⟩ : BlobO W w.heap.size BlobL.zero ∧ Below w.heap.size w W := by
    subst hW
    exact ⟨⟨heap_alloc_new _ _, BlobL.zero_ok⟩, (Below.refl _ w).alloc (Nat.le_refl _) _⟩
  clear hW
  refine (RLeaves_any _ b k W (HL.out.of_new hb0)).mono ?_
  rintro e w2 ⟨v2, rfl, ho2, hb2⟩
  have hbA := below_next hb0 hb2
  have hbo2 := hbo.of_new hb2
  have hgl := hbo2.lt
  clear hbo hb2
  obtain ⟨a2, c2, hv2⟩ := ho2.digs.len
  subst hv2
  have HBO := Lib.hid hbo2
  clear hbo2
  rcases hr : mrightB b.length k with _ | _
  · have e : E = (BlobL.zero, 1) := by rw [← HE.out, blobE, hr]; rfl
    have el : leavesE b k = ([], 1) := by rw [leavesE, hr]; rfl
    rw [el] at ho2 ⊢
    have HE2 := Lib.hid e
    clear e el HE hr ho2
    go_wp2_with (first
      | ((with_reducible refine wpList_plain (o := ⟨some 16, Op.build 27 #[], _, _, _, _⟩) rfl fun K hK => wp_build_blob0 rfl (hK _ _ ?_)))
      | ((with_reducible refine wpList_plain (o := ⟨none, Op.store 27 _ _, _, _, _, _⟩) rfl fun K hK => wp_store_blob (.tmp 4) (.tmp 16) w.heap.size BlobL.zero BlobL.zero rfl rfl rfl BlobL.zero_ok HBO.out fun w3 hx3 hg3 hs3 => hK _ _ ?_)))
    refine bodyPost_ret (results_blob rfl _ rfl rfl hx3) rfl ?_
    rw [HE2.out]
    exact ⟨rfl, hbA.grown hg3 (by omega) (fun r e => by cases e; omega)⟩
  · have e : E = (⟨sumL b, b.length, k, rootL (leavesL b k.toNat)⟩, 0) := by rw [← HE.out, blobE, hr]; rfl
    have el : leavesE b k = (leavesL b k.toNat, 0) := by rw [leavesE, hr]; rfl
    have hle : (leavesL b k.toNat).length ≤ 1024 := leaves_few hr
    have hbl : b.length ≤ 1048576 := by have := (right_parts hr).2.1; omega
    rw [el] at ho2 ⊢
    have HE2 := Lib.hid e
    clear e el HE hr
    obtain ⟨L, hL⟩ : ∃ L, leavesL b k.toNat = L := ⟨_, rfl⟩
    rw [hL] at ho2 hle ⊢
    have HD32 : Dig32 L := hL ▸ leavesL_32 b _
    have HL2 := Lib.hid hL
    have HO2 := Lib.hid ho2.digs
    clear hL ho2
    go_wp2_with (first
      | (go_at_call 40; refine (RSum_any _ b _ (HL.out.of_new hbA) (by omega)).mono ?_; rintro e w3 ⟨rfl, hb3⟩; have HB3 := Lib.hid hb3; clear hb3)
      | (go_at_call 41; refine (RRoot_any _ L _ (HO2.out.of_new HB3.out) (by omega)).mono ?_; rintro e w4 ⟨rfl, hb4⟩; have HB4 := Lib.hid hb4; clear hb4)
      | ((with_reducible refine wpList_plain (o := ⟨some 25, Op.build 27 _, _, _, _, _⟩) rfl fun K hK => ?_); (refine wp_build_blob (sumL b) (rootL L) (b.length : Int) k rfl rfl rfl rfl rfl (sumL_len b) ((rootL_len HD32)) (hK _ _ ?_)))
      | ((with_reducible refine wpList_plain (o := ⟨none, Op.store 27 _ _, _, _, _, _⟩) rfl fun K hK => ?_); (refine wp_store_blob (.tmp 4) (.tmp 25) w.heap.size ⟨sumL b, b.length, k, rootL L⟩ BlobL.zero rfl rfl rfl ⟨sumL_len b, (rootL_len HD32)⟩ ((HBO.out.of_new HB3.out).of_new HB4.out) fun w5 hx5 hg5 hs5 => hK _ _ ?_)))
    refine bodyPost_ret (results_blob rfl _ rfl rfl hx5) rfl ?_
    rw [HE2.out, HL2.out]
    have hbB := below_next (below_next hbA HB3.out) HB4.out
    exact ⟨rfl, hbB.grown hg5 (by have := hbB.size; omega) (fun r e => by cases e; omega)⟩

end Go.Proofs.YtnomekfemadpeaaDoor

/- The walk of merkle.Check. Condition: the table of constants as the program lays it. -/
namespace Go.Proofs.YtnomekfemadpeaaDoor
open Go.RowKit Go.Shelf
attribute [local go_sem] Oper.semAt_some
set_option linter.unusedVariables false
set_option linter.unusedSimpArgs false

/-- What a leaf and the hashes lead to, on the way through places. -/
def upP : List (Nat × Nat) → List UInt8 → List (List UInt8) → List UInt8 × List (List UInt8)
  | [], x, p => (x, p)
  | (n, i) :: r, x, p => if besideZ n i < 0 then upP r x p else if i % 2 = 1 then upP r (nodeL (p.getD 0 []) x) p.tail else upP r (nodeL x (p.getD 0 [])) p.tail
theorem upP_snoc (r : List (Nat × Nat)) (n i : Nat) (x : List UInt8) (p : List (List UInt8)) {y : List UInt8} {q : List (List UInt8)} (h : upP r x p = (y, q)) :
    upP (r ++ [(n, i)]) x p = if besideZ n i < 0 then (y, q) else if i % 2 = 1 then (nodeL (q.getD 0 []) y, q.tail) else (nodeL y (q.getD 0 []), q.tail) := by
  induction r generalizing x p with
  | nil =>
    simp only [upP, Prod.mk.injEq] at h
    obtain ⟨rfl, rfl⟩ := h
    simp only [List.nil_append, upP]
  | cons a r ih =>
    obtain ⟨a, b⟩ := a
    simp only [upP] at h
    simp only [List.cons_append, upP]
    split at h
    · rename_i h1; rw [if_pos h1]; exact ih _ _ h
    · rename_i h1
      rw [if_neg h1]
      split at h
      · rename_i h2; rw [if_pos h2]; exact ih _ _ h
      · rename_i h2; rw [if_neg h2]; exact ih _ _ h
def checkL (root : List UInt8) (n i : Int) (leaf : List UInt8) (proof : List (List UInt8)) : Bool :=
  rightB n i && decide (proof.length = depthZ n i) && decide ((upP (walkN n.toNat i.toNat) leaf proof).1 = root)

theorem wp_store_dig {w : World} {op : Oper} {a : Act} {K : Act → World → Prop} {Q : Exit → Act → World → Prop} (x y : Operand) (g : Nat) (old d : List UInt8) (ho : op.op = .store 25 x y)
    (hx : a.eval x = .pointer (some ⟨g, 0, none⟩)) (hy : a.eval y = .agg (d.map B8).toArray) (hg : Octs w g 25 old) (h1 : old.length = 32) (h2 : d.length = 32)
    (h : ∀ w', Octs w' g 25 d → w.grownBy w' (some g) → K (a.put op.dst undef) w') : op.wp Tryd.prog a w K Q := by
  have hrun := run_storeVar_row (P := Tryd.prog) w g 25 25 _ (d.map B8).toArray hg (by rw [info_dig]; simp [h2]) (by simp [h1, h2]) (octs_one d)
  unfold Oper.wp execOp
  simp only [ho, hx, hy, Instr.storeAt, Instr.sureAddr, Sem.run_bind, Sem.run_pure, Result.andThen_ok, hrun]
  exact h _ (setRow_heap _ _ _ _ _ _ hg) (grown_setRow _ _ _)

theorem right_below (n i : Int) (w : World) : Calls Tryd.prog 70 #[.int .i64 n, .int .i64 i] w fun e w' => e = .returned (.bool (rightB n i)) ∧ Below w.heap.size w w' :=
  (right_any n i w).mono fun _ _ ⟨he, hw⟩ => ⟨he, by rw [hw]; exact Below.refl _ _⟩

/-- What holds ahead of each round. -/
def CheckI (w : World) (root leaf : List UInt8) (proof : List (List UInt8)) (pre : List (Nat × Nat)) (W : World) : Prop :=
  ∃ (rv : Value) (x : List UInt8) (rest : List (List UInt8)), Octs W (w.heap.size + 1) 25 x ∧ x.length = 32 ∧ One W (w.heap.size + 2) rv 31 ∧ Digs w rv rest ∧ upP pre leaf proof = (x, rest) ∧
    rest.length + cntP pre = proof.length ∧ Octs W w.heap.size 25 root ∧ Below w.heap.size w W ∧ w.heap.size + 3 ≤ W.heap.size

set_option maxRecDepth 100000 in
set_option maxHeartbeats 3200000 in
theorem Check_any (root leaf : List UInt8) (n i : Int) (v : Value) (proof : List (List UInt8)) (w : World) (hroot : root.length = 32) (hleaf : leaf.length = 32) (hp : Digs w v proof) (hK : Consts w) :
    Calls Tryd.prog 45 #[.agg (root.map B8).toArray, .int .i64 n, .int .i64 i, .agg (leaf.map B8).toArray, v] w fun e w' => e = .returned (.bool (checkL root n i leaf proof)) ∧ Below w.heap.size w w' := by
  obtain ⟨va, vc, hv⟩ := hp.len
  subst hv
  have hle := hp.le
  unfold maxLen at hle
  have hgd := guard_dig
  refine (callsIn_wide (n := 3)).1 ?_
  refine callsIn_of_wp_marks Tryd.func45 rfl trivial ?_ rfl
  simp only [Tryd.ntmps45, List.size_toArray, List.length_cons, List.length_nil, Nat.reduceAdd, Nat.reduceSub, Array.replicate_succ, Array.replicate_zero, List.push_toArray, List.append_toArray, List.nil_append, List.cons_append]
  gi_wp2
  generalize hW1 : ((w.alloc _).alloc _).alloc _ = W1
  obtain ⟨hsz, hb1, o1, o2, o3⟩ : W1.heap.size = w.heap.size + 3 ∧ Below w.heap.size w W1 ∧ Octs W1 w.heap.size 25 root ∧ Octs W1 (w.heap.size + 1) 25 leaf ∧ One W1 (w.heap.size + 2) (.slice va proof.length vc) 31 := by
    subst hW1
    refine ⟨by simp, (((Below.refl _ w).alloc (Nat.le_refl _) _).alloc (by simp) _).alloc (by simp; omega) _, ?_, ?_, ?_⟩
    · exact (Below.heap_alloc _ _ _ (by simp; omega)).trans ((Below.heap_alloc _ _ _ (by simp)).trans (heap_alloc_new _ _))
    · refine (Below.heap_alloc _ _ _ (by simp)).trans ?_
      have := heap_alloc_new (w.alloc (.cells (root.map B8).toArray 25)) (.cells (leaf.map B8).toArray 25)
      rwa [World.size_alloc] at this
    · have := heap_alloc_new ((w.alloc (.cells (root.map B8).toArray 25)).alloc (.cells (leaf.map B8).toArray 25)) (.cells #[.slice va proof.length vc] 31)
      rwa [World.size_alloc, World.size_alloc] at this
  clear hW1
  have hr := right_below n i
  have hD := Depth_any n i
  have hcl : checkL root n i leaf proof = (rightB n i && decide (proof.length = depthZ n i) && decide ((upP (walkN n.toNat i.toNat) leaf proof).1 = root)) := rfl
  have hdz : depthZ n i = if rightB n i then cntP (walkN n.toNat i.toNat) else 0 := rfl
  have hrb : rightB n i = decide (n ≥ 1 ∧ n ≤ 1024 ∧ i ≥ 0 ∧ i < n) := rfl
  have hcov : ∀ w2, Grew W1 w2 → w2.cell? ⟨w.heap.size + 1 + 1, 0, none⟩ = some (.slice va proof.length vc) := fun w2 h => (o3.of_new h).cell
  rcases hrb2 : rightB n i with _ | _
  · rw [hrb2] at hr hcl hdz
    have HCL := Lib.hid hcl
    clear hcl hdz hrb hrb2
    refine wpIn_wide.2 (wp_region_grew (by kernel_rfl) (by kernel_rfl) ?_)
    repeat (first
      | (go_big_quiet_want; (with_reducible apply quiet_load_at (ty := 25) (x := .tmp _)); rfl; rfl; assumption; go_simp; go_big_quiet_on)
      | (go_big_quiet_want; apply quiet_val; (intro w' hw'; go_simp; first | done | rfl); go_simp; go_big_quiet_on)
      | (go_big_quiet_want; apply quiet_call (f := 70); (intro w' hw'; go_simp; first | done | rfl); (intro w' hw'; exact Grew.call hw' (hr w')); go_simp; go_big_quiet_on)
      | (go_big_quiet_skip))
    refine wpQuiet_nil ?_
    intro w5 hw5
    gi_wp2
    refine ⟨_, results_tmp rfl _ _ _, by rw [HCL.out]; rfl, ?_⟩
    exact below_next' hb1 hw5
  rw [hrb2] at hr hcl hdz
  by_cases hpd : proof.length = depthZ n i
  case neg =>
    have t1 : ((proof.length : Int) != (depthZ n i : Int)) = true := by simp; omega
    have ha : checkL root n i leaf proof = false := by rw [hcl]; simp [hpd]
    have HA := Lib.hid ha
    clear hcl hdz hrb hrb2 ha hpd
    generalize depthZ n i = D at *
    refine wpIn_wide.2 (wp_region_grew (by kernel_rfl) (by kernel_rfl) ?_)
    repeat (first
      | (go_big_quiet_want; (with_reducible apply quiet_load_at (ty := 25) (x := .tmp _)); rfl; rfl; assumption; go_simp; go_big_quiet_on)
      | (go_big_quiet_want; apply quiet_val; (intro w' hw'; go_simp; first | done | rfl); go_simp; go_big_quiet_on)
      | (go_big_quiet_want; apply quiet_call (f := 70); (intro w' hw'; go_simp; first | done | rfl); (intro w' hw'; exact Grew.call hw' (hr w')); go_simp; go_big_quiet_on)
      | (go_big_quiet_want; apply quiet_call (f := 71); (intro w' hw'; go_simp; first | done | rfl); (intro w' hw'; exact Grew.call hw' (hD w')); go_simp; go_big_quiet_on)
      | (go_big_quiet_skip))
    refine wpQuiet_nil ?_
    intro w5 hw5
    gi_wp2
    refine ⟨_, results_tmp rfl _ _ _, by rw [HA.out]; rfl, ?_⟩
    exact below_next' hb1 hw5
  have t1 : ((proof.length : Int) != (depthZ n i : Int)) = false := by simp; omega
  obtain ⟨p1, p2, p3, p4⟩ : n ≥ 1 ∧ n ≤ 1024 ∧ i ≥ 0 ∧ i < n := by
    rw [hrb] at hrb2
    simpa using hrb2
  have ha : checkL root n i leaf proof = decide ((upP (walkN n.toNat i.toNat) leaf proof).1 = root) := by rw [hcl]; simp [hpd]
  rw [if_pos rfl] at hdz
  have hpc : proof.length = cntP (walkN n.toNat i.toNat) := by rw [hpd, hdz]
  have HA := Lib.hid ha
  have HPC := Lib.hid hpc
  clear hcl hdz hrb hrb2 ha hpd hpc
  generalize depthZ n i = D at *
  obtain ⟨N, rfl⟩ : ∃ N : Nat, n = (N : Int) := ⟨n.toNat, by omega⟩
  obtain ⟨j, rfl⟩ : ∃ j : Nat, i = (j : Int) := ⟨i.toNat, by omega⟩
  simp only [Int.toNat_natCast] at HA HPC
  refine wpIn_wide.2 (wp_region_grew (by kernel_rfl) (by kernel_rfl) ?_)
  repeat (first
    | (go_big_quiet_want; (with_reducible apply quiet_load_at (ty := 25) (x := .tmp _)); rfl; rfl; assumption; go_simp; go_big_quiet_on)
    | (go_big_quiet_want; apply quiet_val; (intro w' hw'; go_simp; first | done | rfl); go_simp; go_big_quiet_on)
    | (go_big_quiet_want; apply quiet_call (f := 70); (intro w' hw'; go_simp; first | done | rfl); (intro w' hw'; exact Grew.call hw' (hr w')); go_simp; go_big_quiet_on)
    | (go_big_quiet_want; apply quiet_call (f := 71); (intro w' hw'; go_simp; first | done | rfl); (intro w' hw'; exact Grew.call hw' (hD w')); go_simp; go_big_quiet_on)
    | (go_big_quiet_skip))
  refine wpQuiet_nil ?_
  intro w5 hw5
  have q1 := o1.of_block (hw5.block _ (by omega))
  have q2 := o2.of_block (hw5.block _ (by omega))
  have q3 := o3.of_new hw5
  have hb5 := below_next' hb1 hw5
  have hs5 := hw5.size
  clear hcov hr hD t1 o1 o2 o3
  gi_wp2_with (refine ⟨trivial, ?_⟩; gi_at_call 72; refine (callsIn_wide.2 (places_any _ _ _)).mono ?_; rintro e w' ⟨rfl, rfl⟩)
  generalize hW0 : (w5.alloc _).alloc _ = W0
  obtain ⟨hs0, hb50, o4, o5⟩ : W0.heap.size = w5.heap.size + 2 ∧ Below w5.heap.size w5 W0 ∧ One W0 w5.heap.size (.int .i64 (N : Int)) 3 ∧ One W0 (w5.heap.size + 1) (.int .i64 (j : Int)) 3 := by
    subst hW0
    refine ⟨by simp, ((Below.refl _ w5).alloc (Nat.le_refl _) _).alloc (by simp) _, (Below.heap_alloc _ _ _ (by simp)).trans (heap_alloc_new _ _), ?_⟩
    have := heap_alloc_new (w5.alloc (.cells #[.int .i64 (N : Int)] 3)) (.cells #[.int .i64 (j : Int)] 3)
    rwa [World.size_alloc] at this
  replace q1 := q1.of_block (hb50.block _ (by omega))
  replace q2 := q2.of_block (hb50.block _ (by omega))
  replace q3 := q3.of_new hb50
  have hB0 := below_next' hb5 hb50 (by omega)
  clear hW0
  refine wpIn_rangeFunc_cells (F := Fence.wide) (n := 3) rfl (by omega) (gf := 92) (lb := #[.pointer (some ⟨w5.heap.size, 0, none⟩), .pointer (some ⟨w5.heap.size + 1, 0, none⟩)]) rfl trivial
    (enters_of Tryd.func92 (by kernel_rfl) rfl)
    (encs := encP) (It := fun pre x _ => pre ++ [x] <+: walkN N j) (O := fun k => k = w5.heap.size ∨ k = w5.heap.size + 1) (U := fun k => k = w5.heap.size ∨ k = w5.heap.size + 1)
    (fun W1 hb1 hs1 => by
      have e1 := o4.of_block (hb1.block _ (by omega))
      have e2 := o5.of_block (hb1.block _ (by omega))
      exact places_seq Fence.wide 2 trivial rfl (by omega) _ _ (by omega) N j (by omega) (by omega) W1 e1.cell e2.cell e1.free e2.free)
    (by omega) (by omega) (by omega) (fun _ => rfl)
    (CheckI w root leaf proof) (fun _ _ _ => False)
    (fun s A B hs hk => by
      obtain ⟨rv, x, rest, a1, a2, a3, a4, a5, a6, a7, a8, a9⟩ := hs
      exact ⟨rv, x, rest, a1.of_block (hk.block _ (by omega) (by constructor <;> omega)), a2, a3.of_block (hk.block _ (by omega) (by constructor <;> omega)), a4, a5, a6, a7.of_block (hk.block _ (by omega) (by constructor <;> omega)),
        hk.to_below a8 (by omega) (fun k hk2 => by constructor <;> omega), Nat.le_trans a9 hk.size⟩)
    (fun _ _ _ _ h _ => h) (fun _ _ _ _ h _ => h)
    ⟨_, leaf, proof, q2, hleaf, q3, hp, rfl, by simp [cntP], q1, hB0, by omega⟩
    (fun x => { tmps := #[.agg (root.map B8).toArray, .int .i64 (N : Int), .int .i64 (j : Int), .agg (leaf.map B8).toArray, .slice va proof.length vc, .pointer (some ⟨w.heap.size, 0, none⟩), undef, undef, .pointer (some ⟨w.heap.size + 1, 0, none⟩), .pointer (some ⟨w.heap.size + 1 + 1, 0, none⟩), .bool false,
      .int .i64 (x.1 : Int), .int .i64 (x.2 : Int), undef, .int .i64 (N : Int), .int .i64 (j : Int), .bool true, .bool false, .bool false, .slice va proof.length vc, .int .i64 (proof.length : Int), .int .i64 (N : Int), .int .i64 (j : Int), .int .i64 (D : Int), .bool false, .bool false, .int .i64 (N : Int), .int .i64 (j : Int),
      .func (.func 92) #[] #[.pointer (some ⟨w5.heap.size, 0, none⟩), .pointer (some ⟨w5.heap.size + 1, 0, none⟩)], .int .i64 (x.1 : Int), .int .i64 (x.2 : Int), undef, undef, undef, undef, undef, undef, undef, undef, undef, undef, undef, undef, undef, undef, undef, undef, undef, undef, undef, undef, undef, undef, undef, undef, undef], defers := [] }) ?assign ?body ?done ?stop
  case assign =>
    intro l x W K hK
    gi_wp2
    exact hK
  case body =>
    rintro l pre ⟨a, b⟩ W ⟨rv, x, rest, a1, a2, a3, a4, a5, a6, a7, a8, a9⟩ hpre _ hW2
    have hmem : (a, b) ∈ walkN N j := hpre.subset (by simp)
    obtain ⟨g1, g2, g3⟩ := walkP_in 1024 N j (by omega) _ hmem
    dsimp only at g1 g2 g3
    have hbz : besideZ a b = if b % 2 = 1 then (b : Int) - 1 else if b + 1 < a then (b : Int) + 1 else -1 := rfl
    have hup := upP_snoc pre a b leaf proof a5
    have hcs := cntP_snoc pre (a, b)
    have hcl : cntP (pre ++ [(a, b)]) ≤ cntP (walkN N j) := by
      obtain ⟨t, ht⟩ := hpre
      rw [← ht]
      unfold cntP
      rw [List.countP_append (l₂ := t)]
      omega
    have hbes := beside_any a b
    have h1 : 1 ≤ 3 - 1 - 1 := by omega
    have qc := a3.cell
    have qf := a3.free
    rw [← HPC.out] at hcl
    clear hpre hmem
    dsimp only at hcs
    by_cases hz : besideZ a b < 0
    · rw [if_pos hz] at hup
      rw [if_neg (by omega)] at hcs
      have HU := Lib.hid hup
      have HC := Lib.hid hcs
      clear hup hcs hbz
      generalize besideZ a b = at_ at *
      gi_wp2_with (refine ⟨trivial, ?_⟩; gi_at_call 73; refine (CallsIn.inRound l (callsIn_wide.2 (hbes _ g1 (by omega)))).mono ?_; rintro e w' ⟨rfl, rfl⟩)
      exact ⟨Kept.refl _ _, rv, x, rest, a1, a2, a3, a4, HU.out, by rw [HC.out]; omega, a7, a8, a9⟩
    · rw [if_neg hz] at hup
      rw [if_pos (by omega)] at hcs
      have hr1 : 1 ≤ rest.length := by omega
      obtain ⟨rb, roff, rc, hv⟩ := a4.shape (by omega)
      subst hv
      have hd1 := (a4.of_new a8).digAt (i := 0) (by omega)
      rw [Nat.zero_mul, Nat.add_zero] at hd1
      obtain ⟨v2, hr2, hl2, _⟩ := a4.part (some (.int .i64 1)) none 1 rest.length (by omega) (by omega) (.inr ⟨_, rfl⟩) (.inl ⟨rfl, rfl⟩)
      have e1 : (rest.drop 1).take (rest.length - 1) = rest.tail := by rw [List.take_of_length_le (by simp)]; simp
      rw [e1] at hl2
      have htl : rest.tail.length + 1 = rest.length := by simp; omega
      have hrl : (0 : Int) < (rest.length : Int) := by omega
      have hrn : 0 < rest.length := by omega
      have hrm : ¬ rest.length = 0 := by omega
      have HU := Lib.hid hup
      have HC := Lib.hid hcs
      have HT := Lib.hid htl
      have hx1 := a1.digAt a2
      clear e1 htl
      by_cases hodd : b % 2 = 1
      · rw [if_pos hodd] at hbz
        rw [if_pos hodd] at hup
        have HU := Lib.hid hup
        have t2 : ¬ ((b : Int) - 1 < 0) := by omega
        have t3 : (b : Int) - 1 < (b : Int) := by omega
        rw [hbz] at hbes
        clear hup hcs hbz hz
        generalize rest.getD 0 [] = d at *
        generalize rest.tail = rest2 at *
        obtain ⟨a2', c2', hv⟩ := hl2.len
        subst hv
        gi_wp2_with (refine ⟨trivial, ?_⟩; gi_at_call 73; refine (CallsIn.inRound l (callsIn_wide.2 (hbes _ g1 (by omega)))).mono ?_; rintro e w' ⟨rfl, rfl⟩)
        have hcov : ∀ w2, Grew w' w2 → w2.cell? ⟨w.heap.size + 2, 0, none⟩ = some (.slice (some ⟨rb, roff, none⟩) rest.length rc) := fun w2 h => (a3.of_new h).cell
        refine wpIn_region_class (ro := some l) (C := Grew w') 5 (by kernel_rfl) (by kernel_rfl) (Grew.start _) ?_
        simp only [List.take_succ_cons, List.take_zero, List.drop_succ_cons, List.drop_zero]
        go_simp
        repeat (first
          | (go_big_quiet_want; (with_reducible apply quiet_load_at (ty := 25) (x := .tmp _)); rfl; rfl; assumption; go_simp; go_big_quiet_on)
          | (go_big_quiet_want; apply quiet_val; (intro w' hw'; go_simp; first | done | rfl); go_simp; go_big_quiet_on)
          | (go_big_quiet_want; apply quiet_call (f := 74); (intro w' hw'; go_simp; first | done | rfl); (intro w' hw'; exact Grew.call hw' (Node_any _ _ w' hd1.1 a2 (hK.of_new (below_next' a8 hw' (by omega))))); go_simp; go_big_quiet_on)
          | (go_big_quiet_skip))
        refine wpQuiet_nil ?_
        intro w6 hw6
        refine wpListIn_of_wp rfl (fun c hc => by cases hc) (wp_store_dig (.tmp 8) (.tmp 50) (w.heap.size + 1) x (nodeL d x) rfl rfl rfl (a1.of_block (hw6.block _ (by omega))) a2 (nodeL_len _ _) ?_)
        intro w7 hx7 hg7
        have b3 := (a3.of_new hw6).grown hg7 (by simp)
        have b7 := (a7.of_block (hw6.block _ (by omega))).of_block (hg7.block _ (by have := hw6.size; omega) (by simp))
        have b8 : Below w.heap.size w w7 := (below_next' a8 hw6 (by omega)).grown hg7 (by have := hw6.size; omega) (fun j e => by cases e; omega)
        have b9 : w.heap.size + 3 ≤ w7.heap.size := by have := hw6.size; have := hg7.size; omega
        have hk7 : Kept (fun k => (k = w5.heap.size ∨ k = w5.heap.size + 1) ∨ k = W0.heap.size ∨ k = W0.heap.size + 1) w' w7 := ((Kept.refl _ w').below hw6).grown hg7 (fun r e => by cases e; omega)
        have qc7 := b3.cell
        have qf7 := b3.free
        rw [wF_some]
        clear hw6 hg7 qc qf hcov a3 a1 a7 a8 a9 hx1 hd1
        gi_wp2
        exact ⟨hk7.setCell (p := ⟨w.heap.size + 2, 0, none⟩) (by simp; omega) _, _, _, rest2, hx7.of_block (Below.heap_setCell _ _ _ _ (by intro h; have h2 : w.heap.size + 1 = w.heap.size + 2 := h; omega)), nodeL_len _ _, b3.set _, hl2, HU.out, by rw [HC.out]; have := HT.out; omega,
          b7.of_block (Below.heap_setCell _ _ _ _ (by intro h; have h2 : w.heap.size = w.heap.size + 2 := h; omega)), b8.setCell (p := ⟨w.heap.size + 2, 0, none⟩) (by simp) _, by simpa [World.setCell] using b9⟩
      · rw [if_neg hodd] at hbz
        rw [if_neg hodd] at hup
        have HU := Lib.hid hup
        have hlt2 : b + 1 < a := by
          by_cases h : b + 1 < a
          · exact h
          · rw [if_neg h] at hbz; omega
        rw [if_pos hlt2] at hbz
        have t2 : ¬ ((b : Int) + 1 < 0) := by omega
        have t3 : ¬ ((b : Int) + 1 < (b : Int)) := by omega
        rw [hbz] at hbes
        clear hup hcs hbz hz
        generalize rest.getD 0 [] = d at *
        generalize rest.tail = rest2 at *
        obtain ⟨a2', c2', hv⟩ := hl2.len
        subst hv
        gi_wp2_with (refine ⟨trivial, ?_⟩; gi_at_call 73; refine (CallsIn.inRound l (callsIn_wide.2 (hbes _ g1 (by omega)))).mono ?_; rintro e w' ⟨rfl, rfl⟩)
        have hcov : ∀ w2, Grew w' w2 → w2.cell? ⟨w.heap.size + 2, 0, none⟩ = some (.slice (some ⟨rb, roff, none⟩) rest.length rc) := fun w2 h => (a3.of_new h).cell
        refine wpIn_region_class (ro := some l) (C := Grew w') 5 (by kernel_rfl) (by kernel_rfl) (Grew.start _) ?_
        simp only [List.take_succ_cons, List.take_zero, List.drop_succ_cons, List.drop_zero]
        go_simp
        repeat (first
          | (go_big_quiet_want; (with_reducible apply quiet_load_at (ty := 25) (x := .tmp _)); rfl; rfl; assumption; go_simp; go_big_quiet_on)
          | (go_big_quiet_want; apply quiet_val; (intro w' hw'; go_simp; first | done | rfl); go_simp; go_big_quiet_on)
          | (go_big_quiet_want; apply quiet_call (f := 74); (intro w' hw'; go_simp; first | done | rfl); (intro w' hw'; exact Grew.call hw' (Node_any _ _ w' a2 hd1.1 (hK.of_new (below_next' a8 hw' (by omega))))); go_simp; go_big_quiet_on)
          | (go_big_quiet_skip))
        refine wpQuiet_nil ?_
        intro w6 hw6
        refine wpListIn_of_wp rfl (fun c hc => by cases hc) (wp_store_dig (.tmp 8) (.tmp 38) (w.heap.size + 1) x (nodeL x d) rfl rfl rfl (a1.of_block (hw6.block _ (by omega))) a2 (nodeL_len _ _) ?_)
        intro w7 hx7 hg7
        have b3 := (a3.of_new hw6).grown hg7 (by simp)
        have b7 := (a7.of_block (hw6.block _ (by omega))).of_block (hg7.block _ (by have := hw6.size; omega) (by simp))
        have b8 : Below w.heap.size w w7 := (below_next' a8 hw6 (by omega)).grown hg7 (by have := hw6.size; omega) (fun j e => by cases e; omega)
        have b9 : w.heap.size + 3 ≤ w7.heap.size := by have := hw6.size; have := hg7.size; omega
        have hk7 : Kept (fun k => (k = w5.heap.size ∨ k = w5.heap.size + 1) ∨ k = W0.heap.size ∨ k = W0.heap.size + 1) w' w7 := ((Kept.refl _ w').below hw6).grown hg7 (fun r e => by cases e; omega)
        have qc7 := b3.cell
        have qf7 := b3.free
        rw [wF_some]
        clear hw6 hg7 qc qf hcov a3 a1 a7 a8 a9 hx1 hd1
        gi_wp2
        exact ⟨hk7.setCell (p := ⟨w.heap.size + 2, 0, none⟩) (by simp; omega) _, _, _, rest2, hx7.of_block (Below.heap_setCell _ _ _ _ (by intro h; have h2 : w.heap.size + 1 = w.heap.size + 2 := h; omega)), nodeL_len _ _, b3.set _, hl2, HU.out, by rw [HC.out]; have := HT.out; omega,
          b7.of_block (Below.heap_setCell _ _ _ _ (by intro h; have h2 : w.heap.size = w.heap.size + 2 := h; omega)), b8.setCell (p := ⟨w.heap.size + 2, 0, none⟩) (by simp) _, by simpa [World.setCell] using b9⟩
  case done =>
    rintro xs W rfl ⟨rv, x, rest, a1, a2, a3, a4, a5, a6, a7, a8, a9⟩ hW2 hD2
    have hx1 := a1.digAt a2
    have hx2 := a7.digAt hroot
    have heq := run_eql_dig x root a2 hroot
    have hfin : checkL root N j leaf proof = decide (x = root) := by rw [HA.out]; simp only [a5]
    have HF := Lib.hid hfin
    have HS0 := Lib.hid hs0
    clear hfin a1 a7 hs0
    gi_wp2_with (first
      | ((with_reducible refine wpListIn_load_dig (op := ⟨some 53, Op.load 25 (.tmp 8), _, _, _, _⟩) (.tmp 8) (w.heap.size + 1) 0 x ?_ ?_ ?_ ?_ ?_ ?_); rfl; rfl; rfl; exact hx1.1; exact hx1.2)
      | ((with_reducible refine wpListIn_load_dig (op := ⟨some 54, Op.load 25 (.tmp 5), _, _, _, _⟩) (.tmp 5) (w.heap.size) 0 root ?_ ?_ ?_ ?_ ?_ ?_); rfl; rfl; rfl; exact hx2.1; exact hx2.2))
    refine ⟨by simp, .inl ⟨_, _, rfl, run_takeDeferred hD2, ?_⟩⟩
    refine ⟨_, results_tmp rfl _ _ _, by rw [HF.out]; rfl, ?_⟩
    exact a8.grown (grownBy_putObj' _ _ _) a8.size (fun k e => by cases e; have := HS0.out; omega)
  case stop =>
    rintro c pre W _ h _ _
    exact h.elim

end Go.Proofs.YtnomekfemadpeaaDoor

/- The walk of the document's answer's Depth. No condition. -/
namespace Go.Proofs.YtnomekfemadpeaaDoor
open Go.RowKit
set_option linter.unusedVariables false
set_option linter.unusedSimpArgs false

theorem cntP_cons (x : Nat × Nat) (l : List (Nat × Nat)) : cntP (x :: l) = (if 0 ≤ besideZ x.1 x.2 then 1 else 0) + cntP l := by
  unfold cntP
  rw [List.countP_cons]
  simp only [decide_eq_true_eq]
  omega

def RDepthI (D : Nat) (nv iv mv : Value) : Prop := ∃ a b c : Nat, nv = .int .i64 (a : Int) ∧ iv = .int .i64 (b : Int) ∧ mv = .int .i64 (c : Int) ∧ b < a ∧ a ≤ 1024 ∧ c ≤ 1024 ∧ D = c + cntP (walkN a b) ∧ c + a ≤ 1024

set_option maxRecDepth 100000 in
set_option maxHeartbeats 3200000 in
theorem RDepth_any (n i : Int) (w : World) (n1 : -9223372036854775808 ≤ n) (n2 : n ≤ 9223372036854775807) (i1 : -9223372036854775808 ≤ i) (i2 : i ≤ 9223372036854775807) :
    Calls Tryd.prog 75 #[.int .i64 n, .int .i64 i] w fun e w' => e = .returned (.int .i64 (depthZ n i : Int)) ∧ Below w.heap.size w w' := by
  by_cases hr : 1 ≤ n ∧ n ≤ 1024 ∧ 0 ≤ i ∧ i < n
  case neg =>
    have h0 : depthZ n i = 0 := by
      unfold depthZ
      rw [if_neg]
      intro h
      have : n ≥ 1 ∧ n ≤ 1024 ∧ i ≥ 0 ∧ i < n := by simpa [rightB] using h
      omega
    have H0 := Lib.hid h0
    by_cases c1 : n < 1
    all_goals by_cases c2 : 1024 < n
    all_goals by_cases c3 : i < 0
    all_goals by_cases c4 : n ≤ i
    all_goals first | (exfalso; omega) | skip
    all_goals clear hr h0
    all_goals go_enter Tryd.func75, Tryd.ntmps75
    all_goals go_wp2
    all_goals go_ret
    all_goals exact ⟨by rw [H0.out]; rfl, Below.refl _ _⟩
  case pos =>
    obtain ⟨a1, a2, a3, a4⟩ := hr
    obtain ⟨N, rfl⟩ : ∃ N : Nat, n = (N : Int) := ⟨n.toNat, by omega⟩
    obtain ⟨j, rfl⟩ : ∃ j : Nat, i = (j : Int) := ⟨i.toNat, by omega⟩
    have h0 : depthZ N j = cntP (walkN N j) := by
      unfold depthZ
      rw [if_pos (by simp [rightB]; omega)]
      simp
    generalize hd : depthZ N j = D at *
    have c1 : ¬ (N : Int) < 1 := by omega
    have c2 : ¬ (1024 : Int) < N := by omega
    have c3 : ¬ (j : Int) < 0 := by omega
    have c4 : ¬ (N : Int) ≤ j := by omega
    have H0 := Lib.hid h0
    clear h0 hd
    go_enter Tryd.func75, Tryd.ntmps75
    go_wp2
    go_loop [0, 1, 5] (RDepthI D) (fun nv _ _ => (intOf nv).toNat)
    case atStart => exact ⟨N, j, 0, rfl, rfl, rfl, by omega, by omega, by omega, by rw [H0.out]; omega, by omega⟩
    case round =>
      obtain ⟨a, b, c, rfl, rfl, rfl, hb, ha, hc, hD, hca⟩ := hrel
      clear c1 c2 c3 c4 a1 a2 a3 a4
      by_cases hlt : 1 < a
      · have t1 : (1 : Int) < a := by omega
        have hstep := walkN_step (i := b) hlt ha
        rw [hstep, cntP_cons] at hD
        have hbz : besideZ a b = if b % 2 = 1 then (b : Int) - 1 else if b + 1 < a then (b : Int) + 1 else -1 := rfl
        dsimp only at hD
        rw [hbz] at hD
        have g1 : ((a : Int) + 1) / 2 = (((a + 1) / 2 : Nat) : Int) := by simp
        have g2 : (b : Int) / 2 = ((b / 2 : Nat) : Int) := by simp
        by_cases h2 : b % 2 = 1
        · rw [if_pos h2, if_pos (by omega)] at hD
          have t2 : (b : Int) % 2 = 1 := by omega
          have HD := Lib.hid hD
          clear hD hstep hbz g1 g2
          go_wp2
          exact ⟨⟨(a + 1) / 2, b / 2, c + 1, by simp, by simp, by simp, by omega, by omega, by omega, by have := HD.out; omega, by omega⟩, by simp [intOf]; omega⟩
        · rw [if_neg h2] at hD
          have t2 : (b : Int) % 2 = 0 := by omega
          by_cases h3 : b + 1 < a
          · rw [if_pos h3, if_pos (by omega)] at hD
            have t3 : (b : Int) + 1 < a := by omega
            have HD := Lib.hid hD
            clear hD hstep hbz g1 g2
            go_wp2
            exact ⟨⟨(a + 1) / 2, b / 2, c + 1, by simp, by simp, by simp, by omega, by omega, by omega, by have := HD.out; omega, by omega⟩, by simp [intOf]; omega⟩
          · rw [if_neg h3, if_neg (by omega)] at hD
            have t3 : ¬ (b : Int) + 1 < a := by omega
            have HD := Lib.hid hD
            clear hD hstep hbz g1 g2
            go_wp2
            exact ⟨⟨(a + 1) / 2, b / 2, c, by simp, by simp, by simp, by omega, by omega, by omega, by have := HD.out; omega, by omega⟩, by simp [intOf]; omega⟩
      · have t1 : ¬ (1 : Int) < a := by omega
        rw [walkN_end (by omega)] at hD
        have HD := Lib.hid hD
        clear hD
        go_wp2
        go_ret
        exact ⟨by rw [HD.out]; rfl, Below.refl _ _⟩

end Go.Proofs.YtnomekfemadpeaaDoor

/- The walks of the document's answer's Proof, Same and Depth. No condition beyond the arguments' sizes. -/
namespace Go.Proofs.YtnomekfemadpeaaDoor
open Go.RowKit
set_option linter.unusedVariables false
set_option linter.unusedSimpArgs false

set_option maxRecDepth 100000 in
set_option maxHeartbeats 1600000 in
theorem RProof_no (v : Value) (l : List (List UInt8)) (i : Int) (w : World) (hl : Digs w v l) (h : ¬ (0 ≤ i ∧ i < l.length ∧ l.length ≤ 1024)) (hi1 : -9223372036854775808 ≤ i) (hi2 : i ≤ 9223372036854775807) :
    Calls Tryd.prog 37 #[v, .int .i64 i] w (ProofPost w ([], 1)) := by
  have hle := hl.le
  unfold maxLen at hle
  obtain ⟨va, vc, hv⟩ := hl.len
  subst hv
  by_cases c1 : i < 0
  all_goals by_cases c2 : (l.length : Int) ≤ i
  all_goals by_cases c3 : (1024 : Int) < l.length
  all_goals first | (exfalso; omega) | skip
  all_goals clear h
  all_goals go_enter Tryd.func37, Tryd.ntmps37
  all_goals go_wp2
  all_goals go_ret2
  all_goals exact ⟨_, rfl, OwnD.nil _ _, Below.refl _ _⟩

def RProofI (l : List (List UInt8)) (i : Nat) (w : World) (iv ov lv : Value) (wr : World) : Prop :=
  ∃ (cur out : List (List UInt8)) (k : Nat), iv = .int .i64 (k : Int) ∧ Digs wr lv cur ∧ k < cur.length ∧ cur.length ≤ 1024 ∧ out.length + cur.length ≤ 2048 ∧ OwnD wr w.heap.size ov out ∧ (∀ k, ov.ownBlock = some k → lv.ownBlock ≠ some k) ∧ proofL l i = out ++ proofL cur k ∧ Below w.heap.size w wr

theorem Digs.grown {w w' : World} {row : Option Nat} {v : Value} {l : List (List UInt8)} (h : Digs w v l) (hg : w.grownBy w' row) (hne : ∀ k, v.ownBlock = some k → some k ≠ row) : Digs w' v l := ⟨h.1, h.2.of_kept hg hne⟩
theorem Digs.blk {w : World} {b off n c : Nat} {l : List (List UInt8)} (h : Digs w (.slice (some ⟨b, off, none⟩) n c) l) (h0 : 0 < l.length) : b < w.heap.size := (h.digAt h0).lt

theorem rproof_fin {l cur out out2 : List (List UInt8)} {i k : Nat} {w w2 : World} {v6 v2 : Value} {a : Option Addr} {cc : Nat} (hlt : 1 < cur.length) (hi : k < cur.length) (hlen : cur.length ≤ 1024) (hout : out.length + cur.length ≤ 2048) (hl3 : out2.length ≤ out.length + 1) (hl2 : Digs w2 v2 (aboveL cur)) (ho : OwnD w2 w.heap.size v6 out2)
    (hne : ∀ k, v6.ownBlock = some k → v2.ownBlock ≠ some k) (HE : proofL l i = out2 ++ proofL (aboveL cur) (k / 2)) (hb : Below w.heap.size w w2) : RProofI l i w (.int .i64 ((k : Int) / 2)) v6 v2 w2 ∧ lenV v2 < lenV (.slice a cur.length cc) := by
  have hal := aboveL_len cur
  refine ⟨⟨aboveL cur, out2, k / 2, by simp, hl2, by omega, by omega, by omega, ho, hne, HE, hb⟩, ?_⟩
  obtain ⟨a2, c2, rfl⟩ := hl2.len
  show (aboveL cur).length < cur.length
  omega

set_option maxRecDepth 100000 in
set_option maxHeartbeats 3200000 in
theorem RProof_yes (v : Value) (l : List (List UInt8)) (i : Nat) (w : World) (hl : Digs w v l) (hi : i < l.length) (hlen : l.length ≤ 1024) :
    Calls Tryd.prog 37 #[v, .int .i64 (i : Int)] w (ProofPost w (proofL l i, 0)) := by
  obtain ⟨va, vc, hv⟩ := hl.len
  subst hv
  have c2 : ¬ (l.length : Int) ≤ i := by omega
  have c3 : ¬ (1024 : Int) < l.length := by omega
  go_enter Tryd.func37, Tryd.ntmps37
  go_wp2
  go_loopw [1, 6, 7] (RProofI l i w) (fun _ _ lv _ => lenV lv)
  case atStart => exact ⟨l, [], i, rfl, hl, hi, hlen, by simp; omega, OwnD.nil _ _, (fun k h => by cases h), by simp, Below.refl _ _⟩
  case round =>
    clear hl hi hlen c2 c3
    obtain ⟨cur, out, k, rfl, hl, hi, hlen, hout, ho, hne, hp, hb⟩ := hrel
    have hsz := hb.size
    obtain ⟨ca, cc, hv⟩ := hl.len
    subst hv
    obtain ⟨oa, oc, hv⟩ := ho.digs.len
    subst hv
    by_cases hlt : 1 < cur.length
    · have t1 : (1 : Int) < (cur.length : Int) := by omega
      obtain ⟨b, off, c, hv⟩ := hl.shape (by omega)
      obtain ⟨rfl, rfl⟩ : ca = some ⟨b, off, none⟩ ∧ cc = c := by cases hv; exact ⟨rfl, rfl⟩
      clear hv
      have hstep := proofL_step hlt k
      have hal := aboveL_len cur
      have finish : ∀ out', out ++ stepP cur k = out' → proofL l i = out' ++ proofL (aboveL cur) (k / 2) := fun out' e => by
        rw [hp, hstep, ← e, List.append_assoc]
      have HF := Lib.hid finish
      have HAL := Lib.hid hal
      have hbz : besideZ cur.length k = if k % 2 = 1 then (k : Int) - 1 else if k + 1 < cur.length then (k : Int) + 1 else -1 := rfl
      have hsp : stepP cur k = if 0 ≤ besideZ cur.length k then [cur.getD (besideZ cur.length k).toNat []] else [] := rfl
      clear finish hal hstep hp
      by_cases h2 : k % 2 = 1
      · rw [if_pos h2] at hbz
        rw [hbz, if_pos (by omega), show ((k : Int) - 1).toNat = k - 1 by omega] at hsp
        have t2 : (k : Int) % 2 = 1 := by omega
        have t3 : (0 : Int) ≤ (k : Int) - 1 := by omega
        have t4 : (k : Int) - 1 < (cur.length : Int) := by omega
        have t5 : ((k : Int) - 1).toNat = k - 1 := by omega
        have h1 := hl.digAt (i := k - 1) (by omega)
        have HSP := Lib.hid hsp
        clear hsp hbz h2
        generalize cur.getD (k - 1) [] = d at *
        go_wp2_with (first
          | ((with_reducible apply wpList_load_at (ty := 25) (x := .tmp _)); rfl; rfl; rfl; assumption)
          | ((with_reducible refine wpList_buildDigs (op := ⟨_, Op.buildSlice 31 1 _, _, _, _, _⟩) 1 #[(0, .tmp 33)] [d] ?_ ?_ ?_ ?_ ?_ ?_ ?_ ?_); rfl; rfl; rfl; simp; simp; (intro x hx; simp at hx; rw [hx]; exact h1.1); (simp only [List.map_toArray, List.map_cons, List.map_nil]; rfl); intro w7 ho7 hb7 hs7; refine wpList_appD rfl (.tmp 28) (.tmp 34) 31 rfl w.heap.size Tryd.underlying31 _ _ rfl (ho.of_new hb7) _ [d] rfl ho7.digs (by simp; omega) (by omega) ?_; intro v6 w6 ho6 hg6 hv6; have hb6 : Below w.heap.size w w6 := (below_next' hb hb7).grown hg6 (by omega) (fun j hj => ((ho.of_new hb7).lt j hj).1); have hl6 : Digs w6 (.slice (some ⟨b, off, none⟩) cur.length cc) cur := (hl.of_new hb7).grown hg6 (fun k e e2 => hne k e2.symm (by rw [← e])); clear hg6 ho7 ho))
        refine (Above_any _ cur _ hl6 (by omega)).mono ?_
        rintro e w2 ⟨v2, rfl, ho2, hb2⟩
        have HE := Lib.hid (HF.out _ (by rw [HSP.out]))
        have hne2 : ∀ k, v6.ownBlock = some k → v2.ownBlock ≠ some k := fun k e e2 => by have := (ho6.lt k e).2; have := (ho2.lt k e2).1; omega
        have ho6' := ho6.of_new hb2
        have hl2 := ho2.digs
        clear ho2 ho6 HF HSP
        have hl3 : (out ++ [d]).length ≤ out.length + 1 := by simp
        have hB2 := below_next' hb6 hb2 (by have := hb6.size; omega)
        generalize out ++ [d] = out2 at *
        go_wp2
        exact rproof_fin hlt hi hlen hout hl3 hl2 ho6' hne2 HE.out hB2
      · rw [if_neg h2] at hbz
        have t2 : (k : Int) % 2 = 0 := by omega
        by_cases h3 : k + 1 < cur.length
        · rw [if_pos h3] at hbz
          rw [hbz, if_pos (by omega), show ((k : Int) + 1).toNat = k + 1 by omega] at hsp
          have t3 : (0 : Int) ≤ (k : Int) + 1 := by omega
          have t4 : (k : Int) + 1 < (cur.length : Int) := by omega
          have t5 : ((k : Int) + 1).toNat = k + 1 := by omega
          have h1 := hl.digAt (i := k + 1) (by omega)
          have HSP := Lib.hid hsp
          clear hsp hbz h2
          generalize cur.getD (k + 1) [] = d at *
          go_wp2_with (first
            | ((with_reducible apply wpList_load_at (ty := 25) (x := .tmp _)); rfl; rfl; rfl; assumption)
            | ((with_reducible refine wpList_buildDigs (op := ⟨_, Op.buildSlice 31 1 _, _, _, _, _⟩) 1 #[(0, .tmp 46)] [d] ?_ ?_ ?_ ?_ ?_ ?_ ?_ ?_); rfl; rfl; rfl; simp; simp; (intro x hx; simp at hx; rw [hx]; exact h1.1); (simp only [List.map_toArray, List.map_cons, List.map_nil]; rfl); intro w7 ho7 hb7 hs7; refine wpList_appD rfl (.tmp 41) (.tmp 47) 31 rfl w.heap.size Tryd.underlying31 _ _ rfl (ho.of_new hb7) _ [d] rfl ho7.digs (by simp; omega) (by omega) ?_; intro v6 w6 ho6 hg6 hv6; have hb6 : Below w.heap.size w w6 := (below_next' hb hb7).grown hg6 (by omega) (fun j hj => ((ho.of_new hb7).lt j hj).1); have hl6 : Digs w6 (.slice (some ⟨b, off, none⟩) cur.length cc) cur := (hl.of_new hb7).grown hg6 (fun k e e2 => hne k e2.symm (by rw [← e])); clear hg6 ho7 ho))
          refine (Above_any _ cur _ hl6 (by omega)).mono ?_
          rintro e w2 ⟨v2, rfl, ho2, hb2⟩
          have HE := Lib.hid (HF.out _ (by rw [HSP.out]))
          have hne2 : ∀ k, v6.ownBlock = some k → v2.ownBlock ≠ some k := fun k e e2 => by have := (ho6.lt k e).2; have := (ho2.lt k e2).1; omega
          have ho6' := ho6.of_new hb2
          have hl2 := ho2.digs
          clear ho2 ho6 HF HSP
          have hl3 : (out ++ [d]).length ≤ out.length + 1 := by simp
          have hB2 := below_next' hb6 hb2 (by have := hb6.size; omega)
          generalize out ++ [d] = out2 at *
          go_wp2
          exact rproof_fin hlt hi hlen hout hl3 hl2 ho6' hne2 HE.out hB2
        · rw [if_neg h3] at hbz
          rw [hbz, if_neg (by omega)] at hsp
          have t4 : ¬ (k : Int) + 1 < (cur.length : Int) := by omega
          have HSP := Lib.hid hsp
          clear hsp hbz h2 h3
          go_wp2_with fail
          refine (Above_any _ cur _ hl (by omega)).mono ?_
          rintro e w2 ⟨v2, rfl, ho2, hb2⟩
          have HE := Lib.hid (HF.out out (by rw [HSP.out, List.append_nil]))
          have hne2 : ∀ k, (Value.slice oa out.length oc).ownBlock = some k → v2.ownBlock ≠ some k := fun k e e2 => by have := (ho.lt k e).2; have := (ho2.lt k e2).1; omega
          have ho6' := ho.of_new hb2
          have hl2 := ho2.digs
          clear ho2 ho HF HSP
          have hB2 := below_next' hb hb2 (by have := hb.size; omega)
          go_wp2
          exact rproof_fin hlt hi hlen hout (by omega) hl2 ho6' hne2 HE.out hB2
    · have t1 : ¬ (1 : Int) < (cur.length : Int) := by omega
      rw [proofL_end (by omega) k hi, List.append_nil] at hp
      have HP := Lib.hid hp
      clear hp
      go_wp2
      go_ret2
      refine ⟨_, rfl, ?_, hb⟩
      rw [HP.out]
      exact ho

theorem RProof_any (v : Value) (l : List (List UInt8)) (i : Int) (w : World) (hl : Digs w v l) (hi1 : -9223372036854775808 ≤ i) (hi2 : i ≤ 9223372036854775807) :
    Calls Tryd.prog 37 #[v, .int .i64 i] w (ProofPost w (proofE l i)) := by
  unfold proofE
  by_cases h : 0 ≤ i ∧ i < l.length ∧ l.length ≤ 1024
  · rw [if_pos h]
    obtain ⟨j, rfl⟩ : ∃ j : Nat, i = (j : Int) := ⟨i.toNat, by omega⟩
    exact RProof_yes v l j w hl (by omega) (by omega)
  · rw [if_neg h]
    exact RProof_no v l i w hl h hi1 hi2

end Go.Proofs.YtnomekfemadpeaaDoor

/- The walk of the document's answer's Check. No condition beyond the arguments' sizes. -/
namespace Go.Proofs.YtnomekfemadpeaaDoor
open Go.RowKit
set_option linter.unusedVariables false
set_option linter.unusedSimpArgs false

theorem upP_cons (n i : Nat) (r : List (Nat × Nat)) (x : List UInt8) (p : List (List UInt8)) : upP ((n, i) :: r) x p = if besideZ n i < 0 then upP r x p else if i % 2 = 1 then upP r (nodeL (p.getD 0 []) x) p.tail else upP r (nodeL x (p.getD 0 [])) p.tail := rfl

def RCheckI (w : World) (root fin : List UInt8) (g : Nat) (nv iv rv : Value) (wr : World) : Prop :=
  ∃ (a b : Nat) (rest : List (List UInt8)) (x : List UInt8), nv = .int .i64 (a : Int) ∧ iv = .int .i64 (b : Int) ∧ Digs w rv rest ∧ Octs wr g 25 x ∧ x.length = 32 ∧ (upP (walkN a b) x rest).1 = fin ∧ rest.length = cntP (walkN a b) ∧
    b < a ∧ a ≤ 1024 ∧ Octs wr w.heap.size 25 root ∧ Below w.heap.size w wr ∧ w.heap.size < g ∧ g < wr.heap.size

theorem rcheck_fin {w w7 : World} {root fin y : List UInt8} {g a b : Nat} {rest2 : List (List UInt8)} {v2 : Value} (hlt : 1 < a) (ha : a ≤ 1024) (hb : b < a) (hl2 : Digs w v2 rest2) (hy : Octs w7 g 25 y) (h32 : y.length = 32)
    (hf : (upP (walkN ((a + 1) / 2) (b / 2)) y rest2).1 = fin) (hc : rest2.length = cntP (walkN ((a + 1) / 2) (b / 2))) (hr : Octs w7 w.heap.size 25 root) (hB : Below w.heap.size w w7) (hg : w.heap.size < g) (hg2 : g < w7.heap.size) :
    RCheckI w root fin g (.int .i64 (((a : Int) + 1) / 2)) (.int .i64 ((b : Int) / 2)) v2 w7 ∧ (intOf (.int .i64 (((a : Int) + 1) / 2))).toNat < (intOf (.int .i64 (a : Int))).toNat :=
  ⟨⟨(a + 1) / 2, b / 2, rest2, y, by simp, by simp, hl2, hy, h32, hf, hc, by omega, by omega, hr, hB, hg, hg2⟩, by simp [intOf]; omega⟩

set_option maxRecDepth 100000 in
set_option maxHeartbeats 3200000 in
theorem RCheck_any (root leaf : List UInt8) (n i : Int) (v : Value) (proof : List (List UInt8)) (w : World) (hroot : root.length = 32) (hleaf : leaf.length = 32) (hp : Digs w v proof) (n1 : -9223372036854775808 ≤ n) (n2 : n ≤ 9223372036854775807) (i1 : -9223372036854775808 ≤ i) (i2 : i ≤ 9223372036854775807) :
    Calls Tryd.prog 47 #[.agg (root.map B8).toArray, .int .i64 n, .int .i64 i, .agg (leaf.map B8).toArray, v] w fun e w' => e = .returned (.bool (checkL root n i leaf proof)) ∧ Below w.heap.size w w' := by
  obtain ⟨va, vc, hv⟩ := hp.len
  subst hv
  have hle := hp.le
  unfold maxLen at hle
  have hgd := guard_dig
  have hcl : checkL root n i leaf proof = (rightB n i && decide (proof.length = depthZ n i) && decide ((upP (walkN n.toNat i.toNat) leaf proof).1 = root)) := rfl
  have hdz : depthZ n i = if rightB n i then cntP (walkN n.toNat i.toNat) else 0 := rfl
  have hrb : rightB n i = decide (n ≥ 1 ∧ n ≤ 1024 ∧ i ≥ 0 ∧ i < n) := rfl
  by_cases hr : 1 ≤ n ∧ n ≤ 1024 ∧ 0 ≤ i ∧ i < n
  case neg =>
    have h0 : checkL root n i leaf proof = false := by
      rw [hcl, hrb]
      have : decide (n ≥ 1 ∧ n ≤ 1024 ∧ i ≥ 0 ∧ i < n) = false := by simp; omega
      rw [this]; rfl
    have H0 := Lib.hid h0
    clear hcl hdz hrb h0
    by_cases c1 : n < 1
    all_goals by_cases c2 : 1024 < n
    all_goals by_cases c3 : i < 0
    all_goals by_cases c4 : n ≤ i
    all_goals first | (exfalso; omega) | skip
    all_goals clear hr
    all_goals go_enter Tryd.func47, Tryd.ntmps47
    all_goals go_wp2
    all_goals go_ret
    all_goals exact ⟨by rw [H0.out]; rfl, ((Below.refl _ w).alloc (Nat.le_refl _) _).alloc (by simp) _⟩
  case pos =>
    obtain ⟨p1, p2, p3, p4⟩ := hr
    have hrt : rightB n i = true := by rw [hrb]; simp; omega
    rw [hrt] at hcl hdz
    rw [if_pos rfl] at hdz
    have c1 : ¬ n < 1 := by omega
    have c2 : ¬ (1024 : Int) < n := by omega
    have c3 : ¬ i < 0 := by omega
    have c4 : ¬ n ≤ i := by omega
    have hD := fun w => RDepth_any n i w n1 n2 i1 i2
    by_cases hpd : proof.length = depthZ n i
    case neg =>
      have t1 : ((proof.length : Int) != (depthZ n i : Int)) = true := by simp; omega
      have ha : checkL root n i leaf proof = false := by rw [hcl]; simp [hpd]
      have HA := Lib.hid ha
      clear hcl hdz hrb ha hpd hrt
      generalize depthZ n i = D at *
      go_enter Tryd.func47, Tryd.ntmps47
      go_wp2_with fail
      refine (hD _).mono ?_
      rintro e w5 ⟨rfl, hb5⟩
      clear hD
      go_wp2
      go_ret
      exact ⟨by rw [HA.out]; rfl, (((Below.refl _ w).alloc (Nat.le_refl _) _).alloc (by simp) _).trans (hb5.mono (by simp; omega))⟩
    have t1 : ((proof.length : Int) != (depthZ n i : Int)) = false := by simp; omega
    have ha : checkL root n i leaf proof = decide ((upP (walkN n.toNat i.toNat) leaf proof).1 = root) := by rw [hcl]; simp [hpd]
    have hpc : proof.length = cntP (walkN n.toNat i.toNat) := by rw [hpd, hdz]
    have HA := Lib.hid ha
    have HPC := Lib.hid hpc
    clear hcl hdz hrb ha hpd hpc hrt
    generalize depthZ n i = D at *
    obtain ⟨N, rfl⟩ : ∃ N : Nat, n = (N : Int) := ⟨n.toNat, by omega⟩
    obtain ⟨j, rfl⟩ : ∃ j : Nat, i = (j : Int) := ⟨i.toNat, by omega⟩
    simp only [Int.toNat_natCast] at HA HPC
    obtain ⟨fin, hfin⟩ : ∃ f, (upP (walkN N j) leaf proof).1 = f := ⟨_, rfl⟩
    have ha' : checkL root N j leaf proof = decide (fin = root) := by subst hfin; exact HA.out
    clear HA
    have HA := Lib.hid ha'
    have HF := Lib.hid hfin
    clear hfin ha'
    have hbox := boxes_two w root leaf hroot hleaf
    have hoc : Octs ((w.alloc (.cells (root.map B8).toArray 25)).alloc (.cells (leaf.map B8).toArray 25)) w.heap.size 25 root := (Below.heap_alloc _ _ _ (by simp)).trans (heap_alloc_new w _)
    go_enter Tryd.func47, Tryd.ntmps47
    go_wp2_with fail
    generalize hW1 : (w.alloc _).alloc _ = w1 at *
    obtain ⟨hr1, hl1, hb1⟩ := hbox
    clear hW1
    refine (hD _).mono ?_
    rintro e w5 ⟨rfl, hb5⟩
    clear hD
    replace hl1 := hl1.of_new hb5
    replace hoc := hoc.of_block (hb5.block _ hr1.lt)
    have hB5 := below_next' hb1 hb5 hb1.size
    have hg5 : w.heap.size < w5.heap.size := by have := hr1.lt; have := hb5.size; omega
    clear hr1 hb1 hb5
    go_wp2_with (first
      | ((with_reducible apply wpList_load_at (ty := 25) (x := .tmp _)); rfl; rfl; rfl; assumption)
      | ((with_reducible refine wpList_store_fresh (op := ⟨none, Op.store 25 (.tmp 11) (.tmp 36), _, _, _, _⟩) (.tmp 11) (.tmp 36) (leaf) ?_ ?_ ?_ ?_ ?_ ?_ ?_); rfl; rfl; rfl; rfl; rfl; exact hleaf; intro w6 hx6 ho6 hb6 hz6))
    replace hoc := hoc.of_block (hb6.block _ hg5)
    have hB6 := below_next' hB5 hb6 (by omega)
    clear hl1 hx6 hb6
    obtain ⟨g, hg⟩ : ∃ g, g = w5.heap.size := ⟨_, rfl⟩
    rw [← hg] at ho6 hz6 hg5 ⊢
    clear hg hB5
    go_loopw [1, 2, 12] (RCheckI w root fin g) (fun nv _ _ _ => (intOf nv).toNat)
    case atStart => exact ⟨N, j, proof, leaf, rfl, rfl, hp, ho6, hleaf, HF.out, HPC.out, by omega, by omega, hoc, hB6, hg5, hz6⟩
    case round =>
      clear hoc hB6 hz6 ho6 hp HF HPC t1
      obtain ⟨a, b, rest, x, rfl, rfl, hp, ho, hx32, hf, hc, hba, ha, hoc, hB, hg5, hz6⟩ := hrel
      have hxa := ho.digAt hx32
      by_cases hlt : 1 < a
      · have t1 : (1 : Int) < a := by omega
        rw [walkN_step hlt ha] at hf hc
        rw [upP_cons] at hf
        rw [cntP_cons] at hc
        dsimp only at hc
        have hbz : besideZ a b = if b % 2 = 1 then (b : Int) - 1 else if b + 1 < a then (b : Int) + 1 else -1 := rfl
        by_cases hz : besideZ a b < 0
        · rw [if_pos hz] at hf
          rw [if_neg (by omega)] at hc
          have hev : b % 2 ≠ 1 := by intro h; rw [if_pos h] at hbz; omega
          have hno : ¬ b + 1 < a := by intro h; rw [if_neg hev, if_pos h] at hbz; omega
          have t2 : (b : Int) % 2 = 0 := by omega
          have t3 : ¬ (b : Int) + 1 < a := by omega
          have HF := Lib.hid hf
          have HC := Lib.hid (show rest.length = cntP (walkN ((a + 1) / 2) (b / 2)) by omega)
          clear hf hc hbz hz hev
          go_wp2
          exact rcheck_fin hlt ha hba hp ho hx32 HF.out HC.out hoc hB hg5 hz6
        · rw [if_neg hz] at hf
          rw [if_pos (by omega)] at hc
          obtain ⟨rb, roff, rc, hv⟩ := hp.shape (by omega)
          subst hv
          have hd1 := (hp.of_new hB).digAt (i := 0) (by omega)
          rw [Nat.zero_mul, Nat.add_zero] at hd1
          obtain ⟨v2, hr2, hl2, _⟩ := hp.part (some (.int .i64 1)) none 1 rest.length (by omega) (by omega) (.inr ⟨_, rfl⟩) (.inl ⟨rfl, rfl⟩)
          have e1 : (rest.drop 1).take (rest.length - 1) = rest.tail := by rw [List.take_of_length_le (by simp)]; simp
          rw [e1] at hl2
          have htl : rest.tail.length = cntP (walkN ((a + 1) / 2) (b / 2)) := by simp; omega
          have hrl : (0 : Int) < (rest.length : Int) := by omega
          have hrn : 0 < rest.length := by omega
          have HC := Lib.hid htl
          have hrle : rest.length ≤ 9223372036854775807 := by have := hp.le; unfold maxLen at this; omega
          clear e1 htl hc
          by_cases hodd : b % 2 = 1
          · rw [if_pos hodd] at hf
            have HF := Lib.hid hf
            have t2 : (b : Int) % 2 = 1 := by omega
            clear hf hbz hz
            generalize rest.getD 0 [] = d at *
            generalize rest.tail = rest2 at *
            obtain ⟨a2', c2', hv⟩ := hl2.len
            subst hv
            go_upto_region 7 with (fail)
            refine wp_region_grew_tail 5 (by kernel_rfl) (by kernel_rfl) ?_
            simp only [List.take_succ_cons, List.take_zero, List.drop_succ_cons, List.drop_zero]
            repeat (first
              | (go_big_quiet_want; (with_reducible apply quiet_load_at (ty := 25) (x := .tmp _)); rfl; rfl; assumption; go_simp; go_big_quiet_on)
              | (go_big_quiet_want; apply quiet_val; (intro w' hw'; go_simp; first | done | rfl); go_simp; go_big_quiet_on)
              | (go_big_quiet_want; apply quiet_call (f := 50); (intro w' hw'; go_simp; first | done | rfl); (intro w' hw'; exact Grew.call hw' (RNode_any _ _ w' hd1.1 hx32)); go_simp; go_big_quiet_on)
              | (go_big_quiet_skip))
            refine wpQuiet_nil ?_
            intro w6 hw6
            refine wpList_plain rfl fun K hK => wp_store_dig (.tmp 11) (.tmp 47) g x (nodeL d x) rfl rfl rfl (ho.of_block (hw6.block _ (by omega))) hx32 (nodeL_len _ _) fun w7 hx7 hg7 => hK _ _ ?_
            have b7 := (hoc.of_block (hw6.block _ (by omega))).of_block (hg7.block _ (by have := hw6.size; omega) (by simp; omega))
            have b8 : Below w.heap.size w w7 := (below_next' hB hw6 (by omega)).grown hg7 (by have := hw6.size; omega) (fun j e => by cases e; omega)
            have b9 : g < w7.heap.size := by have := hw6.size; have := hg7.size; omega
            clear hw6 hg7 hB hoc hz6 ho hxa hd1
            go_wp2
            exact rcheck_fin hlt ha hba hl2 hx7 (nodeL_len _ _) HF.out HC.out b7 b8 hg5 b9
          · rw [if_neg hodd] at hf
            have HF := Lib.hid hf
            have t2 : (b : Int) % 2 = 0 := by omega
            have hlt2 : b + 1 < a := by
              by_cases h : b + 1 < a
              · exact h
              · rw [if_neg hodd, if_neg h] at hbz; omega
            have t3 : (b : Int) + 1 < a := by omega
            clear hf hbz hz
            generalize rest.getD 0 [] = d at *
            generalize rest.tail = rest2 at *
            obtain ⟨a2', c2', hv⟩ := hl2.len
            subst hv
            go_upto_region 10 with (fail)
            refine wp_region_grew_tail 5 (by kernel_rfl) (by kernel_rfl) ?_
            simp only [List.take_succ_cons, List.take_zero, List.drop_succ_cons, List.drop_zero]
            repeat (first
              | (go_big_quiet_want; (with_reducible apply quiet_load_at (ty := 25) (x := .tmp _)); rfl; rfl; assumption; go_simp; go_big_quiet_on)
              | (go_big_quiet_want; apply quiet_val; (intro w' hw'; go_simp; first | done | rfl); go_simp; go_big_quiet_on)
              | (go_big_quiet_want; apply quiet_call (f := 50); (intro w' hw'; go_simp; first | done | rfl); (intro w' hw'; exact Grew.call hw' (RNode_any _ _ w' hx32 hd1.1)); go_simp; go_big_quiet_on)
              | (go_big_quiet_skip))
            refine wpQuiet_nil ?_
            intro w6 hw6
            refine wpList_plain rfl fun K hK => wp_store_dig (.tmp 11) (.tmp 58) g x (nodeL x d) rfl rfl rfl (ho.of_block (hw6.block _ (by omega))) hx32 (nodeL_len _ _) fun w7 hx7 hg7 => hK _ _ ?_
            have b7 := (hoc.of_block (hw6.block _ (by omega))).of_block (hg7.block _ (by have := hw6.size; omega) (by simp; omega))
            have b8 : Below w.heap.size w w7 := (below_next' hB hw6 (by omega)).grown hg7 (by have := hw6.size; omega) (fun j e => by cases e; omega)
            have b9 : g < w7.heap.size := by have := hw6.size; have := hg7.size; omega
            clear hw6 hg7 hB hoc hz6 ho hxa hd1
            go_wp2
            exact rcheck_fin hlt ha hba hl2 hx7 (nodeL_len _ _) HF.out HC.out b7 b8 hg5 b9
      · have t1 : ¬ (1 : Int) < a := by omega
        rw [walkN_end (by omega)] at hf
        simp only [upP] at hf
        subst hf
        have hx2 := hoc.digAt hroot
        have heq := run_eql_dig x root hx32 hroot
        clear ho hoc
        go_wp2_with ((with_reducible apply wpList_load_at (ty := 25) (x := .tmp _)); rfl; rfl; rfl; assumption)
        go_ret
        exact ⟨by rw [HA.out]; rfl, hB⟩

end Go.Proofs.YtnomekfemadpeaaDoor

/- The walks of Piece, of manifest and of the document's answer: whether bytes are a piece, by a proof. Conditions: the table of constants as the program lays it (manifest's). -/
namespace Go.Proofs.YtnomekfemadpeaaDoor
open Go.RowKit
set_option linter.unusedVariables false
set_option linter.unusedSimpArgs false
set_option maxRecDepth 100000

def pieceB (x : BlobL) (i : Int) (b : List UInt8) (proof : List (List UInt8)) : Bool :=
  decide ((spanZ x.size x.piece i).2.2 = 0) && decide ((b.length : Int) = (spanZ x.size x.piece i).2.1) && checkL x.root (mcountB x.size x.piece) i (leafL b) proof
theorem span_n (x : BlobL) (i : Int) (h : (spanZ x.size x.piece i).2.2 = 0) : (spanZ x.size x.piece i).2.1 ≤ 16384 := by
  unfold spanZ at *
  split at h
  · simp at h
  · rename_i hc
    rw [if_neg hc]
    obtain ⟨_, _, _, q3, q4⟩ := span_parts (n := x.size) (k := x.piece) (i := i) (by omega) (by omega)
    dsimp only
    omega
theorem mcount_range (x : BlobL) : -9223372036854775808 ≤ mcountB x.size x.piece ∧ mcountB x.size x.piece ≤ 9223372036854775807 := by
  unfold mcountB
  split
  · rename_i h
    obtain ⟨q1, q2, q3, q4, q5⟩ := right_parts h
    have := count_pos q1 q3
    omega
  · omega

set_option maxHeartbeats 3200000 in
theorem Piece_any (x : BlobL) (i : Int) (v : Value) (b : List UInt8) (u : Value) (proof : List (List UInt8)) (w : World) (hx : x.ok) (hi1 : -9223372036854775808 ≤ i) (hi2 : i ≤ 9223372036854775807) (hl : Bytes w v b) (hp : Digs w u proof) (hKc : Consts w) :
    Calls Tryd.prog 24 #[BlobV x, .int .i64 i, v, u] w fun e w' => e = .returned (.bool (pieceB x i b proof)) ∧ Below w.heap.size w w' := by
  obtain ⟨va, vc, hv⟩ := hl.len
  subst hv
  obtain ⟨ua, uc, hv⟩ := hp.len
  subst hv
  have hle := hl.le
  have HL := Lib.hid hl
  have HP := Lib.hid hp
  clear hl hp
  rw [show BlobV x = .agg x.cells.toArray from rfl]
  obtain ⟨E, hE⟩ : ∃ E, pieceB x i b proof = E := ⟨_, rfl⟩
  rw [hE]
  have HE := Lib.hid hE
  clear hE
  have hS := fun w' => Span_any x i w' hx hi1 hi2
  have hC := fun w' => Count_any x w' hx
  have hpe : pieceB x i b proof = (decide ((spanZ x.size x.piece i).2.2 = 0) && decide ((b.length : Int) = (spanZ x.size x.piece i).2.1) && checkL x.root (mcountB x.size x.piece) i (leafL b) proof) := rfl
  have hsn := span_n x i
  have hcr := mcount_range x
  generalize mcountB x.size x.piece = c at hC hpe hcr
  generalize spanZ x.size x.piece i = S at hS hpe hsn
  obtain ⟨s1, s2, s3⟩ := S
  dsimp only at hS hpe hsn
  have HS := Lib.hid hS
  have HC := Lib.hid hC
  have HPE := Lib.hid hpe
  clear hS hC hpe
  go_enter Tryd.func24, Tryd.ntmps24
  go_upto_region 1 with (fail)
  obtain ⟨W, hW⟩ : ∃ W, w.alloc (.cells x.cells.toArray 27) = W := ⟨_, rfl⟩
  have hbo := blob_alloc w hx
  have hb0 : Below w.heap.size w (w.alloc (.cells x.cells.toArray 27)) := (Below.refl _ w).alloc (Nat.le_refl _) _
  rw [hW] at hbo hb0 ⊢
  have HBO0 := Lib.hid hbo
  clear hW hbo
  go_wp2_with ((with_reducible refine wpList_plain (o := ⟨some 13, Op.load 27 _, _, _, _, _⟩) rfl fun K hK => ?_); (refine wp_load_blob (g := w.heap.size) (x := x) rfl rfl HBO0.out (hK _ _ ?_)))
  refine (HS.out W).mono ?_
  rintro e w2 ⟨rfl, hb2⟩
  have hbA := below_next hb0 hb2
  have HBO := Lib.hid (HBO0.out.of_new hb2)
  have hroot := HBO.out.root
  clear hb0 hb2 HBO0
  by_cases h3 : s3 = 0
  · subst h3
    have t0 : ((0 : Int) == 0) = true := rfl
    by_cases h2 : (b.length : Int) = s2
    · have t1 : ((b.length : Int) == s2) = true := beq_iff_eq.2 h2
      have hbl : b.length ≤ 1048576 := by have := hsn rfl; omega
      have hd1 : decide ((b.length : Int) = s2) = true := decide_eq_true h2
      have HPE2 : Hid (pieceB x i b proof = checkL x.root c i (leafL b) proof) := Lib.hid (by rw [HPE.out, hd1]; simp)
      have hLf := fun w' (h : Below w2.heap.size w2 w') => Leaf_any (.slice va b.length vc) b w' (HL.out.of_new (below_next hbA h)) hbl (hKc.of_new (below_next hbA h))
      have hCk := fun w' (h : Below w2.heap.size w2 w') => Check_any x.root (leafL b) c i (.slice ua proof.length uc) proof w' hx.2 (leafL_len b) (HP.out.of_new (below_next hbA h)) (hKc.of_new (below_next hbA h))
      have HLf := Lib.hid hLf
      have HCk := Lib.hid hCk
      clear hLf hCk hd1 h2
      generalize checkL x.root c i (leafL b) proof = R at *
      go_upto_region 2 with (fail)
      refine wp_region_grew (by kernel_rfl) (by kernel_rfl) ?_
      repeat (first
        | (go_big_quiet_want; (with_reducible apply quiet_load_blob (p := .tmp 4)); rfl; rfl; exact HBO.out; go_simp; go_big_quiet_on)
        | (go_big_quiet_want; (with_reducible apply quiet_load_at (ty := 25) (x := .tmp _)); rfl; rfl; assumption; go_simp; go_big_quiet_on)
        | (go_big_quiet_want; apply quiet_val; (intro w' hw'; go_simp; first | done | rfl); go_simp; go_big_quiet_on)
        | (go_big_quiet_want; apply quiet_call (f := 21); (intro w' hw'; go_simp; first | done | rfl); (intro w' hw'; exact Grew.call hw' (HC.out w')); go_simp; go_big_quiet_on)
        | (go_big_quiet_want; apply quiet_call (f := 46); (intro w' hw'; go_simp; first | done | rfl); (intro w' hw'; exact Grew.call hw' (HLf.out w' hw')); go_simp; go_big_quiet_on)
        | (go_big_quiet_want; apply quiet_call (f := 45); (intro w' hw'; go_simp; first | done | rfl); (intro w' hw'; exact Grew.call hw' (HCk.out w' hw')); go_simp; go_big_quiet_on)
        | (go_big_quiet_skip))
      refine wpQuiet_nil ?_
      intro w9 hw9
      go_wp2
      go_ret
      exact ⟨ret_bool (by rw [← HE.out, HPE2.out]), below_next hbA hw9⟩
    · have t1 : ((b.length : Int) == s2) = false := beq_eq_false_iff_ne.2 h2
      have HPE2 : Hid (pieceB x i b proof = false) := Lib.hid (by rw [HPE.out, decide_eq_false h2]; simp)
      clear h2
      go_upto_region 2 with (fail)
      refine wp_region_grew (by kernel_rfl) (by kernel_rfl) ?_
      repeat (first
        | (go_big_quiet_want; (with_reducible apply quiet_load_at (ty := 25) (x := .tmp _)); rfl; rfl; assumption; go_simp; go_big_quiet_on)
        | (go_big_quiet_want; apply quiet_val; (intro w' hw'; go_simp; first | done | rfl); go_simp; go_big_quiet_on)
        | (go_big_quiet_skip))
      refine wpQuiet_nil ?_
      intro w9 hw9
      go_wp2
      go_ret
      exact ⟨ret_bool (by rw [← HE.out, HPE2.out]), below_next hbA hw9⟩
  · have t0 : (s3 == 0) = false := beq_eq_false_iff_ne.2 h3
    have HPE2 : Hid (pieceB x i b proof = false) := Lib.hid (by rw [HPE.out, decide_eq_false h3]; simp)
    clear h3
    go_upto_region 2 with (fail)
    refine wp_region_grew (by kernel_rfl) (by kernel_rfl) ?_
    repeat (first
      | (go_big_quiet_want; (with_reducible apply quiet_load_at (ty := 25) (x := .tmp _)); rfl; rfl; assumption; go_simp; go_big_quiet_on)
      | (go_big_quiet_want; apply quiet_val; (intro w' hw'; go_simp; first | done | rfl); go_simp; go_big_quiet_on)
      | (go_big_quiet_skip))
    refine wpQuiet_nil ?_
    intro w9 hw9
    go_wp2
    go_ret
    exact ⟨ret_bool (by rw [← HE.out, HPE2.out]), below_next hbA hw9⟩

set_option maxHeartbeats 3200000 in
theorem RPiece_any (x : BlobL) (i : Int) (v : Value) (b : List UInt8) (u : Value) (proof : List (List UInt8)) (w : World) (hx : x.ok) (hi1 : -9223372036854775808 ≤ i) (hi2 : i ≤ 9223372036854775807) (hl : Bytes w v b) (hp : Digs w u proof) :
    Calls Tryd.prog 25 #[BlobV x, .int .i64 i, v, u] w fun e w' => e = .returned (.bool (pieceB x i b proof)) ∧ Below w.heap.size w w' := by
  obtain ⟨va, vc, hv⟩ := hl.len
  subst hv
  obtain ⟨ua, uc, hv⟩ := hp.len
  subst hv
  have hle := hl.le
  have HL := Lib.hid hl
  have HP := Lib.hid hp
  clear hl hp
  rw [show BlobV x = .agg x.cells.toArray from rfl]
  obtain ⟨E, hE⟩ : ∃ E, pieceB x i b proof = E := ⟨_, rfl⟩
  rw [hE]
  have HE := Lib.hid hE
  clear hE
  have hS := fun w' => RSpan_any x i w' hx hi1 hi2
  have hC := fun w' => RCount_any x w' hx
  have hpe : pieceB x i b proof = (decide ((spanZ x.size x.piece i).2.2 = 0) && decide ((b.length : Int) = (spanZ x.size x.piece i).2.1) && checkL x.root (mcountB x.size x.piece) i (leafL b) proof) := rfl
  have hsn := span_n x i
  have hcr := mcount_range x
  generalize mcountB x.size x.piece = c at hC hpe hcr
  generalize spanZ x.size x.piece i = S at hS hpe hsn
  obtain ⟨s1, s2, s3⟩ := S
  dsimp only at hS hpe hsn
  have HS := Lib.hid hS
  have HC := Lib.hid hC
  have HPE := Lib.hid hpe
  clear hS hC hpe
  go_enter Tryd.func25, Tryd.ntmps25
  go_upto_region 1 with (fail)
  obtain ⟨W, hW⟩ : ∃ W, w.alloc (.cells x.cells.toArray 27) = W := ⟨_, rfl⟩
  have hbo := blob_alloc w hx
  have hb0 : Below w.heap.size w (w.alloc (.cells x.cells.toArray 27)) := (Below.refl _ w).alloc (Nat.le_refl _) _
  rw [hW] at hbo hb0 ⊢
  have HBO0 := Lib.hid hbo
  clear hW hbo
  go_wp2_with ((with_reducible refine wpList_plain (o := ⟨some 13, Op.load 27 _, _, _, _, _⟩) rfl fun K hK => ?_); (refine wp_load_blob (g := w.heap.size) (x := x) rfl rfl HBO0.out (hK _ _ ?_)))
  refine (HS.out W).mono ?_
  rintro e w2 ⟨rfl, hb2⟩
  have hbA := below_next hb0 hb2
  have HBO := Lib.hid (HBO0.out.of_new hb2)
  have hroot := HBO.out.root
  clear hb0 hb2 HBO0
  by_cases h3 : s3 = 0
  · subst h3
    have t0 : ((0 : Int) == 0) = true := rfl
    by_cases h2 : (b.length : Int) = s2
    · have t1 : ((b.length : Int) == s2) = true := beq_iff_eq.2 h2
      have hbl : b.length ≤ 1048576 := by have := hsn rfl; omega
      have hd1 : decide ((b.length : Int) = s2) = true := decide_eq_true h2
      have HPE2 : Hid (pieceB x i b proof = checkL x.root c i (leafL b) proof) := Lib.hid (by rw [HPE.out, hd1]; simp)
      have hLf := fun w' (h : Below w2.heap.size w2 w') => RLeaf_any (.slice va b.length vc) b w' (HL.out.of_new (below_next hbA h)) hbl
      have hCk := fun w' (h : Below w2.heap.size w2 w') => RCheck_any x.root (leafL b) c i (.slice ua proof.length uc) proof w' hx.2 (leafL_len b) (HP.out.of_new (below_next hbA h)) hcr.1 hcr.2 hi1 hi2
      have HLf := Lib.hid hLf
      have HCk := Lib.hid hCk
      clear hLf hCk hd1 h2
      generalize checkL x.root c i (leafL b) proof = R at *
      go_upto_region 2 with (fail)
      refine wp_region_grew (by kernel_rfl) (by kernel_rfl) ?_
      repeat (first
        | (go_big_quiet_want; (with_reducible apply quiet_load_blob (p := .tmp 4)); rfl; rfl; exact HBO.out; go_simp; go_big_quiet_on)
        | (go_big_quiet_want; (with_reducible apply quiet_load_at (ty := 25) (x := .tmp _)); rfl; rfl; assumption; go_simp; go_big_quiet_on)
        | (go_big_quiet_want; apply quiet_val; (intro w' hw'; go_simp; first | done | rfl); go_simp; go_big_quiet_on)
        | (go_big_quiet_want; apply quiet_call (f := 22); (intro w' hw'; go_simp; first | done | rfl); (intro w' hw'; exact Grew.call hw' (HC.out w')); go_simp; go_big_quiet_on)
        | (go_big_quiet_want; apply quiet_call (f := 26); (intro w' hw'; go_simp; first | done | rfl); (intro w' hw'; exact Grew.call hw' (HLf.out w' hw')); go_simp; go_big_quiet_on)
        | (go_big_quiet_want; apply quiet_call (f := 47); (intro w' hw'; go_simp; first | done | rfl); (intro w' hw'; exact Grew.call hw' (HCk.out w' hw')); go_simp; go_big_quiet_on)
        | (go_big_quiet_skip))
      refine wpQuiet_nil ?_
      intro w9 hw9
      go_wp2
      go_ret
      exact ⟨ret_bool (by rw [← HE.out, HPE2.out]), below_next hbA hw9⟩
    · have t1 : ((b.length : Int) == s2) = false := beq_eq_false_iff_ne.2 h2
      have HPE2 : Hid (pieceB x i b proof = false) := Lib.hid (by rw [HPE.out, decide_eq_false h2]; simp)
      clear h2
      go_upto_region 2 with (fail)
      refine wp_region_grew (by kernel_rfl) (by kernel_rfl) ?_
      repeat (first
        | (go_big_quiet_want; (with_reducible apply quiet_load_at (ty := 25) (x := .tmp _)); rfl; rfl; assumption; go_simp; go_big_quiet_on)
        | (go_big_quiet_want; apply quiet_val; (intro w' hw'; go_simp; first | done | rfl); go_simp; go_big_quiet_on)
        | (go_big_quiet_skip))
      refine wpQuiet_nil ?_
      intro w9 hw9
      go_wp2
      go_ret
      exact ⟨ret_bool (by rw [← HE.out, HPE2.out]), below_next hbA hw9⟩
  · have t0 : (s3 == 0) = false := beq_eq_false_iff_ne.2 h3
    have HPE2 : Hid (pieceB x i b proof = false) := Lib.hid (by rw [HPE.out, decide_eq_false h3]; simp)
    clear h3
    go_upto_region 2 with (fail)
    refine wp_region_grew (by kernel_rfl) (by kernel_rfl) ?_
    repeat (first
      | (go_big_quiet_want; (with_reducible apply quiet_load_at (ty := 25) (x := .tmp _)); rfl; rfl; assumption; go_simp; go_big_quiet_on)
      | (go_big_quiet_want; apply quiet_val; (intro w' hw'; go_simp; first | done | rfl); go_simp; go_big_quiet_on)
      | (go_big_quiet_skip))
    refine wpQuiet_nil ?_
    intro w9 hw9
    go_wp2
    go_ret
    exact ⟨ret_bool (by rw [← HE.out, HPE2.out]), below_next hbA hw9⟩

end Go.Proofs.YtnomekfemadpeaaDoor

/- The walks of Whole, of manifest and of the document's answer: whether bytes are all. Conditions: the table of constants as the program lays it (manifest's). -/
namespace Go.Proofs.YtnomekfemadpeaaDoor
open Go.RowKit
set_option linter.unusedVariables false
set_option linter.unusedSimpArgs false
set_option maxRecDepth 100000

def wholeB (x : BlobL) (b : List UInt8) : Bool := decide ((blobE b x.piece).2 = 0) && decide (x = (blobE b x.piece).1)

set_option maxHeartbeats 1600000 in
theorem Whole_any (x : BlobL) (v : Value) (b : List UInt8) (w : World) (hx : x.ok) (hl : Bytes w v b) (hKc : Consts w) :
    Calls Tryd.prog 16 #[BlobV x, v] w fun e w' => e = .returned (.bool (wholeB x b)) ∧ Below w.heap.size w w' := by
  obtain ⟨va, vc, hv⟩ := hl.len
  subst hv
  have HL := Lib.hid hl
  clear hl
  rw [show BlobV x = .agg x.cells.toArray from rfl]
  obtain ⟨E, hE⟩ : ∃ E, wholeB x b = E := ⟨_, rfl⟩
  rw [hE]
  have HE := Lib.hid hE
  clear hE
  go_enter Tryd.func16, Tryd.ntmps16
  go_upto_region 1 with (fail)
  obtain ⟨W, hW⟩ : ∃ W, w.alloc (.cells x.cells.toArray 27) = W := ⟨_, rfl⟩
  have hbo := blob_alloc w hx
  have hb0 : Below w.heap.size w (w.alloc (.cells x.cells.toArray 27)) := (Below.refl _ w).alloc (Nat.le_refl _) _
  rw [hW] at hbo hb0 ⊢
  have hp := hbo.piece
  have hgl := hbo.lt
  clear hW
  go_wp2_with fail
  refine (Blob_any _ b x.piece W (HL.out.of_new hb0) (hKc.of_new hb0)).mono ?_
  rintro e w2 ⟨rfl, hb2⟩
  have hbA := below_next hb0 hb2
  have HBO := Lib.hid (hbo.of_new hb2)
  have hok := blobE_ok b x.piece
  have hew : wholeB x b = (decide ((blobE b x.piece).2 = 0) && decide (x = (blobE b x.piece).1)) := rfl
  have HEW := Lib.hid (hew.symm.trans HE.out)
  clear hew hbo hb2 hp
  generalize hB : blobE b x.piece = B at *
  obtain ⟨y, i⟩ := B
  dsimp only at hok HEW ⊢
  have hqe := run_eql_blob x y hx hok
  have hgb := fun p q w' => run_guard_blob p q x y w'
  have hs2 := hbA.size
  by_cases hi : i = 0
  · subst hi
    have h0 : ((0 : Int) == 0) = true := rfl
    go_wp2_with (first
      | ((with_reducible refine wpList_plain (o := ⟨none, Op.store 27 _ _, _, _, _, _⟩) rfl fun K hK => ?_); (refine wp_store_blob (.tmp 5) (.tmp 12) w2.heap.size y BlobL.zero rfl rfl rfl hok ⟨heap_alloc_new _ _, BlobL.zero_ok⟩ fun w3 hx3 hg3 hs3 => hK _ _ ?_); have hb3 : Below w2.heap.size w2 w3 := ((Below.refl _ w2).alloc (Nat.le_refl _) _).grown hg3 (by simp) (fun r e => by cases e; omega); have HX3 := Lib.hid hx3; have HB3 := Lib.hid hb3; clear hx3 hg3 hs3 hb3)
      | ((with_reducible refine wpList_met (o := ⟨some 17, _, _, _, _, _⟩) ?_ ?_); rfl; intro K hK; refine wp_load_blob (g := w.heap.size) (x := x) rfl rfl (HBO.out.of_new HB3.out) (hK _ _ ?_))
      | ((with_reducible refine wpList_met (o := ⟨some 18, _, _, _, _, _⟩) ?_ ?_); rfl; intro K hK; refine wp_load_blob (g := w2.heap.size) (x := y) rfl rfl HX3.out (hK _ _ ?_)))
    go_ret
    exact ⟨ret_bool (by rw [← HEW.out]; simp), below_next hbA HB3.out⟩
  · have h0 : (i == 0) = false := by simp [hi]
    have HE2 : Hid (E = false) := Lib.hid (by rw [← HEW.out]; simp [hi])
    clear hi
    go_wp2_with ((with_reducible refine wpList_plain (o := ⟨none, Op.store 27 _ _, _, _, _, _⟩) rfl fun K hK => ?_); (refine wp_store_blob (.tmp 5) (.tmp 12) w2.heap.size y BlobL.zero rfl rfl rfl hok ⟨heap_alloc_new _ _, BlobL.zero_ok⟩ fun w3 hx3 hg3 hs3 => hK _ _ ?_); have hb3 : Below w2.heap.size w2 w3 := ((Below.refl _ w2).alloc (Nat.le_refl _) _).grown hg3 (by simp) (fun r e => by cases e; omega); have HX3 := Lib.hid hx3; have HB3 := Lib.hid hb3; clear hx3 hg3 hs3 hb3)
    go_ret
    exact ⟨ret_bool (by rw [HE2.out]), below_next hbA HB3.out⟩

set_option maxHeartbeats 1600000 in
theorem RWhole_any (x : BlobL) (v : Value) (b : List UInt8) (w : World) (hx : x.ok) (hl : Bytes w v b) :
    Calls Tryd.prog 23 #[BlobV x, v] w fun e w' => e = .returned (.bool (wholeB x b)) ∧ Below w.heap.size w w' := by
  obtain ⟨va, vc, hv⟩ := hl.len
  subst hv
  have HL := Lib.hid hl
  clear hl
  rw [show BlobV x = .agg x.cells.toArray from rfl]
  obtain ⟨E, hE⟩ : ∃ E, wholeB x b = E := ⟨_, rfl⟩
  rw [hE]
  have HE := Lib.hid hE
  clear hE
  go_enter Tryd.func23, Tryd.ntmps23
  go_upto_region 1 with (fail)
  obtain ⟨W, hW⟩ : ∃ W, w.alloc (.cells x.cells.toArray 27) = W := ⟨_, rfl⟩
  have hbo := blob_alloc w hx
  have hb0 : Below w.heap.size w (w.alloc (.cells x.cells.toArray 27)) := (Below.refl _ w).alloc (Nat.le_refl _) _
  rw [hW] at hbo hb0 ⊢
  have hp := hbo.piece
  have hgl := hbo.lt
  clear hW
  go_wp2_with fail
  refine (RBlob_any _ b x.piece W (HL.out.of_new hb0)).mono ?_
  rintro e w2 ⟨rfl, hb2⟩
  have hbA := below_next hb0 hb2
  have HBO := Lib.hid (hbo.of_new hb2)
  have hok := blobE_ok b x.piece
  have hew : wholeB x b = (decide ((blobE b x.piece).2 = 0) && decide (x = (blobE b x.piece).1)) := rfl
  have HEW := Lib.hid (hew.symm.trans HE.out)
  clear hew hbo hb2 hp
  generalize hB : blobE b x.piece = B at *
  obtain ⟨y, i⟩ := B
  dsimp only at hok HEW ⊢
  have hqe := run_eql_blob x y hx hok
  have hgb := fun p q w' => run_guard_blob p q x y w'
  have hs2 := hbA.size
  by_cases hi : i = 0
  · subst hi
    have h0 : ((0 : Int) == 0) = true := rfl
    go_wp2_with (first
      | ((with_reducible refine wpList_plain (o := ⟨none, Op.store 27 _ _, _, _, _, _⟩) rfl fun K hK => ?_); (refine wp_store_blob (.tmp 5) (.tmp 12) w2.heap.size y BlobL.zero rfl rfl rfl hok ⟨heap_alloc_new _ _, BlobL.zero_ok⟩ fun w3 hx3 hg3 hs3 => hK _ _ ?_); have hb3 : Below w2.heap.size w2 w3 := ((Below.refl _ w2).alloc (Nat.le_refl _) _).grown hg3 (by simp) (fun r e => by cases e; omega); have HX3 := Lib.hid hx3; have HB3 := Lib.hid hb3; clear hx3 hg3 hs3 hb3)
      | ((with_reducible refine wpList_met (o := ⟨some 17, _, _, _, _, _⟩) ?_ ?_); rfl; intro K hK; refine wp_load_blob (g := w.heap.size) (x := x) rfl rfl (HBO.out.of_new HB3.out) (hK _ _ ?_))
      | ((with_reducible refine wpList_met (o := ⟨some 18, _, _, _, _, _⟩) ?_ ?_); rfl; intro K hK; refine wp_load_blob (g := w2.heap.size) (x := y) rfl rfl HX3.out (hK _ _ ?_)))
    go_ret
    exact ⟨ret_bool (by rw [← HEW.out]; simp), below_next hbA HB3.out⟩
  · have h0 : (i == 0) = false := by simp [hi]
    have HE2 : Hid (E = false) := Lib.hid (by rw [← HEW.out]; simp [hi])
    clear hi
    go_wp2_with ((with_reducible refine wpList_plain (o := ⟨none, Op.store 27 _ _, _, _, _, _⟩) rfl fun K hK => ?_); (refine wp_store_blob (.tmp 5) (.tmp 12) w2.heap.size y BlobL.zero rfl rfl rfl hok ⟨heap_alloc_new _ _, BlobL.zero_ok⟩ fun w3 hx3 hg3 hs3 => hK _ _ ?_); have hb3 : Below w2.heap.size w2 w3 := ((Below.refl _ w2).alloc (Nat.le_refl _) _).grown hg3 (by simp) (fun r e => by cases e; omega); have HX3 := Lib.hid hx3; have HB3 := Lib.hid hb3; clear hx3 hg3 hs3 hb3)
    go_ret
    exact ⟨ret_bool (by rw [HE2.out]), below_next hbA HB3.out⟩

end Go.Proofs.YtnomekfemadpeaaDoor

/- The walk of chapter 05's awake: it is true. Condition: the table of constants as the program lays it. -/
namespace Go.Proofs.YtnomekfemadpeaaDoor
open Go.RowKit
set_option linter.unusedVariables false
set_option linter.unusedSimpArgs false
set_option maxRecDepth 100000

theorem bytes_block {W : World} {g t : Nat} {bs : List UInt8} (h : Octs W g t bs) (hl : bs.length ≤ 1099511627776) (n : Nat) (hn : bs.length = n) : Bytes W (.slice (some ⟨g, 0, none⟩) n n) bs := by
  subst hn
  refine ⟨by simp, _, bs.length, rfl, Nat.le_refl _, by unfold maxLen; omega, (fun h => by cases h), fun _ => ⟨g, 0, rfl, (Array.getElem?_eq_some_iff.1 h).1, fun j hj => ?_⟩⟩
  rw [Nat.zero_add, h.cell (by omega)]
  rw [List.getElem?_map, List.getElem?_eq_getElem (by omega)]
  simp [List.getD, List.getElem?_eq_getElem (show j < bs.length by omega)]

set_option maxHeartbeats 1600000 in
theorem awake_any (w : World) (hKc : Consts w) : Calls Tryd.prog 10 #[] w fun e w' => e = .returned (.bool true) ∧ Below w.heap.size w w' := by
  go_enter Tryd.func10, Tryd.ntmps10
  obtain ⟨i0, hi, hz0, hz1, hz2⟩ := info_parts infoU8
  go_wp2_with (at_make; (refine wpList_make_row _ rfl (.const (.int .i64 40)) (.const (.int .i64 40)) 22 rfl 5 i0 (.int .u8 0) Tryd.underlying22 hi hz0 hz1 rfl .i64 .i64 40 rfl rfl (by rw [hz2]; omega) (by omega) ?_))
  generalize hW : w.alloc _ = W
  obtain ⟨hO, hb0⟩ : Octs W w.heap.size 5 (List.replicate 40 0) ∧ Below w.heap.size w W := by
    subst hW
    rw [show madeCells #[Value.int .u8 0] 40 = ((List.replicate 40 (0 : UInt8)).map B8).toArray from by kernel_rfl]
    exact ⟨heap_alloc_new _ _, (Below.refl _ w).alloc (Nat.le_refl _) _⟩
  clear hW
  have hby := bytes_block hO (by simp) 40 (by simp)
  obtain ⟨b, hb⟩ : ∃ b, List.replicate 40 (0 : UInt8) = b := ⟨_, rfl⟩
  have hbl : b.length = 40 := by rw [← hb]; simp
  rw [hb] at hby
  clear hO hb
  refine (Blob_any _ b 16 W hby (hKc.of_new hb0)).mono ?_
  rintro e w2 ⟨rfl, hb2⟩
  have hr : mrightB (b.length : Int) 16 = true := by rw [hbl]; decide
  have hE : blobE b 16 = (⟨sumL b, 40, 16, rootL (leavesL b 16)⟩, 0) := by unfold blobE; rw [if_pos hr, hbl]; rfl
  rw [hE]
  have hok : (⟨sumL b, 40, 16, rootL (leavesL b 16)⟩ : BlobL).ok := ⟨sumL_len _, rootL_len (leavesL_32 _ _)⟩
  have hsz : (⟨sumL b, 40, 16, rootL (leavesL b 16)⟩ : BlobL).size = 40 := rfl
  have hpz : (⟨sumL b, 40, 16, rootL (leavesL b 16)⟩ : BlobL).piece = 16 := rfl
  have hbA := below_next hb0 hb2
  generalize (⟨sumL b, 40, 16, rootL (leavesL b 16)⟩ : BlobL) = y at *
  have hs2 := hbA.size
  have hm : mcountB 40 16 = 3 := by decide
  have h0 : ((0 : Int) == 0) = true := rfl
  dsimp only
  clear hr hE hb2 hby hbl
  go_wp2_with (first
    | ((with_reducible refine wpList_plain (o := ⟨none, Op.store 27 _ _, _, _, _, _⟩) rfl fun K hK => ?_); (refine wp_store_blob (.tmp 1) (.tmp 6) w2.heap.size y BlobL.zero rfl rfl rfl hok ⟨heap_alloc_new _ _, BlobL.zero_ok⟩ fun w3 hx3 hg3 hs3 => hK _ _ ?_); have hb3 : Below w2.heap.size w2 w3 := ((Below.refl _ w2).alloc (Nat.le_refl _) _).grown hg3 (by simp) (fun r e => by cases e; omega); have hsz3 := hx3.size; rw [hsz] at hsz3; have HX3 := Lib.hid hx3; have HB3 := Lib.hid hb3; clear hx3 hg3 hs3 hb3)
    | ((with_reducible refine wpList_met (o := ⟨some 16, _, _, _, _, _⟩) ?_ ?_); rfl; intro K hK; refine wp_load_blob (g := w2.heap.size) (x := y) rfl rfl HX3.out (hK _ _ ?_))
    | (go_at_call 21; refine (Count_any y _ hok).mono ?_; rintro e w4 ⟨rfl, hb4⟩; have HB4 := Lib.hid hb4; clear hb4; rw [hsz, hpz, hm]))
  go_ret
  exact ⟨rfl, below_next (below_next hbA HB3.out) HB4.out⟩

end Go.Proofs.YtnomekfemadpeaaDoor

/- Bytes as hashes, padded: the lists that a law's proof is made of; what holds ahead of each round of the loops that make them. No condition. -/
namespace Go.Proofs.YtnomekfemadpeaaDoor
open Go.RowKit
set_option linter.unusedVariables false
set_option linter.unusedSimpArgs false
set_option maxRecDepth 100000

/-- Bytes as a hash: the first 32, or zeros behind them. -/
def pad32 (x : List UInt8) : List UInt8 := x.take 32 ++ List.replicate (32 - x.length) 0
theorem pad32_len (x : List UInt8) : (pad32 x).length = 32 := by unfold pad32; simp; omega
def proofOf (ps : List (List UInt8)) (k : Nat) : List (List UInt8) := ((ps.drop 1).take k).map pad32
theorem proofOf_32 (ps : List (List UInt8)) (k : Nat) : Dig32 (proofOf ps k) := fun d hd => by
  obtain ⟨x, _, rfl⟩ := List.mem_map.1 hd
  exact pad32_len x
theorem proofOf_len {ps : List (List UInt8)} {k : Nat} (h : k + 1 ≤ ps.length) : (proofOf ps k).length = k := by
  unfold proofOf; rw [List.length_map, List.length_take, List.length_drop]; omega
theorem proofOf_step {ps : List (List UInt8)} {k : Nat} (h : k + 1 < ps.length) : proofOf ps (k + 1) = proofOf ps k ++ [pad32 (ps.getD (k + 1) [])] := by
  unfold proofOf
  rw [List.take_add_one, List.map_append]
  congr 1
  rw [List.getElem?_drop, Nat.add_comm 1 k, List.getElem?_eq_getElem h]
  simp [List.getD, List.getElem?_eq_getElem h]

/-- What holds ahead of each round of the outer loop. -/
def PathI (w : World) (ps : List (List UInt8)) (ov kv : Value) (W : World) : Prop :=
  ∃ (k : Nat), kv = .int .i64 ((k + 1 : Nat) : Int) ∧ k + 1 ≤ ps.length ∧ OwnD W w.heap.size ov (proofOf ps k) ∧ Below w.heap.size w W
/-- .. and of the inner one. -/
def PadI (w : World) (g : Nat) (x : List UInt8) (jv : Value) (W : World) : Prop :=
  ∃ (j : Nat), jv = .int .i64 (j : Int) ∧ j ≤ 32 ∧ j ≤ x.length ∧ Octs W g 25 (x.take j ++ List.replicate (32 - j) 0) ∧ Below g w W
theorem pad_step {x : List UInt8} {j : Nat} (h1 : j < 32) (h2 : j < x.length) : (x.take j ++ List.replicate (32 - j) 0).set j (x.getD j 0) = x.take (j + 1) ++ List.replicate (32 - (j + 1)) 0 := by
  rw [List.set_append_right _ _ (by simp; omega)]
  have e : 32 - j = (32 - (j + 1)) + 1 := by omega
  have e2 : x.take (j + 1) = x.take j ++ [x.getD j 0] := by rw [List.take_add_one, List.getElem?_eq_getElem h2]; simp [List.getD, List.getElem?_eq_getElem h2]
  rw [e, List.replicate_succ, show j - (x.take j).length = 0 by simp; omega, List.set_cons_zero, e2, List.append_assoc]
  rfl
theorem pad_end {x : List UInt8} {j : Nat} (h1 : j ≤ 32) (h2 : j ≤ x.length) (h : j = 32 ∨ j = x.length) : x.take j ++ List.replicate (32 - j) 0 = pad32 x := by
  unfold pad32
  rcases h with rfl | rfl
  · rw [show 32 - x.length = 0 by omega]
  · rw [List.take_of_length_le (Nat.le_refl _), List.take_of_length_le h1]

end Go.Proofs.YtnomekfemadpeaaDoor

/- Where a leaf leads to the root, in plain Lean: the proof of a leaf leads there; what leads there is the leaf, or two unlike pairs have one Node. No condition. -/
namespace Go.Proofs.YtnomekfemadpeaaDoor
set_option linter.unusedVariables false

theorem upP_cons' (n i : Nat) (r : List (Nat × Nat)) (x : List UInt8) (p : List (List UInt8)) : upP ((n, i) :: r) x p = if besideZ n i < 0 then upP r x p else if i % 2 = 1 then upP r (nodeL (p.getD 0 []) x) p.tail else upP r (nodeL x (p.getD 0 [])) p.tail := rfl

/-- The place of a row above where a leaf's Node stands. -/
theorem above_odd {l : List (List UInt8)} {i : Nat} (h : i < l.length) (ho : i % 2 = 1) : (aboveL l).getD (i / 2) [] = nodeL (l.getD (i - 1) []) (l.getD i []) := by
  rw [aboveL_at l (i / 2) (by omega), show 2 * (i / 2) = i - 1 by omega, show i - 1 + 1 = i by omega]
theorem above_even {l : List (List UInt8)} {i : Nat} (h : i + 1 < l.length) (ho : ¬ i % 2 = 1) : (aboveL l).getD (i / 2) [] = nodeL (l.getD i []) (l.getD (i + 1) []) := by
  rw [aboveL_at l (i / 2) (by omega), show 2 * (i / 2) = i by omega]
theorem above_end {l : List (List UInt8)} {i : Nat} (h : i < l.length) (ho : ¬ i % 2 = 1) (he : ¬ i + 1 < l.length) : (aboveL l).getD (i / 2) [] = l.getD i [] := by
  have := aboveL_last l (by omega)
  rw [show l.length / 2 = i / 2 by omega, show l.length - 1 = i by omega] at this
  exact this
theorem besideZ_odd {n i : Nat} (h : i < n) (ho : i % 2 = 1) : besideZ n i = ((i - 1 : Nat) : Int) := by unfold besideZ; rw [if_pos ho]; omega
theorem besideZ_even {n i : Nat} (h : i + 1 < n) (ho : ¬ i % 2 = 1) : besideZ n i = ((i + 1 : Nat) : Int) := by unfold besideZ; rw [if_neg ho, if_pos h]; omega
theorem besideZ_end {n i : Nat} (h : ¬ i + 1 < n) (ho : ¬ i % 2 = 1) : besideZ n i = -1 := by unfold besideZ; rw [if_neg ho, if_neg h]

/-- The proof of a leaf leads to the root. -/
theorem leads (n : Nat) : ∀ (l : List (List UInt8)) (i : Nat), l.length ≤ n → i < l.length → l.length ≤ 1024 → (upP (walkN l.length i) (l.getD i []) (proofL l i)).1 = rootL l := by
  induction n with
  | zero => intro l i h1 h2; omega
  | succ n ih =>
    intro l i h1 h2 h3
    by_cases h : 1 < l.length
    · have h4 := ih (aboveL l) (i / 2) (by rw [aboveL_len]; omega) (by rw [aboveL_len]; omega) (by rw [aboveL_len]; omega)
      rw [aboveL_len] at h4
      rw [walkN_step h h3, upP_cons', proofL_step h, rootL_step h, ← h4]
      unfold stepP
      by_cases ho : i % 2 = 1
      · rw [besideZ_odd h2 ho, if_neg (by omega), if_pos ho, if_pos (by omega), above_odd h2 ho]
        simp only [Int.toNat_natCast, List.singleton_append, List.getD_cons_zero, List.tail_cons]
      · by_cases he : i + 1 < l.length
        · rw [besideZ_even he ho, if_neg (by omega), if_neg ho, if_pos (by omega), above_even he ho]
          simp only [Int.toNat_natCast, List.singleton_append, List.getD_cons_zero, List.tail_cons]
        · rw [besideZ_end he ho, if_pos (by omega), if_neg (by omega), above_end h2 ho he]
          rfl
    · rw [walkN_end (by omega), rootL_one (by omega)]
      obtain rfl : i = 0 := by omega
      rfl

/-- What Clash tells. -/
def clashP : Nat → List (List UInt8) → Nat → List UInt8 → List (List UInt8) → Bool
  | 0, _, _, _, _ => false
  | f + 1, l, i, x, r =>
    if l.length ≤ 1 then false
    else if i % 2 = 1 then
      (if (¬ (r.getD 0 [] = l.getD (i - 1) [] ∧ x = l.getD i [])) ∧ nodeL (r.getD 0 []) x = nodeL (l.getD (i - 1) []) (l.getD i []) then true else clashP f (aboveL l) (i / 2) (nodeL (r.getD 0 []) x) r.tail)
    else if i + 1 < l.length then
      (if (¬ (x = l.getD i [] ∧ r.getD 0 [] = l.getD (i + 1) [])) ∧ nodeL x (r.getD 0 []) = nodeL (l.getD i []) (l.getD (i + 1) []) then true else clashP f (aboveL l) (i / 2) (nodeL x (r.getD 0 [])) r.tail)
    else clashP f (aboveL l) (i / 2) x r
def clashL (l : List (List UInt8)) (i : Nat) (x : List UInt8) (r : List (List UInt8)) : Bool := clashP l.length l i x r
theorem clashP_more (f g : Nat) (l : List (List UInt8)) (i : Nat) (x : List UInt8) (r : List (List UInt8)) (hf : l.length ≤ f) (hg : l.length ≤ g) : clashP f l i x r = clashP g l i x r := by
  induction f generalizing g l i x r with
  | zero =>
    cases g with
    | zero => rfl
    | succ g => simp only [clashP]; rw [if_pos (by omega)]
  | succ f ih =>
    cases g with
    | zero => simp only [clashP]; rw [if_pos (by omega)]
    | succ g =>
      simp only [clashP]
      have hi : ∀ y q, 1 < l.length → clashP f (aboveL l) (i / 2) y q = clashP g (aboveL l) (i / 2) y q := fun y q h => ih g _ _ _ _ (by rw [aboveL_len]; omega) (by rw [aboveL_len]; omega)
      split
      · rfl
      · rename_i h
        simp only [hi _ _ (show 1 < l.length by omega)]
theorem clashL_step {l : List (List UInt8)} (h : 1 < l.length) (i : Nat) (x : List UInt8) (r : List (List UInt8)) : clashL l i x r =
    if i % 2 = 1 then
      (if (¬ (r.getD 0 [] = l.getD (i - 1) [] ∧ x = l.getD i [])) ∧ nodeL (r.getD 0 []) x = nodeL (l.getD (i - 1) []) (l.getD i []) then true else clashL (aboveL l) (i / 2) (nodeL (r.getD 0 []) x) r.tail)
    else if i + 1 < l.length then
      (if (¬ (x = l.getD i [] ∧ r.getD 0 [] = l.getD (i + 1) [])) ∧ nodeL x (r.getD 0 []) = nodeL (l.getD i []) (l.getD (i + 1) []) then true else clashL (aboveL l) (i / 2) (nodeL x (r.getD 0 [])) r.tail)
    else clashL (aboveL l) (i / 2) x r := by
  unfold clashL
  obtain ⟨k, hk⟩ : ∃ k, l.length = k + 1 := ⟨l.length - 1, by omega⟩
  rw [hk, clashP, if_neg (by omega), hk]
  simp only [clashP_more k (aboveL l).length (aboveL l) _ _ _ (by rw [aboveL_len]; omega) (Nat.le_refl _)]
theorem clashL_end {l : List (List UInt8)} (h : l.length ≤ 1) (i : Nat) (x : List UInt8) (r : List (List UInt8)) : clashL l i x r = false := by
  unfold clashL
  match l, h with
  | [], _ => rfl
  | [a], _ => rfl

/-- What leads to the root is the leaf that stands there, or Clash finds two unlike pairs. -/
theorem sound (n : Nat) : ∀ (l : List (List UInt8)) (i : Nat) (x : List UInt8) (r : List (List UInt8)), l.length ≤ n → i < l.length → l.length ≤ 1024 → (upP (walkN l.length i) x r).1 = rootL l → x = l.getD i [] ∨ clashL l i x r = true := by
  induction n with
  | zero => intro l i x r h1 h2; omega
  | succ n ih =>
    intro l i x r h1 h2 h3 hu
    by_cases h : 1 < l.length
    · have h4 := fun y q => ih (aboveL l) (i / 2) y q (by rw [aboveL_len]; omega) (by rw [aboveL_len]; omega) (by rw [aboveL_len]; omega)
      rw [aboveL_len] at h4
      rw [walkN_step h h3, upP_cons', rootL_step h] at hu
      rw [clashL_step h]
      by_cases ho : i % 2 = 1
      · rw [besideZ_odd h2 ho, if_neg (by omega), if_pos ho] at hu
        rw [if_pos ho]
        have h5 := h4 _ _ hu
        rw [above_odd h2 ho] at h5
        by_cases hp : r.getD 0 [] = l.getD (i - 1) [] ∧ x = l.getD i []
        · exact .inl hp.2
        · rcases h5 with h5 | h5
          · right; rw [if_pos ⟨hp, h5⟩]
          · right; split
            · rfl
            · exact h5
      · by_cases he : i + 1 < l.length
        · rw [besideZ_even he ho, if_neg (by omega), if_neg ho] at hu
          rw [if_neg ho, if_pos he]
          have h5 := h4 _ _ hu
          rw [above_even he ho] at h5
          by_cases hp : x = l.getD i [] ∧ r.getD 0 [] = l.getD (i + 1) []
          · exact .inl hp.1
          · rcases h5 with h5 | h5
            · right; rw [if_pos ⟨hp, h5⟩]
            · right; split
              · rfl
              · exact h5
        · rw [besideZ_end he ho, if_pos (by omega)] at hu
          rw [if_neg ho, if_neg he]
          have h5 := h4 _ _ hu
          rw [above_end h2 ho he] at h5
          exact h5
    · rw [walkN_end (by omega), rootL_one (by omega)] at hu
      obtain rfl : i = 0 := by omega
      exact .inl hu

end Go.Proofs.YtnomekfemadpeaaDoor

/- The walk of the document's answer's Clash. Conditions: no more than 1024 leaves, a place among them, as many hashes as are needed. -/
namespace Go.Proofs.YtnomekfemadpeaaDoor
open Go.RowKit
set_option linter.unusedVariables false
set_option maxRecDepth 100000
set_option linter.unusedSimpArgs false

/-- Two hashes as one value. -/
def PairV (x y : List UInt8) : Value := .agg ((x ++ y).map B8).toArray
/-- A block that holds two hashes. -/
def PairAt (w : World) (g : Nat) (x y : List UInt8) : Prop := w.heap[g]? = some (.cells ((x ++ y).map B8).toArray 71 (0, 0)) ∧ x.length = 32 ∧ y.length = 32
theorem PairAt.lt {w : World} {g : Nat} {x y : List UInt8} (h : PairAt w g x y) : g < w.heap.size := (Array.getElem?_eq_some_iff.1 h.1).1
theorem PairAt.of_new {w w' : World} {g : Nat} {x y : List UInt8} (h : PairAt w g x y) (hb : Below w.heap.size w w') : PairAt w' g x y := ⟨(hb.block _ h.lt).trans h.1, h.2⟩
theorem PairAt.of_block {w w' : World} {g : Nat} {x y : List UInt8} (h : PairAt w g x y) (hb : w'.heap[g]? = w.heap[g]?) : PairAt w' g x y := ⟨hb.trans h.1, h.2⟩
theorem PairAt.one {w : World} {g : Nat} {x y : List UInt8} (h : PairAt w g x y) : DigAt w g 0 x := (pair_at h.1 h.2.1 h.2.2).1
theorem PairAt.two {w : World} {g : Nat} {x y : List UInt8} (h : PairAt w g x y) : DigAt w g 32 y := (pair_at h.1 h.2.1 h.2.2).2

theorem infoPair : (Tryd.prog.info? 71).map (fun i => (i.zero, i.size, i.bytes)) = some (some (.agg ((List.replicate 64 (0 : UInt8)).map B8).toArray), 64, 64) := by kernel_rfl
theorem sizePair : (Tryd.prog.info? 71).map (·.size) = some 64 := by kernel_rfl

theorem run_build_pair (x y : List UInt8) (hx : x.length = 32) (hy : y.length = 32) (w : World) : (Instr.build 71 #[(0, .agg (x.map B8).toArray), (1, .agg (y.map B8).toArray)]).run Tryd.prog w = .ok (PairV x y) w := by
  obtain ⟨i, hi, hz, hsize, hby⟩ := info_parts infoPair
  obtain ⟨j, hj, hz2, hsize2, hby2⟩ := info_parts infoDig
  have hf := Great.fill_whole (s := 32) (by omega) [.agg (x.map B8).toArray, .agg (y.map B8).toArray] ((List.replicate 64 (0 : UInt8)).map B8).toArray (fun v hv => by
    simp at hv; rcases hv with rfl | rfl <;> simp [Value.cells, hx, hy]) (by simp)
  have hp : (([Value.agg (x.map B8).toArray, .agg (y.map B8).toArray].zipIdx 0).map fun x => (x.2, x.1)) = [(0, .agg (x.map B8).toArray), (1, .agg (y.map B8).toArray)] := rfl
  rw [hp] at hf
  refine run_build w 71 _ _ ?_
  unfold Program.built
  simp only [hi, Tryd.underlying71, hj, hz, hsize2]
  simp only [Value.cells]
  rw [hf]
  simp [Value.cells]

theorem quiet_build_pair {W : World} {o : Oper} {a : Act} {K : Act → Prop} {p q : Operand} {x y : List UInt8} (ho : o.op = .build 71 #[(0, p), (1, q)]) (hp : a.eval p = .agg (x.map B8).toArray) (hq : a.eval q = .agg (y.map B8).toArray)
    (hx : x.length = 32) (hy : y.length = 32) (hK : K (a.put o.dst (PairV x y))) : o.quiet Tryd.prog a (Grew W) K := by
  refine quiet_val (fun w hw => ?_) hK
  have := run_build_pair x y hx hy w
  unfold execOp
  simp only [ho, List.map_toArray, List.map_cons, List.map_nil, hp, hq, Sem.run_bind, this, Result.andThen_ok, Sem.run_pure]

theorem quiet_load_pair {W : World} {o : Oper} {a : Act} {K : Act → Prop} {p : Operand} {g : Nat} {x y : List UInt8} (ho : o.op = .load 71 p) (hp : a.eval p = .pointer (some ⟨g, 0, none⟩)) (h : PairAt W g x y)
    (hK : K (a.put o.dst (PairV x y))) : o.quiet Tryd.prog a (Grew W) K := by
  refine quiet_val (fun w hw => ?_) hK
  have := run_loadVar_row (P := Tryd.prog) w g 71 71 ((x ++ y).map B8).toArray (0, 0) _ (h.of_new hw).1 Tryd.underlying71 rfl (by rw [sizePair]; simp [h.2.1, h.2.2])
  unfold execOp
  simp only [ho, hp, Instr.loadAt, Instr.sureAddr, Sem.run_bind, Sem.run_pure, Result.andThen_ok, this]
  rfl

theorem wp_store_pair {w : World} {op : Oper} {a : Act} {K : Act → World → Prop} {Q : Exit → Act → World → Prop} (p q : Operand) (g : Nat) (x y u v : List UInt8) (ho : op.op = .store 71 p q)
    (hp : a.eval p = .pointer (some ⟨g, 0, none⟩)) (hq : a.eval q = PairV x y) (hx : x.length = 32) (hy : y.length = 32) (hg : PairAt w g u v)
    (h : ∀ w', PairAt w' g x y → w.grownBy w' (some g) → K (a.put op.dst undef) w') : op.wp Tryd.prog a w K Q := by
  have hrun := run_storeVar_row (P := Tryd.prog) w g 71 71 _ ((x ++ y).map B8).toArray hg.1 (by rw [sizePair]; simp [hx, hy]) (by simp [hx, hy, hg.2.1, hg.2.2]) (octs_one _)
  unfold PairV at hq
  unfold Oper.wp execOp
  simp only [ho, hp, hq, Instr.storeAt, Instr.sureAddr, Sem.run_bind, Sem.run_pure, Result.andThen_ok, hrun]
  exact h _ ⟨setRow_heap _ _ _ _ _ _ hg.1, hx, hy⟩ (grown_setRow _ _ _)

theorem run_equalIn_pair (d : Nat) (x y u v : List UInt8) (hx : x.length = 32) (hy : y.length = 32) (hu : u.length = 32) (hv : v.length = 32) (w : World) :
    (Op.equalIn (d + 3) 71 (PairV x y) (PairV u v)).run Tryd.prog w = .ok (decide (x = u ∧ y = v)) w := by
  have hsz : (sizeOf 25).run Tryd.prog w = .ok 32 w := by kernel_rfl
  have hag : (isAgg 25).run Tryd.prog w = .ok true w := by kernel_rfl
  have hp : ∀ (a b : List UInt8), a.length = 32 → b.length = 32 → ∀ i, i < 2 → (part 25 ((a ++ b).map B8).toArray (i * 32)).run Tryd.prog w = .ok (.agg ((if i = 0 then a else b).map B8).toArray) w := by
    intro a b ha hb i hi
    simp only [part, Sem.run_bind, hag, Result.andThen_ok, if_true, hsz, Sem.run_pure]
    congr 2
    apply Array.ext'
    simp only [Array.toList_extract, List.extract_eq_take_drop]
    match i, hi with
    | 0, _ => simp [ha, List.take_append_of_le_length]
    | 1, _ => simp [ha, hb, List.drop_append, List.take_of_length_le (l := b.map B8) (i := 32) (by simp [hb])]
  have hf : decide (x = u ∧ y = v) = (List.range 2).all (fun i => decide ((if i = 0 then x else y) = (if i = 0 then u else v))) := by
    simp [List.range_succ, Bool.decide_and]
  rw [hf]
  unfold PairV
  refine run_equalIn_array (d + 2) 71 25 2 32 _ _ _ Tryd.underlying71 hsz (fun i hi => ⟨_, _, hp x y hx hy i hi, hp u v hu hv i hi, ?_⟩)
  have h32 : ∀ (a b : List UInt8), a.length = 32 → b.length = 32 → (if i = 0 then a else b).length = 32 := fun a b ha hb => by split <;> assumption
  exact run_equalIn_octs d 25 5 _ _ (by rw [h32 x y hx hy, h32 u v hu hv]) (by rw [h32 x y hx hy]; exact Tryd.underlying25) Tryd.underlying5 (by kernel_rfl) (by kernel_rfl)
theorem run_neq_pair (x y u v : List UInt8) (hx : x.length = 32) (hy : y.length = 32) (hu : u.length = 32) (hv : v.length = 32) (w : World) :
    (binOp .neq 71 (PairV x y) (PairV u v)).run Tryd.prog w = .ok (.bool (!decide (x = u ∧ y = v))) w := by
  have := run_equalIn_pair 9997 x y u v hx hy hu hv w
  unfold PairV at this ⊢
  rw [run_neq_struct, this]; rfl
theorem guard_pair : Tryd.prog.eqGuardType Tryd.prog.depth 71 = false := by kernel_rfl

theorem two_pairs (w : World) : PairAt ((w.alloc (.cells ((List.replicate 64 (0 : UInt8)).map B8).toArray 71)).alloc (.cells ((List.replicate 64 (0 : UInt8)).map B8).toArray 71)) w.heap.size (List.replicate 32 0) (List.replicate 32 0) ∧
    PairAt ((w.alloc (.cells ((List.replicate 64 (0 : UInt8)).map B8).toArray 71)).alloc (.cells ((List.replicate 64 (0 : UInt8)).map B8).toArray 71)) (w.heap.size + 1) (List.replicate 32 0) (List.replicate 32 0) ∧
    Below w.heap.size w ((w.alloc (.cells ((List.replicate 64 (0 : UInt8)).map B8).toArray 71)).alloc (.cells ((List.replicate 64 (0 : UInt8)).map B8).toArray 71)) ∧
    ((w.alloc (.cells ((List.replicate 64 (0 : UInt8)).map B8).toArray 71)).alloc (.cells ((List.replicate 64 (0 : UInt8)).map B8).toArray 71)).heap.size = w.heap.size + 2 := by
  refine ⟨⟨(Below.heap_alloc _ _ _ (by simp)).trans (heap_alloc_new _ _), rfl, rfl⟩, ⟨?_, rfl, rfl⟩, ((Below.refl _ w).alloc (Nat.le_refl _) _).alloc (by simp) _, by simp⟩
  have := heap_alloc_new (w.alloc (.cells ((List.replicate 64 (0 : UInt8)).map B8).toArray 71)) (.cells ((List.replicate 64 (0 : UInt8)).map B8).toArray 71)
  rwa [World.size_alloc] at this

def ClashI (w : World) (ans : Bool) (g : Nat) (iv lv rv : Value) (wr : World) : Prop :=
  ∃ (k : Nat) (cur rest : List (List UInt8)) (x : List UInt8), iv = .int .i64 (k : Int) ∧ Digs wr lv cur ∧ (∀ q, lv.ownBlock = some q → q ≠ g) ∧ Digs w rv rest ∧ Octs wr g 25 x ∧ x.length = 32 ∧ k < cur.length ∧ cur.length ≤ 1024 ∧ cntP (walkN cur.length k) ≤ rest.length ∧
    clashL cur k x rest = ans ∧ Below w.heap.size w wr ∧ w.heap.size ≤ g ∧ g < wr.heap.size

theorem clash_fin {w w10 : World} {ans : Bool} {g k : Nat} {v7 v2 : Value} {cur nxt rest2 : List (List UInt8)} {y : List UInt8} {a : Option Addr} {cc : Nat} (hk : k / 2 < nxt.length) (h1 : nxt.length ≤ 1024) (h2 : nxt.length < cur.length) (hl : Digs w10 v7 nxt) (hdj : ∀ q, v7.ownBlock = some q → q ≠ g) (hr : Digs w v2 rest2)
    (hy : Octs w10 g 25 y) (h32 : y.length = 32) (hck : cntP (walkN nxt.length (k / 2)) ≤ rest2.length) (hf : clashL nxt (k / 2) y rest2 = ans) (hB : Below w.heap.size w w10) (hg : w.heap.size ≤ g) (hg2 : g < w10.heap.size) :
    ClashI w ans g (.int .i64 ((k : Int) / 2)) v7 v2 w10 ∧ lenV v7 < lenV (.slice a cur.length cc) := by
  refine ⟨⟨k / 2, nxt, rest2, y, by simp, hl, hdj, hr, hy, h32, hk, h1, hck, hf, hB, hg, hg2⟩, ?_⟩
  obtain ⟨a2, c2, rfl⟩ := hl.len
  exact h2

set_option maxRecDepth 100000 in
set_option maxHeartbeats 6400000 in
theorem Clash_any (v : Value) (l : List (List UInt8)) (i : Nat) (leaf : List UInt8) (u : Value) (proof : List (List UInt8)) (w : World) (hl : Digs w v l) (hi : i < l.length) (hlen : l.length ≤ 1024) (hleaf : leaf.length = 32) (hp : Digs w u proof) (hc : cntP (walkN l.length i) ≤ proof.length) :
    Calls Tryd.prog 27 #[v, .int .i64 (i : Int), .agg (leaf.map B8).toArray, u] w fun e w' => e = .returned (.bool (clashL l i leaf proof)) ∧ Below w.heap.size w w' := by
  obtain ⟨va, vc, hv⟩ := hl.len
  subst hv
  obtain ⟨ua, uc, hv⟩ := hp.len
  subst hv
  have hgd := guard_dig
  have hgp := guard_pair
  obtain ⟨ans, hans⟩ : ∃ a, clashL l i leaf proof = a := ⟨_, rfl⟩
  rw [hans]
  have HA := Lib.hid hans
  clear hans
  have hbx : DigAt (w.alloc (.cells (leaf.map B8).toArray 25)) w.heap.size 0 leaf := Octs.digAt (t := 25) (heap_alloc_new w _) hleaf
  have hbb := (Below.refl w.heap.size w).alloc (Nat.le_refl _) (.cells (leaf.map B8).toArray 25)
  go_enter Tryd.func27, Tryd.ntmps27
  generalize hW1 : (w.alloc (.cells (leaf.map B8).toArray 25)) = w1 at hbx hbb
  have HW := Lib.hid hW1
  clear hW1
  go_wp2_with (first
    | (rw [HW.out]; (with_reducible apply wpList_load_at (ty := 25) (x := .tmp _)); rfl; rfl; rfl; assumption)
    | ((with_reducible refine wpList_store_fresh (op := ⟨none, Op.store 25 (.tmp 10) (.tmp 16), _, _, _, _⟩) (.tmp 10) (.tmp 16) (leaf) ?_ ?_ ?_ ?_ ?_ ?_ ?_); rfl; rfl; rfl; rfl; rfl; exact hleaf; intro w2 hx2 ho2 hb2 hz2))
  have hB2 := below_next' hbb hb2 hbb.size
  have hl2 := hl.of_new hB2
  have hg2 : w.heap.size ≤ w1.heap.size := hbb.size
  have hne0 : ∀ q, (Value.slice va l.length vc).ownBlock = some q → q ≠ w1.heap.size := fun q e => by
    obtain ⟨b, off, c, hv⟩ := hl.shape (by omega)
    cases hv
    have := hl.blk (by omega)
    have e2 : some b = some q := e
    cases e2
    have := hbx.lt
    omega
  obtain ⟨g, hg⟩ : ∃ g, g = w1.heap.size := ⟨_, rfl⟩
  rw [← hg] at ho2 hz2 hg2 hne0 ⊢
  clear hx2 hb2 hbx hbb HW hg hl
  go_loopw [1, 9, 11] (ClashI w ans g) (fun _ lv _ _ => lenV lv)
  case atStart => exact ⟨i, l, proof, leaf, rfl, hl2, hne0, hp, ho2, hleaf, hi, hlen, hc, HA.out, hB2, hg2, hz2⟩
  case round =>
    clear hl2 hne0 hp ho2 hleaf hi hlen hc HA hB2 hg2 hz2
    obtain ⟨k, cur, rest, x, rfl, hl, hdj0, hp, ho', hx32, hi, hlen, hc, hcl, hB, hgg, hz⟩ := hrel
    obtain ⟨ca, cc, hv⟩ := hl.len
    subst hv
    obtain ⟨ra, rcc, hv⟩ := hp.len
    subst hv
    by_cases hlt : 1 < cur.length
    case neg =>
      have t1 : ¬ (1 : Int) < (cur.length : Int) := by omega
      rw [clashL_end (by omega)] at hcl
      have HCL := Lib.hid hcl
      clear hcl
      go_wp2
      go_ret
      exact ⟨by rw [← HCL.out]; rfl, hB⟩
    have t1 : (1 : Int) < (cur.length : Int) := by omega
    obtain ⟨b, off, c, hv⟩ := hl.shape (by omega)
    obtain ⟨rfl, rfl⟩ : ca = some ⟨b, off, none⟩ ∧ cc = c := by cases hv; exact ⟨rfl, rfl⟩
    clear hv
    rw [clashL_step hlt] at hcl
    rw [walkN_step hlt hlen, cntP_cons] at hc
    dsimp only at hc
    have hal := aboveL_len cur
    have HLK := Lib.hid (show k / 2 < (aboveL cur).length ∧ (aboveL cur).length ≤ 1024 ∧ (aboveL cur).length < cur.length by omega)
    have hl0 := hl
    have hxa := ho'.digAt hx32
    by_cases hz3 : besideZ cur.length k < 0
    · have ho : ¬ k % 2 = 1 := fun h => by rw [besideZ_odd hi h] at hz3; omega
      have he : ¬ k + 1 < cur.length := fun h => by rw [besideZ_even h ho] at hz3; omega
      rw [if_neg (by omega)] at hc
      rw [if_neg ho, if_neg he] at hcl
      have t2 : (k : Int) % 2 = 0 := by omega
      have t3 : ¬ (k : Int) + 1 < (cur.length : Int) := by omega
      have HCK := Lib.hid (show cntP (walkN (aboveL cur).length (k / 2)) ≤ rest.length by rw [hal]; omega)
      have HCL := Lib.hid hcl
      clear hcl hc hz3 hal he
      go_wp2_with fail
      generalize hW1 : (wr.alloc _).alloc _ = w1
      obtain ⟨_, _, hb1, hs1⟩ : PairAt w1 wr.heap.size (List.replicate 32 0) (List.replicate 32 0) ∧ PairAt w1 (wr.heap.size + 1) (List.replicate 32 0) (List.replicate 32 0) ∧ Below wr.heap.size wr w1 ∧ w1.heap.size = wr.heap.size + 2 := by
        subst hW1
        exact two_pairs wr
      have HS1 := Lib.hid hs1
      have hx1 := ho'.of_block (hb1.block _ hz)
      replace hl := hl.of_new hb1
      have hB1 := below_next' hB hb1 hB.size
      clear hW1 hs1 hxa hb1
      refine (Above_any _ cur _ hl (by omega)).mono ?_
      rintro e w7 ⟨v7, rfl, ho7, hb7⟩
      have hl7 := ho7.digs
      have hdj : ∀ q, v7.ownBlock = some q → q ≠ g := fun q e => by have := (ho7.lt q e).1; have := HS1.out; omega
      have hx7 := hx1.of_block (hb7.block _ (by have := HS1.out; omega))
      have hB7 := below_next' hB1 hb7 hB1.size
      have hz7 : g < w7.heap.size := by have := hb7.size; have := HS1.out; omega
      have hck := HCK.out
      have hlk := HLK.out
      have hcf := HCL.out
      have HF := Lib.hid hcf
      clear ho7 hb7 hl HCK HLK HCL hcf
      generalize aboveL cur = nxt at *
      obtain ⟨v7a, v7c, hv7⟩ := hl7.len
      subst hv7
      go_wp2
      exact clash_fin hlk.1 hlk.2.1 hlk.2.2 hl7 hdj hp hx7 hx32 hck HF.out hB7 hgg hz7
    · rw [if_pos (by omega)] at hc
      obtain ⟨rb, roff, rc, hv⟩ := hp.shape (by omega)
      obtain ⟨rfl, rfl⟩ : ra = some ⟨rb, roff, none⟩ ∧ rcc = rc := by cases hv; exact ⟨rfl, rfl⟩
      clear hv
      have hd := (hp.of_new hB).digAt (i := 0) (by omega)
      rw [Nat.zero_mul, Nat.add_zero] at hd
      obtain ⟨v2, hr2, hl2, _⟩ := hp.part (some (.int .i64 1)) none 1 rest.length (by omega) (by omega) (.inr ⟨_, rfl⟩) (.inl ⟨rfl, rfl⟩)
      have e1 : (rest.drop 1).take (rest.length - 1) = rest.tail := by rw [List.take_of_length_le (by simp)]; simp
      rw [e1] at hl2
      have HCK := Lib.hid (show cntP (walkN (aboveL cur).length (k / 2)) ≤ rest.tail.length by rw [hal]; simp; omega)
      have hrl : (0 : Int) < (rest.length : Int) := by omega
      have hrn : 0 < rest.length := by omega
      have hrle : rest.length ≤ 9223372036854775807 := by have := hp.le; unfold maxLen at this; omega
      clear e1 hc hal
      by_cases ho : k % 2 = 1
      · have hz4 := hz3
        clear hz3 hz4
        have t2 : (k : Int) % 2 = 1 := by omega
        have t3 : (0 : Int) ≤ (k : Int) - 1 := by omega
        have t4 : (k : Int) - 1 < (cur.length : Int) := by omega
        have t5 : ((k : Int) - 1).toNat = k - 1 := by omega
        have t6 : IntKind.i64.wrap ((k : Int) - 1) = (k : Int) - 1 := IntWalk.i64_in _ (by omega)
        have t7 : (k : Int) < (cur.length : Int) := by omega
        have t8 : (1 : Int) ≤ (k : Int) := by omega
        have t9 : 0 < k := by omega
        have t10 : (k : Int) ≤ (cur.length : Int) := by omega
        have t11 : k ≤ cur.length := by omega
        have t12 : 1 ≤ k := by omega
        rw [if_pos ho] at hcl
        have hd1 := hl.digAt (i := k - 1) (by omega)
        have hd2 := hl.digAt (i := k) (by omega)
        have hd10 := hd1
        have hd20 := hd2
        generalize cur.getD (k - 1) [] = d1 at *
        generalize cur.getD (k) [] = d2 at *
        generalize rest.getD 0 [] = d at *
        generalize rest.tail = rest2 at *
        obtain ⟨v2a, v2c, hv2⟩ := hl2.len
        subst hv2
        have HCL := Lib.hid hcl
        clear hcl
        go_wp2
        generalize hW1 : (wr.alloc _).alloc _ = w1
        obtain ⟨hp1, hp2, hb1, hs1⟩ : PairAt w1 wr.heap.size (List.replicate 32 0) (List.replicate 32 0) ∧ PairAt w1 (wr.heap.size + 1) (List.replicate 32 0) (List.replicate 32 0) ∧ Below wr.heap.size wr w1 ∧ w1.heap.size = wr.heap.size + 2 := by
          subst hW1
          exact two_pairs wr
        have HS1 := Lib.hid hs1
        clear hW1 hs1
        have hx := ho'.of_block (hb1.block _ hz)
        replace hl := hl.of_new hb1
        replace hd1 := hd1.of_new hb1
        replace hd2 := hd2.of_new hb1
        replace hd := hd.of_new hb1
        replace hxa := hxa.of_new hb1
        have hB1 := below_next' hB hb1 hB.size
        refine wp_region_grew_tail 5 (by kernel_rfl) (by kernel_rfl) ?_
        simp only [List.take_succ_cons, List.take_zero, List.drop_succ_cons, List.drop_zero]
        repeat (first
          | (go_big_quiet_want; (with_reducible apply quiet_build_pair (x := d) (y := x)); rfl; rfl; rfl; exact hd.1; exact hx32; go_simp; go_big_quiet_on)
          | (go_big_quiet_want; (with_reducible apply quiet_load_at (ty := 25) (x := .tmp _)); rfl; rfl; assumption; go_simp; go_big_quiet_on)
          | (go_big_quiet_want; apply quiet_val; (intro w' hw'; go_simp; first | done | rfl); go_simp; go_big_quiet_on)
          | (go_big_quiet_skip))
        refine wpQuiet_nil ?_
        intro w3 hw3
        refine wpList_plain rfl fun K hK => wp_store_pair (.tmp 12) (.tmp 29) wr.heap.size (d) (x) _ _ rfl rfl rfl hd.1 hx32 (hp1.of_new hw3) fun w4 hp4 hg4 => hK _ _ ?_
        simp only [Act.put]
        have hb34 : Below wr.heap.size w3 w4 := (Below.refl _ _).grown hg4 (by have := HS1.out; have := Below.size hw3; omega) (fun j e => by cases e; exact Nat.le_refl _)
        have hb14 : Below wr.heap.size wr w4 := (hb1.trans (Below.mono hw3 (by have := HS1.out; omega))).trans hb34
        have hl4 : Digs w4 (.slice (some ⟨b, off, none⟩) cur.length cc) cur := hl0.of_new hb14
        have hd1' : DigAt w4 _ _ d1 := hd10.of_new hb14
        have hd2' : DigAt w4 _ _ d2 := hd20.of_new hb14
        have hx4 := ho'.of_block (hb14.block _ hz)
        have hp24 := (hp2.of_new hw3).of_block (hg4.block _ (by have := HS1.out; have := Below.size hw3; omega) (by simp))
        have hB4 := below_next' hB hb14 hB.size
        have hs4 : wr.heap.size + 2 ≤ w4.heap.size := by have := HS1.out; have := Below.size hw3; have := hg4.size; omega
        clear hw3 hg4 hb34 hp1 hp2 hx hl hd1 hd2 hxa hB1 hb1
        go_wp2
        refine wp_region_grew_tail 10 (by kernel_rfl) (by kernel_rfl) ?_
        simp only [List.take_succ_cons, List.take_zero, List.drop_succ_cons, List.drop_zero]
        repeat (first
          | (go_big_quiet_want; (with_reducible apply quiet_build_pair (x := d1) (y := d2)); rfl; rfl; rfl; exact hd1'.1; exact hd2'.1; go_simp; go_big_quiet_on)
          | (go_big_quiet_want; (with_reducible apply quiet_load_at (ty := 25) (x := .tmp _)); rfl; rfl; assumption; go_simp; go_big_quiet_on)
          | (go_big_quiet_want; apply quiet_val; (intro w' hw'; go_simp; first | done | rfl); go_simp; go_big_quiet_on)
          | (go_big_quiet_skip))
        refine wpQuiet_nil ?_
        intro w5 hw5
        refine wpList_plain rfl fun K hK => wp_store_pair (.tmp 13) (.tmp 39) (wr.heap.size + 1) d1 d2 _ _ rfl rfl rfl hd1'.1 hd2'.1 (hp24.of_new hw5) fun w6 hp6 hg6 => hK _ _ ?_
        simp only [Act.put]
        have hb56 : Below wr.heap.size w5 w6 := (Below.refl _ _).grown hg6 (by have := Below.size hw5; omega) (fun j e => by cases e; omega)
        have hb16 : Below wr.heap.size wr w6 := (hb14.trans (Below.mono hw5 (by omega))).trans hb56
        have hl6 : Digs w6 (.slice (some ⟨b, off, none⟩) cur.length cc) cur := hl0.of_new hb16
        have hx6 := ho'.of_block (hb16.block _ hz)
        have hp46 := (hp4.of_new hw5).of_block (hg6.block _ (by have := Below.size hw5; omega) (by simp))
        have hB6 := below_next' hB hb16 hB.size
        have hs6 : wr.heap.size + 2 ≤ w6.heap.size := by have := Below.size hw5; have := hg6.size; omega
        have h1a := hd1'.1
        have h2a := hd2'.1
        have hda := hd.1
        have H1A := Lib.hid h1a
        have H2A := Lib.hid h2a
        have HDA := Lib.hid hda
        have HXA := Lib.hid hx32
        clear hw5 hg6 hb56 hp24 hl4 hx4 hB4 hd1' hd2' hd hd10 hd20 h1a h2a hda hp4 hx32
        go_wp2_with fail
        refine (Above_any _ cur _ hl6 (by omega)).mono ?_
        rintro e w7 ⟨v7, rfl, ho7, hb7⟩
        have hl7 := ho7.digs
        have hdj : ∀ q, v7.ownBlock = some q → q ≠ g := fun q e => by have := (ho7.lt q e).1; omega
        have hx7 := hx6.of_block (hb7.block _ (by omega))
        replace hp6 := hp6.of_new hb7
        replace hp46 := hp46.of_new hb7
        have hB7 := below_next' hB6 hb7 hB6.size
        have hs7 : wr.heap.size + 2 ≤ w7.heap.size := by have := hb7.size; omega
        clear ho7 hb7 hl6 hx6 hB6
        obtain ⟨v7a, v7c, hv7⟩ := hl7.len
        subst hv7
        have e1 := hp46.one
        have e2 := hp46.two
        have e3 := hp6.one
        have e4 := hp6.two
        have hck : cntP (walkN (aboveL cur).length (k / 2)) ≤ rest2.length := HCK.out
        have hlk : k / 2 < (aboveL cur).length ∧ (aboveL cur).length ≤ 1024 ∧ (aboveL cur).length < cur.length := HLK.out
        have hgx : w.heap.size ≤ g := hgg
        generalize aboveL cur = nxt at *
        by_cases hpe : d = d1 ∧ x = d2
        · have hdec : decide (d = d1 ∧ x = d2) = true := by simp [hpe.1, hpe.2]
          have hneq := run_neq_pair d x d1 d2 HDA.out HXA.out H1A.out H2A.out
          rw [hdec] at hneq
          have hfin := HCL.out
          rw [if_neg (fun h => h.1 hpe)] at hfin
          have HF := Lib.hid hfin
          clear hfin hdec hpe
          go_wp2
          refine wp_region_grew (by kernel_rfl) (by kernel_rfl) ?_
          repeat (first
            | (go_big_quiet_want; (with_reducible apply quiet_load_pair (x := d1) (y := d2)); rfl; rfl; exact hp6; go_simp; go_big_quiet_on)
            | (go_big_quiet_want; (with_reducible apply quiet_load_pair (x := d) (y := x)); rfl; rfl; exact hp46; go_simp; go_big_quiet_on)
            | (go_big_quiet_want; (with_reducible apply quiet_load_at (ty := 25) (x := .tmp _)); rfl; rfl; assumption; go_simp; go_big_quiet_on)
            | (go_big_quiet_want; apply quiet_val; (intro w' hw'; go_simp; first | done | rfl); go_simp; go_big_quiet_on)
            | (go_big_quiet_skip))
          refine wpQuiet_nil ?_
          intro w8 hw8
          have hx8 := hx7.of_block (hw8.block _ (by omega))
          have hl8 := hl7.of_new hw8
          have hB8 := below_next' hB7 hw8 hB7.size
          have hs8 : wr.heap.size + 2 ≤ w8.heap.size := by have := Below.size hw8; omega
          replace e1 := e1.of_new hw8
          replace e2 := e2.of_new hw8
          clear hw8 hl7 hB7 hx7 e3 e4 hneq hp46 hp6
          go_wp2_with ((with_reducible apply wpList_load_at (ty := 25) (x := .tmp _)); rfl; rfl; rfl; assumption)
          refine (RNode_any _ _ _ HDA.out HXA.out).mono ?_
          rintro e w9 ⟨rfl, hb9⟩
          have hx9 := hx8.of_block (hb9.block _ (by omega))
          have hl9 := hl8.of_new hb9
          have hB9 := below_next' hB8 hb9 hB8.size
          have hs9 : wr.heap.size + 2 ≤ w9.heap.size := by have := Below.size hb9; omega
          clear hb9 hl8 hB8 hx8 e1 e2
          go_wp2_with ((with_reducible refine wpList_plain (o := ⟨none, Op.store 25 (.tmp 10) (.tmp 89), _, _, _, _⟩) ?_ ?_); rfl; (intro K hK; refine wp_store_dig (.tmp 10) (.tmp 89) g x (nodeL d x) rfl rfl rfl hx9 HXA.out (nodeL_len _ _) (fun w10 hx10 hg10 => hK _ _ ?_)); simp only [Act.put])
          exact clash_fin hlk.1 hlk.2.1 hlk.2.2 (hl9.grown hg10 (fun q e e2 => hdj q e (Option.some.inj e2))) hdj hl2 hx10 (nodeL_len _ _) hck HF.out (hB9.grown hg10 hB9.size (fun j e => by cases e; exact hgx)) hgx (by have := hg10.size; omega)
        · have hdec : decide (d = d1 ∧ x = d2) = false := decide_eq_false hpe
          have hneq := run_neq_pair d x d1 d2 HDA.out HXA.out H1A.out H2A.out
          rw [hdec] at hneq
          have heql := run_eql_dig (nodeL d x) (nodeL d1 d2) (nodeL_len _ _) (nodeL_len _ _)
          have hfin := HCL.out
          by_cases hnn : nodeL d x = nodeL d1 d2
          · rw [if_pos ⟨hpe, hnn⟩] at hfin
            rw [decide_eq_true hnn] at heql
            have HF := Lib.hid hfin
            clear hfin hdec hpe hnn
            go_wp2
            refine wp_region_grew (by kernel_rfl) (by kernel_rfl) ?_
            repeat (first
              | (go_big_quiet_want; (with_reducible apply quiet_load_pair (x := d1) (y := d2)); rfl; rfl; exact hp6; go_simp; go_big_quiet_on)
              | (go_big_quiet_want; (with_reducible apply quiet_load_pair (x := d) (y := x)); rfl; rfl; exact hp46; go_simp; go_big_quiet_on)
              | (go_big_quiet_want; (with_reducible apply quiet_load_at (ty := 25) (x := .tmp _)); rfl; rfl; assumption; go_simp; go_big_quiet_on)
              | (go_big_quiet_want; apply quiet_val; (intro w' hw'; go_simp; first | done | rfl); go_simp; go_big_quiet_on)
              | (go_big_quiet_want; apply quiet_call (f := 50); (intro w' hw'; go_simp; first | done | rfl); (intro w' hw'; exact Grew.call hw' (RNode_any _ _ w' HDA.out HXA.out)); go_simp; go_big_quiet_on)
              | (go_big_quiet_want; apply quiet_call (f := 50); (intro w' hw'; go_simp; first | done | rfl); (intro w' hw'; exact Grew.call hw' (RNode_any _ _ w' H1A.out H2A.out)); go_simp; go_big_quiet_on)
              | (go_big_quiet_skip))
            refine wpQuiet_nil ?_
            intro w8 hw8
            have hB8 := below_next' hB7 hw8 hB7.size
            go_wp2
            go_ret
            exact ⟨by rw [← HF.out]; rfl, hB8⟩
          · rw [if_neg (fun h => hnn h.2)] at hfin
            rw [decide_eq_false hnn] at heql
            have HF := Lib.hid hfin
            clear hfin hdec hpe hnn
            go_wp2
            refine wp_region_grew (by kernel_rfl) (by kernel_rfl) ?_
            repeat (first
              | (go_big_quiet_want; (with_reducible apply quiet_load_pair (x := d1) (y := d2)); rfl; rfl; exact hp6; go_simp; go_big_quiet_on)
              | (go_big_quiet_want; (with_reducible apply quiet_load_pair (x := d) (y := x)); rfl; rfl; exact hp46; go_simp; go_big_quiet_on)
              | (go_big_quiet_want; (with_reducible apply quiet_load_at (ty := 25) (x := .tmp _)); rfl; rfl; assumption; go_simp; go_big_quiet_on)
              | (go_big_quiet_want; apply quiet_val; (intro w' hw'; go_simp; first | done | rfl); go_simp; go_big_quiet_on)
              | (go_big_quiet_want; apply quiet_call (f := 50); (intro w' hw'; go_simp; first | done | rfl); (intro w' hw'; exact Grew.call hw' (RNode_any _ _ w' HDA.out HXA.out)); go_simp; go_big_quiet_on)
              | (go_big_quiet_want; apply quiet_call (f := 50); (intro w' hw'; go_simp; first | done | rfl); (intro w' hw'; exact Grew.call hw' (RNode_any _ _ w' H1A.out H2A.out)); go_simp; go_big_quiet_on)
              | (go_big_quiet_skip))
            refine wpQuiet_nil ?_
            intro w8 hw8
            have hx8 := hx7.of_block (hw8.block _ (by omega))
            have hl8 := hl7.of_new hw8
            have hB8 := below_next' hB7 hw8 hB7.size
            have hs8 : wr.heap.size + 2 ≤ w8.heap.size := by have := Below.size hw8; omega
            replace e1 := e1.of_new hw8
            replace e2 := e2.of_new hw8
            clear hw8 hl7 hB7 hx7 e3 e4 hneq heql hp46 hp6
            go_wp2_with ((with_reducible apply wpList_load_at (ty := 25) (x := .tmp _)); rfl; rfl; rfl; assumption)
            refine (RNode_any _ _ _ HDA.out HXA.out).mono ?_
            rintro e w9 ⟨rfl, hb9⟩
            have hx9 := hx8.of_block (hb9.block _ (by omega))
            have hl9 := hl8.of_new hb9
            have hB9 := below_next' hB8 hb9 hB8.size
            have hs9 : wr.heap.size + 2 ≤ w9.heap.size := by have := Below.size hb9; omega
            clear hb9 hl8 hB8 hx8 e1 e2
            go_wp2_with ((with_reducible refine wpList_plain (o := ⟨none, Op.store 25 (.tmp 10) (.tmp 89), _, _, _, _⟩) ?_ ?_); rfl; (intro K hK; refine wp_store_dig (.tmp 10) (.tmp 89) g x (nodeL d x) rfl rfl rfl hx9 HXA.out (nodeL_len _ _) (fun w10 hx10 hg10 => hK _ _ ?_)); simp only [Act.put])
            exact clash_fin hlk.1 hlk.2.1 hlk.2.2 (hl9.grown hg10 (fun q e e2 => hdj q e (Option.some.inj e2))) hdj hl2 hx10 (nodeL_len _ _) hck HF.out (hB9.grown hg10 hB9.size (fun j e => by cases e; exact hgx)) hgx (by have := hg10.size; omega)
      · have he : k + 1 < cur.length := by
          by_cases h : k + 1 < cur.length
          · exact h
          · rw [besideZ_end h ho] at hz3; omega
        clear hz3
        have t2 : (k : Int) % 2 = 0 := by omega
        have t3 : (k : Int) + 1 < (cur.length : Int) := by omega
        have t4 : (0 : Int) ≤ (k : Int) + 1 := by omega
        have t5 : ((k : Int) + 1).toNat = k + 1 := by omega
        have t6 : IntKind.i64.wrap ((k : Int) + 1) = (k : Int) + 1 := IntWalk.i64_in _ (by omega)
        have t7 : (k : Int) < (cur.length : Int) := by omega
        rw [if_neg ho, if_pos he] at hcl
        have hd1 := hl.digAt (i := k) (by omega)
        have hd2 := hl.digAt (i := k + 1) (by omega)
        have hd10 := hd1
        have hd20 := hd2
        generalize cur.getD (k) [] = d1 at *
        generalize cur.getD (k + 1) [] = d2 at *
        generalize rest.getD 0 [] = d at *
        generalize rest.tail = rest2 at *
        obtain ⟨v2a, v2c, hv2⟩ := hl2.len
        subst hv2
        have HCL := Lib.hid hcl
        clear hcl
        go_wp2
        generalize hW1 : (wr.alloc _).alloc _ = w1
        obtain ⟨hp1, hp2, hb1, hs1⟩ : PairAt w1 wr.heap.size (List.replicate 32 0) (List.replicate 32 0) ∧ PairAt w1 (wr.heap.size + 1) (List.replicate 32 0) (List.replicate 32 0) ∧ Below wr.heap.size wr w1 ∧ w1.heap.size = wr.heap.size + 2 := by
          subst hW1
          exact two_pairs wr
        have HS1 := Lib.hid hs1
        clear hW1 hs1
        have hx := ho'.of_block (hb1.block _ hz)
        replace hl := hl.of_new hb1
        replace hd1 := hd1.of_new hb1
        replace hd2 := hd2.of_new hb1
        replace hd := hd.of_new hb1
        replace hxa := hxa.of_new hb1
        have hB1 := below_next' hB hb1 hB.size
        refine wp_region_grew_tail 5 (by kernel_rfl) (by kernel_rfl) ?_
        simp only [List.take_succ_cons, List.take_zero, List.drop_succ_cons, List.drop_zero]
        repeat (first
          | (go_big_quiet_want; (with_reducible apply quiet_build_pair (x := x) (y := d)); rfl; rfl; rfl; exact hx32; exact hd.1; go_simp; go_big_quiet_on)
          | (go_big_quiet_want; (with_reducible apply quiet_load_at (ty := 25) (x := .tmp _)); rfl; rfl; assumption; go_simp; go_big_quiet_on)
          | (go_big_quiet_want; apply quiet_val; (intro w' hw'; go_simp; first | done | rfl); go_simp; go_big_quiet_on)
          | (go_big_quiet_skip))
        refine wpQuiet_nil ?_
        intro w3 hw3
        refine wpList_plain rfl fun K hK => wp_store_pair (.tmp 12) (.tmp 50) wr.heap.size (x) (d) _ _ rfl rfl rfl hx32 hd.1 (hp1.of_new hw3) fun w4 hp4 hg4 => hK _ _ ?_
        simp only [Act.put]
        have hb34 : Below wr.heap.size w3 w4 := (Below.refl _ _).grown hg4 (by have := HS1.out; have := Below.size hw3; omega) (fun j e => by cases e; exact Nat.le_refl _)
        have hb14 : Below wr.heap.size wr w4 := (hb1.trans (Below.mono hw3 (by have := HS1.out; omega))).trans hb34
        have hl4 : Digs w4 (.slice (some ⟨b, off, none⟩) cur.length cc) cur := hl0.of_new hb14
        have hd1' : DigAt w4 _ _ d1 := hd10.of_new hb14
        have hd2' : DigAt w4 _ _ d2 := hd20.of_new hb14
        have hx4 := ho'.of_block (hb14.block _ hz)
        have hp24 := (hp2.of_new hw3).of_block (hg4.block _ (by have := HS1.out; have := Below.size hw3; omega) (by simp))
        have hB4 := below_next' hB hb14 hB.size
        have hs4 : wr.heap.size + 2 ≤ w4.heap.size := by have := HS1.out; have := Below.size hw3; have := hg4.size; omega
        clear hw3 hg4 hb34 hp1 hp2 hx hl hd1 hd2 hxa hB1 hb1
        go_wp2
        refine wp_region_grew_tail 10 (by kernel_rfl) (by kernel_rfl) ?_
        simp only [List.take_succ_cons, List.take_zero, List.drop_succ_cons, List.drop_zero]
        repeat (first
          | (go_big_quiet_want; (with_reducible apply quiet_build_pair (x := d1) (y := d2)); rfl; rfl; rfl; exact hd1'.1; exact hd2'.1; go_simp; go_big_quiet_on)
          | (go_big_quiet_want; (with_reducible apply quiet_load_at (ty := 25) (x := .tmp _)); rfl; rfl; assumption; go_simp; go_big_quiet_on)
          | (go_big_quiet_want; apply quiet_val; (intro w' hw'; go_simp; first | done | rfl); go_simp; go_big_quiet_on)
          | (go_big_quiet_skip))
        refine wpQuiet_nil ?_
        intro w5 hw5
        refine wpList_plain rfl fun K hK => wp_store_pair (.tmp 13) (.tmp 60) (wr.heap.size + 1) d1 d2 _ _ rfl rfl rfl hd1'.1 hd2'.1 (hp24.of_new hw5) fun w6 hp6 hg6 => hK _ _ ?_
        simp only [Act.put]
        have hb56 : Below wr.heap.size w5 w6 := (Below.refl _ _).grown hg6 (by have := Below.size hw5; omega) (fun j e => by cases e; omega)
        have hb16 : Below wr.heap.size wr w6 := (hb14.trans (Below.mono hw5 (by omega))).trans hb56
        have hl6 : Digs w6 (.slice (some ⟨b, off, none⟩) cur.length cc) cur := hl0.of_new hb16
        have hx6 := ho'.of_block (hb16.block _ hz)
        have hp46 := (hp4.of_new hw5).of_block (hg6.block _ (by have := Below.size hw5; omega) (by simp))
        have hB6 := below_next' hB hb16 hB.size
        have hs6 : wr.heap.size + 2 ≤ w6.heap.size := by have := Below.size hw5; have := hg6.size; omega
        have h1a := hd1'.1
        have h2a := hd2'.1
        have hda := hd.1
        have H1A := Lib.hid h1a
        have H2A := Lib.hid h2a
        have HDA := Lib.hid hda
        have HXA := Lib.hid hx32
        clear hw5 hg6 hb56 hp24 hl4 hx4 hB4 hd1' hd2' hd hd10 hd20 h1a h2a hda hp4 hx32
        go_wp2_with fail
        refine (Above_any _ cur _ hl6 (by omega)).mono ?_
        rintro e w7 ⟨v7, rfl, ho7, hb7⟩
        have hl7 := ho7.digs
        have hdj : ∀ q, v7.ownBlock = some q → q ≠ g := fun q e => by have := (ho7.lt q e).1; omega
        have hx7 := hx6.of_block (hb7.block _ (by omega))
        replace hp6 := hp6.of_new hb7
        replace hp46 := hp46.of_new hb7
        have hB7 := below_next' hB6 hb7 hB6.size
        have hs7 : wr.heap.size + 2 ≤ w7.heap.size := by have := hb7.size; omega
        clear ho7 hb7 hl6 hx6 hB6
        obtain ⟨v7a, v7c, hv7⟩ := hl7.len
        subst hv7
        have e1 := hp46.one
        have e2 := hp46.two
        have e3 := hp6.one
        have e4 := hp6.two
        have hck : cntP (walkN (aboveL cur).length (k / 2)) ≤ rest2.length := HCK.out
        have hlk : k / 2 < (aboveL cur).length ∧ (aboveL cur).length ≤ 1024 ∧ (aboveL cur).length < cur.length := HLK.out
        have hgx : w.heap.size ≤ g := hgg
        generalize aboveL cur = nxt at *
        by_cases hpe : x = d1 ∧ d = d2
        · have hdec : decide (x = d1 ∧ d = d2) = true := by simp [hpe.1, hpe.2]
          have hneq := run_neq_pair x d d1 d2 HXA.out HDA.out H1A.out H2A.out
          rw [hdec] at hneq
          have hfin := HCL.out
          rw [if_neg (fun h => h.1 hpe)] at hfin
          have HF := Lib.hid hfin
          clear hfin hdec hpe
          go_wp2
          refine wp_region_grew (by kernel_rfl) (by kernel_rfl) ?_
          repeat (first
            | (go_big_quiet_want; (with_reducible apply quiet_load_pair (x := d1) (y := d2)); rfl; rfl; exact hp6; go_simp; go_big_quiet_on)
            | (go_big_quiet_want; (with_reducible apply quiet_load_pair (x := x) (y := d)); rfl; rfl; exact hp46; go_simp; go_big_quiet_on)
            | (go_big_quiet_want; (with_reducible apply quiet_load_at (ty := 25) (x := .tmp _)); rfl; rfl; assumption; go_simp; go_big_quiet_on)
            | (go_big_quiet_want; apply quiet_val; (intro w' hw'; go_simp; first | done | rfl); go_simp; go_big_quiet_on)
            | (go_big_quiet_skip))
          refine wpQuiet_nil ?_
          intro w8 hw8
          have hx8 := hx7.of_block (hw8.block _ (by omega))
          have hl8 := hl7.of_new hw8
          have hB8 := below_next' hB7 hw8 hB7.size
          have hs8 : wr.heap.size + 2 ≤ w8.heap.size := by have := Below.size hw8; omega
          replace e1 := e1.of_new hw8
          replace e2 := e2.of_new hw8
          clear hw8 hl7 hB7 hx7 e3 e4 hneq hp46 hp6
          go_wp2_with ((with_reducible apply wpList_load_at (ty := 25) (x := .tmp _)); rfl; rfl; rfl; assumption)
          refine (RNode_any _ _ _ HXA.out HDA.out).mono ?_
          rintro e w9 ⟨rfl, hb9⟩
          have hx9 := hx8.of_block (hb9.block _ (by omega))
          have hl9 := hl8.of_new hb9
          have hB9 := below_next' hB8 hb9 hB8.size
          have hs9 : wr.heap.size + 2 ≤ w9.heap.size := by have := Below.size hb9; omega
          clear hb9 hl8 hB8 hx8 e1 e2
          go_wp2_with ((with_reducible refine wpList_plain (o := ⟨none, Op.store 25 (.tmp 10) (.tmp 89), _, _, _, _⟩) ?_ ?_); rfl; (intro K hK; refine wp_store_dig (.tmp 10) (.tmp 89) g x (nodeL x d) rfl rfl rfl hx9 HXA.out (nodeL_len _ _) (fun w10 hx10 hg10 => hK _ _ ?_)); simp only [Act.put])
          exact clash_fin hlk.1 hlk.2.1 hlk.2.2 (hl9.grown hg10 (fun q e e2 => hdj q e (Option.some.inj e2))) hdj hl2 hx10 (nodeL_len _ _) hck HF.out (hB9.grown hg10 hB9.size (fun j e => by cases e; exact hgx)) hgx (by have := hg10.size; omega)
        · have hdec : decide (x = d1 ∧ d = d2) = false := decide_eq_false hpe
          have hneq := run_neq_pair x d d1 d2 HXA.out HDA.out H1A.out H2A.out
          rw [hdec] at hneq
          have heql := run_eql_dig (nodeL x d) (nodeL d1 d2) (nodeL_len _ _) (nodeL_len _ _)
          have hfin := HCL.out
          by_cases hnn : nodeL x d = nodeL d1 d2
          · rw [if_pos ⟨hpe, hnn⟩] at hfin
            rw [decide_eq_true hnn] at heql
            have HF := Lib.hid hfin
            clear hfin hdec hpe hnn
            go_wp2
            refine wp_region_grew (by kernel_rfl) (by kernel_rfl) ?_
            repeat (first
              | (go_big_quiet_want; (with_reducible apply quiet_load_pair (x := d1) (y := d2)); rfl; rfl; exact hp6; go_simp; go_big_quiet_on)
              | (go_big_quiet_want; (with_reducible apply quiet_load_pair (x := x) (y := d)); rfl; rfl; exact hp46; go_simp; go_big_quiet_on)
              | (go_big_quiet_want; (with_reducible apply quiet_load_at (ty := 25) (x := .tmp _)); rfl; rfl; assumption; go_simp; go_big_quiet_on)
              | (go_big_quiet_want; apply quiet_val; (intro w' hw'; go_simp; first | done | rfl); go_simp; go_big_quiet_on)
              | (go_big_quiet_want; apply quiet_call (f := 50); (intro w' hw'; go_simp; first | done | rfl); (intro w' hw'; exact Grew.call hw' (RNode_any _ _ w' HXA.out HDA.out)); go_simp; go_big_quiet_on)
              | (go_big_quiet_want; apply quiet_call (f := 50); (intro w' hw'; go_simp; first | done | rfl); (intro w' hw'; exact Grew.call hw' (RNode_any _ _ w' H1A.out H2A.out)); go_simp; go_big_quiet_on)
              | (go_big_quiet_skip))
            refine wpQuiet_nil ?_
            intro w8 hw8
            have hB8 := below_next' hB7 hw8 hB7.size
            go_wp2
            go_ret
            exact ⟨by rw [← HF.out]; rfl, hB8⟩
          · rw [if_neg (fun h => hnn h.2)] at hfin
            rw [decide_eq_false hnn] at heql
            have HF := Lib.hid hfin
            clear hfin hdec hpe hnn
            go_wp2
            refine wp_region_grew (by kernel_rfl) (by kernel_rfl) ?_
            repeat (first
              | (go_big_quiet_want; (with_reducible apply quiet_load_pair (x := d1) (y := d2)); rfl; rfl; exact hp6; go_simp; go_big_quiet_on)
              | (go_big_quiet_want; (with_reducible apply quiet_load_pair (x := x) (y := d)); rfl; rfl; exact hp46; go_simp; go_big_quiet_on)
              | (go_big_quiet_want; (with_reducible apply quiet_load_at (ty := 25) (x := .tmp _)); rfl; rfl; assumption; go_simp; go_big_quiet_on)
              | (go_big_quiet_want; apply quiet_val; (intro w' hw'; go_simp; first | done | rfl); go_simp; go_big_quiet_on)
              | (go_big_quiet_want; apply quiet_call (f := 50); (intro w' hw'; go_simp; first | done | rfl); (intro w' hw'; exact Grew.call hw' (RNode_any _ _ w' HXA.out HDA.out)); go_simp; go_big_quiet_on)
              | (go_big_quiet_want; apply quiet_call (f := 50); (intro w' hw'; go_simp; first | done | rfl); (intro w' hw'; exact Grew.call hw' (RNode_any _ _ w' H1A.out H2A.out)); go_simp; go_big_quiet_on)
              | (go_big_quiet_skip))
            refine wpQuiet_nil ?_
            intro w8 hw8
            have hx8 := hx7.of_block (hw8.block _ (by omega))
            have hl8 := hl7.of_new hw8
            have hB8 := below_next' hB7 hw8 hB7.size
            have hs8 : wr.heap.size + 2 ≤ w8.heap.size := by have := Below.size hw8; omega
            replace e1 := e1.of_new hw8
            replace e2 := e2.of_new hw8
            clear hw8 hl7 hB7 hx7 e3 e4 hneq heql hp46 hp6
            go_wp2_with ((with_reducible apply wpList_load_at (ty := 25) (x := .tmp _)); rfl; rfl; rfl; assumption)
            refine (RNode_any _ _ _ HXA.out HDA.out).mono ?_
            rintro e w9 ⟨rfl, hb9⟩
            have hx9 := hx8.of_block (hb9.block _ (by omega))
            have hl9 := hl8.of_new hb9
            have hB9 := below_next' hB8 hb9 hB8.size
            have hs9 : wr.heap.size + 2 ≤ w9.heap.size := by have := Below.size hb9; omega
            clear hb9 hl8 hB8 hx8 e1 e2
            go_wp2_with ((with_reducible refine wpList_plain (o := ⟨none, Op.store 25 (.tmp 10) (.tmp 89), _, _, _, _⟩) ?_ ?_); rfl; (intro K hK; refine wp_store_dig (.tmp 10) (.tmp 89) g x (nodeL x d) rfl rfl rfl hx9 HXA.out (nodeL_len _ _) (fun w10 hx10 hg10 => hK _ _ ?_)); simp only [Act.put])
            exact clash_fin hlk.1 hlk.2.1 hlk.2.2 (hl9.grown hg10 (fun q e e2 => hdj q e (Option.some.inj e2))) hdj hl2 hx10 (nodeL_len _ _) hck HF.out (hB9.grown hg10 hB9.size (fun j e => by cases e; exact hgx)) hgx (by have := hg10.size; omega)

end Go.Proofs.YtnomekfemadpeaaDoor

/- The plain half of the law ManifestSound: where bytes are told as a piece they have the piece's length, and the piece's leaf, or two unlike pairs have one Node, and are found. No condition. -/
namespace Go.Proofs.YtnomekfemadpeaaDoor
open Go.RowKit
set_option linter.unusedVariables false

theorem check_yes {root leaf : List UInt8} {n i : Nat} {p : List (List UInt8)} (h : checkL root (n : Int) (i : Int) leaf p = true) : p.length = cntP (walkN n i) ∧ (upP (walkN n i) leaf p).1 = root := by
  unfold checkL at h
  simp only [Bool.and_eq_true, decide_eq_true_eq, Int.toNat_natCast] at h
  obtain ⟨⟨h1, h2⟩, h3⟩ := h
  refine ⟨?_, h3⟩
  rw [h2]
  unfold depthZ
  rw [if_pos h1]
  simp

theorem leaves_at {b : List UInt8} {k j : Nat} (h : j < (leavesL b k).length) : (leavesL b k).getD j [] = leafL ((b.drop (j * k)).take k) := by
  rw [leavesL_len] at h
  unfold leavesL chunksL
  simp [List.getD, h]

/-- What Piece's yes comes to. -/
theorem piece_sound {b p0 : List UInt8} {k i : Int} {proof : List (List UInt8)} (hr : mrightB b.length k = true) (h : pieceB ⟨sumL b, b.length, k, rootL (leavesL b k.toNat)⟩ i p0 proof = true) :
    ∃ at_ n j : Nat, spanZ b.length k i = ((at_ : Int), (n : Int), 0) ∧ at_ + n ≤ b.length ∧ p0.length = n ∧ i = (j : Int) ∧ j < (leavesL b k.toNat).length ∧ (leavesL b k.toNat).length ≤ 1024 ∧ cntP (walkN (leavesL b k.toNat).length j) ≤ proof.length ∧
      (leafL p0 = leafL ((b.drop at_).take n) ∨ clashL (leavesL b k.toNat) j (leafL p0) proof = true) := by
  unfold pieceB at h
  simp only [Bool.and_eq_true, decide_eq_true_eq] at h
  obtain ⟨⟨h1, h2⟩, h3⟩ := h
  obtain ⟨q1, q2, q3, q4, q5⟩ := right_parts hr
  have hfew := leaves_few hr
  obtain ⟨kn, rfl⟩ : ∃ n : Nat, k = (n : Int) := ⟨k.toNat, by omega⟩
  simp only [Int.toNat_natCast] at *
  have hcnt := count_nat (b := b) (n := kn) (by omega)
  have hll := leavesL_len b kn
  have hmc : mcountB b.length kn = ((leavesL b kn).length : Int) := by unfold mcountB; rw [if_pos hr, hll]; exact hcnt.symm
  have hs : ¬ (i < 0 ∨ mcountB b.length kn ≤ i) := fun hc => by unfold spanZ at h1; rw [if_pos hc] at h1; simp at h1
  have hsp : spanZ b.length kn i = (i * kn, min (kn : Int) (b.length - i * kn), 0) := by unfold spanZ; rw [if_neg hs]
  have hlt : i < mcountB b.length kn := by omega
  obtain ⟨e1, e2, _⟩ := span_parts (by omega) hlt
  rw [hsp] at h2 ⊢
  dsimp only at h2 ⊢
  obtain ⟨j, rfl⟩ : ∃ j : Nat, i = (j : Int) := ⟨i.toNat, by omega⟩
  have hjl : j < (leavesL b kn).length := by omega
  have hjk : ((j : Int) * (kn : Int)) = ((j * kn : Nat) : Int) := by simp
  rw [hmc] at h3
  obtain ⟨c1, c2⟩ := check_yes h3
  have hso := sound _ (leavesL b kn) j (leafL p0) proof (Nat.le_refl _) hjl hfew c2
  rw [hjk] at e1 e2 h2 ⊢
  refine ⟨j * kn, min kn (b.length - j * kn), j, ?_, by omega, by omega, rfl, hjl, hfew, by omega, ?_⟩
  · rw [show ((min kn (b.length - j * kn) : Nat) : Int) = min (kn : Int) ((b.length : Int) - ((j * kn : Nat) : Int)) by omega]
  · rw [leaves_at hjl] at hso
    have e : (b.drop (j * kn)).take kn = (b.drop (j * kn)).take (min kn (b.length - j * kn)) := by
      rcases Nat.le_total kn (b.length - j * kn) with h | h
      · rw [Nat.min_eq_left h]
      · rw [Nat.min_eq_right h, List.take_of_length_le (by simp; omega), List.take_of_length_le (by simp)]
    rw [← e]
    exact hso

end Go.Proofs.YtnomekfemadpeaaDoor

/- A slice of bytes of the call's own: an empty one, one byte laid, a byte that bits make. No condition. -/
namespace Go.Proofs.YtnomekfemadpeaaDoor
open Go.RowKit
set_option linter.unusedVariables false

theorem own8_empty (w : World) : Own8 (w.alloc (.cells #[] 5)) w.heap.size 5 (.slice (some ⟨w.heap.size, 0, none⟩) 0 0) [] := World.ownsRow_made w #[] 0 (Nat.le_refl _) (by unfold maxLen; omega) rfl
theorem Own8.block {w : World} {base e : Nat} {v : Value} {l : List UInt8} (h : Own8 w base e v l) (h0 : 0 < l.length) : ∃ g cap, v = .slice (some ⟨g, 0, none⟩) l.length cap ∧ base ≤ g ∧ g < w.heap.size := by
  rcases h.2 with ⟨_, h1⟩ | ⟨g, cap, cur, hv, hb, hg, _⟩
  · omega
  · exact ⟨g, cap, hv, hb, (Array.getElem?_eq_some_iff.1 hg).1⟩
theorem Own8.cellAt {w : World} {base e g n cap : Nat} {l : List UInt8} (h : Own8 w base e (.slice (some ⟨g, 0, none⟩) n cap) l) (hn : n = l.length) {p : Nat} (hp : p < l.length) : w.cell? ⟨g, p, none⟩ = some (B8 (l.getD p 0)) := by
  subst hn
  rw [World.ownsRow.cellAt h p (by omega), List.getElem?_map, List.getElem?_eq_getElem hp]
  simp [List.getD, List.getElem?_eq_getElem hp]
theorem Own8.frozenAt {w : World} {base e g n cap : Nat} {l : List UInt8} (h : Own8 w base e (.slice (some ⟨g, 0, none⟩) n cap) l) (hn : n = l.length) (p : Nat) : w.frozen? ⟨g, p, none⟩ = false := by
  subst hn
  exact World.ownsRow.frozenAt h p
theorem Own8.set {w : World} {base e g n cap : Nat} {l : List UInt8} (h : Own8 w base e (.slice (some ⟨g, 0, none⟩) n cap) l) (hn : n = l.length) (p : Nat) (z : UInt8) :
    Own8 (w.setCell ⟨g, p, none⟩ (B8 z)) base e (.slice (some ⟨g, 0, none⟩) n cap) (l.set p z) ∧ w.grownBy (w.setCell ⟨g, p, none⟩ (B8 z)) (some g) := by
  subst hn
  obtain ⟨h1, h2⟩ := World.ownsRow.stored h p (B8 z)
  refine ⟨?_, h2⟩
  unfold Own8
  rw [List.length_set, List.map_set]
  exact h1
theorem wrap_B8 (n : Int) : ∃ z : UInt8, Value.int .u8 (IntKind.u8.wrap n) = B8 z :=
  ⟨UInt8.ofNat (n % 256).toNat, by unfold B8; congr 1; rw [IntKind.wrap_u8']; simp; omega⟩
theorem xor_B8 (a c : Int) : ∃ z : UInt8, Value.int .u8 (bits BinOp.xor IntKind.u8 a c) = B8 z := wrap_B8 _

end Go.Proofs.YtnomekfemadpeaaDoor

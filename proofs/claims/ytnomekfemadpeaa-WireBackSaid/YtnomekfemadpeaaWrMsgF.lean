/- A message in a block that is written field by field. Condition: what its slices hold lies in other blocks. -/
import Derived.Test.YtnomekfemadpeaaGb
namespace Go.Proofs.Ytnomekfemadpeaa
open Go.RowKit
set_option linter.unusedVariables false
set_option linter.unusedSimpArgs false
set_option maxRecDepth 100000

/-- The value's block is another than g, and was made. -/
def Off (w : World) (g : Nat) (v : Value) : Prop := ∀ k, v.ownBlock = some k → k ≠ g ∧ k < w.heap.size
theorem Off.mono {w w' : World} {g : Nat} {v : Value} (h : Off w g v) (hs : w.heap.size ≤ w'.heap.size) : Off w' g v := fun k hk => ⟨(h k hk).1, Nat.lt_of_lt_of_le (h k hk).2 hs⟩
theorem Off.nil (w : World) (g : Nat) : Off w g (.slice none 0 0) := fun k h => nomatch h
/-- Block g holds the message m, its slices lie elsewhere. -/
structure MsgF (w : World) (g : Nat) (m : MsgL) (s : MsgS) : Prop where
  o : MsgO w g m s
  r : MsgR w m s
  vi : Off w g s.vi
  vb : Off w g s.vb
  vp : Off w g s.vp
  vm : Off w g s.vm
theorem MsgF.free {w : World} {g : Nat} {m : MsgL} {s : MsgS} (h : MsgF w g m s) (j : Nat) : w.frozen? ⟨g, j, none⟩ = false := by
  simp [World.frozen?, h.o.1]
theorem MsgF.of_new {w w' : World} {g : Nat} {m : MsgL} {s : MsgS} (h : MsgF w g m s) (hb : Below w.heap.size w w') : MsgF w' g m s := ⟨h.o.of_new hb, h.r.of_new hb, h.vi.mono hb.size, h.vb.mono hb.size, h.vp.mono hb.size, h.vm.mono hb.size⟩
theorem grown_set (w : World) (g j : Nat) (v : Value) : w.grownBy (w.setCell ⟨g, j, none⟩ v) (some g) :=
  ⟨rfl, rfl, rfl, by simp [World.setCell], fun k hk h => Below.heap_setCell _ _ _ _ (fun e => h (by rw [e]))⟩
theorem msgO_set {w : World} {g : Nat} {m m' : MsgL} {s s' : MsgS} (h : MsgO w g m s) (j : Nat) (v : Value) (hc : (msgCells m s).set j v = msgCells m' s') (hh : m'.hash.length = 32) : MsgO (w.setCell ⟨g, j, none⟩ v) g m' s' := by
  refine ⟨?_, hh⟩
  have := heap_setCell_same w g j _ _ v h.1
  rw [this, ← hc]
  simp
theorem msgCells_put (m : MsgL) (s : MsgS) (h : m.hash.length = 32) (j : Nat) (v : Value) : (msgCells m s).set (33 + j) v = .int .i64 m.kind :: (m.hash.map B8 ++ ([.int .i64 m.piece, s.vi, s.vb, s.vp, s.vm, .bool m.seed] : List Value).set j v) := by
  unfold msgCells
  rw [show 33 + j = (32 + j) + 1 by omega, List.set_cons_succ, List.set_append_right _ _ (by simp [h])]
  simp [h]
/-- The rows outlive a store into the block. -/
theorem MsgF.rows {w w' : World} {g : Nat} {m : MsgL} {s : MsgS} (h : MsgF w g m s) (hg : w.grownBy w' (some g)) : MsgR w' m s :=
  ⟨h.r.hash, Row.of_kept h.r.ids hg (fun k hk e => (h.vi k hk).1 (by cases e; rfl)), Row.of_kept h.r.bytes hg (fun k hk e => (h.vb k hk).1 (by cases e; rfl)),
    ⟨h.r.proof.1, Row.of_kept h.r.proof.2 hg (fun k hk e => (h.vp k hk).1 (by cases e; rfl))⟩, Row.of_kept h.r.members hg (fun k hk e => (h.vm k hk).1 (by cases e; rfl))⟩
theorem MsgF.setKind {w : World} {g : Nat} {m : MsgL} {s : MsgS} (h : MsgF w g m s) (n : Int) : MsgF (w.setCell ⟨g, 0, none⟩ (.int .i64 n)) g { m with kind := n } s := by
  have hr := h.rows (grown_set w g 0 (.int .i64 n))
  exact ⟨msgO_set h.o 0 _ rfl h.r.hash, ⟨hr.hash, hr.ids, hr.bytes, hr.proof, hr.members⟩, h.vi.mono (by simp [World.setCell, World.setRow]), h.vb.mono (by simp [World.setCell, World.setRow]), h.vp.mono (by simp [World.setCell, World.setRow]), h.vm.mono (by simp [World.setCell, World.setRow])⟩
theorem MsgF.setPiece {w : World} {g : Nat} {m : MsgL} {s : MsgS} (h : MsgF w g m s) (n : Int) : MsgF (w.setCell ⟨g, 33, none⟩ (.int .i64 n)) g { m with piece := n } s := by
  have hr := h.rows (grown_set w g 33 (.int .i64 n))
  exact ⟨msgO_set h.o 33 _ (msgCells_put m s h.r.hash 0 _) h.r.hash, ⟨hr.hash, hr.ids, hr.bytes, hr.proof, hr.members⟩, h.vi.mono (by simp [World.setCell, World.setRow]), h.vb.mono (by simp [World.setCell, World.setRow]), h.vp.mono (by simp [World.setCell, World.setRow]), h.vm.mono (by simp [World.setCell, World.setRow])⟩
theorem MsgF.setSeed {w : World} {g : Nat} {m : MsgL} {s : MsgS} (h : MsgF w g m s) (n : Bool) : MsgF (w.setCell ⟨g, 38, none⟩ (.bool n)) g { m with seed := n } s := by
  have hr := h.rows (grown_set w g 38 (.bool n))
  exact ⟨msgO_set h.o 38 _ (msgCells_put m s h.r.hash 5 _) h.r.hash, ⟨hr.hash, hr.ids, hr.bytes, hr.proof, hr.members⟩, h.vi.mono (by simp [World.setCell, World.setRow]), h.vb.mono (by simp [World.setCell, World.setRow]), h.vp.mono (by simp [World.setCell, World.setRow]), h.vm.mono (by simp [World.setCell, World.setRow])⟩
theorem MsgF.setIds {w : World} {g : Nat} {m : MsgL} {s : MsgS} (h : MsgF w g m s) (v : Value) (l : List Int) (hl : Ints w v l) (hv : Off w g v) : MsgF (w.setCell ⟨g, 34, none⟩ v) g { m with ids := l } { s with vi := v } := by
  have hG := grown_set w g 34 v
  have hr := h.rows hG
  exact ⟨msgO_set h.o 34 _ (msgCells_put m s h.r.hash 1 _) h.r.hash, ⟨hr.hash, Row.of_kept hl hG (fun k hk e => (hv k hk).1 (by cases e; rfl)), hr.bytes, hr.proof, hr.members⟩, hv.mono (by simp [World.setCell, World.setRow]), h.vb.mono (by simp [World.setCell, World.setRow]), h.vp.mono (by simp [World.setCell, World.setRow]), h.vm.mono (by simp [World.setCell, World.setRow])⟩
theorem MsgF.setBytes {w : World} {g : Nat} {m : MsgL} {s : MsgS} (h : MsgF w g m s) (v : Value) (l : List UInt8) (hl : Bytes w v l) (hv : Off w g v) : MsgF (w.setCell ⟨g, 35, none⟩ v) g { m with bytes := l } { s with vb := v } := by
  have hG := grown_set w g 35 v
  have hr := h.rows hG
  exact ⟨msgO_set h.o 35 _ (msgCells_put m s h.r.hash 2 _) h.r.hash, ⟨hr.hash, hr.ids, Row.of_kept hl hG (fun k hk e => (hv k hk).1 (by cases e; rfl)), hr.proof, hr.members⟩, h.vi.mono (by simp [World.setCell, World.setRow]), hv.mono (by simp [World.setCell, World.setRow]), h.vp.mono (by simp [World.setCell, World.setRow]), h.vm.mono (by simp [World.setCell, World.setRow])⟩
theorem MsgF.setProof {w : World} {g : Nat} {m : MsgL} {s : MsgS} (h : MsgF w g m s) (v : Value) (l : List (List UInt8)) (hl : Digs w v l) (hv : Off w g v) : MsgF (w.setCell ⟨g, 36, none⟩ v) g { m with proof := l } { s with vp := v } := by
  have hG := grown_set w g 36 v
  have hr := h.rows hG
  exact ⟨msgO_set h.o 36 _ (msgCells_put m s h.r.hash 3 _) h.r.hash, ⟨hr.hash, hr.ids, hr.bytes, ⟨hl.1, Row.of_kept hl.2 hG (fun k hk e => (hv k hk).1 (by cases e; rfl))⟩, hr.members⟩, h.vi.mono (by simp [World.setCell, World.setRow]), h.vb.mono (by simp [World.setCell, World.setRow]), hv.mono (by simp [World.setCell, World.setRow]), h.vm.mono (by simp [World.setCell, World.setRow])⟩
theorem MsgF.setMembers {w : World} {g : Nat} {m : MsgL} {s : MsgS} (h : MsgF w g m s) (v : Value) (l : List MemL) (hl : Mems w v l) (hv : Off w g v) : MsgF (w.setCell ⟨g, 37, none⟩ v) g { m with members := l } { s with vm := v } := by
  have hG := grown_set w g 37 v
  have hr := h.rows hG
  exact ⟨msgO_set h.o 37 _ (msgCells_put m s h.r.hash 4 _) h.r.hash, ⟨hr.hash, hr.ids, hr.bytes, hr.proof, Row.of_kept hl hG (fun k hk e => (hv k hk).1 (by cases e; rfl))⟩, h.vi.mono (by simp [World.setCell, World.setRow]), h.vb.mono (by simp [World.setCell, World.setRow]), h.vp.mono (by simp [World.setCell, World.setRow]), hv.mono (by simp [World.setCell, World.setRow])⟩

theorem msgCells_hash (m : MsgL) (s : MsgS) (d : List UInt8) (h : m.hash.length = 32) : (msgCells m s).take 1 ++ d.map B8 ++ (msgCells m s).drop 33 = msgCells { m with hash := d } s := by
  unfold msgCells
  rw [show (33 : Nat) = 32 + 1 from rfl, List.drop_succ_cons, List.drop_append, List.drop_of_length_le (by simp [h])]
  simp [h]
/-- A hash laid into the message. -/
theorem MsgF.setHash {w : World} {g : Nat} {m : MsgL} {s : MsgS} (h : MsgF w g m s) (d : List UInt8) (hd : d.length = 32) :
    ∃ w', (storeCells ⟨g, 1, none⟩ (d.map B8)).run Try.prog w = .ok () w' ∧ MsgF w' g { m with hash := d } s ∧ Kept (fun k => k ≠ g) w w' := by
  have hst := run_storeCells_at (P := Try.prog) g 1 29 (d.map B8) 0 (msgCells m s).toArray w h.o.1 (by simp [hd, msgCells_len h.r.hash]) (fun v hv => by
    obtain ⟨b, _, rfl⟩ := List.mem_map.1 hv; rfl)
  simp only [Nat.add_zero, List.length_map, hd] at hst
  obtain ⟨cs, hcs⟩ : ∃ cs : Array Value, cs = (msgCells { m with hash := d } s).toArray := ⟨_, rfl⟩
  have hG : w.grownBy (w.setRow g cs) (some g) := ⟨rfl, rfl, rfl, by simp [World.setRow], fun k hk hne => Go.setRow_other w g k cs (fun e => hne (by rw [e]))⟩
  refine ⟨w.setRow g cs, ?_, ?_, ?_⟩
  · rw [hst, hcs]
    have := msgCells_hash m s d h.r.hash
    simp only [← this]
  · have hr := h.rows hG
    exact ⟨⟨by rw [setRow_heap _ _ _ _ _ _ h.o.1, hcs], hd⟩, ⟨hd, hr.ids, hr.bytes, hr.proof, hr.members⟩, h.vi.mono (by simp [World.setCell, World.setRow]), h.vb.mono (by simp [World.setCell, World.setRow]), h.vp.mono (by simp [World.setCell, World.setRow]), h.vm.mono (by simp [World.setCell, World.setRow])⟩
  · exact ⟨hG.os, hG.tape, hG.output, hG.size, fun k hk hne => hG.block k hk (fun e => hne (by cases e; rfl))⟩

end Go.Proofs.Ytnomekfemadpeaa

/- Blocks of bytes laid and filled: general laws for the walks of hashes. No condition. -/
import Derived.Test.YtnomekfemadpeaaDoorShaSum
import Derived.Lib.SlBytesConst
namespace Go.Proofs.YtnomekfemadpeaaDoor
open Go.RowKit
set_option linter.unusedVariables false

theorem three_bytes (w : World) (e : TypeId) (f : Nat × Nat) (x y z : UInt8) : Bytes (w.alloc (.cells #[.int .u8 (x.toNat : Int), .int .u8 (y.toNat : Int), .int .u8 (z.toNat : Int)] e f)) (.slice (some ⟨w.heap.size, 0, none⟩) 3 3) [x, y, z] := by
  refine ⟨rfl, _, 3, rfl, Nat.le_refl _, by unfold maxLen; omega, (fun h => by cases h), fun _ => ⟨_, 0, rfl, by simp, fun j hj => ?_⟩⟩
  have hb := heap_alloc_new w (.cells #[.int .u8 (x.toNat : Int), .int .u8 (y.toNat : Int), .int .u8 (z.toNat : Int)] e f)
  simp only [World.cell?, hb]
  match j, hj with
  | 0, _ => rfl
  | 1, _ => rfl
  | 2, _ => rfl

theorem octs_new (w : World) (t : Nat) (A : Array Value) (xs bs : List UInt8) (hA : A = (xs.map B8).toArray) : Octs ((w.alloc (.cells A t)).setRow w.heap.size (bs.map B8).toArray) w.heap.size t bs ∧ Below w.heap.size w ((w.alloc (.cells A t)).setRow w.heap.size (bs.map B8).toArray) ∧ w.heap.size + 1 = ((w.alloc (.cells A t)).setRow w.heap.size (bs.map B8).toArray).heap.size := by
  subst hA
  exact ⟨setRow_heap _ _ _ _ _ _ (heap_alloc_new w _), ((Below.refl _ w).alloc (Nat.le_refl _) _).trans (below_setRow' _ _ _ (Nat.le_refl _)), by simp⟩

theorem octs_laid (w : World) (t : Nat) (A : Array Value) (bs : List UInt8) : Octs ((w.alloc (.cells A t)).setRow w.heap.size (bs.map B8).toArray) w.heap.size t bs :=
  setRow_heap _ _ _ _ _ _ (heap_alloc_new w _)

theorem sumL_len (l : List UInt8) : (sumL l).length = 32 := outB_len _

/-- A whole hash laid into a block of bytes. -/
theorem wpList_store_octs {P : Program} {ops : Array Oper} {rest : List Oper} {op : Oper} {a : Act} {w : World} {Q : Exit → Act → World → Prop} (ty : TypeId) (x y : Operand) (g t : Nat) (old ws : List UInt8) (hgd : op.guard = none) (ho : op.op = .store ty x y)
    (hx : a.eval x = .pointer (some ⟨g, 0, none⟩)) (hy : a.eval y = .agg (ws.map B8).toArray) (hg : Octs w g t old) (hi : (P.info? ty).map (·.size) = some ws.length) (hs : old.length = ws.length)
    (h : wpList P ops Q rest (a.put op.dst undef) (w.setRow g (ws.map B8).toArray)) : wpList P ops Q (op :: rest) a w :=
  wpList_store_row hgd ty x y ho g t _ _ hx hy hg (by rw [hi]; simp) (by simp [hs]) (octs_one ws) h

end Go.Proofs.YtnomekfemadpeaaDoor

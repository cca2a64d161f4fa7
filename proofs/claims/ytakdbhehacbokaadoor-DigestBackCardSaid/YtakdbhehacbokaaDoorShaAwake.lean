/- The walk of the law's awake: it is true. Condition: the table of constants as the program lays it. -/
import Derived.Test.YtakdbhehacbokaaDoorShaSum
import Derived.Lib.SlBytesConst
namespace Go.Proofs.YtakdbhehacbokaaDoor
open Go.RowKit
set_option linter.unusedVariables false

theorem three_bytes (w : World) (e : TypeId) (f : Nat × Nat) (x y z : UInt8) : Bytes (w.alloc (.cells #[.int .u8 (x.toNat : Int), .int .u8 (y.toNat : Int), .int .u8 (z.toNat : Int)] e f)) (.slice (some ⟨w.heap.size, 0, none⟩) 3 3) [x, y, z] := by
  refine ⟨rfl, _, 3, rfl, Nat.le_refl _, by unfold maxLen; omega, (fun h => by cases h), fun _ => ⟨_, 0, rfl, by simp, fun j hj => ?_⟩⟩
  have hb := heap_alloc_new w (.cells #[.int .u8 (x.toNat : Int), .int .u8 (y.toNat : Int), .int .u8 (z.toNat : Int)] e f)
  simp only [World.cell?, hb]
  match j, hj with
  | 0, _ => rfl
  | 1, _ => rfl
  | 2, _ => rfl

theorem octs_new (w : World) (t : Nat) (A : Array Value) (xs bs : List UInt8) (hA : A = (xs.map B8).toArray) : Octs ((w.alloc (.cells A t)).setRow w.heap.size (bs.map B8).toArray) w.heap.size t bs ∧ Below w.heap.size w ((w.alloc (.cells A t)).setRow w.heap.size (bs.map B8).toArray) ∧ w.heap.size + 1 = ((w.alloc (.cells A t)).setRow w.heap.size (bs.map B8).toArray).heap.size := by
  subst hA
  exact ⟨setRow_heap _ _ _ _ _ _ (heap_alloc_new w _), ((Below.refl _ w).alloc (Nat.le_refl _) _).trans (below_setRow' _ _ _ (Nat.le_refl _)), by simp⟩

theorem octs_laid (w : World) (t : Nat) (A : Array Value) (bs : List UInt8) : Octs ((w.alloc (.cells A t)).setRow w.heap.size (bs.map B8).toArray) w.heap.size t bs :=
  setRow_heap _ _ _ _ _ _ (heap_alloc_new w _)

theorem sumL_len (l : List UInt8) : (sumL l).length = 32 := outB_len _

/-- A whole hash laid into a block of bytes. -/
theorem wpList_store_octs {P : Program} {ops : Array Oper} {rest : List Oper} {op : Oper} {a : Act} {w : World} {Q : Exit → Act → World → Prop} (ty : TypeId) (x y : Operand) (g t : Nat) (old ws : List UInt8) (hgd : op.guard = none) (ho : op.op = .store ty x y)
    (hx : a.eval x = .pointer (some ⟨g, 0, none⟩)) (hy : a.eval y = .agg (ws.map B8).toArray) (hg : Octs w g t old) (hi : (P.info? ty).map (·.size) = some ws.length) (hs : old.length = ws.length)
    (h : wpList P ops Q rest (a.put op.dst undef) (w.setRow g (ws.map B8).toArray)) : wpList P ops Q (op :: rest) a w :=
  wpList_store_row hgd ty x y ho g t _ _ hx hy hg (by rw [hi]; simp) (by simp [hs]) (octs_one ws) h

set_option maxRecDepth 100000 in
set_option maxHeartbeats 800000 in
theorem awake_any (w : World) (hK : Consts w) : Calls Tryd.prog 12 #[] w fun e w' => e = .returned (.bool true) ∧ Below w.heap.size w w' := by
  have kc := fun (w : World) (C : Array Value) (n c : Nat) => Lib.run_convert_bytes_const (P := Tryd.prog) w 22 5 C n c Tryd.underlying22 Tryd.underlying5
  obtain ⟨d, hd⟩ : ∃ d, d = sumL [97, 98, 99] := ⟨_, rfl⟩
  have hdl : d.length = 32 := by rw [hd]; exact sumL_len _
  have h0 : B8 (d.getD 0 0) = .int .u8 186 := by rw [hd, sum_abc.1]; rfl
  have h31 : B8 (d.getD 31 0) = .int .u8 173 := by rw [hd, sum_abc.2]; rfl
  have HD := Lib.hid hd
  have HL := Lib.hid hdl
  have H0 := Lib.hid h0
  have H31 := Lib.hid h31
  clear hd hdl h0 h31
  go_enter Tryd.func12, Tryd.ntmps12
  go_wp2_with fail
  refine (Sum_any _ [97, 98, 99] _ (three_bytes w _ _ 97 98 99) (by simp) (hK.of_new ((Below.refl _ w).alloc (Nat.le_refl _) _))).mono ?_
  rintro e w1 ⟨rfl, hb1⟩
  rw [← HD.out]
  have hb : Below w.heap.size w w1 := ((Below.refl _ w).alloc (Nat.le_refl _) _).trans (hb1.mono (by simp))
  have c0 : ∀ A : Array Value, ((w1.alloc (.cells A 25)).setRow w1.heap.size (d.map B8).toArray).cell? ⟨w1.heap.size, 0, none⟩ = some (.int .u8 186) := fun A => by
    rw [(octs_laid w1 25 A d).cell (by rw [HL.out]; decide), H0.out]
  have c31 : ∀ A : Array Value, ((w1.alloc (.cells A 25)).setRow w1.heap.size (d.map B8).toArray).cell? ⟨w1.heap.size, 31, none⟩ = some (.int .u8 173) := fun A => by
    rw [(octs_laid w1 25 A d).cell (by rw [HL.out]; decide), H31.out]
  clear kc hb1
  go_wp2_with ((with_reducible refine wpList_store_octs (op := ⟨none, Op.store 25 (.tmp 1) (.tmp 4), _, _, _, _⟩) 25 (.tmp 1) (.tmp 4) w1.heap.size 25 (List.replicate 32 (0 : UInt8)) d ?g ?ho ?hx ?hy ?hh ?hi ?hs ?_); (case g => rfl); (case ho => rfl); (case hx => rfl); (case hy => rfl); (case hh => exact heap_alloc_new w1 _); (case hi => rw [HL.out]; kernel_rfl); (case hs => rw [HL.out]; rfl))
  go_ret
  exact ⟨rfl, (hb.alloc (by have := hb.size; omega) _).trans (below_setRow' _ _ _ (by have := hb.size; omega))⟩

end Go.Proofs.YtakdbhehacbokaaDoor

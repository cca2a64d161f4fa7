/- The walk of the law's awake: it is true. No condition. -/
import Derived.Test.YtalhpcdmofcddaaTlvRefEnc
import Derived.Lib.SlBytesConst
namespace Go.Proofs.Ytalhpcdmofcddaa
open Go.RowKit
set_option linter.unusedVariables false

theorem encL_awake : encL [(5, [97, 98])] = some [5, 2, 97, 98] := by
  have h : uint 2 = [2] := by rw [uint_small (by decide)]; rfl
  simp [encL, encF, h]

theorem uint_300 : uint 300 = [172, 2] := by
  rw [uint_big (by decide), uint_small (by decide)]; rfl

theorem two_bytes (w : World) (o : Obj) (e t : TypeId) (f : Nat × Nat) (x y : UInt8) : Bytes ((w.alloc (.cells #[.int .u8 (x.toNat : Int), .int .u8 (y.toNat : Int)] e f)).alloc o) (.slice (some ⟨w.heap.size, 0, none⟩) 2 2) [x, y] := by
  refine ⟨rfl, _, 2, rfl, Nat.le_refl _, by unfold maxLen; omega, (fun h => by cases h), fun _ => ⟨_, 0, rfl, by simp; omega, fun j hj => ?_⟩⟩
  have hb : ((w.alloc (.cells #[.int .u8 (x.toNat : Int), .int .u8 (y.toNat : Int)] e f)).alloc o).heap[w.heap.size]? = some (.cells #[.int .u8 (x.toNat : Int), .int .u8 (y.toNat : Int)] e f) := by
    rw [Below.heap_alloc _ _ _ (by simp)]; exact heap_alloc_new w _
  simp only [World.cell?, hb]
  match j, hj with
  | 0, _ => rfl
  | 1, _ => rfl

theorem awake_items (w : World) (f : Nat × Nat) (e t : TypeId) :
    Items ((w.alloc (.cells #[.int .u8 97, .int .u8 98] e f)).alloc (.cells #[.int .i64 5, .slice (some ⟨w.heap.size, 0, none⟩) 2 2] t)) (.slice (some ⟨w.heap.size + 1, 0, none⟩) 1 1) [(5, [97, 98])] := by
  refine ⟨_, 1, rfl, Nat.le_refl _, by unfold maxLen; omega, (fun h => by cases h), fun _ => ⟨_, 0, rfl, by simp, fun i hi => ?_⟩⟩
  have h0 : i = 0 := by simpa using hi
  subst h0
  have hb : ((w.alloc (.cells #[.int .u8 97, .int .u8 98] e f)).alloc (.cells #[.int .i64 5, .slice (some ⟨w.heap.size, 0, none⟩) 2 2] t)).heap[w.heap.size + 1]? = some (.cells #[.int .i64 5, .slice (some ⟨w.heap.size, 0, none⟩) 2 2] t) := by
    have := heap_alloc_new (w.alloc (.cells #[.int .u8 97, .int .u8 98] e f)) (.cells #[.int .i64 5, .slice (some ⟨w.heap.size, 0, none⟩) 2 2] t)
    rwa [World.size_alloc] at this
  refine ⟨?_, .slice (some ⟨w.heap.size, 0, none⟩) 2 2, ?_, two_bytes w _ e t f 97 98⟩
  · simp only [World.cell?, hb]; rfl
  · simp only [World.cell?, hb]; rfl

set_option maxRecDepth 100000 in
set_option maxHeartbeats 1600000 in
theorem awake_any (w : World) : Calls Try.prog 11 #[] w fun e w' => e = .returned (.bool true) ∧ Below w.heap.size w w' := by
  have kc := fun (w : World) (C : Array Value) (n c : Nat) => Lib.run_convert_bytes_const (P := Try.prog) w 25 5 C n c Try.underlying25 Try.underlying5
  go_enter Try.func11, Try.ntmps11
  go_wp2_with fail
  refine (Encode_any _ [(5, [97, 98])] _ (awake_items w _ _ _)).mono ?_
  rintro e w1 ⟨hb1, v, hv⟩
  rw [encL_awake] at hv
  obtain ⟨rfl, hown⟩ := hv
  have hb : Below w.heap.size w w1 := (((Below.refl _ w).alloc (Nat.le_refl _) _).alloc (by simp) _).trans (hb1.mono (by simp; omega))
  clear kc hb1
  have hs1 := hown.bytes.string (P := Try.prog) (t := 25) (d := 9) Try.underlying25 Try.underlying5 Try.underlying9
  go_wp2_with fail
  refine (Uint_at _ 300 _ rfl (by decide)).mono ?_
  rintro e w2 ⟨v2, rfl, ho2, hb2⟩
  rw [uint_300] at ho2
  have hs2 := ho2.bytes.string (P := Try.prog) (t := 25) (d := 9) Try.underlying25 Try.underlying5 Try.underlying9
  have hbB : Below w.heap.size w w2 := hb.trans (hb2.mono hb.size)
  go_wp2
  go_ret
  exact ⟨rfl, hbB⟩

end Go.Proofs.Ytalhpcdmofcddaa

/- The walk of digest.Compare, through bytes.Compare; what it makes of memory, to the block. Condition: hashes of 32 bytes. -/
import Derived.Test.YtjmjaailmlnkjaaDoorShaCmpPlain
import Derived.Test.YtjmjaailmlnkjaaDoorKit
import Derived.Test.YtjmjaailmlnkjaaDoorGa
import Derived.Laws.Externs
import Derived.Sort.Grow
import GoSem.Extern.BytealgCompare
namespace Go.Proofs.YtjmjaailmlnkjaaDoor
open Go.RowKit
set_option linter.unusedVariables false
set_option linter.unusedSimpArgs false
set_option maxRecDepth 100000

theorem run_loadBytes {P : Program} {w : World} (b : Nat) : ∀ (l : List UInt8) (off : Nat) (acc : List UInt8), (∀ j, j < l.length → w.cell? ⟨b, off + j, none⟩ = some (B8 (l.getD j 0))) →
    (Extern.Bytes.loadBytes ⟨b, off, none⟩ l.length ⟨acc.toArray⟩).run P w = .ok ⟨(acc ++ l).toArray⟩ w := by
  intro l
  induction l with
  | nil => intro off acc _; simp [Extern.Bytes.loadBytes, Sem.run_pure]
  | cons x l ih =>
    intro off acc h
    have h0 := h 0 (by simp)
    simp only [Nat.add_zero, List.getD_cons_zero, B8] at h0
    have hl : (load ⟨b, off, none⟩).run P w = .ok (.int .u8 (x.toNat : Int)) w := by simp [load, Sem.run, h0]
    simp only [List.length_cons, Extern.Bytes.loadBytes, Sem.run_bind, hl, Result.andThen_ok]
    have hp : (⟨acc.toArray⟩ : ByteArray).push ((x.toNat : Int).toNat.toUInt8) = ⟨(acc ++ [x]).toArray⟩ := by
      simp [ByteArray.push]
    have ha : (⟨b, off, none⟩ : Addr).add 1 = ⟨b, off + 1, none⟩ := rfl
    rw [hp, ha, ih (off + 1) (acc ++ [x]) (fun j hj => by
      have := h (j + 1) (by simp; omega)
      rw [List.getD_cons_succ] at this
      rw [← this, Nat.add_assoc, Nat.add_comm 1 j])]
    simp

theorem run_bytesOf {P : Program} {w : World} {v : Value} {l : List UInt8} (h : Bytes w v l) : (Extern.Bytes.bytesOf v).run P w = .ok ⟨l.toArray⟩ w := by
  by_cases h0 : 0 < l.length
  · obtain ⟨b, off, c, rfl, hb, hc⟩ := h.cell h0
    have := run_loadBytes (P := P) (w := w) b l off [] hc
    rw [List.nil_append] at this
    exact this
  · obtain rfl : l = [] := List.eq_nil_of_length_eq_zero (by omega)
    obtain ⟨a, c, rfl⟩ := h.len
    cases a <;> rfl

theorem run_bytealg (va vb : Value) (a b : List UInt8) (w : World) (ha : Bytes w va a) (hb : Bytes w vb b) (h : a.length = b.length) :
    (callFunc 43 #[va, vb]).run Tryd.prog w = .ok (.value (.int .i64 (cmpL a b))) w := by
  rw [run_callFunc_extern (e := Extern.BytealgCompare.compare) Tryd.func43 (by kernel_rfl) (by kernel_rfl) (by kernel_rfl) (by kernel_rfl)]
  change (Sem.run Tryd.prog (do pure (goInt (Extern.BytealgCompare.cmp (← Extern.Bytes.bytesOf va) (← Extern.Bytes.bytesOf vb)))) w).andThen _ = _
  simp only [Sem.run_bind, run_bytesOf ha, run_bytesOf hb, Result.andThen_ok, Sem.run_pure, cmp_cmpL a b h]
  rfl

/-- Two hashes in boxes of their own. -/
theorem octs_pair (w : World) (t : Nat) (xs ys : List UInt8) (A B : Array Value) (hA : A = (xs.map B8).toArray) (hB : B = (ys.map B8).toArray) :
    Octs ((w.alloc (.cells A t)).alloc (.cells B t)) w.heap.size t xs ∧ Octs ((w.alloc (.cells A t)).alloc (.cells B t)) (w.heap.size + 1) t ys ∧ Below w.heap.size w ((w.alloc (.cells A t)).alloc (.cells B t)) ∧
      w.heap.size + 2 = ((w.alloc (.cells A t)).alloc (.cells B t)).heap.size := by
  subst hA
  subst hB
  refine ⟨(Below.heap_alloc _ _ _ (by simp)).trans (heap_alloc_new w _), ?_, ((Below.refl _ w).alloc (Nat.le_refl _) _).alloc (by simp) _, by simp⟩
  have := heap_alloc_new (w.alloc (.cells (xs.map B8).toArray t)) (.cells (ys.map B8).toArray t)
  rw [World.size_alloc] at this
  exact this
theorem Octs.lt2 {w : World} {g t : Nat} {bs : List UInt8} (h : Octs w g t bs) : g < w.heap.size := (Array.getElem?_eq_some_iff.1 h).1
/-- A block of bytes as a slice. -/
theorem Octs.bytes {w : World} {g t : Nat} {bs : List UInt8} (h : Octs w g t bs) (hl : bs.length ≤ 1000) : Bytes w (.slice (some ⟨g, 0, none⟩) bs.length bs.length) bs := by
  refine ⟨by simp, _, _, rfl, Nat.le_refl _, by unfold maxLen; omega, (fun h => by cases h), fun _ => ⟨g, 0, rfl, h.lt2, fun j hj => ?_⟩⟩
  rw [Nat.zero_add, h.cell (by omega)]
  simp [List.getElem?_eq_getElem (show j < bs.length by omega), List.getD_eq_getElem?_getD]

theorem BCompare_any (va vb : Value) (a b : List UInt8) (w : World) (ha : Bytes w va a) (hb : Bytes w vb b) (h : a.length = b.length) :
    Calls Tryd.prog 39 #[va, vb] w fun e w' => e = .returned (.int .i64 (cmpL a b)) ∧ w = w' := by
  have hc := run_bytealg va vb a b w ha hb h
  have H := Lib.hid h
  clear h
  go_enter Tryd.func39, Tryd.ntmps39
  go_wp2
  go_ret
  exact ⟨rfl, rfl⟩

theorem same_quietC {P : Program} {f : FuncId} {args : Array Value} {w : World} {n : Nat} {v : Value} (h : Calls P f args (w.drewN n) fun e w' => e = .returned v ∧ w.drewN n = w') :
    Calls P f args (w.drewN n) fun e w'' => e = .returned v ∧ ∃ m, w'' = w.drewN m := h.mono fun _ _ ⟨he, hm⟩ => ⟨he, n, hm.symm⟩
set_option maxHeartbeats 800000 in
theorem CompareG_any (a b : List UInt8) (w : World) (ha : a.length = 32) (hb : b.length = 32) :
    Calls Tryd.prog 29 #[.agg (a.map B8).toArray, .agg (b.map B8).toArray] w fun e w' => e = .returned (.int .i64 (cmpL a b)) ∧ ∃ q os, w' = Sort.grow (w.drewN q) os := by
  have HA := Lib.hid ha
  have HB := Lib.hid hb
  clear ha hb
  go_enter Tryd.func29, Tryd.ntmps29
  go_wp2
  generalize hW1 : (w.alloc _).alloc _ = W1
  obtain ⟨hX, hY, hz1, os1, hg1⟩ : Octs W1 w.heap.size 29 a ∧ Octs W1 (w.heap.size + 1) 29 b ∧ w.heap.size + 2 = W1.heap.size ∧ ∃ os, W1 = Sort.grow w os := by
    obtain ⟨h1, h2, h3, h4⟩ := octs_pair w 29 a b _ _ rfl rfl
    subst hW1; exact ⟨h1, h2, h4, _, by rw [Sort.alloc_eq_grow, Sort.alloc_eq_grow, Sort.grow_grow]⟩
  clear hW1
  have hx := hX.bytes (by rw [HA.out]; decide)
  have hy := hY.bytes (by rw [HB.out]; decide)
  rw [HA.out] at hx
  rw [HB.out] at hy
  have HX := fun n => Lib.hid (hx.of_new (below_drewn n))
  have HY := fun n => Lib.hid (hy.of_new (below_drewn n))
  have HG1 := Lib.hid hg1
  clear hx hy hX hY hg1
  go_quiet ((go_at_call 39; exact same_quietC (BCompare_any _ _ a b _ (HX _).out (HY _).out (HA.out.trans HB.out.symm))))
  go_wp2
  go_ret
  exact ⟨rfl, _, os1, by rw [HG1.out]; rfl⟩
theorem grow_below (w : World) (q : Nat) (os : Array Obj) : Below w.heap.size w (Sort.grow (w.drewN q) os) := ⟨rfl, rfl, rfl, by simp, fun k hk => by
  show (w.heap ++ os)[k]? = _
  rw [Array.getElem?_append_left hk]⟩
theorem Compare_any (a b : List UInt8) (w : World) (ha : a.length = 32) (hb : b.length = 32) :
    Calls Tryd.prog 29 #[.agg (a.map B8).toArray, .agg (b.map B8).toArray] w fun e w' => e = .returned (.int .i64 (cmpL a b)) ∧ Below w.heap.size w w' :=
  (CompareG_any a b w ha hb).mono fun e w' ⟨h1, q, os, h2⟩ => ⟨h1, by rw [h2]; exact grow_below w q os⟩

end Go.Proofs.YtjmjaailmlnkjaaDoor

/- Steps of a region that draws its order, in the class of the worlds that have grown out of one: a whole hash read, a call whose result is a value. No condition. -/
import Derived.Test.YtnohglkilpnjhaaRegion
import Derived.Test.YtnohglkilpnjhaaCommon
import Derived.Test.YtnohglkilpnjhaaOcts
namespace Go.Proofs.Ytnohglkilpnjhaa
open Go.RowKit
set_option linter.unusedVariables false

theorem Grew.octs {W w : World} {g t : Nat} {bs : List UInt8} (h : Grew W w) (ho : Octs W g t bs) : Octs w g t bs := ho.of_block (h.block _ (Array.getElem?_eq_some_iff.1 ho).1)
theorem Grew.bytes {W w : World} {v : Value} {bs : List UInt8} (h : Grew W w) (ho : Bytes W v bs) : Bytes w v bs := ho.of_new h
theorem Grew.cell {W w : World} {p : Addr} {v : Value} (h : Grew W w) (ho : W.cell? p = some v) : w.cell? p = some v := (Below.cell h (World.block_lt_of_cell? _ _ ho)).trans ho
theorem Grew.call {P : Program} {f : FuncId} {args : Array Value} {W w : World} {v : Value} (h : Grew W w) (hc : Calls P f args w (fun e w' => e = .returned v ∧ Below w.heap.size w w')) :
    Calls P f args w (fun e w' => e = .returned v ∧ Grew W w') := hc.mono fun _ _ ⟨he, hb⟩ => ⟨he, Below.trans h (hb.mono (Below.size h))⟩
theorem Grew.same {P : Program} {f : FuncId} {args : Array Value} {W w : World} {v : Value} (h : Grew W w) (hc : Calls P f args w (fun e w' => e = .returned v ∧ w = w')) :
    Calls P f args w (fun e w' => e = .returned v ∧ Grew W w') := hc.mono fun _ _ ⟨he, hb⟩ => ⟨he, hb ▸ h⟩

section
variable {P : Program} {W : World}

/-- A region whose operations each yield one value in every world that has grown out of this one. -/
theorem wp_region_grew {id : Nat} {Q : Exit → Act → World → Prop} {a : Act} {l : List Oper} (hm : P.follows .mixedOrders = true) (hB : Region.lexB .any l.toArray = true)
    (h : wpQuiet P l.toArray (Grew W) (fun a' => ∀ w', Grew W w' → Q .normal a' w') l a) : (Code.region id l.toArray true).wp P Q a W :=
  wp_region_quiet (C := Grew W) hm hB (Grew.start W) (by simpa using h)

/-- .. and behind them operations in one order alone. -/
theorem wp_region_grew_tail {id : Nat} {Q : Exit → Act → World → Prop} {a : Act} {l : List Oper} (n : Nat) (hm : P.follows .mixedOrders = true) (hB : Region.lexTailB .any l.toArray n = true)
    (h : wpQuiet P l.toArray (Grew W) (fun a' => ∀ w', Grew W w' → wpList P l.toArray Q (l.drop n) a' w') (l.take n) a) : (Code.region id l.toArray true).wp P Q a W :=
  wp_region_class (C := Grew W) n hm hB (Grew.start W) h

/-- A list of operations in one order alone: the quiet walk serves it too. -/
theorem wpList_of_quiet {C : World → Prop} {ops : Array Oper} {Lq : Act → Prop} {Q : Exit → Act → World → Prop} {rest : List Oper} (l : List Oper) : ∀ (a : Act) (w : World), C w → wpQuiet P ops C Lq l a → (∀ a w, C w → Lq a → wpList P ops Q rest a w) → wpList P ops Q (l ++ rest) a w := by
  induction l with
  | nil => intro a w hw h hQ; exact hQ a w hw h
  | cons o l ih =>
    intro a w hw h hQ
    refine wpList_step fun K hK => ?_
    have h' : if Region.wanted o (yielded ops a.tmps) then o.quiet P a C (wpQuiet P ops C Lq l) else wpQuiet P ops C Lq l (a.put o.dst undef) := h
    split
    · rename_i hg
      rw [if_pos hg] at h'
      exact Oper.wp_of_quiet hw (fun a' w' hw' hq => hK _ _ (ih a' w' hw' hq hQ)) h'
    · rename_i hg
      rw [if_neg hg] at h'
      exact hK _ _ (ih _ w hw h' hQ)

theorem wp_region_grew_seq {id : Nat} {Q : Exit → Act → World → Prop} {a : Act} {l : List Oper}
    (h : wpQuiet P l.toArray (Grew W) (fun a' => ∀ w', Grew W w' → Q .normal a' w') l a) : (Code.region id l.toArray false).wp P Q a W :=
  wp_region_lit (by
    have := wpList_of_quiet (P := P) (C := Grew W) (ops := l.toArray) (Q := Q) (rest := []) l a W (Below.refl _ _) h (fun a w hw hq => hq w hw)
    rwa [List.append_nil] at this)

theorem wp_region_grew_seq_tail {id : Nat} {Q : Exit → Act → World → Prop} {a : Act} {l : List Oper} (n : Nat)
    (h : wpQuiet P l.toArray (Grew W) (fun a' => ∀ w', Grew W w' → wpList P l.toArray Q (l.drop n) a' w') (l.take n) a) : (Code.region id l.toArray false).wp P Q a W :=
  wp_region_lit (by
    have := wpList_of_quiet (P := P) (C := Grew W) (ops := l.toArray) (Q := Q) (rest := l.drop n) (l.take n) a W (Below.refl _ _) h (fun a w hw hq => hq w hw)
    rwa [List.take_append_drop] at this)

/-- A whole array of bytes read. -/
theorem quiet_load_octs {o : Oper} {a : Act} {K : Act → Prop} (ty : TypeId) (x : Operand) (g t n e : Nat) (bs : List UInt8) (ho : o.op = .load ty x) (hx : a.eval x = .pointer (some ⟨g, 0, none⟩)) (hb : Octs W g t bs)
    (hu : P.underlying ty = some (.array n e)) (hi : (P.info? ty).map (·.size) = some bs.length) (hK : K (a.put o.dst (.agg (bs.map B8).toArray))) : o.quiet P a (Grew W) K := by
  refine quiet_val (fun w hw => ?_) hK
  have := run_loadVar_row (P := P) w g t ty _ (0, 0) _ (hw.octs hb) hu rfl (by rw [hi]; simp)
  unfold execOp
  simp only [ho, hx, Instr.loadAt, Instr.sureAddr, Sem.run_bind, Sem.run_pure, Result.andThen_ok, this]

end
end Go.Proofs.Ytnohglkilpnjhaa

/- A message stored as a whole, laid as nothing, handed back. No condition. -/
import Derived.Test.YtnomekfemadpeaaWrMsgF
import Derived.Test.YtnomekfemadpeaaGa
namespace Go.Proofs.Ytnomekfemadpeaa
open Go.RowKit
set_option linter.unusedVariables false
set_option linter.unusedSimpArgs false
set_option maxRecDepth 100000

theorem MsgR.one {w : World} {m : MsgL} {s : MsgS} (h : MsgR w m s) : (msgCells m s).toArray.all (·.oneCell') = true :=
  Array.all_eq_true_iff_forall_mem.2 (fun v hv => by
    obtain ⟨ia, ic, hi⟩ := h.ids.len
    obtain ⟨ba, bc, hb⟩ := h.bytes.len
    obtain ⟨pa, pc, hp⟩ := h.proof.len
    obtain ⟨ma, mc, hm⟩ := h.members.len
    have hv' : v ∈ msgCells m s := by simpa using hv
    simp only [msgCells, hi, hb, hp, hm, List.mem_append, List.mem_cons, List.mem_map, List.not_mem_nil, or_false] at hv'
    rcases hv' with rfl | ⟨b, _, rfl⟩ | rfl | rfl | rfl | rfl | rfl | rfl <;> rfl)
theorem wp_store_msg {w : World} {op : Oper} {a : Act} {K : Act → World → Prop} {Q : Exit → Act → World → Prop} (p q : Operand) (g : Nat) (m m0 : MsgL) (s s0 : MsgS) (ho : op.op = .store 29 p q)
    (hp : a.eval p = .pointer (some ⟨g, 0, none⟩)) (hq : a.eval q = MsgV m s) (hx : MsgR w m s) (hg : MsgO w g m0 s0)
    (h : ∀ w', MsgO w' g m s → w.grownBy w' (some g) → w'.heap.size = w.heap.size → K (a.put op.dst undef) w') : op.wp Try.prog a w K Q := by
  have hrun := run_storeVar_row (P := Try.prog) w g 29 29 _ (msgCells m s).toArray hg.1 (by rw [size_msg]; simp [msgCells_len hx.hash]) (by simp [msgCells_len hx.hash, msgCells_len hg.2]) hx.one
  unfold MsgV at hq
  unfold Oper.wp execOp
  simp only [ho, hp, hq, Instr.storeAt, Instr.sureAddr, Sem.run_bind, Sem.run_pure, Result.andThen_ok, hrun]
  exact h _ ⟨setRow_heap _ _ _ _ _ _ hg.1, hx.hash⟩ ⟨rfl, rfl, rfl, by simp [World.setRow], fun k hk hne => Go.setRow_other w g k _ (fun e => hne (by rw [e]))⟩ (by simp [World.setRow])
theorem results_msg {fn : Func} {p q : Tmp} (h : fn.results = #[.cell p 29, .tmp q]) (tmps : Array Value) {w : World} {b : Nat} {m : MsgL} {s : MsgS} {u : Value} (hp : tmps.getD p undef = .pointer (some ⟨b, 0, none⟩)) (hq : tmps.getD q undef = u)
    (hx : MsgO w b m s) : (results fn tmps).run Try.prog w = .ok (.tuple #[MsgV m s, u]) w := by
  have hp' : tmps[p]?.getD undef = .pointer (some ⟨b, 0, none⟩) := by simpa using hp
  have hq' : tmps[q]?.getD undef = u := by simpa using hq
  simp [results, h, hp', hq', asAddr, run_load_msg hx]

/-- No slices. -/
def sN : MsgS := ⟨.slice none 0 0, .slice none 0 0, .slice none 0 0, .slice none 0 0⟩
theorem msgR_zero (w : World) : MsgR w msgZ sN := ⟨rfl, Row.of_nil 1, Row.of_nil 1, ⟨(fun d hd => by cases hd), Row.of_nil 32⟩, Row.of_nil 4⟩
theorem zero_msg (w : World) : (zeroValue 29).run Try.prog w = .ok (.agg (msgCells msgZ sN).toArray) w := by kernel_rfl
theorem build_msg (w : World) : (Instr.build 29 #[]).run Try.prog w = .ok (MsgV msgZ sN) w := by kernel_rfl
theorem msgF_zero (w : World) : MsgF (w.alloc (.cells (msgCells msgZ sN).toArray 29)) w.heap.size msgZ sN :=
  ⟨msg_alloc w rfl, msgR_zero _, Off.nil _ _, Off.nil _ _, Off.nil _ _, Off.nil _ _⟩
theorem wp_alloc_msg {w : World} {o : Oper} {a : Act} {K : Act → World → Prop} {Q : Exit → Act → World → Prop} (ho : o.op = .alloc 29)
    (h : ∀ w', MsgF w' w.heap.size msgZ sN → Below w.heap.size w w' → w'.heap.size = w.heap.size + 1 → K (a.put o.dst (.pointer (some ⟨w.heap.size, 0, none⟩))) w') : o.wp Try.prog a w K Q := by
  unfold Oper.wp execOp
  have := h _ (msgF_zero w) ((Below.refl _ w).alloc (Nat.le_refl _) _) (by simp)
  have hz := zero_msg w
  simp only [ho, Instr.alloc, Sem.run_bind, hz, Result.andThen_ok, Sem.run_pure, newVar, newRow]
  exact this

end Go.Proofs.Ytnomekfemadpeaa

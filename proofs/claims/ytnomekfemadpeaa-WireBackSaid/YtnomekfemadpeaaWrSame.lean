/- The walks of the document's answers' Same at numbers, at members and at messages. No condition. -/
import Derived.Test.YtnomekfemadpeaaGb
namespace Go.Proofs.Ytnomekfemadpeaa
open Go.RowKit
set_option linter.unusedVariables false
set_option linter.unusedSimpArgs false

theorem fields_mem : (Try.prog.fieldsOf 37).toList.map (fun f => (f.name, f.type, f.offset)) = [("Id", 3, 0), ("Incarnation", 3, 1), ("State", 3, 2), ("Since", 3, 3)] := by kernel_rfl
def MemV (x : MemL) : Value := .agg #[.int .i64 x.id, .int .i64 x.inc, .int .i64 x.state, .int .i64 x.since]
theorem run_equalIn_mem (d : Nat) (x y : MemL) (w : World) : (Op.equalIn (d + 3) 37 (MemV x) (MemV y)).run Try.prog w = .ok (decide (x = y)) w := by
  unfold MemV
  rw [run_equalIn_struct w (d + 2) 37 _ _ (by kernel_rfl) (by kernel_rfl)]
  have hai : (isAgg 3).run Try.prog w = .ok false w := by kernel_rfl
  have hi : ∀ a b : Int, (Op.equalIn (d + 2) 3 (.int .i64 a) (.int .i64 b)).run Try.prog w = .ok (a == b) w := fun a b => run_equalIn_int w (d + 1) 3 .i64 .i64 a b Try.underlying3
  obtain ⟨g, hg⟩ : ∃ g : Nat → Bool, g = fun k => if k = 0 then x.id == y.id else if k = 1 then x.inc == y.inc else if k = 2 then x.state == y.state else x.since == y.since := ⟨_, rfl⟩
  have hf := fields_mem
  generalize (Try.prog.fieldsOf 37).toList = fs at hf
  rw [eqFields_all g fs (fun f hfm => by
    have hm : (f.name, f.type, f.offset) ∈ fs.map (fun f => (f.name, f.type, f.offset)) := List.mem_map.2 ⟨f, hfm, rfl⟩
    rw [hf] at hm
    simp only [List.mem_cons, Prod.mk.injEq, List.not_mem_nil, or_false] at hm
    rcases hm with ⟨h1, h2, h3⟩ | ⟨h1, h2, h3⟩ | ⟨h1, h2, h3⟩ | ⟨h1, h2, h3⟩
    all_goals
      rw [h1, h2, h3, hg]
      refine ⟨by decide, _, _, ?_, ?_, hi _ _⟩ <;> simp [part, Sem.run_bind, hai, Sem.run_pure])]
  have e : (fs.all fun f => g f.offset) = (fs.map (fun f => (f.name, f.type, f.offset))).all (fun q => g q.2.2) := by rw [List.all_map]; rfl
  rw [e, hf, hg]
  congr 1
  obtain ⟨a, b, c, e⟩ := x
  obtain ⟨a', b', c', e'⟩ := y
  simp
  rw [Bool.eq_iff_iff]
  simp
theorem guard_mem : Try.prog.eqGuardType Try.prog.depth 37 = false := by kernel_rfl
theorem run_neq_mem (x y : MemL) (w : World) : (binOp .neq 37 (MemV x) (MemV y)).run Try.prog w = .ok (.bool (!decide (x = y))) w := by
  have := run_equalIn_mem 9997 x y w
  unfold MemV at this ⊢
  rw [run_neq_struct, this]; rfl
theorem size_mem : (Try.prog.info? 37).map (·.size) = some 4 := by kernel_rfl
theorem run_load_mem {w : World} {g off : Nat} {x : MemL} (h : MemAt w g off x) : (loadVar 37 ⟨g, off, none⟩).run Try.prog w = .ok (MemV x) w := by
  obtain ⟨h0, h1, h2, h3⟩ := h
  have hl := run_loadCells_list (P := Try.prog) w ⟨g, off, none⟩ [.int .i64 x.id, .int .i64 x.inc, .int .i64 x.state, .int .i64 x.since] (fun j v hv => by
    have hadd : (⟨g, off, none⟩ : Addr).add j = ⟨g, off + j, none⟩ := by unfold Addr.add; split <;> simp_all
    rw [hadd]
    match j, hv with
    | 0, hv => cases hv; exact h0
    | 1, hv => cases hv; exact h1
    | 2, hv => cases hv; exact h2
    | 3, hv => cases hv; exact h3
    | n + 4, hv => simp at hv)
  have hi := size_mem
  cases hq : Try.prog.info? 37 with
  | none => rw [hq] at hi; cases hi
  | some i =>
    rw [hq] at hi
    simp only [Option.map_some, Option.some.injEq] at hi
    simp only [List.length_cons, List.length_nil] at hl
    simp [loadVar, isAgg, run_underlying Try.underlying37, sizeOf, typeInfo, hq, hi, hl, MemV]
theorem quiet_load_mem {W : World} {o : Oper} {a : Act} {K : Act → Prop} {p : Operand} {g off : Nat} {x : MemL} (ho : o.op = .load 37 p) (hp : a.eval p = .pointer (some ⟨g, off, none⟩)) (h : MemAt W g off x)
    (hK : K (a.put o.dst (.agg #[.int .i64 x.id, .int .i64 x.inc, .int .i64 x.state, .int .i64 x.since]))) : o.quiet Try.prog a (Grew W) K := by
  refine quiet_val (fun w hw => ?_) hK
  have := run_load_mem (h.of_new hw)
  unfold MemV at this
  unfold execOp
  simp only [ho, hp, Instr.loadAt, Instr.sureAddr, Sem.run_bind, Sem.run_pure, Result.andThen_ok, this]

theorem take_snoc_i {l : List Int} {k : Nat} (h : k < l.length) : l.take (k + 1) = l.take k ++ [l.getD k 0] := by
  rw [List.take_succ_eq_append_getElem h]
  simp [List.getD, List.getElem?_eq_getElem h]

def SameII (l m : List Int) (w : World) (iv : Value) (wr : World) : Prop := ∃ k : Nat, k ≤ l.length ∧ iv = .int .i64 (k : Int) ∧ l.take k = m.take k ∧ Below w.heap.size w wr

set_option maxRecDepth 100000 in
set_option maxHeartbeats 1600000 in
theorem SameInts_any (v u : Value) (l m : List Int) (w : World) (hl : Ints w v l) (hm : Ints w u m) :
    Calls Try.prog 28 #[v, u] w fun e w' => e = .returned (.bool (decide (l = m))) ∧ Below w.heap.size w w' := by
  have hle := hl.le
  have hme := hm.le
  obtain ⟨va, vc, hv⟩ := hl.len
  subst hv
  obtain ⟨ua, uc, hv⟩ := hm.len
  subst hv
  by_cases hlen : l.length = m.length
  · have t1 : ((l.length : Int) != (m.length : Int)) = false := by simp; omega
    have HLM := Lib.hid hlen
    go_enter Try.func28, Try.ntmps28
    clear hlen
    go_wp2
    go_loopw [5] (SameII l m w) (fun iv _ => l.length - (intOf iv).toNat)
    case atStart => exact ⟨0, by omega, rfl, by simp, Below.refl _ _⟩
    case round =>
      obtain ⟨k, hk, rfl, heq, hb⟩ := hrel
      have hl' := hl.of_new hb
      have hm' := hm.of_new hb
      have HQ := Lib.hid heq
      clear heq hl hm
      by_cases hlt : k < l.length
      · have t2 : (k : Int) < (l.length : Int) := by omega
        have t3 : (k : Int) < (m.length : Int) := by have := HLM.out; omega
        obtain ⟨b, off, c, hv, hbl1, hcell1⟩ := hl'.cell (by omega)
        obtain ⟨rfl, rfl⟩ : va = some ⟨b, off, none⟩ ∧ vc = c := by cases hv; exact ⟨rfl, rfl⟩
        clear hv
        obtain ⟨b2, off2, c2, hv, hbl2, hcell2⟩ := hm'.cell (by omega)
        obtain ⟨rfl, rfl⟩ : ua = some ⟨b2, off2, none⟩ ∧ uc = c2 := by cases hv; exact ⟨rfl, rfl⟩
        clear hv
        have h1 := fun w' (hw' : Grew wr w') => hw'.cell (hcell1 k hlt)
        have h2 := fun w' (hw' : Grew wr w') => hw'.cell (hcell2 k (show k < m.length by omega))
        have hs1 := take_snoc_i hlt
        have hs2 := take_snoc_i (show k < m.length by omega)
        have hg1 : l = m → l.getD k 0 = m.getD k 0 := fun e => by rw [e]
        have H1 := Lib.hid hs1
        have H2 := Lib.hid hs2
        have H3 := Lib.hid hg1
        have t7 : (k : Int).toNat = k := by omega
        clear hs1 hs2 hg1 hcell1 hcell2
        generalize l.getD k 0 = d1 at *
        generalize m.getD k 0 = d2 at *
        go_upto_region 6 with (fail)
        refine wp_region_grew (by kernel_rfl) (by kernel_rfl) ?_
        repeat (first
          | (go_big_quiet_want; (with_reducible apply quiet_load_at (ty := 23) (x := .tmp _)); rfl; rfl; assumption; go_simp; go_big_quiet_on)
          | (go_big_quiet_want; apply quiet_val; (intro w' hw'; go_simp; first | done | rfl); go_simp; go_big_quiet_on)
          | (go_big_quiet_skip))
        refine wpQuiet_nil ?_
        intro w5 hw5
        have hB5 := below_next' hb hw5 (by have := hb.size; omega)
        clear h1 h2
        by_cases hd : d1 = d2
        · have t4 : (d1 != d2) = false := by simp [hd]
          have HD := Lib.hid hd
          clear hd
          go_wp2
          exact ⟨⟨k + 1, by omega, by go_num, by rw [H1.out, H2.out, HQ.out, HD.out], hB5⟩, by simp [intOf]; omega⟩
        · have t4 : (d1 != d2) = true := by simp [hd]
          have HD := Lib.hid hd
          clear hd
          go_wp2
          go_ret
          exact ⟨ret_bool (by simp; exact fun e => HD.out (H3.out e)), hB5⟩
      · obtain rfl : k = l.length := by omega
        have t2 : ¬ (l.length : Int) < (l.length : Int) := by omega
        have he : l = m := by
          have := HQ.out
          rwa [List.take_of_length_le (Nat.le_refl _), List.take_of_length_le (by have := HLM.out; omega)] at this
        have HE := Lib.hid he
        clear he
        go_wp2
        go_ret
        exact ⟨ret_bool (by simp; exact HE.out), hb⟩
  · have t1 : ((l.length : Int) != (m.length : Int)) = true := by simp; omega
    have hne : l ≠ m := fun e => hlen (by rw [e])
    have HN := Lib.hid hne
    clear hne hlen
    go_enter Try.func28, Try.ntmps28
    go_wp2
    go_ret
    exact ⟨ret_bool (by simp; exact HN.out), Below.refl _ _⟩


theorem take_snoc_m {l : List MemL} {k : Nat} (h : k < l.length) : l.take (k + 1) = l.take k ++ [l.getD k mem0] := by
  rw [List.take_succ_eq_append_getElem h]
  simp [List.getD, List.getElem?_eq_getElem h]

def SameMI (l m : List MemL) (w : World) (iv : Value) (wr : World) : Prop := ∃ k : Nat, k ≤ l.length ∧ iv = .int .i64 (k : Int) ∧ l.take k = m.take k ∧ Below w.heap.size w wr

set_option maxRecDepth 100000 in
set_option maxHeartbeats 1600000 in
theorem SameMems_any (v u : Value) (l m : List MemL) (w : World) (hl : Mems w v l) (hm : Mems w u m) :
    Calls Try.prog 30 #[v, u] w fun e w' => e = .returned (.bool (decide (l = m))) ∧ Below w.heap.size w w' := by
  have hle := hl.le
  have hme := hm.le
  obtain ⟨va, vc, hv⟩ := hl.len
  subst hv
  obtain ⟨ua, uc, hv⟩ := hm.len
  subst hv
  have hgd := guard_mem
  by_cases hlen : l.length = m.length
  · have t1 : ((l.length : Int) != (m.length : Int)) = false := by simp; omega
    have HLM := Lib.hid hlen
    go_enter Try.func30, Try.ntmps30
    clear hlen
    go_wp2
    go_loopw [5] (SameMI l m w) (fun iv _ => l.length - (intOf iv).toNat)
    case atStart => exact ⟨0, by omega, rfl, by simp, Below.refl _ _⟩
    case round =>
      obtain ⟨k, hk, rfl, heq, hb⟩ := hrel
      have hl' := hl.of_new hb
      have hm' := hm.of_new hb
      have HQ := Lib.hid heq
      clear heq hl hm
      by_cases hlt : k < l.length
      · have t2 : (k : Int) < (l.length : Int) := by omega
        have t3 : (k : Int) < (m.length : Int) := by have := HLM.out; omega
        obtain ⟨b, off, c, hv, hbl1, hcell1⟩ := hl'.cell (by omega)
        obtain ⟨rfl, rfl⟩ : va = some ⟨b, off, none⟩ ∧ vc = c := by cases hv; exact ⟨rfl, rfl⟩
        clear hv
        obtain ⟨b2, off2, c2, hv, hbl2, hcell2⟩ := hm'.cell (by omega)
        obtain ⟨rfl, rfl⟩ : ua = some ⟨b2, off2, none⟩ ∧ uc = c2 := by cases hv; exact ⟨rfl, rfl⟩
        clear hv
        have h1 := hcell1 k hlt
        have h2 := hcell2 k (show k < m.length by omega)
        have hs1 := take_snoc_m hlt
        have hs2 := take_snoc_m (show k < m.length by omega)
        have hg1 : l = m → l.getD k mem0 = m.getD k mem0 := fun e => by rw [e]
        have H1 := Lib.hid hs1
        have H2 := Lib.hid hs2
        have H3 := Lib.hid hg1
        have hneq := run_neq_mem (l.getD k mem0) (m.getD k mem0)
        unfold MemV at hneq
        have t7 : (k : Int).toNat = k := by omega
        clear hs1 hs2 hg1 hcell1 hcell2
        generalize l.getD k mem0 = d1 at *
        generalize m.getD k mem0 = d2 at *
        have H11 := Lib.hid h1
        have H12 := Lib.hid h2
        clear h1 h2
        go_upto_region 6 with (fail)
        refine wp_region_grew (by kernel_rfl) (by kernel_rfl) ?_
        repeat (first
          | (go_big_quiet_want; (with_reducible apply quiet_load_mem (x := d2) (p := .tmp 23)); rfl; rfl; exact H12.out; go_simp; go_big_quiet_on)
          | (go_big_quiet_want; (with_reducible apply quiet_load_mem (x := d1) (p := .tmp 19)); rfl; rfl; exact H11.out; go_simp; go_big_quiet_on)
          | (go_big_quiet_want; (with_reducible apply quiet_load_at (ty := 23) (x := .tmp _)); rfl; rfl; assumption; go_simp; go_big_quiet_on)
          | (go_big_quiet_want; apply quiet_val; (intro w' hw'; go_simp; first | done | rfl); go_simp; go_big_quiet_on)
          | (go_big_quiet_skip))
        refine wpQuiet_nil ?_
        intro w5 hw5
        have hB5 := below_next' hb hw5 (by have := hb.size; omega)
        clear hneq
        by_cases hd : d1 = d2
        · have t4 : decide (d1 = d2) = true := by simp [hd]
          have HD := Lib.hid hd
          clear hd
          simp only [t4, Bool.not_true]
          go_wp2
          exact ⟨⟨k + 1, by omega, by go_num, by rw [H1.out, H2.out, HQ.out, HD.out], hB5⟩, by simp [intOf]; omega⟩
        · have t4 : decide (d1 = d2) = false := by simp [hd]
          have HD := Lib.hid hd
          clear hd
          simp only [t4, Bool.not_false]
          go_wp2
          go_ret
          exact ⟨ret_bool (by simp; exact fun e => HD.out (H3.out e)), hB5⟩
      · obtain rfl : k = l.length := by omega
        have t2 : ¬ (l.length : Int) < (l.length : Int) := by omega
        have he : l = m := by
          have := HQ.out
          rwa [List.take_of_length_le (Nat.le_refl _), List.take_of_length_le (by have := HLM.out; omega)] at this
        have HE := Lib.hid he
        clear he
        go_wp2
        go_ret
        exact ⟨ret_bool (by simp; exact HE.out), hb⟩
  · have t1 : ((l.length : Int) != (m.length : Int)) = true := by simp; omega
    have hne : l ≠ m := fun e => hlen (by rw [e])
    have HN := Lib.hid hne
    clear hne hlen
    go_enter Try.func30, Try.ntmps30
    go_wp2
    go_ret
    exact ⟨ret_bool (by simp; exact HN.out), Below.refl _ _⟩


end Go.Proofs.Ytnomekfemadpeaa

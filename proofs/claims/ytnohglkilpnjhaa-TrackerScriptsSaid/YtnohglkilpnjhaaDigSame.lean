/- The walk of the document's answer's Same at slices of hashes. No condition. -/
import Derived.Test.YtnohglkilpnjhaaGa
import Derived.Deep.DeepCutAuto
import Derived.Deep.Cut
import Derived.BigQuiet
namespace Go.Proofs.Ytnohglkilpnjhaa
open Go.RowKit
set_option linter.unusedVariables false
set_option linter.unusedSimpArgs false

theorem take_snoc_d {l : List (List UInt8)} {k : Nat} (h : k < l.length) : l.take (k + 1) = l.take k ++ [l.getD k []] := by
  rw [List.take_succ_eq_append_getElem h]
  simp [List.getD, List.getElem?_eq_getElem h]

def SameI (l m : List (List UInt8)) (w : World) (iv : Value) (wr : World) : Prop := ∃ k : Nat, k ≤ l.length ∧ iv = .int .i64 (k : Int) ∧ l.take k = m.take k ∧ Below w.heap.size w wr

set_option maxRecDepth 100000 in
set_option maxHeartbeats 1600000 in
theorem Same_any (v u : Value) (l m : List (List UInt8)) (w : World) (hl : Digs w v l) (hm : Digs w u m) :
    Calls Try.prog 19 #[v, u] w fun e w' => e = .returned (.bool (decide (l = m))) ∧ Below w.heap.size w w' := by
  have hle := hl.le
  have hme := hm.le
  unfold maxLen at hle hme
  obtain ⟨va, vc, hv⟩ := hl.len
  subst hv
  obtain ⟨ua, uc, hv⟩ := hm.len
  subst hv
  have hgd := guard_dig
  by_cases hlen : l.length = m.length
  · have t1 : ((l.length : Int) != (m.length : Int)) = false := by simp; omega
    have HLM := Lib.hid hlen
    go_enter Try.func19, Try.ntmps19
    clear hlen
    go_wp2
    go_loopw [5] (SameI l m w) (fun iv _ => l.length - (intOf iv).toNat)
    case atStart => exact ⟨0, by omega, rfl, by simp, Below.refl _ _⟩
    case round =>
      obtain ⟨k, hk, rfl, heq, hb⟩ := hrel
      have hl' := hl.of_new hb
      have hm' := hm.of_new hb
      have HQ := Lib.hid heq
      clear heq hl hm
      by_cases hlt : k < l.length
      · have t2 : (k : Int) < (l.length : Int) := by omega
        have t3 : (k : Int) < (m.length : Int) := by have := HLM.out; omega
        obtain ⟨b, off, c, hv⟩ := hl'.shape (by omega)
        obtain ⟨rfl, rfl⟩ : va = some ⟨b, off, none⟩ ∧ vc = c := by cases hv; exact ⟨rfl, rfl⟩
        clear hv
        obtain ⟨b2, off2, c2, hv⟩ := hm'.shape (by omega)
        obtain ⟨rfl, rfl⟩ : ua = some ⟨b2, off2, none⟩ ∧ uc = c2 := by cases hv; exact ⟨rfl, rfl⟩
        clear hv
        have h1 := hl'.digAt hlt
        have h2 := hm'.digAt (show k < m.length by omega)
        have hs1 := take_snoc_d hlt
        have hs2 := take_snoc_d (show k < m.length by omega)
        have hg1 : l = m → l.getD k [] = m.getD k [] := fun e => by rw [e]
        have H1 := Lib.hid hs1
        have H2 := Lib.hid hs2
        have H3 := Lib.hid hg1
        have hneq := run_neq_dig (l.getD k []) (m.getD k []) h1.1 h2.1
        clear hs1 hs2 hg1
        generalize l.getD k [] = d1 at *
        generalize m.getD k [] = d2 at *
        go_upto_region 6 with (fail)
        refine wp_region_grew (by kernel_rfl) (by kernel_rfl) ?_
        repeat (first
          | (go_big_quiet_want; (with_reducible apply quiet_load_at (ty := 30) (x := .tmp _)); rfl; rfl; assumption; go_simp; go_big_quiet_on)
          | (go_big_quiet_want; apply quiet_val; (intro w' hw'; go_simp; first | done | rfl); go_simp; go_big_quiet_on)
          | (go_big_quiet_skip))
        refine wpQuiet_nil ?_
        intro w5 hw5
        have hB5 := below_next' hb hw5 (by have := hb.size; omega)
        clear hneq
        by_cases hd : d1 = d2
        · have t4 : decide (d1 = d2) = true := by simp [hd]
          have HD := Lib.hid hd
          clear hd
          simp only [t4, Bool.not_true]
          go_wp2
          exact ⟨⟨k + 1, by omega, by go_num, by rw [H1.out, H2.out, HQ.out, HD.out], hB5⟩, by simp [intOf]; omega⟩
        · have t4 : decide (d1 = d2) = false := by simp [hd]
          have HD := Lib.hid hd
          clear hd
          simp only [t4, Bool.not_false]
          go_wp2
          go_ret
          exact ⟨ret_bool (by simp; exact fun e => HD.out (H3.out e)), hB5⟩
      · obtain rfl : k = l.length := by omega
        have t2 : ¬ (l.length : Int) < (l.length : Int) := by omega
        have he : l = m := by
          have := HQ.out
          rwa [List.take_of_length_le (Nat.le_refl _), List.take_of_length_le (by have := HLM.out; omega)] at this
        have HE := Lib.hid he
        clear he
        go_wp2
        go_ret
        exact ⟨ret_bool (by simp; exact HE.out), hb⟩
  · have t1 : ((l.length : Int) != (m.length : Int)) = true := by simp; omega
    have hne : l ≠ m := fun e => hlen (by rw [e])
    have HN := Lib.hid hne
    clear hne hlen
    go_enter Try.func19, Try.ntmps19
    go_wp2
    go_ret
    exact ⟨ret_bool (by simp; exact HN.out), Below.refl _ _⟩

end Go.Proofs.Ytnohglkilpnjhaa

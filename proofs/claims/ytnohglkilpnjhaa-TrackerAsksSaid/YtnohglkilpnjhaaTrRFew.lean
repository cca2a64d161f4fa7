/- The walks of the document's answer's small functions on peers: is it a number, a moment, a life; last, first, Same. No condition. -/
import Derived.Test.YtnohglkilpnjhaaTrRPlain
import Derived.Test.YtnohglkilpnjhaaGb
namespace Go.Proofs.Ytnohglkilpnjhaa
open Go.RowKit
set_option linter.unusedVariables false
set_option linter.unusedSimpArgs false
set_option maxRecDepth 100000

theorem RIsId_any (n : Int) (w : World) : Calls Try.prog 52 #[.int .i64 n] w fun e w' => e = .returned (.bool (within n 1 65536)) ∧ w' = w := by
  by_cases h1 : 1 ≤ n
  · by_cases h2 : n ≤ 65536
    · have e : within n 1 65536 = true := decide_eq_true ⟨h1, h2⟩
      rw [e]
      clear e
      go_enter Try.func52, Try.ntmps52
      go_wp2
      go_ret
      exact ⟨rfl, rfl⟩
    · have e : within n 1 65536 = false := decide_eq_false (fun h => h2 h.2)
      rw [e]
      clear e
      go_enter Try.func52, Try.ntmps52
      go_wp2
      go_ret
      exact ⟨rfl, rfl⟩
  · have e : within n 1 65536 = false := decide_eq_false (fun h => h1 h.1)
    rw [e]
    clear e
    go_enter Try.func52, Try.ntmps52
    go_wp2
    go_ret
    exact ⟨rfl, rfl⟩
theorem RIsMoment_any (n : Int) (w : World) : Calls Try.prog 53 #[.int .i64 n] w fun e w' => e = .returned (.bool (within n 0 1099511627776)) ∧ w' = w := by
  by_cases h1 : 0 ≤ n
  · by_cases h2 : n ≤ 1099511627776
    · have e : within n 0 1099511627776 = true := decide_eq_true ⟨h1, h2⟩
      rw [e]
      clear e
      go_enter Try.func53, Try.ntmps53
      go_wp2
      go_ret
      exact ⟨rfl, rfl⟩
    · have e : within n 0 1099511627776 = false := decide_eq_false (fun h => h2 h.2)
      rw [e]
      clear e
      go_enter Try.func53, Try.ntmps53
      go_wp2
      go_ret
      exact ⟨rfl, rfl⟩
  · have e : within n 0 1099511627776 = false := decide_eq_false (fun h => h1 h.1)
    rw [e]
    clear e
    go_enter Try.func53, Try.ntmps53
    go_wp2
    go_ret
    exact ⟨rfl, rfl⟩
theorem RIsLife_any (n : Int) (w : World) : Calls Try.prog 54 #[.int .i64 n] w fun e w' => e = .returned (.bool (within n 1 1048576)) ∧ w' = w := by
  by_cases h1 : 1 ≤ n
  · by_cases h2 : n ≤ 1048576
    · have e : within n 1 1048576 = true := decide_eq_true ⟨h1, h2⟩
      rw [e]
      clear e
      go_enter Try.func54, Try.ntmps54
      go_wp2
      go_ret
      exact ⟨rfl, rfl⟩
    · have e : within n 1 1048576 = false := decide_eq_false (fun h => h2 h.2)
      rw [e]
      clear e
      go_enter Try.func54, Try.ntmps54
      go_wp2
      go_ret
      exact ⟨rfl, rfl⟩
  · have e : within n 1 1048576 = false := decide_eq_false (fun h => h1 h.1)
    rw [e]
    clear e
    go_enter Try.func54, Try.ntmps54
    go_wp2
    go_ret
    exact ⟨rfl, rfl⟩

/-- A place of a slice of peers, later. -/
theorem peer_cells {w : World} {g off : Nat} {p : PeerL} (h : RPeer.At w g off p) : w.cell? ⟨g, off, none⟩ = some (.int .i64 p.id) ∧ w.cell? ⟨g, off + 1, none⟩ = some (.int .i64 p.till) ∧ w.cell? ⟨g, off + 2, none⟩ = some (.bool p.seed) :=
  ⟨h.2.2 0 (by decide), h.2.2 1 (by decide), h.2.2 2 (by decide)⟩

set_option maxHeartbeats 800000 in
theorem RLast_any (v : Value) (l : List PeerL) (w : World) (hl : RPeer.Row w v l) :
    Calls Try.prog 58 #[v] w fun e w' => e = .returned (.int .i64 (lastP l)) ∧ w' = w := by
  obtain ⟨a, c, hv⟩ := hl.len
  subst hv
  have hle := hl.le
  have HL := Lib.hid hl
  clear hl
  go_enter Try.func58, Try.ntmps58
  go_wp2
  go_loopw [3, 4] (fun nv iv W => ∃ k : Nat, k ≤ l.length ∧ iv = .int .i64 (k : Int) ∧ nv = .int .i64 (lastP (l.take k)) ∧ W = w) (fun _ iv _ => l.length - (intOf iv).toNat)
  case atStart => exact ⟨0, Nat.zero_le _, rfl, rfl, rfl⟩
  case round =>
    obtain ⟨k, hk, rfl, rfl, rfl⟩ := hrel
    by_cases hlt : k < l.length
    · obtain ⟨b, off, c', hv, hbl, hat⟩ := HL.out.at_ (by omega)
      obtain ⟨rfl, rfl⟩ : a = some ⟨b, off, none⟩ ∧ c = c' := by cases hv; exact ⟨rfl, rfl⟩
      obtain ⟨p, hp⟩ : ∃ p, l[k]? = some p := ⟨_, List.getElem?_eq_getElem hlt⟩
      have hc1 := (peer_cells (hat k p hp)).2.1
      replace hc1 : World.cell? _ ⟨b, off + k * 3 + 1, none⟩ = some (.int .i64 p.till) := hc1
      have hst := lastP_take hp
      have HST := Lib.hid hst
      obtain ⟨L, hL⟩ : ∃ L, lastP (l.take k) = L := ⟨_, rfl⟩
      rw [hL] at hst ⊢
      have HST := Lib.hid hst
      have hki : (k : Int) < (l.length : Int) := by omega
      clear hv hbl hat hp hst hL
      go_wp2
      all_goals
        go_roundw
        case rel => exact ⟨k + 1, by omega, by go_num, by rw [HST.out] <;> first | rfl | (congr 1; omega), trivial⟩
        case measure => simp [intOf]; omega
    · obtain rfl : k = l.length := by omega
      rw [List.take_length]
      obtain ⟨L, hL⟩ : ∃ L, lastP l = L := ⟨_, rfl⟩
      rw [hL]
      have hki : ¬ (l.length : Int) < (l.length : Int) := by omega
      have HLQ := Lib.hid hL
      clear hL
      go_wp2
      go_ret
      exact ⟨ret_int HLQ.out.symm, rfl⟩

theorem RLastB_any (v : Value) (l : List PeerL) (w : World) (hl : RPeer.Row w v l) : Calls Try.prog 58 #[v] w fun e w' => e = .returned (.int .i64 (lastP l)) ∧ Below w.heap.size w w' :=
  (RLast_any v l w hl).mono fun e w' ⟨h1, h2⟩ => ⟨h1, by rw [h2]; exact Below.refl _ _⟩

def FirstI (w : World) (l : List PeerL) (av iv : Value) (W : World) : Prop := ∃ k a : Nat, iv = .int .i64 (k : Int) ∧ av = .int .i64 (a : Int) ∧ AtP l k a ∧ Below w.heap.size w W
set_option maxHeartbeats 1600000 in
theorem RFirst_any (v : Value) (l : List PeerL) (w : World) (hl : RPeer.Row w v l) (h0 : 0 < l.length) :
    Calls Try.prog 57 #[v] w fun e w' => ∃ a : Nat, e = .returned (.int .i64 (a : Int)) ∧ AtP l l.length a ∧ Below w.heap.size w w' := by
  obtain ⟨va, c, hv⟩ := hl.len
  subst hv
  have hle := hl.le
  have HL := Lib.hid hl
  clear hl
  go_enter Try.func57, Try.ntmps57
  go_wp2
  go_loopw [3, 4] (fun av iv W => FirstI w l av iv W) (fun _ iv _ => l.length - (intOf iv).toNat)
  case atStart => exact ⟨1, 0, rfl, rfl, AtP.start h0, Below.refl _ _⟩
  case round =>
    obtain ⟨k, a, rfl, rfl, hat, hb⟩ := hrel
    have hak := hat.1
    by_cases hlt : k < l.length
    · obtain ⟨b, off, c', hv, hbl, hc⟩ := HL.out.at_ (by omega)
      obtain ⟨rfl, rfl⟩ : va = some ⟨b, off, none⟩ ∧ c = c' := by cases hv; exact ⟨rfl, rfl⟩
      obtain ⟨y, hy⟩ : ∃ p, l[k]? = some p := ⟨_, List.getElem?_eq_getElem hlt⟩
      obtain ⟨x, hx⟩ : ∃ p, l[a]? = some p := ⟨_, List.getElem?_eq_getElem (by omega)⟩
      have hy1 := peer_cells ((hc k y hy).of_new hb)
      have hx1 := peer_cells ((hc a x hx).of_new hb)
      have c1 := fun w' (h : Grew wr w') => (Grew.cell h hy1.1 : w'.cell? ⟨b, off + k * 3, none⟩ = _)
      have c2 := fun w' (h : Grew wr w') => (Grew.cell h hy1.2.1 : w'.cell? ⟨b, off + k * 3 + 1, none⟩ = _)
      have c3 := fun w' (h : Grew wr w') => (Grew.cell h hx1.1 : w'.cell? ⟨b, off + a * 3, none⟩ = _)
      have c4 := fun w' (h : Grew wr w') => (Grew.cell h hx1.2.1 : w'.cell? ⟨b, off + a * 3 + 1, none⟩ = _)
      have hst := hat.step hx hy
      have hki : (k : Int) < (l.length : Int) := by omega
      have hai : (a : Int) < (l.length : Int) := by omega
      have HST := Lib.hid hst
      have HB := Lib.hid hb
      clear hv hbl hc hx hy hy1 hx1 hst hat hb
      go_upto_region 5 with (fail)
      by_cases g1 : y.till < x.till
      · have hs2 := HST.out
        rw [if_pos (.inl g1)] at hs2
        have HS2 := Lib.hid hs2
        clear hs2
        refine wp_region_grew (by kernel_rfl) (by kernel_rfl) ?_
        repeat (first
          | (go_big_quiet_want; (with_reducible apply quiet_load_at (ty := 30) (x := .tmp _)); rfl; rfl; assumption; go_simp; go_big_quiet_on)
          | (go_big_quiet_want; apply quiet_val; (intro w' hw'; go_simp; first | done | rfl); go_simp; go_big_quiet_on)
          | (go_big_quiet_skip))
        refine wpQuiet_nil ?_
        intro w5 hw5
        have HB5 := Lib.hid (below_next HB.out hw5)
        clear hw5 c1 c2 c3 c4
        go_wp2
        go_roundw
        case rel => exact ⟨k + 1, k, by go_num, rfl, HS2.out, HB5.out⟩
        case measure => simp [intOf]; omega
      · by_cases g2 : y.till = x.till
        · have e2 : (y.till == x.till) = true := beq_iff_eq.2 g2
          by_cases g3 : x.id < y.id
          · have hs2 := HST.out
            rw [if_pos (.inr ⟨g2, g3⟩)] at hs2
            have HS2 := Lib.hid hs2
            clear hs2 g2
            refine wp_region_grew (by kernel_rfl) (by kernel_rfl) ?_
            repeat (first
              | (go_big_quiet_want; (with_reducible apply quiet_load_at (ty := 30) (x := .tmp _)); rfl; rfl; assumption; go_simp; go_big_quiet_on)
              | (go_big_quiet_want; apply quiet_val; (intro w' hw'; go_simp; first | done | rfl); go_simp; go_big_quiet_on)
              | (go_big_quiet_skip))
            refine wpQuiet_nil ?_
            intro w5 hw5
            have HB5 := Lib.hid (below_next HB.out hw5)
            clear hw5 c1 c2 c3 c4
            go_wp2
            go_roundw
            case rel => exact ⟨k + 1, k, by go_num, rfl, HS2.out, HB5.out⟩
            case measure => simp [intOf]; omega
          · have hs2 := HST.out
            rw [if_neg (fun h => h.elim g1 (fun h => g3 h.2))] at hs2
            have HS2 := Lib.hid hs2
            clear hs2 g2
            refine wp_region_grew (by kernel_rfl) (by kernel_rfl) ?_
            repeat (first
              | (go_big_quiet_want; (with_reducible apply quiet_load_at (ty := 30) (x := .tmp _)); rfl; rfl; assumption; go_simp; go_big_quiet_on)
              | (go_big_quiet_want; apply quiet_val; (intro w' hw'; go_simp; first | done | rfl); go_simp; go_big_quiet_on)
              | (go_big_quiet_skip))
            refine wpQuiet_nil ?_
            intro w5 hw5
            have HB5 := Lib.hid (below_next HB.out hw5)
            clear hw5 c1 c2 c3 c4
            go_wp2
            go_roundw
            case rel => exact ⟨k + 1, a, by go_num, rfl, HS2.out, HB5.out⟩
            case measure => simp [intOf]; omega
        · have e2 : (y.till == x.till) = false := beq_eq_false_iff_ne.2 g2
          have hs2 := HST.out
          rw [if_neg (fun h => h.elim g1 (fun h => g2 h.1))] at hs2
          have HS2 := Lib.hid hs2
          clear hs2
          refine wp_region_grew (by kernel_rfl) (by kernel_rfl) ?_
          repeat (first
            | (go_big_quiet_want; (with_reducible apply quiet_load_at (ty := 30) (x := .tmp _)); rfl; rfl; assumption; go_simp; go_big_quiet_on)
            | (go_big_quiet_want; apply quiet_val; (intro w' hw'; go_simp; first | done | rfl); go_simp; go_big_quiet_on)
            | (go_big_quiet_skip))
          refine wpQuiet_nil ?_
          intro w5 hw5
          have HB5 := Lib.hid (below_next HB.out hw5)
          clear hw5 c1 c2 c3 c4
          go_wp2
          go_roundw
          case rel => exact ⟨k + 1, a, by go_num, rfl, HS2.out, HB5.out⟩
          case measure => simp [intOf]; omega
    · obtain rfl : k = l.length := by have := hat.2.1; omega
      have hki : ¬ (l.length : Int) < (l.length : Int) := by omega
      go_wp2
      go_ret
      exact ⟨a, rfl, hat, hb⟩

set_option maxHeartbeats 1600000 in
theorem RSameP_any (v u : Value) (l m : List PeerL) (w : World) (hl : RPeer.Row w v l) (hm : RPeer.Row w u m) :
    Calls Try.prog 17 #[v, u] w fun e w' => e = .returned (.bool (decide (l = m))) ∧ Below w.heap.size w w' := by
  have hle := hl.le
  have hme := hm.le
  obtain ⟨va, vc, hv⟩ := hl.len
  subst hv
  obtain ⟨ua, uc, hv⟩ := hm.len
  subst hv
  have HL := Lib.hid hl
  have HM := Lib.hid hm
  clear hl hm
  by_cases hlen : l.length = m.length
  · have t1 : ((l.length : Int) != (m.length : Int)) = false := by simp; omega
    have HLM := Lib.hid hlen
    go_enter Try.func17, Try.ntmps17
    clear hlen
    go_wp2
    go_loopw [5] (fun iv W => ∃ k : Nat, k ≤ l.length ∧ iv = .int .i64 (k : Int) ∧ l.take k = m.take k ∧ Below w.heap.size w W) (fun iv _ => l.length - (intOf iv).toNat)
    case atStart => exact ⟨0, by omega, rfl, by simp, Below.refl _ _⟩
    case round =>
      obtain ⟨k, hk, rfl, heq, hb⟩ := hrel
      have HQ := Lib.hid heq
      clear heq
      by_cases hlt : k < l.length
      · have t2 : (k : Int) < (l.length : Int) := by omega
        have t3 : (k : Int) < (m.length : Int) := by have := HLM.out; omega
        obtain ⟨b, off, c', hv, hbl, hat⟩ := HL.out.at_ (by omega)
        obtain ⟨rfl, rfl⟩ : va = some ⟨b, off, none⟩ ∧ vc = c' := by cases hv; exact ⟨rfl, rfl⟩
        clear hv
        obtain ⟨b2, off2, c2, hv, hbl2, hat2⟩ := HM.out.at_ (by omega)
        obtain ⟨rfl, rfl⟩ : ua = some ⟨b2, off2, none⟩ ∧ uc = c2 := by cases hv; exact ⟨rfl, rfl⟩
        clear hv
        obtain ⟨x, hx⟩ : ∃ p, l[k]? = some p := ⟨_, List.getElem?_eq_getElem hlt⟩
        obtain ⟨y, hy⟩ : ∃ p, m[k]? = some p := ⟨_, List.getElem?_eq_getElem (by have := HLM.out; omega)⟩
        have hA := (hat k x hx).of_new hb
        have hB := (hat2 k y hy).of_new hb
        have HA := Lib.hid (fun w' (h : Grew wr w') => hA.of_new h)
        have HB2 := Lib.hid (fun w' (h : Grew wr w') => hB.of_new h)
        have H1 := Lib.hid (take_snoc_at hx)
        have H2 := Lib.hid (take_snoc_at hy)
        have H3 := Lib.hid (show l = m → x = y from fun e => by rw [e, hy] at hx; exact (Option.some.inj hx).symm)
        have HB := Lib.hid hb
        have hgd := fun (p q : Operand) (w' : World) => run_guard_peer .neq p q x y w'
        have hneq := run_neq_peer x y
        clear hat hat2 hbl hbl2 hx hy hA hB hb
        go_upto_region 6 with (fail)
        refine wp_region_grew (by kernel_rfl) (by kernel_rfl) ?_
        repeat (first
          | (go_big_quiet_want; (refine RecT.At.quiet HB2.out rfl rfl ?_); go_simp; go_big_quiet_on)
          | (go_big_quiet_want; (refine RecT.At.quiet HA.out rfl rfl ?_); go_simp; go_big_quiet_on)
          | (go_big_quiet_want; (with_reducible apply quiet_load_at (ty := 30) (x := .tmp _)); rfl; rfl; assumption; go_simp; go_big_quiet_on)
          | (go_big_quiet_want; apply quiet_val; (intro w' hw'; go_simp; first | done | rfl); go_simp; go_big_quiet_on)
          | (go_big_quiet_skip))
        refine wpQuiet_nil ?_
        intro w5 hw5
        have HB5 := Lib.hid (below_next HB.out hw5)
        clear hneq hgd hw5
        by_cases hd : x = y
        · have t4 : decide (x = y) = true := by simp [hd]
          have HD := Lib.hid hd
          clear hd
          simp only [t4, Bool.not_true]
          go_wp2
          go_roundw
          case rel => exact ⟨k + 1, by omega, by go_num, by rw [H1.out, H2.out, HQ.out, HD.out], HB5.out⟩
          case measure => simp [intOf]; omega
        · have t4 : decide (x = y) = false := by simp [hd]
          have HD := Lib.hid hd
          clear hd
          simp only [t4, Bool.not_false]
          go_wp2
          go_ret
          exact ⟨ret_bool (by simp; exact fun e => HD.out (H3.out e)), HB5.out⟩
      · obtain rfl : k = l.length := by omega
        have t2 : ¬ (l.length : Int) < (l.length : Int) := by omega
        have he : l = m := by
          have := HQ.out
          rwa [List.take_of_length_le (Nat.le_refl _), List.take_of_length_le (by have := HLM.out; omega)] at this
        have HE := Lib.hid he
        clear he
        go_wp2
        go_ret
        exact ⟨ret_bool (by simp; exact HE.out), hb⟩
  · have t1 : ((l.length : Int) != (m.length : Int)) = true := by simp; omega
    have hne : l ≠ m := fun e => hlen (by rw [e])
    have HN := Lib.hid hne
    clear hne hlen
    go_enter Try.func17, Try.ntmps17
    go_wp2
    go_ret
    exact ⟨ret_bool (by simp; exact HN.out), Below.refl _ _⟩

set_option maxHeartbeats 1600000 in
theorem RSameN_any (v u : Value) (l m : List Int) (w : World) (hl : Ints w v l) (hm : Ints w u m) :
    Calls Try.prog 33 #[v, u] w fun e w' => e = .returned (.bool (decide (l = m))) ∧ Below w.heap.size w w' := by
  have hle := hl.le
  have hme := hm.le
  obtain ⟨va, vc, hv⟩ := hl.len
  subst hv
  obtain ⟨ua, uc, hv⟩ := hm.len
  subst hv
  have HL := Lib.hid hl
  have HM := Lib.hid hm
  clear hl hm
  by_cases hlen : l.length = m.length
  · have t1 : ((l.length : Int) != (m.length : Int)) = false := by simp; omega
    have HLM := Lib.hid hlen
    go_enter Try.func33, Try.ntmps33
    clear hlen
    go_wp2
    go_loopw [5] (fun iv W => ∃ k : Nat, k ≤ l.length ∧ iv = .int .i64 (k : Int) ∧ l.take k = m.take k ∧ Below w.heap.size w W) (fun iv _ => l.length - (intOf iv).toNat)
    case atStart => exact ⟨0, by omega, rfl, by simp, Below.refl _ _⟩
    case round =>
      obtain ⟨k, hk, rfl, heq, hb⟩ := hrel
      have HQ := Lib.hid heq
      clear heq
      by_cases hlt : k < l.length
      · have t2 : (k : Int) < (l.length : Int) := by omega
        have t3 : (k : Int) < (m.length : Int) := by have := HLM.out; omega
        obtain ⟨b, off, c', hv, hbl, hat⟩ := HL.out.cell (by omega)
        obtain ⟨rfl, rfl⟩ : va = some ⟨b, off, none⟩ ∧ vc = c' := by cases hv; exact ⟨rfl, rfl⟩
        clear hv
        obtain ⟨b2, off2, c2, hv, hbl2, hat2⟩ := HM.out.cell (by omega)
        obtain ⟨rfl, rfl⟩ : ua = some ⟨b2, off2, none⟩ ∧ uc = c2 := by cases hv; exact ⟨rfl, rfl⟩
        clear hv
        have hA := (hb.cell (p := ⟨b, off + k, none⟩) hbl).trans (hat k hlt)
        have hB := (hb.cell (p := ⟨b2, off2 + k, none⟩) hbl2).trans (hat2 k (by have := HLM.out; omega))
        have H1 := Lib.hid (show l.take (k + 1) = l.take k ++ [l.getD k 0] by rw [List.take_succ_eq_append_getElem hlt]; simp [List.getD, List.getElem?_eq_getElem hlt])
        have hlt2 : k < m.length := by have := HLM.out; omega
        have H2 := Lib.hid (show m.take (k + 1) = m.take k ++ [m.getD k 0] by rw [List.take_succ_eq_append_getElem hlt2]; simp [List.getD, List.getElem?_eq_getElem hlt2])
        have H3 := Lib.hid (show l = m → l.getD k 0 = m.getD k 0 from fun e => by rw [e])
        generalize l.getD k 0 = x at *
        generalize m.getD k 0 = y at *
        have c1 := fun w' (h : Grew wr w') => Grew.cell h hA
        have c2 := fun w' (h : Grew wr w') => Grew.cell h hB
        have HB := Lib.hid hb
        clear hat hat2 hbl hbl2 hA hB hb
        go_upto_region 6 with (fail)
        rcases hd : (x != y) with _ | _
        · have HD := Lib.hid (show x = y by simpa using hd)
          refine wp_region_grew (by kernel_rfl) (by kernel_rfl) ?_
          repeat (first
            | (go_big_quiet_want; (with_reducible apply quiet_load_at (ty := 30) (x := .tmp _)); rfl; rfl; assumption; go_simp; go_big_quiet_on)
            | (go_big_quiet_want; apply quiet_val; (intro w' hw'; go_simp; first | done | rfl); go_simp; go_big_quiet_on)
            | (go_big_quiet_skip))
          refine wpQuiet_nil ?_
          intro w5 hw5
          have HB5 := Lib.hid (below_next HB.out hw5)
          clear c1 c2 hw5
          go_wp2
          go_roundw
          case rel => exact ⟨k + 1, by omega, by go_num, by rw [H1.out, H2.out, HQ.out, HD.out], HB5.out⟩
          case measure => simp [intOf]; omega
        · have HD := Lib.hid (show x ≠ y by simpa using hd)
          refine wp_region_grew (by kernel_rfl) (by kernel_rfl) ?_
          repeat (first
            | (go_big_quiet_want; (with_reducible apply quiet_load_at (ty := 30) (x := .tmp _)); rfl; rfl; assumption; go_simp; go_big_quiet_on)
            | (go_big_quiet_want; apply quiet_val; (intro w' hw'; go_simp; first | done | rfl); go_simp; go_big_quiet_on)
            | (go_big_quiet_skip))
          refine wpQuiet_nil ?_
          intro w5 hw5
          have HB5 := Lib.hid (below_next HB.out hw5)
          clear c1 c2 hw5
          go_wp2
          go_ret
          exact ⟨ret_bool (by simp; exact fun e => HD.out (H3.out e)), HB5.out⟩
      · obtain rfl : k = l.length := by omega
        have t2 : ¬ (l.length : Int) < (l.length : Int) := by omega
        have he : l = m := by
          have := HQ.out
          rwa [List.take_of_length_le (Nat.le_refl _), List.take_of_length_le (by have := HLM.out; omega)] at this
        have HE := Lib.hid he
        clear he
        go_wp2
        go_ret
        exact ⟨ret_bool (by simp; exact HE.out), hb⟩
  · have t1 : ((l.length : Int) != (m.length : Int)) = true := by simp; omega
    have hne : l ≠ m := fun e => hlen (by rw [e])
    have HN := Lib.hid hne
    clear hne hlen
    go_enter Try.func33, Try.ntmps33
    go_wp2
    go_ret
    exact ⟨ret_bool (by simp; exact HN.out), Below.refl _ _⟩

end Go.Proofs.Ytnohglkilpnjhaa

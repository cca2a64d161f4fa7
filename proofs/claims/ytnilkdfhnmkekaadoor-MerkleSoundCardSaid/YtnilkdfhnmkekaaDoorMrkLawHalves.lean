/- The walks of the laws MerkleHalves and MerkleDepths: they answer true. Condition: the table of constants as the program lays it. -/
import Derived.Test.YtnilkdfhnmkekaaDoorMrkLawLeaves
namespace Go.Proofs.YtnilkdfhnmkekaaDoor
open Go.RowKit
set_option linter.unusedVariables false

theorem aboveL_take : ∀ (l : List (List UInt8)) (k : Nat), 2 * k ≤ l.length → aboveL (l.take (2 * k)) = (aboveL l).take k
  | l, 0, _ => by simp [aboveL]
  | [], k + 1, h => by simp at h
  | [_], k + 1, h => by simp at h; omega
  | a :: b :: t, k + 1, h => by
    have := aboveL_take t k (by simp only [List.length_cons] at h; omega)
    rw [show 2 * (k + 1) = 2 * k + 1 + 1 by omega]
    simp only [List.take_succ_cons, aboveL]
    rw [this]
theorem aboveL_drop : ∀ (l : List (List UInt8)) (k : Nat), 2 * k ≤ l.length → aboveL (l.drop (2 * k)) = (aboveL l).drop k
  | l, 0, _ => by simp
  | [], k + 1, h => by simp at h
  | [_], k + 1, h => by simp at h; omega
  | a :: b :: t, k + 1, h => by
    have := aboveL_drop t k (by simp only [List.length_cons] at h; omega)
    rw [show 2 * (k + 1) = 2 * k + 1 + 1 by omega]
    simp only [List.drop_succ_cons, aboveL]
    exact this
theorem rootL_above {l : List (List UInt8)} (h : 0 < l.length) : rootL (aboveL l) = rootL l := by
  by_cases h1 : 1 < l.length
  · exact (rootL_step h1).symm
  · match l, h, h1 with
    | [a], _, _ => rfl
    | _ :: _ :: _, _, h1 => simp at h1
theorem rootL_halves (j : Nat) : ∀ l : List (List UInt8), 2 ^ j < l.length → l.length ≤ 2 * 2 ^ j → rootL l = nodeL (rootL (l.take (2 ^ j))) (rootL (l.drop (2 ^ j))) := by
  induction j with
  | zero =>
    intro l h1 h2
    match l, h1, h2 with
    | [a, b], _, _ => rfl
    | [_], h1, _ => simp at h1
    | [], h1, _ => simp at h1
    | _ :: _ :: _ :: _, _, h2 => simp at h2
  | succ j ih =>
    intro l h1 h2
    have h3 := ih (aboveL l) (by rw [aboveL_len]; rw [Nat.pow_succ] at h1; omega) (by rw [aboveL_len]; rw [Nat.pow_succ] at h2; omega)
    have hp : 0 < 2 ^ j := Nat.pow_pos (by omega)
    rw [Nat.pow_succ] at h1 h2 ⊢
    rw [rootL_step (by omega), h3, ← aboveL_take l _ (by omega), ← aboveL_drop l _ (by omega), rootL_above (by rw [List.length_take]; omega), rootL_above (by rw [List.length_drop]; omega), Nat.mul_comm (2 ^ j) 2]

theorem Digs.part {w : World} {v : Value} {l : List (List UInt8)} (h : Digs w v l) (low high : Option Value) (lo hi : Nat) (h1 : lo ≤ hi) (h2 : hi ≤ l.length) (hlow : (low = Option.none ∧ lo = 0) ∨ ∃ k, low = some (.int k (lo : Int))) (hhigh : (high = Option.none ∧ hi = l.length) ∨ ∃ k, high = some (.int k (hi : Int))) :
    ∃ v', (∀ W : World, (Instr.slice 22 v low high Option.none).run Tryd.prog W = .ok v' W) ∧ Digs w v' ((l.drop lo).take (hi - lo)) ∧ v'.ownBlock = v.ownBlock := by
  obtain ⟨i, hi0, hz, hsize, hby⟩ := info_parts infoDig
  obtain ⟨v', hr, hrow, hob⟩ := Row.run_part h.2 Tryd.underlying22 hi0 hsize low high lo hi h1 h2 hlow hhigh
  refine ⟨v', hr, ⟨fun d hd => h.1 d (List.mem_of_mem_drop (List.mem_of_mem_take hd)), ?_⟩, hob⟩
  have e : ((l.drop lo).take (hi - lo)).length = hi - lo := by simp; omega
  have e2 : flatD ((l.drop lo).take (hi - lo)) = ((flatD l).drop (lo * 32)).take ((hi - lo) * 32) := by
    rw [flatD_take (fun d hd => h.1 d (List.mem_of_mem_drop hd)), flatD_drop h.1]
  rw [e, e2]
  exact hrow

set_option maxRecDepth 100000 in
set_option maxHeartbeats 1600000 in
theorem MerkleHalves_walk (v : Value) (l : List (List UInt8)) (w : World) (hl : Digs w v l) (hK : Consts w) :
    Calls Tryd.prog 4 #[v] w fun e w' => e = .returned (.bool true) ∧ Below w.heap.size w w' := by
  have hle := hl.le
  unfold maxLen at hle
  obtain ⟨a, cp, hv⟩ := hl.len
  subst hv
  have hgd := guard_dig
  go_enter Tryd.func4, Tryd.ntmps4
  go_wp2_with fail
  refine (awake_any w hK).mono ?_
  rintro e w2 ⟨rfl, hb2⟩
  replace hl := hl.of_new hb2
  by_cases h2 : 2 ≤ l.length
  case neg =>
    have t2 : (l.length : Int) < 2 := by omega
    go_wp2
    go_ret
    exact ⟨rfl, hb2⟩
  have t2 : ¬ (l.length : Int) < 2 := by omega
  by_cases hs : l.length ≤ 300
  case neg =>
    have hs' : (300 : Int) < (l.length : Int) := by omega
    go_wp2
    go_ret
    exact ⟨rfl, hb2⟩
  have hs' : ¬ (300 : Int) < (l.length : Int) := by omega
  go_wp2
  go_loop [4] (fun kv => ∃ j : Nat, kv = .int .i64 ((2 ^ j : Nat) : Int) ∧ 2 ^ j < l.length) (fun kv => l.length - (intOf kv).toNat)
  case atStart => exact ⟨0, rfl, by simp; omega⟩
  case round =>
    obtain ⟨j, rfl, hj⟩ := hrel
    have hp : 0 < 2 ^ j := Nat.pow_pos (by omega)
    have hhalf := rootL_halves j l hj
    have hpow := Nat.pow_succ 2 j
    generalize hk : 2 ^ j = k at *
    by_cases hlt : 2 * k < l.length
    · have t3 : 2 * (k : Int) < (l.length : Int) := by omega
      clear hhalf
      have HK := Lib.hid hk
      have HP := Lib.hid hpow
      clear hk hpow
      go_wp2
      go_round
      case rel => exact ⟨j + 1, by rw [HP.out]; go_num, by rw [HP.out]; omega⟩
      case measure => simp [intOf]; omega
    · have t3 : ¬ 2 * (k : Int) < (l.length : Int) := by omega
      obtain ⟨v1, hr1, hl1, _⟩ := hl.part none (some (.int .i64 (k : Int))) 0 k (by omega) (by omega) (.inl ⟨rfl, rfl⟩) (.inr ⟨_, rfl⟩)
      obtain ⟨v2, hr2, hl2, _⟩ := hl.part (some (.int .i64 (k : Int))) none k l.length (by omega) (by omega) (.inr ⟨_, rfl⟩) (.inl ⟨rfl, rfl⟩)
      have e1 : (l.drop 0).take (k - 0) = l.take k := by simp
      have e2 : (l.drop k).take (l.length - k) = l.drop k := List.take_of_length_le (by simp)
      rw [e1] at hl1
      rw [e2] at hl2
      have HH := Lib.hid (hhalf (by omega))
      have q1 : (rootL (l.take k)).length = 32 := rootL_len hl1.1
      have q2 : (rootL (l.drop k)).length = 32 := rootL_len hl2.1
      have Q1 := Lib.hid q1
      have Q2 := Lib.hid q2
      have hlen1 : (l.take k).length ≤ 2048 := by simp; omega
      have hlen2 : (l.drop k).length ≤ 2048 := by simp; omega
      clear hhalf hk hpow e1 e2 q1 q2
      generalize l.take k = la at *
      generalize l.drop k = lb at *
      obtain ⟨a1, c1, hv⟩ := hl1.len
      subst hv
      obtain ⟨a2, c2, hv⟩ := hl2.len
      subst hv
      have heq1 := run_eql_dig_same (nodeL (rootL la) (rootL lb)) (nodeL_len _ _)
      go_upto_region 7 with (fail)
      refine wp_region_grew (by kernel_rfl) (by kernel_rfl) ?_
      repeat (first
        | (go_big_quiet_want; (with_reducible apply quiet_load_at (ty := 25) (x := .tmp _)); rfl; rfl; assumption; go_simp; go_big_quiet_on)
        | (go_big_quiet_want; apply quiet_val; (intro w' hw'; go_simp; first | done | rfl); go_simp; go_big_quiet_on)
        | (go_big_quiet_want; apply quiet_call (f := 13); (intro w' hw'; go_simp; first | done | rfl); (intro w' hw'; exact Grew.call hw' ((show Calls _ _ _ _ (fun e w'' => e = .returned (.agg ((nodeL (rootL la) (rootL lb)).map B8).toArray) ∧ Below w'.heap.size w' w'') by rw [← HH.out]; exact Root_any _ l w' (hl.of_new hw') (by omega) (hK.of_new (below_next hb2 hw'))))); go_simp; go_big_quiet_on)
        | (go_big_quiet_want; apply quiet_call (f := 13); (intro w' hw'; go_simp; first | done | rfl); (intro w' hw'; exact Grew.call hw' (Root_any _ la w' (hl1.of_new hw') hlen1 (hK.of_new (below_next hb2 hw')))); go_simp; go_big_quiet_on)
        | (go_big_quiet_want; apply quiet_call (f := 13); (intro w' hw'; go_simp; first | done | rfl); (intro w' hw'; exact Grew.call hw' (Root_any _ lb w' (hl2.of_new hw') hlen2 (hK.of_new (below_next hb2 hw')))); go_simp; go_big_quiet_on)
        | (go_big_quiet_want; apply quiet_call (f := 15); (intro w' hw'; go_simp; first | done | rfl); (intro w' hw'; exact Grew.call hw' (Node_any _ _ w' Q1.out Q2.out (hK.of_new (below_next hb2 hw')))); go_simp; go_big_quiet_on)
        | (go_big_quiet_skip))
      refine wpQuiet_nil ?_
      intro w9 hw9
      go_wp2
      go_ret
      exact ⟨rfl, below_next hb2 hw9⟩

end Go.Proofs.YtnilkdfhnmkekaaDoor

/- The walk of the law MerkleLeads: it answers true. Condition: the table of constants as the program lays it. -/
import Derived.Test.YtnilkdfhnmkekaaDoorMrkClashPlain
import Derived.Test.YtnilkdfhnmkekaaDoorMrkRefCheck
namespace Go.Proofs.YtnilkdfhnmkekaaDoor
open Go.RowKit
set_option linter.unusedVariables false
set_option linter.unusedSimpArgs false

theorem check_leads {l : List (List UInt8)} {i : Nat} (h : i < l.length) (hl : l.length ≤ 1024) : checkL (rootL l) (l.length : Int) (i : Int) (l.getD i []) (proofL l i) = true := by
  unfold checkL
  have h1 : rightB (l.length : Int) (i : Int) = true := by simp [rightB]; omega
  rw [h1, depth_proof l i h hl]
  have := leads _ l i (Nat.le_refl _) h hl
  simp only [Int.toNat_natCast, this, decide_true, Bool.and_self]
theorem proof_six {l : List (List UInt8)} {i k : Nat} (h : i < l.length) (hl : l.length ≤ 1024) (hk : l.length ≤ 2 ^ k) : (proofL l i).length ≤ k := by
  rw [proofL_count _ l i (Nat.le_refl _) h hl]
  have := cntP_le (walkN l.length i)
  have := walkP_len 1024 l.length i k hk
  unfold walkN at *
  omega

def LeadsI (w : World) (l : List (List UInt8)) (root : List UInt8) (v : Value) (g : Nat) (iv : Value) (wr : World) : Prop :=
  ∃ k : Nat, iv = .int .i64 (k : Int) ∧ k ≤ l.length ∧ Digs wr v l ∧ Octs wr g 25 root ∧ Below w.heap.size w wr

set_option maxRecDepth 100000 in
set_option maxHeartbeats 3200000 in
theorem MerkleLeads_walk (v : Value) (l : List (List UInt8)) (w : World) (hl : Digs w v l) (hK : Consts w) :
    Calls Tryd.prog 11 #[v] w fun e w' => e = .returned (.bool true) ∧ Below w.heap.size w w' := by
  have hle := hl.le
  unfold maxLen at hle
  obtain ⟨va, vc, hv⟩ := hl.len
  subst hv
  have hgd := guard_dig
  go_enter Tryd.func11, Tryd.ntmps11
  go_wp2_with fail
  refine (awake_any w hK).mono ?_
  rintro e w2 ⟨rfl, hb2⟩
  replace hl := hl.of_new hb2
  by_cases hs : l.length ≤ 60
  case neg =>
    have hs' : (60 : Int) < (l.length : Int) := by omega
    go_wp2
    go_ret
    exact ⟨rfl, hb2⟩
  have hs' : ¬ (60 : Int) < (l.length : Int) := by omega
  have hrl := rootL_len hl.1
  have hck := fun i (h : i < l.length) => check_leads h (by omega)
  have hsix := fun i (h : i < l.length) => proof_six (k := 6) h (by omega) (by simpa using (by omega : l.length ≤ 64))
  have hE := fun i (h : i < l.length) => (show proofE l (i : Int) = (proofL l i, 0) by unfold proofE; rw [if_pos (by omega)]; simp)
  have HC := Lib.hid hck
  have HS := Lib.hid hsix
  have HE := Lib.hid hE
  clear hck hsix hE
  go_wp2_with fail
  refine (Root_any _ l _ hl (by omega) (hK.of_new hb2)).mono ?_
  rintro e w3 ⟨rfl, hb3⟩
  replace hl := hl.of_new hb3
  generalize rootL l = root at *
  have hB3 := below_next' hb2 hb3 hb2.size
  go_wp2_with (first
    | ((with_reducible apply wpList_load_at (ty := 25) (x := .tmp _)); rfl; rfl; rfl; assumption)
    | ((with_reducible refine wpList_store_fresh (op := ⟨none, Op.store 25 (.tmp 4) (.tmp 19), _, _, _, _⟩) (.tmp 4) (.tmp 19) (root) ?_ ?_ ?_ ?_ ?_ ?_ ?_); rfl; rfl; rfl; rfl; rfl; exact hrl; intro w4 hr4 ho4 hb4 hz4; replace hl := hl.of_new hb4))
  have hB4 := below_next' hB3 hb4 hB3.size
  obtain ⟨g, hg⟩ : ∃ g, g = w3.heap.size := ⟨_, rfl⟩
  rw [← hg] at ho4 hz4 ⊢
  clear hr4 hb4 hB3 hb3 hb2 hg
  go_loopw [5] (LeadsI w l root (.slice va l.length vc) g) (fun iv _ => l.length - (intOf iv).toNat)
  case atStart => exact ⟨0, rfl, by omega, hl, ho4, hB4⟩
  case round =>
    clear hl ho4 hz4 hB4
    obtain ⟨k, rfl, hk, hl, ho, hB⟩ := hrel
    by_cases hlt : k < l.length
    · have t1 : (k : Int) < (l.length : Int) := by omega
      have hpr := Proof_any (.slice va l.length vc) l (k : Int) wr hl (by omega) (by omega) (hK.of_new hB)
      rw [HE.out k hlt] at hpr
      have hck := HC.out k hlt
      have hsx := HS.out k hlt
      go_wp2_with fail
      refine hpr.mono ?_
      rintro e w5 ⟨v5, rfl, ho5, hb5⟩
      clear hpr
      have hl5 := hl.of_new hb5
      have hor := ho.of_block (hb5.block _ (Array.getElem?_eq_some_iff.1 ho).1)
      have hB5 := below_next' hB hb5 hB.size
      have hp5 := ho5.digs
      obtain ⟨b, off, c, hv⟩ := hl5.shape (by omega)
      obtain ⟨rfl, rfl⟩ : va = some ⟨b, off, none⟩ ∧ vc = c := by cases hv; exact ⟨rfl, rfl⟩
      have hd1 := hl5.digAt hlt
      have hd2 := hor.digAt hrl
      have hK5 := hK.of_new hB5
      have hchk := fun w' (hw' : Grew w5 w') => Check_any root (l.getD k []) (l.length : Int) (k : Int) v5 (proofL l k) w' hrl hd1.1 (hp5.of_new hw') (hK5.of_new hw')
      rw [hck] at hchk
      have t2 : ¬ (6 : Int) < ((proofL l k).length : Int) := by omega
      clear hck ho5 hv hb5 hB ho hl hsx
      generalize proofL l k = p at *
      generalize l.getD k [] = d at *
      obtain ⟨pa, pc, hv⟩ := hp5.len
      subst hv
      go_wp2_with fail
      refine wp_region_grew (by kernel_rfl) (by kernel_rfl) ?_
      repeat (first
        | (go_big_quiet_want; (with_reducible apply quiet_load_at (ty := 25) (x := .tmp _)); rfl; rfl; assumption; go_simp; go_big_quiet_on)
        | (go_big_quiet_want; apply quiet_val; (intro w' hw'; go_simp; first | done | rfl); go_simp; go_big_quiet_on)
        | (go_big_quiet_want; apply quiet_call (f := 25); (intro w' hw'; go_simp; first | done | rfl); (intro w' hw'; exact Grew.call hw' (hchk w' hw')); go_simp; go_big_quiet_on)
        | (go_big_quiet_skip))
      refine wpQuiet_nil ?_
      intro w6 hw6
      have hl6 := hl5.of_new hw6
      have ho6 := hor.of_block (hw6.block _ (Array.getElem?_eq_some_iff.1 hor).1)
      have hB6 := below_next' hB5 hw6 hB5.size
      clear hchk hd1 hd2 hp5 hl5 hor hB5 hw6 hK5
      go_wp2
      exact ⟨⟨k + 1, by go_num, by omega, hl6, ho6, hB6⟩, by simp [intOf]; omega⟩
    · have t1 : ¬ (k : Int) < (l.length : Int) := by omega
      go_wp2
      go_ret
      exact ⟨rfl, hB⟩

end Go.Proofs.YtnilkdfhnmkekaaDoor

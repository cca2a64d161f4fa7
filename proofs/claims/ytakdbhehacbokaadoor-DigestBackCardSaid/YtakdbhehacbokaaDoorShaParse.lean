/- The walks of digest.Parse and the reference's Parse: the hash that signs are. Condition: a string no longer than a string may be. -/
import Derived.Test.YtakdbhehacbokaaDoorShaRefText
import Derived.Deep.DeepCutAuto
namespace Go.Proofs.YtakdbhehacbokaaDoor
open Go.RowKit
set_option linter.unusedVariables false

theorem results_cell_tmp {fn : Func} {p q : Tmp} {ty : TypeId} (h : fn.results = #[.cell p ty, .tmp q]) (tmps : Array Value) {P : Program} {w : World} {b : Nat} {v u : Value} (hp : tmps.getD p undef = .pointer (some ⟨b, 0, none⟩)) (hq : tmps.getD q undef = u)
    (hv : (loadVar ty ⟨b, 0, none⟩).run P w = .ok v w) : (results fn tmps).run P w = .ok (.tuple #[v, u]) w := by
  have hp' : tmps[p]?.getD undef = .pointer (some ⟨b, 0, none⟩) := by simpa using hp
  have hq' : tmps[q]?.getD undef = u := by simpa using hq
  simp [results, h, hp', hq', asAddr, hv]

theorem wpList_load_octs {P : Program} {ops : Array Oper} {rest : List Oper} {op : Oper} {a : Act} {w : World} {Q : Exit → Act → World → Prop} (ty : TypeId) (x : Operand) (g t : Nat) (ws : List UInt8) (n e : Nat) (hgd : op.guard = none) (ho : op.op = .load ty x)
    (hx : a.eval x = .pointer (some ⟨g, 0, none⟩)) (hg : Octs w g t ws) (hu : P.underlying ty = some (.array n e)) (hi : (P.info? ty).map (·.size) = some ws.length)
    (h : wpList P ops Q rest (a.put op.dst (.agg (ws.map B8).toArray)) w) : wpList P ops Q (op :: rest) a w :=
  wpList_load_row hgd ty x ho g hx _ _ _ _ hg hu rfl (by rw [hi]; simp) h

theorem index_str (l : List UInt8) (j : Nat) (hj : j < l.length) (W : World) : (Instr.index 9 (.string ⟨l.toArray⟩) (.int .i64 (j : Int))).run Tryd.prog W = .ok (.int .u8 ((l.getD j 0).toNat : Int)) W := by
  have e : (⟨l.toArray⟩ : ByteArray)[j]? = some (l.getD j 0) := by
    have h1 : j < (⟨l.toArray⟩ : ByteArray).size := by show j < l.toArray.size; simpa using hj
    rw [getElem?_pos (⟨l.toArray⟩ : ByteArray) j h1]
    congr 1
    show l.toArray[j]'(by simpa using hj) = _
    simp [List.getD_eq_getElem?_getD, List.getElem?_eq_getElem hj]
  simp only [Instr.index, Sem.run_bind, run_underlying Tryd.underlying9, asIntOf, Sem.run_pure, Result.andThen_ok]
  rw [if_pos (by omega)]
  simp only [Int.toNat_natCast, e, Sem.run_pure]

theorem shl_or (x v : Nat) (hx : x < 16) (hv : v < 16) : bits BinOp.or IntKind.u8 ((x : Int) * 16) (v : Int) = ((16 * x + v : Nat) : Int) := by
  have : ∀ x v : Fin 16, bits BinOp.or IntKind.u8 ((x.val : Int) * 16) (v.val : Int) = ((16 * x.val + v.val : Nat) : Int) := by decide +kernel
  exact this ⟨x, hx⟩ ⟨v, hv⟩

set_option maxRecDepth 100000 in
set_option maxHeartbeats 1600000 in
theorem Parse_any (l : List UInt8) (w : World) (hl : l.length ≤ 9223372036854775807) :
    Calls Tryd.prog 23 #[.string ⟨l.toArray⟩] w fun e w' => e = .returned (.tuple #[.agg ((parseL l).map B8).toArray, .int .i64 (parseE l)]) ∧ Below w.heap.size w w' := by
  have hsz : (⟨l.toArray⟩ : ByteArray).size = l.length := by show l.toArray.size = _; simp
  obtain ⟨s, hs⟩ : ∃ s : ByteArray, s = ⟨l.toArray⟩ := ⟨_, rfl⟩
  rw [← hs] at hsz ⊢
  have HIX := Lib.hid (fun j hj W => hs ▸ index_str l j hj W)
  have hsl : (s.size : Int) = (l.length : Int) := by omega
  clear hs
  go_enter Tryd.func23, Tryd.ntmps23
  go_upto_region 2 with (fail)
  generalize hW1 : (w.alloc _).alloc _ = W1
  obtain ⟨hR, hD, hb, hz⟩ : Octs W1 w.heap.size 25 (List.replicate 32 0) ∧ Octs W1 (w.heap.size + 1) 25 (List.replicate 32 0) ∧ Below w.heap.size w W1 ∧ w.heap.size + 2 = W1.heap.size := by
    subst hW1
    exact octs_pair w _ (List.replicate 32 0) (List.replicate 32 0) _ _ (by rfl) (by rfl)
  clear hW1
  by_cases h64 : l.length = 64
  case neg =>
    have t0 : ((s.size : Int) != 64) = true := by simp; omega
    have t1 : ((l.length : Int) != 64) = true := by simp; omega
    have hp : parseL l = List.replicate 32 0 ∧ parseE l = 2 := by
      unfold parseL parseE
      rw [if_neg (fun h => h64 h.1), if_neg (fun h => h64 h.1)]; exact ⟨rfl, rfl⟩
    have HP := Lib.hid hp
    have HR := Lib.hid hR
    have HD := Lib.hid hD
    clear hp hR hD h64
    go_wp2_with (first | ((with_reducible refine wpList_load_octs (op := ⟨some 11, Op.load 25 (.tmp 4), _, _, _, _⟩) 25 (.tmp 4) (w.heap.size + 1) 25 (List.replicate 32 0) 32 5 ?kg ?ko ?kx ?kh ?ku ?ki ?_); (case kg => rfl); (case ko => rfl); (case kx => rfl); (case kh => exact HD.out); (case ku => exact Tryd.underlying25); (case ki => kernel_rfl)) | ((with_reducible refine wpList_store_octs (op := ⟨none, Op.store 25 (.tmp 2) (.tmp 11), _, _, _, _⟩) 25 (.tmp 2) (.tmp 11) w.heap.size 25 (List.replicate 32 0) (List.replicate 32 0) ?lg ?lo ?lx ?ly ?lh ?li ?ls ?_); (case lg => rfl); (case lo => rfl); (case lx => rfl); (case ly => rfl); (case lh => exact HR.out); (case li => kernel_rfl); (case ls => rfl)))
    rw [HP.out.1, HP.out.2]
    refine bodyPost_ret (results_cell_tmp rfl _ rfl rfl (run_loadVar_row _ _ 25 _ ((List.replicate 32 (0 : UInt8)).map B8).toArray (0, 0) _ (setRow_heap _ _ _ _ _ _ HR.out) Tryd.underlying25 rfl (by rw [info_dig]; simp))) rfl ⟨rfl, ?_⟩
    exact hb.trans (below_setRow' _ _ _ (Nat.le_refl _))
  case pos =>
    have t0 : ((s.size : Int) != 64) = false := by simp; omega
    have t1 : (s.size : Int) = 64 := by omega
    have H64 := Lib.hid h64
    clear h64 hsl hsz
    go_wp2
    go_loopw [14] (fun iv wr => ∃ k : Nat, k ≤ 64 ∧ iv = .int .i64 k ∧ okTo l k = true ∧ Octs wr (w.heap.size + 1) 25 (laidN (numAt l) k) ∧ Octs wr w.heap.size 25 (List.replicate 32 0) ∧ Below w.heap.size w wr)
      (fun iv _ => 64 - (intOf iv).toNat)
    case atStart => exact ⟨0, by omega, rfl, rfl, by rw [laidN_zero]; exact hD, hR, hb⟩
    case round =>
      clear hD hR hb
      obtain ⟨k, hk, rfl, hok, hD, hR, hb⟩ := hrel
      by_cases hlt : k < 64
      · obtain ⟨c, hc⟩ : ∃ c, c = l.getD k 0 := ⟨_, rfl⟩
        have hix := HIX.out k (by rw [H64.out]; exact hlt)
        rw [← hc] at hix
        have hnum : numAt l k = valN c := by unfold numAt; rw [hc]
        obtain ⟨v, hv⟩ : ∃ v, v = valN c := ⟨_, rfl⟩
        have HV := Lib.hid hv
        have hok1 := okTo_next l k
        rw [hnum, ← hv, hok, Bool.true_and] at hok1
        have hlat := laidN_at (numAt l) k hlt
        have hlnx := laidN_next (numAt l) k hlt
        have jk : (k : Int) < 64 := by omega
        have HR := Lib.hid hR
        by_cases hv16 : v < 16
        · obtain ⟨x, hx⟩ : ∃ x : Nat, x = if k % 2 = 0 then 0 else numAt l (k - 1) := ⟨_, rfl⟩
          have hx16 : x < 16 := by
            rw [hx]
            split
            · omega
            · have : decide (numAt l (k - 1) < 16) = true := by
                unfold okTo at hok
                exact List.all_eq_true.1 hok (k - 1) (List.mem_range.2 (by omega))
              simpa using this
          have hcell := hD.cell (j := k / 2) (by rw [laidN_len]; omega)
          have hfr := hD.free (k / 2)
          have hxe : (laidN (numAt l) k).getD (k / 2) 0 = UInt8.ofNat x := by
            rw [hlat, hx]; split <;> rfl
          have hb8 : B8 (UInt8.ofNat x) = .int .u8 (x : Int) := by
            unfold B8; congr 1; simp; omega
          rw [hxe, hb8] at hcell
          have hnext : (laidN (numAt l) k).set (k / 2) (UInt8.ofNat (16 * x + v)) = laidN (numAt l) (k + 1) := by
            rw [← hlnx, hx, hnum, ← hv]
            congr 1
            split
            · rw [Nat.mul_zero, Nat.zero_add]
            · rfl
          have hst : Value.int .u8 (16 * (x : Int) + (v : Int)) = B8 (UInt8.ofNat (16 * x + v)) := by
            unfold B8; congr 1; simp; omega
          have hor := shl_or x v hx16 hv16
          have HN := Lib.hid hnext
          have HST := Lib.hid hst
          have HOK := Lib.hid (by rw [hok1]; simpa using hv16 : okTo l (k + 1) = true)
          have HD := Lib.hid hD
          have n0 : (0 : Int) ≤ (x : Int) := by omega
          have n1 : (x : Int) < 16 := by omega
          have d0 : (0 : Int) ≤ (k : Int) / 2 := by omega
          have d1 : (k : Int) / 2 < 32 := by omega
          clear hx hlat hlnx hxe hb8 hnext hst hok1 hD hR hnum hc hok hv
          go_wp2_with fail
          refine (Value_any c _).mono ?_
          rintro e w1 ⟨rfl, rfl⟩
          rw [← HV.out, if_pos hv16, decide_eq_true hv16]
          go_wp2
          go_roundw
          case rel =>
            refine ⟨k + 1, by omega, by go_num, HOK.out, ?_, HR.out.of_block (Below.heap_setCell _ _ _ _ (by simp)), hb.setCell (by simp) _⟩
            rw [HST.out, ← HN.out]
            exact HD.out.set (k / 2) _
          case measure => simp [intOf]; omega
        · have hp : parseL l = List.replicate 32 0 ∧ parseE l = 2 := by
            have hf := okTo_false l k 64 hlt (by rw [hnum, ← hv]; exact hv16)
            unfold parseL parseE
            rw [if_neg (fun h => by rw [hf] at h; cases h.2), if_neg (fun h => by rw [hf] at h; cases h.2)]; exact ⟨rfl, rfl⟩
          have HP := Lib.hid hp
          clear hp hlat hlnx hok1 hD hnum hc hok hv
          go_wp2_with fail
          refine (Value_any c _).mono ?_
          rintro e w1 ⟨rfl, rfl⟩
          rw [← HV.out, if_neg hv16, decide_eq_false hv16]
          go_wp2_with ((with_reducible refine wpList_store_octs (op := ⟨none, Op.store 25 (.tmp 2) (.tmp 26), _, _, _, _⟩) 25 (.tmp 2) (.tmp 26) w.heap.size 25 (List.replicate 32 0) (List.replicate 32 0) ?pg ?po ?px ?py ?ph ?pi ?ps ?_); (case pg => rfl); (case po => rfl); (case px => rfl); (case py => rfl); (case ph => exact HR.out); (case pi => kernel_rfl); (case ps => rfl))
          rw [HP.out.1, HP.out.2]
          refine bodyPost_ret (results_cell_tmp rfl _ rfl rfl (run_loadVar_row _ _ 25 _ ((List.replicate 32 (0 : UInt8)).map B8).toArray (0, 0) _ (setRow_heap _ _ _ _ _ _ HR.out) Tryd.underlying25 rfl (by rw [info_dig]; simp))) rfl ⟨rfl, ?_⟩
          exact hb.trans (below_setRow' _ _ _ (Nat.le_refl _))
      · obtain rfl : k = 64 := by omega
        have hp : parseL l = laidN (numAt l) 64 ∧ parseE l = 0 := by
          unfold parseL parseE
          rw [if_pos ⟨H64.out, hok⟩, if_pos ⟨H64.out, hok⟩]; exact ⟨rfl, rfl⟩
        have HP := Lib.hid hp
        have HLN := Lib.hid (laidN_len (numAt l) 64)
        have HR := Lib.hid hR
        have HD := Lib.hid hD
        clear hp hR hD hok
        rw [show ((64 : Nat) : Int) = 64 from rfl]
        go_wp2_with (first | ((with_reducible refine wpList_load_octs (op := ⟨some 38, Op.load 25 (.tmp 4), _, _, _, _⟩) 25 (.tmp 4) (w.heap.size + 1) 25 (laidN (numAt l) 64) 32 5 ?mg ?mo ?mx ?mh ?mu ?mi ?_); (case mg => rfl); (case mo => rfl); (case mx => rfl); (case mh => exact HD.out); (case mu => exact Tryd.underlying25); (case mi => rw [HLN.out]; kernel_rfl)) | ((with_reducible refine wpList_store_octs (op := ⟨none, Op.store 25 (.tmp 2) (.tmp 38), _, _, _, _⟩) 25 (.tmp 2) (.tmp 38) w.heap.size 25 (List.replicate 32 0) (laidN (numAt l) 64) ?ng ?no ?nx ?ny ?nh ?ni ?ns ?_); (case ng => rfl); (case no => rfl); (case nx => rfl); (case ny => rfl); (case nh => exact HR.out); (case ni => rw [HLN.out]; kernel_rfl); (case ns => rw [HLN.out]; rfl)))
        rw [HP.out.1, HP.out.2]
        refine bodyPost_ret (results_cell_tmp rfl _ rfl rfl (run_loadVar_row _ _ 25 _ ((laidN (numAt l) 64).map B8).toArray (0, 0) _ (setRow_heap _ _ _ _ _ _ HR.out) Tryd.underlying25 rfl (by rw [info_dig]; simp [laidN_len]))) rfl ⟨rfl, ?_⟩
        exact hb.trans (below_setRow' _ _ _ (Nat.le_refl _))

end Go.Proofs.YtakdbhehacbokaaDoor

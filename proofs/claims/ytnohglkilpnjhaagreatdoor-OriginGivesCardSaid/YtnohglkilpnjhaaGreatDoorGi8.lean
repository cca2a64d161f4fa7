/- Texts of this claim, one behind the other: each begins with a comment that says what it proves and asks. -/
import Derived.Test.YtnohglkilpnjhaaGreatDoorGi7
import Derived.Deep.DeepCutAuto
import Derived.Deep.RegionHeld3
import Derived.Lib.SlBytesConst
import Derived.ProofKit
import Derived.OpenShut
import Derived.ChangeOld
import Derived.Deep.Slices
import Derived.Deep.Fields
import Derived.Outline
/- The walk of digest.Sum: the hash of bytes. Conditions: the table of constants as the program lays it; no more than 2^40 bytes. -/
namespace Go.Proofs.YtnohglkilpnjhaaGreatDoor
open Go.RowKit
set_option linter.unusedVariables false

theorem run_load_state {w : World} {g t : Nat} {s : St} (h : Words w g t s.list) : (loadVar 204 ⟨g, 0, none⟩).run Tryz.prog w = .ok s.agg w :=
  h.run_load 204 151 8 Tryz.underlying204 (by kernel_rfl)

/-- A state read, as a step of a region. -/
theorem step_load_state {w : World} {ops : Array Oper} {o : Oper} {a : Act} {K : Act → World → Prop} {Q : Exit → Act → World → Prop} {E : Prop} (hgd : o.guard = Option.none) (x : Operand) (ho : o.op = .load 204 x)
    (g t : Nat) (s : St) (hx : a.eval x = .pointer (some ⟨g, 0, none⟩)) (hw : Words w g t s.list) (h : K (a.put o.dst s.agg) w) : if Region.wanted o (yielded ops a.tmps) = true then Oper.wp Tryz.prog o a w K Q else E := by
  rw [if_pos (by simp [Region.wanted, hgd])]
  unfold Oper.wp execOp
  simp only [ho, hx, Instr.loadAt, Instr.sureAddr, Sem.run_bind, Sem.run_pure, Result.andThen_ok, run_load_state hw]
  exact h

/-- A state laid, as a step of a region. -/
theorem step_store_state {w : World} {ops : Array Oper} {o : Oper} {a : Act} {K : Act → World → Prop} {Q : Exit → Act → World → Prop} {E : Prop} (hgd : o.guard = Option.none) (x y : Operand) (ho : o.op = .store 204 x y)
    (g t : Nat) (old s : St) (hx : a.eval x = .pointer (some ⟨g, 0, none⟩)) (hy : a.eval y = s.agg) (hw : Words w g t old.list) (h : K (a.put o.dst undef) (w.setRow g (s.list.map W32).toArray)) : if Region.wanted o (yielded ops a.tmps) = true then Oper.wp Tryz.prog o a w K Q else E := by
  rw [if_pos (by simp [Region.wanted, hgd])]
  have hy' : a.eval y = .agg (s.list.map W32).toArray := hy
  unfold Oper.wp execOp
  simp only [ho, hx, hy', Instr.storeAt, Instr.sureAddr, Sem.run_bind, Sem.run_pure, Result.andThen_ok, run_storeVar_row (P := Tryz.prog) w g t 204 (old.list.map W32).toArray (s.list.map W32).toArray hw (by kernel_rfl) (by rfl) (words_one _)]
  exact h

theorem box_two (w : World) (A B : Array Value) (s t : Nat) (xs : List UInt32) (hB : B = (xs.map W32).toArray) :
    Words ((w.alloc (.cells A s)).alloc (.cells B t)) (w.heap.size + 1) t xs ∧ Below w.heap.size w ((w.alloc (.cells A s)).alloc (.cells B t)) ∧ w.heap.size + 2 = ((w.alloc (.cells A s)).alloc (.cells B t)).heap.size := by
  subst hB
  refine ⟨?_, ((Below.refl _ w).alloc (Nat.le_refl _) _).alloc (by simp) _, by simp⟩
  have := heap_alloc_new (w.alloc (.cells A s)) (.cells (xs.map W32).toArray t)
  rw [World.size_alloc] at this
  exact this

theorem app_kept {w w1 : World} {o : Obj} {v : Value} {l : List UInt8} {base e : Nat} (ho1 : Own8 (w.alloc o) base e v l) (ho : Own8 w base e v l) (hs : base ≤ w.heap.size) (hg : (w.alloc o).grownBy w1 v.ownBlock) : Below base w w1 :=
  ((Below.refl _ w).alloc hs _).grown hg (by simp; omega) (fun j hj => (ho.lt j hj).1)

theorem len_byte (n j : Nat) : Value.int .u8 ((n : Int) * 8 / 2 ^ j % 256) = B8 (UInt8.ofNat (8 * n / 2 ^ j % 256)) := by
  unfold B8
  congr 1
  rw [UInt8.toNat_ofNat', Nat.mod_mod, Nat.mul_comm]
  simp

theorem lenBytes_next (n k : Nat) (h : k < 8) : (lenBytes n).take (k + 1) = (lenBytes n).take k ++ [UInt8.ofNat (8 * n / 2 ^ (56 - 8 * k) % 256)] := by
  unfold lenBytes
  rw [← List.map_take, ← List.map_take, List.take_range, List.take_range, Nat.min_eq_left (by omega), Nat.min_eq_left (by omega), List.range_succ, List.map_append]
  rfl

theorem outB_len (s : St) : (outB s).length = 32 := by simp [outB]
theorem w32_out (x : UInt32) (j : Nat) : Value.int .u8 (w32 x / 2 ^ j % 256) = B8 (UInt8.ofNat (x.toNat / 2 ^ j % 256)) := by
  unfold B8 w32
  congr 1
  rw [UInt8.toNat_ofNat', Nat.mod_mod]
  simp
theorem outB_next (s : St) (k : Nat) (h : k < 32) : ((outB s).take k ++ List.replicate (32 - k) 0).set k (UInt8.ofNat ((s.list.getD (k / 4) 0).toNat / 2 ^ (24 - 8 * (k % 4)) % 256)) = (outB s).take (k + 1) ++ List.replicate (32 - (k + 1)) 0 := by
  have hl : ((outB s).take k).length = k := by rw [List.length_take, outB_len]; omega
  have hn : (outB s).take (k + 1) = (outB s).take k ++ [UInt8.ofNat ((s.list.getD (k / 4) 0).toNat / 2 ^ (24 - 8 * (k % 4)) % 256)] := by
    unfold outB
    rw [← List.map_take, ← List.map_take, List.take_range, List.take_range, Nat.min_eq_left (by omega), Nat.min_eq_left (by omega), List.range_succ, List.map_append]
    rfl
  rw [hn, show 32 - k = (32 - (k + 1)) + 1 from by omega, List.replicate_succ]
  rw [List.set_append_right _ _ (by omega), hl, Nat.sub_self, List.set_cons_zero, List.append_assoc, List.singleton_append]

/-- A slice's length. -/

theorem lenV_of {w : World} {v : Value} {l : List UInt8} {base e : Nat} (h : Own8 w base e v l) : lenV v = l.length := by
  obtain ⟨a, c, rfl⟩ := h.bytes.len
  rfl

theorem sum_start (w : World) (A B : Array Value) (hA : A = ((List.replicate 32 (0 : UInt8)).map B8).toArray) (hB : B = (st0.list.map W32).toArray) (s t : Nat) :
    Octs ((w.alloc (.cells A s)).alloc (.cells B t)) w.heap.size s (List.replicate 32 0) ∧ Words ((w.alloc (.cells A s)).alloc (.cells B t)) (w.heap.size + 1) t st0.list ∧
      Below w.heap.size w ((w.alloc (.cells A s)).alloc (.cells B t)) ∧ w.heap.size + 2 = ((w.alloc (.cells A s)).alloc (.cells B t)).heap.size := by
  subst hA
  refine ⟨?_, box_two w _ B s t _ hB⟩
  exact (Below.heap_alloc _ _ _ (by simp)).trans (heap_alloc_new w _)

set_option maxRecDepth 100000 in
set_option maxHeartbeats 800000 in
theorem Sum_any (v : Value) (l : List UInt8) (w : World) (hl : Bytes w v l) (hlen : l.length ≤ 1099511627776) (hK : Consts w) :
    Calls Tryz.prog 73 #[v] w fun e w' => e = .returned (.agg ((sumL l).map B8).toArray) ∧ Below w.heap.size w w' := by
  obtain ⟨i0, hi, hz0, hz1, hz2⟩ := info_parts infoU8
  obtain ⟨a, cp, hv⟩ := hl.len
  subst hv
  have HL := Lib.hid hl
  have HK := Lib.hid hK
  clear hl hK
  go_enter Tryz.func73, Tryz.ntmps73
  go_wp2
  generalize hW1 : (w.alloc _).alloc _ = W1
  obtain ⟨hR, hS, hb, hsz⟩ : Octs W1 w.heap.size 31 (List.replicate 32 0) ∧ Words W1 (w.heap.size + 1) 204 st0.list ∧ Below w.heap.size w W1 ∧ w.heap.size + 2 = W1.heap.size := by
    subst hW1
    exact sum_start w _ _ (by rfl) (by rfl) _ _
  clear hW1
  go_loopw [5] (fun iv wr => ∃ n : Nat, n ≤ l.length / 64 ∧ iv = .int .i64 (64 * (n : Int)) ∧ Words wr (w.heap.size + 1) 204 (chunksTo l n).list ∧ Octs wr w.heap.size 31 (List.replicate 32 0) ∧ Below w.heap.size w wr ∧ w.heap.size + 2 ≤ wr.heap.size)
    (fun iv _ => l.length - (intOf iv).toNat)
  case atStart => exact ⟨0, by omega, rfl, hS, hR, hb, by omega⟩
  case round =>
    clear hS hR hb hsz
    obtain ⟨n, hn, rfl, hS, hR, hb, hsz⟩ := hrel
    by_cases hlt : n < l.length / 64
    · obtain ⟨r, hrun, hr, _⟩ := HL.out.part (P := Tryz.prog) (t := 33) Tryz.underlying33 hi hz1 (some (.int .i64 (64 * (n : Int)))) none (64 * n) l.length (by omega) (by omega) (.inr ⟨.i64, by simp⟩) (.inl ⟨rfl, rfl⟩)
      rw [List.take_of_length_le (by simp)] at hr
      have HS := Lib.hid hS
      have HR := Lib.hid hR
      have Hr := Lib.hid hr
      have hr1 := Lib.hid (Hr.out.of_new hb.drew)
      have hK1 := Lib.hid (HK.out.of_new hb.drew)
      clear hS hR hr
      go_wp2
      refine wp_region_any (by kernel_rfl) ?_
      change wpAny _ _ _ _ _ _ _ (World.drew _)
      refine wpAny_take (i := 1) (v := .slice a l.length cp) rfl (by kernel_rfl) (by kernel_rfl) (by kernel_rfl) (fun _ _ _ h => h) (Or.inl ⟨by rfl, fun w => by go_simp⟩) ?_
      refine wpAny_take (i := 2) (v := .int .i64 (64 * (n : Int))) rfl (by kernel_rfl) (by kernel_rfl) (by kernel_rfl) (fun _ _ _ h => h) (Or.inl ⟨by rfl, fun w => by go_simp⟩) ?_
      refine wpAny_take (i := 3) (v := r) rfl (by kernel_rfl) (by kernel_rfl) (by kernel_rfl) (fun _ _ _ h => h) (Or.inl ⟨by rfl, fun w => by go_simp⟩) ?_
      refine wpAny_ready (rs := [0]) (by kernel_rfl) (by simp) ?_
      refine AllReady.cons rfl (fun K hK => ?_) AllReady.nil
      refine step_load_state rfl (.tmp 3) rfl (w.heap.size + 1) 204 (chunksTo l n) rfl HS.out ?_
      refine hK _ _ ?_
      clear hK K
      refine wpAny_ready (rs := [4]) (by kernel_rfl) (by simp) ?_
      refine AllReady.cons rfl (fun K hK => ?_) AllReady.nil
      go_simp
      refine (take_any (chunksTo l n) r _ wr.drew hr1.out (by rw [List.length_drop]; omega) hK1.out).mono ?_
      rintro e w2 ⟨rfl, hb2⟩
      have hb3 := hb2.size
      have hS2 := HS.out.of_block (hb2.block _ (by show _ < wr.heap.size; omega))
      have hR2 := HR.out.of_block (hb2.block _ (by show _ < wr.heap.size; omega))
      have hbA := hb.drew.trans (hb2.mono (by show _ ≤ wr.heap.size; omega))
      have hszA : w.heap.size + 2 ≤ w2.heap.size := by
        have : wr.heap.size ≤ w2.heap.size := hb3
        omega
      refine hK _ _ ?_
      clear hK K hb2 hb3 HS HR
      refine wpAny_ready (rs := [5]) (by kernel_rfl) (by simp) ?_
      refine AllReady.cons rfl (fun K hK => ?_) AllReady.nil
      refine step_store_state rfl (.tmp 3) (.tmp 25) rfl (w.heap.size + 1) 204 (chunksTo l n) (takeL (chunksTo l n) (l.drop (64 * n))) rfl rfl hS2 ?_
      refine hK _ _ ?_
      clear hK K
      refine wpAny_done (by kernel_rfl) ?_ _
      go_wp2
      go_roundw
      case rel =>
        refine ⟨n + 1, by omega, by go_num, ?_, ?_, hbA.trans (below_setRow' _ _ _ (by omega)), by simpa [World.setRow] using hszA⟩
        · rw [chunksTo_next]
          exact hS2.laid _
        · exact hR2.of_block (by simp only [World.setRow, Array.getElem?_modify]; rw [if_neg (by omega)])
      case measure => simp [intOf]; omega
    · obtain rfl : n = l.length / 64 := by omega
      clear hlt
      obtain ⟨r, hrun, hr, hrb⟩ := HL.out.part (P := Tryz.prog) (t := 33) Tryz.underlying33 hi hz1 (some (.int .i64 ((l.length : Int) / 64 * 64))) none (l.length / 64 * 64) l.length (by omega) (by omega) (.inr ⟨.i64, by simp⟩) (.inl ⟨rfl, rfl⟩)
      rw [List.take_of_length_le (by simp)] at hr
      have HS := Lib.hid hS
      have HR := Lib.hid hR
      have Hr := Lib.hid (hr.of_new hb)
      have one1 : ∀ W : World, Bytes (W.alloc (.cells #[.int .u8 128] 5)) (.slice (some ⟨W.heap.size, 0, none⟩) 1 1) [128] := fun W => Bytes.one W 128 5
      clear hS hR hr hrb
      go_wp2_with fail
      refine (BClone_any r _ wr Hr.out (by rw [List.length_drop]; omega)).mono ?_
      rintro e w1 ⟨v1, rfl, ho1, hb1⟩
      have ho := Lib.hid (ho1.mono hsz)
      have hs1 := hb1.size
      have HS1 := Lib.hid (HS.out.of_block (hb1.block _ (by omega)))
      have HR1 := Lib.hid (HR.out.of_block (hb1.block _ (by omega)))
      have hbA := hb.trans (hb1.mono (by omega))
      have hszA : w.heap.size + 2 ≤ w1.heap.size := by omega
      have HO1 := Lib.hid (ho.out.alloc (.cells #[.int .u8 128] 5))
      clear ho1 hb1 HS HR hb Hr hs1 hsz
      go_wp2_with (at_builtin; refine wpList_app8 rfl (.tmp 29) (.tmp 30) 33 rfl (w.heap.size + 2) 5 i0 Tryz.underlying33 hi hz0 hz1 hz2 _ _ rfl HO1.out _ [128] rfl (one1 w1) ?c1 ?c2 ?_)
      case c1 => rw [List.length_drop]; simp; omega
      case c2 => simp; omega
      intro v2 w2 ho2 hg2 _
      have hb2 := app_kept HO1.out ho.out hszA hg2
      have hs2 := hb2.size
      have HS2 := Lib.hid (HS1.out.of_block (hb2.block _ (by omega)))
      have HR2 := Lib.hid (HR1.out.of_block (hb2.block _ (by omega)))
      have hbB := hbA.trans (hb2.mono (by omega))
      have hszB : w.heap.size + 2 ≤ w2.heap.size := by omega
      obtain ⟨t0, et0⟩ : ∃ x, x = l.drop (l.length / 64 * 64) := ⟨_, rfl⟩
      have ht0 : t0.length = l.length % 64 := by rw [et0, List.length_drop]; omega
      have Et0 := Lib.hid et0
      rw [← et0] at ho2
      clear HO1 HS1 HR1 hbA hb2 hg2 ho hs2 hszA et0
      go_wp2
      go_loopw [6] (fun tv wr => ∃ j : Nat, j ≤ zerosOf l.length ∧ Own8 wr (w.heap.size + 2) 5 tv (t0 ++ [128] ++ List.replicate j 0) ∧ Below (w.heap.size + 2) w2 wr)
        (fun tv _ => 64 + l.length % 64 + 1 - lenV tv)
      case atStart => exact ⟨0, by omega, by simpa using ho2, Below.refl _ _⟩
      case round =>
        clear ho2
        obtain ⟨j, hj, hown, hbr⟩ := hrel
        obtain ⟨T, eT⟩ : ∃ T, T = t0 ++ [128] ++ List.replicate j 0 := ⟨_, rfl⟩
        have hT : T.length = l.length % 64 + 1 + j := by rw [eT]; simp; omega
        have ET := Lib.hid eT
        rw [← eT] at hown
        have hlv := lenV_of hown
        obtain ⟨oa, oc, rfl⟩ := hown.bytes.len
        have HO := Lib.hid hown
        have hzz : zerosOf l.length < 64 := by unfold zerosOf; omega
        clear eT hown
        by_cases hne : (l.length % 64 + 1 + j) % 64 = 56
        · have hjj := zeros_end l.length j hne hj
          subst hjj
          go_wp2
          have hbC := hbB.trans (hbr.mono (by omega))
          have hsr := hbr.size
          have hszC : w.heap.size + 2 ≤ wr.heap.size := by omega
          have HS3 := Lib.hid (HS2.out.of_block (hbr.block _ (by omega)))
          have HR3 := Lib.hid (HR2.out.of_block (hbr.block _ (by omega)))
          have hTl : T.length = l.length % 64 + 1 + zerosOf l.length := hT
          have hff : (((l.length : Int) % 64 + 1 + (zerosOf l.length : Int)) % 64 != 56) = false := by simp; omega
          rw [hT, hff]
          clear HS2 HR2 hbB hszB hsr hbr hj hne hlv hT hff
          go_loopw [6, 39] (fun tv cv wx => ∃ k : Nat, k ≤ 8 ∧ cv = .int .i64 k ∧ Own8 wx (w.heap.size + 2) 5 tv (T ++ (lenBytes l.length).take k) ∧ Below (w.heap.size + 2) wr wx)
            (fun _ cv _ => 8 - (intOf cv).toNat)
          case atStart =>
            refine ⟨0, by omega, rfl, ?_, Below.refl _ _⟩
            have h0 := HO.out
            rw [hTl] at h0
            simpa using h0
          case round =>
            obtain ⟨k, hk, rfl, hown, hbx⟩ := hrel
            obtain ⟨X, eX⟩ : ∃ X, X = T ++ (lenBytes l.length).take k := ⟨_, rfl⟩
            have hX : X.length = l.length % 64 + 1 + zerosOf l.length + k := by rw [eX, List.length_append, List.length_take, lenBytes_len]; omega
            rw [← eX] at hown
            have EX := Lib.hid eX
            clear eX
            obtain ⟨oa, oc, rfl⟩ := hown.bytes.len
            have HX := Lib.hid hown
            clear hown
            by_cases hlt : k < 8
            · have HX1 := Lib.hid (HX.out.alloc (.cells #[.int .u8 ((l.length : Int) * 8 / 2 ^ (56 - 8 * k) % 256)] 5))
              have one1 : ∀ W : World, Bytes (W.alloc (.cells #[.int .u8 ((l.length : Int) * 8 / 2 ^ (56 - 8 * k) % 256)] 5)) (.slice (some ⟨W.heap.size, 0, none⟩) 1 1) [UInt8.ofNat (8 * l.length / 2 ^ (56 - 8 * k) % 256)] := fun W => by
                rw [len_byte]; exact Bytes.one W _ 5
              have hsx := hbx.size
              go_wp2_with (at_builtin; refine wpList_app8 rfl (.tmp 42) (.tmp 52) 33 rfl (w.heap.size + 2) 5 i0 Tryz.underlying33 hi hz0 hz1 hz2 _ _ rfl HX1.out _ [UInt8.ofNat (8 * l.length / 2 ^ (56 - 8 * k) % 256)] rfl (one1 wr) ?d1 ?d2 ?_)
              case d1 => rw [hX]; simp; omega
              case d2 => simp; omega
              intro v3 w3 ho3 hg3 _
              have hb3 := app_kept HX1.out HX.out (by omega) (by rw [← hX] at hg3; exact hg3)
              go_wp2
              go_roundw
              case rel =>
                refine ⟨k + 1, by omega, by go_num, ?_, hbx.trans hb3⟩
                rw [lenBytes_next _ _ hlt, ← List.append_assoc, ← EX.out]
                exact ho3
              case measure => simp [intOf]; omega
            · obtain rfl : k = 8 := by omega
              have eY : X = T ++ lenBytes l.length := by rw [EX.out, List.take_of_length_le (by rw [lenBytes_len]; omega)]
              rw [show ((8 : Nat) : Int) = 8 from rfl]
              have hsx := hbx.size
              have hbD := hbC.trans (hbx.mono (by omega))
              have HS4 := HS3.out.of_block (hbx.block _ (by omega))
              have HR4 := HR3.out.of_block (hbx.block _ (by omega))
              have eTail : X = tailL l := by rw [eY, ET.out, Et0.out, tailL_eq]
              have hszD : w.heap.size + 2 ≤ wr.heap.size := by omega
              have hXm : X.length % 64 = 0 := by rw [hX]; unfold zerosOf; omega
              have hXl : X.length < 200 := by rw [hX]; omega
              have HXO := Lib.hid HX.out
              have ETL := Lib.hid eTail
              have hKD := HK.out.of_new hbD
              clear HS3 HR3 hbC hbx EX eY ET Et0 HX hsx hszC hk hlt hzz eTail
              have HXX := Lib.hid hX
              clear hX
              go_wp2
              go_loopw [8] (fun iv wx => ∃ n : Nat, 64 * n ≤ X.length ∧ iv = .int .i64 (64 * (n : Int)) ∧ Words wx (w.heap.size + 1) 204 (chunksTo (padL l) (l.length / 64 + n)).list ∧ Octs wx w.heap.size 31 (List.replicate 32 0) ∧ Below w.heap.size w wx ∧ w.heap.size + 2 ≤ wx.heap.size ∧ Own8 wx (w.heap.size + 2) 5 (.slice oa X.length oc) X)
                (fun iv _ => X.length - (intOf iv).toNat)
              case atStart => exact ⟨0, by omega, rfl, by rw [Nat.add_zero, padL_whole _ _ (by omega)]; exact HS4, HR4, hbD, hszD, HXO.out⟩
              case round =>
                clear HS4 HR4 hbD
                clear HXO hKD hszD
                obtain ⟨n, hn, rfl, hS, hR, hbE, hszE, hown⟩ := hrel
                have HX := Lib.hid hown
                clear hown
                have HS := Lib.hid hS
                have HR := Lib.hid hR
                clear hS hR
                by_cases hlt : 64 * n < X.length
                · obtain ⟨r2, hrun2, hr2, _⟩ := HX.out.bytes.part (P := Tryz.prog) (t := 33) Tryz.underlying33 hi hz1 (some (.int .i64 (64 * (n : Int)))) none (64 * n) X.length (by omega) (by omega) (.inr ⟨.i64, by simp⟩) (.inl ⟨rfl, rfl⟩)
                  rw [List.take_of_length_le (by simp)] at hr2
                  have hXn : 64 * n + 64 ≤ X.length := by omega
                  have Hr := Lib.hid (hr2.of_new (below_drewn 1))
                  have hK1 := Lib.hid (HK.out.of_new hbE.drew)
                  clear hr2
                  go_wp2
                  refine wp_region_any (by kernel_rfl) ?_
                  change wpAny _ _ _ _ _ _ _ (World.drew _)
                  refine wpAny_take (i := 1) (v := .slice oa X.length oc) rfl (by kernel_rfl) (by kernel_rfl) (by kernel_rfl) (fun _ _ _ h => h) (Or.inl ⟨by rfl, fun w => by go_simp⟩) ?_
                  refine wpAny_take (i := 2) (v := .int .i64 (64 * (n : Int))) rfl (by kernel_rfl) (by kernel_rfl) (by kernel_rfl) (fun _ _ _ h => h) (Or.inl ⟨by rfl, fun w => by go_simp⟩) ?_
                  refine wpAny_take (i := 3) (v := r2) rfl (by kernel_rfl) (by kernel_rfl) (by kernel_rfl) (fun _ _ _ h => h) (Or.inl ⟨by rfl, fun w => by go_simp⟩) ?_
                  refine wpAny_ready (rs := [0]) (by kernel_rfl) (by simp) ?_
                  refine AllReady.cons rfl (fun K hK => ?_) AllReady.nil
                  refine step_load_state rfl (.tmp 3) rfl (w.heap.size + 1) 204 (chunksTo (padL l) (l.length / 64 + n)) rfl HS.out ?_
                  refine hK _ _ ?_
                  clear hK K
                  refine wpAny_ready (rs := [4]) (by kernel_rfl) (by simp) ?_
                  refine AllReady.cons rfl (fun K hK => ?_) AllReady.nil
                  go_simp
                  refine (take_any (chunksTo (padL l) (l.length / 64 + n)) r2 _ wr.drew Hr.out (by rw [List.length_drop]; omega) hK1.out).mono ?_
                  rintro e w2 ⟨rfl, hb2⟩
                  have hb3 : wr.heap.size ≤ w2.heap.size := hb2.size
                  have hb2' : Below wr.heap.size wr w2 := (below_drewn 1).trans hb2
                  have hS2 := HS.out.of_block (hb2'.block _ (by omega))
                  have hR2 := HR.out.of_block (hb2'.block _ (by omega))
                  have hbA := hbE.trans (hb2'.mono (by omega))
                  have hszA : w.heap.size + 2 ≤ w2.heap.size := by omega
                  have hX2 := HX.out.new hb2'
                  refine hK _ _ ?_
                  clear hK K hb2 hb3 HS HR
                  refine wpAny_ready (rs := [5]) (by kernel_rfl) (by simp) ?_
                  refine AllReady.cons rfl (fun K hK => ?_) AllReady.nil
                  refine step_store_state rfl (.tmp 3) (.tmp 65) rfl (w.heap.size + 1) 204 (chunksTo (padL l) (l.length / 64 + n)) (takeL (chunksTo (padL l) (l.length / 64 + n)) (X.drop (64 * n))) rfl rfl hS2 ?_
                  refine hK _ _ ?_
                  clear hK K
                  refine wpAny_done (by kernel_rfl) ?_ _
                  go_wp2
                  go_roundw
                  case rel =>
                    refine ⟨n + 1, by omega, by go_num, ?_, ?_, hbA.trans (below_setRow' _ _ _ (by omega)), by simpa [World.setRow] using hszA, hX2.kept (grown_setRow _ _ _) (.inr ?_)⟩
                    · rw [← Nat.add_assoc, padL_next, ← ETL.out]
                      exact hS2.laid _
                    · exact hR2.of_block (by simp only [World.setRow, Array.getElem?_modify]; rw [if_neg (by omega)])
                    · intro he
                      have := hX2.lt _ he
                      omega
                  case measure => simp [intOf]; omega
                · have hS4 := HS.out
                  have es : chunksTo (padL l) (l.length / 64 + n) = chunksTo (padL l) ((padL l).length / 64) := by
                    congr 1
                    have e1 := tailL_len l
                    rw [← ETL.out] at e1
                    have e2 := padL_len l
                    omega
                  rw [es] at hS4
                  obtain ⟨s, hs⟩ : ∃ s, s = chunksTo (padL l) ((padL l).length / 64) := ⟨_, rfl⟩
                  rw [← hs] at hS4
                  have hout : sumL l = outB s := by rw [hs]; rfl
                  have HOUT := Lib.hid hout
                  have HS4 := Lib.hid hS4
                  clear hS4 hs hout es HS HX ETL HXX
                  go_wp2
                  obtain ⟨W3, eW3⟩ : ∃ W, W = wr.alloc (.cells #[.int .u8 0, .int .u8 0, .int .u8 0, .int .u8 0, .int .u8 0, .int .u8 0, .int .u8 0, .int .u8 0, .int .u8 0, .int .u8 0, .int .u8 0, .int .u8 0, .int .u8 0, .int .u8 0, .int .u8 0, .int .u8 0, .int .u8 0, .int .u8 0, .int .u8 0, .int .u8 0, .int .u8 0, .int .u8 0, .int .u8 0, .int .u8 0, .int .u8 0, .int .u8 0, .int .u8 0, .int .u8 0, .int .u8 0, .int .u8 0, .int .u8 0, .int .u8 0] 31) := ⟨_, rfl⟩
                  rw [← eW3]
                  have hD0 : Octs W3 wr.heap.size 31 (List.replicate 32 0) := by
                    rw [eW3]; exact heap_alloc_new wr _
                  have hb3 : Below wr.heap.size wr W3 := by rw [eW3]; exact (Below.refl _ wr).alloc (Nat.le_refl _) _
                  have hS5 := HS4.out.of_block (hb3.block _ (by omega))
                  have hR5 := HR.out.of_block (hb3.block _ (by omega))
                  have hb5 := hbE.trans (hb3.mono (by omega))
                  obtain ⟨g, hg⟩ : ∃ g, g = wr.heap.size := ⟨_, rfl⟩
                  rw [← hg] at hD0 ⊢
                  have hg2 : w.heap.size + 2 ≤ g := by omega
                  clear HS4 HR hb3 eW3 hg hlt hn
                  go_loopw [66] (fun iv wx => ∃ k : Nat, k ≤ 32 ∧ iv = .int .i64 k ∧ Words wx (w.heap.size + 1) 204 s.list ∧ Octs wx w.heap.size 31 (List.replicate 32 0) ∧ Below w.heap.size w wx ∧ Octs wx g 31 ((outB s).take k ++ List.replicate (32 - k) 0))
                    (fun iv _ => 32 - (intOf iv).toNat)
                  case atStart => exact ⟨0, by omega, rfl, hS5, hR5, hb5, by simpa using hD0⟩
                  case round =>
                    clear hS5 hR5 hb5 hD0
                    obtain ⟨k, hk, rfl, hS, hR, hb, hD⟩ := hrel
                    by_cases hlt : k < 32
                    · obtain ⟨x, hx⟩ : ∃ x, x = s.list.getD (k / 4) 0 := ⟨_, rfl⟩
                      have hc := hS.cell (j := k / 4) (by show _ < 8; omega)
                      rw [← hx] at hc
                      unfold W32 at hc
                      have hfr := hD.free k
                      have hck := hD.cell (j := k) (by rw [List.length_append, List.length_take, outB_len, List.length_replicate]; omega)
                      have hq0 : (0 : Int) ≤ (k : Int) / 4 := by omega
                      have hq1 : (k : Int) / 4 < 8 := by omega
                      have HX := Lib.hid hx
                      have HS := Lib.hid hS
                      have HR := Lib.hid hR
                      have HD := Lib.hid hD
                      clear hx hS hR hD
                      go_wp2
                      go_roundw
                      case rel =>
                        refine ⟨k + 1, by omega, by go_num, HS.out.of_block (Below.heap_setCell _ _ _ _ (by simp; omega)), HR.out.of_block (Below.heap_setCell _ _ _ _ (by simp; omega)), hb.setCell (by simp; omega) _, ?_⟩
                        rw [w32_out, ← outB_next s k hlt]
                        rw [← HX.out]
                        exact HD.out.set k _
                      case measure => simp [intOf]; omega
                    · obtain rfl : k = 32 := by omega
                      rw [show 32 - 32 = 0 from rfl, List.replicate_zero, List.append_nil, List.take_of_length_le (by rw [outB_len]; omega)] at hD
                      rw [show ((32 : Nat) : Int) = 32 from rfl]
                      have HR := Lib.hid hR
                      have HB := Lib.hid hb
                      clear hR hb hS
                      go_wp2_with (first | (refine wpList_load_row rfl 31 _ rfl g rfl _ _ _ _ hD Tryz.underlying31 rfl ?hi ?_; (case hi => rw [info_dig]; simp [outB_len])) | (refine wpList_store_row rfl 31 _ _ rfl w.heap.size 31 _ _ rfl rfl HR.out ?hj ?hk (octs_one _) ?_; (case hj => rw [info_dig]; simp [outB_len]); (case hk => simp [outB_len])))
                      rw [HOUT.out]
                      refine bodyPost_ret (results_cell rfl _ rfl (run_loadVar_row _ _ 31 _ ((outB s).map B8).toArray (0, 0) _ (setRow_heap _ _ _ _ _ _ HR.out) Tryz.underlying31 rfl (by rw [info_dig]; simp [outB_len]))) rfl ⟨rfl, ?_⟩
                      exact HB.out.trans (below_setRow' _ _ _ (Nat.le_refl _))
        · have hj1 := zeros_step l.length j hne hj
          have HO1 := Lib.hid (HO.out.alloc (.cells #[.int .u8 0] 5))
          have one1 : ∀ W : World, Bytes (W.alloc (.cells #[.int .u8 0] 5)) (.slice (some ⟨W.heap.size, 0, none⟩) 1 1) [0] := fun W => Bytes.one W 0 5
          have hsr := hbr.size
          go_wp2_with (at_builtin; refine wpList_app8 rfl (.tmp 36) (.tmp 37) 33 rfl (w.heap.size + 2) 5 i0 Tryz.underlying33 hi hz0 hz1 hz2 _ _ rfl HO1.out _ [0] rfl (one1 wr) ?c1 ?c2 ?_)
          case c1 => rw [hT]; simp; omega
          case c2 => simp; omega
          intro v3 w3 ho3 hg3 _
          have hb3 := app_kept HO1.out HO.out (by omega) (by rw [← hT] at hg3; exact hg3)
          go_wp2
          go_roundw
          case rel =>
            refine ⟨j + 1, hj1, ?_, hbr.trans hb3⟩
            rw [List.replicate_succ', ← List.append_assoc, ← ET.out]
            exact ho3
          case measure =>
            have hl3 := lenV_of ho3
            rw [List.length_append, hT] at hl3
            simp only [List.length_singleton] at hl3
            omega

end Go.Proofs.YtnohglkilpnjhaaGreatDoor

/- Blocks of bytes laid and filled: general laws for the walks of hashes. No condition. -/
namespace Go.Proofs.YtnohglkilpnjhaaGreatDoor
open Go.RowKit
set_option linter.unusedVariables false

theorem sumL_len (l : List UInt8) : (sumL l).length = 32 := outB_len _

end Go.Proofs.YtnohglkilpnjhaaGreatDoor

/- Plain laws of the bytes of parts: how they are laid one behind the other, and that unlike ones are unlike bytes. No program in sight. No condition. -/
namespace Go.Proofs.YtnohglkilpnjhaaGreatDoor
set_option linter.unusedVariables false

/-- The eight bytes of a length, the least first. -/
def len8 (n : Nat) : List UInt8 := (List.range 8).map fun i => UInt8.ofNat (n / 256 ^ i % 256)
/-- A part, with its length ahead. -/
def partL (p : List UInt8) : List UInt8 := len8 p.length ++ p
/-- The bytes of which Tagged is the Sum. -/
def partsL (tag : UInt8) (ps : List (List UInt8)) : List UInt8 := [tag] ++ ps.flatMap partL

theorem len8_len (n : Nat) : (len8 n).length = 8 := by simp [len8]
theorem len8_next (n k : Nat) (h : k < 8) : (len8 n).take (k + 1) = (len8 n).take k ++ [UInt8.ofNat (n / 256 ^ k % 256)] := by
  unfold len8
  rw [← List.map_take, ← List.map_take, List.take_range, List.take_range, Nat.min_eq_left (by omega), Nat.min_eq_left (by omega), List.range_succ, List.map_append]
  rfl
theorem partL_len (p : List UInt8) : (partL p).length = 8 + p.length := by simp [partL, len8_len]

/-- The bytes of the first k parts. -/
theorem partsTo_next (tag : UInt8) (ps : List (List UInt8)) (k : Nat) (h : k < ps.length) : partsL tag (ps.take (k + 1)) = partsL tag (ps.take k) ++ len8 (ps.getD k []).length ++ ps.getD k [] := by
  unfold partsL
  rw [List.take_succ_eq_append_getElem h, List.flatMap_append]
  simp [partL, List.getD_eq_getElem?_getD, List.getElem?_eq_getElem h]

/-- How many bytes parts take at most. -/
theorem partsL_len (tag : UInt8) (ps : List (List UInt8)) (m : Nat) (h : ∀ p ∈ ps, p.length ≤ m) : (partsL tag ps).length ≤ 1 + ps.length * (8 + m) := by
  unfold partsL
  rw [List.length_append]
  have : (ps.flatMap partL).length ≤ ps.length * (8 + m) := by
    induction ps with
    | nil => simp
    | cons p ps ih =>
      have h1 := ih (fun x hx => h x (by simp [hx]))
      have h2 := h p (by simp)
      simp only [List.flatMap_cons, List.length_append, partL_len, List.length_cons, Nat.add_mul, Nat.one_mul]
      omega
  simp only [List.length_singleton]; omega

end Go.Proofs.YtnohglkilpnjhaaGreatDoor

/- From the reading of a law's argument to what the walks ask of it: slices of bytes, hashes by value, slices of slices of bytes. No condition. -/
namespace Go.Proofs.YtnohglkilpnjhaaGreatDoor
open Go.ChangeShapes Go.WideShapes Go.ChangeAt Go.RowKit Go.Deep
set_option linter.unusedVariables false
set_option linter.unusedSectionVars false

/-- The slice value v reads as the lists of bytes ps. -/
def PartsV (w : World) (v : Value) (ps : List (List UInt8)) : Prop :=
  ∃ (a : Option Addr) (c : Nat), v = .slice a ps.length c ∧ ps.length ≤ c ∧ c ≤ maxLen ∧ (a = none → c = 0) ∧
    (0 < ps.length → ∃ b off, a = some ⟨b, off, none⟩ ∧ b < w.heap.size ∧ ∀ i, i < ps.length → ∃ u, w.cell? ⟨b, off + i, none⟩ = some u ∧ Bytes w u (ps.getD i []))

theorem PartsV.of_new {w w' : World} {v : Value} {ps : List (List UInt8)} (h : PartsV w v ps) (hg : Below w.heap.size w w') : PartsV w' v ps := by
  obtain ⟨a, c, rfl, h1, h2, h3, h4⟩ := h
  refine ⟨a, c, rfl, h1, h2, h3, fun h0 => ?_⟩
  obtain ⟨b, off, rfl, hb, hc⟩ := h4 h0
  refine ⟨b, off, rfl, Nat.lt_of_lt_of_le hb hg.size, fun i hi => ?_⟩
  obtain ⟨u, hu, hub⟩ := hc i hi
  exact ⟨u, by rw [hg.cell (p := ⟨b, off + i, none⟩) hb, hu], hub.of_new hg⟩

theorem PartsV.len {w : World} {v : Value} {ps : List (List UInt8)} (h : PartsV w v ps) : ∃ a c, v = .slice a ps.length c := by
  obtain ⟨a, c, rfl, _⟩ := h
  exact ⟨a, c, rfl⟩
theorem PartsV.le {w : World} {v : Value} {ps : List (List UInt8)} (h : PartsV w v ps) : ps.length ≤ 9223372036854775807 := by
  obtain ⟨a, c, rfl, h1, h2, _⟩ := h
  unfold maxLen at h2; omega

section
variable {H : Type} {enc : TypeId × Value → H} {P : Program} {W : World} {base : Nat} {spare : Nat → Bool} {held : Bool}

theorem addr_none {w : World} {x : Addr} {u : Value} (h : w.cell? x = some u) : ∃ b off, x = ⟨b, off, none⟩ := by
  obtain ⟨b, off, s⟩ := x
  have := World.cell?_spot h
  simp only at this
  exact ⟨b, off, by rw [this]⟩

theorem addr_add (b off j : Nat) : (⟨b, off, none⟩ : Addr).add j = ⟨b, off + j, none⟩ := by
  unfold Addr.add; split <;> simp_all

theorem b8_of_wf {n : Int} (h : (Lit.int .u8 n).wf = true) : Value.int .u8 n = B8 (UInt8.ofNat n.toNat) := by
  simp [Lit.wf, IntKind.min, IntKind.max, IntKind.signed, IntKind.bits] at h
  unfold B8; congr 1; simp; omega

/-- A slice of bytes. -/
theorem bytes_of_trod {t e : TypeId} {fuel : Nat} {cs : List Value} {x : DataW H × List MemPlace} (ht : P.underlying t = some (.slice e)) (he : P.underlying e = some (.int .u8)) (hc : P.cellsOf e = 1)
    (h : DataW.trod enc P W base spare held fuel t cs = some x) : ∃ v l, cs = [v] ∧ Bytes W v l := by
  rcases open_ints ht he hc h with ⟨rfl, _⟩ | ⟨a, len, cap, zs, rfl, _, hl, hm, hz, _, hcell, hwz⟩
  · exact ⟨_, [], rfl, Bytes.of_nil⟩
  · have hlz : len ≤ zs.length := by rw [hz]; split <;> omega
    refine ⟨_, (zs.take len).map (fun n => UInt8.ofNat n.toNat), rfl, ?_⟩
    have hlen : ((zs.take len).map (fun n => UInt8.ofNat n.toNat)).length = len := by simp; omega
    unfold Bytes
    rw [hlen]
    refine ⟨by simp; omega, some a, cap, rfl, hl, hm, (fun h => by cases h), fun hne => ?_⟩
    have h0 := hcell 0 (by omega)
    have e0 : a.add 0 = a := rfl
    rw [e0] at h0
    obtain ⟨b, off, rfl⟩ := addr_none h0
    refine ⟨b, off, rfl, World.block_lt_of_cell? _ _ h0, fun j hj => ?_⟩
    have hj' : j < zs.length := by omega
    have := hcell j hj'
    rw [addr_add] at this
    rw [this, b8_of_wf (hwz _ (by rw [List.getD_eq_getElem?_getD, List.getElem?_eq_getElem hj']; exact List.getElem_mem hj'))]
    simp [List.getElem?_map, show j < len by omega, List.getElem?_eq_getElem hj', List.getD]

/-- A slice of slices of bytes. -/
theorem open_parts {t e f : TypeId} {v : Value} {d : DataW H} {p : List MemPlace} (ht : P.underlying t = some (.slice e)) (he : P.underlying e = some (.slice f)) (hf : P.underlying f = some (.int .u8)) (hce : P.cellsOf e = 1) (hcf : P.cellsOf f = 1)
    (hv : Value.okWide P W .any base t v) (h : DataW.Trod enc P W 0 spare held t v d p) : ∃ ps, PartsV W v ps := by
  obtain ⟨a0, len0, cap0, rfl⟩ := okWide_slice ht hv
  obtain ⟨fuel, hfu⟩ := h
  rcases open_slice ht hfu with ⟨hcs, _⟩ | ⟨a, len, cap, m, n, D, Pl, hcs, _, hl, hm, hmm, _, hx⟩
  · simp [Value.cells] at hcs
    obtain ⟨rfl, rfl, rfl⟩ := hcs
    exact ⟨[], none, 0, rfl, Nat.le_refl _, by unfold maxLen; omega, fun _ => rfl, fun h => by simp at h⟩
  · simp [Value.cells] at hcs
    obtain ⟨rfl, rfl, rfl⟩ := hcs
    have hlm : len0 ≤ m := by rw [hmm]; split <;> omega
    have one : ∀ i, i < len0 → ∃ y : Value × List UInt8, W.cell? (a.add i) = some y.1 ∧ Bytes W y.1 y.2 := by
      intro i hi
      obtain ⟨cs', hc, ht'⟩ := hx i (by omega)
      rw [hce, Nat.mul_one] at hc
      obtain ⟨_, hcl, hat⟩ := World.cells?_some hc
      obtain ⟨u, l, rfl, hb⟩ := bytes_of_trod he hf hcf ht'
      refine ⟨(u, l), ?_, hb⟩
      have := hat 0 (by omega)
      rw [show (a.add i).add 0 = a.add i from rfl] at this
      simpa using this
    obtain ⟨Y, hY⟩ := choose_lt (n := len0) (p := fun i (y : Value × List UInt8) => W.cell? (a.add i) = some y.1 ∧ Bytes W y.1 y.2) one
    refine ⟨(List.range len0).map (fun i => (Y i).2), some a, cap0, by simp, by simpa using hl, hm, (fun h => by cases h), fun h0 => ?_⟩
    have h0' : 0 < len0 := by simpa using h0
    have c0 := (hY 0 h0').1
    have e0 : a.add 0 = a := rfl
    rw [e0] at c0
    obtain ⟨b, off, rfl⟩ := addr_none c0
    refine ⟨b, off, rfl, World.block_lt_of_cell? _ _ c0, fun i hi => ?_⟩
    have hi' : i < len0 := by simpa using hi
    obtain ⟨g1, g2⟩ := hY i hi'
    rw [addr_add] at g1
    have e : ((List.range len0).map (fun i => (Y i).2)).getD i [] = (Y i).2 := by simp [List.getD, hi']
    rw [e]
    exact ⟨(Y i).1, g1, g2⟩

theorem bd_i64 {n : Int} (h : (Lit.int .i64 n).wf = true) : -9223372036854775808 ≤ n ∧ n ≤ 9223372036854775807 := by
  simp [Lit.wf, IntKind.min, IntKind.max, IntKind.signed, IntKind.bits] at h
  omega

end
end Go.Proofs.YtnohglkilpnjhaaGreatDoor

/- The walk of digest.Tagged: the hash of parts, of a kind. Conditions: the table of constants as the program lays it; no more than 40 parts of no more than 2^20 bytes. -/
namespace Go.Proofs.YtnohglkilpnjhaaGreatDoor
open Go.RowKit
set_option linter.unusedVariables false

theorem Own8.one (w : World) (A : Array Value) (t e : Nat) (x : UInt8) : Own8 ((w.alloc (.cells A t)).alloc (.cells #[.int .u8 (x.toNat : Int)] e)) (w.heap.size + 1) e (.slice (some ⟨w.heap.size + 1, 0, none⟩) 1 1) [x] := by
  refine ⟨rfl, .inr ⟨w.heap.size + 1, 1, #[.int .u8 (x.toNat : Int)], rfl, Nat.le_refl _, ?_, Nat.le_refl _, by unfold maxLen; omega, rfl, rfl⟩⟩
  have := heap_alloc_new (w.alloc (.cells A t)) (.cells #[.int .u8 (x.toNat : Int)] e)
  rwa [World.size_alloc] at this

theorem len8_byte (n j : Nat) : Value.int .u8 ((n : Int) / 2 ^ (8 * j) % 256) = B8 (UInt8.ofNat (n / 256 ^ j % 256)) := by
  unfold B8
  congr 1
  rw [UInt8.toNat_ofNat', Nat.mod_mod, show (256 : Nat) ^ j = 2 ^ (8 * j) from by rw [Nat.pow_mul]]
  simp

/-- The i-th part of a slice of parts. -/
theorem PartsV.at_ {w : World} {v : Value} {ps : List (List UInt8)} (h : PartsV w v ps) (h0 : 0 < ps.length) : ∃ b off c, v = .slice (some ⟨b, off, none⟩) ps.length c ∧ b < w.heap.size ∧ ∀ i, i < ps.length → ∃ a c, w.cell? ⟨b, off + i, none⟩ = some (.slice a (ps.getD i []).length c) ∧ Bytes w (.slice a (ps.getD i []).length c) (ps.getD i []) := by
  obtain ⟨a, c, rfl, _, _, _, h4⟩ := h
  obtain ⟨b, off, rfl, hb, hc⟩ := h4 h0
  refine ⟨b, off, c, rfl, hb, fun i hi => ?_⟩
  obtain ⟨u, hu, hub⟩ := hc i hi
  obtain ⟨a', c', rfl⟩ := hub.len
  exact ⟨a', c', hu, hub⟩

set_option maxRecDepth 100000 in
set_option maxHeartbeats 1600000 in
theorem Tagged_any (tag : UInt8) (v : Value) (ps : List (List UInt8)) (w : World) (hp : PartsV w v ps) (h40 : ps.length ≤ 40) (hm : ∀ p ∈ ps, p.length ≤ 1048576) (hK : Consts w) :
    Calls Tryz.prog 112 #[.int .u8 (tag.toNat : Int), v] w fun e w' => e = .returned (.agg ((sumL (partsL tag ps)).map B8).toArray) ∧ Below w.heap.size w w' := by
  obtain ⟨i0, hi, hz0, hz1, hz2⟩ := info_parts infoU8
  obtain ⟨va, vc, hv⟩ := hp.len
  subst hv
  have HP := Lib.hid hp
  have HK := Lib.hid hK
  have HM := Lib.hid hm
  have htot : ∀ k, (partsL tag (ps.take k)).length ≤ 41943401 := fun k => by
    have h1 := partsL_len tag (ps.take k) 1048576 (fun p hp => hm p (List.mem_of_mem_take hp))
    have h2 : (ps.take k).length ≤ 40 := by rw [List.length_take]; omega
    have h3 : (ps.take k).length * (8 + 1048576) ≤ 40 * (8 + 1048576) := Nat.mul_le_mul_right _ h2
    omega
  have HT := Lib.hid htot
  clear hp hK hm htot
  go_enter Tryz.func112, Tryz.ntmps112
  go_wp2
  generalize hW1 : (w.alloc _).alloc _ = W1
  obtain ⟨hO, hR, hb, hz⟩ : Own8 W1 (w.heap.size + 1) 5 (.slice (some ⟨w.heap.size + 1, 0, none⟩) 1 1) [tag] ∧ Octs W1 w.heap.size 31 (List.replicate 32 0) ∧ Below w.heap.size w W1 ∧ w.heap.size + 2 = W1.heap.size := by
    subst hW1
    exact ⟨Own8.one w _ _ _ tag, (Below.heap_alloc _ _ _ (by simp)).trans (heap_alloc_new w _), ((Below.refl _ w).alloc (Nat.le_refl _) _).alloc (by simp) _, by simp⟩
  clear hW1
  go_loopw [5, 13] (fun bv iv wr => ∃ k : Nat, k ≤ ps.length ∧ iv = .int .i64 k ∧ Own8 wr (w.heap.size + 1) 5 bv (partsL tag (ps.take k)) ∧ Octs wr w.heap.size 31 (List.replicate 32 0) ∧ Below w.heap.size w wr ∧ w.heap.size + 2 ≤ wr.heap.size)
    (fun _ iv _ => ps.length - (intOf iv).toNat)
  case atStart => exact ⟨0, by omega, rfl, hO, hR, hb, by omega⟩
  case round =>
    clear hO hR hb hz
    obtain ⟨k, hk, rfl, hO, hR, hb, hz⟩ := hrel
    obtain ⟨X, hX⟩ : ∃ X, X = partsL tag (ps.take k) := ⟨_, rfl⟩
    have hXl : X.length ≤ 41943401 := by rw [hX]; exact HT.out k
    rw [← hX] at hO
    obtain ⟨oa, oc, rfl⟩ := hO.bytes.len
    have HO := Lib.hid hO
    have HR := Lib.hid hR
    have HB := Lib.hid hb
    have EX := Lib.hid hX
    clear hO hR hb hX
    by_cases hlt : k < ps.length
    · obtain ⟨pb, poff, pc, hpv, hpb, hat⟩ := HP.out.at_ (by omega)
      obtain ⟨rfl, rfl⟩ : va = some ⟨pb, poff, none⟩ ∧ vc = pc := by cases hpv; exact ⟨rfl, rfl⟩
      obtain ⟨ua, uc, hcell, hu⟩ := hat k hlt
      obtain ⟨p, hp⟩ : ∃ p, p = ps.getD k [] := ⟨_, rfl⟩
      rw [← hp] at hcell hu
      have hpl : p.length ≤ 1048576 := by
        rw [hp, List.getD_eq_getElem?_getD, List.getElem?_eq_getElem hlt]; exact HM.out _ (List.getElem_mem hlt)
      have hc1 : wr.cell? ⟨pb, poff + k, none⟩ = some (.slice ua p.length uc) := (HB.out.cell (p := ⟨pb, poff + k, none⟩) hpb).trans hcell
      have HU := Lib.hid hu
      have EP := Lib.hid hp
      clear hpv hat hcell hu hp
      obtain ⟨wo, rfl⟩ : ∃ wo : World, wo = wr := ⟨_, rfl⟩
      go_wp2
      go_loopw [5, 8, 17] (fun bv _ jv wx => ∃ j : Nat, j ≤ 8 ∧ jv = .int .i64 j ∧ Own8 wx (w.heap.size + 1) 5 bv (X ++ (len8 p.length).take j) ∧ Below (w.heap.size + 1) wo wx)
        (fun _ _ jv _ => 8 - (intOf jv).toNat)
      case atStart => exact ⟨0, by omega, rfl, by simpa using HO.out, Below.refl _ _⟩
      case round =>
        obtain ⟨j, hj, rfl, hown, hbx⟩ := hrel
        obtain ⟨Y, hY⟩ : ∃ Y, Y = X ++ (len8 p.length).take j := ⟨_, rfl⟩
        have hYl : Y.length = X.length + j := by rw [hY, List.length_append, List.length_take, len8_len]; omega
        rw [← hY] at hown
        have EY := Lib.hid hY
        obtain ⟨ya, yc, rfl⟩ := hown.bytes.len
        have HY := Lib.hid hown
        have hsx := hbx.size
        clear hY hown
        by_cases hjt : j < 8
        · have HY1 := Lib.hid (HY.out.alloc (.cells #[.int .u8 ((p.length : Int) / 2 ^ (8 * j) % 256)] 5))
          have one1 : ∀ W : World, Bytes (W.alloc (.cells #[.int .u8 ((p.length : Int) / 2 ^ (8 * j) % 256)] 5)) (.slice (some ⟨W.heap.size, 0, none⟩) 1 1) [UInt8.ofNat (p.length / 256 ^ j % 256)] := fun W => by
            rw [len8_byte]; exact Bytes.one W _ 5
          have HYL := Lib.hid hYl
          clear hYl
          go_wp2_with (at_builtin; refine wpList_app8 rfl (.tmp 20) (.tmp 28) 33 rfl (w.heap.size + 1) 5 i0 Tryz.underlying33 hi hz0 hz1 hz2 _ _ rfl HY1.out _ [UInt8.ofNat (p.length / 256 ^ j % 256)] rfl (one1 wr) ?d1 ?d2 ?_)
          case d1 => rw [HYL.out]; simp; omega
          case d2 => simp; omega
          intro v3 w3 ho3 hg3 _
          have hb3 := app_kept HY1.out HY.out (by omega) hg3
          go_wp2
          go_roundw
          case rel =>
            refine ⟨j + 1, by omega, by go_num, ?_, hbx.trans hb3⟩
            rw [len8_next _ _ hjt, ← List.append_assoc, ← EY.out]
            exact ho3
          case measure => simp [intOf]; omega
        · obtain rfl : j = 8 := by omega
          have eY : Y = X ++ len8 p.length := by rw [EY.out, List.take_of_length_le (by rw [len8_len]; omega)]
          rw [show ((8 : Nat) : Int) = 8 from rfl]
          have HYL := Lib.hid hYl
          have HE := Lib.hid eY
          have HU1 := Lib.hid ((HU.out.of_new (HB.out.trans (hbx.mono (by omega)))))
          clear hYl eY hjt
          go_wp2_with (at_builtin; refine wpList_app8 rfl (.tmp 31) (.tmp 32) 33 rfl (w.heap.size + 1) 5 i0 Tryz.underlying33 hi hz0 hz1 hz2 _ _ rfl HY.out _ p rfl HU1.out ?d1 ?d2 ?_)
          case d1 => rw [HYL.out]; omega
          case d2 => omega
          intro v3 w3 ho3 hg3 _
          have hb3 : Below (w.heap.size + 1) wr w3 := (Below.refl _ _).grown hg3 (by omega) (fun q hq => (HY.out.lt q hq).1)
          go_wp2
          go_roundw
          case rel =>
            refine ⟨k + 1, by omega, by go_num, ?_, HR.out.of_block ((hbx.trans hb3).block _ (by omega)), HB.out.trans ((hbx.trans hb3).mono (by omega)), by have := hb3.size; omega⟩
            rw [partsTo_next _ _ _ hlt, ← EX.out, ← EP.out, ← HE.out]
            exact ho3
          case measure => simp [intOf]; omega
    · obtain rfl : k = ps.length := by omega
      have eX : X = partsL tag ps := by rw [EX.out, List.take_length]
      have HEX := Lib.hid eX
      have HDL := Lib.hid (sumL_len X)
      have HKr := Lib.hid (HK.out.of_new HB.out)
      clear eX hlt hk
      go_wp2_with fail
      refine (Sum_any _ X _ HO.out.bytes (by omega) HKr.out).mono ?_
      rintro e w2 ⟨rfl, hb2⟩
      have hR2 := Lib.hid (HR.out.of_block (hb2.block _ (by omega)))
      have hbF := Lib.hid (below_next HB.out hb2)
      clear hb2
      go_wp2_with ((with_reducible refine wpList_store_octs (op := ⟨none, Op.store 31 (.tmp 4) (.tmp 36), _, _, _, _⟩) 31 (.tmp 4) (.tmp 36) w.heap.size 31 (List.replicate 32 (0 : UInt8)) (sumL X) ?g ?ho ?hx ?hy ?hh ?hi ?hs ?_); (case g => rfl); (case ho => rfl); (case hx => rfl); (case hy => rfl); (case hh => exact hR2.out); (case hi => rw [HDL.out]; kernel_rfl); (case hs => rw [HDL.out]; rfl))
      rw [← HEX.out]
      refine bodyPost_ret (results_cell rfl _ rfl (run_loadVar_row _ _ 31 _ ((sumL X).map B8).toArray (0, 0) _ (setRow_heap _ _ _ _ _ _ hR2.out) Tryz.underlying31 rfl (by rw [info_dig]; simp [sumL_len]))) rfl ⟨rfl, ?_⟩
      exact hbF.out.trans (below_setRow' _ _ _ (Nat.le_refl _))

end Go.Proofs.YtnohglkilpnjhaaGreatDoor

/- The walks of the reference's turned, two and constants. Condition of turned: by 1 to 31 places. -/
namespace Go.Proofs.YtnohglkilpnjhaaGreatDoor
open Go.RowKit
set_option linter.unusedVariables false

theorem xor_or_apart (x n m : Nat) (hx : x < 4294967296) (h : n + m = 32) : x / 2 ^ n ^^^ x * 2 ^ m % 4294967296 = x * 2 ^ m % 4294967296 ||| x / 2 ^ n := by
  apply Nat.eq_of_testBit_eq
  intro i
  rw [Nat.testBit_xor, Nat.testBit_or, Nat.testBit_div_two_pow, show (4294967296 : Nat) = 2 ^ 32 from rfl, Nat.testBit_mod_two_pow, Nat.testBit_mul_two_pow]
  by_cases hi : m ≤ i
  · have : x.testBit (i + n) = false := Nat.testBit_lt_two_pow (Nat.lt_of_lt_of_le hx (by
      rw [show (4294967296 : Nat) = 2 ^ 32 from rfl]; exact Nat.pow_le_pow_right (by decide) (by omega)))
    simp [this]
  · have : decide (m ≤ i) = false := by simp; omega
    simp [this]

theorem w32_rotx (x : UInt32) (n m : Nat) (h : n + m = 32) : bits BinOp.xor IntKind.u32 (w32 x / 2 ^ n) (IntKind.u32.wrap (w32 x * 2 ^ m)) = w32 (rotr x n) := by
  have hx := x.toNat_lt
  have e1 : IntKind.u32.wrap (w32 x * 2 ^ m) = ((x.toNat * 2 ^ m % 4294967296 : Nat) : Int) := by
    rw [IntKind.wrap_u32']; unfold w32; simp
  have e2 : w32 x / 2 ^ n = ((x.toNat / 2 ^ n : Nat) : Int) := by unfold w32; simp
  have h1 : x.toNat / 2 ^ n < 4294967296 := Nat.lt_of_le_of_lt (Nat.div_le_self _ _) (by omega)
  rw [e1, e2, u32_xor_nat _ _ h1 (Nat.mod_lt _ (by decide)), w32_nat, rotr_nat, xor_or_apart _ _ _ (by omega) h, show 32 - n = m from by omega]

set_option maxRecDepth 100000 in
theorem turned_any (x : UInt32) (k : Int) (w : World) (h1 : 0 < k) (h2 : k < 32) : Calls Tryz.prog 115 #[.int .u32 (w32 x), .int .u64 k] w fun e w' => e = .returned (.int .u32 (w32 (rotr x k.toNat))) ∧ w = w' := by
  obtain ⟨n, rfl⟩ : ∃ n : Nat, k = n := ⟨k.toNat, by omega⟩
  have hn : n < 32 := by omega
  have e1 : (32 - (n : Int)).toNat = 32 - n := by omega
  go_enter Tryz.func115, Tryz.ntmps115
  go_wp2
  go_ret
  refine ⟨?_, rfl⟩
  exact ret_int (w32_rotx x n (32 - n) (by omega))

theorem maj_eq (a b c : UInt32) : a &&& b ||| a &&& c ||| b &&& c = maj a b c := by
  unfold maj
  apply UInt32.toBitVec_inj.1
  simp only [UInt32.toBitVec_or, UInt32.toBitVec_and]
  apply BitVec.eq_of_getLsbD_eq
  intro i hi
  simp only [BitVec.getLsbD_or, BitVec.getLsbD_and]
  cases a.toBitVec.getLsbD i <;> cases b.toBitVec.getLsbD i <;> cases c.toBitVec.getLsbD i <;> rfl

theorem ch_eq (e f g : UInt32) : e &&& f ||| ~~~e &&& g = ch e f g := by
  unfold ch
  apply UInt32.toBitVec_inj.1
  simp only [UInt32.toBitVec_or, UInt32.toBitVec_and, UInt32.toBitVec_xor, UInt32.toBitVec_not]
  apply BitVec.eq_of_getLsbD_eq
  intro i hi
  simp only [BitVec.getLsbD_or, BitVec.getLsbD_and, BitVec.getLsbD_xor, BitVec.getLsbD_not, hi, decide_true, Bool.true_and]
  cases e.toBitVec.getLsbD i <;> cases f.toBitVec.getLsbD i <;> cases g.toBitVec.getLsbD i <;> rfl

attribute [local go_sem] w32_add w32_xor w32_and w32_or

set_option maxRecDepth 100000 in
theorem two_any (a b c : UInt32) (w : World) : Calls Tryz.prog 116 #[.int .u32 (w32 a), .int .u32 (w32 b), .int .u32 (w32 c)] w fun e w' => e = .returned (.int .u32 (w32 (maj a b c))) ∧ w = w' := by
  rw [← maj_eq]
  go_enter Tryz.func116, Tryz.ntmps116
  go_wp2
  go_ret
  exact ⟨rfl, rfl⟩

end Go.Proofs.YtnohglkilpnjhaaGreatDoor

/- The walk of the reference's words: a chunk's words. Condition: 64 bytes or more. -/
namespace Go.Proofs.YtnohglkilpnjhaaGreatDoor
open Go.RowKit
set_option linter.unusedVariables false

/-- The first t of the sixteen words, and zeros. -/
def fw (b : List UInt8) (t : Nat) : List UInt32 := (List.range t).map (word4 b) ++ List.replicate (64 - t) 0

theorem fw_len (b : List UInt8) (t : Nat) (h : t ≤ 64) : (fw b t).length = 64 := by simp [fw]; omega
theorem fw_next (b : List UInt8) (t : Nat) (h : t < 16) : (fw b t).set t (word4 b t) = fw b (t + 1) := by
  unfold fw
  rw [show 64 - t = (64 - (t + 1)) + 1 from by omega, List.replicate_succ, set_mid _ _ _ _ _ (by simp), List.range_succ, List.map_append, List.append_assoc]
  rfl

theorem word_at (a b c d : UInt8) : ((a.toNat : Int) % 4294967296 * 16777216 + (b.toNat : Int) % 4294967296 * 65536 + (c.toNat : Int) % 4294967296 * 256 + (d.toNat : Int)) % 4294967296 =
    w32 (UInt32.ofNat ((a.toNat * 16777216 + b.toNat * 65536 + c.toNat * 256 + d.toNat) % 4294967296)) := by
  have ha := a.toNat_lt
  have hb := b.toNat_lt
  have hc := c.toNat_lt
  have hd := d.toNat_lt
  rw [w32_nat, UInt32.toNat_ofNat', Nat.mod_mod]
  omega

attribute [local go_sem] w32_add w32_xor w32_shr10 w32_shr3

set_option maxRecDepth 100000 in
set_option maxHeartbeats 1600000 in
theorem words_any (v : Value) (l : List UInt8) (w : World) (hl : Bytes w v l) (h64 : 64 ≤ l.length) :
    Calls Tryz.prog 113 #[v] w fun e w' => e = .returned (.agg ((wordsL l).map W32).toArray) ∧ Below w.heap.size w w' := by
  obtain ⟨b, off, cp, hv, hbl, hc⟩ := hl.cell (by omega)
  subst hv
  have HC := Lib.hid hc
  clear hc hl
  go_enter Tryz.func113, Tryz.ntmps113
  go_wp2
  go_loopw [4] (fun iv wr => ∃ t : Nat, t ≤ 16 ∧ iv = .int .i64 t ∧ Words wr (w.heap.size + 1) 199 (fw l t) ∧ Words wr w.heap.size 199 (List.replicate 64 0) ∧ Below w.heap.size w wr)
    (fun iv _ => 16 - (intOf iv).toNat)
  case atStart => exact ⟨0, by omega, rfl, (words_two w _ _ _ (by rfl)).1, (words_two w _ _ _ (by rfl)).2, ((Below.refl _ w).alloc (Nat.le_refl _) _).alloc (by simp) _⟩
  case round =>
    obtain ⟨t, ht, rfl, hW, hR, hb⟩ := hrel
    by_cases hlt : t < 16
    · have c0 := (hb.cell (p := ⟨b, off + 4 * t, none⟩) hbl).trans (HC.out (4 * t) (by omega))
      have c1 := (hb.cell (p := ⟨b, off + (4 * t + 1), none⟩) hbl).trans (HC.out (4 * t + 1) (by omega))
      have c2 := (hb.cell (p := ⟨b, off + (4 * t + 2), none⟩) hbl).trans (HC.out (4 * t + 2) (by omega))
      have c3 := (hb.cell (p := ⟨b, off + (4 * t + 3), none⟩) hbl).trans (HC.out (4 * t + 3) (by omega))
      have hx : word4 l t = UInt32.ofNat (((l.getD (4 * t) 0).toNat * 16777216 + (l.getD (4 * t + 1) 0).toNat * 65536 + (l.getD (4 * t + 2) 0).toNat * 256 + (l.getD (4 * t + 3) 0).toNat) % 4294967296) := rfl
      obtain ⟨b0, e0⟩ : ∃ x, x = l.getD (4 * t) 0 := ⟨_, rfl⟩
      obtain ⟨b1, e1⟩ : ∃ x, x = l.getD (4 * t + 1) 0 := ⟨_, rfl⟩
      obtain ⟨b2, e2⟩ : ∃ x, x = l.getD (4 * t + 2) 0 := ⟨_, rfl⟩
      obtain ⟨b3, e3⟩ : ∃ x, x = l.getD (4 * t + 3) 0 := ⟨_, rfl⟩
      rw [← e0, ← e1, ← e2, ← e3] at hx
      rw [← e0] at c0
      rw [← e1] at c1
      rw [← e2] at c2
      rw [← e3] at c3
      unfold B8 at c0 c1 c2 c3
      have hwk := hW.cell (j := t) (by rw [fw_len _ _ (by omega)]; omega)
      have hfk := hW.free t
      have HX := Lib.hid hx
      have HW := Lib.hid hW
      have HR := Lib.hid hR
      clear hx e0 e1 e2 e3 hW hR
      go_wp2
      go_region
      all_goals go_wp2
      go_roundw
      case rel =>
        rw [word_at, ← HX.out]
        refine ⟨t + 1, by omega, by go_num, ?_, ?_, (hb.setCell (p := ⟨w.heap.size + 1, t, none⟩) (by simp) _).drew⟩
        · rw [← fw_next l t hlt]
          exact (HW.out.set t _).drew
        · exact (HR.out.of_block (Below.heap_setCell _ _ _ _ (by simp))).drew
      case measure => simp [intOf]; omega
    · obtain rfl : t = 16 := by omega
      have hfw : fw l 16 = wordsTo l 0 ++ List.replicate 48 0 := rfl
      rw [hfw] at hW
      clear hfw
      have hbA := hb
      have hszA := hb.size
      clear hb
      rw [show ((16 : Nat) : Int) = 16 from rfl]
      go_wp2
      go_loopw [5] (fun iv wx => ∃ t : Nat, 16 ≤ t ∧ t ≤ 64 ∧ iv = .int .i64 t ∧ Words wx (w.heap.size + 1) 199 (wordsTo l (t - 16) ++ List.replicate (64 - t) 0) ∧ Words wx w.heap.size 199 (List.replicate 64 0) ∧ Below w.heap.size w wx)
        (fun iv _ => 64 - (intOf iv).toNat)
      case atStart => exact ⟨16, by omega, by omega, rfl, hW, hR, hbA⟩
      case round =>
        clear hW hR hbA
        obtain ⟨t, ht16, ht, rfl, hW, hR, hb⟩ := hrel
        have hlen : (wordsTo l (t - 16) ++ List.replicate (64 - t) 0).length = 64 := by rw [List.length_append, wordsTo_len, List.length_replicate]; omega
        by_cases hlt : t < 64
        · have hg : ∀ j, j < t → (wordsTo l (t - 16) ++ List.replicate (64 - t) 0).getD j 0 = (wordsTo l (t - 16)).getD j 0 := by
            intro j hj
            simp only [List.getD_eq_getElem?_getD]
            rw [List.getElem?_append_left (by rw [wordsTo_len]; omega)]
          have h2 := hW.cell (j := t - 2) (by omega)
          have h15 := hW.cell (j := t - 15) (by omega)
          have h16 := hW.cell (j := t - 16) (by omega)
          have h7 := hW.cell (j := t - 7) (by omega)
          have hfr := hW.free t
          have ht1 := hW.cell (j := t) (by omega)
          rw [hg _ (by omega)] at h2 h15 h16 h7
          unfold W32 at h2 h15 h16 h7 ht1
          obtain ⟨x2, e2⟩ : ∃ x, x = (wordsTo l (t - 16)).getD (t - 2) 0 := ⟨_, rfl⟩
          obtain ⟨x15, e15⟩ : ∃ x, x = (wordsTo l (t - 16)).getD (t - 15) 0 := ⟨_, rfl⟩
          obtain ⟨x16, e16⟩ : ∃ x, x = (wordsTo l (t - 16)).getD (t - 16) 0 := ⟨_, rfl⟩
          obtain ⟨x7, e7⟩ : ∃ x, x = (wordsTo l (t - 16)).getD (t - 7) 0 := ⟨_, rfl⟩
          rw [← e2] at h2
          rw [← e15] at h15
          rw [← e16] at h16
          rw [← e7] at h7
          have E2 := Lib.hid e2
          have E15 := Lib.hid e15
          have E16 := Lib.hid e16
          have E7 := Lib.hid e7
          have HW := Lib.hid hW
          have HR := Lib.hid hR
          have HG := Lib.hid hlen
          clear e2 e15 e16 e7 hW hR hlen hg
          have i2 : (0 : Int) ≤ (t : Int) - 2 := by omega
          have j2 : (t : Int) - 2 < 64 := by omega
          have i15 : (0 : Int) ≤ (t : Int) - 15 := by omega
          have j15 : (t : Int) - 15 < 64 := by omega
          have i16 : (0 : Int) ≤ (t : Int) - 16 := by omega
          have j16 : (t : Int) - 16 < 64 := by omega
          have i7 : (0 : Int) ≤ (t : Int) - 7 := by omega
          have j7 : (t : Int) - 7 < 64 := by omega
          have jt : (t : Int) < 64 := by omega
          go_wp2
          have q16 : IntKind.i64.wrap ((t : Int) - 16) = (t : Int) - 16 := IntWalk.i64_in _ (by omega)
          have q7 : IntKind.i64.wrap ((t : Int) - 7) = (t : Int) - 7 := IntWalk.i64_in _ (by omega)
          have n16 : ((t : Int) - 16).toNat = t - 16 := by omega
          have n7 : ((t : Int) - 7).toNat = t - 7 := by omega
          have nt : (0 : Int) ≤ (t : Int) := by omega
          refine wp_region_class (C := fun w' => ∃ n, w' = wr.drewN n) 29 (by kernel_rfl) (by kernel_rfl) ⟨1, rfl⟩ ?_
          simp only [List.take_succ_cons, List.take_zero, List.drop_succ_cons, List.drop_zero]
          repeat (go_big_quiet_step (((go_at_call 115; exact same_quiet (turned_any _ _ _ (by decide) (by decide))))))
          refine wpQuiet_nil ?_
          intro _ hw'
          obtain ⟨nq, hw''⟩ := hw'
          subst hw''
          go_wp2
          clear q16 q7 n16 n7 nt
          go_roundw
          case rel =>
            refine ⟨t + 1, by omega, by omega, by go_num, ?_, ?_, Below.trans hb ((below_drewn _).setCell (p := ⟨w.heap.size + 1, t, none⟩) (by show w.heap.size ≤ w.heap.size + 1; omega) _)⟩
            · rw [← set_next l t ht16 hlt, nextW_at l t ht16, ← E2.out, ← E15.out, ← E16.out, ← E7.out, UInt32.add_assoc _ (sg1 x2), UInt32.add_comm (sg1 x2), ← UInt32.add_assoc _ (sg0 x15)]
              exact HW.out.set t _
            · exact HR.out.of_block (Below.heap_setCell _ _ _ _ (by simp))
          case measure => simp [intOf]; omega
        · obtain rfl : t = 64 := by omega
          have hW' : Words wr (w.heap.size + 1) 199 (wordsL l) := by simpa [wordsL] using hW
          have hl48 : (wordsL l).length = 64 := wordsTo_len l 48
          clear hW
          go_wp2_with (first | (refine wpList_load_row rfl 199 _ rfl (w.heap.size + 1) rfl _ _ _ _ hW' Tryz.underlying199 rfl ?hi ?_; (case hi => rw [info_64]; simp [hl48])) | (refine wpList_store_row rfl 199 _ _ rfl w.heap.size 199 _ _ rfl rfl hR ?hj ?hk (words_one _) ?_; (case hj => rw [info_64]; simp [hl48]); (case hk => simp [hl48])))
          refine bodyPost_ret (results_cell rfl _ rfl (run_loadVar_row _ _ 199 _ ((wordsL l).map W32).toArray (0, 0) _ (setRow_heap _ _ _ _ _ _ hR) Tryz.underlying199 rfl (by rw [info_64]; simp [hl48]))) rfl ⟨rfl, ?_⟩
          exact hb.trans (below_setRow' _ _ _ (Nat.le_refl _))

end Go.Proofs.YtnohglkilpnjhaaGreatDoor

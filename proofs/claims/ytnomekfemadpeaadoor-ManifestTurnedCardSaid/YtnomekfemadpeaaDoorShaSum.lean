/- The walk of digest.Sum: the hash of bytes. Conditions: the table of constants as the program lays it; no more than 2^40 bytes. -/
import Derived.Test.YtnomekfemadpeaaDoorShaTake
import Derived.Test.YtnomekfemadpeaaDoorShaPlain
import Derived.Test.YtnomekfemadpeaaDoorShaClone
import Derived.Deep.DeepCutAuto
import Derived.Deep.RegionHeld3
namespace Go.Proofs.YtnomekfemadpeaaDoor
open Go.RowKit
set_option linter.unusedVariables false

theorem run_load_state {w : World} {g t : Nat} {s : St} (h : Words w g t s.list) : (loadVar 90 ⟨g, 0, none⟩).run Tryd.prog w = .ok s.agg w :=
  h.run_load 90 88 8 Tryd.underlying90 (by kernel_rfl)

/-- A state read, as a step of a region. -/
theorem step_load_state {w : World} {ops : Array Oper} {o : Oper} {a : Act} {K : Act → World → Prop} {Q : Exit → Act → World → Prop} {E : Prop} (hgd : o.guard = Option.none) (x : Operand) (ho : o.op = .load 90 x)
    (g t : Nat) (s : St) (hx : a.eval x = .pointer (some ⟨g, 0, none⟩)) (hw : Words w g t s.list) (h : K (a.put o.dst s.agg) w) : if Region.wanted o (yielded ops a.tmps) = true then Oper.wp Tryd.prog o a w K Q else E := by
  rw [if_pos (by simp [Region.wanted, hgd])]
  unfold Oper.wp execOp
  simp only [ho, hx, Instr.loadAt, Instr.sureAddr, Sem.run_bind, Sem.run_pure, Result.andThen_ok, run_load_state hw]
  exact h

/-- A state laid, as a step of a region. -/
theorem step_store_state {w : World} {ops : Array Oper} {o : Oper} {a : Act} {K : Act → World → Prop} {Q : Exit → Act → World → Prop} {E : Prop} (hgd : o.guard = Option.none) (x y : Operand) (ho : o.op = .store 90 x y)
    (g t : Nat) (old s : St) (hx : a.eval x = .pointer (some ⟨g, 0, none⟩)) (hy : a.eval y = s.agg) (hw : Words w g t old.list) (h : K (a.put o.dst undef) (w.setRow g (s.list.map W32).toArray)) : if Region.wanted o (yielded ops a.tmps) = true then Oper.wp Tryd.prog o a w K Q else E := by
  rw [if_pos (by simp [Region.wanted, hgd])]
  have hy' : a.eval y = .agg (s.list.map W32).toArray := hy
  unfold Oper.wp execOp
  simp only [ho, hx, hy', Instr.storeAt, Instr.sureAddr, Sem.run_bind, Sem.run_pure, Result.andThen_ok, run_storeVar_row (P := Tryd.prog) w g t 90 (old.list.map W32).toArray (s.list.map W32).toArray hw (by kernel_rfl) (by rfl) (words_one _)]
  exact h

theorem chunk_bytes (l : List UInt8) (k : Nat) (h : 64 * k + 64 ≤ l.length) : 64 ≤ (l.drop (64 * k)).length := by simp; omega

theorem box_two (w : World) (A B : Array Value) (s t : Nat) (xs : List UInt32) (hB : B = (xs.map W32).toArray) :
    Words ((w.alloc (.cells A s)).alloc (.cells B t)) (w.heap.size + 1) t xs ∧ Below w.heap.size w ((w.alloc (.cells A s)).alloc (.cells B t)) ∧ w.heap.size + 2 = ((w.alloc (.cells A s)).alloc (.cells B t)).heap.size := by
  subst hB
  refine ⟨?_, ((Below.refl _ w).alloc (Nat.le_refl _) _).alloc (by simp) _, by simp⟩
  have := heap_alloc_new (w.alloc (.cells A s)) (.cells (xs.map W32).toArray t)
  rw [World.size_alloc] at this
  exact this

theorem app_kept {w w1 : World} {o : Obj} {v : Value} {l : List UInt8} {base e : Nat} (ho1 : Own8 (w.alloc o) base e v l) (ho : Own8 w base e v l) (hs : base ≤ w.heap.size) (hg : (w.alloc o).grownBy w1 v.ownBlock) : Below base w w1 :=
  ((Below.refl _ w).alloc hs _).grown hg (by simp; omega) (fun j hj => (ho.lt j hj).1)

theorem len_byte (n j : Nat) : Value.int .u8 ((n : Int) * 8 / 2 ^ j % 256) = B8 (UInt8.ofNat (8 * n / 2 ^ j % 256)) := by
  unfold B8
  congr 1
  rw [UInt8.toNat_ofNat', Nat.mod_mod, Nat.mul_comm]
  simp

theorem lenBytes_next (n k : Nat) (h : k < 8) : (lenBytes n).take (k + 1) = (lenBytes n).take k ++ [UInt8.ofNat (8 * n / 2 ^ (56 - 8 * k) % 256)] := by
  unfold lenBytes
  rw [← List.map_take, ← List.map_take, List.take_range, List.take_range, Nat.min_eq_left (by omega), Nat.min_eq_left (by omega), List.range_succ, List.map_append]
  rfl

theorem grown_setRow (w : World) (g : Nat) (cs : Array Value) : w.grownBy (w.setRow g cs) (some g) :=
  ⟨rfl, rfl, rfl, by simp [World.setRow], fun k hk hne => by simp only [World.setRow, Array.getElem?_modify]; rw [if_neg (fun e => hne (by rw [e]))]⟩

/-- A block that holds bytes. -/
def Octs (w : World) (g t : Nat) (bs : List UInt8) : Prop := w.heap[g]? = some (.cells (bs.map B8).toArray t (0, 0))
theorem Octs.of_block {w w' : World} {g t : Nat} {bs : List UInt8} (h : Octs w g t bs) (e : w'.heap[g]? = w.heap[g]?) : Octs w' g t bs := by
  unfold Octs at *; rw [e]; exact h

theorem Octs.cell {w : World} {g t : Nat} {bs : List UInt8} (h : Octs w g t bs) {j : Nat} (hj : j < bs.length) : w.cell? ⟨g, j, none⟩ = some (B8 (bs.getD j 0)) := by
  unfold Octs at h
  simp [World.cell?, h, List.getElem?_eq_getElem hj, List.getD]
theorem Octs.free {w : World} {g t : Nat} {bs : List UInt8} (h : Octs w g t bs) (j : Nat) : w.frozen? ⟨g, j, none⟩ = false := by
  unfold Octs at h
  simp [World.frozen?, h]
theorem Octs.set {w : World} {g t : Nat} {bs : List UInt8} (h : Octs w g t bs) (j : Nat) (x : UInt8) : Octs (w.setCell ⟨g, j, none⟩ (B8 x)) g t (bs.set j x) := by
  unfold Octs at *
  obtain ⟨hlt, hk⟩ := Array.getElem?_eq_some_iff.1 h
  show (w.heap.modify g _)[g]? = _
  rw [Array.getElem?_eq_getElem (by rw [Array.size_modify]; exact hlt), Array.getElem_modify_self, hk]
  simp [List.map_set]
theorem outB_len (s : St) : (outB s).length = 32 := by simp [outB]
theorem w32_out (x : UInt32) (j : Nat) : Value.int .u8 (w32 x / 2 ^ j % 256) = B8 (UInt8.ofNat (x.toNat / 2 ^ j % 256)) := by
  unfold B8 w32
  congr 1
  rw [UInt8.toNat_ofNat', Nat.mod_mod]
  simp
theorem outB_next (s : St) (k : Nat) (h : k < 32) : ((outB s).take k ++ List.replicate (32 - k) 0).set k (UInt8.ofNat ((s.list.getD (k / 4) 0).toNat / 2 ^ (24 - 8 * (k % 4)) % 256)) = (outB s).take (k + 1) ++ List.replicate (32 - (k + 1)) 0 := by
  have hl : ((outB s).take k).length = k := by rw [List.length_take, outB_len]; omega
  have hn : (outB s).take (k + 1) = (outB s).take k ++ [UInt8.ofNat ((s.list.getD (k / 4) 0).toNat / 2 ^ (24 - 8 * (k % 4)) % 256)] := by
    unfold outB
    rw [← List.map_take, ← List.map_take, List.take_range, List.take_range, Nat.min_eq_left (by omega), Nat.min_eq_left (by omega), List.range_succ, List.map_append]
    rfl
  rw [hn, show 32 - k = (32 - (k + 1)) + 1 from by omega, List.replicate_succ]
  rw [List.set_append_right _ _ (by omega), hl, Nat.sub_self, List.set_cons_zero, List.append_assoc, List.singleton_append]

theorem info_dig : (Tryd.prog.info? 25).map (·.size) = some 32 := by kernel_rfl
theorem octs_one (bs : List UInt8) : ((bs.map B8).toArray).all (·.oneCell') = true :=
  Array.all_eq_true_iff_forall_mem.2 (fun v hv => by
    obtain ⟨x, _, rfl⟩ := List.mem_map.1 (by simpa using hv)
    rfl)

/-- A slice's length. -/

theorem lenV_of {w : World} {v : Value} {l : List UInt8} {base e : Nat} (h : Own8 w base e v l) : lenV v = l.length := by
  obtain ⟨a, c, rfl⟩ := h.bytes.len
  rfl

theorem sum_start (w : World) (A B : Array Value) (hA : A = ((List.replicate 32 (0 : UInt8)).map B8).toArray) (hB : B = (st0.list.map W32).toArray) (s t : Nat) :
    Octs ((w.alloc (.cells A s)).alloc (.cells B t)) w.heap.size s (List.replicate 32 0) ∧ Words ((w.alloc (.cells A s)).alloc (.cells B t)) (w.heap.size + 1) t st0.list ∧
      Below w.heap.size w ((w.alloc (.cells A s)).alloc (.cells B t)) ∧ w.heap.size + 2 = ((w.alloc (.cells A s)).alloc (.cells B t)).heap.size := by
  subst hA
  refine ⟨?_, box_two w _ B s t _ hB⟩
  exact (Below.heap_alloc _ _ _ (by simp)).trans (heap_alloc_new w _)

set_option maxRecDepth 100000 in
set_option maxHeartbeats 800000 in
theorem Sum_any (v : Value) (l : List UInt8) (w : World) (hl : Bytes w v l) (hlen : l.length ≤ 1099511627776) (hK : Consts w) :
    Calls Tryd.prog 38 #[v] w fun e w' => e = .returned (.agg ((sumL l).map B8).toArray) ∧ Below w.heap.size w w' := by
  obtain ⟨i0, hi, hz0, hz1, hz2⟩ := info_parts infoU8
  obtain ⟨a, cp, hv⟩ := hl.len
  subst hv
  have HL := Lib.hid hl
  have HK := Lib.hid hK
  clear hl hK
  go_enter Tryd.func38, Tryd.ntmps38
  go_wp2
  generalize hW1 : (w.alloc _).alloc _ = W1
  obtain ⟨hR, hS, hb, hsz⟩ : Octs W1 w.heap.size 25 (List.replicate 32 0) ∧ Words W1 (w.heap.size + 1) 90 st0.list ∧ Below w.heap.size w W1 ∧ w.heap.size + 2 = W1.heap.size := by
    subst hW1
    exact sum_start w _ _ (by rfl) (by rfl) _ _
  clear hW1
  go_loopw [5] (fun iv wr => ∃ n : Nat, n ≤ l.length / 64 ∧ iv = .int .i64 (64 * (n : Int)) ∧ Words wr (w.heap.size + 1) 90 (chunksTo l n).list ∧ Octs wr w.heap.size 25 (List.replicate 32 0) ∧ Below w.heap.size w wr ∧ w.heap.size + 2 ≤ wr.heap.size)
    (fun iv _ => l.length - (intOf iv).toNat)
  case atStart => exact ⟨0, by omega, rfl, hS, hR, hb, by omega⟩
  case round =>
    clear hS hR hb hsz
    obtain ⟨n, hn, rfl, hS, hR, hb, hsz⟩ := hrel
    by_cases hlt : n < l.length / 64
    · obtain ⟨r, hrun, hr, _⟩ := HL.out.part (P := Tryd.prog) (t := 22) Tryd.underlying22 hi hz1 (some (.int .i64 (64 * (n : Int)))) none (64 * n) l.length (by omega) (by omega) (.inr ⟨.i64, by simp⟩) (.inl ⟨rfl, rfl⟩)
      rw [List.take_of_length_le (by simp)] at hr
      have HS := Lib.hid hS
      have HR := Lib.hid hR
      have Hr := Lib.hid hr
      have hr1 := Lib.hid (Hr.out.of_new hb.drew)
      have hK1 := Lib.hid (HK.out.of_new hb.drew)
      clear hS hR hr
      go_wp2
      refine wp_region_any (by kernel_rfl) ?_
      change wpAny _ _ _ _ _ _ _ (World.drew _)
      refine wpAny_take (i := 1) (v := .slice a l.length cp) rfl (by kernel_rfl) (by kernel_rfl) (by kernel_rfl) (fun _ _ _ h => h) (Or.inl ⟨by rfl, fun w => by go_simp⟩) ?_
      refine wpAny_take (i := 2) (v := .int .i64 (64 * (n : Int))) rfl (by kernel_rfl) (by kernel_rfl) (by kernel_rfl) (fun _ _ _ h => h) (Or.inl ⟨by rfl, fun w => by go_simp⟩) ?_
      refine wpAny_take (i := 3) (v := r) rfl (by kernel_rfl) (by kernel_rfl) (by kernel_rfl) (fun _ _ _ h => h) (Or.inl ⟨by rfl, fun w => by go_simp⟩) ?_
      refine wpAny_ready (rs := [0]) (by kernel_rfl) (by simp) ?_
      refine AllReady.cons rfl (fun K hK => ?_) AllReady.nil
      refine step_load_state rfl (.tmp 3) rfl (w.heap.size + 1) 90 (chunksTo l n) rfl HS.out ?_
      refine hK _ _ ?_
      clear hK K
      refine wpAny_ready (rs := [4]) (by kernel_rfl) (by simp) ?_
      refine AllReady.cons rfl (fun K hK => ?_) AllReady.nil
      go_simp
      refine (take_any (chunksTo l n) r _ wr.drew hr1.out (by rw [List.length_drop]; omega) hK1.out).mono ?_
      rintro e w2 ⟨rfl, hb2⟩
      have hb3 := hb2.size
      have hS2 := HS.out.of_block (hb2.block _ (by show _ < wr.heap.size; omega))
      have hR2 := HR.out.of_block (hb2.block _ (by show _ < wr.heap.size; omega))
      have hbA := hb.drew.trans (hb2.mono (by show _ ≤ wr.heap.size; omega))
      have hszA : w.heap.size + 2 ≤ w2.heap.size := by
        have : wr.heap.size ≤ w2.heap.size := hb3
        omega
      refine hK _ _ ?_
      clear hK K hb2 hb3 HS HR
      refine wpAny_ready (rs := [5]) (by kernel_rfl) (by simp) ?_
      refine AllReady.cons rfl (fun K hK => ?_) AllReady.nil
      refine step_store_state rfl (.tmp 3) (.tmp 25) rfl (w.heap.size + 1) 90 (chunksTo l n) (takeL (chunksTo l n) (l.drop (64 * n))) rfl rfl hS2 ?_
      refine hK _ _ ?_
      clear hK K
      refine wpAny_done (by kernel_rfl) ?_ _
      go_wp2
      go_roundw
      case rel =>
        refine ⟨n + 1, by omega, by go_num, ?_, ?_, hbA.trans (below_setRow' _ _ _ (by omega)), by simpa [World.setRow] using hszA⟩
        · rw [chunksTo_next]
          exact hS2.laid _
        · exact hR2.of_block (by simp only [World.setRow, Array.getElem?_modify]; rw [if_neg (by omega)])
      case measure => simp [intOf]; omega
    · obtain rfl : n = l.length / 64 := by omega
      clear hlt
      obtain ⟨r, hrun, hr, hrb⟩ := HL.out.part (P := Tryd.prog) (t := 22) Tryd.underlying22 hi hz1 (some (.int .i64 ((l.length : Int) / 64 * 64))) none (l.length / 64 * 64) l.length (by omega) (by omega) (.inr ⟨.i64, by simp⟩) (.inl ⟨rfl, rfl⟩)
      rw [List.take_of_length_le (by simp)] at hr
      have HS := Lib.hid hS
      have HR := Lib.hid hR
      have Hr := Lib.hid (hr.of_new hb)
      have one1 : ∀ W : World, Bytes (W.alloc (.cells #[.int .u8 128] 5)) (.slice (some ⟨W.heap.size, 0, none⟩) 1 1) [128] := fun W => Bytes.one W 128 5
      clear hS hR hr hrb
      go_wp2_with fail
      refine (BClone_any r _ wr Hr.out (by rw [List.length_drop]; omega)).mono ?_
      rintro e w1 ⟨v1, rfl, ho1, hb1⟩
      have ho := Lib.hid (ho1.mono hsz)
      have hs1 := hb1.size
      have HS1 := Lib.hid (HS.out.of_block (hb1.block _ (by omega)))
      have HR1 := Lib.hid (HR.out.of_block (hb1.block _ (by omega)))
      have hbA := hb.trans (hb1.mono (by omega))
      have hszA : w.heap.size + 2 ≤ w1.heap.size := by omega
      have HO1 := Lib.hid (ho.out.alloc (.cells #[.int .u8 128] 5))
      clear ho1 hb1 HS HR hb Hr hs1 hsz
      go_wp2_with (at_builtin; refine wpList_app8 rfl (.tmp 29) (.tmp 30) 22 rfl (w.heap.size + 2) 5 i0 Tryd.underlying22 hi hz0 hz1 hz2 _ _ rfl HO1.out _ [128] rfl (one1 w1) ?c1 ?c2 ?_)
      case c1 => rw [List.length_drop]; simp; omega
      case c2 => simp; omega
      intro v2 w2 ho2 hg2 _
      have hb2 := app_kept HO1.out ho.out hszA hg2
      have hs2 := hb2.size
      have HS2 := Lib.hid (HS1.out.of_block (hb2.block _ (by omega)))
      have HR2 := Lib.hid (HR1.out.of_block (hb2.block _ (by omega)))
      have hbB := hbA.trans (hb2.mono (by omega))
      have hszB : w.heap.size + 2 ≤ w2.heap.size := by omega
      obtain ⟨t0, et0⟩ : ∃ x, x = l.drop (l.length / 64 * 64) := ⟨_, rfl⟩
      have ht0 : t0.length = l.length % 64 := by rw [et0, List.length_drop]; omega
      have Et0 := Lib.hid et0
      rw [← et0] at ho2
      clear HO1 HS1 HR1 hbA hb2 hg2 ho hs2 hszA et0
      go_wp2
      go_loopw [6] (fun tv wr => ∃ j : Nat, j ≤ zerosOf l.length ∧ Own8 wr (w.heap.size + 2) 5 tv (t0 ++ [128] ++ List.replicate j 0) ∧ Below (w.heap.size + 2) w2 wr)
        (fun tv _ => 64 + l.length % 64 + 1 - lenV tv)
      case atStart => exact ⟨0, by omega, by simpa using ho2, Below.refl _ _⟩
      case round =>
        clear ho2
        obtain ⟨j, hj, hown, hbr⟩ := hrel
        obtain ⟨T, eT⟩ : ∃ T, T = t0 ++ [128] ++ List.replicate j 0 := ⟨_, rfl⟩
        have hT : T.length = l.length % 64 + 1 + j := by rw [eT]; simp; omega
        have ET := Lib.hid eT
        rw [← eT] at hown
        have hlv := lenV_of hown
        obtain ⟨oa, oc, rfl⟩ := hown.bytes.len
        have HO := Lib.hid hown
        have hzz : zerosOf l.length < 64 := by unfold zerosOf; omega
        clear eT hown
        by_cases hne : (l.length % 64 + 1 + j) % 64 = 56
        · have hjj := zeros_end l.length j hne hj
          subst hjj
          go_wp2
          have hbC := hbB.trans (hbr.mono (by omega))
          have hsr := hbr.size
          have hszC : w.heap.size + 2 ≤ wr.heap.size := by omega
          have HS3 := Lib.hid (HS2.out.of_block (hbr.block _ (by omega)))
          have HR3 := Lib.hid (HR2.out.of_block (hbr.block _ (by omega)))
          have hTl : T.length = l.length % 64 + 1 + zerosOf l.length := hT
          have hff : (((l.length : Int) % 64 + 1 + (zerosOf l.length : Int)) % 64 != 56) = false := by simp; omega
          rw [hT, hff]
          clear HS2 HR2 hbB hszB hsr hbr hj hne hlv hT hff
          go_loopw [6, 39] (fun tv cv wx => ∃ k : Nat, k ≤ 8 ∧ cv = .int .i64 k ∧ Own8 wx (w.heap.size + 2) 5 tv (T ++ (lenBytes l.length).take k) ∧ Below (w.heap.size + 2) wr wx)
            (fun _ cv _ => 8 - (intOf cv).toNat)
          case atStart =>
            refine ⟨0, by omega, rfl, ?_, Below.refl _ _⟩
            have h0 := HO.out
            rw [hTl] at h0
            simpa using h0
          case round =>
            obtain ⟨k, hk, rfl, hown, hbx⟩ := hrel
            obtain ⟨X, eX⟩ : ∃ X, X = T ++ (lenBytes l.length).take k := ⟨_, rfl⟩
            have hX : X.length = l.length % 64 + 1 + zerosOf l.length + k := by rw [eX, List.length_append, List.length_take, lenBytes_len]; omega
            rw [← eX] at hown
            have EX := Lib.hid eX
            clear eX
            obtain ⟨oa, oc, rfl⟩ := hown.bytes.len
            have HX := Lib.hid hown
            clear hown
            by_cases hlt : k < 8
            · have HX1 := Lib.hid (HX.out.alloc (.cells #[.int .u8 ((l.length : Int) * 8 / 2 ^ (56 - 8 * k) % 256)] 5))
              have one1 : ∀ W : World, Bytes (W.alloc (.cells #[.int .u8 ((l.length : Int) * 8 / 2 ^ (56 - 8 * k) % 256)] 5)) (.slice (some ⟨W.heap.size, 0, none⟩) 1 1) [UInt8.ofNat (8 * l.length / 2 ^ (56 - 8 * k) % 256)] := fun W => by
                rw [len_byte]; exact Bytes.one W _ 5
              have hsx := hbx.size
              go_wp2_with (at_builtin; refine wpList_app8 rfl (.tmp 42) (.tmp 52) 22 rfl (w.heap.size + 2) 5 i0 Tryd.underlying22 hi hz0 hz1 hz2 _ _ rfl HX1.out _ [UInt8.ofNat (8 * l.length / 2 ^ (56 - 8 * k) % 256)] rfl (one1 wr) ?d1 ?d2 ?_)
              case d1 => rw [hX]; simp; omega
              case d2 => simp; omega
              intro v3 w3 ho3 hg3 _
              have hb3 := app_kept HX1.out HX.out (by omega) (by rw [← hX] at hg3; exact hg3)
              go_wp2
              go_roundw
              case rel =>
                refine ⟨k + 1, by omega, by go_num, ?_, hbx.trans hb3⟩
                rw [lenBytes_next _ _ hlt, ← List.append_assoc, ← EX.out]
                exact ho3
              case measure => simp [intOf]; omega
            · obtain rfl : k = 8 := by omega
              have eY : X = T ++ lenBytes l.length := by rw [EX.out, List.take_of_length_le (by rw [lenBytes_len]; omega)]
              rw [show ((8 : Nat) : Int) = 8 from rfl]
              have hsx := hbx.size
              have hbD := hbC.trans (hbx.mono (by omega))
              have HS4 := HS3.out.of_block (hbx.block _ (by omega))
              have HR4 := HR3.out.of_block (hbx.block _ (by omega))
              have eTail : X = tailL l := by rw [eY, ET.out, Et0.out, tailL_eq]
              have hszD : w.heap.size + 2 ≤ wr.heap.size := by omega
              have hXm : X.length % 64 = 0 := by rw [hX]; unfold zerosOf; omega
              have hXl : X.length < 200 := by rw [hX]; omega
              have HXO := Lib.hid HX.out
              have ETL := Lib.hid eTail
              have hKD := HK.out.of_new hbD
              clear HS3 HR3 hbC hbx EX eY ET Et0 HX hsx hszC hk hlt hzz eTail
              have HXX := Lib.hid hX
              clear hX
              go_wp2
              go_loopw [8] (fun iv wx => ∃ n : Nat, 64 * n ≤ X.length ∧ iv = .int .i64 (64 * (n : Int)) ∧ Words wx (w.heap.size + 1) 90 (chunksTo (padL l) (l.length / 64 + n)).list ∧ Octs wx w.heap.size 25 (List.replicate 32 0) ∧ Below w.heap.size w wx ∧ w.heap.size + 2 ≤ wx.heap.size ∧ Own8 wx (w.heap.size + 2) 5 (.slice oa X.length oc) X)
                (fun iv _ => X.length - (intOf iv).toNat)
              case atStart => exact ⟨0, by omega, rfl, by rw [Nat.add_zero, padL_whole _ _ (by omega)]; exact HS4, HR4, hbD, hszD, HXO.out⟩
              case round =>
                clear HS4 HR4 hbD
                clear HXO hKD hszD
                obtain ⟨n, hn, rfl, hS, hR, hbE, hszE, hown⟩ := hrel
                have HX := Lib.hid hown
                clear hown
                have HS := Lib.hid hS
                have HR := Lib.hid hR
                clear hS hR
                by_cases hlt : 64 * n < X.length
                · obtain ⟨r2, hrun2, hr2, _⟩ := HX.out.bytes.part (P := Tryd.prog) (t := 22) Tryd.underlying22 hi hz1 (some (.int .i64 (64 * (n : Int)))) none (64 * n) X.length (by omega) (by omega) (.inr ⟨.i64, by simp⟩) (.inl ⟨rfl, rfl⟩)
                  rw [List.take_of_length_le (by simp)] at hr2
                  have hXn : 64 * n + 64 ≤ X.length := by omega
                  have Hr := Lib.hid (hr2.of_new (below_drewn 1))
                  have hK1 := Lib.hid (HK.out.of_new hbE.drew)
                  clear hr2
                  go_wp2
                  refine wp_region_any (by kernel_rfl) ?_
                  change wpAny _ _ _ _ _ _ _ (World.drew _)
                  refine wpAny_take (i := 1) (v := .slice oa X.length oc) rfl (by kernel_rfl) (by kernel_rfl) (by kernel_rfl) (fun _ _ _ h => h) (Or.inl ⟨by rfl, fun w => by go_simp⟩) ?_
                  refine wpAny_take (i := 2) (v := .int .i64 (64 * (n : Int))) rfl (by kernel_rfl) (by kernel_rfl) (by kernel_rfl) (fun _ _ _ h => h) (Or.inl ⟨by rfl, fun w => by go_simp⟩) ?_
                  refine wpAny_take (i := 3) (v := r2) rfl (by kernel_rfl) (by kernel_rfl) (by kernel_rfl) (fun _ _ _ h => h) (Or.inl ⟨by rfl, fun w => by go_simp⟩) ?_
                  refine wpAny_ready (rs := [0]) (by kernel_rfl) (by simp) ?_
                  refine AllReady.cons rfl (fun K hK => ?_) AllReady.nil
                  refine step_load_state rfl (.tmp 3) rfl (w.heap.size + 1) 90 (chunksTo (padL l) (l.length / 64 + n)) rfl HS.out ?_
                  refine hK _ _ ?_
                  clear hK K
                  refine wpAny_ready (rs := [4]) (by kernel_rfl) (by simp) ?_
                  refine AllReady.cons rfl (fun K hK => ?_) AllReady.nil
                  go_simp
                  refine (take_any (chunksTo (padL l) (l.length / 64 + n)) r2 _ wr.drew Hr.out (by rw [List.length_drop]; omega) hK1.out).mono ?_
                  rintro e w2 ⟨rfl, hb2⟩
                  have hb3 : wr.heap.size ≤ w2.heap.size := hb2.size
                  have hb2' : Below wr.heap.size wr w2 := (below_drewn 1).trans hb2
                  have hS2 := HS.out.of_block (hb2'.block _ (by omega))
                  have hR2 := HR.out.of_block (hb2'.block _ (by omega))
                  have hbA := hbE.trans (hb2'.mono (by omega))
                  have hszA : w.heap.size + 2 ≤ w2.heap.size := by omega
                  have hX2 := HX.out.new hb2'
                  refine hK _ _ ?_
                  clear hK K hb2 hb3 HS HR
                  refine wpAny_ready (rs := [5]) (by kernel_rfl) (by simp) ?_
                  refine AllReady.cons rfl (fun K hK => ?_) AllReady.nil
                  refine step_store_state rfl (.tmp 3) (.tmp 65) rfl (w.heap.size + 1) 90 (chunksTo (padL l) (l.length / 64 + n)) (takeL (chunksTo (padL l) (l.length / 64 + n)) (X.drop (64 * n))) rfl rfl hS2 ?_
                  refine hK _ _ ?_
                  clear hK K
                  refine wpAny_done (by kernel_rfl) ?_ _
                  go_wp2
                  go_roundw
                  case rel =>
                    refine ⟨n + 1, by omega, by go_num, ?_, ?_, hbA.trans (below_setRow' _ _ _ (by omega)), by simpa [World.setRow] using hszA, hX2.kept (grown_setRow _ _ _) (.inr ?_)⟩
                    · rw [← Nat.add_assoc, padL_next, ← ETL.out]
                      exact hS2.laid _
                    · exact hR2.of_block (by simp only [World.setRow, Array.getElem?_modify]; rw [if_neg (by omega)])
                    · intro he
                      have := hX2.lt _ he
                      omega
                  case measure => simp [intOf]; omega
                · have hS4 := HS.out
                  have es : chunksTo (padL l) (l.length / 64 + n) = chunksTo (padL l) ((padL l).length / 64) := by
                    congr 1
                    have e1 := tailL_len l
                    rw [← ETL.out] at e1
                    have e2 := padL_len l
                    omega
                  rw [es] at hS4
                  obtain ⟨s, hs⟩ : ∃ s, s = chunksTo (padL l) ((padL l).length / 64) := ⟨_, rfl⟩
                  rw [← hs] at hS4
                  have hout : sumL l = outB s := by rw [hs]; rfl
                  have HOUT := Lib.hid hout
                  have HS4 := Lib.hid hS4
                  clear hS4 hs hout es HS HX ETL HXX
                  go_wp2
                  obtain ⟨W3, eW3⟩ : ∃ W, W = wr.alloc (.cells #[.int .u8 0, .int .u8 0, .int .u8 0, .int .u8 0, .int .u8 0, .int .u8 0, .int .u8 0, .int .u8 0, .int .u8 0, .int .u8 0, .int .u8 0, .int .u8 0, .int .u8 0, .int .u8 0, .int .u8 0, .int .u8 0, .int .u8 0, .int .u8 0, .int .u8 0, .int .u8 0, .int .u8 0, .int .u8 0, .int .u8 0, .int .u8 0, .int .u8 0, .int .u8 0, .int .u8 0, .int .u8 0, .int .u8 0, .int .u8 0, .int .u8 0, .int .u8 0] 25) := ⟨_, rfl⟩
                  rw [← eW3]
                  have hD0 : Octs W3 wr.heap.size 25 (List.replicate 32 0) := by
                    rw [eW3]; exact heap_alloc_new wr _
                  have hb3 : Below wr.heap.size wr W3 := by rw [eW3]; exact (Below.refl _ wr).alloc (Nat.le_refl _) _
                  have hS5 := HS4.out.of_block (hb3.block _ (by omega))
                  have hR5 := HR.out.of_block (hb3.block _ (by omega))
                  have hb5 := hbE.trans (hb3.mono (by omega))
                  obtain ⟨g, hg⟩ : ∃ g, g = wr.heap.size := ⟨_, rfl⟩
                  rw [← hg] at hD0 ⊢
                  have hg2 : w.heap.size + 2 ≤ g := by omega
                  clear HS4 HR hb3 eW3 hg hlt hn
                  go_loopw [66] (fun iv wx => ∃ k : Nat, k ≤ 32 ∧ iv = .int .i64 k ∧ Words wx (w.heap.size + 1) 90 s.list ∧ Octs wx w.heap.size 25 (List.replicate 32 0) ∧ Below w.heap.size w wx ∧ Octs wx g 25 ((outB s).take k ++ List.replicate (32 - k) 0))
                    (fun iv _ => 32 - (intOf iv).toNat)
                  case atStart => exact ⟨0, by omega, rfl, hS5, hR5, hb5, by simpa using hD0⟩
                  case round =>
                    clear hS5 hR5 hb5 hD0
                    obtain ⟨k, hk, rfl, hS, hR, hb, hD⟩ := hrel
                    by_cases hlt : k < 32
                    · obtain ⟨x, hx⟩ : ∃ x, x = s.list.getD (k / 4) 0 := ⟨_, rfl⟩
                      have hc := hS.cell (j := k / 4) (by show _ < 8; omega)
                      rw [← hx] at hc
                      unfold W32 at hc
                      have hfr := hD.free k
                      have hck := hD.cell (j := k) (by rw [List.length_append, List.length_take, outB_len, List.length_replicate]; omega)
                      have hq0 : (0 : Int) ≤ (k : Int) / 4 := by omega
                      have hq1 : (k : Int) / 4 < 8 := by omega
                      have HX := Lib.hid hx
                      have HS := Lib.hid hS
                      have HR := Lib.hid hR
                      have HD := Lib.hid hD
                      clear hx hS hR hD
                      go_wp2
                      go_roundw
                      case rel =>
                        refine ⟨k + 1, by omega, by go_num, HS.out.of_block (Below.heap_setCell _ _ _ _ (by simp; omega)), HR.out.of_block (Below.heap_setCell _ _ _ _ (by simp; omega)), hb.setCell (by simp; omega) _, ?_⟩
                        rw [w32_out, ← outB_next s k hlt]
                        rw [← HX.out]
                        exact HD.out.set k _
                      case measure => simp [intOf]; omega
                    · obtain rfl : k = 32 := by omega
                      rw [show 32 - 32 = 0 from rfl, List.replicate_zero, List.append_nil, List.take_of_length_le (by rw [outB_len]; omega)] at hD
                      rw [show ((32 : Nat) : Int) = 32 from rfl]
                      have HR := Lib.hid hR
                      have HB := Lib.hid hb
                      clear hR hb hS
                      go_wp2_with (first | (refine wpList_load_row rfl 25 _ rfl g rfl _ _ _ _ hD Tryd.underlying25 rfl ?hi ?_; (case hi => rw [info_dig]; simp [outB_len])) | (refine wpList_store_row rfl 25 _ _ rfl w.heap.size 25 _ _ rfl rfl HR.out ?hj ?hk (octs_one _) ?_; (case hj => rw [info_dig]; simp [outB_len]); (case hk => simp [outB_len])))
                      rw [HOUT.out]
                      refine bodyPost_ret (results_cell rfl _ rfl (run_loadVar_row _ _ 25 _ ((outB s).map B8).toArray (0, 0) _ (setRow_heap _ _ _ _ _ _ HR.out) Tryd.underlying25 rfl (by rw [info_dig]; simp [outB_len]))) rfl ⟨rfl, ?_⟩
                      exact HB.out.trans (below_setRow' _ _ _ (Nat.le_refl _))
        · have hj1 := zeros_step l.length j hne hj
          have HO1 := Lib.hid (HO.out.alloc (.cells #[.int .u8 0] 5))
          have one1 : ∀ W : World, Bytes (W.alloc (.cells #[.int .u8 0] 5)) (.slice (some ⟨W.heap.size, 0, none⟩) 1 1) [0] := fun W => Bytes.one W 0 5
          have hsr := hbr.size
          go_wp2_with (at_builtin; refine wpList_app8 rfl (.tmp 36) (.tmp 37) 22 rfl (w.heap.size + 2) 5 i0 Tryd.underlying22 hi hz0 hz1 hz2 _ _ rfl HO1.out _ [0] rfl (one1 wr) ?c1 ?c2 ?_)
          case c1 => rw [hT]; simp; omega
          case c2 => simp; omega
          intro v3 w3 ho3 hg3 _
          have hb3 := app_kept HO1.out HO.out (by omega) (by rw [← hT] at hg3; exact hg3)
          go_wp2
          go_roundw
          case rel =>
            refine ⟨j + 1, hj1, ?_, hbr.trans hb3⟩
            rw [List.replicate_succ', ← List.append_assoc, ← ET.out]
            exact ho3
          case measure =>
            have hl3 := lenV_of ho3
            rw [List.length_append, hT] at hl3
            simp only [List.length_singleton] at hl3
            omega

end Go.Proofs.YtnomekfemadpeaaDoor

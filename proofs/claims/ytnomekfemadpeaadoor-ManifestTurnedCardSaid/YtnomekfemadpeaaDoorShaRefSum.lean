/- The walk of the reference's Sum: the hash of bytes. Condition: no more than 2^40 bytes. -/
import Derived.Test.YtnomekfemadpeaaDoorShaRefChunk
import Derived.Test.YtnomekfemadpeaaDoorShaSum
namespace Go.Proofs.YtnomekfemadpeaaDoor
open Go.RowKit
set_option linter.unusedVariables false

theorem len_byte' (n j : Nat) : Value.int .u8 (8 * (n : Int) / 2 ^ j % 256) = B8 (UInt8.ofNat (8 * n / 2 ^ j % 256)) := by
  rw [Int.mul_comm]; exact len_byte n j

theorem own_start (w : World) (A : Array Value) (t : Nat) : Own8 ((w.alloc (.cells A t)).alloc (.cells #[] 5)) (w.heap.size + 1) 5 (.slice (some ⟨w.heap.size + 1, 0, none⟩) 0 0) [] := by
  have h : Own8 ((w.alloc (.cells A t)).alloc (.cells #[] 5)) (w.alloc (.cells A t)).heap.size 5 (.slice (some ⟨(w.alloc (.cells A t)).heap.size, 0, none⟩) 0 0) [] := World.ownsRow_made _ #[] 0 (Nat.le_refl _) (by unfold maxLen; omega) rfl
  rwa [World.size_alloc] at h

theorem Words.lt {w : World} {g t : Nat} {ws : List UInt32} (h : Words w g t ws) : g < w.heap.size := (Array.getElem?_eq_some_iff.1 h).1

/-- A state read, as a step of a region. -/
theorem step_load_words {P : Program} {w : World} {ops : Array Oper} {o : Oper} {a : Act} {K : Act → World → Prop} {Q : Exit → Act → World → Prop} {E : Prop} {ty e n : Nat} (hgd : o.guard = Option.none) (x : Operand) (ho : o.op = .load ty x)
    (g t : Nat) (s : St) (hx : a.eval x = .pointer (some ⟨g, 0, none⟩)) (hw : Words w g t s.list) (hu : P.underlying ty = some (.array n e)) (hi : (P.info? ty).map (·.size) = some 8) (h : K (a.put o.dst s.agg) w) : if Region.wanted o (yielded ops a.tmps) = true then Oper.wp P o a w K Q else E := by
  rw [if_pos (by simp [Region.wanted, hgd])]
  unfold Oper.wp execOp
  simp only [ho, hx, Instr.loadAt, Instr.sureAddr, Sem.run_bind, Sem.run_pure, Result.andThen_ok, hw.run_load ty e n hu hi]
  exact h

/-- A state laid, as a step of a region. -/
theorem step_store_words {P : Program} {w : World} {ops : Array Oper} {o : Oper} {a : Act} {K : Act → World → Prop} {Q : Exit → Act → World → Prop} {E : Prop} {ty : Nat} (hgd : o.guard = Option.none) (x y : Operand) (ho : o.op = .store ty x y)
    (g t : Nat) (old s : St) (hx : a.eval x = .pointer (some ⟨g, 0, none⟩)) (hy : a.eval y = s.agg) (hw : Words w g t old.list) (hi : (P.info? ty).map (·.size) = some 8) (h : K (a.put o.dst undef) (w.setRow g (s.list.map W32).toArray)) : if Region.wanted o (yielded ops a.tmps) = true then Oper.wp P o a w K Q else E := by
  rw [if_pos (by simp [Region.wanted, hgd])]
  have hy' : a.eval y = .agg (s.list.map W32).toArray := hy
  unfold Oper.wp execOp
  simp only [ho, hx, hy', Instr.storeAt, Instr.sureAddr, Sem.run_bind, Sem.run_pure, Result.andThen_ok, run_storeVar_row (P := P) w g t ty (old.list.map W32).toArray (s.list.map W32).toArray hw hi (by rfl) (words_one _)]
  exact h

set_option maxRecDepth 100000 in
set_option maxHeartbeats 1600000 in
theorem RSum_any (v : Value) (l : List UInt8) (w : World) (hl : Bytes w v l) (hlen : l.length ≤ 1099511627776) :
    Calls Tryd.prog 40 #[v] w fun e w' => e = .returned (.agg ((sumL l).map B8).toArray) ∧ Below w.heap.size w w' := by
  obtain ⟨i0, hi, hz0, hz1, hz2⟩ := info_parts infoU8
  obtain ⟨a, cp, hv⟩ := hl.len
  subst hv
  have HL := Lib.hid hl
  clear hl
  go_enter Tryd.func40, Tryd.ntmps40
  have HL1 := fun (o o' : Obj) => Lib.hid ((HL.out.of_alloc o).of_alloc o')
  go_wp2_with (at_builtin; refine wpList_app8 rfl (.tmp 9) (.tmp 10) 22 rfl (w.heap.size + 1) 5 i0 Tryd.underlying22 hi hz0 hz1 hz2 _ [] rfl (own_start w _ _) _ l rfl (HL1 _ _).out ?c1 ?c2 ?_)
  case c1 => first | omega | (simp; omega)
  case c2 => simp
  intro v1 w1 ho1 hg1 _
  generalize hw0 : w.alloc _ = w0 at hg1
  have hR0 : Octs w0 w.heap.size 25 (List.replicate 32 0) := by subst hw0; exact heap_alloc_new w _
  have hz0' : w0.heap.size = w.heap.size + 1 := by subst hw0; simp
  have hb0 : Below w.heap.size w w0 := by subst hw0; exact (Below.refl _ w).alloc (Nat.le_refl _) _
  have hb1 : Below (w.heap.size + 1) w0 w1 := ((Below.refl _ w0).alloc (by omega) _).grown hg1 (by rw [World.size_alloc]; omega) (fun j hj => by cases hj; exact Nat.le_refl _)
  have hs1 := hb1.size
  have HR1 := Lib.hid (hR0.of_block (hb1.block _ (by omega)))
  have hbA := hb0.trans (hb1.mono (by omega))
  have hszA : w.heap.size + 1 ≤ w1.heap.size := by omega
  have HO := Lib.hid ho1
  have HO1 := Lib.hid (ho1.alloc (.cells #[.int .u8 128] 5))
  have one1 : ∀ W : World, Bytes (W.alloc (.cells #[.int .u8 128] 5)) (.slice (some ⟨W.heap.size, 0, none⟩) 1 1) [128] := fun W => Bytes.one W 128 5
  clear hg1 hw0 hR0 hz0' hb0 hb1 hs1 ho1 HL1
  go_wp2_with (at_builtin; refine wpList_app8 rfl (.tmp 11) (.tmp 12) 22 rfl (w.heap.size + 1) 5 i0 Tryd.underlying22 hi hz0 hz1 hz2 _ _ rfl HO1.out _ [128] rfl (one1 w1) ?c1 ?c2 ?_)
  case c1 => simp; omega
  case c2 => simp; omega
  intro v2 w2 ho2 hg2 _
  have hb2 := app_kept HO1.out HO.out hszA hg2
  have hs2 := hb2.size
  have HR2 := Lib.hid (HR1.out.of_block (hb2.block _ (by omega)))
  have hbB := hbA.trans (hb2.mono (by omega))
  have hszB : w.heap.size + 1 ≤ w2.heap.size := by omega
  clear HO1 HR1 hbA hb2 hg2 HO hs2 hszA one1
  go_wp2
  go_loopw [3] (fun tv wr => ∃ j : Nat, j ≤ zerosOf l.length ∧ Own8 wr (w.heap.size + 1) 5 tv (l ++ [128] ++ List.replicate j 0) ∧ Below (w.heap.size + 1) w2 wr)
    (fun tv _ => 64 + l.length + 1 - lenV tv)
  case atStart => exact ⟨0, by omega, by simpa using ho2, Below.refl _ _⟩
  case round =>
    clear ho2
    obtain ⟨j, hj, hown, hbr⟩ := hrel
    obtain ⟨T, eT⟩ : ∃ T, T = l ++ [128] ++ List.replicate j 0 := ⟨_, rfl⟩
    have hT : T.length = l.length + 1 + j := by rw [eT]; simp; omega
    have ET := Lib.hid eT
    rw [← eT] at hown
    have hlv := lenV_of hown
    obtain ⟨oa, oc, rfl⟩ := hown.bytes.len
    have HO := Lib.hid hown
    have hzz : zerosOf l.length < 64 := by unfold zerosOf; omega
    have hmod : (l.length % 64 + 1 + j) % 64 = (l.length + 1 + j) % 64 := by omega
    clear eT hown
    by_cases hne : (l.length + 1 + j) % 64 = 56
    · have hjj := zeros_end l.length j (by omega) hj
      subst hjj
      have hff : ((T.length : Int) % 64 != 56) = false := by rw [hT]; simp; omega
      have hbC := hbB.trans (hbr.mono (by omega))
      have hsr := hbr.size
      have hszC : w.heap.size + 1 ≤ wr.heap.size := by omega
      have HR3 := Lib.hid (HR2.out.of_block (hbr.block _ (by omega)))
      have HT := Lib.hid hT
      clear hmod HR2 hbB hszB hsr hbr hj hne hlv hT
      go_wp2
      go_loopw [3, 5] (fun tv cv wx => ∃ k : Nat, k ≤ 8 ∧ cv = .int .i64 k ∧ Own8 wx (w.heap.size + 1) 5 tv (T ++ (lenBytes l.length).take k) ∧ Below (w.heap.size + 1) wr wx)
        (fun _ cv _ => 8 - (intOf cv).toNat)
      case atStart =>
        refine ⟨0, by omega, rfl, ?_, Below.refl _ _⟩
        simpa using HO.out
      case round =>
        clear hff
        obtain ⟨k, hk, rfl, hown, hbx⟩ := hrel
        obtain ⟨X, eX⟩ : ∃ X, X = T ++ (lenBytes l.length).take k := ⟨_, rfl⟩
        have hX : X.length = l.length + 1 + zerosOf l.length + k := by rw [eX, List.length_append, List.length_take, lenBytes_len, HT.out]; omega
        rw [← eX] at hown
        have EX := Lib.hid eX
        clear eX
        obtain ⟨oa, oc, rfl⟩ := hown.bytes.len
        have HX := Lib.hid hown
        clear hown
        by_cases hlt : k < 8
        · have HX1 := Lib.hid (HX.out.alloc (.cells #[.int .u8 (8 * (l.length : Int) / 2 ^ (56 - 8 * k) % 256)] 5))
          have one1 : ∀ W : World, Bytes (W.alloc (.cells #[.int .u8 (8 * (l.length : Int) / 2 ^ (56 - 8 * k) % 256)] 5)) (.slice (some ⟨W.heap.size, 0, none⟩) 1 1) [UInt8.ofNat (8 * l.length / 2 ^ (56 - 8 * k) % 256)] := fun W => by
            rw [len_byte']; exact Bytes.one W _ 5
          have hsx := hbx.size
          go_wp2_with (at_builtin; refine wpList_app8 rfl (.tmp 29) (.tmp 37) 22 rfl (w.heap.size + 1) 5 i0 Tryd.underlying22 hi hz0 hz1 hz2 _ _ rfl HX1.out _ [UInt8.ofNat (8 * l.length / 2 ^ (56 - 8 * k) % 256)] rfl (one1 wr) ?d1 ?d2 ?_)
          case d1 => rw [hX]; simp; omega
          case d2 => simp; omega
          intro v3 w3 ho3 hg3 _
          have hb3 := app_kept HX1.out HX.out (by omega) (by rw [← hX] at hg3; exact hg3)
          go_wp2
          go_roundw
          case rel =>
            refine ⟨k + 1, by omega, by go_num, ?_, hbx.trans hb3⟩
            rw [lenBytes_next _ _ hlt, ← List.append_assoc, ← EX.out]
            exact ho3
          case measure => simp [intOf]; omega
        · obtain rfl : k = 8 := by omega
          have eM : X = padL l := by rw [EX.out, List.take_of_length_le (by rw [lenBytes_len]; omega), ET.out]; rfl
          rw [show ((8 : Nat) : Int) = 8 from rfl]
          have hbD := hbC.trans (hbx.mono (by omega))
          have hsx := hbx.size
          have HR4 := Lib.hid (HR3.out.of_block (hbx.block _ (by omega)))
          have hszD : w.heap.size + 1 ≤ wr.heap.size := by omega
          have hXm : X.length % 64 = 0 := by rw [eM]; exact padL_dvd l
          have hXle : X.length ≤ 1099511627900 := by rw [hX]; omega
          have EM := Lib.hid eM
          have HXL := Lib.hid hX
          clear HR3 hbC hbx EX ET hsx hszC hk hlt hzz HO HT eM hX
          obtain ⟨wo, rfl⟩ : ∃ wo : World, wo = wr := ⟨_, rfl⟩
          have HB := Lib.hid hbD
          go_wp2
          generalize hW4 : wo.alloc _ = W4
          obtain ⟨hS4, hb4⟩ : Words W4 wo.heap.size 89 st0.list ∧ Below wo.heap.size wo W4 := by
            subst hW4; exact ⟨words_fresh wo _ _ st0.list (by rfl) _ rfl, (Below.refl _ _).alloc (Nat.le_refl _) _⟩
          clear hW4 hbD
          have hX8 := HX.out.bytes
          clear HX
          go_loopw [3] (fun mv wx => ∃ n : Nat, 64 * n ≤ X.length ∧ Bytes wo mv (X.drop (64 * n)) ∧ Words wx wo.heap.size 89 (chunksTo X n).list ∧ Below wo.heap.size wo wx)
            (fun mv _ => lenV mv)
          case atStart => exact ⟨0, by omega, by simpa using hX8, hS4, hb4⟩
          case round =>
            clear hS4 hb4 hX8
            obtain ⟨n, hn, hM, hS, hb⟩ := hrel
            obtain ⟨Y, hY⟩ : ∃ Y, Y = X.drop (64 * n) := ⟨_, rfl⟩
            have hYl : Y.length = X.length - 64 * n := by rw [hY, List.length_drop]
            rw [← hY] at hM
            obtain ⟨ma, mc, hmv⟩ := hM.len
            subst hmv
            by_cases hlt : 64 * n < X.length
            · have h64 : 64 ≤ Y.length := by omega
              obtain ⟨r1, hrun1, hr1, _⟩ := hM.part (P := Tryd.prog) (t := 22) Tryd.underlying22 hi hz1 none (some (.int .i64 64)) 0 64 (by omega) h64 (.inl ⟨rfl, rfl⟩) (.inr ⟨.i64, rfl⟩)
              obtain ⟨r2, hrun2, hr2, _⟩ := hM.part (P := Tryd.prog) (t := 22) Tryd.underlying22 hi hz1 (some (.int .i64 64)) none 64 Y.length h64 (by omega) (.inr ⟨.i64, rfl⟩) (.inl ⟨rfl, rfl⟩)
              have e1 : ((Y.drop 0).take (64 - 0)) = Y.take 64 := by simp
              have e2 : ((Y.drop 64).take (Y.length - 64)) = X.drop (64 * (n + 1)) := by
                rw [List.take_of_length_le (by simp), hY, List.drop_drop]; congr 1
              rw [e1] at hr1
              rw [e2] at hr2
              have hl1 : 64 ≤ (Y.take 64).length := by rw [List.length_take]; omega
              have hcn : chunksTo X (n + 1) = takeL (chunksTo X n) (Y.take 64) := by rw [chunksTo_next, takeL_take, hY]
              have HCN := Lib.hid hcn
              have HS := Lib.hid hS
              have HR1 := Lib.hid (hr1.of_new hb.drew)
              have HR2 := Lib.hid hr2
              have HLT := Lib.hid (And.intro hlt hYl)
              have hY0 : 0 < Y.length := by omega
              clear hcn hS hr1 hr2 hM hlt hYl hY e1 e2
              go_wp2
              refine wp_region_any (by kernel_rfl) ?_
              change wpAny _ _ _ _ _ _ _ (World.drew _)
              refine wpAny_take (i := 1) (v := .slice ma Y.length mc) rfl (by kernel_rfl) (by kernel_rfl) (by kernel_rfl) (fun _ _ _ h => h) (Or.inl ⟨by rfl, fun w => by go_simp⟩) ?_
              refine wpAny_take (i := 2) (v := r1) rfl (by kernel_rfl) (by kernel_rfl) (by kernel_rfl) (fun _ _ _ h => h) (Or.inl ⟨by rfl, fun w => by go_simp⟩) ?_
              refine wpAny_ready (rs := [0]) (by kernel_rfl) (by simp) ?_
              refine AllReady.cons rfl (fun K hK => ?_) AllReady.nil
              refine step_load_words rfl (.tmp 6) rfl wo.heap.size 89 (chunksTo X n) rfl HS.out Tryd.underlying89 (by kernel_rfl) ?_
              refine hK _ _ ?_
              clear hK K
              refine wpAny_ready (rs := [3]) (by kernel_rfl) (by simp) ?_
              refine AllReady.cons rfl (fun K hK => ?_) AllReady.nil
              go_simp
              refine (chunk_any (chunksTo X n) r1 _ wr.drew HR1.out hl1).mono ?_
              rintro e w2 ⟨rfl, hb2⟩
              have hb3 : Below wo.heap.size wo w2 := (hb.drew).trans (hb2.mono hb.size)
              have hS2 := HS.out.of_block (hb2.block _ HS.out.lt)
              refine hK _ _ ?_
              clear hK K hb2 hb HS
              refine wpAny_ready (rs := [4]) (by kernel_rfl) (by simp) ?_
              refine AllReady.cons rfl (fun K hK => ?_) AllReady.nil
              refine step_store_words rfl (.tmp 6) (.tmp 46) rfl wo.heap.size 89 (chunksTo X n) (takeL (chunksTo X n) (Y.take 64)) rfl rfl hS2 (by kernel_rfl) ?_
              refine hK _ _ ?_
              clear hK K
              refine wpAny_done (by kernel_rfl) ?_ _
              go_wp2
              go_roundw
              case rel =>
                obtain ⟨q1, q2⟩ := HLT.out
                refine ⟨n + 1, by omega, HR2.out, ?_, hb3.trans (below_setRow' _ _ _ (Nat.le_refl _))⟩
                rw [HCN.out]
                exact hS2.laid _
              case measure =>
                obtain ⟨q1, q2⟩ := HLT.out
                obtain ⟨_, _, hq⟩ := HR2.out.len
                rw [hq]
                show (X.drop (64 * (n + 1))).length < Y.length
                rw [List.length_drop, q2]; omega
            · have hY0 : Y.length = 0 := by omega
              obtain rfl : n = X.length / 64 := by omega
              obtain ⟨s, hs⟩ : ∃ s, s = chunksTo X (X.length / 64) := ⟨_, rfl⟩
              rw [← hs] at hS
              have hout : sumL l = outB s := by rw [hs, EM.out]; rfl
              have HOUT := Lib.hid hout
              have HS := Lib.hid hS
              have hYn : (0 < (Y.length : Int)) = False := by rw [hY0]; simp
              have hYn2 : (0 < Y.length) = False := by rw [hY0]; simp
              clear hS hs hout hlt hn hM hYl hY
              go_wp2
              generalize hW5 : wr.alloc _ = W5
              have hD0 : Octs W5 wr.heap.size 25 (List.replicate 32 0) := by
                rw [← hW5]; exact heap_alloc_new wr _
              have hb5 : Below wr.heap.size wr W5 := by rw [← hW5]; exact (Below.refl _ wr).alloc (Nat.le_refl _) _
              have hg2 : wo.heap.size < wr.heap.size := HS.out.lt
              have hS5 := HS.out.of_block (hb5.block _ hg2)
              have hR5 := HR4.out.of_block ((hb5.block _ (by omega)).trans (hb.block _ (by omega)))
              have hbW := (HB.out.trans (hb.mono (by omega))).trans (hb5.mono (by omega))
              obtain ⟨g, hg⟩ : ∃ g, g = wr.heap.size := ⟨_, rfl⟩
              obtain ⟨go, hgo⟩ : ∃ g, g = wo.heap.size := ⟨_, rfl⟩
              rw [← hgo] at hS5 hg2 hszD ⊢
              rw [← hg] at hD0 hg2 ⊢
              clear hW5 hb5 hg hgo HS HR4 HB hb hYn hYn2 hY0
              go_loopw [8] (fun iv wx => ∃ k : Nat, k ≤ 32 ∧ iv = .int .i64 k ∧ Words wx go 89 s.list ∧ Octs wx w.heap.size 25 (List.replicate 32 0) ∧ Below w.heap.size w wx ∧ Octs wx g 25 ((outB s).take k ++ List.replicate (32 - k) 0))
                (fun iv _ => 32 - (intOf iv).toNat)
              case atStart => exact ⟨0, by omega, rfl, hS5, hR5, hbW, by simpa using hD0⟩
              case round =>
                clear hS5 hR5 hbW hD0
                obtain ⟨k, hk, rfl, hS, hR, hb, hD⟩ := hrel
                by_cases hlt : k < 32
                · obtain ⟨x, hx⟩ : ∃ x, x = s.list.getD (k / 4) 0 := ⟨_, rfl⟩
                  have hc := hS.cell (j := k / 4) (by show _ < 8; omega)
                  rw [← hx] at hc
                  unfold W32 at hc
                  have hfr := hD.free k
                  have hck := hD.cell (j := k) (by rw [List.length_append, List.length_take, outB_len, List.length_replicate]; omega)
                  have hq0 : (0 : Int) ≤ (k : Int) / 4 := by omega
                  have hq1 : (k : Int) / 4 < 8 := by omega
                  have HX := Lib.hid hx
                  have HS := Lib.hid hS
                  have HR := Lib.hid hR
                  have HD := Lib.hid hD
                  clear hx hS hR hD
                  go_wp2
                  go_roundw
                  case rel =>
                    refine ⟨k + 1, by omega, by go_num, HS.out.of_block (Below.heap_setCell _ _ _ _ (by simp; omega)), HR.out.of_block (Below.heap_setCell _ _ _ _ (by simp; omega)), hb.setCell (by simp; omega) _, ?_⟩
                    rw [w32_out, ← outB_next s k hlt]
                    rw [← HX.out]
                    exact HD.out.set k _
                  case measure => simp [intOf]; omega
                · obtain rfl : k = 32 := by omega
                  rw [show 32 - 32 = 0 from rfl, List.replicate_zero, List.append_nil, List.take_of_length_le (by rw [outB_len]; omega)] at hD
                  rw [show ((32 : Nat) : Int) = 32 from rfl]
                  have HR := Lib.hid hR
                  have HB := Lib.hid hb
                  clear hR hb hS
                  go_wp2_with (first | (refine wpList_load_row rfl 25 _ rfl g rfl _ _ _ _ hD Tryd.underlying25 rfl ?hi ?_; (case hi => rw [info_dig]; simp [outB_len])) | (refine wpList_store_row rfl 25 _ _ rfl w.heap.size 25 _ _ rfl rfl HR.out ?hj ?hk (octs_one _) ?_; (case hj => rw [info_dig]; simp [outB_len]); (case hk => simp [outB_len])))
                  rw [HOUT.out]
                  refine bodyPost_ret (results_cell rfl _ rfl (run_loadVar_row _ _ 25 _ ((outB s).map B8).toArray (0, 0) _ (setRow_heap _ _ _ _ _ _ HR.out) Tryd.underlying25 rfl (by rw [info_dig]; simp [outB_len]))) rfl ⟨rfl, ?_⟩
                  exact HB.out.trans (below_setRow' _ _ _ (Nat.le_refl _))
    · have hj1 := zeros_step l.length j (by omega) hj
      have HO1 := Lib.hid (HO.out.alloc (.cells #[.int .u8 0] 5))
      have one1 : ∀ W : World, Bytes (W.alloc (.cells #[.int .u8 0] 5)) (.slice (some ⟨W.heap.size, 0, none⟩) 1 1) [0] := fun W => Bytes.one W 0 5
      have hsr := hbr.size
      have hmz : ((T.length : Int) % 64 != 56) = true := by rw [hT]; simp; omega
      clear hmod
      go_wp2_with (at_builtin; refine wpList_app8 rfl (.tmp 18) (.tmp 19) 22 rfl (w.heap.size + 1) 5 i0 Tryd.underlying22 hi hz0 hz1 hz2 _ _ rfl HO1.out _ [0] rfl (one1 wr) ?c1 ?c2 ?_)
      case c1 => rw [hT]; simp; omega
      case c2 => simp; omega
      intro v3 w3 ho3 hg3 _
      have hb3 := app_kept HO1.out HO.out (by omega) (by rw [← hT] at hg3; exact hg3)
      go_wp2
      go_roundw
      case rel =>
        refine ⟨j + 1, hj1, ?_, hbr.trans hb3⟩
        rw [List.replicate_succ', ← List.append_assoc, ← ET.out]
        exact ho3
      case measure =>
        have hl3 := lenV_of ho3
        rw [List.length_append, hT] at hl3
        simp only [List.length_singleton] at hl3
        omega

end Go.Proofs.YtnomekfemadpeaaDoor

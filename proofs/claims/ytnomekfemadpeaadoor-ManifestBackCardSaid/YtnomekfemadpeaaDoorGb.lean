/- Settled texts of this seat, one behind the other: each begins with a comment that says what it proves and asks. -/
import Derived.Test.YtnomekfemadpeaaDoorGa
import Derived.Test.YtnomekfemadpeaaDoorProg
import Derived.LoopNIn
import Derived.LoopIn
import Derived.Shelf.Abstract
import Derived.Shelf.RegionOpen
import Derived.Great.BuildSlice
import Derived.OrdersIn
import Derived.RangeFuncCalls
import Derived.OwnWalkIn
import Derived.TacticsInMore
import Derived.OneCell
import Derived.Laws.StructEq
import Derived.Deep.DeepCutAuto
import Derived.Deep.Cut
import Derived.BigQuiet
/- The walk of the reference's Sum: the hash of bytes. Condition: no more than 2^40 bytes. -/
namespace Go.Proofs.YtnomekfemadpeaaDoor
open Go.RowKit
set_option linter.unusedVariables false

theorem len_byte' (n j : Nat) : Value.int .u8 (8 * (n : Int) / 2 ^ j % 256) = B8 (UInt8.ofNat (8 * n / 2 ^ j % 256)) := by
  rw [Int.mul_comm]; exact len_byte n j

theorem own_start (w : World) (A : Array Value) (t : Nat) : Own8 ((w.alloc (.cells A t)).alloc (.cells #[] 5)) (w.heap.size + 1) 5 (.slice (some ⟨w.heap.size + 1, 0, none⟩) 0 0) [] := by
  have h : Own8 ((w.alloc (.cells A t)).alloc (.cells #[] 5)) (w.alloc (.cells A t)).heap.size 5 (.slice (some ⟨(w.alloc (.cells A t)).heap.size, 0, none⟩) 0 0) [] := World.ownsRow_made _ #[] 0 (Nat.le_refl _) (by unfold maxLen; omega) rfl
  rwa [World.size_alloc] at h

theorem Words.lt {w : World} {g t : Nat} {ws : List UInt32} (h : Words w g t ws) : g < w.heap.size := (Array.getElem?_eq_some_iff.1 h).1

/-- A state read, as a step of a region. -/
theorem step_load_words {P : Program} {w : World} {ops : Array Oper} {o : Oper} {a : Act} {K : Act → World → Prop} {Q : Exit → Act → World → Prop} {E : Prop} {ty e n : Nat} (hgd : o.guard = Option.none) (x : Operand) (ho : o.op = .load ty x)
    (g t : Nat) (s : St) (hx : a.eval x = .pointer (some ⟨g, 0, none⟩)) (hw : Words w g t s.list) (hu : P.underlying ty = some (.array n e)) (hi : (P.info? ty).map (·.size) = some 8) (h : K (a.put o.dst s.agg) w) : if Region.wanted o (yielded ops a.tmps) = true then Oper.wp P o a w K Q else E := by
  rw [if_pos (by simp [Region.wanted, hgd])]
  unfold Oper.wp execOp
  simp only [ho, hx, Instr.loadAt, Instr.sureAddr, Sem.run_bind, Sem.run_pure, Result.andThen_ok, hw.run_load ty e n hu hi]
  exact h

/-- A state laid, as a step of a region. -/
theorem step_store_words {P : Program} {w : World} {ops : Array Oper} {o : Oper} {a : Act} {K : Act → World → Prop} {Q : Exit → Act → World → Prop} {E : Prop} {ty : Nat} (hgd : o.guard = Option.none) (x y : Operand) (ho : o.op = .store ty x y)
    (g t : Nat) (old s : St) (hx : a.eval x = .pointer (some ⟨g, 0, none⟩)) (hy : a.eval y = s.agg) (hw : Words w g t old.list) (hi : (P.info? ty).map (·.size) = some 8) (h : K (a.put o.dst undef) (w.setRow g (s.list.map W32).toArray)) : if Region.wanted o (yielded ops a.tmps) = true then Oper.wp P o a w K Q else E := by
  rw [if_pos (by simp [Region.wanted, hgd])]
  have hy' : a.eval y = .agg (s.list.map W32).toArray := hy
  unfold Oper.wp execOp
  simp only [ho, hx, hy', Instr.storeAt, Instr.sureAddr, Sem.run_bind, Sem.run_pure, Result.andThen_ok, run_storeVar_row (P := P) w g t ty (old.list.map W32).toArray (s.list.map W32).toArray hw hi (by rfl) (words_one _)]
  exact h

set_option maxRecDepth 100000 in
set_option maxHeartbeats 1600000 in
theorem RSum_any (v : Value) (l : List UInt8) (w : World) (hl : Bytes w v l) (hlen : l.length ≤ 1099511627776) :
    Calls Tryd.prog 40 #[v] w fun e w' => e = .returned (.agg ((sumL l).map B8).toArray) ∧ Below w.heap.size w w' := by
  obtain ⟨i0, hi, hz0, hz1, hz2⟩ := info_parts infoU8
  obtain ⟨a, cp, hv⟩ := hl.len
  subst hv
  have HL := Lib.hid hl
  clear hl
  go_enter Tryd.func40, Tryd.ntmps40
  have HL1 := fun (o o' : Obj) => Lib.hid ((HL.out.of_alloc o).of_alloc o')
  go_wp2_with (at_builtin; refine wpList_app8 rfl (.tmp 9) (.tmp 10) 22 rfl (w.heap.size + 1) 5 i0 Tryd.underlying22 hi hz0 hz1 hz2 _ [] rfl (own_start w _ _) _ l rfl (HL1 _ _).out ?c1 ?c2 ?_)
  case c1 => first | omega | (simp; omega)
  case c2 => simp
  intro v1 w1 ho1 hg1 _
  generalize hw0 : w.alloc _ = w0 at hg1
  have hR0 : Octs w0 w.heap.size 25 (List.replicate 32 0) := by subst hw0; exact heap_alloc_new w _
  have hz0' : w0.heap.size = w.heap.size + 1 := by subst hw0; simp
  have hb0 : Below w.heap.size w w0 := by subst hw0; exact (Below.refl _ w).alloc (Nat.le_refl _) _
  have hb1 : Below (w.heap.size + 1) w0 w1 := ((Below.refl _ w0).alloc (by omega) _).grown hg1 (by rw [World.size_alloc]; omega) (fun j hj => by cases hj; exact Nat.le_refl _)
  have hs1 := hb1.size
  have HR1 := Lib.hid (hR0.of_block (hb1.block _ (by omega)))
  have hbA := hb0.trans (hb1.mono (by omega))
  have hszA : w.heap.size + 1 ≤ w1.heap.size := by omega
  have HO := Lib.hid ho1
  have HO1 := Lib.hid (ho1.alloc (.cells #[.int .u8 128] 5))
  have one1 : ∀ W : World, Bytes (W.alloc (.cells #[.int .u8 128] 5)) (.slice (some ⟨W.heap.size, 0, none⟩) 1 1) [128] := fun W => Bytes.one W 128 5
  clear hg1 hw0 hR0 hz0' hb0 hb1 hs1 ho1 HL1
  go_wp2_with (at_builtin; refine wpList_app8 rfl (.tmp 11) (.tmp 12) 22 rfl (w.heap.size + 1) 5 i0 Tryd.underlying22 hi hz0 hz1 hz2 _ _ rfl HO1.out _ [128] rfl (one1 w1) ?c1 ?c2 ?_)
  case c1 => simp; omega
  case c2 => simp; omega
  intro v2 w2 ho2 hg2 _
  have hb2 := app_kept HO1.out HO.out hszA hg2
  have hs2 := hb2.size
  have HR2 := Lib.hid (HR1.out.of_block (hb2.block _ (by omega)))
  have hbB := hbA.trans (hb2.mono (by omega))
  have hszB : w.heap.size + 1 ≤ w2.heap.size := by omega
  clear HO1 HR1 hbA hb2 hg2 HO hs2 hszA one1
  go_wp2
  go_loopw [3] (fun tv wr => ∃ j : Nat, j ≤ zerosOf l.length ∧ Own8 wr (w.heap.size + 1) 5 tv (l ++ [128] ++ List.replicate j 0) ∧ Below (w.heap.size + 1) w2 wr)
    (fun tv _ => 64 + l.length + 1 - lenV tv)
  case atStart => exact ⟨0, by omega, by simpa using ho2, Below.refl _ _⟩
  case round =>
    clear ho2
    obtain ⟨j, hj, hown, hbr⟩ := hrel
    obtain ⟨T, eT⟩ : ∃ T, T = l ++ [128] ++ List.replicate j 0 := ⟨_, rfl⟩
    have hT : T.length = l.length + 1 + j := by rw [eT]; simp; omega
    have ET := Lib.hid eT
    rw [← eT] at hown
    have hlv := lenV_of hown
    obtain ⟨oa, oc, rfl⟩ := hown.bytes.len
    have HO := Lib.hid hown
    have hzz : zerosOf l.length < 64 := by unfold zerosOf; omega
    have hmod : (l.length % 64 + 1 + j) % 64 = (l.length + 1 + j) % 64 := by omega
    clear eT hown
    by_cases hne : (l.length + 1 + j) % 64 = 56
    · have hjj := zeros_end l.length j (by omega) hj
      subst hjj
      have hff : ((T.length : Int) % 64 != 56) = false := by rw [hT]; simp; omega
      have hbC := hbB.trans (hbr.mono (by omega))
      have hsr := hbr.size
      have hszC : w.heap.size + 1 ≤ wr.heap.size := by omega
      have HR3 := Lib.hid (HR2.out.of_block (hbr.block _ (by omega)))
      have HT := Lib.hid hT
      clear hmod HR2 hbB hszB hsr hbr hj hne hlv hT
      go_wp2
      go_loopw [3, 5] (fun tv cv wx => ∃ k : Nat, k ≤ 8 ∧ cv = .int .i64 k ∧ Own8 wx (w.heap.size + 1) 5 tv (T ++ (lenBytes l.length).take k) ∧ Below (w.heap.size + 1) wr wx)
        (fun _ cv _ => 8 - (intOf cv).toNat)
      case atStart =>
        refine ⟨0, by omega, rfl, ?_, Below.refl _ _⟩
        simpa using HO.out
      case round =>
        clear hff
        obtain ⟨k, hk, rfl, hown, hbx⟩ := hrel
        obtain ⟨X, eX⟩ : ∃ X, X = T ++ (lenBytes l.length).take k := ⟨_, rfl⟩
        have hX : X.length = l.length + 1 + zerosOf l.length + k := by rw [eX, List.length_append, List.length_take, lenBytes_len, HT.out]; omega
        rw [← eX] at hown
        have EX := Lib.hid eX
        clear eX
        obtain ⟨oa, oc, rfl⟩ := hown.bytes.len
        have HX := Lib.hid hown
        clear hown
        by_cases hlt : k < 8
        · have HX1 := Lib.hid (HX.out.alloc (.cells #[.int .u8 (8 * (l.length : Int) / 2 ^ (56 - 8 * k) % 256)] 5))
          have one1 : ∀ W : World, Bytes (W.alloc (.cells #[.int .u8 (8 * (l.length : Int) / 2 ^ (56 - 8 * k) % 256)] 5)) (.slice (some ⟨W.heap.size, 0, none⟩) 1 1) [UInt8.ofNat (8 * l.length / 2 ^ (56 - 8 * k) % 256)] := fun W => by
            rw [len_byte']; exact Bytes.one W _ 5
          have hsx := hbx.size
          go_wp2_with (at_builtin; refine wpList_app8 rfl (.tmp 29) (.tmp 37) 22 rfl (w.heap.size + 1) 5 i0 Tryd.underlying22 hi hz0 hz1 hz2 _ _ rfl HX1.out _ [UInt8.ofNat (8 * l.length / 2 ^ (56 - 8 * k) % 256)] rfl (one1 wr) ?d1 ?d2 ?_)
          case d1 => rw [hX]; simp; omega
          case d2 => simp; omega
          intro v3 w3 ho3 hg3 _
          have hb3 := app_kept HX1.out HX.out (by omega) (by rw [← hX] at hg3; exact hg3)
          go_wp2
          go_roundw
          case rel =>
            refine ⟨k + 1, by omega, by go_num, ?_, hbx.trans hb3⟩
            rw [lenBytes_next _ _ hlt, ← List.append_assoc, ← EX.out]
            exact ho3
          case measure => simp [intOf]; omega
        · obtain rfl : k = 8 := by omega
          have eM : X = padL l := by rw [EX.out, List.take_of_length_le (by rw [lenBytes_len]; omega), ET.out]; rfl
          rw [show ((8 : Nat) : Int) = 8 from rfl]
          have hbD := hbC.trans (hbx.mono (by omega))
          have hsx := hbx.size
          have HR4 := Lib.hid (HR3.out.of_block (hbx.block _ (by omega)))
          have hszD : w.heap.size + 1 ≤ wr.heap.size := by omega
          have hXm : X.length % 64 = 0 := by rw [eM]; exact padL_dvd l
          have hXle : X.length ≤ 1099511627900 := by rw [hX]; omega
          have EM := Lib.hid eM
          have HXL := Lib.hid hX
          clear HR3 hbC hbx EX ET hsx hszC hk hlt hzz HO HT eM hX
          obtain ⟨wo, rfl⟩ : ∃ wo : World, wo = wr := ⟨_, rfl⟩
          have HB := Lib.hid hbD
          go_wp2
          generalize hW4 : wo.alloc _ = W4
          obtain ⟨hS4, hb4⟩ : Words W4 wo.heap.size 89 st0.list ∧ Below wo.heap.size wo W4 := by
            subst hW4; exact ⟨words_fresh wo _ _ st0.list (by rfl) _ rfl, (Below.refl _ _).alloc (Nat.le_refl _) _⟩
          clear hW4 hbD
          have hX8 := HX.out.bytes
          clear HX
          go_loopw [3] (fun mv wx => ∃ n : Nat, 64 * n ≤ X.length ∧ Bytes wo mv (X.drop (64 * n)) ∧ Words wx wo.heap.size 89 (chunksTo X n).list ∧ Below wo.heap.size wo wx)
            (fun mv _ => lenV mv)
          case atStart => exact ⟨0, by omega, by simpa using hX8, hS4, hb4⟩
          case round =>
            clear hS4 hb4 hX8
            obtain ⟨n, hn, hM, hS, hb⟩ := hrel
            obtain ⟨Y, hY⟩ : ∃ Y, Y = X.drop (64 * n) := ⟨_, rfl⟩
            have hYl : Y.length = X.length - 64 * n := by rw [hY, List.length_drop]
            rw [← hY] at hM
            obtain ⟨ma, mc, hmv⟩ := hM.len
            subst hmv
            by_cases hlt : 64 * n < X.length
            · have h64 : 64 ≤ Y.length := by omega
              obtain ⟨r1, hrun1, hr1, _⟩ := hM.part (P := Tryd.prog) (t := 22) Tryd.underlying22 hi hz1 none (some (.int .i64 64)) 0 64 (by omega) h64 (.inl ⟨rfl, rfl⟩) (.inr ⟨.i64, rfl⟩)
              obtain ⟨r2, hrun2, hr2, _⟩ := hM.part (P := Tryd.prog) (t := 22) Tryd.underlying22 hi hz1 (some (.int .i64 64)) none 64 Y.length h64 (by omega) (.inr ⟨.i64, rfl⟩) (.inl ⟨rfl, rfl⟩)
              have e1 : ((Y.drop 0).take (64 - 0)) = Y.take 64 := by simp
              have e2 : ((Y.drop 64).take (Y.length - 64)) = X.drop (64 * (n + 1)) := by
                rw [List.take_of_length_le (by simp), hY, List.drop_drop]; congr 1
              rw [e1] at hr1
              rw [e2] at hr2
              have hl1 : 64 ≤ (Y.take 64).length := by rw [List.length_take]; omega
              have hcn : chunksTo X (n + 1) = takeL (chunksTo X n) (Y.take 64) := by rw [chunksTo_next, takeL_take, hY]
              have HCN := Lib.hid hcn
              have HS := Lib.hid hS
              have HR1 := Lib.hid (hr1.of_new hb.drew)
              have HR2 := Lib.hid hr2
              have HLT := Lib.hid (And.intro hlt hYl)
              have hY0 : 0 < Y.length := by omega
              clear hcn hS hr1 hr2 hM hlt hYl hY e1 e2
              go_wp2
              refine wp_region_any (by kernel_rfl) ?_
              change wpAny _ _ _ _ _ _ _ (World.drew _)
              refine wpAny_take (i := 1) (v := .slice ma Y.length mc) rfl (by kernel_rfl) (by kernel_rfl) (by kernel_rfl) (fun _ _ _ h => h) (Or.inl ⟨by rfl, fun w => by go_simp⟩) ?_
              refine wpAny_take (i := 2) (v := r1) rfl (by kernel_rfl) (by kernel_rfl) (by kernel_rfl) (fun _ _ _ h => h) (Or.inl ⟨by rfl, fun w => by go_simp⟩) ?_
              refine wpAny_ready (rs := [0]) (by kernel_rfl) (by simp) ?_
              refine AllReady.cons rfl (fun K hK => ?_) AllReady.nil
              refine step_load_words rfl (.tmp 6) rfl wo.heap.size 89 (chunksTo X n) rfl HS.out Tryd.underlying89 (by kernel_rfl) ?_
              refine hK _ _ ?_
              clear hK K
              refine wpAny_ready (rs := [3]) (by kernel_rfl) (by simp) ?_
              refine AllReady.cons rfl (fun K hK => ?_) AllReady.nil
              go_simp
              refine (chunk_any (chunksTo X n) r1 _ wr.drew HR1.out hl1).mono ?_
              rintro e w2 ⟨rfl, hb2⟩
              have hb3 : Below wo.heap.size wo w2 := (hb.drew).trans (hb2.mono hb.size)
              have hS2 := HS.out.of_block (hb2.block _ HS.out.lt)
              refine hK _ _ ?_
              clear hK K hb2 hb HS
              refine wpAny_ready (rs := [4]) (by kernel_rfl) (by simp) ?_
              refine AllReady.cons rfl (fun K hK => ?_) AllReady.nil
              refine step_store_words rfl (.tmp 6) (.tmp 46) rfl wo.heap.size 89 (chunksTo X n) (takeL (chunksTo X n) (Y.take 64)) rfl rfl hS2 (by kernel_rfl) ?_
              refine hK _ _ ?_
              clear hK K
              refine wpAny_done (by kernel_rfl) ?_ _
              go_wp2
              go_roundw
              case rel =>
                obtain ⟨q1, q2⟩ := HLT.out
                refine ⟨n + 1, by omega, HR2.out, ?_, hb3.trans (below_setRow' _ _ _ (Nat.le_refl _))⟩
                rw [HCN.out]
                exact hS2.laid _
              case measure =>
                obtain ⟨q1, q2⟩ := HLT.out
                obtain ⟨_, _, hq⟩ := HR2.out.len
                rw [hq]
                show (X.drop (64 * (n + 1))).length < Y.length
                rw [List.length_drop, q2]; omega
            · have hY0 : Y.length = 0 := by omega
              obtain rfl : n = X.length / 64 := by omega
              obtain ⟨s, hs⟩ : ∃ s, s = chunksTo X (X.length / 64) := ⟨_, rfl⟩
              rw [← hs] at hS
              have hout : sumL l = outB s := by rw [hs, EM.out]; rfl
              have HOUT := Lib.hid hout
              have HS := Lib.hid hS
              have hYn : (0 < (Y.length : Int)) = False := by rw [hY0]; simp
              have hYn2 : (0 < Y.length) = False := by rw [hY0]; simp
              clear hS hs hout hlt hn hM hYl hY
              go_wp2
              generalize hW5 : wr.alloc _ = W5
              have hD0 : Octs W5 wr.heap.size 25 (List.replicate 32 0) := by
                rw [← hW5]; exact heap_alloc_new wr _
              have hb5 : Below wr.heap.size wr W5 := by rw [← hW5]; exact (Below.refl _ wr).alloc (Nat.le_refl _) _
              have hg2 : wo.heap.size < wr.heap.size := HS.out.lt
              have hS5 := HS.out.of_block (hb5.block _ hg2)
              have hR5 := HR4.out.of_block ((hb5.block _ (by omega)).trans (hb.block _ (by omega)))
              have hbW := (HB.out.trans (hb.mono (by omega))).trans (hb5.mono (by omega))
              obtain ⟨g, hg⟩ : ∃ g, g = wr.heap.size := ⟨_, rfl⟩
              obtain ⟨go, hgo⟩ : ∃ g, g = wo.heap.size := ⟨_, rfl⟩
              rw [← hgo] at hS5 hg2 hszD ⊢
              rw [← hg] at hD0 hg2 ⊢
              clear hW5 hb5 hg hgo HS HR4 HB hb hYn hYn2 hY0
              go_loopw [8] (fun iv wx => ∃ k : Nat, k ≤ 32 ∧ iv = .int .i64 k ∧ Words wx go 89 s.list ∧ Octs wx w.heap.size 25 (List.replicate 32 0) ∧ Below w.heap.size w wx ∧ Octs wx g 25 ((outB s).take k ++ List.replicate (32 - k) 0))
                (fun iv _ => 32 - (intOf iv).toNat)
              case atStart => exact ⟨0, by omega, rfl, hS5, hR5, hbW, by simpa using hD0⟩
              case round =>
                clear hS5 hR5 hbW hD0
                obtain ⟨k, hk, rfl, hS, hR, hb, hD⟩ := hrel
                by_cases hlt : k < 32
                · obtain ⟨x, hx⟩ : ∃ x, x = s.list.getD (k / 4) 0 := ⟨_, rfl⟩
                  have hc := hS.cell (j := k / 4) (by show _ < 8; omega)
                  rw [← hx] at hc
                  unfold W32 at hc
                  have hfr := hD.free k
                  have hck := hD.cell (j := k) (by rw [List.length_append, List.length_take, outB_len, List.length_replicate]; omega)
                  have hq0 : (0 : Int) ≤ (k : Int) / 4 := by omega
                  have hq1 : (k : Int) / 4 < 8 := by omega
                  have HX := Lib.hid hx
                  have HS := Lib.hid hS
                  have HR := Lib.hid hR
                  have HD := Lib.hid hD
                  clear hx hS hR hD
                  go_wp2
                  go_roundw
                  case rel =>
                    refine ⟨k + 1, by omega, by go_num, HS.out.of_block (Below.heap_setCell _ _ _ _ (by simp; omega)), HR.out.of_block (Below.heap_setCell _ _ _ _ (by simp; omega)), hb.setCell (by simp; omega) _, ?_⟩
                    rw [w32_out, ← outB_next s k hlt]
                    rw [← HX.out]
                    exact HD.out.set k _
                  case measure => simp [intOf]; omega
                · obtain rfl : k = 32 := by omega
                  rw [show 32 - 32 = 0 from rfl, List.replicate_zero, List.append_nil, List.take_of_length_le (by rw [outB_len]; omega)] at hD
                  rw [show ((32 : Nat) : Int) = 32 from rfl]
                  have HR := Lib.hid hR
                  have HB := Lib.hid hb
                  clear hR hb hS
                  go_wp2_with (first | (refine wpList_load_row rfl 25 _ rfl g rfl _ _ _ _ hD Tryd.underlying25 rfl ?hi ?_; (case hi => rw [info_dig]; simp [outB_len])) | (refine wpList_store_row rfl 25 _ _ rfl w.heap.size 25 _ _ rfl rfl HR.out ?hj ?hk (octs_one _) ?_; (case hj => rw [info_dig]; simp [outB_len]); (case hk => simp [outB_len])))
                  rw [HOUT.out]
                  refine bodyPost_ret (results_cell rfl _ rfl (run_loadVar_row _ _ 25 _ ((outB s).map B8).toArray (0, 0) _ (setRow_heap _ _ _ _ _ _ HR.out) Tryd.underlying25 rfl (by rw [info_dig]; simp [outB_len]))) rfl ⟨rfl, ?_⟩
                  exact HB.out.trans (below_setRow' _ _ _ (Nat.le_refl _))
    · have hj1 := zeros_step l.length j (by omega) hj
      have HO1 := Lib.hid (HO.out.alloc (.cells #[.int .u8 0] 5))
      have one1 : ∀ W : World, Bytes (W.alloc (.cells #[.int .u8 0] 5)) (.slice (some ⟨W.heap.size, 0, none⟩) 1 1) [0] := fun W => Bytes.one W 0 5
      have hsr := hbr.size
      have hmz : ((T.length : Int) % 64 != 56) = true := by rw [hT]; simp; omega
      clear hmod
      go_wp2_with (at_builtin; refine wpList_app8 rfl (.tmp 18) (.tmp 19) 22 rfl (w.heap.size + 1) 5 i0 Tryd.underlying22 hi hz0 hz1 hz2 _ _ rfl HO1.out _ [0] rfl (one1 wr) ?c1 ?c2 ?_)
      case c1 => rw [hT]; simp; omega
      case c2 => simp; omega
      intro v3 w3 ho3 hg3 _
      have hb3 := app_kept HO1.out HO.out (by omega) (by rw [← hT] at hg3; exact hg3)
      go_wp2
      go_roundw
      case rel =>
        refine ⟨j + 1, hj1, ?_, hbr.trans hb3⟩
        rw [List.replicate_succ', ← List.append_assoc, ← ET.out]
        exact ho3
      case measure =>
        have hl3 := lenV_of ho3
        rw [List.length_append, hT] at hl3
        simp only [List.length_singleton] at hl3
        omega

end Go.Proofs.YtnomekfemadpeaaDoor

/- The walks of the reference's Parts and Tagged, and of the law's few. Conditions: no more than 40 parts of no more than 2^20 bytes. -/
namespace Go.Proofs.YtnomekfemadpeaaDoor
open Go.RowKit
set_option linter.unusedVariables false

theorem Own8.first (w : World) (e : Nat) (x : UInt8) : Own8 (w.alloc (.cells #[.int .u8 (x.toNat : Int)] e)) w.heap.size e (.slice (some ⟨w.heap.size, 0, none⟩) 1 1) [x] :=
  ⟨rfl, .inr ⟨w.heap.size, 1, #[.int .u8 (x.toNat : Int)], rfl, Nat.le_refl _, heap_alloc_new w _, Nat.le_refl _, by unfold maxLen; omega, rfl, rfl⟩⟩

theorem rem_byte (q : Nat) : Value.int .u8 ((q : Int) % 256) = B8 (UInt8.ofNat (q % 256)) := by
  unfold B8
  congr 1
  rw [UInt8.toNat_ofNat', Nat.mod_mod]
  simp

set_option maxRecDepth 100000 in
set_option maxHeartbeats 1600000 in
theorem Parts_any (tag : UInt8) (v : Value) (ps : List (List UInt8)) (w : World) (hp : PartsV w v ps) (h40 : ps.length ≤ 40) (hm : ∀ p ∈ ps, p.length ≤ 1048576) :
    Calls Tryd.prog 76 #[.int .u8 (tag.toNat : Int), v] w fun e w' => ∃ v', e = .returned v' ∧ Own8 w' w.heap.size 5 v' (partsL tag ps) ∧ Below w.heap.size w w' := by
  obtain ⟨i0, hi, hz0, hz1, hz2⟩ := info_parts infoU8
  obtain ⟨va, vc, hv⟩ := hp.len
  subst hv
  have HP := Lib.hid hp
  have HM := Lib.hid hm
  have htot : ∀ k, (partsL tag (ps.take k)).length ≤ 41943401 := fun k => by
    have h1 := partsL_len tag (ps.take k) 1048576 (fun p hp => hm p (List.mem_of_mem_take hp))
    have h2 : (ps.take k).length ≤ 40 := by rw [List.length_take]; omega
    have h3 : (ps.take k).length * (8 + 1048576) ≤ 40 * (8 + 1048576) := Nat.mul_le_mul_right _ h2
    omega
  have HT := Lib.hid htot
  clear hp hm htot
  go_enter Tryd.func76, Tryd.ntmps76
  go_wp2
  generalize hW1 : w.alloc _ = W1
  obtain ⟨hO, hb, hz⟩ : Own8 W1 w.heap.size 5 (.slice (some ⟨w.heap.size, 0, none⟩) 1 1) [tag] ∧ Below w.heap.size w W1 ∧ w.heap.size + 1 = W1.heap.size := by
    subst hW1
    exact ⟨Own8.first w _ tag, (Below.refl _ w).alloc (Nat.le_refl _) _, by simp⟩
  clear hW1
  go_loopw [5, 6] (fun bv iv wr => ∃ k : Nat, k ≤ ps.length ∧ iv = .int .i64 k ∧ Own8 wr w.heap.size 5 bv (partsL tag (ps.take k)) ∧ Below w.heap.size w wr)
    (fun _ iv _ => ps.length - (intOf iv).toNat)
  case atStart => exact ⟨0, by omega, rfl, hO, hb⟩
  case round =>
    clear hO hb hz
    obtain ⟨k, hk, rfl, hO, hb⟩ := hrel
    obtain ⟨X, hX⟩ : ∃ X, X = partsL tag (ps.take k) := ⟨_, rfl⟩
    have hXl : X.length ≤ 41943401 := by rw [hX]; exact HT.out k
    rw [← hX] at hO
    obtain ⟨oa, oc, rfl⟩ := hO.bytes.len
    have HO := Lib.hid hO
    have HB := Lib.hid hb
    have EX := Lib.hid hX
    have hz := hb.size
    clear hO hb hX
    by_cases hlt : k < ps.length
    · obtain ⟨pb, poff, pc, hpv, hpb, hat⟩ := HP.out.at_ (by omega)
      obtain ⟨rfl, rfl⟩ : va = some ⟨pb, poff, none⟩ ∧ vc = pc := by cases hpv; exact ⟨rfl, rfl⟩
      obtain ⟨ua, uc, hcell, hu⟩ := hat k hlt
      obtain ⟨p, hp⟩ : ∃ p, p = ps.getD k [] := ⟨_, rfl⟩
      rw [← hp] at hcell hu
      have hpl : p.length ≤ 1048576 := by
        rw [hp, List.getD_eq_getElem?_getD, List.getElem?_eq_getElem hlt]; exact HM.out _ (List.getElem_mem hlt)
      have hc1 : wr.cell? ⟨pb, poff + k, none⟩ = some (.slice ua p.length uc) := (HB.out.cell (p := ⟨pb, poff + k, none⟩) hpb).trans hcell
      have HU := Lib.hid hu
      have EP := Lib.hid hp
      have HC0 := Lib.hid (And.intro hcell hpb)
      clear hpv hat hcell hu hp hpb
      obtain ⟨wo, rfl⟩ : ∃ wo : World, wo = wr := ⟨_, rfl⟩
      go_wp2
      go_loopw [5, 7, 8] (fun bv nv jv wx => ∃ j : Nat, j ≤ 8 ∧ jv = .int .i64 j ∧ nv = .int .u64 ((p.length / 256 ^ j : Nat) : Int) ∧ Own8 wx w.heap.size 5 bv (X ++ (len8 p.length).take j) ∧ Below w.heap.size wo wx)
        (fun _ _ jv _ => 8 - (intOf jv).toNat)
      case atStart => exact ⟨0, by omega, rfl, by simp, by simpa using HO.out, Below.refl _ _⟩
      case round =>
        obtain ⟨j, hj, rfl, rfl, hown, hbx⟩ := hrel
        obtain ⟨Y, hY⟩ : ∃ Y, Y = X ++ (len8 p.length).take j := ⟨_, rfl⟩
        have hYl : Y.length = X.length + j := by rw [hY, List.length_append, List.length_take, len8_len]; omega
        rw [← hY] at hown
        have EY := Lib.hid hY
        obtain ⟨ya, yc, rfl⟩ := hown.bytes.len
        have HY := Lib.hid hown
        have hsx := hbx.size
        clear hY hown
        by_cases hjt : j < 8
        · obtain ⟨q, hq⟩ : ∃ q, q = p.length / 256 ^ j := ⟨_, rfl⟩
          have hql : q ≤ 1048576 := by rw [hq]; exact Nat.le_trans (Nat.div_le_self _ _) hpl
          have hqn : q / 256 = p.length / 256 ^ (j + 1) := by rw [hq, Nat.div_div_eq_div_mul, Nat.pow_succ]
          have HQ := Lib.hid hq
          have HQN := Lib.hid hqn
          rw [← hq]
          have HY1 := Lib.hid (HY.out.alloc (.cells #[.int .u8 ((q : Int) % 256)] 5))
          have one1 : ∀ W : World, Bytes (W.alloc (.cells #[.int .u8 ((q : Int) % 256)] 5)) (.slice (some ⟨W.heap.size, 0, none⟩) 1 1) [UInt8.ofNat (q % 256)] := fun W => by
            rw [rem_byte]; exact Bytes.one W _ 5
          have HYL := Lib.hid hYl
          clear hYl hq hqn
          go_wp2_with (at_builtin; refine wpList_app8 rfl (.tmp 27) (.tmp 31) 22 rfl w.heap.size 5 i0 Tryd.underlying22 hi hz0 hz1 hz2 _ _ rfl HY1.out _ [UInt8.ofNat (q % 256)] rfl (one1 wr) ?d1 ?d2 ?_)
          case d1 => rw [HYL.out]; simp; omega
          case d2 => simp; omega
          intro v3 w3 ho3 hg3 _
          have hb3 := app_kept HY1.out HY.out (by omega) hg3
          go_wp2
          go_roundw
          case rel =>
            refine ⟨j + 1, by omega, by go_num, by rw [← HQN.out]; rfl, ?_, hbx.trans hb3⟩
            rw [len8_next _ _ hjt, ← List.append_assoc, ← EY.out, ← HQ.out]
            exact ho3
          case measure => simp [intOf]; omega
        · obtain rfl : j = 8 := by omega
          have eY : Y = X ++ len8 p.length := by rw [EY.out, List.take_of_length_le (by rw [len8_len]; omega)]
          rw [show ((8 : Nat) : Int) = 8 from rfl]
          obtain ⟨nq, hnq⟩ : ∃ q : Int, q = ((p.length / 256 ^ 8 : Nat) : Int) := ⟨_, rfl⟩
          rw [← hnq]
          have HYL := Lib.hid hYl
          have HE := Lib.hid eY
          have hc2 : wr.cell? ⟨pb, poff + k, none⟩ = some (.slice ua p.length uc) := ((HB.out.trans hbx).cell (p := ⟨pb, poff + k, none⟩) HC0.out.2).trans HC0.out.1
          have HU1 := Lib.hid (HU.out.of_new (HB.out.trans hbx))
          clear hYl eY hjt hnq
          go_wp2_with (at_builtin; refine wpList_app8 rfl (.tmp 35) (.tmp 39) 22 rfl w.heap.size 5 i0 Tryd.underlying22 hi hz0 hz1 hz2 _ _ rfl HY.out _ p rfl HU1.out ?d1 ?d2 ?_)
          case d1 => rw [HYL.out]; omega
          case d2 => omega
          intro v3 w3 ho3 hg3 _
          have hb3 : Below w.heap.size wr w3 := (Below.refl _ _).grown hg3 (by omega) (fun q hq => (HY.out.lt q hq).1)
          go_wp2
          go_roundw
          case rel =>
            refine ⟨k + 1, by omega, by go_num, ?_, HB.out.trans (hbx.trans hb3)⟩
            rw [partsTo_next _ _ _ hlt, ← EX.out, ← EP.out, ← HE.out]
            exact ho3
          case measure => simp [intOf]; omega
    · obtain rfl : k = ps.length := by omega
      have eX : X = partsL tag ps := by rw [EX.out, List.take_length]
      have HEX := Lib.hid eX
      clear eX hlt hk
      go_wp2
      go_ret
      exact ⟨_, rfl, HEX.out ▸ HO.out, HB.out⟩

set_option maxRecDepth 100000 in
set_option maxHeartbeats 800000 in
theorem RTagged_any (tag : UInt8) (v : Value) (ps : List (List UInt8)) (w : World) (hp : PartsV w v ps) (h40 : ps.length ≤ 40) (hm : ∀ p ∈ ps, p.length ≤ 1048576) :
    Calls Tryd.prog 48 #[.int .u8 (tag.toNat : Int), v] w fun e w' => e = .returned (.agg ((sumL (partsL tag ps)).map B8).toArray) ∧ Below w.heap.size w w' := by
  have hl : (partsL tag ps).length ≤ 41943401 := by
    have h1 := partsL_len tag ps 1048576 hm
    have h3 : ps.length * (8 + 1048576) ≤ 40 * (8 + 1048576) := Nat.mul_le_mul_right _ h40
    omega
  have HDL := Lib.hid (sumL_len (partsL tag ps))
  obtain ⟨va, vc, hv⟩ := hp.len
  subst hv
  have HP := Lib.hid hp
  have HM := Lib.hid hm
  clear hp hm
  go_enter Tryd.func48, Tryd.ntmps48
  go_wp2_with fail
  generalize hW1 : w.alloc _ = W1
  obtain ⟨hR, hb⟩ : Octs W1 w.heap.size 25 (List.replicate 32 0) ∧ Below w.heap.size w W1 ∧ w.heap.size + 1 = W1.heap.size := by
    subst hW1
    exact ⟨heap_alloc_new w _, (Below.refl _ w).alloc (Nat.le_refl _) _, by simp⟩
  obtain ⟨hb, hz⟩ := hb
  clear hW1
  refine (Parts_any tag _ ps _ (HP.out.of_new hb) h40 HM.out).mono ?_
  rintro e w1 ⟨v1, rfl, ho1, hb1⟩
  have hR1 := hR.of_block (hb1.block _ (by omega))
  have hbA := below_next hb hb1
  have hz1 := hb1.size
  have HO := Lib.hid ho1.bytes
  clear hR hb hb1 ho1
  go_wp2_with fail
  refine (RSum_any _ _ _ HO.out (by omega)).mono ?_
  rintro e w2 ⟨rfl, hb2⟩
  have hR2 := Lib.hid (hR1.of_block (hb2.block _ (by omega)))
  have hbF := Lib.hid (below_next hbA hb2)
  clear hb2 hbA hR1
  go_wp2_with ((with_reducible refine wpList_store_octs (op := ⟨none, Op.store 25 (.tmp 4) (.tmp 8), _, _, _, _⟩) 25 (.tmp 4) (.tmp 8) w.heap.size 25 (List.replicate 32 (0 : UInt8)) (sumL (partsL tag ps)) ?g ?ho ?hx ?hy ?hh ?hi ?hs ?_); (case g => rfl); (case ho => rfl); (case hx => rfl); (case hy => rfl); (case hh => exact hR2.out); (case hi => rw [HDL.out]; kernel_rfl); (case hs => rw [HDL.out]; rfl))
  refine bodyPost_ret (results_cell rfl _ rfl (run_loadVar_row _ _ 25 _ ((sumL (partsL tag ps)).map B8).toArray (0, 0) _ (setRow_heap _ _ _ _ _ _ hR2.out) Tryd.underlying25 rfl (by rw [info_dig]; simp [sumL_len]))) rfl ⟨rfl, ?_⟩
  exact hbF.out.trans (below_setRow' _ _ _ (Nat.le_refl _))

end Go.Proofs.YtnomekfemadpeaaDoor

/- The walks of Leaf and Node, of merkle and of the document's answer: the hash of a piece, and of two hashes. Conditions: the table of constants as the program lays it (merkle's); a piece of no more than 2^20 bytes; hashes of 32 bytes. -/
namespace Go.Proofs.YtnomekfemadpeaaDoor
open Go.RowKit
set_option linter.unusedVariables false
set_option linter.unusedSimpArgs false

def leafL (b : List UInt8) : List UInt8 := sumL (partsL 0 [b])
def nodeL (x y : List UInt8) : List UInt8 := sumL (partsL 1 [x, y])
def noneL : List UInt8 := sumL (partsL 2 [])
theorem leafL_len (b : List UInt8) : (leafL b).length = 32 := sumL_len _
theorem nodeL_len (x y : List UInt8) : (nodeL x y).length = 32 := sumL_len _
theorem noneL_len : noneL.length = 32 := sumL_len _

theorem parts_one {W : World} {g t : Nat} {u : Value} {b : List UInt8} (h : W.heap[g]? = some (.cells #[u] t (0, 0))) (hu : Bytes W u b) : PartsV W (.slice (some ⟨g, 0, none⟩) 1 1) [b] := by
  refine ⟨_, 1, rfl, Nat.le_refl _, by unfold maxLen; omega, (fun h => by cases h), fun _ => ⟨g, 0, rfl, (Array.getElem?_eq_some_iff.1 h).1, fun i hi => ?_⟩⟩
  obtain rfl : i = 0 := by simp at hi; omega
  exact ⟨u, by simp [World.cell?, h], hu⟩
theorem parts_two {W : World} {g t : Nat} {u v : Value} {a b : List UInt8} (h : W.heap[g]? = some (.cells #[u, v] t (0, 0))) (hu : Bytes W u a) (hv : Bytes W v b) : PartsV W (.slice (some ⟨g, 0, none⟩) 2 2) [a, b] := by
  refine ⟨_, 2, rfl, Nat.le_refl _, by unfold maxLen; omega, (fun h => by cases h), fun _ => ⟨g, 0, rfl, (Array.getElem?_eq_some_iff.1 h).1, fun i hi => ?_⟩⟩
  match i, hi with
  | 0, _ => exact ⟨u, by simp [World.cell?, h], hu⟩
  | 1, _ => exact ⟨v, by simp [World.cell?, h], hv⟩
theorem bytes_octs {W : World} {g t : Nat} {bs : List UInt8} (h : Octs W g t bs) (hl : bs.length = 32) : Bytes W (.slice (some ⟨g, 0, none⟩) 32 32) bs := by
  refine ⟨by simp, _, 32, ?_, by omega, by unfold maxLen; omega, (fun h => by cases h), fun _ => ⟨g, 0, rfl, (Array.getElem?_eq_some_iff.1 h).1, fun j hj => ?_⟩⟩
  · rw [hl]
  · rw [Nat.zero_add, h.cell (by omega)]
    rw [List.getElem?_map, List.getElem?_eq_getElem (by omega)]
    simp [List.getD, List.getElem?_eq_getElem (show j < bs.length by omega)]

set_option maxRecDepth 100000 in
set_option maxHeartbeats 800000 in
theorem Leaf_any (v : Value) (b : List UInt8) (w : World) (hb : Bytes w v b) (hl : b.length ≤ 1048576) (hK : Consts w) :
    Calls Tryd.prog 46 #[v] w fun e w' => e = .returned (.agg ((leafL b).map B8).toArray) ∧ Below w.heap.size w w' := by
  have HDL := Lib.hid (sumL_len (partsL 0 [b]))
  obtain ⟨va, vc, hv⟩ := hb.len
  subst hv
  have HB := Lib.hid hb
  clear hb
  go_enter Tryd.func46, Tryd.ntmps46
  go_wp2_with fail
  generalize hW1 : (w.alloc _).alloc _ = W1
  obtain ⟨hR, hP, hb1, hz⟩ : Octs W1 w.heap.size 25 (List.replicate 32 0) ∧ PartsV W1 (.slice (some ⟨w.heap.size + 1, 0, none⟩) 1 1) [b] ∧ Below w.heap.size w W1 ∧ w.heap.size + 2 = W1.heap.size := by
    subst hW1
    refine ⟨(Below.heap_alloc _ _ _ (by simp)).trans (heap_alloc_new w _), parts_one (t := 22) (u := .slice va b.length vc) ?_ ((HB.out.of_alloc _).of_alloc _), ((Below.refl _ w).alloc (Nat.le_refl _) _).alloc (by simp) _, by simp⟩
    have := heap_alloc_new (w.alloc (.cells ((List.replicate 32 (0 : UInt8)).map B8).toArray 25)) (.cells #[.slice va b.length vc] 22)
    rwa [World.size_alloc] at this
  clear hW1
  refine (Tagged_any 0 _ [b] W1 hP (by simp) (by simpa using hl) (hK.of_new hb1)).mono ?_
  rintro e w2 ⟨rfl, hb2⟩
  have hR2 := Lib.hid (hR.of_block (hb2.block _ (by omega)))
  have hbF := Lib.hid (below_next hb1 (hb2.mono (by omega)))
  clear hb2 hb1 hR hP
  go_wp2_with ((with_reducible refine wpList_store_octs (op := ⟨none, Op.store 25 (.tmp 2) (.tmp 5), _, _, _, _⟩) 25 (.tmp 2) (.tmp 5) (w.heap.size) 25 (List.replicate 32 (0 : UInt8)) (sumL (partsL 0 [b])) ?g ?ho ?hx ?hy ?hh ?hi ?hs ?_); (case g => rfl); (case ho => rfl); (case hx => rfl); (case hy => rfl); (case hh => exact hR2.out); (case hi => rw [HDL.out]; kernel_rfl); (case hs => rw [HDL.out]; rfl))
  refine bodyPost_ret (results_cell rfl _ rfl (run_loadVar_row _ _ 25 _ ((sumL (partsL 0 [b])).map B8).toArray (0, 0) _ (setRow_heap _ _ _ _ _ _ hR2.out) Tryd.underlying25 rfl (by rw [info_dig]; simp [sumL_len]))) rfl ⟨rfl, ?_⟩
  exact hbF.out.trans (below_setRow' _ _ _ (Nat.le_refl _))

set_option maxRecDepth 100000 in
set_option maxHeartbeats 800000 in
theorem RLeaf_any (v : Value) (b : List UInt8) (w : World) (hb : Bytes w v b) (hl : b.length ≤ 1048576) :
    Calls Tryd.prog 26 #[v] w fun e w' => e = .returned (.agg ((leafL b).map B8).toArray) ∧ Below w.heap.size w w' := by
  have HDL := Lib.hid (sumL_len (partsL 0 [b]))
  obtain ⟨va, vc, hv⟩ := hb.len
  subst hv
  have HB := Lib.hid hb
  clear hb
  go_enter Tryd.func26, Tryd.ntmps26
  go_wp2_with fail
  generalize hW1 : (w.alloc _).alloc _ = W1
  obtain ⟨hR, hP, hb1, hz⟩ : Octs W1 w.heap.size 25 (List.replicate 32 0) ∧ PartsV W1 (.slice (some ⟨w.heap.size + 1, 0, none⟩) 1 1) [b] ∧ Below w.heap.size w W1 ∧ w.heap.size + 2 = W1.heap.size := by
    subst hW1
    refine ⟨(Below.heap_alloc _ _ _ (by simp)).trans (heap_alloc_new w _), parts_one (t := 22) (u := .slice va b.length vc) ?_ ((HB.out.of_alloc _).of_alloc _), ((Below.refl _ w).alloc (Nat.le_refl _) _).alloc (by simp) _, by simp⟩
    have := heap_alloc_new (w.alloc (.cells ((List.replicate 32 (0 : UInt8)).map B8).toArray 25)) (.cells #[.slice va b.length vc] 22)
    rwa [World.size_alloc] at this
  clear hW1
  refine (RTagged_any 0 _ [b] W1 hP (by simp) (by simpa using hl)).mono ?_
  rintro e w2 ⟨rfl, hb2⟩
  have hR2 := Lib.hid (hR.of_block (hb2.block _ (by omega)))
  have hbF := Lib.hid (below_next hb1 (hb2.mono (by omega)))
  clear hb2 hb1 hR hP
  go_wp2_with ((with_reducible refine wpList_store_octs (op := ⟨none, Op.store 25 (.tmp 2) (.tmp 5), _, _, _, _⟩) 25 (.tmp 2) (.tmp 5) (w.heap.size) 25 (List.replicate 32 (0 : UInt8)) (sumL (partsL 0 [b])) ?g ?ho ?hx ?hy ?hh ?hi ?hs ?_); (case g => rfl); (case ho => rfl); (case hx => rfl); (case hy => rfl); (case hh => exact hR2.out); (case hi => rw [HDL.out]; kernel_rfl); (case hs => rw [HDL.out]; rfl))
  refine bodyPost_ret (results_cell rfl _ rfl (run_loadVar_row _ _ 25 _ ((sumL (partsL 0 [b])).map B8).toArray (0, 0) _ (setRow_heap _ _ _ _ _ _ hR2.out) Tryd.underlying25 rfl (by rw [info_dig]; simp [sumL_len]))) rfl ⟨rfl, ?_⟩
  exact hbF.out.trans (below_setRow' _ _ _ (Nat.le_refl _))

set_option maxRecDepth 100000 in
set_option maxHeartbeats 800000 in
theorem Node_any (x y : List UInt8) (w : World) (hx : x.length = 32) (hy : y.length = 32) (hK : Consts w) :
    Calls Tryd.prog 74 #[.agg (x.map B8).toArray, .agg (y.map B8).toArray] w fun e w' => e = .returned (.agg ((nodeL x y).map B8).toArray) ∧ Below w.heap.size w w' := by
  have HDL := Lib.hid (sumL_len (partsL 1 [x, y]))
  have HX := Lib.hid hx
  have HY := Lib.hid hy
  clear hx hy
  go_enter Tryd.func74, Tryd.ntmps74
  go_upto_region 1 with (fail)
  generalize hW0 : ((w.alloc _).alloc _).alloc _ = W0
  obtain ⟨hO1, hO2, hO3, hb0, hz0⟩ : Octs W0 w.heap.size 25 x ∧ Octs W0 (w.heap.size + 1) 25 y ∧ Octs W0 (w.heap.size + 1 + 1) 25 (List.replicate 32 0) ∧ Below w.heap.size w W0 ∧ w.heap.size + 3 = W0.heap.size := by
    subst hW0
    refine ⟨(Below.heap_alloc _ _ _ (by simp; omega)).trans ((Below.heap_alloc _ _ _ (by simp)).trans (heap_alloc_new w _)), ?_, ?_, (((Below.refl _ w).alloc (Nat.le_refl _) _).alloc (by simp) _).alloc (by simp; omega) _, by simp⟩
    · refine (Below.heap_alloc _ _ _ (by simp)).trans ?_
      have := heap_alloc_new (w.alloc (.cells (x.map B8).toArray 25)) (.cells (y.map B8).toArray 25)
      rwa [World.size_alloc] at this
    · have := heap_alloc_new ((w.alloc (.cells (x.map B8).toArray 25)).alloc (.cells (y.map B8).toArray 25)) (.cells ((List.replicate 32 (0 : UInt8)).map B8).toArray 25)
      rwa [World.size_alloc, World.size_alloc] at this
  clear hW0
  refine wp_region_grew_tail 2 (by kernel_rfl) (by kernel_rfl) ?_
  simp only [List.take_succ_cons, List.take_zero, List.drop_succ_cons, List.drop_zero]
  (go_big_quiet_want; apply quiet_val; (intro w' hw'; go_simp; first | done | rfl); go_simp; go_big_quiet_on)
  (go_big_quiet_want; apply quiet_val; (intro w' hw'; go_simp; first | done | rfl); go_simp; go_big_quiet_on)
  refine wpQuiet_nil ?_
  intro w1 hw1
  have HO1 := Lib.hid (hw1.octs hO1)
  have HO2 := Lib.hid (hw1.octs hO2)
  have HO3 := Lib.hid (hw1.octs hO3)
  have HB1 := Lib.hid (hb0.trans (hw1.mono (by omega)) : Below w.heap.size w w1)
  have hz1 : w.heap.size + 3 ≤ w1.heap.size := by have := Below.size hw1; omega
  clear hw1 hO1 hO2 hO3 hb0
  go_wp2_with fail
  generalize hW2 : w1.alloc _ = w2
  obtain ⟨hP, hR, hb2, hz2⟩ : PartsV w2 (.slice (some ⟨w1.heap.size, 0, none⟩) 2 2) [x, y] ∧ Octs w2 (w.heap.size + 1 + 1) 25 (List.replicate 32 0) ∧ Below w.heap.size w w2 ∧ w1.heap.size + 1 = w2.heap.size := by
    subst hW2
    refine ⟨parts_two (t := 22) (heap_alloc_new w1 _) ((bytes_octs HO1.out HX.out).of_alloc _) ((bytes_octs HO2.out HY.out).of_alloc _), (HO3.out.of_block (Below.heap_alloc _ _ _ (by omega))), HB1.out.alloc (by omega) _, by simp⟩
  clear hW2
  refine (Tagged_any 1 _ [x, y] w2 hP (by simp) (by have := HX.out; have := HY.out; simp; omega) (hK.of_new hb2)).mono ?_
  rintro e w3 ⟨rfl, hb3⟩
  have hR2 := Lib.hid (hR.of_block (hb3.block _ (by omega)))
  have hbF := Lib.hid (hb2.trans (hb3.mono (by omega)) : Below w.heap.size w w3)
  clear hb3 hb2 hR hP
  go_wp2_with ((with_reducible refine wpList_store_octs (op := ⟨none, Op.store 25 (.tmp 4) (.tmp 8), _, _, _, _⟩) 25 (.tmp 4) (.tmp 8) (w.heap.size + 1 + 1) 25 (List.replicate 32 (0 : UInt8)) (sumL (partsL 1 [x, y])) ?g ?ho ?hx ?hy ?hh ?hi ?hs ?_); (case g => rfl); (case ho => rfl); (case hx => rfl); (case hy => rfl); (case hh => exact hR2.out); (case hi => rw [HDL.out]; kernel_rfl); (case hs => rw [HDL.out]; rfl))
  refine bodyPost_ret (results_cell rfl _ rfl (run_loadVar_row _ _ 25 _ ((sumL (partsL 1 [x, y])).map B8).toArray (0, 0) _ (setRow_heap _ _ _ _ _ _ hR2.out) Tryd.underlying25 rfl (by rw [info_dig]; simp [sumL_len]))) rfl ⟨rfl, ?_⟩
  exact hbF.out.trans (below_setRow' _ _ _ (by omega))

set_option maxRecDepth 100000 in
set_option maxHeartbeats 800000 in
theorem RNode_any (x y : List UInt8) (w : World) (hx : x.length = 32) (hy : y.length = 32) :
    Calls Tryd.prog 50 #[.agg (x.map B8).toArray, .agg (y.map B8).toArray] w fun e w' => e = .returned (.agg ((nodeL x y).map B8).toArray) ∧ Below w.heap.size w w' := by
  have HDL := Lib.hid (sumL_len (partsL 1 [x, y]))
  have HX := Lib.hid hx
  have HY := Lib.hid hy
  clear hx hy
  go_enter Tryd.func50, Tryd.ntmps50
  go_upto_region 1 with (fail)
  generalize hW0 : ((w.alloc _).alloc _).alloc _ = W0
  obtain ⟨hO1, hO2, hO3, hb0, hz0⟩ : Octs W0 w.heap.size 25 x ∧ Octs W0 (w.heap.size + 1) 25 y ∧ Octs W0 (w.heap.size + 1 + 1) 25 (List.replicate 32 0) ∧ Below w.heap.size w W0 ∧ w.heap.size + 3 = W0.heap.size := by
    subst hW0
    refine ⟨(Below.heap_alloc _ _ _ (by simp; omega)).trans ((Below.heap_alloc _ _ _ (by simp)).trans (heap_alloc_new w _)), ?_, ?_, (((Below.refl _ w).alloc (Nat.le_refl _) _).alloc (by simp) _).alloc (by simp; omega) _, by simp⟩
    · refine (Below.heap_alloc _ _ _ (by simp)).trans ?_
      have := heap_alloc_new (w.alloc (.cells (x.map B8).toArray 25)) (.cells (y.map B8).toArray 25)
      rwa [World.size_alloc] at this
    · have := heap_alloc_new ((w.alloc (.cells (x.map B8).toArray 25)).alloc (.cells (y.map B8).toArray 25)) (.cells ((List.replicate 32 (0 : UInt8)).map B8).toArray 25)
      rwa [World.size_alloc, World.size_alloc] at this
  clear hW0
  refine wp_region_grew_tail 2 (by kernel_rfl) (by kernel_rfl) ?_
  simp only [List.take_succ_cons, List.take_zero, List.drop_succ_cons, List.drop_zero]
  (go_big_quiet_want; apply quiet_val; (intro w' hw'; go_simp; first | done | rfl); go_simp; go_big_quiet_on)
  (go_big_quiet_want; apply quiet_val; (intro w' hw'; go_simp; first | done | rfl); go_simp; go_big_quiet_on)
  refine wpQuiet_nil ?_
  intro w1 hw1
  have HO1 := Lib.hid (hw1.octs hO1)
  have HO2 := Lib.hid (hw1.octs hO2)
  have HO3 := Lib.hid (hw1.octs hO3)
  have HB1 := Lib.hid (hb0.trans (hw1.mono (by omega)) : Below w.heap.size w w1)
  have hz1 : w.heap.size + 3 ≤ w1.heap.size := by have := Below.size hw1; omega
  clear hw1 hO1 hO2 hO3 hb0
  go_wp2_with fail
  generalize hW2 : w1.alloc _ = w2
  obtain ⟨hP, hR, hb2, hz2⟩ : PartsV w2 (.slice (some ⟨w1.heap.size, 0, none⟩) 2 2) [x, y] ∧ Octs w2 (w.heap.size + 1 + 1) 25 (List.replicate 32 0) ∧ Below w.heap.size w w2 ∧ w1.heap.size + 1 = w2.heap.size := by
    subst hW2
    refine ⟨parts_two (t := 22) (heap_alloc_new w1 _) ((bytes_octs HO1.out HX.out).of_alloc _) ((bytes_octs HO2.out HY.out).of_alloc _), (HO3.out.of_block (Below.heap_alloc _ _ _ (by omega))), HB1.out.alloc (by omega) _, by simp⟩
  clear hW2
  refine (RTagged_any 1 _ [x, y] w2 hP (by simp) (by have := HX.out; have := HY.out; simp; omega)).mono ?_
  rintro e w3 ⟨rfl, hb3⟩
  have hR2 := Lib.hid (hR.of_block (hb3.block _ (by omega)))
  have hbF := Lib.hid (hb2.trans (hb3.mono (by omega)) : Below w.heap.size w w3)
  clear hb3 hb2 hR hP
  go_wp2_with ((with_reducible refine wpList_store_octs (op := ⟨none, Op.store 25 (.tmp 4) (.tmp 8), _, _, _, _⟩) 25 (.tmp 4) (.tmp 8) (w.heap.size + 1 + 1) 25 (List.replicate 32 (0 : UInt8)) (sumL (partsL 1 [x, y])) ?g ?ho ?hx ?hy ?hh ?hi ?hs ?_); (case g => rfl); (case ho => rfl); (case hx => rfl); (case hy => rfl); (case hh => exact hR2.out); (case hi => rw [HDL.out]; kernel_rfl); (case hs => rw [HDL.out]; rfl))
  refine bodyPost_ret (results_cell rfl _ rfl (run_loadVar_row _ _ 25 _ ((sumL (partsL 1 [x, y])).map B8).toArray (0, 0) _ (setRow_heap _ _ _ _ _ _ hR2.out) Tryd.underlying25 rfl (by rw [info_dig]; simp [sumL_len]))) rfl ⟨rfl, ?_⟩
  exact hbF.out.trans (below_setRow' _ _ _ (by omega))

end Go.Proofs.YtnomekfemadpeaaDoor

/- The rows above leaves, in plain Lean. No condition. -/
namespace Go.Proofs.YtnomekfemadpeaaDoor
open Go.RowKit
set_option linter.unusedVariables false
set_option linter.unusedSimpArgs false

/-- The row above one. -/
def aboveL : List (List UInt8) → List (List UInt8)
  | a :: b :: t => nodeL a b :: aboveL t
  | l => l

theorem aboveL_len : ∀ l : List (List UInt8), (aboveL l).length = (l.length + 1) / 2
  | [] => by simp [aboveL]
  | [_] => by simp [aboveL]
  | a :: b :: t => by
    have := aboveL_len t
    simp only [aboveL, List.length_cons]
    omega
theorem aboveL_32 : ∀ l : List (List UInt8), Dig32 l → Dig32 (aboveL l)
  | [], _ => fun _ h => by simp [aboveL] at h
  | [a], h => h
  | a :: b :: t, h => fun d hd => by
    simp only [aboveL, List.mem_cons] at hd
    rcases hd with rfl | hd
    · exact nodeL_len _ _
    · exact aboveL_32 t (fun d hd => h d (by simp [hd])) d hd
theorem aboveL_at : ∀ (l : List (List UInt8)) (k : Nat), 2 * k + 1 < l.length → (aboveL l).getD k [] = nodeL (l.getD (2 * k) []) (l.getD (2 * k + 1) [])
  | [], _, h => by simp at h
  | [_], _, h => by simp at h
  | a :: b :: t, 0, _ => by simp [aboveL]
  | a :: b :: t, k + 1, h => by
    simp only [List.length_cons] at h
    have := aboveL_at t k (by omega)
    simp only [aboveL, List.getD_cons_succ]
    rw [this, show 2 * (k + 1) = 2 * k + 1 + 1 by omega]
    simp only [List.getD_cons_succ]
theorem aboveL_last : ∀ (l : List (List UInt8)), l.length % 2 = 1 → (aboveL l).getD (l.length / 2) [] = l.getD (l.length - 1) []
  | [], h => by simp at h
  | [_], _ => by simp [aboveL]
  | a :: b :: t, h => by
    simp only [List.length_cons] at h
    have := aboveL_last t (by omega)
    simp only [aboveL, List.length_cons]
    rw [show (t.length + 1 + 1) / 2 = t.length / 2 + 1 by omega, List.getD_cons_succ, this, show t.length + 1 + 1 - 1 = (t.length - 1) + 1 + 1 by omega, List.getD_cons_succ, List.getD_cons_succ]

/-- The rows from one on, up to the root's. -/
def rowsP : Nat → List (List UInt8) → List (List (List UInt8))
  | 0, l => [l]
  | f + 1, l => if l.length ≤ 1 then [l] else l :: rowsP f (aboveL l)
def rowsL (l : List (List UInt8)) : List (List (List UInt8)) := rowsP l.length l
theorem rowsP_more (f g : Nat) (l : List (List UInt8)) (hf : l.length ≤ f) (hg : l.length ≤ g) : rowsP f l = rowsP g l := by
  induction f generalizing g l with
  | zero =>
    cases g with
    | zero => rfl
    | succ g => simp only [rowsP]; rw [if_pos (by omega)]
  | succ f ih =>
    cases g with
    | zero => simp only [rowsP]; rw [if_pos (by omega)]
    | succ g =>
      simp only [rowsP]
      split
      · rfl
      · rw [ih g _ (by rw [aboveL_len]; omega) (by rw [aboveL_len]; omega)]
theorem rowsL_step {l : List (List UInt8)} (h : 1 < l.length) : rowsL l = l :: rowsL (aboveL l) := by
  unfold rowsL
  obtain ⟨k, hk⟩ : ∃ k, l.length = k + 1 := ⟨l.length - 1, by omega⟩
  rw [hk, rowsP, if_neg (by omega), rowsP_more k _ _ (by rw [aboveL_len]; omega) (Nat.le_refl _)]
theorem rowsL_end {l : List (List UInt8)} (h : l.length ≤ 1) : rowsL l = [l] := by
  unfold rowsL
  match l, h with
  | [], _ => rfl
  | [_], _ => rfl

/-- The row while the one above is laid into it. -/
def contL (l : List (List UInt8)) (k : Nat) : List (List UInt8) := (aboveL l).take k ++ l.drop k

theorem contL_len {l : List (List UInt8)} {k : Nat} (h : k ≤ l.length / 2) : (contL l k).length = l.length := by
  unfold contL
  rw [List.length_append, List.length_take, List.length_drop, aboveL_len]
  omega
theorem contL_at {l : List (List UInt8)} {k i : Nat} (h : k ≤ l.length / 2) (hi : k ≤ i) : (contL l k).getD i [] = l.getD i [] := by
  unfold contL
  have e : ((aboveL l).take k).length = k := by rw [List.length_take, aboveL_len]; omega
  rw [List.getD_eq_getElem?_getD, List.getElem?_append_right (by omega), e, List.getElem?_drop, show k + (i - k) = i by omega, List.getD_eq_getElem?_getD]
theorem contL_set {l : List (List UInt8)} {k : Nat} (h : k < (l.length + 1) / 2) (hk : k ≤ l.length / 2) : (contL l k).set k ((aboveL l).getD k []) = (aboveL l).take (k + 1) ++ l.drop (k + 1) := by
  unfold contL
  have e : ((aboveL l).take k).length = k := by rw [List.length_take, aboveL_len]; omega
  rw [List.set_append_right _ _ (by omega), e, Nat.sub_self, List.drop_eq_getElem_cons (show k < l.length by omega), List.set_cons_zero]
  have hk2 : k < (aboveL l).length := by rw [aboveL_len]; omega
  rw [List.getD_eq_getElem?_getD, List.getElem?_eq_getElem hk2, Option.getD_some, ← List.take_append_getElem hk2, List.append_assoc]
  rfl

end Go.Proofs.YtnomekfemadpeaaDoor

/- The walk of merkle.places: the places of a leaf in the rows. Conditions: a place in a tree of no more than 1024 leaves. -/
namespace Go.Proofs.YtnomekfemadpeaaDoor
open Go.RowKit Go.Shelf
attribute [local go_sem] Oper.semAt_some
set_option linter.unusedVariables false
set_option linter.unusedSimpArgs false

/-- The places of leaf i of n in the rows, with how many each has. -/
def walkP : Nat → Nat → Nat → List (Nat × Nat)
  | 0, _, _ => []
  | f + 1, n, i => if n ≤ 1 then [] else (n, i) :: walkP f ((n + 1) / 2) (i / 2)

def walkN (n i : Nat) : List (Nat × Nat) := walkP 1024 n i

theorem walkP_more (f g n i : Nat) (hf : n ≤ f) (hg : n ≤ g) : walkP f n i = walkP g n i := by
  induction f generalizing g n i with
  | zero =>
    cases g with
    | zero => rfl
    | succ g => simp only [walkP]; rw [if_pos (by omega)]
  | succ f ih =>
    cases g with
    | zero => simp only [walkP]; rw [if_pos (by omega)]
    | succ g =>
      simp only [walkP]
      split
      · rfl
      · rw [ih g _ _ (by omega) (by omega)]

theorem walkN_step {n i : Nat} (h : 1 < n) (hn : n ≤ 1024) : walkN n i = (n, i) :: walkN ((n + 1) / 2) (i / 2) := by
  unfold walkN
  rw [walkP, if_neg (by omega), walkP_more 1023 1024 _ _ (by omega) (by omega)]
theorem walkN_end {n i : Nat} (h : n ≤ 1) : walkN n i = [] := by
  unfold walkN
  rw [walkP, if_pos h]

theorem two_cells {W : World} {bn bi : Nat} (hne : bn ≠ bi) {u1 u2 : Value} (v1 v2 : Value) (c1 : W.cell? ⟨bn, 0, none⟩ = some u1) (c2 : W.cell? ⟨bi, 0, none⟩ = some u2) (c3 : W.frozen? ⟨bn, 0, none⟩ = false) (c4 : W.frozen? ⟨bi, 0, none⟩ = false) :
    ((W.setCell ⟨bn, 0, none⟩ v1).setCell ⟨bi, 0, none⟩ v2).cell? ⟨bn, 0, none⟩ = some v1 ∧ ((W.setCell ⟨bn, 0, none⟩ v1).setCell ⟨bi, 0, none⟩ v2).cell? ⟨bi, 0, none⟩ = some v2 ∧
      ((W.setCell ⟨bn, 0, none⟩ v1).setCell ⟨bi, 0, none⟩ v2).frozen? ⟨bn, 0, none⟩ = false ∧ ((W.setCell ⟨bn, 0, none⟩ v1).setCell ⟨bi, 0, none⟩ v2).frozen? ⟨bi, 0, none⟩ = false ∧
      Kept (fun k => ¬ (k = bn ∨ k = bi)) W ((W.setCell ⟨bn, 0, none⟩ v1).setCell ⟨bi, 0, none⟩ v2) := by
  have k1 : (W.setCell ⟨bn, 0, none⟩ v1).cell? ⟨bn, 0, none⟩ = some v1 := World.cell?_setCell_same' _ _ _ (by rw [c1]; rfl)
  have k2 : (W.setCell ⟨bn, 0, none⟩ v1).cell? ⟨bi, 0, none⟩ = some u2 := (World.cell?_of_block (Below.heap_setCell _ _ _ _ (fun e => hne (by simpa using e.symm)))).trans c2
  refine ⟨(World.cell?_of_block (Below.heap_setCell _ _ _ _ (fun e => hne (by simpa using e)))).trans k1, World.cell?_setCell_same' _ _ _ (by rw [k2]; rfl), ?_, ?_, ((Kept.refl _ W).setCell (by simp) _).setCell (by simp) _⟩
  · rw [World.frozen?_setCell, World.frozen?_setCell]; exact c3
  · rw [World.frozen?_setCell, World.frozen?_setCell]; exact c4

abbrev encP (p : Nat × Nat) : Array Value := #[.int .i64 (p.1 : Int), .int .i64 (p.2 : Int)]

set_option maxRecDepth 100000 in
set_option maxHeartbeats 1600000 in
theorem places_seq (F : Fence) (n : Nat) (hF : F.fn 92) (hro : F.round = none) (hn : 1 ≤ n) (bn bi : Nat) (hne : bn ≠ bi) (N i : Nat) (hN : N ≤ 1024) (hi : i < 1024) (W : World)
    (h1 : W.cell? ⟨bn, 0, none⟩ = some (.int .i64 (N : Int))) (h2 : W.cell? ⟨bi, 0, none⟩ = some (.int .i64 (i : Int))) (h3 : W.frozen? ⟨bn, 0, none⟩ = false) (h4 : W.frozen? ⟨bi, 0, none⟩ = false) :
    SeqC F n Tryd.prog 92 #[.pointer (some ⟨bn, 0, none⟩), .pointer (some ⟨bi, 0, none⟩)] encP (fun pre x _ => pre ++ [x] <+: walkN N i) (fun k => k = bn ∨ k = bi) (fun k => k = bn ∨ k = bi)
      (fun xs => xs = walkN N i) (fun _ => True) (walkN N i).length W := fun l J Jx hJ hJx hY h0 => by
  refine callsIn_of_wp Tryd.func92 rfl hF ?_ hro
  simp only [Tryd.ntmps92, List.size_toArray, List.length_cons, List.length_nil, Nat.reduceAdd, Nat.reduceSub, Array.replicate_succ, Array.replicate_zero, List.push_toArray, List.append_toArray, List.nil_append, List.cons_append]
  gi_wp2
  gi_loopw [] (fun wr => ∃ (pre : List (Nat × Nat)) (a b : Nat), walkN N i = pre ++ walkN a b ∧ a ≤ 1024 ∧ b < 1024 ∧ wr.cell? ⟨bn, 0, none⟩ = some (.int .i64 (a : Int)) ∧ wr.cell? ⟨bi, 0, none⟩ = some (.int .i64 (b : Int)) ∧ wr.frozen? ⟨bn, 0, none⟩ = false ∧ wr.frozen? ⟨bi, 0, none⟩ = false ∧ J pre wr)
    (fun wr => (intOf ((wr.cell? ⟨bn, 0, none⟩).getD undef)).toNat)
  case atStart => exact ⟨[], N, i, rfl, hN, hi, h1, h2, h3, h4, h0⟩
  case round =>
    clear h1 h2 h3 h4 h0
    obtain ⟨pre, a, b, hw, ha, hb, h1, h2, h3, h4, hj⟩ := hrel
    have HW := Lib.hid hw
    clear hw
    by_cases hlt : 1 < a
    · have hx : pre ++ [(a, b)] <+: walkN N i := ⟨walkN ((a + 1) / 2) (b / 2), by rw [HW.out, walkN_step hlt ha]; simp⟩
      obtain ⟨fn, tmps, assign, body, hy, hR⟩ := hY pre (a, b) wr hj hx (by have := hx.length_le; simp at this; omega)
      dsimp only [encP] at hy
      have hg : ((1 : Int) < (a : Int)) := by omega
      have HX := Lib.hid hx
      clear hx
      gi_wp2
      refine hR.mono ?_
      rintro e W3 (⟨rfl, hJ3, hk3⟩ | ⟨rfl, hJx3⟩)
      · have hbn : bn < wr.heap.size := by
          exact World.block_lt_of_cell? _ _ h1
        have hbi : bi < wr.heap.size := by
          exact World.block_lt_of_cell? _ _ h2
        have c1 : W3.cell? ⟨bn, 0, none⟩ = some (.int .i64 (a : Int)) := (hk3.cell (p := ⟨bn, 0, none⟩) hbn (.inl rfl)).trans h1
        have c2 : W3.cell? ⟨bi, 0, none⟩ = some (.int .i64 (b : Int)) := (hk3.cell (p := ⟨bi, 0, none⟩) hbi (.inr rfl)).trans h2
        have c3 : W3.frozen? ⟨bn, 0, none⟩ = false := (World.frozen?_of_block (a := ⟨bn, 0, none⟩) (hk3.block bn hbn (.inl rfl))).trans h3
        have c4 : W3.frozen? ⟨bi, 0, none⟩ = false := (World.frozen?_of_block (a := ⟨bi, 0, none⟩) (hk3.block bi hbi (.inr rfl))).trans h4
        gi_wp2
        have hmix : Tryd.prog.follows .mixedOrders = true := by kernel_rfl
        gi_region
        all_goals gi_wp2
        all_goals (try go_bits)
        all_goals
          obtain ⟨d1, d2, d3, d4, d5⟩ := two_cells hne (.int .i64 (((a : Int) + 1) / 2)) (.int .i64 ((b : Int) / 2)) c1 c2 c3 c4
          refine ⟨⟨pre ++ [(a, b)], (a + 1) / 2, b / 2, by rw [HW.out, walkN_step hlt ha]; simp, by omega, by omega, ?_, ?_, d3, d4, hJ _ _ _ hJ3 d5.drew⟩, ?_⟩
          · exact d1.trans (by simp)
          · exact d2.trans (by simp)
          · show (intOf (((((W3.setCell _ _).setCell _ _)).cell? _).getD undef)).toNat < _
            rw [d1, h1]
            simp only [Option.getD_some, intOf]
            omega
      · gi_wp2
        refine bodyPost_ret (results_none rfl _ _ _) rfl ?_
        exact ⟨⟨_, rfl⟩, .inr ⟨_, trivial, hJx3⟩⟩
    · have hg : ¬ ((1 : Int) < (a : Int)) := by omega
      gi_wp2
      go_end0
      exact ⟨⟨_, rfl⟩, .inl (by have e : pre = walkN N i := (by rw [HW.out, walkN_end (n := a) (by omega)]; simp); rw [← e]; exact hj)⟩

end Go.Proofs.YtnomekfemadpeaaDoor

/- The walk of slices.Clone of hashes. No condition. -/
namespace Go.Proofs.YtnomekfemadpeaaDoor
open Go.RowKit
set_option linter.unusedVariables false

set_option maxRecDepth 100000 in
set_option maxHeartbeats 800000 in
/-- slices.Clone of hashes. -/
theorem DClone_any (v : Value) (l : List (List UInt8)) (w : World) (hl : Digs w v l) (hlen : l.length ≤ 1099511627776) :
    Calls Tryd.prog 86 #[v] w fun e w' => ∃ v', e = .returned v' ∧ OwnD w' w.heap.size v' l ∧ Below w.heap.size w w' := by
  obtain ⟨a, c, hv⟩ := hl.len
  have he := fun (w : World) (a : Option Addr) (n c : Nat) => Lib.run_eql_slice_nil (P := Tryd.prog) w 31 25 a n c 0 0 Tryd.underlying31
  cases a with
  | none =>
    have hl0 : l = [] := by
      obtain ⟨_, _, a', c', hv', h1, _, h3, _⟩ := hl
      rw [hv'] at hv; cases hv
      have := h3 rfl
      exact List.eq_nil_of_length_eq_zero (by omega)
    subst hl0
    have hc : c = 0 := by
      obtain ⟨_, _, a', c', hv', h1, _, h3, _⟩ := hl
      rw [hv'] at hv; cases hv
      exact h3 rfl
    subst hc
    subst hv
    go_enter Tryd.func86, Tryd.ntmps86
    go_wp2
    go_ret
    exact ⟨_, rfl, OwnD.nil _ _, Below.refl _ _⟩
  | some a =>
    subst hv
    have HO := Lib.hid (ownD_empty w)
    have HL := Lib.hid (hl.of_new ((Below.refl _ w).alloc (Nat.le_refl _) (.cells #[] 25)))
    clear hl
    go_enter Tryd.func86, Tryd.ntmps86
    go_wp2_with (at_builtin; refine wpList_appD rfl (.tmp 5) (.tmp 6) 31 rfl w.heap.size Tryd.underlying31 _ [] rfl HO.out _ l rfl HL.out ?c1 ?c2 ?_)
    case c1 => first | omega | (simp; omega)
    case c2 => simp
    intro v1 w1 hown1 hg1 _
    have hbA : Below w.heap.size w w1 := ((Below.refl _ w).alloc (Nat.le_refl _) _).grown hg1 (by simp) (fun j hj => by cases hj; exact Nat.le_refl _)
    clear hg1
    go_wp2
    go_ret
    exact ⟨_, rfl, by simpa using hown1, hbA⟩

end Go.Proofs.YtnomekfemadpeaaDoor

/- The walk of merkle.rows: the rows above leaves. Conditions: the table of constants as the program lays it; some leaves, no more than 2048. -/
namespace Go.Proofs.YtnomekfemadpeaaDoor
open Go.RowKit Go.Shelf
attribute [local go_sem] Oper.semAt_some
set_option linter.unusedVariables false
set_option linter.unusedSimpArgs false

theorem or_ones : (List.range 1024).all (fun k => bits .or .i64 (((k : Nat) : Int) * 2) 1 == ((k : Nat) : Int) * 2 + 1 && IntKind.i64.wrap (((k : Nat) : Int) * 2) == ((k : Nat) : Int) * 2) = true := by decide +kernel
theorem and_ones : (List.range 2049).all (fun k => bits .and .i64 ((k : Nat) : Int) 1 == ((k % 2 : Nat) : Int)) = true := by decide +kernel
theorem and_one (k : Nat) (h : k ≤ 2048) : bits .and .i64 (k : Int) 1 = ((k % 2 : Nat) : Int) := by
  have := List.all_eq_true.1 and_ones k (List.mem_range.2 (by omega))
  simpa using this
theorem or_one (k : Nat) (h : k < 1024) : bits .or .i64 ((k : Int) * 2) 1 = (k : Int) * 2 + 1 ∧ IntKind.i64.wrap ((k : Int) * 2) = (k : Int) * 2 := by
  have := List.all_eq_true.1 or_ones k (List.mem_range.2 h)
  simpa using this

abbrev encR (g : Nat) (x : List (List UInt8) × Nat) : Array Value := #[.slice (some ⟨g, 0, none⟩) x.1.length x.2]

set_option maxRecDepth 100000 in
set_option maxHeartbeats 1600000 in
theorem rows_seq (n : Nat) (hn : 1 ≤ n) (bl n0 : Nat) (v : Value) (l0 : List (List UInt8)) (h1 : 0 < l0.length) (hlen : l0.length ≤ 2048) (W : World) (w0 : World) (hK : Consts w0) (hw0 : w0.heap.size = n0) (hb0 : Below n0 w0 W) (hc : W.cell? ⟨bl, 0, none⟩ = some v) (hl : Digs W v l0) :
    SeqG Fence.wide n Tryd.prog 85 #[.pointer (some ⟨bl, 0, none⟩)] encR (fun g pre x W' => (pre ++ [x]).map (·.1) <+: rowsL l0 ∧ OwnD W' W.heap.size (.slice (some ⟨g, 0, none⟩) x.1.length x.2) x.1)
      (fun xs => xs.map (·.1) = rowsL l0) (fun _ => True) n0 (rowsL l0).length W := fun l J Jx hJ hJx hY h0 => by
  obtain ⟨va, vc, hv⟩ := hl.len
  subst hv
  have HL := Lib.hid hl
  clear hl
  refine callsIn_of_wp Tryd.func85 rfl trivial ?_ rfl
  simp only [Tryd.ntmps85, List.size_toArray, List.length_cons, List.length_nil, Nat.reduceAdd, Nat.reduceSub, Array.replicate_succ, Array.replicate_zero, List.push_toArray, List.append_toArray, List.nil_append, List.cons_append]
  gi_wp2_with (refine ⟨trivial, ?_⟩; gi_at_call 86; refine (callsIn_wide.2 (DClone_any _ l0 _ HL.out (by omega))).mono ?_; rintro e w1 ⟨v1, rfl, ho1, hb1⟩)
  obtain ⟨g, cap, rfl, hg⟩ : ∃ g cap, v1 = .slice (some ⟨g, 0, none⟩) l0.length cap ∧ W.heap.size ≤ g := by
    rcases ho1.2.2 with ⟨_, h⟩ | ⟨g, cap, cur, hv, hb, _⟩
    · omega
    · exact ⟨g, cap, hv, hb⟩
  have hj0 := h0 g w1 hg hb1
  have hB1 : Below n0 w0 w1 := hb0.trans (hb1.mono (by have := hb0.size; omega))
  have hn0 : n0 ≤ W.heap.size := by have := hb0.size; omega
  clear h0 hb1 hc
  gi_loopw [3] (fun v wr => ∃ (pre : List (List (List UInt8) × Nat)) (cur : List (List UInt8)) (cap : Nat), v = .slice (some ⟨g, 0, none⟩) cur.length cap ∧ rowsL l0 = pre.map (·.1) ++ rowsL cur ∧ 0 < cur.length ∧ cur.length ≤ 2048 ∧
      OwnD wr W.heap.size (.slice (some ⟨g, 0, none⟩) cur.length cap) cur ∧ Below n0 w0 wr ∧ J g pre wr)
    (fun v _ => match v with | .slice _ n _ => n | _ => 0)
  case atStart => exact ⟨[], l0, cap, rfl, rfl, h1, hlen, ho1, hB1, hj0⟩
  case round =>
    clear ho1 hj0 h1 hlen hB1
    obtain ⟨pre, cur, cap, rfl, hrow, h1, hlen, ho, hB, hj⟩ := hrel
    have HR := Lib.hid hrow
    have HO := Lib.hid ho
    have HB := Lib.hid hB
    clear hrow ho hB
    by_cases hlt : 1 < cur.length
    · obtain ⟨fn, tmps, assign, body, hy, hR⟩ := hY g pre (cur, cap) wr hg hj ⟨by rw [HR.out, rowsL_step hlt]; simp, HO.out⟩ (by rw [HR.out, rowsL_step hlt]; simp)
      dsimp only [encR] at hy
      have ht : ((1 : Int) < (cur.length : Int)) := by omega
      gi_wp2
      refine hR.mono ?_
      rintro e W3 (⟨rfl, hJ3, hk3⟩ | ⟨rfl, hJx3⟩)
      · have ho3 : OwnD W3 W.heap.size (.slice (some ⟨g, 0, none⟩) cur.length cap) cur := by
          refine ⟨HO.out.1, HO.out.2.1, ?_⟩
          rcases HO.out.2.2 with ⟨h, _⟩ | ⟨g', cap', cur', hv, hb, hh, hr⟩
          · cases h
          · cases hv
            exact .inr ⟨g, cap, cur', rfl, hb, (hk3.block g (Array.getElem?_eq_some_iff.1 hh).1 (.inl rfl)).trans hh, hr⟩
        have hB3 : Below n0 w0 W3 := Kept.to_below HB.out hk3 (by have := HB.out.size; omega) (fun k hk => .inr hk)
        have HO3 := Lib.hid ho3
        have HB3 := Lib.hid hB3
        clear ho3 hB3
        gi_wp2
        refine wpIn_wide.2 ?_
        go_loopw [17] (fun iv wr => ∃ k : Nat, k ≤ cur.length / 2 ∧ iv = .int .i64 (k : Int) ∧ OwnD wr W.heap.size (.slice (some ⟨g, 0, none⟩) cur.length cap) (contL cur k) ∧ Below n0 w0 wr ∧ Kept (fun k => ¬ k = g) W3 wr)
          (fun iv _ => cur.length - (intOf iv).toNat)
        case atStart => exact ⟨0, by omega, rfl, by simpa [contL] using HO3.out, HB3.out, Kept.refl _ _⟩
        case round =>
          obtain ⟨k, hk, rfl, ho4, hb4, hk4⟩ := hrel
          by_cases hlt2 : k < cur.length / 2
          · have t1 : ((k : Int) < (cur.length : Int) / 2) := by omega
            obtain ⟨e1, e2⟩ := or_one k (by omega)
            have e3 : ((k : Int) * 2).toNat = 2 * k := by omega
            have e4 : ((k : Int) * 2 + 1).toNat = 2 * k + 1 := by omega
            have b1 : (0 : Int) ≤ (k : Int) * 2 := by omega
            have b2 : (k : Int) * 2 < (cur.length : Int) := by omega
            have b3 : (0 : Int) ≤ (k : Int) * 2 + 1 := by omega
            have b4 : (k : Int) * 2 + 1 < (cur.length : Int) := by omega
            have b5 : k < cur.length := by omega
            have hcl := contL_len hk
            obtain ⟨bb, boff, bc, hbv, hbl, hat⟩ := ho4.digs.at_ (by omega)
            obtain ⟨rfl, rfl⟩ : bb = g ∧ boff = 0 := by
              simp only [Value.slice.injEq, Option.some.injEq, Addr.mk.injEq] at hbv
              exact ⟨hbv.1.1.symm, hbv.1.2.1.symm⟩
            have hglt : bb < wr.heap.size := hbl
            have d1 : (cur.getD (2 * k) []).length = 32 := HO.out.1.getD (by omega)
            have d2 : (cur.getD (2 * k + 1) []).length = 32 := HO.out.1.getD (by omega)
            have hx1 : ∀ j, j < 32 → wr.cell? ⟨bb, 2 * k * 32 + j, none⟩ = ((cur.getD (2 * k) []).map B8)[j]? := fun j hj => by
              have := hat (2 * k) (by omega) j hj
              rwa [Nat.zero_add, contL_at hk (by omega)] at this
            have hx2 : ∀ j, j < 32 → wr.cell? ⟨bb, (2 * k + 1) * 32 + j, none⟩ = ((cur.getD (2 * k + 1) []).map B8)[j]? := fun j hj => by
              have := hat (2 * k + 1) (by omega) j hj
              rwa [Nat.zero_add, contL_at hk (by omega)] at this
            have HX1 := Lib.hid hx1
            have HX2 := Lib.hid hx2
            have HB4 := Lib.hid hb4
            have HO4 := Lib.hid ho4
            have D1 := Lib.hid d1
            have D2 := Lib.hid d2
            have HCL := Lib.hid hcl
            clear hx1 hx2 hat hbv hb4 ho4 d1 d2 hcl
            go_upto_region 6 with (fail)
            refine wp_region_grew_tail 14 (by kernel_rfl) (by kernel_rfl) ?_
            simp only [List.take_succ_cons, List.take_zero, List.drop_succ_cons, List.drop_zero]
            (go_big_quiet_want; apply quiet_val; (intro w' hw'; go_simp; first | done | rfl); go_simp; go_big_quiet_on)
            (go_big_quiet_want; apply quiet_val; (intro w' hw'; go_simp; first | done | rfl); go_simp; go_big_quiet_on)
            (go_big_quiet_want; apply quiet_val; (intro w' hw'; go_simp; first | done | rfl); go_simp; go_big_quiet_on)
            (go_big_quiet_want; apply quiet_val; (intro w' hw'; go_simp; first | done | rfl); go_simp; go_big_quiet_on)
            (go_big_quiet_want; apply quiet_val; (intro w' hw'; go_simp; first | done | rfl); go_simp; go_big_quiet_on)
            (go_big_quiet_want; apply quiet_val; (intro w' hw'; go_simp; first | done | rfl); go_simp; go_big_quiet_on)
            (go_big_quiet_want; (with_reducible refine quiet_load_dig (.tmp 25) bb (2 * k * 32) (cur.getD (2 * k) []) ?_ ?_ ?_ ?_ ?_ ?_); rfl; rfl; exact D1.out; exact hglt; exact HX1.out; go_simp; go_big_quiet_on)
            (go_big_quiet_want; apply quiet_val; (intro w' hw'; go_simp; first | done | rfl); go_simp; go_big_quiet_on)
            (go_big_quiet_want; apply quiet_val; (intro w' hw'; go_simp; first | done | rfl); go_simp; go_big_quiet_on)
            (go_big_quiet_want; apply quiet_val; (intro w' hw'; go_simp; first | done | rfl); go_simp; go_big_quiet_on)
            (go_big_quiet_want; apply quiet_val; (intro w' hw'; go_simp; first | done | rfl); go_simp; go_big_quiet_on)
            (go_big_quiet_want; apply quiet_val; (intro w' hw'; go_simp; first | done | rfl); go_simp; go_big_quiet_on)
            (go_big_quiet_want; (with_reducible refine quiet_load_dig (.tmp 31) bb ((2 * k + 1) * 32) (cur.getD (2 * k + 1) []) ?_ ?_ ?_ ?_ ?_ ?_); rfl; rfl; exact D2.out; exact hglt; exact HX2.out; go_simp; go_big_quiet_on)
            (go_big_quiet_want; apply quiet_call (f := 74); (intro w' hw'; go_simp; first | done | rfl); (intro w' hw'; exact Grew.call hw' (Node_any _ _ _ D1.out D2.out (hK.of_new (by rw [hw0]; exact HB4.out.trans (Below.mono hw' (by have := HB4.out.size; omega)))))); go_simp; go_big_quiet_on)
            refine wpQuiet_nil ?_
            intro w5 hw5
            have HO5 := Lib.hid (OwnD.of_new HO4.out hw5)
            have HW5 := Lib.hid hw5
            clear hw5
            go_wp2_with ((with_reducible refine wpList_store_dig (op := ⟨none, Op.store 25 (.tmp 34) (.tmp 33), _, _, _, _⟩) (.tmp 34) (.tmp 33) W.heap.size bb cur.length cap (contL cur k) k (nodeL (cur.getD (2 * k) []) (cur.getD (2 * k + 1) [])) ?g ?ho ?hx ?hy ?hh ?hi ?hd ?_); (case g => rfl); (case ho => rfl); (case hx => rfl); (case hy => simp only [List.getD_eq_getElem?_getD]; rfl); (case hh => exact HO5.out); (case hi => rw [HCL.out]; exact b5); (case hd => exact nodeL_len _ _); intro cs hcs)
            have hset := contL_set (l := cur) (k := k) (by omega) hk
            rw [aboveL_at cur k (by omega)] at hset
            refine ⟨⟨k + 1, by omega, by simp, ?_, ?_, ?_⟩, by simp [intOf]; omega⟩
            · show OwnD _ _ _ ((aboveL cur).take (k + 1) ++ cur.drop (k + 1))
              rw [← hset]; exact hcs
            · exact (HB4.out.trans (Below.mono HW5.out (by have := HB4.out.size; omega))).trans (below_setRow' _ _ _ (by omega))
            · exact (hk4.below HW5.out).grown (grown_setRow _ _ _) (fun r e => by cases e; simp)
          · obtain rfl : k = cur.length / 2 := by omega
            have t1 : ¬ (((cur.length / 2 : Nat) : Int) < (cur.length : Int) / 2) := by omega
            have HB4 := Lib.hid hb4
            have HO4 := Lib.hid ho4
            have HK4 := Lib.hid hk4
            clear hb4 ho4 hk4
            have hcap : cur.length ≤ cap := by
              rcases HO.out.2.2 with ⟨h, _⟩ | ⟨g', cap', cur', hv, hb, hh, hn, _⟩
              · cases h
              · cases hv; exact hn
            have c1 : ((cur.length : Int) + 1) / 2 ≤ (cap : Int) := by omega
            have c0 : (0 : Int) ≤ ((cur.length : Int) + 1) / 2 := by omega
            have hand := and_one cur.length hlen
            go_wp2
            refine wpIn_wide.2 ?_
            by_cases hodd : cur.length % 2 = 1
            · rw [hodd] at hand
              have hcl := contL_len hk
              have f1 : (0 : Int) ≤ (cur.length : Int) - 1 := by omega
              have f2 : (cur.length : Int) - 1 < (cur.length : Int) := by omega
              have f3 : ((cur.length : Int) - 1).toNat = cur.length - 1 := by omega
              have f4 : cur.length / 2 < cur.length := by omega
              obtain ⟨bb, boff, bc, hbv, hbl, hat⟩ := HO4.out.digs.at_ (by omega)
              obtain ⟨rfl, rfl⟩ : bb = g ∧ boff = 0 := by
                simp only [Value.slice.injEq, Option.some.injEq, Addr.mk.injEq] at hbv
                exact ⟨hbv.1.1.symm, hbv.1.2.1.symm⟩
              have hx1 : ∀ j, j < 32 → wr.cell? ⟨bb, (cur.length - 1) * 32 + j, none⟩ = ((cur.getD (cur.length - 1) []).map B8)[j]? := fun j hj => by
                have := hat (cur.length - 1) (by omega) j hj
                rwa [Nat.zero_add, contL_at hk (by omega)] at this
              have HX1 := Lib.hid hx1
              have D1 := Lib.hid (HO.out.1.getD (show cur.length - 1 < cur.length by omega))
              have HCL := Lib.hid hcl
              clear hx1 hat hbv hcl
              go_upto_region 9 with (fail)
              go_wp2_with (first
                | ((with_reducible refine wpList_load_dig (op := ⟨some 49, Op.load 25 (.tmp 48), _, _, _, _⟩) (.tmp 48) bb ((cur.length - 1) * 32) (cur.getD (cur.length - 1) []) ?g ?ho ?hx ?hd ?hc ?_); (case g => rfl); (case ho => rfl); (case hx => rfl); (case hd => exact D1.out); (case hc => exact HX1.out))
                | ((with_reducible refine wpList_store_dig (op := ⟨none, Op.store 25 (.tmp 50) (.tmp 49), _, _, _, _⟩) (.tmp 50) (.tmp 49) W.heap.size bb cur.length cap (contL cur (cur.length / 2)) (cur.length / 2) (cur.getD (cur.length - 1) []) ?g ?ho ?hx ?hy ?hh ?hi ?hd ?_); (case g => rfl); (case ho => rfl); (case hx => rfl); (case hy => simp only [List.getD_eq_getElem?_getD]; rfl); (case hh => exact HO4.out); (case hi => rw [HCL.out]; exact f4); (case hd => exact D1.out); intro cs hcs))
              have hset := contL_set (l := cur) (k := cur.length / 2) (by omega) hk
              rw [aboveL_last cur hodd, List.take_of_length_le (by rw [aboveL_len]; omega)] at hset
              refine ⟨⟨pre ++ [(cur, cap)], aboveL cur, cap, by rw [aboveL_len], by rw [HR.out, rowsL_step hlt]; simp, by rw [aboveL_len]; omega, by rw [aboveL_len]; omega, ?_,
                HB4.out.trans (below_setRow' _ _ _ (by omega)), hJ bb hg _ _ _ hJ3 (HK4.out.grown (grown_setRow _ _ _) (fun r e => by cases e; simp))⟩, by simp; omega⟩
              rw [hset] at hcs
              have := OwnD.first (m := (aboveL cur).length) hcs (by rw [List.length_append]; omega)
              rwa [List.take_left' rfl] at this
            · rw [show cur.length % 2 = 0 by omega] at hand
              go_wp2
              go_roundw
              case rel =>
                have hc0 : contL cur (cur.length / 2) = aboveL cur ++ cur.drop (cur.length / 2) := by
                  unfold contL
                  rw [List.take_of_length_le (by rw [aboveL_len]; omega)]
                refine ⟨pre ++ [(cur, cap)], aboveL cur, cap, by rw [aboveL_len], by rw [HR.out, rowsL_step hlt]; simp, by rw [aboveL_len]; omega, by rw [aboveL_len]; omega, ?_, HB4.out, hJ g hg _ _ _ hJ3 HK4.out⟩
                have := OwnD.first (m := (aboveL cur).length) HO4.out (by rw [contL_len hk, aboveL_len]; omega)
                rwa [hc0, List.take_left' rfl] at this
              case measure => simp; omega
      · gi_wp2
        refine bodyPost_ret (results_none rfl _ _ _) rfl ?_
        exact ⟨⟨_, rfl⟩, g, hg, .inr ⟨_, trivial, hJx3⟩⟩
    · obtain ⟨fn, tmps, assign, body, hy, hR⟩ := hY g pre (cur, cap) wr hg hj ⟨by rw [HR.out, rowsL_end (by omega)]; simp, HO.out⟩ (by rw [HR.out, rowsL_end (by omega)]; simp)
      dsimp only [encR] at hy
      have ht : ¬ ((1 : Int) < (cur.length : Int)) := by omega
      gi_wp2
      refine hR.mono ?_
      rintro e W3 (⟨rfl, hJ3, hk3⟩ | ⟨rfl, hJx3⟩)
      · gi_wp2
        go_end0
        exact ⟨⟨_, rfl⟩, g, hg, .inl ⟨pre ++ [(cur, cap)], by rw [HR.out, rowsL_end (by omega)]; simp, hJ3⟩⟩
      · gi_wp2
        go_end0
        exact ⟨⟨_, rfl⟩, g, hg, .inr ⟨_, trivial, hJx3⟩⟩


end Go.Proofs.YtnomekfemadpeaaDoor

/- The walk of merkle.rows (the maker) and of merkle.Root. Conditions: the table of constants as the program lays it; no more than 2048 leaves. -/
namespace Go.Proofs.YtnomekfemadpeaaDoor
open Go.RowKit Go.Shelf
attribute [local go_sem] Oper.semAt_some
set_option linter.unusedVariables false
set_option linter.unusedSimpArgs false

set_option maxRecDepth 100000 in
set_option maxHeartbeats 800000 in
theorem rows_any (a : Option Addr) (n c : Nat) (w : World) :
    Calls Tryd.prog 65 #[.slice a n c] w fun e w' => e = .returned (.func (.func 85) #[] #[.pointer (some ⟨w.heap.size, 0, none⟩)]) ∧ w' = w.alloc (.cells #[.slice a n c] 31) := by
  go_enter Tryd.func65, Tryd.ntmps65
  go_wp2
  go_ret
  exact ⟨rfl, rfl⟩

theorem wpListIn_load_dig {F : Fence} {m : Nat} {w : World} {ops : Array Oper} {rest : List Oper} {op : Oper} {a : Act} {Q : Exit → Act → World → Prop} (x : Operand) (g off : Nat) (d : List UInt8) (hgd : op.guard = none) (ho : op.op = .load 25 x)
    (hx : a.eval x = .pointer (some ⟨g, off, none⟩)) (hd : d.length = 32) (hc : ∀ j, j < 32 → w.cell? ⟨g, off + j, none⟩ = (d.map B8)[j]?)
    (h : wpListIn F m Tryd.prog ops Q rest (a.put op.dst (.agg (d.map B8).toArray)) w) : wpListIn F m Tryd.prog ops Q (op :: rest) a w := by
  refine wpListIn_plain hgd fun K hK' => ?_
  have hrun := run_load_dig w g off d hd hc
  unfold Oper.wpIn
  refine ⟨?_, ?_⟩
  · simp [Oper.about, ho]
  · rw [Oper.semAt_plain F _ _ (by rw [ho]; intro c hc'; cases hc')]
    simp only [execOp, ho, hx, Instr.loadAt, Instr.sureAddr, Sem.run_bind, Sem.run_pure, Result.andThen_ok, hrun]
    exact hK' _ _ h

theorem wpListIn_store_octs {F : Fence} {m : Nat} {w : World} {ops : Array Oper} {rest : List Oper} {op : Oper} {a : Act} {Q : Exit → Act → World → Prop} (x y : Operand) (g t : Nat) (old ws : List UInt8) (hgd : op.guard = none) (ho : op.op = .store 25 x y)
    (hx : a.eval x = .pointer (some ⟨g, 0, none⟩)) (hy : a.eval y = .agg (ws.map B8).toArray) (hg : Octs w g t old) (hw : ws.length = 32) (hs : old.length = 32)
    (h : wpListIn F m Tryd.prog ops Q rest (a.put op.dst undef) (w.setRow g (ws.map B8).toArray)) : wpListIn F m Tryd.prog ops Q (op :: rest) a w := by
  refine wpListIn_plain hgd fun K hK' => ?_
  have hrun := run_storeVar_row (P := Tryd.prog) w g t 25 _ (ws.map B8).toArray hg (by rw [info_dig]; simp [hw]) (by simp [hw, hs]) (octs_one ws)
  unfold Oper.wpIn
  refine ⟨?_, ?_⟩
  · simp [Oper.about, ho]
  · rw [Oper.semAt_plain F _ _ (by rw [ho]; intro c hc'; cases hc')]
    simp only [execOp, ho, hx, hy, Instr.storeAt, Instr.sureAddr, Sem.run_bind, Sem.run_pure, Result.andThen_ok, hrun]
    exact hK' _ _ h

def rootL (l : List (List UInt8)) : List UInt8 := if l.length = 0 then noneL else ((rowsL l).getLastD []).getD 0 []
/-- The first of the last row that came. -/
def headP (pre : List (List (List UInt8) × Nat)) : List UInt8 := match pre.getLast? with | none => List.replicate 32 0 | some x => x.1.getD 0 []
theorem headP_snoc (pre : List (List (List UInt8) × Nat)) (x : List (List UInt8) × Nat) : headP (pre ++ [x]) = x.1.getD 0 [] := by simp [headP]

theorem rowsP_ne : ∀ (f : Nat) (l : List (List UInt8)), 0 < l.length → ∀ r ∈ rowsP f l, 0 < r.length
  | 0, l, h, r, hr => by simp only [rowsP, List.mem_singleton] at hr; rw [hr]; exact h
  | f + 1, l, h, r, hr => by
    simp only [rowsP] at hr
    split at hr
    · simp only [List.mem_singleton] at hr; rw [hr]; exact h
    · rcases List.mem_cons.1 hr with rfl | hr
      · exact h
      · exact rowsP_ne f (aboveL l) (by rw [aboveL_len]; omega) r hr
theorem headP_rows {xs : List (List (List UInt8) × Nat)} (h : xs ≠ []) : headP xs = ((xs.map (·.1)).getLastD []).getD 0 [] := by
  obtain ⟨ys, y, rfl⟩ : ∃ ys y, xs = ys ++ [y] := ⟨xs.dropLast, xs.getLast h, (List.dropLast_concat_getLast h).symm⟩
  rw [headP_snoc]
  simp

theorem parts_nil (w : World) : PartsV w (.slice none 0 0) [] := ⟨none, 0, rfl, Nat.le_refl _, by unfold maxLen; omega, fun _ => rfl, fun h => by simp at h⟩

set_option maxRecDepth 100000 in
set_option maxHeartbeats 800000 in
theorem Root_none (va : Option Addr) (vc : Nat) (w : World) (hK : Consts w) :
    Calls Tryd.prog 39 #[.slice va 0 vc] w fun e w' => e = .returned (.agg (noneL.map B8).toArray) ∧ Below w.heap.size w w' := by
  have HDL := Lib.hid noneL_len
  go_enter Tryd.func39, Tryd.ntmps39
  go_wp2_with fail
  generalize hW1 : (w.alloc _) = W1
  obtain ⟨hR, hb1, hz⟩ : Octs W1 w.heap.size 25 (List.replicate 32 0) ∧ Below w.heap.size w W1 ∧ w.heap.size + 1 = W1.heap.size := by
    subst hW1
    exact ⟨heap_alloc_new w _, (Below.refl _ w).alloc (Nat.le_refl _) _, by simp⟩
  clear hW1
  refine (Tagged_any 2 _ [] W1 (parts_nil _) (by simp) (by simp) (hK.of_new hb1)).mono ?_
  rintro e w2 ⟨rfl, hb2⟩
  have hR2 := Lib.hid (hR.of_block (hb2.block _ (by omega)))
  have hbF := Lib.hid (below_next hb1 (hb2.mono (by omega)))
  clear hb2 hb1 hR
  go_wp2_with ((with_reducible refine wpList_store_octs (op := ⟨none, Op.store 25 (.tmp 2) (.tmp 8), _, _, _, _⟩) 25 (.tmp 2) (.tmp 8) (w.heap.size) 25 (List.replicate 32 (0 : UInt8)) (sumL (partsL 2 [])) ?g ?ho ?hx ?hy ?hh ?hi ?hs ?_); (case g => rfl); (case ho => rfl); (case hx => rfl); (case hy => rfl); (case hh => exact hR2.out); (case hi => rw [show sumL (partsL 2 []) = noneL from rfl, HDL.out]; kernel_rfl); (case hs => rw [show sumL (partsL 2 []) = noneL from rfl, HDL.out]; rfl))
  refine bodyPost_ret (results_cell rfl _ rfl (run_loadVar_row _ _ 25 _ (noneL.map B8).toArray (0, 0) _ (setRow_heap _ _ _ _ _ _ hR2.out) Tryd.underlying25 rfl (by rw [info_dig]; simp [noneL_len]))) rfl ⟨rfl, ?_⟩
  exact hbF.out.trans (below_setRow' _ _ _ (Nat.le_refl _))

set_option maxRecDepth 100000 in
set_option maxHeartbeats 1600000 in
theorem Root_any (v : Value) (l : List (List UInt8)) (w : World) (hl : Digs w v l) (hlen : l.length ≤ 2048) (hK : Consts w) :
    Calls Tryd.prog 39 #[v] w fun e w' => e = .returned (.agg ((rootL l).map B8).toArray) ∧ Below w.heap.size w w' := by
  obtain ⟨va, vc, hv⟩ := hl.len
  subst hv
  have HL := Lib.hid hl
  clear hl
  by_cases h0 : l.length = 0
  · have := Root_none va vc w hK
    unfold rootL
    rw [if_pos h0, h0]
    exact this
  have t0 : ¬ ((l.length : Int) = 0) := by omega
  refine (callsIn_wide (n := 3)).1 ?_
  refine callsIn_of_wp_marks Tryd.func39 rfl trivial ?_ rfl
  simp only [Tryd.ntmps39, List.size_toArray, List.length_cons, List.length_nil, Nat.reduceAdd, Nat.reduceSub, Array.replicate_succ, Array.replicate_zero, List.push_toArray, List.append_toArray, List.nil_append, List.cons_append]
  gi_wp2_with (refine ⟨trivial, ?_⟩; gi_at_call 65; refine (callsIn_wide.2 (rows_any _ _ _ _)).mono ?_; rintro e w' ⟨rfl, rfl⟩)
  generalize hW0 : ((w.alloc _).alloc _).alloc _ = W0
  obtain ⟨hsz, hB0, o1, o2, o3⟩ : W0.heap.size = w.heap.size + 3 ∧ Below w.heap.size w W0 ∧ Octs W0 w.heap.size 25 (List.replicate 32 0) ∧ Octs W0 (w.heap.size + 1) 25 (List.replicate 32 0) ∧ W0.heap[w.heap.size + 1 + 1]? = some (.cells #[.slice va l.length vc] 31) := by
    subst hW0
    refine ⟨by simp, (((Below.refl _ w).alloc (Nat.le_refl _) _).alloc (by simp) _).alloc (by simp; omega) _, ?_, ?_, ?_⟩
    · exact (Below.heap_alloc _ _ _ (by simp; omega)).trans ((Below.heap_alloc _ _ _ (by simp)).trans (heap_alloc_new _ _))
    · refine (Below.heap_alloc _ _ _ (by simp)).trans ?_
      have := heap_alloc_new (w.alloc (.cells ((List.replicate 32 (0 : UInt8)).map B8).toArray 25)) (.cells ((List.replicate 32 (0 : UInt8)).map B8).toArray 25)
      rwa [World.size_alloc] at this
    · have := heap_alloc_new ((w.alloc (.cells ((List.replicate 32 (0 : UInt8)).map B8).toArray 25)).alloc (.cells ((List.replicate 32 (0 : UInt8)).map B8).toArray 25)) (.cells #[.slice va l.length vc] 31)
      rwa [World.size_alloc, World.size_alloc] at this
  clear hW0
  refine wpIn_rangeFunc_block (F := Fence.wide) (n := 3) rfl (by omega) (gf := 85) (lb := #[.pointer (some ⟨w.heap.size + 1 + 1, 0, none⟩)]) rfl trivial
    (enters_of Tryd.func85 (by kernel_rfl) rfl)
    (encs := encR) (It := fun g pre x W' => (pre ++ [x]).map (·.1) <+: rowsL l ∧ OwnD W' (W0.heap.size + 2) (.slice (some ⟨g, 0, none⟩) x.1.length x.2) x.1)
    (S := fun xs => xs.map (·.1) = rowsL l) (Sp := fun _ => True) (n0 := w.heap.size) (N := (rowsL l).length) (by omega)
    (fun W1 hb1 hs1 => by
      have e1 : W1.cell? ⟨w.heap.size + 1 + 1, 0, none⟩ = some (.slice va l.length vc) := by
        have := (hb1.block (w.heap.size + 1 + 1) (by omega)).trans o3
        simp [World.cell?, this]
      have hbw : Below w.heap.size w W1 := hB0.trans (hb1.mono (by omega))
      have := rows_seq 2 (by omega) (w.heap.size + 1 + 1) w.heap.size _ l (by omega) hlen W1 w hK rfl hbw e1 (HL.out.of_new hbw)
      rw [hs1] at this
      exact this)
    (fun _ _ => rfl)
    (fun g pre W => Octs W (w.heap.size + 1) 25 (headP pre) ∧ (headP pre).length = 32 ∧ Octs W w.heap.size 25 (List.replicate 32 0) ∧ Below w.heap.size w W ∧ w.heap.size + 2 ≤ W.heap.size)
    (fun _ _ _ _ => False)
    (fun g s A B hg hs hk => ⟨hs.1.of_block (hk.block _ (by have := hs.2.2.2.2; omega) (by constructor <;> omega)), hs.2.1, hs.2.2.1.of_block (hk.block _ (by have := hs.2.2.2.2; omega) (by constructor <;> omega)),
      hk.to_below hs.2.2.2.1 (by have := hs.2.2.2.2; omega) (fun k hk2 => by constructor <;> omega), Nat.le_trans hs.2.2.2.2 hk.size⟩)
    (fun _ _ _ _ _ _ h _ => h)
    (fun g pre x A B hg hs hk => by
      refine ⟨hs.1, hs.2.1, hs.2.2.1, ?_⟩
      rcases hs.2.2.2 with ⟨h, _⟩ | ⟨g', cap', cur', hv, hb, hh, hr⟩
      · cases h
      · cases hv
        exact .inr ⟨g, _, cur', rfl, hb, (hk.block g (Array.getElem?_eq_some_iff.1 hh).1 (by omega)).trans hh, hr⟩)
    (fun g W' hg hb => ⟨o2.of_block (hb.block _ (by omega)), by simp [headP], o1.of_block (hb.block _ (by omega)), hB0.trans (hb.mono (by omega)), by have := hb.size; omega⟩)
    (fun g x => { tmps := #[.slice va l.length vc, undef, .pointer (some ⟨w.heap.size, 0, none⟩), .pointer (some ⟨w.heap.size + 1, 0, none⟩), .slice (some ⟨g, 0, none⟩) x.1.length x.2, .slice va l.length vc, .int .i64 (l.length : Int), .bool false, undef, .slice va l.length vc,
      .func (.func 85) #[] #[.pointer (some ⟨w.heap.size + 1 + 1, 0, none⟩)], .slice (some ⟨g, 0, none⟩) x.1.length x.2, undef, undef, undef, undef], defers := [] }) ?assign ?body ?done ?stop
  case assign =>
    intro l g x W K hK
    gi_wp2
    exact hK
  case body =>
    rintro l' g pre ⟨x, cap⟩ W hg ⟨hr, h32, hz, hb, hsz2⟩ ⟨hpre, ho⟩ _ hW2
    dsimp only at ho
    have hxm : x ∈ rowsL l := hpre.subset (by simp)
    have hx0 : 0 < x.length := rowsP_ne _ _ (by omega) _ hxm
    obtain ⟨bb, boff, bc, hbv, hbl, hat⟩ := ho.digs.at_ hx0
    obtain ⟨rfl, rfl⟩ : bb = g ∧ boff = 0 := by
      simp only [Value.slice.injEq, Option.some.injEq, Addr.mk.injEq] at hbv
      exact ⟨hbv.1.1.symm, hbv.1.2.1.symm⟩
    have hx1 : ∀ j, j < 32 → W.cell? ⟨bb, 0 + j, none⟩ = ((x.getD 0 []).map B8)[j]? := fun j hj => by
      have := hat 0 hx0 j hj
      simpa using this
    have HX1 := Lib.hid hx1
    have D1 := Lib.hid (ho.1.getD hx0)
    have HR := Lib.hid hr
    have H32 := Lib.hid h32
    have t1 : (0 : Int) < (x.length : Int) := by omega
    clear hx1 hat hbv hr h32 hpre hxm ho
    gi_wp2_with (first
      | ((with_reducible refine wpListIn_load_dig (op := ⟨some 14, Op.load 25 (.tmp 13), _, _, _, _⟩) (.tmp 13) bb 0 (x.getD 0 []) ?g ?ho ?hx ?hd ?hc ?_); (case g => rfl); (case ho => rfl); (case hx => rfl); (case hd => exact D1.out); (case hc => exact HX1.out))
      | ((with_reducible refine wpListIn_store_octs (op := ⟨none, Op.store 25 (.tmp 3) (.tmp 14), _, _, _, _⟩) (.tmp 3) (.tmp 14) (w.heap.size + 1) 25 (headP pre) (x.getD 0 []) ?g ?ho ?hx ?hy ?hh ?hw ?hs ?_); (case g => rfl); (case ho => rfl); (case hx => rfl); (case hy => simp only [List.getD_eq_getElem?_getD]; rfl); (case hh => exact HR.out); (case hw => exact D1.out); (case hs => exact H32.out)))
    refine ⟨(Kept.refl _ _).grown (grown_setRow _ _ _) (fun r e => by cases e; omega), ?_, ?_, ?_, ?_, ?_⟩
    · rw [headP_snoc]; exact setRow_heap _ _ _ _ _ _ HR.out
    · rw [headP_snoc]; exact D1.out
    · exact hz.of_block (setRow_other _ _ _ _ (by omega))
    · exact hb.trans (below_setRow' _ _ _ (by omega))
    · have := (grown_setRow W (w.heap.size + 1) (List.map B8 (x.getD 0 [])).toArray).size; omega
  case done =>
    rintro g xs W hg hxs ⟨hr, h32, hz, hb, hsz2⟩ hW2 hD
    have hne : xs ≠ [] := by
      rintro rfl
      have : 0 < (rowsL l).length := by
        by_cases h : 1 < l.length
        · rw [rowsL_step h]; simp
        · rw [rowsL_end (by omega)]; simp
      rw [← hxs] at this
      simp at this
    have hroot : headP xs = rootL l := by
      rw [headP_rows hne, hxs]; unfold rootL; rw [if_neg h0]
    rw [hroot] at hr h32
    have hx1 : ∀ j, j < 32 → W.cell? ⟨w.heap.size + 1, 0 + j, none⟩ = ((rootL l).map B8)[j]? := fun j hj => by
      unfold Octs at hr
      simp [World.cell?, hr]
    have HX1 := Lib.hid hx1
    have D1 := Lib.hid h32
    have HZ := Lib.hid hz
    have HD := Lib.hid hD
    clear hx1 hr h32 hz hxs hD
    gi_wp2_with (first
      | ((with_reducible refine wpListIn_load_dig (op := ⟨some 15, Op.load 25 (.tmp 3), _, _, _, _⟩) (.tmp 3) (w.heap.size + 1) 0 (rootL l) ?g ?ho ?hx ?hd ?hc ?_); (case g => rfl); (case ho => rfl); (case hx => rfl); (case hd => exact D1.out); (case hc => exact HX1.out))
      | ((with_reducible refine wpListIn_store_octs (op := ⟨none, Op.store 25 (.tmp 2) (.tmp 15), _, _, _, _⟩) (.tmp 2) (.tmp 15) w.heap.size 25 (List.replicate 32 0) (rootL l) ?g ?ho ?hx ?hy ?hh ?hw ?hs ?_); (case g => rfl); (case ho => rfl); (case hx => rfl); (case hy => rfl); (case hh => exact HZ.out); (case hw => exact D1.out); (case hs => rfl)))
    obtain ⟨W2, hW2d⟩ : ∃ W2, W.setRow w.heap.size (List.map B8 (rootL l)).toArray = W2 := ⟨_, rfl⟩
    have hd2 : W2.heap[W0.heap.size]? = some (.deferred (some [])) := by rw [← hW2d]; exact (setRow_other _ _ _ _ (by omega)).trans HD.out
    have hr2 : Octs W2 w.heap.size 25 (rootL l) := by rw [← hW2d]; exact setRow_heap _ _ _ _ _ _ HZ.out
    have hb2 : Below w.heap.size w W2 := by rw [← hW2d]; exact hb.trans (below_setRow' _ _ _ (Nat.le_refl _))
    rw [hW2d]
    refine ⟨by simp, .inl ⟨_, _, rfl, run_takeDeferred hd2, ?_⟩⟩
    refine ⟨_, results_cell_row (g := w.heap.size) (t := 25) (cs := ((rootL l).map B8).toArray) (fr := (0, 0)) rfl _ _ _ rfl ((World.putObj_heap_other (by omega)).trans hr2) Tryd.underlying25 rfl (by rw [info_dig]; simp [D1.out]), rfl, ?_⟩
    exact hb2.grown (grownBy_putObj' _ _ _) hb2.size (fun k e => by cases e; omega)
  case stop =>
    rintro g c pre W _ _ h _ _
    exact h.elim

end Go.Proofs.YtnomekfemadpeaaDoor

/- Facts about memory as closed words (a hash at a place, one cell with a slice of hashes), and the laws that use them. No condition. -/
namespace Go.Proofs.YtnomekfemadpeaaDoor
open Go.RowKit
set_option linter.unusedVariables false
set_option linter.unusedSimpArgs false

/-- At that place lies the hash d. -/
def DigAt (w : World) (g off : Nat) (d : List UInt8) : Prop := d.length = 32 ∧ ∀ j, j < 32 → w.cell? ⟨g, off + j, none⟩ = (d.map B8)[j]?
theorem DigAt.lt {w : World} {g off : Nat} {d : List UInt8} (h : DigAt w g off d) : g < w.heap.size := by
  have := h.2 0 (by omega)
  rw [List.getElem?_eq_getElem (by simp [h.1])] at this
  exact World.block_lt_of_cell? _ _ this
theorem DigAt.of_new {w w' : World} {g off : Nat} {d : List UInt8} (h : DigAt w g off d) (hg : Below w.heap.size w w') : DigAt w' g off d :=
  ⟨h.1, fun j hj => (hg.cell (p := ⟨g, off + j, none⟩) h.lt).trans (h.2 j hj)⟩
theorem DigAt.of_block {w w' : World} {g off : Nat} {d : List UInt8} (h : DigAt w g off d) (hg : w'.heap[g]? = w.heap[g]?) : DigAt w' g off d :=
  ⟨h.1, fun j hj => (World.cell?_of_block (a := ⟨g, off + j, none⟩) hg).trans (h.2 j hj)⟩
theorem Digs.digAt {w : World} {b off n c : Nat} {l : List (List UInt8)} (h : Digs w (.slice (some ⟨b, off, none⟩) n c) l) {i : Nat} (hi : i < l.length) : DigAt w b (off + i * 32) (l.getD i []) := by
  obtain ⟨b', off', c', hv, hb, hc⟩ := h.at_ (by omega)
  cases hv
  exact ⟨h.1.getD hi, hc i hi⟩
theorem Digs.digAt0 {w : World} {b n c : Nat} {l : List (List UInt8)} (h : Digs w (.slice (some ⟨b, 0, none⟩) n c) l) {i : Nat} (hi : i < l.length) : DigAt w b (i * 32) (l.getD i []) := by
  have := h.digAt hi
  rwa [Nat.zero_add] at this
theorem Octs.digAt {w : World} {g t : Nat} {d : List UInt8} (h : Octs w g t d) (hd : d.length = 32) : DigAt w g 0 d :=
  ⟨hd, fun j hj => by rw [Nat.zero_add]; simp [World.cell?, show w.heap[g]? = _ from h]⟩
theorem Digs.shape {w : World} {v : Value} {l : List (List UInt8)} (h : Digs w v l) (h0 : 0 < l.length) : ∃ b off c, v = .slice (some ⟨b, off, none⟩) l.length c := by
  obtain ⟨b, off, c, hv, _⟩ := h.at_ h0
  exact ⟨b, off, c, hv⟩
theorem OwnD.lt {w : World} {base : Nat} {v : Value} {l : List (List UInt8)} (h : OwnD w base v l) : ∀ k, v.ownBlock = some k → base ≤ k ∧ k < w.heap.size := World.ownsRow.lt h.2
theorem OwnD.mono {w : World} {base base' : Nat} {v : Value} {l : List (List UInt8)} (h : OwnD w base v l) (hb : base' ≤ base) : OwnD w base' v l :=
  ⟨h.1, h.2.1, h.2.2.imp id (fun ⟨g, cap, cur, a, b, c⟩ => ⟨g, cap, cur, a, Nat.le_trans hb b, c⟩)⟩

theorem OwnD.alloc {w : World} {base : Nat} {v : Value} {l : List (List UInt8)} (h : OwnD w base v l) (o : Obj) : OwnD (w.alloc o) base v l := h.of_new ((Below.refl _ _).alloc (Nat.le_refl _) o)

theorem wpList_load_at {w : World} {ops : Array Oper} {rest : List Oper} {op : Oper} {a : Act} {Q : Exit → Act → World → Prop} {ty : TypeId} {x : Operand} {g off : Nat} {d : List UInt8} (hgd : op.guard = none) (ho : op.op = .load 25 x)
    (hx : a.eval x = .pointer (some ⟨g, off, none⟩)) (hd : DigAt w g off d) (h : wpList Tryd.prog ops Q rest (a.put op.dst (.agg (d.map B8).toArray)) w) : wpList Tryd.prog ops Q (op :: rest) a w :=
  wpList_load_dig x g off d hgd ho hx hd.1 hd.2 h

theorem quiet_load_at {W : World} {o : Oper} {a : Act} {K : Act → Prop} {ty : TypeId} {x : Operand} {g off : Nat} {d : List UInt8} (ho : o.op = .load 25 x) (hx : a.eval x = .pointer (some ⟨g, off, none⟩))
    (hd : DigAt W g off d) (hK : K (a.put o.dst (.agg (d.map B8).toArray))) : o.quiet Tryd.prog a (Grew W) K :=
  quiet_load_dig x g off d ho hx hd.1 hd.lt hd.2 hK

/-- One hash that was laid in a new block. -/
theorem digs_one (w : World) (d : List UInt8) (hd : d.length = 32) : Digs (w.alloc (.cells (d.map B8).toArray 25)) (.slice (some ⟨w.heap.size, 0, none⟩) 1 1) [d] := by
  refine ⟨fun e he => by simp at he; rw [he]; exact hd, by simp [flatD, hd], _, 1, rfl, Nat.le_refl _, by unfold maxLen; omega, (fun h => by cases h), fun _ => ⟨_, 0, rfl, by simp, fun j hj => ?_⟩⟩
  have := heap_alloc_new w (.cells (d.map B8).toArray 25)
  simp only [World.cell?, Nat.zero_add, this]
  simp [flatD]

theorem digs_laid (w : World) (ds : List (List UInt8)) (h32 : Dig32 ds) (h1 : ds.length ≤ maxLen) : OwnD (w.alloc (.cells (flatD ds).toArray 25)) w.heap.size (.slice (some ⟨w.heap.size, 0, none⟩) ds.length ds.length) ds :=
  ⟨h32, by rw [flatD_len h32], .inr ⟨w.heap.size, ds.length, (flatD ds).toArray, rfl, Nat.le_refl _, heap_alloc_new _ _, Nat.le_refl _, h1, by simp [flatD_len h32], by rw [← flatD_len h32]; simp⟩⟩

set_option maxRecDepth 100000 in
/-- A slice literal of hashes. -/
theorem wpList_buildDigs {w : World} {ops : Array Oper} {rest : List Oper} {op : Oper} {a : Act} {Q : Exit → Act → World → Prop} (n : Nat) (parts : Array (Nat × Operand)) (ds : List (List UInt8)) (hgd : op.guard = none) (ho : op.op = .buildSlice 31 n parts)
    (hn : n = ds.length) (h0 : 0 < ds.length) (h1 : ds.length ≤ 1000) (h32 : Dig32 ds) (hp : (parts.map fun (i, x) => (i, a.eval x)).toList = ((ds.map fun d => Value.agg (d.map B8).toArray).zipIdx 0).map fun x => (x.2, x.1))
    (h : ∀ w', OwnD w' w.heap.size (.slice (some ⟨w.heap.size, 0, none⟩) n n) ds → Below w.heap.size w w' → w'.heap.size = w.heap.size + 1 → wpList Tryd.prog ops Q rest (a.put op.dst (.slice (some ⟨w.heap.size, 0, none⟩) n n)) w') : wpList Tryd.prog ops Q (op :: rest) a w := by
  obtain ⟨i, hi, hz, hsize, hby⟩ := info_parts infoDig
  subst hn
  refine wpList_buildSlice hgd 31 25 ds.length parts ho (flatD ds).toArray i _ Tryd.underlying31 hi hz (by rw [hsize]; omega) (by rw [hsize]; omega) ?_ (h _ (digs_laid w ds h32 (by unfold maxLen; omega)) ((Below.refl _ w).alloc (Nat.le_refl _) _) (by simp))
  rw [hp, hsize]
  rw [Great.fill_whole (by omega) _ _ (fun v hv => by
    obtain ⟨d, hd, rfl⟩ := List.mem_map.1 hv
    simp [Value.cells, h32 d hd]) (by simp)]
  congr 1
  simp [flatD, List.flatMap_map, Value.cells]

/-- A whole hash laid into the block that was made last. -/
theorem wpList_store_fresh {w : World} {A : Array Value} {ops : Array Oper} {rest : List Oper} {op : Oper} {a : Act} {Q : Exit → Act → World → Prop} (x y : Operand) (d : List UInt8) (hgd : op.guard = none) (ho : op.op = .store 25 x y)
    (hx : a.eval x = .pointer (some ⟨w.heap.size, 0, none⟩)) (hy : a.eval y = .agg (d.map B8).toArray) (hA : A.size = 32) (hd : d.length = 32)
    (h : ∀ w', DigAt w' w.heap.size 0 d → Octs w' w.heap.size 25 d → Below w.heap.size w w' → w.heap.size < w'.heap.size → wpList Tryd.prog ops Q rest (a.put op.dst undef) w') : wpList Tryd.prog ops Q (op :: rest) a (w.alloc (.cells A 25)) := by
  have ho' : Octs ((w.alloc (.cells A 25)).setRow w.heap.size (d.map B8).toArray) w.heap.size 25 d := setRow_heap _ _ _ _ _ _ (heap_alloc_new w _)
  exact wpList_store_row hgd 25 x y ho w.heap.size 25 A (d.map B8).toArray hx hy (heap_alloc_new w _) (by rw [info_dig]; simp [hd]) (by simp [hA, hd]) (octs_one d)
    (h _ (ho'.digAt hd) ho' (((Below.refl _ w).alloc (Nat.le_refl _) _).trans (below_setRow' _ _ _ (Nat.le_refl _))) (by simp))

end Go.Proofs.YtnomekfemadpeaaDoor

/- The walks of the document's answer's above and Root. Conditions: no more than 2^20 hashes. -/
namespace Go.Proofs.YtnomekfemadpeaaDoor
open Go.RowKit
set_option linter.unusedVariables false
set_option linter.unusedSimpArgs false

set_option maxRecDepth 100000 in
set_option maxHeartbeats 1600000 in
theorem Above_any (v : Value) (l : List (List UInt8)) (w : World) (hl : Digs w v l) (hlen : l.length ≤ 1048576) :
    Calls Tryd.prog 49 #[v] w fun e w' => ∃ v', e = .returned v' ∧ OwnD w' w.heap.size v' (aboveL l) ∧ Below w.heap.size w w' := by
  obtain ⟨va, vc, hv⟩ := hl.len
  subst hv
  go_enter Tryd.func49, Tryd.ntmps49
  go_wp2
  go_loopw [3, 4] (fun ov iv wr => ∃ (k : Nat), 2 * k ≤ l.length + 1 ∧ iv = .int .i64 ((2 * k : Nat) : Int) ∧ OwnD wr w.heap.size ov ((aboveL l).take k) ∧ Below w.heap.size w wr)
    (fun _ iv _ => l.length + 2 - (intOf iv).toNat)
  case atStart => exact ⟨0, by omega, rfl, OwnD.nil _ _, Below.refl _ _⟩
  case round =>
    obtain ⟨k, hk, rfl, ho, hb⟩ := hrel
    have hsz := hb.size
    have hlw := hl.of_new hb
    clear hl
    obtain ⟨oa, oc, ho'⟩ := ho.digs.len
    subst ho'
    have e1 : (2 * (k : Int)).toNat = 2 * k := by omega
    have e2 : (2 * (k : Int) + 1).toNat = 2 * k + 1 := by omega
    by_cases hlt : 2 * k < l.length
    · obtain ⟨b, off, c, hv⟩ := hlw.shape (by omega)
      obtain ⟨rfl, rfl⟩ : va = some ⟨b, off, none⟩ ∧ vc = c := by cases hv; exact ⟨rfl, rfl⟩
      clear hv
      have b0 : (0 : Int) ≤ 2 * (k : Int) := by omega
      have b1 : (2 * (k : Int)) < (l.length : Int) := by omega
      have h1 := hlw.digAt (i := 2 * k) (by omega)
      have hout : ∀ e, (aboveL l).getD k [] = e → (aboveL l).take k ++ [e] = (aboveL l).take (k + 1) := fun e he => by
        rw [← he, List.take_succ_eq_append_getElem (by rw [aboveL_len]; omega)]
        simp [List.getD, List.getElem?_eq_getElem (show k < (aboveL l).length by rw [aboveL_len]; omega)]
      have hat := aboveL_at l k
      have hlast := aboveL_last l
      have hol : ((aboveL l).take k).length ≤ k := List.length_take_le _ _
      by_cases hlt2 : 2 * k + 1 < l.length
      · have h2 := hlw.digAt (i := 2 * k + 1) (by omega)
        have hstep := Lib.hid (hout _ (hat hlt2))
        have b2 : (2 * (k : Int) + 1) < (l.length : Int) := by omega
        have b3 : (0 : Int) ≤ 2 * (k : Int) + 1 := by omega
        have s1 : IntKind.i64.wrap (2 * (k : Int) + 1) = 2 * (k : Int) + 1 := IntWalk.i64_in _ (by omega)
        clear hout hat hlast
        generalize l.getD (2 * k) [] = d1 at *
        generalize l.getD (2 * k + 1) [] = d2 at *
        generalize (aboveL l).take k = out at *
        go_upto_region 6 with (fail)
        refine wp_region_class_move (C := Grew wr) 11 (.tmp 3) rfl rfl (by kernel_rfl) (by kernel_rfl) (by kernel_rfl) (Grew.start _) (fun _ _ _ h => h) ?_
        simp only [List.take_succ_cons, List.take_zero, List.drop_succ_cons, List.drop_zero]
        go_simp
        repeat (first
          | (go_big_quiet_want; (with_reducible apply quiet_load_at (ty := 25) (x := .tmp _)); rfl; rfl; assumption; go_simp; go_big_quiet_on)
          | (go_big_quiet_want; apply quiet_val; (intro w' hw'; go_simp; first | done | rfl); go_simp; go_big_quiet_on)
          | (go_big_quiet_want; apply quiet_call (f := 50); (intro w' hw'; go_simp; first | done | rfl); (intro w' hw'; exact Grew.call hw' (RNode_any _ _ _ h1.1 h2.1)); go_simp; go_big_quiet_on)
          | (go_big_quiet_skip))
        refine wpQuiet_nil ?_
        intro w5 hw5
        have ho5 := ho.of_new hw5
        have hb5 : Below w.heap.size w w5 := below_next' hb hw5
        have hsz5 := hb5.size
        refine wpList_buildDigs 1 _ [nodeL d1 d2] rfl rfl rfl (by simp) (by simp) (fun x hx => by simp at hx; rw [hx]; exact nodeL_len _ _) (by simp only [List.map_toArray, List.map_cons, List.map_nil]; rfl) ?_
        intro w7 ho7 hb7 hs7
        have hoB := ho5.of_new hb7
        refine wpList_appD rfl (.tmp 16) (.tmp 27) 31 rfl w.heap.size Tryd.underlying31 _ _ rfl hoB _ [nodeL d1 d2] rfl ho7.digs (by simp; omega) (by omega) ?_
        intro v6 w6 ho6 hg6 _
        have hb6 : Below w.heap.size w w6 := (below_next' hb5 hb7).grown hg6 (by omega) (fun j hj => (hoB.lt j hj).1)
        rw [hstep.out] at ho6
        clear hg6 ho7 hoB
        go_wp2
        go_roundw
        case rel => exact ⟨k + 1, by omega, by go_num, ho6, hb6⟩
        case measure => simp [intOf]; omega
      · have hodd : l.length % 2 = 1 := by omega
        have hk2 : l.length / 2 = k := by omega
        have hk3 : l.length - 1 = 2 * k := by omega
        rw [hk2, hk3] at hlast
        have hstep := Lib.hid (hout _ (hlast hodd))
        have b2 : ¬ (2 * (k : Int) + 1) < (l.length : Int) := by omega
        clear hout hat hlast hk2 hk3
        generalize l.getD (2 * k) [] = d1 at *
        generalize (aboveL l).take k = out at *
        go_wp2_with (first
          | ((with_reducible apply wpList_load_at (ty := 25) (x := .tmp _)); rfl; rfl; rfl; assumption)
          | ((with_reducible refine wpList_buildDigs (op := ⟨_, Op.buildSlice 31 1 _, _, _, _, _⟩) 1 #[(0, .tmp 33)] [d1] ?_ ?_ ?_ ?_ ?_ ?_ ?_ ?_); rfl; rfl; rfl; simp; simp; (intro x hx; simp at hx; rw [hx]; exact h1.1); (simp only [List.map_toArray, List.map_cons, List.map_nil]; rfl); intro w7 ho7 hb7 hs7; refine wpList_appD rfl (.tmp 29) (.tmp 34) 31 rfl w.heap.size Tryd.underlying31 _ _ rfl (ho.of_new hb7) _ [d1] rfl ho7.digs (by simp; omega) (by omega) ?_; intro v6 w6 ho6 hg6 _; have hb6 : Below w.heap.size w w6 := (below_next' hb hb7).grown hg6 (by omega) (fun j hj => ((ho.of_new hb7).lt j hj).1); clear hg6 ho7 hb7))
        rw [hstep.out] at ho6
        go_roundw
        case rel => exact ⟨k + 1, by omega, by go_num, ho6, hb6⟩
        case measure => simp [intOf]; omega
    · have b1 : ¬ (2 * (k : Int)) < (l.length : Int) := by omega
      have hend : (aboveL l).take k = aboveL l := List.take_of_length_le (by rw [aboveL_len]; omega)
      generalize ((aboveL l).take k).length = q at *
      rw [hend] at ho
      go_wp2
      go_ret
      exact ⟨_, rfl, ho, hb⟩

theorem rootL_step {l : List (List UInt8)} (h : 1 < l.length) : rootL l = rootL (aboveL l) := by
  unfold rootL
  have h2 : ¬ (aboveL l).length = 0 := by rw [aboveL_len]; omega
  have hne : rowsL (aboveL l) ≠ [] := by
    by_cases h3 : 1 < (aboveL l).length
    · rw [rowsL_step h3]; simp
    · rw [rowsL_end (by omega)]; simp
  rw [if_neg (by omega), if_neg h2, rowsL_step h]
  obtain ⟨r, rs, hr⟩ : ∃ r rs, rowsL (aboveL l) = r :: rs := by
    cases hq : rowsL (aboveL l) with
    | nil => exact absurd hq hne
    | cons r rs => exact ⟨r, rs, rfl⟩
  rw [hr]; simp
theorem rootL_one {l : List (List UInt8)} (h : l.length = 1) : rootL l = l.getD 0 [] := by
  unfold rootL
  rw [if_neg (by omega), rowsL_end (by omega)]
  rfl
theorem rootL_none {l : List (List UInt8)} (h : l.length = 0) : rootL l = noneL := by unfold rootL; rw [if_pos h]

set_option maxRecDepth 100000 in
set_option maxHeartbeats 1600000 in
theorem RRoot_any (v : Value) (l : List (List UInt8)) (w : World) (hl : Digs w v l) (hlen : l.length ≤ 1048576) :
    Calls Tryd.prog 41 #[v] w fun e w' => e = .returned (.agg ((rootL l).map B8).toArray) ∧ Below w.heap.size w w' := by
  obtain ⟨va, vc, hv⟩ := hl.len
  subst hv
  by_cases h0 : l.length = 0
  · have hr := Lib.hid (rootL_none h0)
    rw [h0]
    clear hl
    go_enter Tryd.func41, Tryd.ntmps41
    go_wp2_with fail
    generalize hW1 : (w.alloc _) = W1
    obtain ⟨hR, hb1, hz⟩ : Octs W1 w.heap.size 25 (List.replicate 32 0) ∧ Below w.heap.size w W1 ∧ w.heap.size + 1 = W1.heap.size := by
      subst hW1
      exact ⟨heap_alloc_new w _, (Below.refl _ w).alloc (Nat.le_refl _) _, by simp⟩
    clear hW1
    refine (RTagged_any 2 _ [] W1 (parts_nil _) (by simp) (by simp)).mono ?_
    rintro e w2 ⟨rfl, hb2⟩
    have hR2 := Lib.hid (hR.of_block (hb2.block _ (by omega)))
    have hbF := Lib.hid (below_next hb1 (hb2.mono (by omega)))
    clear hb2 hb1 hR
    go_wp2_with ((with_reducible refine wpList_store_octs (op := ⟨none, Op.store 25 (.tmp 2) (.tmp 7), _, _, _, _⟩) 25 (.tmp 2) (.tmp 7) (w.heap.size) 25 (List.replicate 32 (0 : UInt8)) (sumL (partsL 2 [])) ?g ?ho ?hx ?hy ?hh ?hi ?hs ?_); (case g => rfl); (case ho => rfl); (case hx => rfl); (case hy => rfl); (case hh => exact hR2.out); (case hi => rw [show sumL (partsL 2 []) = noneL from rfl, noneL_len]; kernel_rfl); (case hs => rw [show sumL (partsL 2 []) = noneL from rfl, noneL_len]; rfl))
    refine bodyPost_ret (results_cell rfl _ rfl (run_loadVar_row _ _ 25 _ (noneL.map B8).toArray (0, 0) _ (setRow_heap _ _ _ _ _ _ hR2.out) Tryd.underlying25 rfl (by rw [info_dig]; simp [noneL_len]))) rfl ⟨by rw [hr.out], ?_⟩
    exact hbF.out.trans (below_setRow' _ _ _ (Nat.le_refl _))
  · have t0 : ((l.length : Int) == 0) = false := by simpa using (by omega : ¬ ((l.length : Int) = 0))
    go_enter Tryd.func41, Tryd.ntmps41
    go_wp2
    generalize hW1 : (w.alloc _) = W1
    obtain ⟨hR, hb1, hz⟩ : Octs W1 w.heap.size 25 (List.replicate 32 0) ∧ Below w.heap.size w W1 ∧ w.heap.size + 1 = W1.heap.size := by
      subst hW1
      exact ⟨heap_alloc_new w _, (Below.refl _ w).alloc (Nat.le_refl _) _, by simp⟩
    clear hW1
    have hl1 := hl.of_new hb1
    clear hl
    go_loopw [3] (fun lv wr => ∃ (cur : List (List UInt8)), cur.length ≤ 1048576 ∧ 0 < cur.length ∧ Digs wr lv cur ∧ rootL l = rootL cur ∧ Octs wr w.heap.size 25 (List.replicate 32 0) ∧ Below w.heap.size w wr ∧ w.heap.size < wr.heap.size)
      (fun lv _ => lenV lv)
    case atStart => exact ⟨l, hlen, by omega, hl1, rfl, hR, hb1, by omega⟩
    case round =>
      clear hR hb1 hl1 hz hlen h0 t0
      obtain ⟨cur, hlen, hpos, hl1, hroot, hR, hb1, hz⟩ := hrel
      have HR := Lib.hid hroot
      clear hroot
      obtain ⟨ca, cc, hv⟩ := hl1.len
      subst hv
      by_cases hlt : 1 < cur.length
      · have t1 : (1 : Int) < (cur.length : Int) := by omega
        go_wp2_with fail
        refine (Above_any _ cur _ hl1 hlen).mono ?_
        rintro e w2 ⟨v2, rfl, ho2, hb2⟩
        have hR2 := hR.of_block (hb2.block _ hz)
        have hl2 := ho2.digs
        obtain ⟨ca2, cc2, hv⟩ := hl2.len
        subst hv
        have hal := Lib.hid (aboveL_len cur)
        have hstep := Lib.hid (rootL_step hlt)
        generalize aboveL cur = nxt at *
        clear ho2
        go_wp2
        go_roundw
        case rel => exact ⟨nxt, by have := hal.out; omega, by have := hal.out; omega, hl2, HR.out.trans hstep.out, hR2, below_next' hb1 hb2, by have := hb2.size; omega⟩
        case measure => have := hal.out; show nxt.length < cur.length; omega
      · have t1 : ¬ (1 : Int) < (cur.length : Int) := by omega
        obtain ⟨b, off, c, hv⟩ := hl1.shape hpos
        obtain ⟨rfl, rfl⟩ : ca = some ⟨b, off, none⟩ ∧ cc = c := by cases hv; exact ⟨rfl, rfl⟩
        have t2 : (0 : Int) < (cur.length : Int) := by omega
        have h1 := hl1.digAt (i := 0) hpos
        have hone := HR.out.trans (rootL_one (l := cur) (by omega))
        rw [Nat.zero_mul, Nat.add_zero] at h1
        have HO := Lib.hid hone
        clear hone hv
        generalize cur.getD 0 [] = d at *
        go_wp2_with (first
          | ((with_reducible apply wpList_load_at (ty := 25) (x := .tmp _)); rfl; rfl; rfl; assumption)
          | ((with_reducible refine wpList_store_octs (op := ⟨none, Op.store 25 (.tmp 2) (.tmp 16), _, _, _, _⟩) 25 (.tmp 2) (.tmp 16) (w.heap.size) 25 (List.replicate 32 (0 : UInt8)) d ?_ ?_ ?_ ?_ ?_ ?_ ?_ ?_); rfl; rfl; rfl; rfl; exact hR; (rw [h1.1]; kernel_rfl); (rw [h1.1]; rfl)))
        refine bodyPost_ret (results_cell rfl _ rfl (run_loadVar_row _ _ 25 _ (d.map B8).toArray (0, 0) _ (setRow_heap _ _ _ _ _ _ hR) Tryd.underlying25 rfl (by rw [info_dig]; simp [h1.1]))) rfl ⟨by rw [HO.out], ?_⟩
        exact hb1.trans (below_setRow' _ _ _ (Nat.le_refl _))

end Go.Proofs.YtnomekfemadpeaaDoor

/- The walks of merkle.beside, right, places. Conditions: a place in a row. -/
namespace Go.Proofs.YtnomekfemadpeaaDoor
open Go.RowKit Go.Shelf
set_option linter.unusedVariables false
set_option linter.unusedSimpArgs false

/-- The place beside one in a row of so many. -/
def besideZ (n i : Nat) : Int := if i % 2 = 1 then (i : Int) - 1 else if i + 1 < n then (i : Int) + 1 else -1

def rightB (n i : Int) : Bool := decide (n ≥ 1 ∧ n ≤ 1024 ∧ i ≥ 0 ∧ i < n)

theorem xor_ones : (List.range 1024).all (fun i => bits .xor .i64 ((i : Nat) : Int) 1 == if i % 2 = 1 then (i : Int) - 1 else (i : Int) + 1) = true := by decide +kernel
theorem xor_one (i : Nat) (h : i < 1024) : bits .xor .i64 (i : Int) 1 = if i % 2 = 1 then (i : Int) - 1 else (i : Int) + 1 := by
  have := List.all_eq_true.1 xor_ones i (List.mem_range.2 h)
  simpa using this

set_option maxRecDepth 100000 in
set_option maxHeartbeats 800000 in
theorem beside_any (n i : Nat) (w : World) (hi : i < n) (hn : n ≤ 1024) :
    Calls Tryd.prog 73 #[.int .i64 (n : Int), .int .i64 (i : Int)] w fun e w' => e = .returned (.int .i64 (besideZ n i)) ∧ w' = w := by
  have hx := xor_one i (by omega)
  unfold besideZ
  by_cases h1 : i % 2 = 1
  · rw [if_pos h1] at hx ⊢
    have hlt : (i : Int) - 1 < (n : Int) := by omega
    go_enter Tryd.func73, Tryd.ntmps73
    go_wp2
    go_ret
    exact ⟨rfl, rfl⟩
  · rw [if_neg h1] at hx ⊢
    by_cases h2 : i + 1 < n
    · rw [if_pos h2]
      have hlt : (i : Int) + 1 < (n : Int) := by omega
      go_enter Tryd.func73, Tryd.ntmps73
      go_wp2
      go_ret
      exact ⟨rfl, rfl⟩
    · rw [if_neg h2]
      have hlt : ¬ ((i : Int) + 1 < (n : Int)) := by omega
      go_enter Tryd.func73, Tryd.ntmps73
      go_wp2
      go_ret
      exact ⟨rfl, rfl⟩

set_option maxRecDepth 100000 in
set_option maxHeartbeats 800000 in
theorem right_any (n i : Int) (w : World) :
    Calls Tryd.prog 70 #[.int .i64 n, .int .i64 i] w fun e w' => e = .returned (.bool (rightB n i)) ∧ w' = w := by
  unfold rightB
  by_cases h1 : n ≥ 1 <;> by_cases h2 : n ≤ 1024 <;> by_cases h3 : i ≥ 0 <;> by_cases h4 : i < n
  all_goals
    go_enter Tryd.func70, Tryd.ntmps70
    go_wp2
    go_ret
    try exact ⟨by simp [h1, h2, h3, h4], rfl⟩

set_option maxRecDepth 100000 in
set_option maxHeartbeats 800000 in
theorem places_any (n i : Int) (w : World) :
    Calls Tryd.prog 72 #[.int .i64 n, .int .i64 i] w fun e w' => e = .returned (.func (.func 92) #[] #[.pointer (some ⟨w.heap.size, 0, none⟩), .pointer (some ⟨w.heap.size + 1, 0, none⟩)]) ∧
      w' = (w.alloc (.cells #[.int .i64 n] 3)).alloc (.cells #[.int .i64 i] 3) := by
  go_enter Tryd.func72, Tryd.ntmps72
  go_wp2
  go_ret
  exact ⟨rfl, rfl⟩

end Go.Proofs.YtnomekfemadpeaaDoor

/- The walk of merkle.Depth. No condition. -/
namespace Go.Proofs.YtnomekfemadpeaaDoor
open Go.RowKit Go.Shelf
attribute [local go_sem] Oper.semAt_some
set_option linter.unusedVariables false
set_option linter.unusedSimpArgs false

def cntP (l : List (Nat × Nat)) : Nat := l.countP (fun p => decide (0 ≤ besideZ p.1 p.2))
theorem cntP_snoc (l : List (Nat × Nat)) (x : Nat × Nat) : cntP (l ++ [x]) = cntP l + (if 0 ≤ besideZ x.1 x.2 then 1 else 0) := by
  unfold cntP
  rw [List.countP_append]
  simp [List.countP_cons]
theorem cntP_le (l : List (Nat × Nat)) : cntP l ≤ l.length := List.countP_le_length

def depthZ (n i : Int) : Nat := if rightB n i then cntP (walkN n.toNat i.toNat) else 0

/-- In a walk each place is in its row. -/
theorem walkP_in (f n i : Nat) (h : i < n) : ∀ p ∈ walkP f n i, p.2 < p.1 ∧ p.1 ≤ n ∧ 1 < p.1 := by
  induction f generalizing n i with
  | zero => intro p hp; simp [walkP] at hp
  | succ f ih =>
    intro p hp
    simp only [walkP] at hp
    split at hp
    · simp at hp
    · rcases List.mem_cons.1 hp with rfl | hp
      · exact ⟨h, Nat.le_refl _, by simp; omega⟩
      · have := ih ((n + 1) / 2) (i / 2) (by omega) p hp
        exact ⟨this.1, by omega, this.2.2⟩
theorem walkP_len (f n i k : Nat) (h : n ≤ 2 ^ k) : (walkP f n i).length ≤ k := by
  induction k generalizing f n i with
  | zero =>
    cases f with
    | zero => simp [walkP]
    | succ f => simp only [walkP]; rw [if_pos (by simpa using h)]; simp
  | succ k ih =>
    cases f with
    | zero => simp [walkP]
    | succ f =>
      simp only [walkP]
      split
      · simp
      · have := ih f ((n + 1) / 2) (i / 2) (by rw [Nat.pow_succ] at h; omega)
        simp; omega
theorem walkN_len (n i : Nat) (h : n ≤ 1024) : (walkN n i).length ≤ 10 := walkP_len _ _ _ 10 (by simpa using h)

set_option maxRecDepth 100000 in
set_option maxHeartbeats 1600000 in
theorem Depth_any (n i : Int) (w : World) :
    Calls Tryd.prog 71 #[.int .i64 n, .int .i64 i] w fun e w' => e = .returned (.int .i64 (depthZ n i : Int)) ∧ Below w.heap.size w w' := by
  refine (callsIn_wide (n := 3)).1 ?_
  refine callsIn_of_wp_marks Tryd.func71 rfl trivial ?_ rfl
  simp only [Tryd.ntmps71, List.size_toArray, List.length_cons, List.length_nil, Nat.reduceAdd, Nat.reduceSub, Array.replicate_succ, Array.replicate_zero, List.push_toArray, List.append_toArray, List.nil_append, List.cons_append]
  by_cases hr : rightB n i = true
  · gi_wp2_with (first
      | (refine ⟨trivial, ?_⟩; gi_at_call 70; refine (callsIn_wide.2 (right_any n i _)).mono ?_; rintro e w' ⟨rfl, rfl⟩; simp only [hr])
      | (refine ⟨trivial, ?_⟩; gi_at_call 72; refine (callsIn_wide.2 (places_any n i _)).mono ?_; rintro e w' ⟨rfl, rfl⟩))
    obtain ⟨p1, p2, p3, p4⟩ : n ≥ 1 ∧ n ≤ 1024 ∧ i ≥ 0 ∧ i < n := by simpa [rightB] using hr
    have hd : depthZ n i = cntP (walkN n.toNat i.toNat) := by unfold depthZ; rw [if_pos hr]
    obtain ⟨N, rfl⟩ : ∃ N : Nat, n = (N : Int) := ⟨n.toNat, by omega⟩
    obtain ⟨j, rfl⟩ : ∃ j : Nat, i = (j : Int) := ⟨i.toNat, by omega⟩
    simp only [Int.toNat_natCast] at hd
    obtain ⟨W0, hW0⟩ : ∃ W0, ((w.alloc (.cells #[.int .i64 0] 3)).alloc (.cells #[.int .i64 (N : Int)] 3)).alloc (.cells #[.int .i64 (j : Int)] 3) = W0 := ⟨_, rfl⟩
    rw [hW0]
    have hsz : W0.heap.size = w.heap.size + 3 := by rw [← hW0]; simp
    have hB0 : Below w.heap.size w W0 := by
      rw [← hW0]; exact (((Below.refl _ w).alloc (Nat.le_refl _) _).alloc (by simp) _).alloc (by simp; omega) _
    obtain ⟨o1, o2, o3⟩ : W0.heap[w.heap.size]? = some (.cells #[.int .i64 0] 3) ∧ W0.heap[w.heap.size + 1]? = some (.cells #[.int .i64 (N : Int)] 3) ∧ W0.heap[w.heap.size + 1 + 1]? = some (.cells #[.int .i64 (j : Int)] 3) := by
      rw [← hW0]
      refine ⟨?_, ?_, ?_⟩
      · rw [Below.heap_alloc _ _ _ (by simp; omega), Below.heap_alloc _ _ _ (by simp)]; exact heap_alloc_new _ _
      · rw [Below.heap_alloc _ _ _ (by simp)]; have := heap_alloc_new (w.alloc (.cells #[.int .i64 0] 3)) (.cells #[.int .i64 (N : Int)] 3); rwa [World.size_alloc] at this
      · have := heap_alloc_new ((w.alloc (.cells #[.int .i64 0] 3)).alloc (.cells #[.int .i64 (N : Int)] 3)) (.cells #[.int .i64 (j : Int)] 3); rwa [World.size_alloc, World.size_alloc] at this
    clear hW0
    have cell1 : ∀ (W : World) (b : Nat) (v : Value) (t : Nat), W.heap[b]? = some (.cells #[v] t) → W.cell? ⟨b, 0, none⟩ = some v ∧ W.frozen? ⟨b, 0, none⟩ = false := by
      intro W b v t h
      constructor
      · simp [World.cell?, h]
      · simp [World.frozen?, h]
    refine wpIn_rangeFunc_cells (F := Fence.wide) (n := 3) rfl (by omega) (gf := 92) (lb := #[.pointer (some ⟨w.heap.size + 1, 0, none⟩), .pointer (some ⟨w.heap.size + 1 + 1, 0, none⟩)]) rfl trivial
      (enters_of Tryd.func92 (by kernel_rfl) rfl)
      (encs := encP) (It := fun pre x _ => pre ++ [x] <+: walkN N j) (O := fun k => k = w.heap.size + 1 ∨ k = w.heap.size + 1 + 1) (U := fun k => k = w.heap.size + 1 ∨ k = w.heap.size + 1 + 1)
      (fun W1 hb1 hs1 => by
        have e1 := cell1 W1 _ _ _ ((hb1.block (w.heap.size + 1) (by omega)).trans o2)
        have e2 := cell1 W1 _ _ _ ((hb1.block (w.heap.size + 1 + 1) (by omega)).trans o3)
        exact places_seq Fence.wide 2 trivial rfl (by omega) _ _ (by omega) N j (by omega) (by omega) W1 e1.1 e2.1 e1.2 e2.2)
      (by omega) (by omega) (by omega) (fun _ => rfl)
      (fun pre W => W.cell? ⟨w.heap.size, 0, none⟩ = some (.int .i64 (cntP pre : Int)) ∧ W.frozen? ⟨w.heap.size, 0, none⟩ = false ∧ Below w.heap.size w W ∧ w.heap.size < W.heap.size)
      (fun _ _ _ => False)
      (fun s A B hs hk => ⟨(hk.cell (p := ⟨w.heap.size, 0, none⟩) hs.2.2.2 (by constructor <;> (simp; try omega))).trans hs.1, (World.frozen?_of_block (hk.block w.heap.size hs.2.2.2 (by constructor <;> (simp; try omega)))).trans hs.2.1,
        hk.to_below hs.2.2.1 (by have := hs.2.2.2; omega) (fun k hk2 => by constructor <;> (try simp) <;> omega), Nat.lt_of_lt_of_le hs.2.2.2 hk.size⟩)
      (fun _ _ _ _ h _ => h) (fun _ _ _ _ h _ => h)
      ⟨(cell1 _ _ _ _ o1).1, (cell1 _ _ _ _ o1).2, hB0, by omega⟩
      (fun x => { tmps := #[.int .i64 (N : Int), .int .i64 (j : Int), undef, undef, .int .i64 0, .pointer (some ⟨w.heap.size, 0, none⟩), .int .i64 (x.1 : Int), .int .i64 (x.2 : Int), .int .i64 (N : Int), .int .i64 (j : Int), .bool true, .int .i64 (N : Int), .int .i64 (j : Int),
          .func (.func 92) #[] #[.pointer (some ⟨w.heap.size + 1, 0, none⟩), .pointer (some ⟨w.heap.size + 1 + 1, 0, none⟩)], .int .i64 (x.1 : Int), .int .i64 (x.2 : Int), undef, undef, undef, undef, undef, undef, undef], defers := [] }) ?assign ?body ?done ?stop
    case assign =>
      intro l x W K hK
      gi_wp2
      exact hK
    case body =>
      rintro l pre ⟨a, b⟩ W ⟨hc, hf, hbw, hlt⟩ hpre _ hW2
      have hmem : (a, b) ∈ walkN N j := hpre.subset (by simp)
      obtain ⟨q1, q2, q3⟩ := walkP_in 1024 N j (by omega) _ hmem
      dsimp only at q1 q2 q3
      have hlen : pre.length ≤ 10 := by have := hpre.length_le; have := walkN_len N j (by omega); simp at *; omega
      have hcn := cntP_le pre
      have hsn := cntP_snoc pre (a, b)
      have h1 : 1 ≤ 3 - 1 - 1 := by omega
      have HP := Lib.hid hpre
      have HM := Lib.hid hmem
      have HS := Lib.hid hsn
      have HZ := Lib.hid hsz
      have HO1 := Lib.hid o1
      have HO2 := Lib.hid o2
      have HO3 := Lib.hid o3
      clear hpre hmem hsn hsz o1 o2 o3
      by_cases hz : 0 ≤ besideZ a b
      · gi_wp2_with (refine ⟨trivial, ?_⟩; gi_at_call 73; refine (CallsIn.inRound l (callsIn_wide.2 (beside_any a b _ q1 (by omega)))).mono ?_; rintro e w' ⟨rfl, rfl⟩)
        refine ⟨(Kept.refl _ _).setCell (by have := HZ.out; simp; omega) _, ?_, ?_, hbw.setCell (p := ⟨w.heap.size, 0, none⟩) (Nat.le_refl _) _, by simpa [World.setCell] using hlt⟩
        · rw [HS.out, if_pos hz, World.cell?_setCell_same' _ _ _ (by rw [hc]; rfl)]; simp
        · rw [World.frozen?_setCell]; exact hf
      · gi_wp2_with (refine ⟨trivial, ?_⟩; gi_at_call 73; refine (CallsIn.inRound l (callsIn_wide.2 (beside_any a b _ q1 (by omega)))).mono ?_; rintro e w' ⟨rfl, rfl⟩)
        exact ⟨Kept.refl _ _, by rw [HS.out, if_neg (by omega)]; exact hc, hf, hbw, hlt⟩
    case done =>
      rintro xs W rfl ⟨hc, hf, hbw, hlt⟩ hW2 hK
      gi_wp2
      refine ⟨by simp, .inl ⟨_, _, rfl, run_takeDeferred hK, ?_⟩⟩
      refine ⟨_, results_tmp rfl _ _ _, by rw [hd]; rfl, ?_⟩
      exact hbw.grown (grownBy_putObj' _ _ _) hbw.size (fun k e => by cases e; omega)
    case stop =>
      rintro c pre W _ h _ _
      exact h.elim
  · gi_wp2_with (first
      | (refine ⟨trivial, ?_⟩; gi_at_call 70; refine (callsIn_wide.2 (right_any n i _)).mono ?_; rintro e w' ⟨rfl, rfl⟩; simp only [hr]))
    have hd : depthZ n i = 0 := by unfold depthZ; rw [if_neg hr]
    refine ⟨_, results_tmp rfl _ _ _, by rw [hd]; rfl, (Below.refl _ w).alloc (Nat.le_refl _) _⟩

end Go.Proofs.YtnomekfemadpeaaDoor

/- What leads from a leaf to the root, in plain Lean. No condition. -/
namespace Go.Proofs.YtnomekfemadpeaaDoor
set_option linter.unusedVariables false

/-- What a row gives to a proof. -/
def stepP (row : List (List UInt8)) (i : Nat) : List (List UInt8) := if 0 ≤ besideZ row.length i then [row.getD (besideZ row.length i).toNat []] else []
def proofR : List (List (List UInt8)) → Nat → List (List UInt8)
  | [], _ => []
  | r :: rs, i => stepP r i ++ proofR rs (i / 2)
def proofL (l : List (List UInt8)) (i : Nat) : List (List UInt8) := proofR (rowsL l) i

theorem proofR_snoc (rs : List (List (List UInt8))) (x : List (List UInt8)) (i : Nat) : proofR (rs ++ [x]) i = proofR rs i ++ stepP x (i / 2 ^ rs.length) := by
  induction rs generalizing i with
  | nil => simp [proofR]
  | cons r rs ih =>
    simp only [List.cons_append, proofR, ih, List.append_assoc, List.length_cons]
    rw [Nat.div_div_eq_div_mul, Nat.pow_succ, Nat.mul_comm 2]
theorem stepP_len (row : List (List UInt8)) (i : Nat) : (stepP row i).length ≤ 1 := by unfold stepP; split <;> simp
theorem proofR_len (rs : List (List (List UInt8))) (i : Nat) : (proofR rs i).length ≤ rs.length := by
  induction rs generalizing i with
  | nil => simp [proofR]
  | cons r rs ih =>
    have := ih (i / 2)
    have := stepP_len r i
    simp only [proofR, List.length_append, List.length_cons]
    omega
theorem stepP_one (l : List (List UInt8)) (h : l.length ≤ 1) (i : Nat) (hi : i < l.length) : stepP l i = [] := by
  unfold stepP besideZ
  rw [if_neg]
  have : i = 0 := by omega
  subst this
  simp; omega
theorem proofL_step {l : List (List UInt8)} (h : 1 < l.length) (i : Nat) : proofL l i = stepP l i ++ proofL (aboveL l) (i / 2) := by
  unfold proofL
  rw [rowsL_step h]
  rfl
theorem proofL_end {l : List (List UInt8)} (h : l.length ≤ 1) (i : Nat) (hi : i < l.length) : proofL l i = [] := by
  unfold proofL
  rw [rowsL_end h]
  simp [proofR, stepP_one l h i hi]
theorem rowsP_len (f : Nat) (l : List (List UInt8)) (k : Nat) (h : l.length ≤ 2 ^ k) : (rowsP f l).length ≤ k + 1 := by
  induction f generalizing l k with
  | zero => simp [rowsP]
  | succ f ih =>
    simp only [rowsP]
    split
    · simp
    · cases k with
      | zero => simp at h; omega
      | succ k =>
        have := ih (aboveL l) k (by rw [aboveL_len]; rw [Nat.pow_succ] at h; omega)
        simp; omega
theorem rowsL_len (l : List (List UInt8)) (k : Nat) (h : l.length ≤ 2 ^ k) : (rowsL l).length ≤ k + 1 := rowsP_len _ _ _ h

/-- Where a leaf stands in the rows. -/
theorem rows_at (n : Nat) : ∀ (l : List (List UInt8)) (i : Nat), l.length ≤ n → i < l.length → Dig32 l → ∀ pre x, pre ++ [x] <+: rowsL l → i / 2 ^ pre.length < x.length ∧ x.length ≤ l.length ∧ Dig32 x := by
  induction n with
  | zero => intro l i h1 h2; omega
  | succ n ih =>
    intro l i h1 h2 h32 pre x hp
    by_cases h : 1 < l.length
    · rw [rowsL_step h] at hp
      cases pre with
      | nil =>
        obtain ⟨t, ht⟩ := hp
        simp at ht
        rw [ht.1]
        exact ⟨by simpa using h2, Nat.le_refl _, h32⟩
      | cons r pre =>
        obtain ⟨t, ht⟩ := hp
        simp only [List.cons_append, List.cons.injEq] at ht
        have := ih (aboveL l) (i / 2) (by rw [aboveL_len]; omega) (by rw [aboveL_len]; omega) (aboveL_32 l h32) pre x ⟨t, ht.2⟩
        rw [aboveL_len] at this
        simp only [List.length_cons]
        rw [Nat.pow_succ, Nat.mul_comm, ← Nat.div_div_eq_div_mul]
        exact ⟨this.1, by omega, this.2.2⟩
    · rw [rowsL_end (by omega)] at hp
      obtain ⟨t, ht⟩ := hp
      cases pre with
      | nil =>
        simp at ht
        rw [ht.1]
        exact ⟨by simpa using h2, Nat.le_refl _, h32⟩
      | cons r pre => simp at ht
theorem rows_32 {l : List (List UInt8)} (h : Dig32 l) : ∀ r ∈ rowsL l, Dig32 r := by
  unfold rowsL
  generalize l.length = f
  induction f generalizing l with
  | zero => intro r hr; simp only [rowsP, List.mem_singleton] at hr; rw [hr]; exact h
  | succ f ih =>
    intro r hr
    simp only [rowsP] at hr
    split at hr
    · simp only [List.mem_singleton] at hr; rw [hr]; exact h
    · rcases List.mem_cons.1 hr with rfl | hr
      · exact h
      · exact ih (aboveL_32 l h) r hr

/-- What merkle.Proof tells, with its error. -/
def proofE (l : List (List UInt8)) (i : Int) : List (List UInt8) × Int := if 0 ≤ i ∧ i < l.length ∧ l.length ≤ 1024 then (proofL l i.toNat, 0) else ([], 1)

end Go.Proofs.YtnomekfemadpeaaDoor

/- Regions that draw their order, within a round of a range over a function (or anywhere in the wide fence): the laws of a class of worlds, told of a fence; and a first operation that nobody but a late one waits for. No condition. -/
namespace Go.Proofs.YtnomekfemadpeaaDoor
open Go.RowKit
set_option linter.unusedVariables false
set_option linter.unusedSimpArgs false

/-- The wide fence, in a round or not. -/
def WF (ro : Option Nat) : Fence := { Fence.wide with round := ro }
theorem wF_none : WF none = Fence.wide := rfl
theorem wF_some (l : Nat) : WF (some l) = Fence.wide.inRound l := rfl

section
variable {ro : Option Nat} {m : Nat} {P : Program} {ops : Array Oper} {md : Region.Mode} {C : World → Prop}

theorem callsIn_wF {f : FuncId} {args : Array Value} {w : World} {R : Ending → World → Prop} (h : Calls P f args w R) : CallsIn (WF ro) m P f args w R :=
  (callsIn_wide (n := m)).2 h

theorem rowsIn_wF {row : String} {args : Array Value} {w : World} {R : Value → World → Prop} (h : Rows P row args w R) : RowsIn (WF ro) m P row args w R := fun c cs _ => by
  obtain ⟨v, w', r, s⟩ := h c cs
  exact ⟨v, w', r, (stepsIn_wide (P := P)).2 s⟩

/-- An operation's law, told of the fence. -/
theorem wpIn_of_wp {o : Oper} {a : Act} {w : World} {K : Act → World → Prop} {Q : Exit → Act → World → Prop} (hd : ∀ c, o.op ≠ .defer c) (h : o.wp P a w K Q) : o.wpIn (WF ro) m P a w K Q := by
  refine ⟨fun _ _ => trivial, ?_⟩
  rw [Oper.semAt_eq _ _ _ hd]
  unfold Oper.wp at h
  generalize (execOp a.eval o).run P w = r at *
  cases r with
  | ok x w' =>
    cases x <;> simp only [Oper.upon] at h <;> simp only [Oper.uponIn]
    case value => exact h
    case skip => exact h
    case defer => exact h
    case enter => exact ⟨(fun h => by simp [WF, Fence.wide] at h), callsIn_wF h⟩
    case row => exact ⟨(fun h => by simp [WF, Fence.wide] at h), rowsIn_wF h⟩
  | halt x w' => cases x <;> simp only [Oper.upon] at h <;> simp only [Oper.uponIn] <;> exact h

/-- .. at the head of a list of operations. -/
theorem wpListIn_of_wp {ops : Array Oper} {rest : List Oper} {o : Oper} {a : Act} {w : World} {Q : Exit → Act → World → Prop} (hgd : o.guard = none) (hd : ∀ c, o.op ≠ .defer c)
    (h : o.wp P a w (wpListIn (WF ro) m P ops Q rest) Q) : wpListIn (WF ro) m P ops Q (o :: rest) a w :=
  wpListIn_plain hgd fun K hK => wpIn_of_wp hd (Oper.wp_mono hK h)

def noDefer (ops : Array Oper) : Bool := ops.all fun o => match o.op with | .defer _ => false | _ => true
theorem noDefer_spec {i : Nat} {o : Oper} (h : noDefer ops = true) (hi : ops[i]? = some o) : ∀ c, o.op ≠ .defer c := by
  intro c hc
  have := Array.all_eq_true_iff_forall_mem.1 h o (Array.mem_of_getElem? hi)
  rw [hc] at this
  cases this

theorem wpOpIn_of_qOp {i : Nat} {a : Act} {K : Act → Prop} {K' : Act → World → Prop} {Q' : Exit → Act → World → Prop} {w : World} (hnd : noDefer ops = true) (hC : C w) (h : ∀ a w', C w' → K a → K' a w') (hh : qOp P ops C i K a) :
    wpOpIn (WF ro) m P ops Q' i K' a w := by
  unfold qOp at hh
  unfold wpOpIn
  split
  · rename_i ho; simp only [ho] at hh; exact h _ _ hC hh
  · rename_i o ho
    simp only [ho] at hh
    split
    · rename_i hw; simp only [hw, if_true] at hh; exact wpIn_of_wp (noDefer_spec hnd ho) (Oper.wp_of_quiet hC h hh)
    · rename_i hw; simp only [hw] at hh; exact ⟨fun _ _ => trivial, h _ _ hC hh⟩

/-- Any order of operations; behind each that D does not name the world is of the class. -/
def wpAnyS (ro : Option Nat) (m : Nat) (P : Program) (md : Region.Mode) (ops : Array Oper) (C : World → Prop) (D : Nat → Bool) (Q : Exit → Act → World → Prop) : Nat → Array Bool → Act → World → Prop
  | 0, listed, a, w => Region.ready md ops listed = [] ∧ Q .normal a w
  | fuel + 1, listed, a, w =>
    (Region.ready md ops listed = [] → Q .normal a w) ∧
    ∀ i ∈ Region.ready md ops listed, wpOpIn (WF ro) m P ops Q i (fun a' w' => (D i = false → C w') ∧ wpAnyS ro m P md ops C D Q fuel (listed.setIfInBounds i true) a' w') a w

variable {D : Nat → Bool} {Q : Exit → Act → World → Prop}

theorem yieldsIn_wpOpIn {i : Nat} {oi : Oper} {v : Value} {a : Act} {w : World} {K : Act → World → Prop} (hnd : noDefer ops = true) (hi : ops[i]? = some oi) (hy : YieldsIn P ops C oi v a) (hC : C w) (h : ∀ w', C w' → K (a.put oi.dst v) w') :
    wpOpIn (WF ro) m P ops Q i K a w :=
  wpOpIn_of_qOp (C := C) (K := fun a' => a' = a.put oi.dst v) hnd hC (fun a' w' hw' e => by rw [e]; exact h w' hw') (hy.qOp hi rfl)

/-- An operation that yields one value and leaves the world: it may be taken first. -/
def StillIn (P : Program) (ops : Array Oper) (C : World → Prop) (o : Oper) (v : Value) (a : Act) : Prop :=
  Region.wanted o (yielded ops a.tmps) = true ∧ ∀ w, C w → (execOp a.eval o).run P w = .ok (.value v) w

theorem StillIn.of_same {o : Oper} {v : Value} {a a' : Act} (hy : StillIn P ops C o v a) (he : execOp a'.eval o = execOp a.eval o)
    (hw : Region.wanted o (yielded ops a'.tmps) = Region.wanted o (yielded ops a.tmps)) : StillIn P ops C o v a' := by
  unfold StillIn at *
  rw [he, hw]
  exact hy

theorem StillIn.wpOpIn {i : Nat} {o : Oper} {v : Value} {a : Act} {w : World} {K : Act → World → Prop} (hnd : noDefer ops = true) (hi : ops[i]? = some o) (hy : StillIn P ops C o v a) (hC : C w) (h : K (a.put o.dst v) w) :
    wpOpIn (WF ro) m P ops Q i K a w := by
  unfold Go.wpOpIn
  simp only [hi, hy.1, if_true]
  refine wpIn_of_wp (noDefer_spec hnd hi) ?_
  unfold Oper.wp
  rw [hy.2 w hC]
  exact h

theorem wpOpIn_putS {j : Nat} {oi oj : Oper} {v : Value} (hnd : noDefer ops = true) (hj : ops[j]? = some oj) (hap : oi.apart ops oj = true)
    (hsi : ∀ cs b, oi.op ≠ .select cs b) (hsj : ∀ cs b, oj.op ≠ .select cs b)
    (hQ : ∀ c a w, Q (.panic c) (a.put oi.dst v) w → Q (.panic c) a w) {K : Act → World → Prop} {a : Act} {w : World}
    (hy : StillIn P ops C oi v a) (h : wpOpIn (WF ro) m P ops Q j K (a.put oi.dst v) w) :
    wpOpIn (WF ro) m P ops Q j (fun a' w' => StillIn P ops C oi v a' ∧ K (a'.put oi.dst v) w') a w := by
  obtain ⟨h1, h2, h3⟩ := Oper.apart_spec hap
  have keep : ∀ (a : Act), StillIn P ops C oi v a → ∀ u, StillIn P ops C oi v (a.put oj.dst u) := fun a hy u =>
    hy.of_same (execOp_put oi hsi a oj.dst u h3) (wanted_put oi a oj.dst u h3)
  have hdj := noDefer_spec hnd hj
  unfold wpOpIn at *
  simp only [hj] at *
  rw [wanted_put oj a oi.dst v h1, about_put oj w a oi.dst v h1] at h
  split
  · rename_i hw
    simp only [hw, if_true] at h
    unfold Oper.wpIn at *
    refine ⟨fun _ _ => trivial, ?_⟩
    have h := h.2
    rw [Oper.semAt_eq _ _ _ hdj, execOp_put oj hsj a oi.dst v h1] at h
    rw [Oper.semAt_eq _ _ _ hdj]
    generalize hr : (execOp a.eval oj).run P w = r at *
    cases r with
    | ok x w' =>
      cases x <;> simp only [Oper.uponIn] at h ⊢
      case value u => exact ⟨keep a hy u, by rw [← Act.put_comm a v u h2]; exact h⟩
      case skip => exact ⟨keep a hy _, by rw [← Act.put_comm a v undef h2]; exact h⟩
      case defer d => exact ⟨(hy.of_same rfl rfl : StillIn P ops C oi v { a with defers := d :: a.defers }).of_same (execOp_put oi hsi _ oj.dst _ h3) (wanted_put oi _ oj.dst _ h3), by rw [← Act.put_comm _ v undef h2, ← Act.put_defers]; exact h⟩
      case enter f args =>
        refine ⟨h.1, CallsIn.mono h.2 fun e w'' he => ?_⟩
        cases e with
        | returned u => exact ⟨keep a hy u, by rw [← Act.put_comm a v u h2]; exact he⟩
        | panicked c => exact hQ _ _ _ he
        | outgrown => exact he
      case row row args => exact ⟨h.1, RowsIn.mono h.2 fun u w'' he => ⟨keep a hy u, by rw [← Act.put_comm a v u h2]; exact he⟩⟩
      case round l f tmps assign body =>
        refine ⟨h.1, RoundIn.mono h.2 fun e w'' he => ?_⟩
        cases e with
        | returned u => exact ⟨keep a hy u, by rw [← Act.put_comm a v u h2]; exact he⟩
        | panicked c => exact hQ _ _ _ he
        | outgrown => exact he
    | halt x w' =>
      cases x <;> simp only [Oper.uponIn] at h ⊢
      case panic u => exact hQ _ _ _ h
  · rename_i hw
    simp only [hw] at h
    exact ⟨fun _ _ => trivial, keep a hy _, by rw [← Act.put_comm a v undef h2]; exact h.2⟩

theorem wpAnyS_any : ∀ (fuel : Nat) (listed : Array Bool) (a : Act) (w : World), wpAnyS ro m P md ops C D Q fuel listed a w → wpAnyIn (WF ro) m P md ops Q fuel listed a w := by
  intro fuel
  induction fuel with
  | zero => intro listed a w h; exact h
  | succ fuel ih => intro listed a w h; exact ⟨h.1, fun i hi => wpOpIn_mono (fun a' w' h' => ih _ a' w' h'.2) (h.2 i hi)⟩

/-- THE LAW: an operation that yields one value in each world of the class, and leaves it, may be taken first, if whatever can come ahead of it keeps to the class. -/
theorem wpAnyS_first {i : Nat} {oi : Oper} {v : Value} (hnd : noDefer ops = true) (hi : ops[i]? = some oi) (hsel : ∀ (j : Nat) (o : Oper) cs b, ops[j]? = some o → o.op ≠ .select cs b)
    (hQ : ∀ c a w, Q (.panic c) (a.put oi.dst v) w → Q (.panic c) a w) (hDi : ∀ j, D j = true → Region.waitsFor md ops j i = true) :
    ∀ (fuel : Nat) (listed : Array Bool) (a : Act) (w : World),
      (∀ j oj, ops[j]? = some oj → j ≠ i → listed.getD j true = false → (∀ e ∈ oj.after, Region.binds md e = true → e.on ≠ i) → oi.apart ops oj = true) →
      i ∈ Region.ready md ops listed → StillIn P ops C oi v a → C w →
      wpAnyS ro m P md ops C D Q fuel (listed.setIfInBounds i true) (a.put oi.dst v) w → wpAnyIn (WF ro) m P md ops Q (fuel + 1) listed a w := by
  intro fuel
  induction fuel with
  | zero =>
    intro listed a w _ hr hy hC H
    refine ⟨fun h => (by rw [h] at hr; cases hr), fun j hj => ?_⟩
    by_cases hji : j = i
    · subst hji; exact hy.wpOpIn hnd hi hC H
    · have := ready_mono hj hji
      rw [H.1] at this
      cases this
  | succ fuel ih =>
    intro listed a w hfree hr hy hC H
    refine ⟨fun h => (by rw [h] at hr; cases hr), fun j hj => ?_⟩
    by_cases hji : j = i
    · subst hji; exact hy.wpOpIn hnd hi hC (wpAnyS_any _ _ _ _ H)
    · have h1 := H.2 j (ready_mono hj hji)
      obtain ⟨hjun, oj, hoj, hall⟩ := mem_ready.1 hj
      have hnot : ∀ e ∈ oj.after, Region.binds md e = true → e.on ≠ i := fun e he hb heq => by
        have h1 := hall e he hb
        have h0 := (mem_ready.1 hr).1
        rw [heq] at h1
        rcases Nat.lt_or_ge i listed.size with h' | h'
        · simp [h'] at h0 h1; rw [h0] at h1; cases h1
        · simp [Array.getElem?_eq_none h'] at h1
      have hDj : D j = false := by
        cases hd : D j with
        | false => rfl
        | true =>
          obtain ⟨oj', hoj', e, he, hb, hon⟩ := Region.waitsFor_spec (hDi j hd)
          rw [hoj] at hoj'
          cases hoj'
          exact absurd hon (hnot e he hb)
      have h2 := wpOpIn_putS (C := C) hnd hoj (hfree j oj hoj hji hjun hnot) (fun cs b => hsel i oi cs b hi) (fun cs b => hsel j oj cs b hoj) hQ hy h1
      have hfree' : ∀ k ok, ops[k]? = some ok → k ≠ i → (listed.setIfInBounds j true).getD k true = false →
          (∀ e ∈ ok.after, Region.binds md e = true → e.on ≠ i) → oi.apart ops ok = true := fun k ok hk hki hun hno => by
        refine hfree k ok hk hki ?_ hno
        by_cases hjk : j = k
        · subst hjk; exact hjun
        · rw [getD_set_ne true hjk] at hun; exact hun
      refine wpOpIn_mono (fun a' w' h3 => ih (listed.setIfInBounds j true) a' w' hfree' (ready_mono hr (Ne.symm hji)) h3.1 (h3.2.1 hDj) ?_) h2
      rw [Array.setIfInBounds_comm _ _ hji]
      exact h3.2.2

theorem wpAnyS_of_headQ {n g : Nat} {L : Array Bool → Act → Prop} (hnd : noDefer ops = true) (hL : ∀ listed a w, C w → L listed a → wpAnyS ro m P md ops C D Q g listed a w) :
    ∀ (f : Nat) (listed : Array Bool) (a : Act) (w : World), C w → wpHeadQ P md ops C n L f listed a → wpAnyS ro m P md ops C D Q (f + g) listed a w := by
  intro f
  induction f with
  | zero => intro listed a w hw h; rw [Nat.zero_add]; exact hL _ _ _ hw h
  | succ f ih =>
    intro listed a w hw h
    rw [show f + 1 + g = (f + g) + 1 by omega]
    exact ⟨fun h0 => absurd h0 h.1, fun i hi => wpOpIn_of_qOp hnd hw (fun a' w' hw' h' => ⟨fun _ => hw', ih _ a' w' hw' h'⟩) (h.2 i hi).2⟩

/-- A list of operations; behind each that D does not name the world is of the class. -/
def wpListS (ro : Option Nat) (m : Nat) (P : Program) (ops : Array Oper) (C : World → Prop) (D : Nat → Bool) (Q : Exit → Act → World → Prop) : Nat → List Oper → Act → World → Prop
  | _, [], a, w => Q .normal a w
  | k, o :: rest, a, w =>
    if Region.wanted o (yielded ops a.tmps) then o.wpIn (WF ro) m P a w (fun a' w' => (D k = false → C w') ∧ wpListS ro m P ops C D Q (k + 1) rest a' w') Q
    else (D k = false → C w) ∧ wpListS ro m P ops C D Q (k + 1) rest (a.put o.dst undef) w

theorem wpAnyS_of_seq : ∀ (l : List Oper) (k : Nat) (listed : Array Bool) (a : Act) (w : World), (∀ j, l[j]? = ops[k + j]?) →
    Region.seqB md ops l.length k listed = true → wpListS ro m P ops C D Q k l a w → wpAnyS ro m P md ops C D Q l.length listed a w
  | [], _, _, _, _, _, hB, h => ⟨by simpa [Region.seqB] using hB, h⟩
  | o :: l, k, listed, a, w, hl, hB, h => by
    have h0 : ops[k]? = some o := by simpa using (hl 0).symm
    simp only [List.length_cons, Region.seqB, Bool.and_eq_true, decide_eq_true_eq] at hB
    refine ⟨fun h1 => (by rw [hB.1] at h1; cases h1), fun i hi => ?_⟩
    rw [hB.1] at hi
    have hik : i = k := by simpa using hi
    subst hik
    have hw : wpOpIn (WF ro) m P ops Q i (fun a' w' => (D i = false → C w') ∧ wpListS ro m P ops C D Q (i + 1) l a' w') a w := by
      unfold wpOpIn
      simp only [h0]
      unfold wpListS at h
      split
      · rename_i hq; rw [if_pos hq] at h; exact h
      · rename_i hq; rw [if_neg hq] at h; exact ⟨fun _ _ => trivial, h⟩
    exact wpOpIn_mono (fun a' w' h' => ⟨h'.1, wpAnyS_of_seq l (i + 1) _ a' w' (fun j => by have := hl (j + 1); simpa [Nat.add_assoc, Nat.add_comm 1 j] using this) hB.2 h'.2⟩) hw

/-- Operations that all wait: nothing is asked of the class. -/
theorem wpListS_of_list : ∀ (l : List Oper) (k : Nat) (a : Act) (w : World), (∀ j, k ≤ j → j < k + l.length → D j = true) → wpListIn (WF ro) m P ops Q l a w → wpListS ro m P ops C D Q k l a w
  | [], _, _, _, _, h => h
  | o :: l, k, a, w, hD, h => by
    have hk : D k = true := hD k (Nat.le_refl _) (by simp)
    unfold wpListS
    unfold wpListIn at h
    split
    · rename_i hq
      rw [if_pos hq] at h
      exact Oper.wpIn_mono (fun a' w' h' => ⟨(fun e => by rw [hk] at e; cases e), wpListS_of_list l (k + 1) a' w' (fun j h1 h2 => hD j (by omega) (by simp only [List.length_cons]; omega)) h'⟩) h
    · rename_i hq
      rw [if_neg hq] at h
      exact ⟨(fun e => by rw [hk] at e; cases e), wpListS_of_list l (k + 1) _ w (fun j h1 h2 => hD j (by omega) (by simp only [List.length_cons]; omega)) h.2⟩

/-- What is owed of the one operation behind the head, and of those behind it (a word, that no simp set opens). -/
def Late (ro : Option Nat) (m : Nat) (P : Program) (ops : Array Oper) (C : World → Prop) (Q : Exit → Act → World → Prop) (ob : Oper) (rest : List Oper) (a : Act) (w : World) : Prop :=
  ob.wp P a w (fun a'' w'' => C w'' ∧ wpListIn (WF ro) m P ops Q rest a'' w'') Q
theorem Late.mk {ro : Option Nat} {m : Nat} {P : Program} {ops : Array Oper} {C : World → Prop} {Q : Exit → Act → World → Prop} {ob : Oper} {rest : List Oper} {a : Act} {w : World} (h : ob.wp P a w (fun a'' w'' => C w'' ∧ wpListIn (WF ro) m P ops Q rest a'' w'') Q) : Late ro m P ops C Q ob rest a w := h

/-- THE REGION: its first operation only reads; the head's others (up to n) yield one value each in every world of the class; then one operation that keeps to the class; then operations that wait for all. -/
theorem wpIn_region_late {id : Nat} {a : Act} {w : World} {o ob : Oper} {l : List Oper} (n : Nat) (v : Value) (hm : P.follows .mixedOrders = true) (hgo : o.guard = none) (hob : (o :: l)[n]? = some ob) (hgb : ob.guard = none)
    (hT : (Region.noSelect (o :: l).toArray && noDefer (o :: l).toArray && Region.free .any (o :: l).toArray (Array.replicate (l.length + 1) false) 0 && (Region.ready .any (o :: l).toArray (Array.replicate (l.length + 1) false)).contains 0) = true)
    (hB : (decide (n < l.length + 1) && decide (1 ≤ n) && invB .any (o :: l).toArray n ((Array.replicate (l.length + 1) false).setIfInBounds 0 true) && sinkU .any (o :: l).toArray n ((Array.replicate (l.length + 1) false).setIfInBounds 0 true) && Region.chainB .any (o :: l).toArray n && Region.lexHead .any (o :: l).toArray (l.length + 1 - n) (n - 1) 1 ((Array.replicate (l.length + 1) false).setIfInBounds 0 true)) = true)
    (hD : ((List.range (l.length + 1)).all fun j => decide (j ≤ n) || Region.waitsFor .any (o :: l).toArray j 0) = true)
    (hC : C { w with drawn := w.drawn + 1 }) (hy : ∀ w, C w → (execOp a.eval o).run P w = .ok (.value v) w) (hQ : ∀ c a w, Q (.panic c) (a.put o.dst v) w → Q (.panic c) a w)
    (h : wpQuiet P (o :: l).toArray C (fun a' => ∀ w', C w' → Late ro m P (o :: l).toArray C Q ob ((o :: l).drop (n + 1)) a' w') (((o :: l).take n).drop 1) (a.put o.dst v)) :
    (Code.region id (o :: l).toArray true).wpIn (WF ro) m P Q a w := by
  simp only [Bool.and_eq_true, decide_eq_true_eq] at hT hB
  obtain ⟨⟨⟨hsel, hnd⟩, hfree⟩, hready⟩ := hT
  obtain ⟨⟨⟨⟨⟨hn, hm1⟩, hinv⟩, hs⟩, hc⟩, hlex⟩ := hB
  have hsz : (o :: l).toArray.size = l.length + 1 := by simp
  let D : Nat → Bool := fun j => decide (n < j) && decide (j < l.length + 1)
  have hDi : ∀ j, D j = true → Region.waitsFor .any (o :: l).toArray j 0 = true := fun j hj => by
    simp only [D, Bool.and_eq_true, decide_eq_true_eq] at hj
    have := List.all_eq_true.1 hD j (List.mem_range.2 hj.2)
    simpa [show ¬ j ≤ n by omega] using this
  refine wpIn_region_any hm ?_
  rw [hsz]
  refine wpAnyS_first (C := C) (D := D) (i := 0) (oi := o) (v := v) hnd (by simp) (Region.noSelect_spec hsel) hQ hDi l.length _ a _ (Region.free_spec (by simp) hfree) (by simpa using hready)
    ⟨by simp [Region.wanted, hgo], hy⟩ hC ?_
  have htl : (((o :: l).take n).drop 1).length = n - 1 := by simp; omega
  have hdl : ((o :: l).drop n).length = l.length + 1 - n := by simp
  have H := wpHeadQ_lexU (md := .any) (C := C) (g := l.length + 1 - n) (l0 := (Array.replicate (l.length + 1) false).setIfInBounds 0 true) hsel hs hc (by rw [hsz]; exact hn) (((o :: l).take n).drop 1) 1 _ _ (fun j hj => by
    have hj' : j < n - 1 := by rw [htl] at hj; exact hj
    rw [List.getElem?_drop, List.getElem?_take, if_pos (by omega)]
    simp) (by rw [htl]; omega) (invB_spec hinv) (fun _ h => h) (by rw [htl]; exact hlex) h
  have := wpAnyS_of_headQ (ro := ro) (m := m) (D := D) (Q := Q) (g := l.length + 1 - n) hnd (fun listed a' w' hw' hL => by
    have hdrop : (o :: l).drop n = ob :: (o :: l).drop (n + 1) := by
      rw [List.drop_eq_getElem_cons (by simpa using hn)]
      congr 1
      rw [List.getElem?_eq_getElem (by simpa using hn)] at hob
      exact Option.some.inj hob
    have hob0 : (o :: l).toArray[n]? = some ob := by simpa using hob
    have hlist : wpListS ro m P (o :: l).toArray C D Q n ((o :: l).drop n) a' w' := by
      rw [hdrop]
      unfold wpListS
      rw [if_pos (by simp [Region.wanted, hgb])]
      refine Oper.wpIn_mono (fun a'' w'' h'' => ⟨fun _ => h''.1, wpListS_of_list _ _ _ _ (fun j h1 h2 => ?_) h''.2⟩) (wpIn_of_wp (noDefer_spec hnd hob0) (hL.2 w' hw'))
      simp only [List.length_drop, List.length_cons] at h2
      simp only [D, Bool.and_eq_true, decide_eq_true_eq]
      omega
    have := wpAnyS_of_seq (md := .any) (Q := Q) ((o :: l).drop n) n listed a' w' (fun j => by simp [List.getElem?_drop]) (by rw [hdl]; exact hL.1) hlist
    rwa [hdl] at this) _ _ _ _ hC H
  rw [htl, show n - 1 + (l.length + 1 - n) = l.length by omega] at this
  exact this

/-- .. the head alone, then operations in one order. -/
theorem wpIn_region_class {id : Nat} {a : Act} {w : World} {l : List Oper} (n : Nat) (hm : P.follows .mixedOrders = true) (hB : (Region.lexTailB .any l.toArray n && noDefer l.toArray) = true) (hC : C { w with drawn := w.drawn + 1 })
    (h : wpQuiet P l.toArray C (fun a' => ∀ w', C w' → wpListIn (WF ro) m P l.toArray Q (l.drop n) a' w') (l.take n) a) : (Code.region id l.toArray true).wpIn (WF ro) m P Q a w := by
  simp only [Region.lexTailB, Bool.and_eq_true, decide_eq_true_eq] at hB
  obtain ⟨⟨⟨⟨⟨hsel, hn⟩, hs⟩, hc⟩, hlex⟩, hnd⟩ := hB
  have hn' : n < l.length := by simpa using hn
  have htl : (l.take n).length = n := by simp; omega
  have hdl : (l.drop n).length = l.toArray.size - n := by simp
  have H := wpHeadQ_lex (md := .any) (C := C) (g := l.toArray.size - n) hsel hs hc hn (l.take n) 0 (Array.replicate l.toArray.size false) a (fun j hj => by
    have hj' : j < n := by rw [htl] at hj; exact hj
    simp [hj']) (by simpa using htl)
    ⟨by simp, fun j oj _ hl => (by rw [getD_replicate_false] at hl; cases hl), fun t _ ht => getD_in (by simpa using ht) (getD_replicate_false _ _)⟩ (by rw [htl]; exact hlex) h
  refine wpIn_region_any hm ?_
  have := wpAnyS_of_headQ (ro := ro) (m := m) (D := fun _ => true) (Q := Q) (g := l.toArray.size - n) hnd (fun listed a' w' hw' hL => by
    have := wpAnyS_of_seq (ro := ro) (m := m) (C := C) (D := fun _ => true) (md := .any) (Q := Q) (l.drop n) n listed a' w' (fun j => by simp [List.getElem?_drop]) (by rw [hdl]; exact hL.1) (wpListS_of_list _ _ _ _ (fun _ _ _ => rfl) (hL.2 w' hw'))
    rwa [hdl] at this) _ _ _ _ hC H
  rw [htl, show n + (l.toArray.size - n) = l.toArray.size by omega] at this
  exact wpAnyS_any _ _ _ _ this

end
theorem wpListIn_round {l m : Nat} {P : Program} {ops : Array Oper} {rest : List Oper} {o : Oper} {a : Act} {w : World} {Q : Exit → Act → World → Prop} (hgd : o.guard = none) (hd : ∀ c, o.op ≠ .defer c)
    (h : o.wp P a w (wpListIn (Fence.wide.inRound l) m P ops Q rest) Q) : wpListIn (Fence.wide.inRound l) m P ops Q (o :: rest) a w := wpListIn_of_wp (ro := some l) hgd hd h

end Go.Proofs.YtnomekfemadpeaaDoor

/- Operations on hashes, told of one operation, and of a list in a round. No condition. -/
namespace Go.Proofs.YtnomekfemadpeaaDoor
open Go.RowKit
set_option linter.unusedVariables false
set_option maxRecDepth 100000
set_option linter.unusedSimpArgs false

theorem wp_load_at {w : World} {op : Oper} {a : Act} {K : Act → World → Prop} {Q : Exit → Act → World → Prop} {ty : TypeId} {x : Operand} {g off : Nat} {d : List UInt8} (ho : op.op = .load 25 x)
    (hx : a.eval x = .pointer (some ⟨g, off, none⟩)) (hd : DigAt w g off d) (h : K (a.put op.dst (.agg (d.map B8).toArray)) w) : op.wp Tryd.prog a w K Q := by
  have := run_load_dig w g off d hd.1 hd.2
  unfold Oper.wp execOp
  simp only [ho, hx, Instr.loadAt, Instr.sureAddr, Sem.run_bind, Sem.run_pure, Result.andThen_ok, this]
  exact h

theorem wp_buildDigs {w : World} {op : Oper} {a : Act} {K : Act → World → Prop} {Q : Exit → Act → World → Prop} (n : Nat) (parts : Array (Nat × Operand)) (ds : List (List UInt8)) (ho : op.op = .buildSlice 31 n parts)
    (hn : n = ds.length) (h0 : 0 < ds.length) (h1 : ds.length ≤ 1000) (h32 : Dig32 ds) (hp : (parts.map fun (i, x) => (i, a.eval x)).toList = ((ds.map fun d => Value.agg (d.map B8).toArray).zipIdx 0).map fun x => (x.2, x.1))
    (h : ∀ w', OwnD w' w.heap.size (.slice (some ⟨w.heap.size, 0, none⟩) n n) ds → Below w.heap.size w w' → w'.heap.size = w.heap.size + 1 → K (a.put op.dst (.slice (some ⟨w.heap.size, 0, none⟩) n n)) w') : op.wp Tryd.prog a w K Q := by
  obtain ⟨i, hi, hz, hsize, hby⟩ := info_parts infoDig
  subst hn
  refine wp_buildSlice 31 25 ds.length parts ho (flatD ds).toArray i _ Tryd.underlying31 hi hz (by rw [hsize]; omega) (by rw [hsize]; omega) ?_ (h _ (digs_laid w ds h32 (by unfold maxLen; omega)) ((Below.refl _ w).alloc (Nat.le_refl _) _) (by simp))
  rw [hp, hsize]
  rw [Great.fill_whole (by omega) _ _ (fun v hv => by
    obtain ⟨d, hd, rfl⟩ := List.mem_map.1 hv
    simp [Value.cells, h32 d hd]) (by simp)]
  congr 1
  simp [flatD, List.flatMap_map, Value.cells]

theorem wp_appD {w : World} {o : Oper} {a : Act} {K : Act → World → Prop} {Q : Exit → Act → World → Prop} (s x : Operand)
    (ho : o.op = .call { callee := .builtin .append, args := #[s, x], argTypes := #[31, 31] }) (base : Nat)
    (v : Value) (l : List (List UInt8)) (hs : a.eval s = v) (hown : OwnD w base v l) (u : Value) (m : List (List UInt8)) (hx : a.eval x = u) (hm : Digs w u m)
    (hlen : l.length + m.length ≤ 1099511627776) (hbase : base ≤ w.heap.size)
    (h : ∀ v' w', OwnD w' base v' (l ++ m) → w.grownBy w' v.ownBlock → (∀ k, v'.ownBlock = some k → v.ownBlock = some k ∨ w.heap.size ≤ k) → K (a.put o.dst v') w') : o.wp Tryd.prog a w K Q := by
  obtain ⟨v', w', hr, h2, h3, h4⟩ := run_appD base 31 o.type Tryd.underlying31 v l hown u m hm hlen hbase
  unfold Oper.wp execOp
  simp only [ho, resolve, invoke, builtin, Sem.run_bind, Sem.run_pure, Result.andThen_ok, List.map_toArray, List.map_cons, List.map_nil, hs, hx, hr]
  exact h v' w' h2 h3 h4

theorem OwnD.kept {w w' : World} {base : Nat} {v : Value} {l : List (List UInt8)} {U : Nat → Prop} (h : OwnD w base v l) (hk : ∀ k, v.ownBlock = some k → w'.heap[k]? = w.heap[k]?) : OwnD w' base v l := by
  refine ⟨h.1, h.2.1, ?_⟩
  rcases h.2.2 with h | ⟨g, cap, cur, hv, hb, hh, hr⟩
  · exact .inl h
  · exact .inr ⟨g, cap, cur, hv, hb, (hk g (by rw [hv]; rfl)).trans hh, hr⟩

theorem OwnD.grown {w w' : World} {base : Nat} {v : Value} {l : List (List UInt8)} {row : Option Nat} (h : OwnD w base v l) (hg : w.grownBy w' row) (hr : ∀ k, v.ownBlock = some k → some k ≠ row) : OwnD w' base v l :=
  h.kept (U := fun _ => True) (fun k hk => hg.block _ (h.lt k hk).2 (hr k hk))

end Go.Proofs.YtnomekfemadpeaaDoor

/- Laws of Go's '==' between two arrays. Condition: each place's parts are compared in the world as it is. -/
namespace Go.Proofs.YtnomekfemadpeaaDoor
open Go.RowKit
set_option linter.unusedVariables false

theorem run_forIn_all {P : Program} {w : World} (g : Nat → (ForInStep (Option Bool × Unit) → Sem (ForInStep (Option Bool × Unit))) → Sem (ForInStep (Option Bool × Unit))) (f : Nat → Bool) (l : List Nat)
    (h : ∀ i ∈ l, (g i pure).run P w = .ok (if f i then .yield (none, ()) else .done (some false, ())) w) :
    (forIn (m := Sem) l ((none, ()) : Option Bool × Unit) (fun i _ => g i pure)).run P w = .ok (if l.all f then (none, ()) else (some false, ())) w := by
  induction l with
  | nil => rfl
  | cons i l ih =>
    have hi := h i (by simp)
    simp only [List.forIn_cons, Sem.run_bind, hi, Result.andThen_ok]
    cases hfi : f i
    · simp [hfi, Sem.run_pure]
    · simp only [if_true, List.all_cons, hfi, Bool.true_and]
      exact ih (fun j hj => h j (by simp [hj]))

theorem run_equalIn_array {P : Program} {w : World} (d : Nat) (t e : TypeId) (n sz : Nat) (xs ys : Array Value) (f : Nat → Bool) (ht : P.underlying t = some (.array n e)) (hsz : (sizeOf e).run P w = .ok sz w)
    (hf : ∀ i, i < n → ∃ a b, (part e xs (i * sz)).run P w = .ok a w ∧ (part e ys (i * sz)).run P w = .ok b w ∧ (Op.equalIn d e a b).run P w = .ok (f i) w) :
    (Op.equalIn (d + 1) t (.agg xs) (.agg ys)).run P w = .ok ((List.range n).all f) w := by
  simp only [Op.equalIn, Sem.run_bind, run_underlying ht, Result.andThen_ok, hsz]
  simp only [Std.Legacy.Range.forIn_eq_forIn_range', Std.Legacy.Range.size, Nat.sub_zero, Nat.add_one_sub_one, Nat.div_one, ← List.range_eq_range']
  have := run_forIn_all (P := P) (w := w) (fun i _ => do
      let a ← part e xs (i * sz)
      let b ← part e ys (i * sz)
      let r ← Op.equalIn d e a b
      if (!r) = true then pure (ForInStep.done (some false, ())) else pure (ForInStep.yield (none, ()))) f (List.range n) (fun i hi => by
    obtain ⟨a, b, h1, h2, h3⟩ := hf i (List.mem_range.1 hi)
    simp only [Sem.run_bind, h1, h2, h3, Result.andThen_ok]
    cases f i <;> simp [Sem.run_pure])
  rw [this]
  simp only [Result.andThen_ok]
  cases (List.range n).all f <;> rfl

theorem all_eq_beq (xs ys : List UInt8) (h : xs.length = ys.length) : (List.range xs.length).all (fun i => xs.getD i 0 == ys.getD i 0) = decide (xs = ys) := by
  rw [Bool.eq_iff_iff]
  simp only [List.all_eq_true, List.mem_range, beq_iff_eq, decide_eq_true_eq]
  constructor
  · intro hh
    apply List.ext_getElem h
    intro i h1 h2
    have := hh i h1
    simpa [List.getD_eq_getElem?_getD, List.getElem?_eq_getElem h1, List.getElem?_eq_getElem h2] using this
  · rintro rfl i _; rfl

/-- Two arrays of bytes. -/
theorem run_equalIn_octs {P : Program} {w : World} (d : Nat) (t e : TypeId) (xs ys : List UInt8) (h : xs.length = ys.length) (ht : P.underlying t = some (.array xs.length e)) (he : P.underlying e = some (.int .u8)) (hsz : (sizeOf e).run P w = .ok 1 w) (hag : (isAgg e).run P w = .ok false w) :
    (Op.equalIn (d + 2) t (.agg (xs.map B8).toArray) (.agg (ys.map B8).toArray)).run P w = .ok (decide (xs = ys)) w := by
  rw [← all_eq_beq xs ys h]
  have hp : ∀ (l : List UInt8) i, i < l.length → (part e (l.map B8).toArray (i * 1)).run P w = .ok (B8 (l.getD i 0)) w := fun l i hi => by
    simp only [part, Sem.run_bind, hag, Result.andThen_ok, Bool.false_eq_true, if_false, Nat.mul_one]
    simp [List.getElem?_eq_getElem hi, Sem.run_pure, List.getD_eq_getElem?_getD]
  refine run_equalIn_array (d + 1) t e xs.length 1 _ _ _ ht hsz (fun i hi => ⟨_, _, hp xs i hi, hp ys i (by omega), ?_⟩)
  unfold B8
  rw [run_equalIn_int w d e .u8 .u8 _ _ he]
  congr 1
  rw [Bool.eq_iff_iff]
  simp only [beq_iff_eq]
  constructor
  · intro q; exact UInt8.toNat_inj.1 (by omega)
  · intro q; rw [q]

/-- Two hashes. -/
theorem run_eql_octs {P : Program} {w : World} (t e : TypeId) (xs ys : List UInt8) (h : xs.length = ys.length) (ht : P.underlying t = some (.array xs.length e)) (he : P.underlying e = some (.int .u8)) (hsz : (sizeOf e).run P w = .ok 1 w) (hag : (isAgg e).run P w = .ok false w) :
    (binOp .eql t (.agg (xs.map B8).toArray) (.agg (ys.map B8).toArray)).run P w = .ok (.bool (decide (xs = ys))) w := by
  rw [run_eql_struct, run_equalIn_octs 9998 t e xs ys h ht he hsz hag]; rfl
theorem run_neq_octs {P : Program} {w : World} (t e : TypeId) (xs ys : List UInt8) (h : xs.length = ys.length) (ht : P.underlying t = some (.array xs.length e)) (he : P.underlying e = some (.int .u8)) (hsz : (sizeOf e).run P w = .ok 1 w) (hag : (isAgg e).run P w = .ok false w) :
    (binOp .neq t (.agg (xs.map B8).toArray) (.agg (ys.map B8).toArray)).run P w = .ok (.bool (!decide (xs = ys))) w := by
  rw [run_neq_struct, run_equalIn_octs 9998 t e xs ys h ht he hsz hag]; rfl

end Go.Proofs.YtnomekfemadpeaaDoor

/- Hashes compared; a part of a slice of hashes. No condition. -/
namespace Go.Proofs.YtnomekfemadpeaaDoor
open Go.RowKit
set_option linter.unusedVariables false
set_option maxRecDepth 100000

theorem guard_dig : Tryd.prog.eqGuardType Tryd.prog.depth 25 = false := by kernel_rfl

/-- Two hashes compared. -/
theorem run_eql_dig (xs ys : List UInt8) (hx : xs.length = 32) (hy : ys.length = 32) (w : World) : (binOp .eql 25 (.agg (xs.map B8).toArray) (.agg (ys.map B8).toArray)).run Tryd.prog w = .ok (.bool (decide (xs = ys))) w :=
  run_eql_octs 25 5 xs ys (by omega) (by rw [hx]; exact Tryd.underlying25) Tryd.underlying5 (by kernel_rfl) (by kernel_rfl)
theorem run_neq_dig (xs ys : List UInt8) (hx : xs.length = 32) (hy : ys.length = 32) (w : World) : (binOp .neq 25 (.agg (xs.map B8).toArray) (.agg (ys.map B8).toArray)).run Tryd.prog w = .ok (.bool (!decide (xs = ys))) w :=
  run_neq_octs 25 5 xs ys (by omega) (by rw [hx]; exact Tryd.underlying25) Tryd.underlying5 (by kernel_rfl) (by kernel_rfl)
theorem run_eql_dig_same (xs : List UInt8) (hx : xs.length = 32) (w : World) : (binOp .eql 25 (.agg (xs.map B8).toArray) (.agg (xs.map B8).toArray)).run Tryd.prog w = .ok (.bool true) w := by
  rw [run_eql_dig xs xs hx hx]; simp

theorem Digs.part {w : World} {v : Value} {l : List (List UInt8)} (h : Digs w v l) (low high : Option Value) (lo hi : Nat) (h1 : lo ≤ hi) (h2 : hi ≤ l.length) (hlow : (low = Option.none ∧ lo = 0) ∨ ∃ k, low = some (.int k (lo : Int))) (hhigh : (high = Option.none ∧ hi = l.length) ∨ ∃ k, high = some (.int k (hi : Int))) :
    ∃ v', (∀ W : World, (Instr.slice 31 v low high Option.none).run Tryd.prog W = .ok v' W) ∧ Digs w v' ((l.drop lo).take (hi - lo)) ∧ v'.ownBlock = v.ownBlock := by
  obtain ⟨i, hi0, hz, hsize, hby⟩ := info_parts infoDig
  obtain ⟨v', hr, hrow, hob⟩ := Row.run_part h.2 Tryd.underlying31 hi0 hsize low high lo hi h1 h2 hlow hhigh
  refine ⟨v', hr, ⟨fun d hd => h.1 d (List.mem_of_mem_drop (List.mem_of_mem_take hd)), ?_⟩, hob⟩
  have e : ((l.drop lo).take (hi - lo)).length = hi - lo := by simp; omega
  have e2 : flatD ((l.drop lo).take (hi - lo)) = ((flatD l).drop (lo * 32)).take ((hi - lo) * 32) := by
    rw [flatD_take (fun d hd => h.1 d (List.mem_of_mem_drop hd)), flatD_drop h.1]
  rw [e, e2]
  exact hrow

end Go.Proofs.YtnomekfemadpeaaDoor

/- The walk of the document's answer's Same at slices of hashes. No condition. -/
namespace Go.Proofs.YtnomekfemadpeaaDoor
open Go.RowKit
set_option linter.unusedVariables false
set_option linter.unusedSimpArgs false

theorem take_snoc_d {l : List (List UInt8)} {k : Nat} (h : k < l.length) : l.take (k + 1) = l.take k ++ [l.getD k []] := by
  rw [List.take_succ_eq_append_getElem h]
  simp [List.getD, List.getElem?_eq_getElem h]

def SameI (l m : List (List UInt8)) (w : World) (iv : Value) (wr : World) : Prop := ∃ k : Nat, k ≤ l.length ∧ iv = .int .i64 (k : Int) ∧ l.take k = m.take k ∧ Below w.heap.size w wr

set_option maxRecDepth 100000 in
set_option maxHeartbeats 1600000 in
theorem Same_any (v u : Value) (l m : List (List UInt8)) (w : World) (hl : Digs w v l) (hm : Digs w u m) :
    Calls Tryd.prog 15 #[v, u] w fun e w' => e = .returned (.bool (decide (l = m))) ∧ Below w.heap.size w w' := by
  have hle := hl.le
  have hme := hm.le
  unfold maxLen at hle hme
  obtain ⟨va, vc, hv⟩ := hl.len
  subst hv
  obtain ⟨ua, uc, hv⟩ := hm.len
  subst hv
  have hgd := guard_dig
  by_cases hlen : l.length = m.length
  · have t1 : ((l.length : Int) != (m.length : Int)) = false := by simp; omega
    have HLM := Lib.hid hlen
    go_enter Tryd.func15, Tryd.ntmps15
    clear hlen
    go_wp2
    go_loopw [5] (SameI l m w) (fun iv _ => l.length - (intOf iv).toNat)
    case atStart => exact ⟨0, by omega, rfl, by simp, Below.refl _ _⟩
    case round =>
      obtain ⟨k, hk, rfl, heq, hb⟩ := hrel
      have hl' := hl.of_new hb
      have hm' := hm.of_new hb
      have HQ := Lib.hid heq
      clear heq hl hm
      by_cases hlt : k < l.length
      · have t2 : (k : Int) < (l.length : Int) := by omega
        have t3 : (k : Int) < (m.length : Int) := by have := HLM.out; omega
        obtain ⟨b, off, c, hv⟩ := hl'.shape (by omega)
        obtain ⟨rfl, rfl⟩ : va = some ⟨b, off, none⟩ ∧ vc = c := by cases hv; exact ⟨rfl, rfl⟩
        clear hv
        obtain ⟨b2, off2, c2, hv⟩ := hm'.shape (by omega)
        obtain ⟨rfl, rfl⟩ : ua = some ⟨b2, off2, none⟩ ∧ uc = c2 := by cases hv; exact ⟨rfl, rfl⟩
        clear hv
        have h1 := hl'.digAt hlt
        have h2 := hm'.digAt (show k < m.length by omega)
        have hs1 := take_snoc_d hlt
        have hs2 := take_snoc_d (show k < m.length by omega)
        have hg1 : l = m → l.getD k [] = m.getD k [] := fun e => by rw [e]
        have H1 := Lib.hid hs1
        have H2 := Lib.hid hs2
        have H3 := Lib.hid hg1
        have hneq := run_neq_dig (l.getD k []) (m.getD k []) h1.1 h2.1
        clear hs1 hs2 hg1
        generalize l.getD k [] = d1 at *
        generalize m.getD k [] = d2 at *
        go_upto_region 6 with (fail)
        refine wp_region_grew (by kernel_rfl) (by kernel_rfl) ?_
        repeat (first
          | (go_big_quiet_want; (with_reducible apply quiet_load_at (ty := 25) (x := .tmp _)); rfl; rfl; assumption; go_simp; go_big_quiet_on)
          | (go_big_quiet_want; apply quiet_val; (intro w' hw'; go_simp; first | done | rfl); go_simp; go_big_quiet_on)
          | (go_big_quiet_skip))
        refine wpQuiet_nil ?_
        intro w5 hw5
        have hB5 := below_next' hb hw5 (by have := hb.size; omega)
        clear hneq
        by_cases hd : d1 = d2
        · have t4 : decide (d1 = d2) = true := by simp [hd]
          have HD := Lib.hid hd
          clear hd
          simp only [t4, Bool.not_true]
          go_wp2
          exact ⟨⟨k + 1, by omega, by go_num, by rw [H1.out, H2.out, HQ.out, HD.out], hB5⟩, by simp [intOf]; omega⟩
        · have t4 : decide (d1 = d2) = false := by simp [hd]
          have HD := Lib.hid hd
          clear hd
          simp only [t4, Bool.not_false]
          go_wp2
          go_ret
          exact ⟨ret_bool (by simp; exact fun e => HD.out (H3.out e)), hB5⟩
      · obtain rfl : k = l.length := by omega
        have t2 : ¬ (l.length : Int) < (l.length : Int) := by omega
        have he : l = m := by
          have := HQ.out
          rwa [List.take_of_length_le (Nat.le_refl _), List.take_of_length_le (by have := HLM.out; omega)] at this
        have HE := Lib.hid he
        clear he
        go_wp2
        go_ret
        exact ⟨ret_bool (by simp; exact HE.out), hb⟩
  · have t1 : ((l.length : Int) != (m.length : Int)) = true := by simp; omega
    have hne : l ≠ m := fun e => hlen (by rw [e])
    have HN := Lib.hid hne
    clear hne hlen
    go_enter Tryd.func15, Tryd.ntmps15
    go_wp2
    go_ret
    exact ⟨ret_bool (by simp; exact HN.out), Below.refl _ _⟩

end Go.Proofs.YtnomekfemadpeaaDoor

/- Hashes compared; a part of a slice of hashes; two hashes in two blocks, or in one: what the walks of chapter 04 and above use. No condition. -/
namespace Go.Proofs.YtnomekfemadpeaaDoor
open Go.RowKit
set_option linter.unusedVariables false
set_option maxRecDepth 100000
set_option linter.unusedSimpArgs false

/-- What Proof hands back. -/
def ProofPost (w : World) (p : List (List UInt8) × Int) (e : Ending) (w' : World) : Prop :=
  ∃ v, e = .returned (.tuple #[v, .int .i64 p.2]) ∧ OwnD w' w.heap.size v p.1 ∧ Below w.heap.size w w'

theorem boxes_two (w : World) (x y : List UInt8) (hx : x.length = 32) (hy : y.length = 32) : DigAt ((w.alloc (.cells (x.map B8).toArray 25)).alloc (.cells (y.map B8).toArray 25)) w.heap.size 0 x ∧ DigAt ((w.alloc (.cells (x.map B8).toArray 25)).alloc (.cells (y.map B8).toArray 25)) (w.heap.size + 1) 0 y ∧ Below w.heap.size w ((w.alloc (.cells (x.map B8).toArray 25)).alloc (.cells (y.map B8).toArray 25)) := by
  refine ⟨Octs.digAt (t := 25) ((Below.heap_alloc _ _ _ (by simp)).trans (heap_alloc_new w _)) hx, Octs.digAt (t := 25) ?_ hy, ((Below.refl _ w).alloc (Nat.le_refl _) _).alloc (by simp) _⟩
  have := heap_alloc_new (w.alloc (.cells (x.map B8).toArray 25)) (.cells (y.map B8).toArray 25)
  rwa [World.size_alloc] at this

theorem pair_at {w : World} {g t : Nat} {x y : List UInt8} (h : w.heap[g]? = some (.cells ((x ++ y).map B8).toArray t (0, 0))) (hx : x.length = 32) (hy : y.length = 32) : DigAt w g 0 x ∧ DigAt w g 32 y := by
  refine ⟨⟨hx, fun j hj => ?_⟩, hy, fun j hj => ?_⟩
  · simp only [World.cell?, h, Nat.zero_add]
    simp [List.getElem?_append_left (show j < (x.map B8).length by simp [hx, hj])]
  · simp only [World.cell?, h]
    simp [List.getElem?_append_right (show (x.map B8).length ≤ 32 + j by simp [hx]), hx]


theorem rootL_len {l : List (List UInt8)} (h : Dig32 l) : (rootL l).length = 32 := by
  obtain ⟨n, hn⟩ : ∃ n, l.length ≤ n := ⟨_, Nat.le_refl _⟩
  induction n generalizing l with
  | zero => rw [rootL_none (by omega)]; exact noneL_len
  | succ n ih =>
    by_cases h0 : l.length = 0
    · rw [rootL_none h0]; exact noneL_len
    by_cases h1 : l.length = 1
    · rw [rootL_one h1]; exact h.getD (by omega)
    · rw [rootL_step (by omega)]
      exact ih (aboveL_32 l h) (by rw [aboveL_len]; omega)


end Go.Proofs.YtnomekfemadpeaaDoor

/- The walks of slices.AppendSeq and slices.Collect at a sequence of hashes. Condition: the iterator's contract. -/
namespace Go.Proofs.YtnomekfemadpeaaDoor
open Go.RowKit Go.Shelf
attribute [local go_sem] Oper.semAt_some
set_option linter.unusedVariables false
set_option linter.unusedSimpArgs false
set_option maxRecDepth 100000

theorem wp_store_fresh {w : World} {A : Array Value} {op : Oper} {a : Act} {K : Act → World → Prop} {Q : Exit → Act → World → Prop} (x y : Operand) (d : List UInt8) (ho : op.op = .store 25 x y)
    (hx : a.eval x = .pointer (some ⟨w.heap.size, 0, none⟩)) (hy : a.eval y = .agg (d.map B8).toArray) (hA : A.size = 32) (hd : d.length = 32)
    (h : ∀ w', DigAt w' w.heap.size 0 d → Below w.heap.size w w' → w.heap.size < w'.heap.size → K (a.put op.dst undef) w') : op.wp Tryd.prog a (w.alloc (.cells A 25)) K Q := by
  have hrun := run_storeVar_row (P := Tryd.prog) (w.alloc (.cells A 25)) w.heap.size 25 25 A (d.map B8).toArray (heap_alloc_new w _) (by rw [info_dig]; simp [hd]) (by simp [hA, hd]) (octs_one d)
  have ho' : Octs ((w.alloc (.cells A 25)).setRow w.heap.size (d.map B8).toArray) w.heap.size 25 d := setRow_heap _ _ _ _ _ _ (heap_alloc_new w _)
  unfold Oper.wp execOp
  simp only [ho, hx, hy, Instr.storeAt, Instr.sureAddr, Sem.run_bind, Sem.run_pure, Result.andThen_ok, hrun]
  exact h _ (ho'.digAt hd) (((Below.refl _ w).alloc (Nat.le_refl _) _).trans (below_setRow' _ _ _ (Nat.le_refl _))) (by simp [World.setRow])

abbrev encD (x : List UInt8) : Array Value := #[.agg (x.map B8).toArray]

/-- What holds ahead of each round of AppendSeq. -/
def CollI (w : World) (n0 : Nat) (G : Nat → Prop) (pre : List (List UInt8)) (W : World) : Prop :=
  ∃ ov, One W w.heap.size ov 31 ∧ OwnD W (w.heap.size + 3) ov pre ∧ (∀ k, ov.ownBlock = some k → ¬ G k) ∧ Below n0 w W ∧ w.heap.size + 1 ≤ W.heap.size
/-- A round's variable: a hash in a block of its own. -/
def CollG (w : World) (tm : Value → Value → Array Value) (x : List UInt8) (a : Act) (W : World) : Prop :=
  ∃ g, w.heap.size + 3 ≤ g ∧ DigAt W g 0 x ∧ g < W.heap.size ∧ a = { tmps := tm (.pointer (some ⟨g, 0, none⟩)) (.agg (x.map B8).toArray), defers := [] }

set_option maxHeartbeats 1600000 in
theorem AppendSeqD_any (gf : Nat) (lb : Array Value) (L : List (List UInt8)) (n0 : Nat) (O : Nat → Prop) (w : World) (h32 : Dig32 L) (hL : L.length ≤ 1048576) (hn0 : n0 ≤ w.heap.size) (hO : ∀ k, O k → n0 ≤ k ∧ k < w.heap.size)
    (eg : ∀ args w, (callFunc gf args).run Tryd.prog w = .ok (.enter gf args) w)
    (hseq : ∀ W1, Below w.heap.size w W1 → w.heap.size ≤ W1.heap.size → SeqT Fence.wide 4 Tryd.prog gf lb encD (fun pre x _ => pre ++ [x] <+: L) (fun xs => xs = L) O n0 L.length W1) :
    Calls Tryd.prog 67 #[.slice none 0 0, .func (.func gf) #[] lb] w fun e w' => ∃ v, e = .returned v ∧ OwnD w' w.heap.size v L ∧ Below n0 w w' := by
  refine (callsIn_wide (n := 5)).1 ?_
  refine callsIn_of_wp_marks Tryd.func67 rfl trivial ?_ rfl
  simp only [Tryd.ntmps67, List.size_toArray, List.length_cons, List.length_nil, Nat.reduceAdd, Nat.reduceSub, Array.replicate_succ, Array.replicate_zero, List.push_toArray, List.append_toArray, List.nil_append, List.cons_append]
  gi_wp2
  generalize hW0 : w.alloc _ = W0
  obtain ⟨hsz, hB0, o1⟩ : W0.heap.size = w.heap.size + 1 ∧ Below w.heap.size w W0 ∧ One W0 w.heap.size (.slice none 0 0) 31 := by
    subst hW0
    exact ⟨by simp, (Below.refl _ w).alloc (Nat.le_refl _) _, heap_alloc_new _ _⟩
  clear hW0
  refine wpIn_rangeFunc_total (F := Fence.wide) (n := 5) rfl (by omega) (gf := gf) (lb := lb) rfl trivial eg (encs := encD) (It := fun pre x _ => pre ++ [x] <+: L) (S := fun xs => xs = L) (O := O) (n0 := n0) (N := L.length) (by omega) (fun k h => by have := (hO k h).2; omega)
    (fun W1 hb1 hs1 => hseq W1 (hB0.trans (hb1.mono (by omega))) (by omega)) (fun _ => rfl)
    (CollI w n0)
    (fun G s A B hG hs hk => by
      obtain ⟨ov, a1, a2, a3, a4, a5⟩ := hs
      refine ⟨ov, a1.of_block (hk.block _ a1.lt ⟨fun h => ?_, by omega⟩), a2.kept (U := fun _ => True) (fun k hk2 => hk.block _ (a2.lt k hk2).2 ⟨a3 k hk2, ?_⟩), a3, hk.to_below a4 (by omega) (fun k hk2 => ⟨fun h => ?_, by omega⟩), Nat.le_trans a5 hk.size⟩
      · rcases hG _ h with h | h
        · omega
        · have := (hO _ h).2; omega
      · have := (a2.lt k hk2).1; omega
      · rcases hG _ h with h | h
        · omega
        · have := (hO _ h).1; omega)
    (fun _ _ _ _ h _ => h)
    (fun G W' hG hb => ⟨.slice none 0 0, o1.of_block (hb.block _ (by omega)), OwnD.nil _ _, (fun k h => by cases h), (hB0.trans (hb.mono (by omega))).mono hn0, by have := hb.size; omega⟩)
    (CollG w fun p y => #[.slice none 0 0, .func (.func gf) #[] lb, .pointer (some ⟨w.heap.size, 0, none⟩), undef, .slice none 0 0, p, .func (.func gf) #[] lb, y, undef, undef, undef, undef, undef])
    (fun x a A B hg hk => by
      obtain ⟨g, h1, h2, h3, h4⟩ := hg
      exact ⟨g, h1, h2.of_block (hk.block g h3 (by omega)), Nat.lt_of_lt_of_le h3 hk.size, h4⟩)
    ?assign ?body ?done
  case assign =>
    intro l pre x W K hit hs hK
    have hx : x.length = 32 := h32 x (hit.subset (by simp))
    gi_wp2_with ((with_reducible refine wpListIn_round (o := ⟨none, Op.store 25 _ _, _, _, _, _⟩) rfl ?_ ?_); (intro c hc; cases hc); refine wp_store_fresh (.tmp 5) (.tmp 7) x rfl rfl rfl rfl hx ?_; intro w2 hd2 hb2 hl2)
    exact hK _ _ hb2 ⟨W.heap.size, by omega, hd2, hl2, rfl⟩
  case body =>
    rintro l G pre x a' W hG hGl ⟨ov, q1, q2, q3, q4, q5⟩ hpre ⟨g, g1, g2, g3, rfl⟩ hlen hW2
    have hx : x.length = 32 := h32 x (hpre.subset (by simp))
    have hx32 : Dig32 [x] := fun d hd => by simp at hd; rw [hd]; exact hx
    obtain ⟨oa, oc, hv⟩ := q2.digs.len
    subst hv
    have qc := q1.cell
    have qf := q1.free
    have hGw : ¬ G w.heap.size := fun h => by
      rcases hG _ h with h | h
      · omega
      · have := (hO _ h).2; omega
    have HQ2 := Lib.hid q2
    have HG2 := Lib.hid g2
    gi_wp2_with (first
      | ((with_reducible refine wpListIn_round (o := ⟨some 9, _, _, _, _, _⟩) rfl ?_ ?_); (intro c hc; cases hc); refine wp_load_at (ty := 25) (x := .tmp 5) rfl rfl HG2.out ?_)
      | ((with_reducible refine wpListIn_round (o := ⟨some 10, _, _, _, _, _⟩) rfl ?_ ?_); (intro c hc; cases hc); refine wp_buildDigs 1 #[(0, .tmp 9)] [x] rfl rfl (by simp) (by simp) hx32 (by simp only [List.map_toArray, List.map_cons, List.map_nil]; rfl) ?_; intro w2 ho2 hb2 hs2; have HO2 := Lib.hid ho2.digs; have HB2 := Lib.hid hb2; have HQ3 := Lib.hid (q2.kept (U := fun _ => True) (w' := w2) (fun k hk2 => hb2.block _ (q2.lt k hk2).2)); have qc2 := (q1.of_new hb2).cell; have qf2 := (q1.of_new hb2).free; clear ho2 hb2)
      | ((with_reducible refine wpListIn_round (o := ⟨some 11, _, _, _, _, _⟩) rfl ?_ ?_); (intro c hc; cases hc); refine wp_appD (.tmp 8) (.tmp 10) rfl (w.heap.size + 3) _ pre rfl HQ3.out _ [x] rfl HO2.out (by simp; omega) (by omega) ?_; intro v3 w3 ho3 hg3 hu3; obtain ⟨va, vc, hv3⟩ := ho3.digs.len; subst hv3; have q13 := (q1.of_new HB2.out).grown hg3 (fun e => by have := (HQ3.out.lt _ e.symm).1; omega); have qc3 := q13.cell; have qf3 := q13.free))
    have hwne : ∀ r, (Value.slice oa pre.length oc).ownBlock = some r → w.heap.size + 3 ≤ r := fun r e => (q2.lt r e).1
    have ho4 : OwnD (w3.setCell ⟨w.heap.size, 0, none⟩ (.slice va (pre.length + 1) vc)) (w.heap.size + 3) (.slice va (pre.length + 1) vc) (pre ++ [x]) := by
      rw [List.length_append, List.length_singleton] at ho3
      exact ho3.kept (U := fun _ => True) (fun k hk2 => Below.heap_setCell _ _ _ _ (by have := (ho3.lt k hk2).1; show k ≠ w.heap.size; omega))
    refine ⟨(((Kept.refl _ W).below HB2.out).grown hg3 (fun r e => ?_)).setCell (fun h => ?_) _, _, q13.set _, ho4, fun k hk2 hGk => ?_, ?_, ?_⟩
    · rintro (h | h | h | h)
      · exact q3 r e h
      · have := hwne r e; omega
      · have := hwne r e; omega
      · have := hwne r e; omega
    · rcases h with h | h | h | h
      · exact hGw h
      · dsimp only at h; omega
      · dsimp only at h; omega
      · dsimp only at h; omega
    · rcases hu3 k (by rw [List.length_append] at *; exact hk2) with h | h
      · exact q3 k h hGk
      · have := hGl k hGk; omega
    · have hA : Below n0 w w2 := q4.trans (HB2.out.mono (by omega))
      exact (hA.grown hg3 (by omega) (fun r e => by have := hwne r e; omega)).setCell (by show n0 ≤ w.heap.size; omega) _
    · have := hg3.size
      simp only [World.size_setCell]; omega
  case done =>
    rintro G xs W rfl ⟨ov, q1, q2, q3, q4, q5⟩ hW2 hD
    obtain ⟨oa, oc, hv⟩ := q2.digs.len
    subst hv
    have qc := q1.cell
    have qf := q1.free
    gi_wp2
    refine ⟨by simp, .inl ⟨_, _, rfl, run_takeDeferred hD, ?_⟩⟩
    refine ⟨_, results_tmp rfl _ _ _, ?_⟩
    have ho := q2.kept (U := fun _ => True) (w' := W.putObj W0.heap.size (.deferred none)) (fun k hk2 => World.putObj_heap_other (by have := (q2.lt k hk2).1; omega))
    exact ⟨_, rfl, ⟨ho.1, ho.2.1, ho.2.2.imp id fun ⟨g, cap, cur, h1, h2, h3⟩ => ⟨g, cap, cur, h1, by omega, h3⟩⟩, q4.grown (grownBy_putObj' _ _ _) (by omega) (fun k e => by cases e; omega)⟩

set_option maxHeartbeats 800000 in
theorem CollectD_any (gf : Nat) (lb : Array Value) (L : List (List UInt8)) (n0 : Nat) (O : Nat → Prop) (w : World) (h32 : Dig32 L) (hL : L.length ≤ 1048576) (hn0 : n0 ≤ w.heap.size) (hO : ∀ k, O k → n0 ≤ k ∧ k < w.heap.size)
    (eg : ∀ args w, (callFunc gf args).run Tryd.prog w = .ok (.enter gf args) w)
    (hseq : ∀ W1, Below w.heap.size w W1 → w.heap.size ≤ W1.heap.size → SeqT Fence.wide 4 Tryd.prog gf lb encD (fun pre x _ => pre ++ [x] <+: L) (fun xs => xs = L) O n0 L.length W1) :
    Calls Tryd.prog 42 #[.func (.func gf) #[] lb] w fun e w' => ∃ v, e = .returned v ∧ OwnD w' w.heap.size v L ∧ Below n0 w w' := by
  go_enter Tryd.func42, Tryd.ntmps42
  go_wp2_with fail
  refine (AppendSeqD_any gf lb L n0 O w h32 hL hn0 hO eg hseq).mono ?_
  rintro e w2 ⟨v, rfl, ho, hb⟩
  go_wp2
  go_ret
  exact ⟨v, rfl, ho, hb⟩

end Go.Proofs.YtnomekfemadpeaaDoor

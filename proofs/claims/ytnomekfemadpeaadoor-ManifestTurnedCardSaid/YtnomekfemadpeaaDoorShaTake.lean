/- The walk of digest's take: the state behind a chunk. Conditions: 64 bytes or more; the table of constants as the program lays it. -/
import Derived.Test.YtnomekfemadpeaaDoorShaSpread
namespace Go.Proofs.YtnomekfemadpeaaDoor
open Go.RowKit
set_option linter.unusedVariables false

/-- The table of constants holds what the program lays there. -/
def Consts (w : World) : Prop := ∀ j, j < 64 → w.cell? ⟨0, j, none⟩ = some (W32 (shaK.getD j 0))

theorem Consts.lt {w : World} (h : Consts w) : 0 < w.heap.size := World.block_lt_of_cell? w _ (h 0 (by decide))
theorem Consts.of_new {w w' : World} (h : Consts w) (hb : Below w.heap.size w w') : Consts w' := fun j hj => (hb.cell (p := ⟨0, j, none⟩) h.lt).trans (h j hj)

theorem same_quiet {P : Program} {f : FuncId} {args : Array Value} {w : World} {n : Nat} {v : Value} (h : Calls P f args (w.drewN n) fun e w' => e = .returned v ∧ w.drewN n = w') :
    Calls P f args (w.drewN n) fun e w'' => e = .returned v ∧ ∃ m, w'' = w.drewN m := h.mono fun _ _ ⟨he, hm⟩ => ⟨he, n, hm.symm⟩

def St.agg (s : St) : Value := .agg #[W32 s.a, W32 s.b, W32 s.c, W32 s.d, W32 s.e, W32 s.f, W32 s.g, W32 s.h]

theorem index_words (ws : List UInt32) (h : ws.length = 64) (j : Nat) (hj : j < 64) (W : World) : (Instr.index 119 (.agg (ws.map W32).toArray) (.int .i64 (j : Int))).run Tryd.prog W = .ok (.int .u32 (w32 (ws.getD j 0))) W := by
  have hp : j < ws.length := by omega
  have h1 : (sizeOf 88).run Tryd.prog W = .ok 1 W := by kernel_rfl
  have hx : ((ws.map W32).toArray)[j]? = some (.int .u32 (w32 (ws.getD j 0))) := by
    simp [List.getElem?_eq_getElem hp, List.getD_eq_getElem?_getD, W32]
  have h2 : (part 88 (ws.map W32).toArray j).run Tryd.prog W = .ok (.int .u32 (w32 (ws.getD j 0))) W := run_part_plain W (by kernel_rfl) hx
  have h3 : (j : Int) < 64 := by omega
  simp only [Instr.index, Sem.run_bind, run_underlying Tryd.underlying119, asIntOf, Sem.run_pure, Result.andThen_ok]
  rw [if_pos ⟨by omega, h3⟩]
  simp only [Sem.run_bind, h1, Result.andThen_ok, Int.toNat_natCast, Nat.mul_one, h2]

theorem box8 (w : World) (t : Nat) (xs ys : List UInt32) (A B : Array Value) (n : Nat) (hA : A = (xs.map W32).toArray) (hB : B = (ys.map W32).toArray) :
    Words (((w.alloc (.cells A t)).alloc (.cells B t)).drewN n) w.heap.size t xs ∧ Words (((w.alloc (.cells A t)).alloc (.cells B t)).drewN n) (w.heap.size + 1) t ys ∧ Below w.heap.size w (((w.alloc (.cells A t)).alloc (.cells B t)).drewN n) ∧
      w.heap.size + 2 = (((w.alloc (.cells A t)).alloc (.cells B t)).drewN n).heap.size := by
  subst hA
  subst hB
  refine ⟨?_, ?_, (((Below.refl _ w).alloc (Nat.le_refl _) _).alloc (by simp) _).trans (below_drewn n), by show _ = ((w.alloc _).alloc _).heap.size; simp⟩
  · exact (Below.heap_alloc _ _ _ (by simp)).trans (heap_alloc_new w _)
  · have := heap_alloc_new (w.alloc (.cells (xs.map W32).toArray t)) (.cells (ys.map W32).toArray t)
    rw [World.size_alloc] at this
    exact this

attribute [local go_sem] w32_add w32_xor w32_and w32_or

set_option maxRecDepth 100000 in
set_option maxHeartbeats 800000 in
theorem take_any (s : St) (v : Value) (l : List UInt8) (w : World) (hl : Bytes w v l) (h64 : 64 ≤ l.length) (hK : Consts w) :
    Calls Tryd.prog 62 #[s.agg, v] w fun e w' => e = .returned (takeL s l).agg ∧ Below w.heap.size w w' := by
  obtain ⟨sa, sb, sc, sd, se, sf, sg, sh⟩ := s
  unfold St.agg
  obtain ⟨a, cp, hv⟩ := hl.len
  subst hv
  have HL := Lib.hid hl
  have HK := Lib.hid hK
  clear hl hK
  unfold W32
  go_enter Tryd.func62, Tryd.ntmps62
  go_wp2
  go_quiet (fail)
  go_wp2_with fail
  obtain ⟨hX, hY, hb, hsz⟩ := box8 w 90 [sa, sb, sc, sd, se, sf, sg, sh] (List.replicate 8 0) #[.int .u32 (w32 sa), .int .u32 (w32 sb), .int .u32 (w32 sc), .int .u32 (w32 sd), .int .u32 (w32 se), .int .u32 (w32 sf), .int .u32 (w32 sg), .int .u32 (w32 sh)] #[.int .u32 0, .int .u32 0, .int .u32 0, .int .u32 0, .int .u32 0, .int .u32 0, .int .u32 0, .int .u32 0] nq (by rfl) (by rfl)
  generalize hW1 : (((w.alloc (.cells #[.int .u32 (w32 sa), .int .u32 (w32 sb), .int .u32 (w32 sc), .int .u32 (w32 sd), .int .u32 (w32 se), .int .u32 (w32 sf), .int .u32 (w32 sg), .int .u32 (w32 sh)] 90)).alloc (.cells #[.int .u32 0, .int .u32 0, .int .u32 0, .int .u32 0, .int .u32 0, .int .u32 0, .int .u32 0, .int .u32 0] 90)).drewN nq) = W1 at *
  clear hW1
  refine (spread_any _ l _ (HL.out.of_new hb) h64).mono ?_
  rintro e w2 ⟨rfl, hb2⟩
  have hbA := below_next hb hb2
  have hX2 := hX.of_block (hb2.block _ (by omega))
  have hY2 := hY.of_block (hb2.block _ (by omega))
  have HK2 := Lib.hid (HK.out.of_new hbA)
  have hwl : (wordsL l).length = 64 := wordsTo_len l 48
  have HIX := Lib.hid (index_words (wordsL l) hwl)
  have hszA := hbA.size
  have hsz2 := hb2.size
  clear hX hY hb hb2 HK
  go_wp2
  go_loopw [5, 6, 7, 8, 9, 10, 11, 12, 35] (fun va vb vc vd ve vf vg vh iv wr => ∃ (n : Nat) (s : St), n ≤ 64 ∧ iv = .int .i64 n ∧ s = rndTo ⟨sa, sb, sc, sd, se, sf, sg, sh⟩ (wordsL l) n ∧
      va = .int .u32 (w32 s.a) ∧ vb = .int .u32 (w32 s.b) ∧ vc = .int .u32 (w32 s.c) ∧ vd = .int .u32 (w32 s.d) ∧ ve = .int .u32 (w32 s.e) ∧ vf = .int .u32 (w32 s.f) ∧ vg = .int .u32 (w32 s.g) ∧ vh = .int .u32 (w32 s.h) ∧ Below w2.heap.size w2 wr)
    (fun _ _ _ _ _ _ _ _ iv _ => 64 - (intOf iv).toNat)
  case atStart => exact ⟨0, _, by omega, rfl, rfl, rfl, rfl, rfl, rfl, rfl, rfl, rfl, rfl, Below.refl _ _⟩
  case round =>
    obtain ⟨n, ⟨ra, rb, rc, rd, re, rf, rg, rh⟩, hn, rfl, hs, rfl, rfl, rfl, rfl, rfl, rfl, rfl, rfl, hbr⟩ := hrel
    have HS := Lib.hid hs
    clear hs
    dsimp only
    by_cases hlt : n < 64
    · have hk := (HK2.out.of_new hbr) n hlt
      have hix := HIX.out n hlt
      unfold W32 at hk
      obtain ⟨kk, ek⟩ : ∃ x, x = shaK.getD n 0 := ⟨_, rfl⟩
      obtain ⟨ww, ew⟩ : ∃ x, x = (wordsL l).getD n 0 := ⟨_, rfl⟩
      rw [← ek] at hk
      rw [← ew] at hix
      have EK := Lib.hid ek
      have EW := Lib.hid ew
      clear ek ew
      have jn : (n : Int) < 64 := by omega
      go_wp2
      go_quiet ((go_at_call 84; exact same_quiet (turn_any _ _ _ (by omega) (by omega))))
      go_wp2_with fail
      refine (turn2 ra _).mono ?_
      rintro e w1 ⟨rfl, rfl⟩
      go_wp2_with fail
      refine (turn13 ra _).mono ?_
      rintro e w1 ⟨rfl, rfl⟩
      go_wp2_with fail
      refine (turn22 ra _).mono ?_
      rintro e w1 ⟨rfl, rfl⟩
      go_wp2
      go_roundw
      case rel =>
        refine ⟨n + 1, rnd ⟨ra, rb, rc, rd, re, rf, rg, rh⟩ kk ww, by omega, by go_num, by rw [rndTo, ← HS.out, EK.out, EW.out], rfl, rfl, rfl, rfl, rfl, rfl, rfl, rfl, hbr.trans (below_drewn _)⟩
      case measure => simp [intOf]; omega
    · obtain rfl : n = 64 := by omega
      have hX3 := hX2.of_block (hbr.block _ (by omega))
      have hY3 := hY2.of_block (hbr.block _ (by omega))
      have c0 := hX3.cell (j := 0) (by simp)
      have c1 := hX3.cell (j := 1) (by simp)
      have c2 := hX3.cell (j := 2) (by simp)
      have c3 := hX3.cell (j := 3) (by simp)
      have c4 := hX3.cell (j := 4) (by simp)
      have c5 := hX3.cell (j := 5) (by simp)
      have c6 := hX3.cell (j := 6) (by simp)
      have c7 := hX3.cell (j := 7) (by simp)
      simp only [W32, List.getD_cons_zero, List.getD_cons_succ] at c0 c1 c2 c3 c4 c5 c6 c7
      have hbF := below_next hbA hbr
      clear hX3 hX2 hY2 hbr
      rw [show ((64 : Nat) : Int) = 64 from rfl]
      have HF := Lib.hid hbF
      have HY := Lib.hid hY3
      clear hn hlt hwl HIX HK2 hbA hszA hsz2 hsz hbF hY3
      have heq : takeL ⟨sa, sb, sc, sd, se, sf, sg, sh⟩ l = ⟨sa + ra, sb + rb, sc + rc, sd + rd, se + re, sf + rf, sg + rg, sh + rh⟩ := by
        simp only [takeL, St.plus, ← HS.out]
      have HEQ := Lib.hid heq
      clear heq
      go_wp2_with ((with_reducible refine wpList_store_words (op := ⟨none, Op.store 90 (.tmp 4) (.tmp 126), _, _, _, _⟩) 90 (.tmp 4) (.tmp 126) (w.heap.size + 1) 90 (List.replicate 8 (0 : UInt32)) [sa + ra, sb + rb, sc + rc, sd + rd, se + re, sf + rf, sg + rg, sh + rh] ?g ?ho ?hx ?hy HY.out ?hi ?hs ?_); (case g => rfl); (case ho => rfl); (case hx => rfl); (case hi => kernel_rfl); (case hs => rfl); (case hy => rfl))
      rw [HEQ.out]
      refine bodyPost_ret (results_cell rfl _ rfl ((HY.out.laid _).run_load 90 88 8 Tryd.underlying90 (by kernel_rfl))) rfl ⟨rfl, HF.out.trans (below_setRow' _ _ _ (Nat.le_succ _))⟩

end Go.Proofs.YtnomekfemadpeaaDoor

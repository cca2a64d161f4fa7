/- The walk of wire.put at the members' item. Condition: no more than 2^20 bytes; the message's members are none. -/
import Derived.Test.YtnomekfemadpeaaWrPutP
import Derived.Test.YtnomekfemadpeaaWrOwnM
namespace Go.Proofs.Ytnomekfemadpeaa
open Go.RowKit Go.Shelf
attribute [local go_sem] Oper.semAt_some
set_option linter.unusedVariables false
set_option linter.unusedSimpArgs false
set_option maxRecDepth 100000

theorem Ints.part {w : World} {v : Value} {l : List Int} (h : Ints w v l) (low high : Option Value) (lo hi : Nat) (h1 : lo ≤ hi) (h2 : hi ≤ l.length) (hlow : (low = Option.none ∧ lo = 0) ∨ ∃ k, low = some (.int k (lo : Int))) (hhigh : (high = Option.none ∧ hi = l.length) ∨ ∃ k, high = some (.int k (hi : Int))) :
    ∃ v', (∀ W : World, (Instr.slice 24 v low high Option.none).run Try.prog W = .ok v' W) ∧ Ints w v' ((l.drop lo).take (hi - lo)) ∧ v'.ownBlock = v.ownBlock := by
  obtain ⟨i, hi0, hz, hsize, hby⟩ := info_parts infoInt
  obtain ⟨v', hr, hrow, hob⟩ := Row.run_part h Try.underlying24 hi0 hsize low high lo hi h1 h2 hlow hhigh
  refine ⟨v', hr, ?_, hob⟩
  have e : ((l.drop lo).take (hi - lo)).length = hi - lo := by simp; omega
  unfold Ints
  rw [e]
  simpa [List.map_take, List.map_drop] using hrow

/-- Members that grew, laid into the message. -/
theorem MsgF.appMems {w w' : World} {g : Nat} {m : MsgL} {s : MsgS} {row : Option Nat} (h : MsgF w g m s) (hg : w.grownBy w' row) (hr : some g ≠ row) (hI : ∀ k, s.vi.ownBlock = some k → some k ≠ row) (hB : ∀ k, s.vb.ownBlock = some k → some k ≠ row) (hP : ∀ k, s.vp.ownBlock = some k → some k ≠ row)
    (v : Value) (l : List MemL) (hl : Mems w' v l) (hv : Off w' g v) : MsgF (w'.setCell ⟨g, 37, none⟩ v) g { m with members := l } { s with vm := v } := by
  have hG := grown_set w' g 37 v
  have hs := hg.size
  have ho : MsgO w' g m s := h.o.of_block (hg.block g h.o.lt hr)
  exact ⟨msgO_set ho 37 _ (msgCells_put m s h.r.hash 4 _) h.r.hash,
    ⟨h.r.hash, Row.of_kept (Row.of_kept h.r.ids hg hI) hG (fun k hk e => (h.vi k hk).1 (by cases e; rfl)), Row.of_kept (Row.of_kept h.r.bytes hg hB) hG (fun k hk e => (h.vb k hk).1 (by cases e; rfl)),
      ⟨h.r.proof.1, Row.of_kept (Row.of_kept h.r.proof.2 hg hP) hG (fun k hk e => (h.vp k hk).1 (by cases e; rfl))⟩, Row.of_kept hl hG (fun k hk e => (hv k hk).1 (by cases e; rfl))⟩,
    h.vi.mono (by simpa [World.setCell] using hs), h.vb.mono (by simpa [World.setCell] using hs), h.vp.mono (by simpa [World.setCell] using hs), hv.mono (by simp [World.setCell])⟩

theorem wp_buildMem {w : World} {op : Oper} {a : Act} {K : Act → World → Prop} {Q : Exit → Act → World → Prop} (x : Operand) (m : MemL) (ho : op.op = .buildSlice 27 1 #[(0, x)])
    (hx : a.eval x = .agg #[.int .i64 m.id, .int .i64 m.inc, .int .i64 m.state, .int .i64 m.since])
    (h : ∀ w', Mems w' (.slice (some ⟨w.heap.size, 0, none⟩) 1 1) [m] → Below w.heap.size w w' → w'.heap.size = w.heap.size + 1 → K (a.put op.dst (.slice (some ⟨w.heap.size, 0, none⟩) 1 1)) w') : op.wp Try.prog a w K Q := by
  obtain ⟨i, hi, hz, hsize, hby⟩ := info_parts infoMem
  refine wp_buildSlice 27 37 1 #[(0, x)] ho #[.int .i64 m.id, .int .i64 m.inc, .int .i64 m.state, .int .i64 m.since] i _ Try.underlying27 hi hz (by rw [hsize]; omega) (by rw [hsize]; omega) ?_ (h _ (one_mems w m _) ((Below.refl _ w).alloc (Nat.le_refl _) _) (by simp))
  rw [hsize]
  simp only [List.map_toArray, List.map_cons, List.map_nil, hx]
  rw [show [((0 : Nat), Value.agg #[.int .i64 m.id, .int .i64 m.inc, .int .i64 m.state, .int .i64 m.since])] = ([Value.agg #[.int .i64 m.id, .int .i64 m.inc, .int .i64 m.state, .int .i64 m.since]].zipIdx 0).map (fun x => (x.2, x.1)) from rfl]
  rw [Great.fill_whole (by omega) _ _ (fun v hv => by
    simp only [List.mem_cons, List.not_mem_nil, or_false] at hv
    subst hv
    rfl) (by simp)]
  rfl

/-- Ahead of each round: w0 the world behind the numbers' collecting. -/
def PutMI (w0 : World) (g : Nat) (m : MsgL) (s : MsgS) (L : List Int) (bv : Value) (W : World) : Prop :=
  ∃ (out : List MemL) (rest : List Int) (pv : Value), Ints w0 bv rest ∧ Off w0 g bv ∧ rest.length % 3 = 0 ∧ rest.length ≤ L.length ∧ out.length ≤ L.length - rest.length ∧ memsB L = out ++ memsB rest ∧ MsgF W g { m with members := out } { s with vm := pv } ∧ OwnM W w0.heap.size pv out ∧ Kept (fun k => k ≠ g) w0 W
/-- A slice of numbers as its length. -/
def lenS (v : Value) : Nat := match v with | .slice _ n _ => n | _ => 0

set_option maxHeartbeats 3200000 in
theorem put_members (g : Nat) (m : MsgL) (s : MsgS) (v : Value) (b : List UInt8) (w : World) (hF : MsgF w g m s) (h0 : m.members = []) (hp : s.vm = .slice none 0 0) (hl : Bytes w v b) (hlen : b.length ≤ 1048576) :
    Calls Try.prog 33 #[.pointer (some ⟨g, 0, none⟩), .int .i64 7, v] w (PutPost w g 7 s v ((numsL b).length % 3 == 0) { m with members := memsB (numsL b) }) := by
  obtain ⟨va, vc, hv⟩ := hl.len
  subst hv
  have hcl := collNums_any va vc b w hl hlen
  have hn := numbers_any va b.length vc w
  have hLl : (numsL b).length ≤ 1048576 := Nat.le_trans (numsL_len _ b (Nat.le_refl _)) hlen
  obtain ⟨L, hL⟩ : ∃ L, numsL b = L := ⟨_, rfl⟩
  rw [hL] at hcl hLl ⊢
  have HF := Lib.hid hF
  have H0 := Lib.hid h0
  have HP := Lib.hid hp
  have HLL := Lib.hid hLl
  have hg := hF.o.lt
  clear hl hF hL h0 hp hLl
  by_cases h3 : L.length % 3 = 0
  case neg =>
    have e : (L.length % 3 == 0) = false := by simp [h3]
    rw [e]
    clear e
    have hbe : ((L.length : Int) % 3 == 0) = false := beq_eq_false_iff_ne.2 (by omega)
    clear h3
    go_enter Try.func33, Try.ntmps33
    go_wp2_with fail
    refine hn.mono ?_
    rintro e w2 ⟨rfl, rfl⟩
    go_wp2_with fail
    refine hcl.mono ?_
    rintro e w4 ⟨v4, rfl, ho4, hb4⟩
    obtain ⟨a4, c4, hv4⟩ := ho4.ints.len
    subst hv4
    have hk4 := (Kept.refl (fun k => k ≠ g) w).below hb4
    have HK4 := Lib.hid hk4
    clear ho4 hb4 hk4
    go_wp2
    go_loopw [] (fun W' => W' = w4) (fun _ => 0)
    case atStart => rfl
    case round =>
      subst hrel
      go_wp2
      go_ret
      exact ⟨rfl, HK4.out, fun h => absurd h (by simp)⟩
  case pos =>
  have e : (L.length % 3 == 0) = true := by simp [h3]
  rw [e]
  clear e
  have hbe : ((L.length : Int) % 3 == 0) = true := beq_iff_eq.2 (by omega)
  have H3 := Lib.hid h3
  clear h3
  go_enter Try.func33, Try.ntmps33
  go_wp2_with fail
  refine hn.mono ?_
  rintro e w2 ⟨rfl, rfl⟩
  go_wp2_with fail
  refine hcl.mono ?_
  rintro e w4 ⟨v4, rfl, ho4, hb4⟩
  have HF4 := Lib.hid (HF.out.of_new hb4)
  obtain ⟨a4, c4, hv4⟩ := ho4.ints.len
  subst hv4
  have hof4 : Off w4 g (.slice a4 L.length c4) := fun k hk => ⟨by have := (ho4.lt k hk).1; omega, (ho4.lt k hk).2⟩
  have HO4 := Lib.hid ho4.ints
  have HOF4 := Lib.hid hof4
  have hk4 := (Kept.refl (fun k => k ≠ g) w).below hb4
  have HK4 := Lib.hid hk4
  have hs4 := hb4.size
  clear ho4 hof4 hk4 hb4
  go_wp2
  go_loopw [7] (PutMI w4 g m s L) (fun bv _ => lenS bv)
  case atStart => exact ⟨[], L, _, HO4.out, HOF4.out, H3.out, Nat.le_refl _, by simp, rfl, by rw [← H0.out]; rw [show (.slice none 0 0 : Value) = s.vm from HP.out.symm]; exact HF4.out, OwnM.nil _ _, Kept.refl _ _⟩
  case round =>
    obtain ⟨out, rest, pv, hl, hof, hm3, hle, hol, hdg, hF, hO, hK⟩ := hrel
    obtain ⟨ra, rc, hv⟩ := hl.len
    subst hv
    have HDG := Lib.hid hdg
    have HK := Lib.hid hK
    have HMF := Lib.hid hF
    clear hdg hK hF
    by_cases hlt : 0 < rest.length
    · have h3l : 3 ≤ rest.length := by omega
      obtain ⟨n0, n1, n2, rr, hrr, hrl⟩ := three_of h3l
      have hgt : (0 : Int) < (rest.length : Int) := by omega
      have hKG := HK.out
      obtain ⟨uv, hru, hu, huo⟩ := hl.part (some (.int .i64 ((3 : Nat) : Int))) none 3 rest.length (by omega) (Nat.le_refl _) (.inr ⟨.i64, rfl⟩) (.inl ⟨rfl, rfl⟩)
      rw [List.take_of_length_le (by simp)] at hu
      obtain ⟨ua, uc, hv⟩ := hu.len
      subst hv
      obtain ⟨cg, coff, cc, hv, hcg, hcell⟩ := hl.cell hlt
      cases hv
      have hcgg : cg ≠ g := (hof cg rfl).1
      have hcr : ∀ j, j < rest.length → wr.cell? ⟨cg, coff + j, none⟩ = some (.int .i64 (rest.getD j 0)) := fun j hj => (hKG.cell (p := ⟨cg, coff + j, none⟩) hcg hcgg).trans (hcell j hj)
      have hcl3 : cg < wr.heap.size := Nat.lt_of_lt_of_le hcg hKG.size
      have hq0 := hcr 0 (by omega)
      have hq1 := hcr 1 (by omega)
      have hq2 := hcr 2 (by omega)
      have hMEM : memsB rest = ⟨n0, n1, n2, 0⟩ :: memsB rr := by rw [hrr]; rfl
      have hdr3 : rest.drop 3 = rr := by rw [hrr]; rfl
      have hrr3 : (rest.drop 3).length = rr.length := by rw [hdr3]
      rw [hdr3] at hu hru huo
      rw [hrr] at hq0 hq1 hq2
      simp only [List.getD_cons_zero, List.getD_cons_succ, Nat.add_zero] at hq0 hq1 hq2
      have hg0 : ∀ w', Grew wr w' → w'.cell? ⟨cg, coff, none⟩ = some (.int .i64 n0) := fun w' h => Grew.cell h hq0
      have hg1 : ∀ w', Grew wr w' → w'.cell? ⟨cg, coff + 1, none⟩ = some (.int .i64 n1) := fun w' h => Grew.cell h hq1
      have hg2 : ∀ w', Grew wr w' → w'.cell? ⟨cg, coff + 2, none⟩ = some (.int .i64 n2) := fun w' h => Grew.cell h hq2
      have HU := Lib.hid hu
      have HUO := Lib.hid huo
      have HME := Lib.hid hMEM
      have HRL := Lib.hid hrl
      have HOF := Lib.hid hof
      have HOO := Lib.hid hO
      have hsz := hKG.size
      have hfp := HMF.out.free 37
      have hcp := HMF.out.o.members
      obtain ⟨pa, pc, hv⟩ := hO.mems.len
      dsimp only at hcp
      subst hv
      have HM3 := Lib.hid hm3
      have hru3 := hru
      simp only [show ((3 : Nat) : Int) = 3 from rfl] at hru3
      have hco : ∀ w', Grew wr w' → w'.cell? ⟨g, 37, none⟩ = some (.slice pa out.length pc) := fun w' h => ((HMF.out.of_new h).o.members)
      have hi1 : (1 : Int) < (rest.length : Int) := by omega
      have hi2 : (2 : Int) < (rest.length : Int) := by omega
      clear hl hu huo hMEM hdr3 hrr3 hrl hof hO hKG hm3 hru hcr hcell hq0 hq1 hq2 hrr
      go_wp2
      refine (wpIn_wide (n := 5)).1 ?_
      refine wpIn_region_early_move (ro := none) (C := Grew wr) (.tmp 0) rfl rfl rfl 4 15 16 (by kernel_rfl) (by kernel_rfl) (Grew.start _) (fun c a d v w h => by cases d <;> exact h) ?_
      simp only [List.take_succ_cons, List.take_zero, List.drop_succ_cons, List.drop_zero]
      go_simp
      repeat (first
        | (go_big_quiet_want; apply quiet_val; (intro w' hw'; go_simp; first | done | rfl); go_simp; go_big_quiet_on)
        | (go_big_quiet_skip))
      refine wpQuiet_nil ?_
      intro w2 hw2
      refine LateL.cons rfl (wp_buildMem (.tmp 105) (MemL.mk n0 n1 n2 0) rfl rfl ?_)
      intro w3 hm3 hb3 hs3
      have hw3 : Below wr.heap.size wr w3 := below_next hw2 hb3
      refine ⟨hw3, ?_⟩
      refine LateL.nil ?_
      rw [wF_none]
      have HQ3 := HOO.out.of_new hw3
      have hs3' := hw3.size
      have hMF3 := HMF.out.of_new hw3
      have hLL := HLL.out
      refine wpListIn_of_wp rfl (fun c hc => by cases hc) (wp_appM (.tmp 95) (.tmp 106) rfl w4.heap.size _ out rfl HQ3 _ [MemL.mk n0 n1 n2 0] rfl hm3 (by simp; omega) (by omega) ?_)
      intro v5 w5 ho5 hg5 hu5
      obtain ⟨va5, vc5, hv5⟩ := ho5.mems.len
      subst hv5
      have hsA := HF4.out.o.lt
      have hrg : some g ≠ (Value.slice pa out.length pc).ownBlock := fun e => by have := (HQ3.lt g e.symm).1; omega
      have hof5 : Off w5 g (.slice va5 (out ++ [MemL.mk n0 n1 n2 0]).length vc5) := fun k hk => by have := ho5.lt k hk; exact ⟨by omega, this.2⟩
      have hMF5 := hMF3.appMems hg5 hrg (fun k hk e => by have := (HQ3.lt k e.symm).1; have := (HF4.out.vi k hk).2; omega) (fun k hk e => by have := (HQ3.lt k e.symm).1; have := (HF4.out.vb k hk).2; omega) (fun k hk e => by have := (HQ3.lt k e.symm).1; have := (HF4.out.vp k hk).2; omega) _ _ ho5.mems hof5
      have hO5 := hMF3.o.of_block (hg5.block g hMF3.o.lt hrg)
      have hf5 : w5.frozen? ⟨g, 37, none⟩ = false := by simp [World.frozen?, hO5.1]
      have hc5 := hO5.members
      have hK5 : Kept (fun k => k ≠ g) w4 (w5.setCell ⟨g, 37, none⟩ (.slice va5 (out ++ [MemL.mk n0 n1 n2 0]).length vc5)) := by
        have hA : Kept (fun k => k < w4.heap.size ∧ k ≠ g) wr w5 := ((Kept.refl _ wr).below hw3).grown hg5 (fun r e h => by have := (HQ3.lt r e).1; omega)
        exact ⟨hA.os.trans HK.out.os, hA.tape.trans HK.out.tape, hA.output.trans HK.out.output, by have := hA.size; simp [World.setCell]; omega, fun k hk hne => (Below.heap_setCell _ _ _ _ (fun e => hne e)).trans ((hA.block k (by omega) ⟨hk, hne⟩).trans (HK.out.block k hk hne))⟩
      have ho6 : OwnM (w5.setCell ⟨g, 37, none⟩ (.slice va5 (out ++ [MemL.mk n0 n1 n2 0]).length vc5)) w4.heap.size (.slice va5 (out ++ [MemL.mk n0 n1 n2 0]).length vc5) (out ++ [MemL.mk n0 n1 n2 0]) := ho5.kept (fun k hk2 => Below.heap_setCell _ _ _ _ (by have := (ho5.lt k hk2).1; show k ≠ g; omega))
      rw [List.length_append, List.length_singleton] at hMF5 hK5 ho6 ⊢
      have HMF5 := Lib.hid hMF5
      have HK5 := Lib.hid hK5
      have HO5 := Lib.hid ho6
      clear hMF5 hK5 ho6 hof5 hrg hMF3 HQ3 hs3' hw3 hs3 hb3 hm3 hw2 hg5 hu5 ho5 hO5
      rw [wF_none]
      gi_wp2
      go_wp2
      refine ⟨⟨out ++ [MemL.mk n0 n1 n2 0], rr, _, HU.out, fun k hk => HOF.out k (by rw [← HUO.out]; exact hk), by have := HRL.out; have := HM3.out; omega, by have := HRL.out; omega, by have := HRL.out; simp; omega, by rw [HDG.out, HME.out]; simp, HMF5.out, HO5.out, HK5.out⟩, ?_⟩
      have := HRL.out
      simp only [lenS]
      omega
    · have hg0 : ¬ (0 : Int) < (rest.length : Int) := by omega
      have hr0 : rest.length = 0 := by omega
      have hfin : memsB L = out := by rw [HDG.out, memsB_small (by omega), List.append_nil]
      have HFIN := Lib.hid hfin
      have hkk := HK4.out.trans HK.out
      have HKK := Lib.hid hkk
      clear hm3 hfin hr0 hkk
      go_wp2
      go_ret
      exact ⟨rfl, HKK.out, fun _ => ⟨{ s with vm := pv }, by rw [HFIN.out]; exact HMF.out, fun _ => rfl, fun h => absurd rfl h, fun L hL h _ => ⟨h.1, h.2.1, h.2.2.1, fun k hk => Nat.le_trans hL (Nat.le_trans hs4 (hO.lt k hk).1)⟩⟩⟩

end Go.Proofs.Ytnomekfemadpeaa

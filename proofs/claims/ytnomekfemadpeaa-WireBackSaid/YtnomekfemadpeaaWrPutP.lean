/- The walk of wire.put at the proof's item. Condition: no more than 2^20 bytes; the message's proof is empty. -/
import Derived.Test.YtnomekfemadpeaaWrPut
import Derived.Test.YtnomekfemadpeaaGb
import Derived.LoopN
import Derived.LoopNIn
import Derived.LoopIn
namespace Go.Proofs.Ytnomekfemadpeaa
open Go.RowKit Go.Shelf
attribute [local go_sem] Oper.semAt_some
set_option linter.unusedVariables false
set_option linter.unusedSimpArgs false
set_option maxRecDepth 100000

/-- A proof that grew, laid into the message. -/
theorem MsgF.appProof {w w' : World} {g : Nat} {m : MsgL} {s : MsgS} {row : Option Nat} (h : MsgF w g m s) (hg : w.grownBy w' row) (hr : some g ≠ row) (hI : ∀ k, s.vi.ownBlock = some k → some k ≠ row) (hB : ∀ k, s.vb.ownBlock = some k → some k ≠ row) (hM : ∀ k, s.vm.ownBlock = some k → some k ≠ row)
    (v : Value) (l : List (List UInt8)) (hl : Digs w' v l) (hv : Off w' g v) : MsgF (w'.setCell ⟨g, 36, none⟩ v) g { m with proof := l } { s with vp := v } := by
  have hG := grown_set w' g 36 v
  have hs := hg.size
  have ho : MsgO w' g m s := h.o.of_block (hg.block g h.o.lt hr)
  exact ⟨msgO_set ho 36 _ (msgCells_put m s h.r.hash 3 _) h.r.hash,
    ⟨h.r.hash, Row.of_kept (Row.of_kept h.r.ids hg hI) hG (fun k hk e => (h.vi k hk).1 (by cases e; rfl)), Row.of_kept (Row.of_kept h.r.bytes hg hB) hG (fun k hk e => (h.vb k hk).1 (by cases e; rfl)),
      ⟨hl.1, Row.of_kept hl.2 hG (fun k hk e => (hv k hk).1 (by cases e; rfl))⟩, Row.of_kept (Row.of_kept h.r.members hg hM) hG (fun k hk e => (h.vm k hk).1 (by cases e; rfl))⟩,
    h.vi.mono (by simpa [World.setCell] using hs), h.vb.mono (by simpa [World.setCell] using hs), hv.mono (by simp [World.setCell]), h.vm.mono (by simpa [World.setCell] using hs)⟩
/-- The first hash of bytes, in its place. -/
theorem Bytes.dig {w : World} {v : Value} {l : List UInt8} (h : Bytes w v l) (h32 : l.length = 32) : ∃ g off c, v = .slice (some ⟨g, off, none⟩) 32 c ∧ DigAt w g off l := by
  obtain ⟨g, off, c, hv, _, hc⟩ := h.cell (by omega)
  exact ⟨g, off, c, by rw [hv, h32], h32, fun j hj => by rw [hc j (by omega)]; simp [List.getElem?_eq_getElem (show j < l.length by omega), List.getD]⟩

theorem quiet_load_C {C : World → Prop} {o : Oper} {a : Act} {K : Act → Prop} {x : Operand} {g off : Nat} {d : List UInt8} (ho : o.op = .load 23 x) (hx : a.eval x = .pointer (some ⟨g, off, none⟩))
    (hd : ∀ w, C w → DigAt w g off d) (hK : K (a.put o.dst (.agg (d.map B8).toArray))) : o.quiet Try.prog a C K :=
  quiet_val (fun w hw => by
    have := run_load_dig w g off d (hd w hw).1 (hd w hw).2
    unfold execOp
    simp only [ho, hx, Instr.loadAt, Instr.sureAddr, Sem.run_bind, Sem.run_pure, Result.andThen_ok, this]) hK

/-- Ahead of each round. -/
def PutPI (w : World) (g : Nat) (m : MsgL) (s : MsgS) (b : List UInt8) (bv : Value) (W : World) : Prop :=
  ∃ (out : List (List UInt8)) (rest : List UInt8) (pv : Value), Bytes w bv rest ∧ Off w g bv ∧ rest.length % 32 = 0 ∧ rest.length ≤ b.length ∧ out.length ≤ b.length - rest.length ∧ digsB b = out ++ digsB rest ∧ MsgF W g { m with proof := out } { s with vp := pv } ∧ OwnD W w.heap.size pv out ∧ Kept (fun k => k ≠ g) w W

set_option maxHeartbeats 3200000 in
theorem put_proof (g : Nat) (m : MsgL) (s : MsgS) (v : Value) (b : List UInt8) (w : World) (hF : MsgF w g m s) (h0 : m.proof = []) (hp : s.vp = .slice none 0 0) (hl : Bytes w v b) (hv : Off w g v) (hlen : b.length ≤ 1048576) :
    Calls Try.prog 33 #[.pointer (some ⟨g, 0, none⟩), .int .i64 6, v] w (PutPost w g 6 s v (b.length % 32 == 0) { m with proof := digsB b }) := by
  obtain ⟨i0, hi, hz0, hz1, hz2⟩ := info_parts infoU8
  have hglt := hF.o.lt
  obtain ⟨va, vc, hve⟩ := hl.len
  subst hve
  have HV := Lib.hid hv
  clear hv
  have HF := Lib.hid hF
  have HL := Lib.hid hl
  have H0 := Lib.hid h0
  have HP := Lib.hid hp
  clear hF hl h0 hp
  by_cases h32 : b.length % 32 = 0
  · have e : (b.length % 32 == 0) = true := by simp [h32]
    rw [e]
    clear e
    have hbe : ((b.length : Int) % 32 == 0) = true := beq_iff_eq.2 (by omega)
    go_enter Try.func33, Try.ntmps33
    go_wp2
    go_loopw [2] (PutPI w g m s b) (fun bv _ => lenV bv)
    case atStart => exact ⟨[], b, _, HL.out, HV.out, h32, Nat.le_refl _, by simp, rfl, by rw [← H0.out]; rw [show (.slice none 0 0 : Value) = s.vp from HP.out.symm]; exact HF.out, OwnD.nil _ _, Kept.refl _ _⟩
    case round =>
      obtain ⟨out, rest, pv, hl, hof, hm32, hle, hol, hdg, hF, hO, hK⟩ := hrel
      obtain ⟨ra, rc, hv⟩ := hl.len
      subst hv
      have HDG := Lib.hid hdg
      have HK := Lib.hid hK
      have HMF := Lib.hid hF
      clear hdg hK hF
      by_cases hlt : 0 < rest.length
      · have h32l : 32 ≤ rest.length := by omega
        have hgt : (0 : Int) < (rest.length : Int) := by omega
        have hKG := HK.out
        have hbw : Bytes wr (.slice ra rest.length rc) rest := Row.of_kept hl (row := some g) ⟨hKG.os, hKG.tape, hKG.output, hKG.size, fun k hk hne => hKG.block k hk (fun e => hne (by rw [e]))⟩ (fun k hk e => (hof k hk).1 (by cases e; rfl))
        obtain ⟨tv, hrt, ht, hto⟩ := hbw.part (P := Try.prog) (t := 25) Try.underlying25 hi hz1 none (some (.int .i64 ((32 : Nat) : Int))) 0 32 (by omega) (by omega) (.inl ⟨rfl, rfl⟩) (.inr ⟨.i64, rfl⟩)
        obtain ⟨uv, hru, hu, huo⟩ := hl.part (P := Try.prog) (t := 25) Try.underlying25 hi hz1 (some (.int .i64 ((32 : Nat) : Int))) none 32 rest.length (by omega) (Nat.le_refl _) (.inr ⟨.i64, rfl⟩) (.inl ⟨rfl, rfl⟩)
        rw [List.drop_zero, Nat.sub_zero] at ht
        rw [List.take_of_length_le (by simp)] at hu
        obtain ⟨ua, uc, hv⟩ := hu.len
        subst hv
        have hdd0 := digsB_step h32l
        obtain ⟨rr, hrr⟩ : ∃ rr, rest.drop 32 = rr := ⟨_, rfl⟩
        have HRL := Lib.hid (show rr.length = rest.length - 32 by rw [← hrr]; simp)
        rw [hrr] at hu huo hru hdd0
        clear hrr
        have hx : (rest.take 32).length = 32 := by simp; omega
        obtain ⟨dg, doff, dc, hv, hd⟩ := ht.dig hx
        subst hv
        obtain ⟨x, hxe⟩ : ∃ x, rest.take 32 = x := ⟨_, rfl⟩
        rw [hxe] at hd hx
        have hA := run_arrayAt_dig (some ⟨dg, doff, none⟩) dc
        have hdd := hdd0
        rw [hxe] at hdd
        clear hdd0
        have hx32 : Dig32 [x] := fun d hd => by simp at hd; rw [hd]; exact hx
        have HD := Lib.hid hd
        have HU := Lib.hid hu
        have HUO := Lib.hid huo
        have HDD := Lib.hid hdd
        have HOF := Lib.hid hof
        have HX := Lib.hid hx32
        have HOO := Lib.hid hO
        have hsz := hKG.size
        have hfp := HMF.out.free 36
        have hcp := HMF.out.o.proof
        obtain ⟨pa, pc, hv⟩ := hO.digs.len
        dsimp only at hcp
        subst hv
        have HM32 := Lib.hid hm32
        clear hl ht hu hxe hd hx hdd hx32 hKG hbw hO huo hof hm32
        have hrt32 := hrt
        have hru32 := hru
        simp only [show ((32 : Nat) : Int) = 32 from rfl] at hrt32 hru32
        clear hrt hru
        have hdw : dg < w.heap.size := by have := HOF.out dg (by rw [← hto]; rfl); exact this.2
        clear hto
        have hco : ∀ w', Grew wr w' → w'.cell? ⟨g, 36, none⟩ = some (.slice pa out.length pc) := fun w' h => ((HMF.out.of_new h).o.proof)
        have hdc : ∀ w', Grew wr w' → DigAt w' dg doff x := fun w' h => HD.out.of_new h
        go_wp2
        refine (wpIn_wide (n := 5)).1 ?_
        refine wpIn_region_early_move (ro := none) (C := Grew wr) (.tmp 0) rfl rfl rfl 4 9 10 (by kernel_rfl) (by kernel_rfl) (Grew.start _) (fun c a d v w h => by cases d <;> exact h) ?_
        simp only [List.take_succ_cons, List.take_zero, List.drop_succ_cons, List.drop_zero]
        go_simp
        repeat (first
          | (go_big_quiet_want; (with_reducible apply quiet_load_C (x := .tmp 68)); rfl; rfl; assumption; go_simp; go_big_quiet_on)
          | (go_big_quiet_want; apply quiet_val; (intro w' hw'; go_simp; first | done | rfl); go_simp; go_big_quiet_on)
          | (go_big_quiet_skip))
        refine wpQuiet_nil ?_
        intro w2 hw2
        refine LateL.cons rfl (wp_buildDigs 1 #[(0, .tmp 69)] [x] rfl rfl (by simp) (by simp) HX.out (by simp only [List.map_toArray, List.map_cons, List.map_nil]; rfl) ?_)
        intro w3 ho3 hb3 hs3
        have hw3 : Below wr.heap.size wr w3 := below_next hw2 hb3
        refine ⟨hw3, ?_⟩
        refine LateL.nil ?_
        rw [wF_none]
        have HQ3 := HOO.out.of_new hw3
        have hs3' := hw3.size
        have hMF3 := HMF.out.of_new hw3
        refine wpListIn_of_wp rfl (fun c hc => by cases hc) (wp_appD (.tmp 65) (.tmp 70) rfl w.heap.size _ out rfl HQ3 _ [x] rfl ho3.digs (by simp; omega) (by omega) ?_)
        intro v4 w4 ho4 hg4 hu4
        obtain ⟨va4, vc4, hv4⟩ := ho4.digs.len
        subst hv4
        have hrg : some g ≠ (Value.slice pa out.length pc).ownBlock := fun e => by have := (HQ3.lt g e.symm).1; omega
        have hof4 : Off w4 g (.slice va4 (out ++ [x]).length vc4) := fun k hk => by have := ho4.lt k hk; exact ⟨by omega, this.2⟩
        have hMF4 := hMF3.appProof hg4 hrg (fun k hk e => by have := (HQ3.lt k e.symm).1; have := (HF.out.vi k hk).2; omega) (fun k hk e => by have := (HQ3.lt k e.symm).1; have := (HF.out.vb k hk).2; omega) (fun k hk e => by have := (HQ3.lt k e.symm).1; have := (HF.out.vm k hk).2; omega) _ _ ho4.digs hof4
        have hO4 := hMF3.o.of_block (hg4.block g hMF3.o.lt hrg)
        have hf4 : w4.frozen? ⟨g, 36, none⟩ = false := by simp [World.frozen?, hO4.1]
        have hc4 := hO4.proof
        have hK4 : Kept (fun k => k ≠ g) w (w4.setCell ⟨g, 36, none⟩ (.slice va4 (out ++ [x]).length vc4)) := by
          have hA : Kept (fun k => k < w.heap.size ∧ k ≠ g) wr w4 := ((Kept.refl _ wr).below hw3).grown hg4 (fun r e h => by have := (HQ3.lt r e).1; omega)
          exact ⟨hA.os.trans HK.out.os, hA.tape.trans HK.out.tape, hA.output.trans HK.out.output, by have := hA.size; simp [World.setCell]; omega, fun k hk hne => (Below.heap_setCell _ _ _ _ (fun e => hne e)).trans ((hA.block k (by omega) ⟨hk, hne⟩).trans (HK.out.block k hk hne))⟩
        have ho5 : OwnD (w4.setCell ⟨g, 36, none⟩ (.slice va4 (out ++ [x]).length vc4)) w.heap.size (.slice va4 (out ++ [x]).length vc4) (out ++ [x]) := ho4.kept (U := fun _ => True) (fun k hk2 => Below.heap_setCell _ _ _ _ (by have := (ho4.lt k hk2).1; show k ≠ g; omega))
        rw [List.length_append, List.length_singleton] at hMF4 hK4 ho5 ⊢
        have HMF4 := Lib.hid hMF4
        have HK4 := Lib.hid hK4
        have HO5 := Lib.hid ho5
        clear hMF4 hK4 ho5 hof4 hrg hMF3 HQ3 hs3' hw3 hs3 hb3 ho3 hw2 hg4 hu4 ho4 hO4
        rw [wF_none]
        gi_wp2
        go_wp2
        refine ⟨⟨out ++ [x], rr, _, HU.out, fun k hk => HOF.out k (by rw [← HUO.out]; exact hk), by have := HRL.out; have := HM32.out; omega, by have := HRL.out; omega, by have := HRL.out; simp; omega, by rw [HDG.out, HDD.out]; simp, HMF4.out, HO5.out, HK4.out⟩, ?_⟩
        have := HRL.out
        simp only [lenV]
        omega
      · have hg0 : ¬ (0 : Int) < (rest.length : Int) := by omega
        have hr0 : rest.length = 0 := by omega
        have hfin : digsB b = out := by rw [HDG.out, digsB_small (by omega), List.append_nil]
        have HFIN := Lib.hid hfin
        clear hm32 hfin hr0
        go_wp2
        go_ret
        exact ⟨rfl, HK.out, fun _ => ⟨{ s with vp := pv }, by rw [HFIN.out]; exact HMF.out, fun h => absurd rfl h, fun _ => rfl, fun L hL h _ => ⟨h.1, h.2.1, fun k hk => Nat.le_trans hL (hO.lt k hk).1, h.2.2.2⟩⟩⟩
  · have e : (b.length % 32 == 0) = false := by simp [h32]
    rw [e]
    clear e
    have hbe : ((b.length : Int) % 32 == 0) = false := beq_eq_false_iff_ne.2 (by omega)
    go_enter Try.func33, Try.ntmps33
    go_wp2
    go_loopw [] (fun W' => W' = w) (fun _ => 0)
    case atStart => rfl
    case round =>
      subst hrel
      go_wp2
      go_ret
      exact ⟨rfl, Kept.refl _ _, fun h => absurd h (by simp)⟩

end Go.Proofs.Ytnomekfemadpeaa

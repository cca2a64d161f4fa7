/- The walk of tracker.Announce. Condition: the table as it lies. -/
import Derived.Test.YtnohglkilpnjhaaGb
import Derived.Test.YtnohglkilpnjhaaGc
namespace Go.Proofs.Ytnohglkilpnjhaa
open Go.RowKit
set_option linter.unusedVariables false
set_option linter.unusedSimpArgs false
set_option maxRecDepth 100000

/-- What a call on a table does to memory: its maps alone are written, those of the new table are among them or new. -/
structure TabStep (mb : Nat) (E E' : EntL) (w w' : World) : Prop where
  kept : Kept (fun k => ¬ ownE mb E k) w w'
  own : ∀ k, ownE mb E' k → ownE mb E k ∨ w.heap.size ≤ k
theorem TabStep.refl (mb : Nat) (E : EntL) (w : World) : TabStep mb E E w w := ⟨Kept.refl _ _, fun k h => .inl h⟩
theorem TabStep.new {mb : Nat} {E E' : EntL} {w w' w2 : World} (h : TabStep mb E E' w w') (hb : Below w'.heap.size w' w2) : TabStep mb E E' w w2 := ⟨h.kept.below hb, h.own⟩
/-- One call behind another one. -/
theorem TabStep.trans {mb : Nat} {E E1 E2 : EntL} {w w1 w2 : World} (h : TabStep mb E E1 w w1) (k : TabStep mb E1 E2 w1 w2) : TabStep mb E E2 w w2 := by
  refine ⟨⟨k.kept.os.trans h.kept.os, k.kept.tape.trans h.kept.tape, k.kept.output.trans h.kept.output, Nat.le_trans h.kept.size k.kept.size, fun j hj hu => ?_⟩, fun j hj => ?_⟩
  · refine (k.kept.block j (Nat.lt_of_lt_of_le hj h.kept.size) fun hx => ?_).trans (h.kept.block j hj hu)
    rcases h.own j hx with h1 | h1
    · exact hu h1
    · omega
  · rcases k.own j hj with h1 | h1
    · exact h.own j h1
    · exact .inr (Nat.le_trans h.kept.size h1)
theorem TabStep.grown {mb b : Nat} {E E1 E2 : EntL} {w w1 w2 : World} (h : TabStep mb E E1 w w1) (hg : w1.grownBy w2 (some b)) (hb : ownE mb E1 b) (ho : ∀ k, ownE mb E2 k → ownE mb E1 k) : TabStep mb E E2 w w2 :=
  h.trans ⟨(Kept.refl _ w1).grown hg (fun r e => by cases e; exact fun hn => hn hb), fun k hk => .inl (ho k hk)⟩
/-- What is below B stays, where all of the table's maps lie from B on. -/
theorem TabStep.below {mb B : Nat} {E E' : EntL} {w0 w w' : World} (h : TabStep mb E E' w w') (hb : Below B w0 w) (hB : B ≤ w.heap.size) (ho : ∀ k, ownE mb E k → B ≤ k) : Below B w0 w' :=
  h.kept.to_below hb hB fun k hk hx => by have := ho k hx; omega

theorem build_peer (a c : Int) (x : Bool) (W : World) : (Instr.build 35 #[(0, .int .i64 a), (1, .int .i64 c), (2, .bool x)]).run Try.prog W = .ok (.agg #[.int .i64 a, .int .i64 c, .bool x]) W := by kernel_rfl
theorem first_below {P : Program} {f : FuncId} {args : Array Value} {w : World} {v : Value} {q : Prop} (h : Calls P f args w fun e w' => e = .returned v ∧ q ∧ Below w.heap.size w w') : Calls P f args w fun e w' => e = .returned v ∧ Below w.heap.size w w' := h.mono fun e w' ⟨h1, _, h3⟩ => ⟨h1, h3⟩
def AnnPost (w : World) (t mb : Nat) (most each : Int) (E : EntL) (d : List UInt8) (id now life : Int) (seed : Bool) (e : Ending) (w' : World) : Prop :=
  ∃ E', tabOf E' = (annT most each (tabOf E) d id now life seed).1 ∧ e = .returned (.int .i64 (annT most each (tabOf E) d id now life seed).2) ∧ TabP w' t most each mb E' ∧ TabStep mb E E' w w'

/-- Where the blob is there: behind the first of the ways. -/
structure AnnMid (w : World) (t mb : Nat) (most each : Int) (E : EntL) (d : List UInt8) (ps : List PeerL) (m : Value) (W : World) (E1 : EntL) (b : Nat) : Prop where
  val : m = .map (some b)
  tab : TabP W t most each mb E1
  mem : (d, (b, ps)) ∈ E1
  rise : Rising kD E1
  dig : ∀ x ∈ E1, x.1.length = 32
  len : E1.length ≤ 100000
  back : ∀ ps', tabOf (insK kD (d, (b, ps')) E1) = insK kD (d, ps') (tabOf E)
  step : TabStep mb E E1 w W
  box : DigO W w.heap.size d

/-- .. and behind the others. -/
structure AnnSt (w : World) (t mb : Nat) (most each : Int) (E : EntL) (d : List UInt8) (ps : List PeerL) (W : World) (E1 : EntL) (b : Nat) : Prop where
  tab : TabP W t most each mb E1
  mem : (d, (b, ps)) ∈ E1
  rise : Rising kD E1
  dig : ∀ x ∈ E1, x.1.length = 32
  len : E1.length ≤ 200000
  back : tabOf E1 = insK kD (d, ps) (tabOf E)
  step : TabStep mb E E1 w W
  box : DigO W w.heap.size d
theorem AnnSt.inner {w : World} {t mb : Nat} {most each : Int} {E : EntL} {d : List UInt8} {ps : List PeerL} {W : World} {E1 : EntL} {b : Nat} (h : AnnSt w t mb most each E d ps W E1 b) : MapL KInt W b (ps.map inE) := h.tab.ins _ h.mem
theorem AnnSt.new {w : World} {t mb : Nat} {most each : Int} {E : EntL} {d : List UInt8} {ps : List PeerL} {W W' : World} {E1 : EntL} {b : Nat} (h : AnnSt w t mb most each E d ps W E1 b) (hb : Below W.heap.size W W') : AnnSt w t mb most each E d ps W' E1 b :=
  ⟨h.tab.of_new hb, h.mem, h.rise, h.dig, h.len, h.back, h.step.new hb, h.box.of_new hb⟩
/-- The blob's peers are others. -/
theorem AnnSt.set {w : World} {t mb : Nat} {most each : Int} {E : EntL} {d : List UInt8} {ps ps' : List PeerL} {W W' : World} {E1 : EntL} {b : Nat} (h : AnnSt w t mb most each E d ps W E1 b) (hm : MapL KInt W' b (ps'.map inE)) (hg : W.grownBy W' (some b)) (hr : Rising kD (tabOf E)) : AnnSt w t mb most each E d ps' W' (insK kD (d, (b, ps')) E1) b := by
  refine ⟨h.tab.set h.rise h.mem hm hg, (mem_insK h.rise).2 (.inl rfl), h.rise.ins _, fun x hx => ?_, ?_, ?_, h.step.grown hg (.inr ⟨_, h.mem, rfl⟩) (fun k hk => own_set h.rise h.mem hk), h.box.of_block (hg.block _ h.box.lt (fun e => ?_))⟩
  · rcases (mem_insK h.rise).1 hx with rfl | ⟨h1, _⟩
    · exact h.dig (d, (b, ps)) h.mem
    · exact h.dig x h1
  · have h0 : getK kD (kD (d, (b, ps'))) E1 = some (d, (b, ps)) := (getK_some h.rise).2 ⟨h.mem, rfl⟩
    rw [insK_len h.rise, h0]
    exact h.len
  · rw [tabOf_ins, h.back, insK_ins (f := kD) (x := (d, ps')) (y := (d, ps)) hr rfl]
  · have h1 : b = w.heap.size := by cases e; rfl
    obtain ⟨es, ⟨a, c, h4, _⟩, _⟩ := h.inner
    rw [h1, h.box.1] at h4; cases h4

set_option maxHeartbeats 6400000 in
theorem Announce_any (t mb : Nat) (most each : Int) (E : EntL) (d : List UInt8) (id now life : Int) (seed : Bool) (w : World) (hT : TabP w t most each mb E) (hE : EntOk most each E) (hm : 1 ≤ most ∧ most ≤ 1000) (he : 1 ≤ each ∧ each ≤ 64) (h32 : d.length = 32) :
    Calls Try.prog 11 #[.pointer (some ⟨t, 0, none⟩), .agg (d.map B8).toArray, .int .i64 id, .int .i64 now, .int .i64 life, .bool seed] w (AnnPost w t mb most each E d id now life seed) := by
  have hdig : ∀ x ∈ E, x.1.length = 32 := fun x hx => hE.dig _ (tabOf_mem hx)
  have hrise : Rising kD E := entL_rise hE.rise
  have hElen : E.length ≤ 1000 := by have := hE.few; unfold tabOf at this; rw [List.length_map] at this; omega
  by_cases hargs : argsB id now life = true
  · have hA := hargs
    simp only [argsB, Bool.and_eq_true, decide_eq_true_eq] at hA
    have c1 : within id 1 65536 = true := decide_eq_true hA.1
    have c2 : within now 0 1099511627776 = true := decide_eq_true hA.2.1
    have c3 : within life 1 1048576 = true := decide_eq_true hA.2.2
    have hann : annT most each (tabOf E) d id now life seed = (roomT most (insK kD (d, roomP each (withP id (now + life) seed (peersT d (tabOf E)))) (tabOf E)), 0) := by unfold annT; rw [if_pos hargs]
    unfold AnnPost
    rw [hann]
    clear hann hargs
    obtain ⟨W, hW⟩ : ∃ W, w.alloc (.cells (d.map B8).toArray 30) = W := ⟨_, rfl⟩
    have ho : DigO W w.heap.size d := by rw [← hW]; exact digO_new w h32
    have hb : Below w.heap.size w W := by rw [← hW]; exact (Below.refl _ w).alloc (Nat.le_refl _) _
    have hTW := hT.of_new hb
    obtain ⟨hps, hpl⟩ := peersT_ok hE he.1 d
    obtain ⟨ps, hps2⟩ : ∃ ps, peersT d (tabOf E) = ps := ⟨_, rfl⟩
    obtain ⟨m, is, hms, hlook⟩ : ∃ m is, ((is = false ∧ m = .map none ∧ getK kD (natL d) E = none ∧ ps = []) ∨ (is = true ∧ ∃ b, m = .map (some b) ∧ (d, (b, ps)) ∈ E)) ∧ ∀ w', Grew W w' → (Instr.lookup 64 (.map (some mb)) (.agg (d.map B8).toArray) true).run Try.prog w' = .ok (.tuple #[m, .bool is]) w' := by
      refine ⟨((getK kD (natL d) E).map (fun x => .map (some x.2.1))).getD (.map none), (getK kD (natL d) E).isSome, ?_, fun w' h => ?_⟩
      · cases e : getK kD (natL d) E with
        | none => exact .inl ⟨rfl, rfl, rfl, by rw [← hps2]; unfold peersT; rw [← tabOf_get, e]; rfl⟩
        | some x =>
          obtain ⟨h1, h2⟩ := (getK_some hrise).1 e
          have hx1 : x.1 = d := natL_inj _ _ (by rw [hdig x h1, h32]) (by unfold kD at h2; omega)
          refine .inr ⟨rfl, x.2.1, rfl, ?_⟩
          have : ps = x.2.2 := by rw [← hps2]; unfold peersT; rw [← tabOf_get, e]; rfl
          rw [this, ← hx1]; exact h1
      · have := (hTW.map.of_new h).look_ok (t := 64) Try.underlying64 (zero_peers w') (KT := KDig) (x := d) h32
        rw [getL_out hdig h32, hasKey_get, getL_out hdig h32, Option.isSome_map] at this
        exact this
    rw [hps2] at hps hpl ⊢
    have hc2 := fun w' (h : Grew W w') => Grew.cell h hTW.cell2
    have hdg : DigAt W w.heap.size 0 d := ho.at_
    have HW := Lib.hid hW
    have HB := Lib.hid hb
    have HT := Lib.hid hTW
    have HPS := Lib.hid hps
    have HPL := Lib.hid hpl
    have HO := Lib.hid ho
    have HDG := Lib.hid hdig
    have HRS := Lib.hid hrise
    have HEL := Lib.hid hElen
    have H32 := Lib.hid h32
    have HP2 := Lib.hid hps2
    have HRT := Lib.hid hE.rise
    clear hT hE hW hb hTW hps hpl ho hdig hrise hElen h32 hps2
    have HMS := Lib.hid hms
    clear hms
    go_enter Try.func11, Try.ntmps11
    go_upto_region 1 with (fail)
    rw [HW.out]
    go_upto_region 3 with (go_at_call 23; refine (within_any _ _ _ _).mono ?_; rintro e w1 ⟨rfl, rfl⟩)
    refine wp_region_grew (by kernel_rfl) (by kernel_rfl) ?_
    repeat (first
      | (go_big_quiet_want; (with_reducible apply quiet_load_at (ty := 30) (x := .tmp _)); rfl; rfl; assumption; go_simp; go_big_quiet_on)
      | (go_big_quiet_want; apply quiet_val; (intro w' hw'; go_simp; first | done | rfl); go_simp; go_big_quiet_on)
      | (go_big_quiet_skip))
    refine wpQuiet_nil ?_
    intro w3 hw3
    have HT3 := Lib.hid (HT.out.of_new hw3)
    have HO3 := Lib.hid (HO.out.of_new hw3)
    have HB3 := Lib.hid (below_next HB.out hw3)
    clear hlook hc2 hdg hw3
    go_upto_if 39 with (fail)
    go_cut [13] from 16 (fun s13 W' => ∃ E1 b, AnnMid w t mb most each E d ps s13 W' E1 b)
    case first =>
      rcases HMS.out with ⟨rfl, rfl, hno, rfl⟩ | ⟨rfl, b, rfl, hmem⟩
      · have HNO := Lib.hid hno
        have hmm := @run_makeMap Try.prog
        clear hno
        go_upto_region 6 with (fail)
        obtain ⟨w5, hw5⟩ : ∃ w5, w3.alloc (.map #[] 0) = w5 := ⟨_, rfl⟩
        have hb5 : Below w3.heap.size w3 w5 := by rw [← hw5]; exact (Below.refl _ w3).alloc (Nat.le_refl _) _
        have hin : MapL KInt w5 w3.heap.size [] := by rw [← hw5]; exact mapL_made w3
        rw [hw5]
        have hT5 := HT3.out.of_new hb5
        have hdg : DigAt w5 w.heap.size 0 d := (HO3.out.of_new hb5).at_
        have hc2 := fun w' (h : Grew w5 w') => Grew.cell h hT5.cell2
        have HT5 := Lib.hid hT5
        have HIN := Lib.hid hin
        have HB5 := Lib.hid (below_next HB3.out hb5)
        have HO5 := Lib.hid (HO3.out.of_new hb5)
        have HW5 := Lib.hid hw5
        clear hb5 hin hT5 hw5
        refine wp_region_grew_tail 6 (by kernel_rfl) (by kernel_rfl) ?_
        simp only [List.take_succ_cons, List.take_zero, List.drop_succ_cons, List.drop_zero]
        repeat (first
          | (go_big_quiet_want; (with_reducible apply quiet_load_at (ty := 30) (x := .tmp _)); rfl; rfl; assumption; go_simp; go_big_quiet_on)
          | (go_big_quiet_want; apply quiet_val; (intro w' hw'; go_simp; first | done | rfl); go_simp; go_big_quiet_on)
          | (go_big_quiet_skip))
        refine wpQuiet_nil ?_
        intro w6 hw6
        have hT6 := HT5.out.of_new hw6
        obtain ⟨w7, hput, hml, hgr, hsz⟩ := hT6.map.put (t := 64) Try.underlying64 (KT := KDig) (x := d) H32.out (.map (some w3.heap.size)) (by rw [List.length_map]; have := HEL.out; omega)
        replace hput : (Instr.mapUpdate 64 (.map (some mb)) (.agg (d.map B8).toArray) (.map (some w3.heap.size))).run Try.prog w6 = .ok () w7 := hput
        have hlt3 : ∀ k, ownE mb E k → k < w3.heap.size := fun k hk => HT3.out.own_lt hk
        have hmid : AnnMid w t mb most each E d [] (.map (some w3.heap.size)) w7 (insK kD (d, (w3.heap.size, [])) E) w3.heap.size := by
          have hb3s := HB3.out.size
          have hT7 := hT6.put_new HRS.out HDG.out H32.out HNO.out ⟨by have := HT3.out.lt; omega, fun h => by have := hlt3 _ h; omega⟩ (HIN.out.of_new hw6) hml hgr
          have hB6 := below_next HB5.out hw6
          refine ⟨rfl, hT7, (mem_insK HRS.out).2 (.inl rfl), HRS.out.ins _, fun x hx => ?_, ?_, fun ps' => ?_, ⟨((Kept.refl _ w).below hB6).grown hgr (fun r e => by cases e; exact fun h => h (.inl rfl)), fun k hk => ?_⟩, (HO5.out.of_new hw6).of_block (hgr.block _ (HO5.out.of_new hw6).lt (fun e => ?_))⟩
          · rcases (mem_insK HRS.out).1 hx with rfl | ⟨h1, _⟩
            · exact H32.out
            · exact HDG.out x h1
          · rw [insK_len HRS.out]; have := HEL.out; split <;> omega
          · rw [insK_ins (f := kD) (x := (d, (w3.heap.size, ps'))) (y := (d, (w3.heap.size, []))) HRS.out rfl, tabOf_ins]
          · rcases own_put_new HRS.out hk with h | h
            · exact .inl h
            · exact .inr (by omega)
          · have h1 : mb = w.heap.size := by cases e; rfl
            have h2 := HT.out.map
            have h3 := HO.out.1
            obtain ⟨es, ⟨a, c, h4, _⟩, _⟩ := h2
            rw [h1, h3] at h4; cases h4
        have HMID := Lib.hid hmid
        clear hc2 hdg hml hgr hsz hT6 hw6 hlt3 hmid
        go_wp2
        go_meet
        exact ⟨_, _, HMID.out⟩
      · have hmid : AnnMid w t mb most each E d ps (.map (some b)) w3 E b := by
          refine ⟨rfl, HT3.out, hmem, HRS.out, HDG.out, by have := HEL.out; omega, fun ps' => tabOf_ins _, ⟨(Kept.refl _ w).below HB3.out, fun k hk => .inl hk⟩, HO3.out⟩
        have HMID := Lib.hid hmid
        clear hmid hmem
        go_wp2
        go_meet
        exact ⟨_, _, HMID.out⟩
    case rest =>
      obtain ⟨E1, b, hmid⟩ := hcut
      have hv := hmid.val
      subst hv
      have HMID := Lib.hid hmid
      have hin : MapL KInt wc b (ps.map inE) := hmid.tab.ins _ hmid.mem
      obtain ⟨o, ho⟩ : ∃ o, oldP id ps = o := ⟨_, rfl⟩
      have hlk := hin.look (t := 68) Try.underlying68 (zero_peer wc) (KT := KInt) (x := id) (show _ ∧ _ by omega)
      rw [getL_in, show ((getK PeerL.id id ps).map RPeer.V).getD (RPeer.V PeerL.zero) = RPeer.V (oldP id ps) by unfold oldP; cases getK PeerL.id id ps <;> rfl, ho] at hlk
      replace hlk : (Instr.lookup 68 (.map (some b)) (.int .i64 id) false).run Try.prog wc = .ok (RPeer.V o) wc := hlk
      have hoT := oldP_le HPS.out id
      rw [ho] at hoT
      have HO9 := Lib.hid ho
      have HIN := Lib.hid hin
      clear hin ho hmid
      go_upto_region 8 with (first
        | ((with_reducible refine wpList_plain (o := ⟨some 15, Op.alloc _, _, _, _, _⟩) rfl fun K hK => ?_); (refine RPeer.wp_alloc rfl fun w7 ho7 hb7 hs7 => hK _ _ ?_); have HO7 := Lib.hid ho7; have HB7 := Lib.hid hb7; clear ho7 hb7 hs7)
        | ((with_reducible refine wpList_plain (o := ⟨none, Op.store _ (.tmp 15) (.tmp 49), _, _, _, _⟩) rfl fun K hK => ?_); (refine HO7.out.store (.tmp 15) (.tmp 49) rfl rfl rfl (RPeer_ok o) fun w8 ho8 hg8 hs8 => hK _ _ ?_); have HB8 := Lib.hid (HB7.out.grown hg8 (by have := HB7.out.size; omega) (fun k e => by cases e; exact Nat.le_refl _)); have HP8 := Lib.hid ho8; clear ho8 hg8 hs8))
      have hc8 := RPeer_till HP8.out
      have hd8 := RPeer_seed HP8.out
      have hin8 := HIN.out.of_new HB8.out
      have HIN8 := Lib.hid hin8
      have hbp := build_peer
      clear hlk hin8
      try simp only [Act.put]
      try go_frame
      go_cut [13] from 16 (fun s13 W' => s13 = .map (some b) ∧ MapL KInt W' b ((withP id (now + life) seed ps).map inE) ∧ w8.grownBy W' (some b))
      case first =>
        have hput := fun v => HIN8.out.put (t := 68) Try.underlying68 (KT := KInt) (x := id) (show _ ∧ _ by omega) v (by rw [List.length_map]; have := HPL.out; omega)
        cases seed with
        | true =>
          obtain ⟨w9, hp9, hm9, hg9, hs9⟩ := hput (.agg #[.int .i64 id, .int .i64 (max o.till (now + life)), .bool true])
          replace hp9 : (Instr.mapUpdate 68 (.map (some b)) (.int .i64 id) (.agg #[.int .i64 id, .int .i64 (max o.till (now + life)), .bool true])).run Try.prog w8 = .ok () w9 := hp9
          have HM9 := Lib.hid (show MapL KInt w9 b ((withP id (now + life) true ps).map inE) from by unfold withP; rw [HO9.out]; exact put_in (p := ⟨id, max o.till (now + life), true⟩) hm9 HPS.out.rise)
          have HG9 := Lib.hid hg9
          clear hput hm9 hg9 hs9
          go_wp2
          go_meet
          exact ⟨rfl, HM9.out, HG9.out⟩
        | false =>
          obtain ⟨w9, hp9, hm9, hg9, hs9⟩ := hput (.agg #[.int .i64 id, .int .i64 (max o.till (now + life)), .bool o.seed])
          replace hp9 : (Instr.mapUpdate 68 (.map (some b)) (.int .i64 id) (.agg #[.int .i64 id, .int .i64 (max o.till (now + life)), .bool o.seed])).run Try.prog w8 = .ok () w9 := hp9
          have HM9 := Lib.hid (show MapL KInt w9 b ((withP id (now + life) false ps).map inE) from by unfold withP; rw [HO9.out]; exact put_in (p := ⟨id, max o.till (now + life), o.seed⟩) hm9 HPS.out.rise)
          have HG9 := Lib.hid hg9
          clear hput hm9 hg9 hs9
          go_wp2
          go_meet
          exact ⟨rfl, HM9.out, HG9.out⟩
      case rest =>
        rename World => w9
        obtain ⟨rfl, hm9, hg9⟩ := hcut
        obtain ⟨P1, hP1⟩ : ∃ P1, withP id (now + life) seed ps = P1 := ⟨_, rfl⟩
        have hp1 : PsOk P1 := by rw [← hP1]; exact HPS.out.withP seed hA.1 (by omega)
        have hp1n : P1 ≠ [] := by rw [← hP1]; exact withP_ne HPS.out
        have hp1l : (P1.length : Int) ≤ each + 1 := by have := withP_len (id := id) (till := now + life) (seed := seed) HPS.out; rw [hP1] at this; have := HPL.out; omega
        rw [hP1] at hm9
        have hst9 : AnnSt w t mb most each E d P1 w9 (insK kD (d, (b, P1)) E1) b := by
          have hmid := HMID.out
          refine ⟨(hmid.tab.of_new HB8.out).set hmid.rise hmid.mem hm9 hg9, (mem_insK hmid.rise).2 (.inl rfl), hmid.rise.ins _, fun x hx => ?_, ?_, hmid.back P1, (hmid.step.new HB8.out).grown hg9 (.inr ⟨_, hmid.mem, rfl⟩) (fun k hk => own_set hmid.rise hmid.mem hk), (hmid.box.of_new HB8.out).of_block (hg9.block _ (hmid.box.of_new HB8.out).lt (fun e => ?_))⟩
          · rcases (mem_insK hmid.rise).1 hx with rfl | ⟨h1, _⟩
            · exact H32.out
            · exact hmid.dig x h1
          · rw [insK_len hmid.rise]; have := hmid.len; split <;> omega
          · have h1 : b = w.heap.size := by cases e; rfl
            obtain ⟨es, ⟨a, c, h4, _⟩, _⟩ := HIN8.out
            rw [h1, (hmid.box.of_new HB8.out).1] at h4; cases h4
        have HST9 := Lib.hid hst9
        have HP1 := Lib.hid hp1
        have HN1 := Lib.hid hp1n
        have HL1 := Lib.hid hp1l
        have HPE := Lib.hid hP1
        have hlen := fun w' (h : Grew w9 w') ty => (hm9.of_new h).len (t := 68) Try.underlying68 ty
        simp only [List.length_map] at hlen
        have hc1 := fun w' (h : Grew w9 w') => Grew.cell h hst9.tab.cell1
        clear hst9 hp1 hp1n hp1l hP1 hm9 hg9 hc8 hd8 hbp
        go_upto_region 9 with (fail)
        refine wp_region_grew (by kernel_rfl) (by kernel_rfl) ?_
        repeat (first
          | (go_big_quiet_want; (with_reducible apply quiet_load_at (ty := 30) (x := .tmp _)); rfl; rfl; assumption; go_simp; go_big_quiet_on)
          | (go_big_quiet_want; apply quiet_val; (intro w' hw'; go_simp; first | done | rfl); go_simp; go_big_quiet_on)
          | (go_big_quiet_skip))
        refine wpQuiet_nil ?_
        intro w10 hw10
        have HST10 := Lib.hid (HST9.out.new hw10)
        clear hlen hc1 hw10
        go_upto_if 71 with (fail)
        go_cut [13] from 16 (fun s13 W' => ∃ E3 P3, roomP each P1 = P3 ∧ AnnSt w t mb most each E d P3 W' E3 b)
        case first =>
          by_cases hbig : each < (P1.length : Int)
          · have hroom : roomP each P1 = delK PeerL.id (firstP P1).id P1 := if_pos hbig
            have HRM := Lib.hid hroom
            clear hroom
            go_wp2_with (go_at_call 24; refine (PFirst_any (.map (some b)) P1 _ (.inl ⟨b, rfl, HST10.out.inner⟩) HP1.out.rise HN1.out (by have := HL1.out; omega)).mono ?_; rintro e w11 ⟨rfl, hb11⟩; have HST11 := Lib.hid (HST10.out.new hb11); have hfid := HP1.out.ok _ (firstP_mem HN1.out); unfold PeerOk at hfid; obtain ⟨w12, hdel, hm12, hg12, hs12⟩ := HST11.out.inner.del (t := 68) Try.underlying68 (KT := KInt) (x := (firstP P1).id) (show _ ∧ _ by omega) 0; replace hdel : (Builtin.delete_ #[68, 3] 0 #[.map (some b), .int .i64 (firstP P1).id]).run Try.prog w11 = .ok (.tuple #[]) w12 := hdel; have HST12 := Lib.hid (HST11.out.set (ps' := delK PeerL.id (firstP P1).id P1) (by rwa [delL_in] at hm12) hg12 HRT.out); clear hfid hm12 hg12 hs12 hb11)
            go_meet
            exact ⟨_, _, HRM.out, HST12.out⟩
          · have hroom : roomP each P1 = P1 := if_neg hbig
            have HRM := Lib.hid hroom
            clear hroom
            go_wp2
            go_meet
            exact ⟨_, _, HRM.out, HST10.out⟩
        case rest =>
          rename World => w13
          obtain ⟨E3, P3, hr3, hst3⟩ := hcut
          have hl3 := hst3.tab.map
          have hlen := fun w' (h : Grew w13 w') ty => (hl3.of_new h).len (t := 64) Try.underlying64 ty
          simp only [List.length_map] at hlen
          have hc0 := fun w' (h : Grew w13 w') => Grew.cell h hst3.tab.cell0
          have hc2 := fun w' (h : Grew w13 w') => Grew.cell h hst3.tab.cell2
          have HST3 := Lib.hid hst3
          have HR3 := Lib.hid hr3
          clear hl3 hst3 hr3
          go_upto_region 11 with (fail)
          refine wp_region_grew (by kernel_rfl) (by kernel_rfl) ?_
          repeat (first
            | (go_big_quiet_want; (with_reducible apply quiet_load_at (ty := 30) (x := .tmp _)); rfl; rfl; assumption; go_simp; go_big_quiet_on)
            | (go_big_quiet_want; apply quiet_val; (intro w' hw'; go_simp; first | done | rfl); go_simp; go_big_quiet_on)
            | (go_big_quiet_skip))
          refine wpQuiet_nil ?_
          intro w14 hw14
          have HST14 := Lib.hid (HST3.out.new hw14)
          clear hlen hc0 hc2 hw14
          have hfin : ∃ T3, tabOf E3 = T3 ∧ T3.length = E3.length ∧ T3 = insK kD (d, roomP each (withP id (now + life) seed ps)) (tabOf E) := ⟨_, rfl, by simp [tabOf], by rw [HPE.out, HR3.out]; exact HST14.out.back⟩
          obtain ⟨T3, hT3, hT3l, hT3e⟩ := hfin
          have HFT := Lib.hid hT3
          have HFL := Lib.hid hT3l
          have HFE := Lib.hid hT3e
          clear hT3 hT3l hT3e
          by_cases hbig : most < (E3.length : Int)
          · have hroom : roomT most T3 = delK kD (natL (firstT T3).1) T3 := if_pos (by rw [HFL.out]; exact hbig)
            have HRM := Lib.hid hroom
            have hc2 := fun w' (h : Grew w14 w') => Grew.cell h HST14.out.tab.cell2
            have hrT : Rising kD (tabOf E3) := Rising.map (f := kD) (fun _ => rfl) HST14.out.rise
            have HRT3 := Lib.hid hrT
            clear hroom hrT
            go_upto_region 12 with (fail)
            refine wp_region_grew_tail 6 (by kernel_rfl) (by kernel_rfl) ?_
            simp only [List.take_succ_cons, List.take_zero, List.drop_succ_cons, List.drop_zero]
            repeat (first
              | (go_big_quiet_want; (with_reducible apply quiet_load_at (ty := 30) (x := .tmp _)); rfl; rfl; assumption; go_simp; go_big_quiet_on)
              | (go_big_quiet_want; apply quiet_val; (intro w' hw'; go_simp; first | done | rfl); go_simp; go_big_quiet_on)
              | (go_big_quiet_want; apply quiet_call (f := 25); (intro w' hw'; go_simp; first | done | rfl); (intro w' hw'; exact Grew.call hw' (first_below (TFirst_any t mb most each E3 w' (HST14.out.tab.of_new hw') HRT3.out HST14.out.dig (fun e => by have := HST14.out.mem; rw [e] at this; cases this) (by have := HST14.out.len; omega)))); go_simp; go_big_quiet_on)
              | (go_big_quiet_skip))
            refine wpQuiet_nil ?_
            intro w15 hw15
            have HST15 := Lib.hid (HST14.out.new hw15)
            clear hc2 hw15
            rw [HFT.out]
            have hf32 : (firstT T3).1.length = 32 := by
              have hne : T3 ≠ [] := fun e => by
                have h1 := HFL.out
                rw [e] at h1
                have h2 := HST15.out.mem
                rw [List.eq_nil_of_length_eq_zero h1.symm] at h2
                cases h2
              have hm := firstT_mem hne
              rw [← HFT.out] at hm ⊢
              obtain ⟨x, hx, he⟩ := List.mem_map.1 hm
              rw [← he]; exact HST15.out.dig x hx
            generalize hf : (firstT T3).1 = f at *
            obtain ⟨w16, hdel, hml, hgr, hsz⟩ := HST15.out.tab.map.del (t := 64) Try.underlying64 (KT := KDig) (x := f) hf32 0
            replace hdel : (Builtin.delete_ #[64, 30] 0 #[.map (some mb), RDig.V f]).run Try.prog w15 = .ok (.tuple #[]) w16 := hdel
            have hT16 := HST15.out.tab.cut HST15.out.dig hf32 hml hgr
            have hS16 : TabStep mb E (delK kD (natL f) E3) w w16 := HST15.out.step.grown hgr (.inl rfl) (fun k hk => own_cut hk)
            have HT16 := Lib.hid hT16
            have HS16 := Lib.hid hS16
            clear hT16 hS16 hml hgr hsz hf hf32
            go_wp2
            go_ret
            exact ⟨delK kD (natL f) E3, by rw [tabOf_del, HFT.out, ← HFE.out, HRM.out], rfl, HT16.out, HS16.out⟩
          · have hroom : roomT most T3 = T3 := if_neg (by rw [HFL.out]; exact hbig)
            have HRM := Lib.hid hroom
            clear hroom
            go_wp2
            go_ret
            exact ⟨E3, by rw [HFT.out, ← HFE.out, HRM.out], rfl, HST14.out.tab, HST14.out.step⟩
  · have hann : annT most each (tabOf E) d id now life seed = (tabOf E, 1) := by unfold annT; rw [if_neg hargs]
    unfold AnnPost
    rw [hann]
    have hb : Below w.heap.size w (w.alloc (.cells (d.map B8).toArray 30)) := (Below.refl _ w).alloc (Nat.le_refl _) _
    have HT := Lib.hid (hT.of_new hb)
    have HB := Lib.hid hb
    have h3 : within id 1 65536 = false ∨ (within id 1 65536 = true ∧ within now 0 1099511627776 = false) ∨ (within id 1 65536 = true ∧ within now 0 1099511627776 = true ∧ within life 1 1048576 = false) := by
      have : argsB id now life = (within id 1 65536 && (within now 0 1099511627776 && within life 1 1048576)) := rfl
      rcases e1 : within id 1 65536 with _ | _
      · exact .inl rfl
      · rcases e2 : within now 0 1099511627776 with _ | _
        · exact .inr (.inl ⟨rfl, rfl⟩)
        · rcases e3 : within life 1 1048576 with _ | _
          · exact .inr (.inr ⟨rfl, rfl, rfl⟩)
          · exact absurd (by rw [this, e1, e2, e3]; rfl) hargs
    clear hann hargs hT hE hdig hrise hElen hb
    rcases h3 with c1 | ⟨c1, c2⟩ | ⟨c1, c2, c3⟩
    all_goals
      go_enter Try.func11, Try.ntmps11
      go_wp2_with (go_at_call 23; refine (within_any _ _ _ _).mono ?_; rintro e w1 ⟨rfl, rfl⟩)
      go_ret
      exact ⟨E, rfl, rfl, HT.out, (TabStep.refl mb E w).new HB.out⟩

end Go.Proofs.Ytnohglkilpnjhaa

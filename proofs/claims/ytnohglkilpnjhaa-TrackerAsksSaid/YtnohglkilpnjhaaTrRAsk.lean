/- The walk of the document's answer's Ask. Condition: the table as it lies. -/
import Derived.Test.YtnohglkilpnjhaaTrRPeers
import Derived.Test.YtnohglkilpnjhaaTrRSamp
import Derived.Test.YtnohglkilpnjhaaTrAsk
namespace Go.Proofs.Ytnohglkilpnjhaa
open Go.RowKit
set_option linter.unusedVariables false
set_option linter.unusedSimpArgs false
set_option maxRecDepth 100000

theorem build_rsrc (s : Nat) (W : World) : (Instr.build 106 #[(0, .int .u64 (s : Int))]).run Try.prog W = .ok (.agg #[.int .u64 (s : Int)]) W := by kernel_rfl

set_option maxHeartbeats 3200000 in
theorem RAsk_any (r : Nat) (many most : Int) (B : Nat) (v : Value) (L : RefL) (T : TabL) (d : List UInt8) (id cnt : Int) (seed : Nat) (w : World) (hR : RTabP w r many most B v L T) (hT : TabOk many most T) (hm : 1 ≤ many ∧ many ≤ 1000) (he : 1 ≤ most ∧ most ≤ 64) (h32 : d.length = 32) (hseed : seed < 18446744073709551616) :
    Calls Try.prog 34 #[.pointer (some ⟨r, 0, none⟩), .agg (d.map B8).toArray, .int .i64 id, .int .i64 cnt, .int .u64 (seed : Int)] w fun e w' => ∃ u, e = .returned u ∧ Ints w' u (sampleL seed (othersL (peersT d T) id) cnt) ∧ Below w.heap.size w w' := by
  obtain ⟨W, hW⟩ : ∃ W, w.alloc (.cells (d.map B8).toArray 30) = W := ⟨_, rfl⟩
  have ho : DigO W w.heap.size d := by rw [← hW]; exact digO_new w h32
  have hb : Below w.heap.size w W := by rw [← hW]; exact (Below.refl _ w).alloc (Nat.le_refl _) _
  have hP := RPeers_any r many most B v L T d W (hR.of_new hb) hT hm h32
  obtain ⟨hps, hpl⟩ := peersT_ok hT he.1 d
  obtain ⟨ps, hps2⟩ : ∃ ps, peersT d T = ps := ⟨_, rfl⟩
  rw [hps2] at hP hps hpl ⊢
  have hl64 : ps.length ≤ 64 := by omega
  have hdg : DigAt W w.heap.size 0 d := ho.at_
  have HDG := Lib.hid hdg
  have HW := Lib.hid hW
  have HB := Lib.hid hb
  have HP := Lib.hid hP
  have hbs := build_rsrc seed
  clear hR hT hW hb hP hps hps2 ho hpl hdg
  go_enter Try.func34, Try.ntmps34
  go_upto_region 1 with (fail)
  rw [HW.out]
  go_wp2_with (first
    | ((with_reducible refine wpList_plain (o := ⟨some 16, Op.load _ _, _, _, _, _⟩) rfl fun K hK => ?_); (refine wp_load_at (ty := 30) (x := .tmp 6) rfl rfl HDG.out (hK _ _ ?_)))
    | (go_at_call 18; refine HP.out.mono ?_; rintro e w1 ⟨v1, rfl, ho1, hb1⟩; obtain ⟨a1, c1, hv⟩ := ho1.len; subst hv; have HO1 := Lib.hid ho1; have HB1 := Lib.hid (below_next HB.out hb1); have HS1 := Lib.hid hb1.size; clear ho1 hb1))
  go_loopw [12, 13] (fun lv iv W' => AskI w1 ps id lv iv W') (fun _ iv _ => ps.length - (intOf iv).toNat)
  case atStart => exact ⟨0, Nat.zero_le _, rfl, OwnN.nil _ _, Below.refl _ _⟩
  case round =>
    obtain ⟨k, hk, rfl, hown, hbr⟩ := hrel
    obtain ⟨la, lc, hv⟩ := hown.ints.len
    subst hv
    have hob := othersL_len (ps.take k) id
    rw [List.length_take] at hob
    by_cases hlt : k < ps.length
    · obtain ⟨b, off, c', hv, hbl, hc⟩ := HO1.out.at_ (by omega)
      obtain ⟨rfl, rfl⟩ : a1 = some ⟨b, off, none⟩ ∧ c1 = c' := by cases hv; exact ⟨rfl, rfl⟩
      obtain ⟨p, hp⟩ : ∃ p, ps[k]? = some p := ⟨_, List.getElem?_eq_getElem hlt⟩
      have hc0 : wr.cell? ⟨b, off + k * 3, none⟩ = some (.int .i64 p.id) := (peer_cells ((hc k p hp).of_new hbr)).1
      have hki : (k : Int) < (ps.length : Int) := by omega
      have hst := othersL_step hp id
      have hsz := hbr.size
      obtain ⟨L, hL⟩ : ∃ L, othersL (ps.take k) id = L := ⟨_, rfl⟩
      rw [hL] at hown hst hob ⊢
      have HOWN := Lib.hid hown
      have HBR := Lib.hid hbr
      have HST := Lib.hid hst
      have HOB := Lib.hid hob
      have HSZ := Lib.hid hsz
      clear hv hc hp hown hbr hst hL hob hsz hbs
      by_cases hid : p.id = id
      · have hst := HST.out
        rw [if_pos hid] at hst
        have HST2 := Lib.hid hst
        clear hst
        have hbe : (p.id != id) = false := by simp [hid]
        go_wp2
        go_roundw
        case rel => exact ⟨k + 1, by omega, by go_num, by rw [HST2.out]; exact HOWN.out, HBR.out⟩
        case measure => simp [intOf]; omega
      · have hst := HST.out
        rw [if_neg hid] at hst
        have HST2 := Lib.hid hst
        clear hst
        have hbe : (p.id != id) = true := by simp [hid]
        go_wp2_with ((with_reducible refine wpList_plain (o := ⟨some 38, Op.call _, _, _, _, _⟩) rfl fun K hK => ?_); refine wp_appN (.tmp 31) (.tmp 37) rfl w1.heap.size _ L rfl (HOWN.out.of_new ((Below.refl _ wr).alloc (Nat.le_refl _) _)) _ [p.id] rfl (one_ints wr p.id _) (by have := HOB.out; simp; omega) (by have := HBR.out.size; simp; omega) fun v6 w6 hown6 hg6 hu6 => hK _ _ ?_; have HOWN6 := Lib.hid hown6; have HB6 := Lib.hid ((HBR.out.alloc (HBR.out.size) _).grown hg6 (by have := HBR.out.size; simp; omega) (fun k e => (HOWN.out.lt k e).1)); clear hown6 hg6 hu6)
        go_roundw
        case rel => exact ⟨k + 1, by omega, by go_num, by rw [HST2.out]; exact HOWN6.out, HB6.out⟩
        case measure => simp [intOf]; omega
    · have hki : ¬ (k : Int) < (ps.length : Int) := by omega
      rw [List.take_of_length_le (by omega)] at hown hob ⊢
      obtain ⟨L, hL⟩ : ∃ L, othersL ps id = L := ⟨_, rfl⟩
      rw [hL] at hown hob ⊢
      have HLE := Lib.hid hL
      have HOWN := Lib.hid hown.ints
      have HB2 := Lib.hid (below_next HB1.out hbr)
      have HOB := Lib.hid hob
      clear hown hbr hob hL
      go_upto_region 9 with (fail)
      generalize hW5 : World.alloc wr _ = w5
      obtain ⟨hs5, hb5⟩ : RSrcO w5 wr.heap.size seed ∧ Below wr.heap.size wr w5 := by
        subst hW5
        exact ⟨⟨heap_alloc_new wr _, hseed⟩, (Below.refl _ wr).alloc (Nat.le_refl _) _⟩
      obtain ⟨g, hg⟩ : ∃ g, wr.heap.size = g := ⟨_, rfl⟩
      have HG := Lib.hid (show w.heap.size ≤ g by rw [← hg]; exact HB2.out.size)
      have HOWN5 := Lib.hid (HOWN.out.of_new hb5)
      have HB5 := Lib.hid (below_next HB2.out hb5)
      rw [hg] at hs5 ⊢
      have HS5 := Lib.hid hs5
      clear hW5 hs5 hb5 hg hbs
      go_wp2_with (first
        | (go_at_call 60; refine (RSample_any g seed _ L cnt _ HS5.out HOWN5.out (by have := HOB.out; omega)).mono ?_; rintro e w6 ⟨v6, rfl, hi6, hk6⟩; have HI6 := Lib.hid hi6; have HK6 := Lib.hid hk6; clear hi6 hk6))
      go_ret
      have hbl := Kept.to_below HB5.out HK6.out HB5.out.size (fun k hk e => by have h1 := HG.out; omega)
      have hin := HI6.out
      rw [← HLE.out] at hin
      exact ⟨_, rfl, hin, hbl⟩

end Go.Proofs.Ytnohglkilpnjhaa

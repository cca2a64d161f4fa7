/- The walk of the tracker's Ask. Condition: the table's bounds are those that New lets. -/
import Derived.Test.YtnohglkilpnjhaaGc
import Derived.Test.YtnohglkilpnjhaaTrSamp
namespace Go.Proofs.Ytnohglkilpnjhaa
open Go.RowKit
set_option linter.unusedVariables false
set_option linter.unusedSimpArgs false
set_option maxRecDepth 100000

/-- The peers but one, by their numbers. -/
def othersL (l : List PeerL) (id : Int) : List Int := (l.filter (fun p => p.id != id)).map (fun p => p.id)
theorem othersL_step {l : List PeerL} {k : Nat} {p : PeerL} (hp : l[k]? = some p) (id : Int) : othersL (l.take (k + 1)) id = if p.id = id then othersL (l.take k) id else othersL (l.take k) id ++ [p.id] := by
  have hk : k < l.length := (List.getElem?_eq_some_iff.1 hp).1
  have e : l.take (k + 1) = l.take k ++ [p] := by rw [List.take_add_one, hp]; rfl
  unfold othersL
  rw [e, List.filter_append]
  by_cases h : p.id = id
  · simp [h]
  · simp [h]
theorem othersL_len (l : List PeerL) (id : Int) : (othersL l id).length ≤ l.length := by
  unfold othersL
  rw [List.length_map]
  exact List.length_filter_le _ _

/-- Ahead of each round. -/
def AskI (w1 : World) (ps : List PeerL) (id : Int) (lv iv : Value) (W : World) : Prop :=
  ∃ k : Nat, k ≤ ps.length ∧ iv = .int .i64 (k : Int) ∧ OwnN W w1.heap.size lv (othersL (ps.take k) id) ∧ Below w1.heap.size w1 W

set_option maxHeartbeats 3200000 in
theorem Ask_any (t mb : Nat) (most each : Int) (E : EntL) (d : List UInt8) (id many : Int) (seed : Nat) (w : World) (hT : TabP w t most each mb E) (hE : EntOk most each E) (he : 1 ≤ each ∧ each ≤ 64) (h32 : d.length = 32) (hseed : seed < 18446744073709551616) :
    Calls Try.prog 22 #[.pointer (some ⟨t, 0, none⟩), .agg (d.map B8).toArray, .int .i64 id, .int .i64 many, .int .u64 (seed : Int)] w fun e w' => ∃ v, e = .returned v ∧ Ints w' v (sampleL seed (othersL (peersT d (tabOf E)) id) many) ∧ Below w.heap.size w w' := by
  obtain ⟨W, hW⟩ : ∃ W, w.alloc (.cells (d.map B8).toArray 30) = W := ⟨_, rfl⟩
  have ho : DigO W w.heap.size d := by rw [← hW]; exact digO_new w h32
  have hb : Below w.heap.size w W := by rw [← hW]; exact (Below.refl _ w).alloc (Nat.le_refl _) _
  have hTW := hT.of_new hb
  have hP := Peers_any t mb most each E d W hTW hE he h32
  obtain ⟨hps, hpl⟩ := peersT_ok hE he.1 d
  obtain ⟨ps, hps2⟩ : ∃ ps, peersT d (tabOf E) = ps := ⟨_, rfl⟩
  rw [hps2] at hP hps hpl ⊢
  have hWs : w.heap.size < W.heap.size := ho.lt
  have hl64 : ps.length ≤ 64 := by omega
  have hdg : DigAt W w.heap.size 0 d := ho.at_
  have HDG := Lib.hid hdg
  have HW := Lib.hid hW
  have HB := Lib.hid hb
  have HP := Lib.hid hP
  have HWS := Lib.hid hWs
  clear hT hE hW hb hTW hP hps hps2 ho hpl hdg hWs
  go_enter Try.func22, Try.ntmps22
  go_upto_region 1 with (fail)
  rw [HW.out]
  go_wp2_with (first
    | ((with_reducible refine wpList_plain (o := ⟨some 15, Op.load _ _, _, _, _, _⟩) rfl fun K hK => ?_); (refine wp_load_at (ty := 30) (x := .tmp 6) rfl rfl HDG.out (hK _ _ ?_)))
    | (go_at_call 12; refine HP.out.mono ?_; rintro e w1 ⟨v1, rfl, ho1, hb1⟩; obtain ⟨a1, c1, hv⟩ := ho1.row.len; subst hv; have HO1 := Lib.hid ho1.row; have HB1 := Lib.hid (below_next HB.out hb1); have HS1 := Lib.hid hb1.size; clear ho1 hb1))
  go_loopw [11, 13, 18] (fun lv _ iv W' => AskI w1 ps id lv iv W') (fun _ _ iv _ => ps.length - (intOf iv).toNat)
  case atStart => exact ⟨0, Nat.zero_le _, rfl, OwnN.nil _ _, Below.refl _ _⟩
  case round =>
    obtain ⟨k, hk, rfl, hown, hbr⟩ := hrel
    obtain ⟨la, lc, hv⟩ := hown.ints.len
    subst hv
    have hob := othersL_len (ps.take k) id
    rw [List.length_take] at hob
    by_cases hlt : k < ps.length
    · obtain ⟨b, off, c', hv, hbl, hc⟩ := HO1.out.at_ (by omega)
      obtain ⟨rfl, rfl⟩ : a1 = some ⟨b, off, none⟩ ∧ c1 = c' := by cases hv; exact ⟨rfl, rfl⟩
      obtain ⟨p, hp⟩ : ∃ p, ps[k]? = some p := ⟨_, List.getElem?_eq_getElem hlt⟩
      have hat := (hc k p hp).of_new hbr
      have hki : (k : Int) < (ps.length : Int) := by omega
      have hst := othersL_step hp id
      have hsz := hbr.size
      obtain ⟨L, hL⟩ : ∃ L, othersL (ps.take k) id = L := ⟨_, rfl⟩
      rw [hL] at hown hst hob ⊢
      have HOWN := Lib.hid hown
      have HBR := Lib.hid hbr
      have HAT := Lib.hid hat
      have HST := Lib.hid hst
      have HOB := Lib.hid hob
      have HSZ := Lib.hid hsz
      clear hv hc hp hown hbr hat hst hL hob hsz
      go_upto_region 5 with (first
        | ((with_reducible refine wpList_plain (o := ⟨some 21, Op.load _ _, _, _, _, _⟩) rfl fun K hK => ?_); (refine HAT.out.wp rfl rfl (hK _ _ ?_)))
        | ((with_reducible refine wpList_plain (o := ⟨some 13, Op.alloc _, _, _, _, _⟩) rfl fun K hK => ?_); (refine RPeer.wp_alloc rfl fun w4 ho4 hb4 hs4 => hK _ _ ?_); have HO4 := Lib.hid ho4; have HB4 := Lib.hid hb4; clear ho4 hb4 hs4)
        | ((with_reducible refine wpList_plain (o := ⟨none, Op.store _ (.tmp 13) (.tmp 21), _, _, _, _⟩) rfl fun K hK => ?_); (refine HO4.out.store (.tmp 13) (.tmp 21) rfl rfl rfl (RPeer_ok p) fun w5 ho5 hg5 hs5 => hK _ _ ?_); have HO5 := Lib.hid ho5; have HB5 := Lib.hid (HB4.out.grown hg5 (by have := HB4.out.size; omega) (fun k e => by cases e; exact Nat.le_refl _)); clear ho5 hg5 hs5))
      have hc0 := RPeer_id HO5.out
      by_cases hid : p.id = id
      · have hst := HST.out
        rw [if_pos hid] at hst
        have HST2 := Lib.hid hst
        clear hst
        have hbe : (p.id != id) = false := by simp [hid]
        have hbe2 : (p.id == id) = true := by simp [hid]
        go_wp2
        go_roundw
        case rel => exact ⟨k + 1, by omega, by go_num, by rw [HST2.out]; exact HOWN.out.of_new HB5.out, below_next HBR.out HB5.out⟩
        case measure => simp [intOf]; omega
      · have hst := HST.out
        rw [if_neg hid] at hst
        have HST2 := Lib.hid hst
        clear hst
        have hbe : (p.id != id) = true := by simp [hid]
        have hbe2 : (p.id == id) = false := by simp [hid]
        have HOWN5 := Lib.hid (HOWN.out.of_new HB5.out)
        have HBR5 := Lib.hid (below_next HBR.out HB5.out)
        go_wp2_with ((with_reducible refine wpList_plain (o := ⟨some 30, Op.call _, _, _, _, _⟩) rfl fun K hK => ?_); refine wp_appN (.tmp 26) (.tmp 29) rfl w1.heap.size _ L rfl (HOWN5.out.of_new ((Below.refl _ w5).alloc (Nat.le_refl _) _)) _ [p.id] rfl (one_ints w5 p.id _) (by have := HOB.out; simp; omega) (by have := HBR5.out.size; simp; omega) fun v6 w6 hown6 hg6 hu6 => hK _ _ ?_; have HOWN6 := Lib.hid hown6; have HB6 := Lib.hid ((HBR5.out.alloc (HBR5.out.size) _).grown hg6 (by have := HBR5.out.size; simp; omega) (fun k e => (HOWN5.out.lt k e).1)); clear hown6 hg6 hu6)
        go_roundw
        case rel => exact ⟨k + 1, by omega, by go_num, by rw [HST2.out]; exact HOWN6.out, HB6.out⟩
        case measure => simp [intOf]; omega
    · have hki : ¬ (k : Int) < (ps.length : Int) := by omega
      rw [List.take_of_length_le (by omega)] at hown hob ⊢
      obtain ⟨L, hL⟩ : ∃ L, othersL ps id = L := ⟨_, rfl⟩
      rw [hL] at hown hob ⊢
      have HLE := Lib.hid hL
      have HOWN := Lib.hid hown.ints
      have HB2 := Lib.hid (below_next HB1.out hbr)
      have HOB := Lib.hid hob
      clear hown hbr hob hL
      go_wp2_with (first
        | (go_at_call 39; refine (DNew_any seed _ hseed).mono ?_; rintro e w5 ⟨g, rfl, hs5, hg5, hb5⟩; have HS5 := Lib.hid hs5; have HG5 := Lib.hid hg5; have HOWN5 := Lib.hid (HOWN.out.of_new hb5); have HB5 := Lib.hid (below_next HB2.out hb5); clear hs5 hg5 hb5)
        | (go_at_call 40; refine (Sample_any g seed _ L many _ HS5.out HOWN5.out (by have := HOB.out; omega)).mono ?_; rintro e w6 ⟨v6, rfl, hi6, hk6⟩; have HI6 := Lib.hid hi6; have HK6 := Lib.hid hk6; clear hi6 hk6))
      go_ret
      have hbl := Kept.to_below HB5.out HK6.out HB5.out.size (fun k hk e => by have h1 := HG5.out; have h2 := HB2.out.size; omega)
      have hin := HI6.out
      rw [← HLE.out] at hin
      exact ⟨_, rfl, hin, hbl⟩

end Go.Proofs.Ytnohglkilpnjhaa

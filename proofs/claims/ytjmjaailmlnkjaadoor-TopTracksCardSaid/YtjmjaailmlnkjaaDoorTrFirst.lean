/- The walks of a blob's first peer and last moment. No condition. -/
import Derived.Test.YtjmjaailmlnkjaaDoorTrMin
namespace Go.Proofs.YtjmjaailmlnkjaaDoor
open Go.RowKit Go.Shelf
attribute [local go_sem] Oper.semAt_some
set_option linter.unusedVariables false
set_option linter.unusedSimpArgs false
set_option maxRecDepth 100000

/-- All of a map's peers as a slice. -/
theorem collectPeers (m : Value) (ps : List PeerL) (w W : World) (hm : MapV KInt w m (ps.map inE)) (hl : ps.length ≤ 1000000) (hW : W = w.alloc (.cells #[m] 47)) :
    Calls Tryd.prog 18 #[.func (.func 35) #[] #[.pointer (some ⟨w.heap.size, 0, none⟩)]] W fun e w' => ∃ v qs, e = .returned v ∧ qs.Perm ps ∧ RPeer.Own w' W.heap.size v qs ∧ Below w.heap.size w w' := by
  have hs : W.heap.size = w.heap.size + 1 := by rw [hW]; simp
  have hb : Below w.heap.size w W := by rw [hW]; exact (Below.refl _ w).alloc (Nat.le_refl _) _
  have ho : One W w.heap.size m 47 := by rw [hW]; exact heap_alloc_new w _
  have hL : ∀ x ∈ ps.map inE, ∃ q, x = inE q := fun x hx => by obtain ⟨q, _, rfl⟩ := List.mem_map.1 hx; exact ⟨q, rfl⟩
  refine (CollectP_any _ _ (ps.map inE) w.heap.size (fun j => j = w.heap.size) W hL (by simpa using by omega) (by omega) (fun k hk => by subst hk; omega)
    (enters_of Tryd.func35 (by kernel_rfl) rfl)
    (fun W1 hb1 hs1 => values_seq 4 (by omega) w.heap.size w.heap.size m (ps.map inE) W1 w rfl (hb.trans (hb1.mono (by omega))) (Nat.le_refl _) (ho.of_new hb1) hm hL)).mono ?_
  rintro e w' ⟨v, qs, rfl, hp, hown, hbw⟩
  refine ⟨v, qs, rfl, ?_, hown, hb.trans hbw⟩
  have := hp.map decE
  rwa [dec_map, dec_map] at this

set_option maxHeartbeats 1600000 in
theorem PFirst_any (m : Value) (ps : List PeerL) (w : World) (hm : MapV KInt w m (ps.map inE)) (hr : Rising PeerL.id ps) (h0 : ps ≠ []) (hl : ps.length ≤ 1000000) :
    Calls Tryd.prog 11 #[m] w fun e w' => e = .returned (.int .i64 (firstP ps).id) ∧ Below w.heap.size w w' := by
  obtain ⟨W, hW⟩ : ∃ W, w.alloc (.cells #[m] 47) = W := ⟨_, rfl⟩
  have hC := collectPeers m ps w W hm hl hW.symm
  have hV := Values_any m w (hm.imp (fun ⟨b, e, _⟩ => ⟨b, e⟩) And.left)
  rw [hW] at hV
  have hS : W.heap.size = w.heap.size + 1 := by rw [← hW]; simp
  have HC := Lib.hid hC
  have HV := Lib.hid hV
  have HR := Lib.hid hr
  have H0 := Lib.hid h0
  have HS := Lib.hid hS
  clear hC hV hr h0 hm hW hS
  go_enter Tryd.func11, Tryd.ntmps11
  go_upto_region 2 with (first
    | (go_at_call 19; refine HV.out.mono ?_; rintro e w1 ⟨rfl, rfl⟩)
    | (go_at_call 18; refine HC.out.mono ?_; rintro e w2 ⟨v2, qs, rfl, hp2, ho2, hb2⟩; have HP2 := Lib.hid hp2; have HO2 := Lib.hid ho2; have HB2 := Lib.hid hb2; clear hp2 ho2 hb2))
  cases qs with
  | nil => exact absurd (HP2.out.length_eq) (by simp; exact fun e => H0.out (List.length_eq_zero_iff.1 e.symm))
  | cons x l =>
    have hfp := firstP_perm HR.out HP2.out
    have hM := MinP_any v2 x l w2 HO2.out.row
    rw [← hfp] at hM
    obtain ⟨a2, c2, hv⟩ := HO2.out.row.len
    subst hv
    have HM := Lib.hid hM
    have hfi := field_id (firstP ps)
    clear hM hfp
    go_wp2_with (go_at_call 20; refine HM.out.mono ?_; rintro e w3 ⟨rfl, hb3⟩; rw [show RPeer.V (firstP ps) = .agg #[.int .i64 (firstP ps).id, .int .i64 (firstP ps).till, .bool (firstP ps).seed] from rfl]; have HB3 := Lib.hid (below_next HB2.out hb3); clear hb3)
    go_ret
    exact ⟨rfl, HB3.out⟩

/-- What holds ahead of each round of last. -/
def LastI (w : World) (m : Value) (r : Nat) (L : List (Int × Value)) (k : Nat) (nv : Value) (wr : World) : Prop :=
  ∃ pre todo : List (Int × Value), IterV KInt wr m r L todo ∧ (pre ++ todo).Perm L ∧ nv = .int .i64 (lastP (pre.map decE)) ∧ Below w.heap.size w wr ∧ w.heap.size + 1 ≤ wr.heap.size ∧ todo.length ≤ k

set_option maxHeartbeats 1600000 in
theorem PLast_any (m : Value) (ps : List PeerL) (w : World) (hm : MapV KInt w m (ps.map inE)) :
    Calls Tryd.prog 28 #[m] w fun e w' => e = .returned (.int .i64 (lastP ps)) ∧ Below w.heap.size w w' := by
  have hm2 : (∃ b, m = .map (some b)) ∨ m = .map none := hm.imp (fun ⟨b, e, _⟩ => ⟨b, e⟩) And.left
  obtain ⟨L, hL⟩ : ∃ L, ps.map inE = L := ⟨_, rfl⟩
  have hX : ∀ x ∈ L, ∃ q, x = inE q := fun x hx => by rw [← hL] at hx; obtain ⟨q, _, rfl⟩ := List.mem_map.1 hx; exact ⟨q, rfl⟩
  rw [hL] at hm
  obtain ⟨w1, hr1, hit1, hb1, hs1⟩ := hm.range (t := 47) Tryd.underlying47
  have HIT := Lib.hid hit1
  have HB1 := Lib.hid hb1
  have HS1 := Lib.hid hs1
  have HL := Lib.hid hL
  have HX := Lib.hid hX
  clear hm hit1 hb1 hs1 hL hX
  go_enter Tryd.func28, Tryd.ntmps28
  go_wp2
  go_loopg [3, 5, 8, 9, 10, 11, 12, 13, 14, 15] L.length (fun k nv _ _ _ _ _ _ _ _ _ wr => LastI w m w.heap.size L k nv wr)
  case atStart => exact ⟨[], L, HIT.out, List.Perm.refl _, rfl, HB1.out, by rw [HS1.out]; exact Nat.le_refl _, Nat.le_refl _⟩
  case round =>
    obtain ⟨pre, todo, hit, hp, rfl, hb, hsz, hlen⟩ := hrel
    have HB := Lib.hid hb
    have HP := Lib.hid hp
    rcases hit.next2 0 with ⟨rfl, hnx⟩ | ⟨p, w2, todo2, hpt, hpl, hnx, hit2, hg2, hs2, hen, htl, hst⟩
    · clear hb hp hit
      go_wp2
      go_ret
      exact ⟨by rw [← lastP_perm (a := pre.map decE) (b := ps) (by have := HP.out.map decE; rwa [List.append_nil, ← HL.out, dec_map] at this)]; rfl, HB.out⟩
    · obtain ⟨q, rfl⟩ := HX.out p hpl
      replace hnx : (Instr.next (.pointer (some ⟨w.heap.size, 0, none⟩)) false 0).run Tryd.prog wr = .ok (.tuple #[.bool true, .int .i64 q.id, RPeer.V q]) w2 := hnx
      replace hen : (Instr.entry (.pointer (some ⟨w.heap.size, 0, none⟩))).run Tryd.prog w2 = .ok (.tuple #[.int .i64 q.id, RPeer.V q]) w2 := hen
      have HPT := Lib.hid htl
      have HST := Lib.hid (hst pre hp)
      have HIT2 := Lib.hid hit2
      have HLE := Lib.hid hlen
      have HB2 := Lib.hid (hb.grown hg2 hb.size (fun k e => by cases e; exact Nat.le_refl _))
      have HS2 := Lib.hid hs2
      clear hb hp hit hpt hpl hit2 hg2 hlen HP hs2 htl hst
      go_wp2_with (first
        | ((with_reducible refine wpList_plain (o := ⟨some 5, Op.alloc _, _, _, _, _⟩) rfl fun K hK => ?_); (refine RPeer.wp_alloc rfl fun w3 ho3 hb3 hs3 => hK _ _ ?_); have HO3 := Lib.hid ho3; have HB3 := Lib.hid hb3; clear ho3 hb3 hs3)
        | ((with_reducible refine wpList_plain (o := ⟨none, Op.store _ (.tmp 5) (.tmp 11), _, _, _, _⟩) rfl fun K hK => ?_); (refine HO3.out.store (.tmp 5) (.tmp 11) rfl rfl rfl (RPeer_ok q) fun w4 ho4 hg4 hs4 => hK _ _ ?_); have HB4 := Lib.hid (HB3.out.grown hg4 (by have := HB3.out.size; omega) (fun k e => by cases e; exact Nat.le_refl _)); have hc4 := RPeer_till ho4; clear ho4 hg4 hs4))
      all_goals
        go_roundg todo2.length
        case measure => have := HPT.out; have := HLE.out; omega
        case rel =>
          have q1 := HS2.out
          have q2 := HB4.out.size
          refine ⟨pre ++ [inE q], todo2, HIT2.out.kept ((Kept.refl (fun _ => True) w2).below HB4.out) trivial (fun _ _ => trivial), HST.out, ?_, HB2.out.trans (HB4.out.mono (by omega)), by omega, Nat.le_refl _⟩
          rw [List.map_append, List.map_cons, List.map_nil, dec_in, lastP_snoc]
          congr 1
          omega

end Go.Proofs.YtjmjaailmlnkjaaDoor

/- The walks of maps.Keys: the makers, and what they make: all entries, each once, in whatever order. Condition: the map lies below what the call made. -/
import Derived.Test.YtjmjaailmlnkjaaDoorTrVal
import Derived.Test.YtjmjaailmlnkjaaDoorRecDig
import Derived.Test.YtjmjaailmlnkjaaDoorKit
import Derived.Test.YtjmjaailmlnkjaaDoorGa
namespace Go.Proofs.YtjmjaailmlnkjaaDoor
open Go.RowKit Go.Shelf
attribute [local go_sem] Oper.semAt_some
set_option linter.unusedVariables false
set_option linter.unusedSimpArgs false
set_option maxRecDepth 100000

theorem Keys_any (m : Value) (w : World) (hm : (∃ b, m = .map (some b)) ∨ m = .map none) :
    Calls Tryd.prog 25 #[m] w fun e w' => e = .returned (.func (.func 38) #[] #[.pointer (some ⟨w.heap.size, 0, none⟩)]) ∧ w' = w.alloc (.cells #[m] 37) := by
  rcases hm with ⟨b, rfl⟩ | rfl
  all_goals
    go_enter Tryd.func25, Tryd.ntmps25
    go_wp2
    go_ret
    exact ⟨rfl, rfl⟩

abbrev encKey (x : List UInt8 × Value) : Array Value := #[RDig.V x.1]

/-- What holds ahead of each round. -/
def KeyI (w0 W : World) (bb : Nat) (m : Value) (L : List (List UInt8 × Value)) (J : List (List UInt8 × Value) → World → Prop) (k : Nat) (wr : World) : Prop :=
  ∃ pre todo : List (List UInt8 × Value), IterV KDig wr m W.heap.size L todo ∧ (pre ++ todo).Perm L ∧ One wr bb m 37 ∧ Below w0.heap.size w0 wr ∧ W.heap.size + 1 ≤ wr.heap.size ∧ J pre wr ∧ todo.length ≤ k

set_option maxHeartbeats 3200000 in
theorem keys_seq (n : Nat) (hn : 1 ≤ n) (bb n0 : Nat) (m : Value) (L : List (List UInt8 × Value)) (W w0 : World) (hw0 : w0.heap.size = n0) (hb0 : Below n0 w0 W) (hbb : n0 ≤ bb) (hc : One W bb m 37) (hm : MapV KDig w0 m L) (hL : ∀ x ∈ L, x.1.length = 32) :
    SeqT Fence.wide n Tryd.prog 38 #[.pointer (some ⟨bb, 0, none⟩)] encKey (fun pre x W' => x ∈ L) (fun xs => xs.Perm L) (fun j => j = bb) n0 L.length W := fun l J hJ hY h0 => by
  subst hw0
  obtain ⟨G, hG⟩ : ∃ G : Nat → Prop, G = fun j => j = bb ∨ j = W.heap.size := ⟨_, rfl⟩
  have hGF : Fresh (fun j => j = bb) G W := fun j hj => by
    rw [hG] at hj
    rcases hj with h | h
    · exact .inr h
    · exact .inl (by omega)
  have hJG := hJ G hGF
  have hYG := fun pre x W1 => hY G pre x W1 hGF
  have h0G := fun W' => h0 G W' hGF
  have hG1 : G bb := by rw [hG]; exact .inl rfl
  have hG3 : G W.heap.size := by rw [hG]; exact .inr rfl
  have HG2 := Lib.hid (show ∀ j, G j → j = bb ∨ j = W.heap.size from fun j hj => by rw [hG] at hj; exact hj)
  clear hJ hY h0
  refine (CallsIn.mono (R := fun e W' => (∃ v, e = .returned v) ∧ ∃ xs, xs.Perm L ∧ J G xs W') ?_ (fun e W' h => ⟨h.1, G, by obtain ⟨_, xs, h1, h2⟩ := h; exact ⟨xs, hGF, h1, h2⟩⟩))
  clear hGF hG
  have hmb : ∀ b, m = .map (some b) → b < w0.heap.size := fun b e => by
    rcases hm with ⟨b', rfl, h⟩ | ⟨rfl, _⟩
    · cases e; exact h.lt
    · cases e
  have HMB := Lib.hid hmb
  have hcc := hc.cell
  have hcf := hc.free
  obtain ⟨w1, hr1, hit1, hb1, hs1⟩ := (hm.below (Nat.le_refl _) hb0).range (t := 37) Tryd.underlying37
  have hbbW := hc.lt
  have HIT := Lib.hid hit1
  have HB1 := Lib.hid hb1
  have HC1 := Lib.hid (hc.of_new hb1)
  have HB0 := Lib.hid (hb0.trans (hb1.mono (by have := hc.lt; have := hb0.size; omega)))
  have HJ0 := Lib.hid (h0G w1 hb1)
  have HS1 := Lib.hid hs1
  have HL := Lib.hid hL
  have hm2 : (∃ b, m = .map (some b)) ∨ m = .map none := hm.imp (fun ⟨b, e, _⟩ => ⟨b, e⟩) And.left
  have HM2 := Lib.hid hm2
  clear hmb hb0 hc hm h0G hit1 hb1 hL hm2
  refine callsIn_of_wp Tryd.func38 rfl trivial ?_ rfl
  simp only [Tryd.ntmps38, List.size_toArray, List.length_cons, List.length_nil, Nat.reduceAdd, Nat.reduceSub, Array.replicate_succ, Array.replicate_zero, List.push_toArray, List.append_toArray, List.nil_append, List.cons_append]
  gi_wp2
  gi_loopg [3, 6, 7, 8, 9, 10, 11, 12, 13] L.length (fun k _ _ _ _ _ _ _ _ _ wr => KeyI w0 W bb m L (J G) k wr)
  case atStart => exact ⟨[], L, HIT.out, List.Perm.refl _, HC1.out, HB0.out, by rw [HS1.out]; exact Nat.le_refl _, HJ0.out, Nat.le_refl _⟩
  case round =>
    obtain ⟨pre, todo, hit, hp, ho, hb, hsz, hj, hlen⟩ := hrel
    have HO := Lib.hid ho
    have HB := Lib.hid hb
    have HP := Lib.hid hp
    rcases hit.next2 0 with ⟨rfl, hnx⟩ | ⟨p, w2, todo2, hpt, hpl, hnx, hit2, hg2, hs2, hen, htl, hst⟩
    · clear ho hb hp hit
      gi_wp2
      go_end0
      exact ⟨⟨_, rfl⟩, pre, by have := HP.out; rwa [List.append_nil] at this, hj⟩
    · have h32 := HL.out p hpl; obtain ⟨d, u⟩ := p; have H32 := Lib.hid (show RDig.ok d from h32); clear h32
      replace hnx : (Instr.next (.pointer (some ⟨W.heap.size, 0, none⟩)) false 0).run Tryd.prog wr = .ok (.tuple #[.bool true, RDig.V d, u]) w2 := hnx
      replace hen : (Instr.entry (.pointer (some ⟨W.heap.size, 0, none⟩))).run Tryd.prog w2 = .ok (.tuple #[RDig.V d, u]) w2 := hen
      have HIN := Lib.hid hpl
      have HPT := Lib.hid htl
      have HST := Lib.hid (hst pre hp)
      have HLEN := Lib.hid (show pre.length < L.length by have h1 := hp.length_eq; rw [List.length_append] at h1; have := List.length_pos_of_mem hpt; omega)
      have HIT2 := Lib.hid hit2
      have HG2' := Lib.hid hg2
      have HJ := Lib.hid hj
      have HLE := Lib.hid hlen
      have HS2 := Lib.hid hs2
      clear ho hb hp hit hpt hpl hit2 hg2 hj hlen HP hs2 htl hst
      gi_wp2_with (first
        | ((with_reducible refine wpListIn_one (o := ⟨some 3, Op.alloc _, _, _, _, _⟩) rfl (fun c hc => by cases hc) ?_); (refine RDig.wp_alloc rfl fun w3 ho3 hb3 hs3 => ?_); have HO3 := Lib.hid ho3; have HB3 := Lib.hid hb3; clear ho3 hb3 hs3)
        | ((with_reducible refine wpListIn_one (o := ⟨none, Op.store _ (.tmp 3) (.tmp 9), _, _, _, _⟩) rfl (fun c hc => by cases hc) ?_); (refine HO3.out.store (.tmp 3) (.tmp 9) rfl rfl rfl (H32.out) fun w4 ho4 hg4 hs4 => ?_); have HB4 := Lib.hid (HB3.out.grown hg4 (by have := HB3.out.size; omega) (fun k e => by cases e; exact Nat.le_refl _)); have HO4 := Lib.hid ho4; clear ho4 hg4 hs4)
        | ((with_reducible refine wpListIn_one (o := ⟨some 11, Op.load _ _, _, _, _, _⟩) rfl (fun c hc => by cases hc) ?_); (refine HO4.out.at_.wp rfl rfl ?_); have hB24 := HB4.out; have hsz4 := hB24.size; have hS2 := HS2.out; have hk4 : Kept (fun k => ¬ G k) wr w4 := ((Kept.refl _ wr).grown HG2'.out (fun r e => by cases e; exact fun h => h hG3)).below hB24; have hit4 : IterV KDig w4 m W.heap.size L todo2 := HIT2.out.kept ((Kept.refl (fun _ => True) w2).below hB24) trivial (fun _ _ => trivial); have ho4 : One w4 bb m 37 := (HO.out.of_block (HG2'.out.block _ HO.out.lt (fun e => by cases e; omega))).of_new hB24; have hb4 : Below w0.heap.size w0 w4 := (HB.out.grown HG2'.out (by have := HB.out.size; omega) (fun k e => by cases e; have := HB0.out.size; have := HC1.out.lt; omega)).trans (hB24.mono (by have := HB.out.size; omega)); obtain ⟨fn, tmps, assign, body, hy, hR⟩ := hYG pre ((d, u)) w4 (fun j hj => by rcases HG2.out j hj with h | h <;> (subst h; first | exact ho4.lt | omega)) (hJG _ _ _ HJ.out hk4) HIN.out HLEN.out; have HIT4 := Lib.hid hit4; have HO4' := Lib.hid ho4; have HB4' := Lib.hid hb4; clear hk4 hit4 ho4 hb4 hB24; dsimp only [encKey, inE] at hy))
      refine hR.mono ?_
      rintro e W3 ⟨rfl, hJ3, hk3⟩
      have HJ3 := Lib.hid hJ3
      have hit3 := HIT4.out.kept hk3 (.inl hG3) (fun b e => .inr (HMB.out b e))
      have ho3 := HO4'.out.of_block (hk3.block _ HO4'.out.lt (.inl hG1))
      have hb3 : Below w0.heap.size w0 W3 := hk3.to_below HB4'.out (by have := HB4'.out.size; omega) (fun k hk => .inr hk)
      have hs3 := hk3.size
      gi_wp2
      gi_roundg todo2.length
      case measure => have := HPT.out; have := HLE.out; omega
      case rel =>
        have q1 := HS2.out
        have q2 := HB4.out.size
        exact ⟨pre ++ [(d, u)], _, hit3, HST.out, ho3, hb3, by omega, HJ3.out, Nat.le_refl _⟩

end Go.Proofs.YtjmjaailmlnkjaaDoor

/- The walks of manifest.leaves: the maker, and the iterator over the hashes of bytes' pieces. Conditions: the table of constants as the program lays it; pieces of 1 to 2^20 bytes of no more than 2^40. -/
import Derived.Test.YtnomekfemadpeaaDoorMfChunk
import Derived.Test.YtnomekfemadpeaaDoorMfCollect
namespace Go.Proofs.YtnomekfemadpeaaDoor
open Go.RowKit Go.Shelf
attribute [local go_sem] Oper.semAt_some
set_option linter.unusedVariables false
set_option linter.unusedSimpArgs false
set_option maxRecDepth 100000

/-- The hashes of the pieces. -/
def leavesL (b : List UInt8) (k : Nat) : List (List UInt8) := (chunksL b k).map leafL
theorem leavesL_len (b : List UInt8) (k : Nat) : (leavesL b k).length = (b.length + k - 1) / k := by simp [leavesL, chunksL_len]
theorem leavesL_32 (b : List UInt8) (k : Nat) : Dig32 (leavesL b k) := fun d hd => by
  obtain ⟨c, _, rfl⟩ := List.mem_map.1 hd
  exact leafL_len c

set_option maxHeartbeats 800000 in
theorem leaves_any (a : Option Addr) (n c : Nat) (k : Int) (w : World) :
    Calls Tryd.prog 43 #[.slice a n c, .int .i64 k] w fun e w' =>
      e = .returned (.func (.func 68) #[] #[.pointer (some ⟨w.heap.size, 0, none⟩), .pointer (some ⟨w.heap.size + 1, 0, none⟩)]) ∧ w' = (w.alloc (.cells #[.slice a n c] 22)).alloc (.cells #[.int .i64 k] 3) := by
  go_enter Tryd.func43, Tryd.ntmps43
  go_wp2
  go_ret
  exact ⟨rfl, rfl⟩

theorem roundIn_wide {l l' n n' : Nat} {P : Program} {f : FuncId} {tmps : Array Value} {assign body : Code} {w : World} {R : Ending → World → Prop} (h : RoundIn Fence.wide n P l f tmps assign body w R) : RoundIn (Fence.wide.inRound l') n' P l f tmps assign body w R :=
  ⟨h.1, fun c cs hr => h.2 c cs (fun d hd => by cases hd)⟩

/-- What holds ahead of each round of the range over the pieces. -/
def LeavesI (w0 : World) (gy l : Nat) (J : List (List UInt8) → World → Prop) (pre : List (List UInt8 × Value)) (W : World) : Prop :=
  J (pre.map (leafL ·.1)) W ∧ One W gy (.func (.yield l) #[] #[]) 100 ∧ Below w0.heap.size w0 W

set_option maxHeartbeats 3200000 in
theorem leaves_seq (bs bn : Nat) (v : Value) (b : List UInt8) (k : Nat) (hk : 1 ≤ k) (hk2 : k ≤ 1048576) (hlen : b.length ≤ 1099511627776) (W w0 : World) (hc1 : One W bs v 22) (hc2 : One W bn (.int .i64 (k : Int)) 3) (hl : Bytes w0 v b) (hK : Consts w0) (hb0 : Below w0.heap.size w0 W) :
    SeqT Fence.wide 4 Tryd.prog 68 #[.pointer (some ⟨bs, 0, none⟩), .pointer (some ⟨bn, 0, none⟩)] encD (fun pre x W' => pre ++ [x] <+: leavesL b k)
      (fun xs => xs = leavesL b k) (fun _ => False) w0.heap.size (leavesL b k).length W := fun l J hJ hY h0 => by
  have hsz0 := hb0.size
  obtain ⟨T, hT⟩ : ∃ T : (Nat → Prop) → Nat → Prop, T = fun G j => (W.heap.size ≤ j ∧ j < W.heap.size + 5) ∨ (G j ∧ W.heap.size ≤ j) := ⟨_, rfl⟩
  have hTF : ∀ G, Fresh (fun _ => False) (T G) W := fun G j hj => .inl (by rw [hT] at hj; rcases hj with h | h; exact h.1; exact h.2)
  have hJG := fun G => hJ (T G) (hTF G)
  have hYG := fun G pre x W1 => hY (T G) pre x W1 (hTF G)
  have h0G := fun G W' => h0 (T G) W' (hTF G)
  have hTi : ∀ G j, W.heap.size ≤ j → j < W.heap.size + 5 → T G j := fun G j h1 h2 => by rw [hT]; exact .inl ⟨h1, h2⟩
  have hTg : ∀ G j, G j → W.heap.size ≤ j → T G j := fun G j h1 h2 => by rw [hT]; exact .inr ⟨h1, h2⟩
  have hTo : ∀ G j, T G j → (W.heap.size ≤ j ∧ j < W.heap.size + 5) ∨ G j := fun G j h => by rw [hT] at h; exact h.imp id (·.1)
  clear hJ hY h0
  refine (CallsIn.mono (R := fun e W' => (∃ v, e = .returned v) ∧ ∃ G, J (T G) (leavesL b k) W') ?_ (fun e W' h => ⟨h.1, by obtain ⟨_, G, h⟩ := h; exact ⟨T G, _, hTF G, rfl, h⟩⟩))
  clear hTF hT
  obtain ⟨va, vc, hv⟩ := hl.len
  subst hv
  have c1 := fun o => (hc1.of_new ((Below.refl _ W).alloc (Nat.le_refl _) o)).cell
  have c2 := fun o => (hc2.of_new ((Below.refl _ W).alloc (Nat.le_refl _) o)).cell
  refine callsIn_of_wp_marks Tryd.func68 rfl trivial ?_ rfl
  simp only [Tryd.ntmps68, List.size_toArray, List.length_cons, List.length_nil, Nat.reduceAdd, Nat.reduceSub, Array.replicate_succ, Array.replicate_zero, List.push_toArray, List.append_toArray, List.nil_append, List.cons_append]
  gi_wp2_with (refine ⟨trivial, ?_⟩; gi_at_call 69; refine (callsIn_wide.2 (Chunk_any _ _ _ _ (by omega) _)).mono ?_; rintro e w' ⟨rfl, rfl⟩)
  generalize hW0 : ((W.alloc _).alloc _).alloc _ = W0
  obtain ⟨hsz, hB0, o1, o2, o3⟩ : W0.heap.size = W.heap.size + 3 ∧ Below W.heap.size W W0 ∧ One W0 W.heap.size (.func (.yield l) #[] #[]) 100 ∧ One W0 (W.heap.size + 1) (.slice va b.length vc) 22 ∧ One W0 (W.heap.size + 1 + 1) (.int .i64 (k : Int)) 3 := by
    subst hW0
    refine ⟨by simp, (((Below.refl _ W).alloc (Nat.le_refl _) _).alloc (by simp) _).alloc (by simp; omega) _, ?_, ?_, ?_⟩
    · exact (Below.heap_alloc _ _ _ (by simp; omega)).trans ((Below.heap_alloc _ _ _ (by simp)).trans (heap_alloc_new _ _))
    · refine (Below.heap_alloc _ _ _ (by simp)).trans ?_
      have := heap_alloc_new (W.alloc (.cells #[.func (.yield l) #[] #[]] 100)) (.cells #[.slice va b.length vc] 22)
      rwa [World.size_alloc] at this
    · have := heap_alloc_new ((W.alloc (.cells #[.func (.yield l) #[] #[]] 100)).alloc (.cells #[.slice va b.length vc] 22)) (.cells #[.int .i64 (k : Int)] 3)
      rwa [World.size_alloc, World.size_alloc] at this
  clear hW0 c1 c2
  refine wpIn_rangeFunc_total (F := Fence.wide) (n := 4) rfl (by omega) (gf := 91) (lb := #[.pointer (some ⟨W.heap.size + 1, 0, none⟩), .pointer (some ⟨W.heap.size + 1 + 1, 0, none⟩)]) rfl trivial
    (enters_of Tryd.func91 (by kernel_rfl) rfl)
    (encs := encC) (It := ChunkIt w0 b k) (S := fun xs => xs.map (·.1) = chunksL b k) (O := fun j => j = W.heap.size + 1 ∨ j = W.heap.size + 1 + 1) (n0 := w0.heap.size) (N := (chunksL b k).length) (by omega) (fun j h => by omega)
    (fun W1 hb1 hs1 => chunk_seq 3 (by omega) _ _ _ _ b k hk hk2 hlen W1 w0 (o2.of_block (hb1.block _ (by omega))) (o3.of_block (hb1.block _ (by omega))) hl)
    (fun _ => rfl)
    (fun G => LeavesI w0 W.heap.size l (J (T G)))
    (fun G s A B hG hs hkp => by
      obtain ⟨a1, a2, a3⟩ := hs
      have hno : ∀ j, j ≤ W.heap.size → ¬ G j := fun j hj h => by rcases hG j h with h | h <;> omega
      exact ⟨hJG G _ _ _ a1 (hkp.mono fun j _ hj => ⟨fun h => hj (hTg G j h (by rcases hG j h with h | h <;> omega)), fun h => hj (hTi G j (by omega) (by omega))⟩), a2.of_block (hkp.block _ a2.lt ⟨hno _ (Nat.le_refl _), by omega⟩), hkp.to_below a3 (by have := a2.lt; omega) (fun j hj => ⟨hno _ (by omega), by omega⟩)⟩)
    (fun _ _ _ _ h _ => h)
    (fun G W' hG hb => by
      have hbw : Below W.heap.size W W' := hB0.trans (hb.mono (by omega))
      exact ⟨h0G G W' hbw, o1.of_block (hb.block _ (by omega)), hb0.trans (hbw.mono (by omega))⟩)
    (fun x a W' => a = { tmps := #[.func (.yield l) #[] #[], .pointer (some ⟨bs, 0, none⟩), .pointer (some ⟨bn, 0, none⟩), .pointer (some ⟨W.heap.size, 0, none⟩), x.2, .slice va b.length vc, .int .i64 (k : Int),
      .func (.func 91) #[] #[.pointer (some ⟨W.heap.size + 1, 0, none⟩), .pointer (some ⟨W.heap.size + 1 + 1, 0, none⟩)], x.2, undef, undef, undef, undef, undef], defers := [] })
    (fun _ _ _ _ h _ => h)
    ?assign ?body ?done
  case assign =>
    rintro l' pre ⟨x, u⟩ W1 K ⟨_, hx⟩ _ hK2
    dsimp only at hx
    obtain ⟨ua, uc, hv⟩ := hx.len
    subst hv
    gi_wp2
    exact hK2 _ _ (Below.refl _ _) rfl
  case body =>
    rintro l' G pre ⟨x, u⟩ a' W1 hG hGl ⟨a1, a2, a3⟩ ⟨hpre, hx⟩ ha hlen hW2
    dsimp only at hx ha
    obtain ⟨ua, uc, hv⟩ := hx.len
    subst hv
    subst ha
    have hxk : x.length ≤ k := chunks_le x (hpre.subset (by simp))
    have hcy : ∀ w2, Grew W1 w2 → w2.cell? ⟨W.heap.size, 0, none⟩ = some (.func (.yield l) #[] #[]) := fun w2 h => (a2.of_new h).cell
    gi_wp2
    refine wpIn_region_class (ro := some l') (C := Grew W1) 3 (by kernel_rfl) (by kernel_rfl) (Grew.start _) ?_
    simp only [List.take_succ_cons, List.take_zero, List.drop_succ_cons, List.drop_zero]
    go_simp
    repeat (first
      | (go_big_quiet_want; (with_reducible apply quiet_load_at (ty := 25) (x := .tmp _)); rfl; rfl; assumption; go_simp; go_big_quiet_on)
      | (go_big_quiet_want; apply quiet_val; (intro w' hw'; go_simp; first | done | rfl); go_simp; go_big_quiet_on)
      | (go_big_quiet_want; apply quiet_call (f := 46); (intro w' hw'; go_simp; first | done | rfl); (intro w' hw'; exact Grew.call hw' (Leaf_any _ x w' (hx.of_new (below_next' a3 hw' (by omega))) (by omega) (hK.of_new (below_next' a3 hw' (by omega))))); go_simp; go_big_quiet_on)
      | (go_big_quiet_skip))
    refine wpQuiet_nil ?_
    intro w6 hw6
    rw [wF_some]
    have hpre2 : pre.map (leafL ·.1) ++ [leafL x] <+: leavesL b k := by
      have := hpre.map leafL
      rw [List.map_map, List.map_append] at this
      exact this
    have hlen2 : (pre.map (leafL ·.1)).length < (leavesL b k).length := by rw [List.length_map, leavesL, List.length_map]; exact hlen
    have hkw : Kept (fun j => ¬ T G j) W1 w6 := (Kept.refl _ W1).below hw6
    have a1' : J (T G) (pre.map (leafL ·.1)) w6 := hJG G _ _ _ a1 hkw
    have hTl : ∀ j, T G j → j < w6.heap.size := fun j hj => by have := hw6.size; rcases hTo G j hj with h | h; omega; (have := hGl j h; omega)
    obtain ⟨P, hP⟩ : ∃ P, pre.map (leafL ·.1) = P := ⟨_, rfl⟩
    rw [hP] at a1' hpre2 hlen2
    obtain ⟨d, hd⟩ : ∃ d, leafL x = d := ⟨_, rfl⟩
    rw [hd] at hpre2 ⊢
    obtain ⟨fn, tmps, assign, body, hy, hR⟩ := hYG G P d w6 hTl a1' hpre2 hlen2
    dsimp only [encD] at hy
    gi_wp2
    refine (roundIn_wide hR).mono ?_
    rintro e W3 ⟨rfl, hJ3, hk3⟩
    gi_wp2
    have hgy := hk3.block W.heap.size (by have := a2.lt; have := hw6.size; omega) (.inl (hTi G _ (Nat.le_refl _) (by omega)))
    refine ⟨((Kept.refl _ W1).below hw6).trans (hk3.mono fun j _ hj => ?_), ?_, (a2.of_new hw6).of_block hgy, hk3.to_below (below_next' a3 hw6 (by omega)) (by have := hw6.size; omega) (fun j hj => .inr hj)⟩
    · rcases hj with h | h | h | h
      · exact .inl (hTg G j h (by rcases hG j h with h | h <;> omega))
      · exact .inr h
      · exact .inl (hTi G j (by omega) (by omega))
      · exact .inl (hTi G j (by omega) (by omega))
    · rw [List.map_append, hP]; rw [← hd] at hJ3; exact hJ3
  case done =>
    rintro G xs W1 hxs ⟨a1, a2, a3⟩ hW2 hD
    have e : xs.map (leafL ·.1) = leavesL b k := by unfold leavesL; rw [← hxs, List.map_map]; rfl
    rw [e] at a1
    gi_wp2
    refine ⟨by simp, .inl ⟨_, _, rfl, run_takeDeferred hD, ?_⟩⟩
    refine ⟨_, results_none rfl _ _ _, ?_⟩
    exact ⟨⟨_, rfl⟩, G, hJG G _ _ _ a1 ((Kept.refl _ W1).putObj (fun h => h (hTi G _ (by omega) (by omega))) _)⟩

end Go.Proofs.YtnomekfemadpeaaDoor

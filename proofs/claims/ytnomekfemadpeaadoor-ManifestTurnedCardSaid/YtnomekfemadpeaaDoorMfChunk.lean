/- The walk of slices.Chunk at bytes: the maker, and the iterator over a slice's pieces. Condition: pieces of 1 to 2^20 bytes of no more than 2^40; the slice lies below what the call made. -/
import Derived.Test.YtnomekfemadpeaaDoorSeqT
import Derived.Test.YtnomekfemadpeaaDoorCommon
import Derived.LoopNIn
import Derived.LoopIn
import Derived.Shelf.RegionOpen
import Derived.Sort.QuietIn
namespace Go.Proofs.YtnomekfemadpeaaDoor
open Go.RowKit Go.Shelf
attribute [local go_sem] Oper.semAt_some
set_option linter.unusedVariables false
set_option linter.unusedSimpArgs false
set_option maxRecDepth 100000

/-- The pieces of bytes. -/
def chunksL (b : List UInt8) (k : Nat) : List (List UInt8) := (List.range ((b.length + k - 1) / k)).map fun i => (b.drop (i * k)).take k
theorem chunksL_len (b : List UInt8) (k : Nat) : (chunksL b k).length = (b.length + k - 1) / k := by simp [chunksL]
theorem chunks_lt {b : List UInt8} {k j : Nat} (hk : 0 < k) : j * k < b.length ↔ j < (chunksL b k).length := by
  rw [chunksL_len]
  constructor
  · intro h
    exact (Nat.le_div_iff_mul_le hk).2 (by rw [Nat.succ_mul]; omega)
  · intro h
    have := (Nat.le_div_iff_mul_le hk).1 h
    rw [Nat.succ_mul] at this; omega
theorem chunks_take {b : List UInt8} {k j : Nat} (h : j < (chunksL b k).length) : (chunksL b k).take (j + 1) = (chunksL b k).take j ++ [(b.drop (j * k)).take k] := by
  rw [List.take_add_one, List.getElem?_eq_getElem h]
  simp [chunksL]
theorem chunks_le {b : List UInt8} {k : Nat} : ∀ c ∈ chunksL b k, c.length ≤ k := fun c hc => by
  obtain ⟨i, _, rfl⟩ := List.mem_map.1 hc
  rw [List.length_take]; omega

/-- A part of bytes, its room cut too. -/
theorem Bytes.part3 {P : Program} {w : World} {v : Value} {l : List UInt8} {t e : TypeId} {i : TypeInfo} (h : Bytes w v l) (ht : P.underlying t = some (.slice e)) (hi0 : P.info? e = some i) (hsz : i.size = 1) (lo hi : Nat) (h1 : lo < hi) (h2 : hi ≤ l.length) :
    ∃ a c, (∀ W : World, (Instr.slice t v (some (.int .i64 (lo : Int))) (some (.int .i64 (hi : Int))) (some (.int .i64 (hi : Int)))).run P W = .ok (.slice a (hi - lo) c) W) ∧ Bytes w (.slice a (hi - lo) c) ((l.drop lo).take (hi - lo)) := by
  obtain ⟨_, a, c, rfl, hn, hm, hnil, hc⟩ := h
  have e : ((l.drop lo).take (hi - lo)).length = hi - lo := by simp; omega
  have hb : (Instr.sliceBounds true l.length c (some (.int .i64 (lo : Int))) (some (.int .i64 (hi : Int))) (some (.int .i64 (hi : Int)))).run P = fun W => .ok (lo, hi, hi) W := by
    funext W
    simp [Instr.sliceBounds, run_sliceBound, Sem.run_bind, Sem.run_pure, show hi ≤ c by omega, show lo ≤ hi by omega]
  refine ⟨if hi = lo then a else a.map (·.add (lo * 1)), hi - lo, fun W => ?_, ?_⟩
  · simp [Instr.slice, run_underlying ht, hb, sizeOf, typeInfo, hi0, hsz, Sem.run_bind, Sem.run_pure]
  · obtain ⟨bb, off, rfl, hlt, hcell⟩ := hc (by omega)
    unfold Bytes
    rw [e]
    refine ⟨by simp; omega, _, hi - lo, rfl, Nat.le_refl _, by unfold maxLen at *; omega, ?_, fun _ => ⟨bb, off + lo, ?_, hlt, fun j hj => ?_⟩⟩
    · intro h
      rw [if_neg (by omega)] at h
      cases h
    · rw [if_neg (by omega)]
      simp only [Option.map_some, Addr.add, Nat.mul_one]
      split
      · rename_i h0; simp [h0]
      · rfl
    · rw [Nat.add_assoc, hcell (lo + j) (by omega), List.map_take, List.map_drop, List.getElem?_take, if_pos (by omega), List.getElem?_drop]

set_option maxHeartbeats 800000 in
theorem Chunk_any (a : Option Addr) (n c : Nat) (k : Int) (hk : 1 ≤ k) (w : World) :
    Calls Tryd.prog 69 #[.slice a n c, .int .i64 k] w fun e w' =>
      e = .returned (.func (.func 91) #[] #[.pointer (some ⟨w.heap.size, 0, none⟩), .pointer (some ⟨w.heap.size + 1, 0, none⟩)]) ∧ w' = (w.alloc (.cells #[.slice a n c] 22)).alloc (.cells #[.int .i64 k] 3) := by
  have h0 : ¬ k < 1 := by omega
  go_enter Tryd.func69, Tryd.ntmps69
  go_wp2
  go_ret
  exact ⟨rfl, rfl⟩

abbrev encC (x : List UInt8 × Value) : Array Value := #[x.2]

/-- What the iterator tells a round. -/
def ChunkIt (w0 : World) (b : List UInt8) (k : Nat) (pre : List (List UInt8 × Value)) (x : List UInt8 × Value) (W : World) : Prop := (pre ++ [x]).map (·.1) <+: chunksL b k ∧ Bytes w0 x.2 x.1
/-- What holds ahead of each round of the iterator. -/
def ChunkI (w0 : World) (bs bn : Nat) (v : Value) (b : List UInt8) (k : Nat) (J : List (List UInt8 × Value) → World → Prop) (iv : Value) (wr : World) : Prop :=
  ∃ (pre : List (List UInt8 × Value)), iv = .int .i64 ((pre.length * k : Nat) : Int) ∧ pre.map (·.1) = (chunksL b k).take pre.length ∧ pre.length ≤ (chunksL b k).length ∧ J pre wr ∧ One wr bs v 22 ∧ One wr bn (.int .i64 (k : Int)) 3

set_option maxHeartbeats 3200000 in
theorem chunk_seq (n : Nat) (hn : 1 ≤ n) (bs bn n0 : Nat) (v : Value) (b : List UInt8) (k : Nat) (hk : 1 ≤ k) (hk2 : k ≤ 1048576) (hlen : b.length ≤ 1099511627776) (W w0 : World) (hc1 : One W bs v 22) (hc2 : One W bn (.int .i64 (k : Int)) 3) (hl : Bytes w0 v b) :
    SeqT Fence.wide n Tryd.prog 91 #[.pointer (some ⟨bs, 0, none⟩), .pointer (some ⟨bn, 0, none⟩)] encC (ChunkIt w0 b k)
      (fun xs => xs.map (·.1) = chunksL b k) (fun j => j = bs ∨ j = bn) n0 (chunksL b k).length W := fun l J hJ hY h0 => by
  obtain ⟨i0, hi, hz0, hz1, hz2⟩ := info_parts infoU8
  obtain ⟨G, hG⟩ : ∃ G : Nat → Prop, G = fun j => j = bs ∨ j = bn := ⟨_, rfl⟩
  have hGF : Fresh (fun j => j = bs ∨ j = bn) G W := fun j hj => .inr (by rw [hG] at hj; exact hj)
  have hJG := hJ G hGF
  have hYG := fun pre x W1 => hY G pre x W1 hGF
  have h0G := h0 G W hGF (Below.refl _ W)
  have hG1 : G bs := by rw [hG]; exact .inl rfl
  have hG2 : G bn := by rw [hG]; exact .inr rfl
  have hGl : ∀ wr : World, bs < wr.heap.size → bn < wr.heap.size → ∀ j, G j → j < wr.heap.size := fun wr h1 h2 j hj => by
    rw [hG] at hj; rcases hj with rfl | rfl <;> assumption
  clear hJ hY h0
  refine (CallsIn.mono (R := fun e W' => (∃ v, e = .returned v) ∧ ∃ xs, xs.map (·.1) = chunksL b k ∧ J G xs W') ?_ (fun e W' h => ⟨h.1, G, by obtain ⟨_, xs, h1, h2⟩ := h; exact ⟨xs, hGF, h1, h2⟩⟩))
  clear hGF hG
  obtain ⟨va, vc, hv⟩ := hl.len
  subst hv
  refine callsIn_of_wp Tryd.func91 rfl trivial ?_ rfl
  simp only [Tryd.ntmps91, List.size_toArray, List.length_cons, List.length_nil, Nat.reduceAdd, Nat.reduceSub, Array.replicate_succ, Array.replicate_zero, List.push_toArray, List.append_toArray, List.nil_append, List.cons_append]
  gi_wp2
  gi_loopw [4] (ChunkI w0 bs bn (.slice va b.length vc) b k (J G)) (fun iv _ => b.length - (intOf iv).toNat)
  case atStart => exact ⟨[], by simp, by simp, by simp, h0G, hc1, hc2⟩
  case round =>
    clear h0G hc1 hc2
    obtain ⟨pre, rfl, hpre, hple, hj, o1, o2⟩ := hrel
    obtain ⟨j, hj0⟩ : ∃ j, pre.length = j := ⟨_, rfl⟩
    rw [hj0] at hpre hple ⊢
    have c1 := o1.cell
    have c2 := o2.cell
    by_cases hlt : j * k < b.length
    · have hjc := (chunks_lt (b := b) (j := j) (by omega)).1 hlt
      have hsnoc := chunks_take hjc
      rw [← hpre] at hsnoc
      have hstep : (j + 1) * k = j * k + k := Nat.succ_mul j k
      have hcl : j * k + k ≤ 1099512676352 := by omega
      obtain ⟨m, hm⟩ : ∃ m, j * k = m := ⟨_, rfl⟩
      rw [hm] at hlt hsnoc hstep hcl ⊢
      obtain ⟨tv, hrt, ht, _⟩ := hl.part (P := Tryd.prog) (t := 22) Tryd.underlying22 hi hz1 (some (.int .i64 (m : Int))) none m b.length (by omega) (Nat.le_refl _) (.inr ⟨.i64, rfl⟩) (.inl ⟨rfl, rfl⟩)
      rw [List.take_of_length_le (by simp)] at ht
      have hD : (b.drop m).length = b.length - m := by simp
      obtain ⟨e, he⟩ : ∃ e, min k (b.length - m) = e := ⟨_, rfl⟩
      obtain ⟨pa, pc, hr3, hp3⟩ := hl.part3 (P := Tryd.prog) (t := 22) Tryd.underlying22 hi hz1 m (m + e) (by omega) (by omega)
      have hpe : (b.drop m).take (m + e - m) = (b.drop m).take k := by
        rw [show m + e - m = e by omega, ← he]
        rw [List.take_eq_take_iff]; simp
      rw [hpe, show m + e - m = e by omega] at hp3
      rw [show m + e - m = e by omega, Int.natCast_add] at hr3
      have hlt2 : (m : Int) < (b.length : Int) := by omega
      have hpre2 : (pre ++ [((b.drop m).take k, Value.slice pa e pc)]).map (·.1) = (chunksL b k).take (j + 1) := by rw [hsnoc]; simp
      have hyg := fun (wq : World) (hq : Below wr.heap.size wr wq) => hYG pre ((b.drop m).take k, .slice pa e pc) wq (hGl _ ((o1.of_new hq).lt) ((o2.of_new hq).lt)) (hJG _ _ _ hj ((Kept.refl _ wr).below hq)) ⟨by rw [hpre2]; exact List.take_prefix _ _, hp3⟩ (by omega)
      dsimp only [encC] at hyg
      have hpl : (pre ++ [((b.drop m).take k, Value.slice pa e pc)]).length = j + 1 := by simp [hj0]
      have HP := Lib.hid hpre2
      have HPL := Lib.hid hpl
      clear hsnoc hpe hpre hpre2 hpl hp3
      obtain ⟨D, hDD⟩ : ∃ D, b.drop m = D := ⟨_, rfl⟩
      rw [hDD] at ht hD HP HPL hyg
      clear hDD
      obtain ⟨ta, tc, hv⟩ := ht.len
      subst hv
      have hcase : (k ≤ D.length ∧ e = k) ∨ (D.length < k ∧ e = D.length) := by omega
      clear ht
      have HD := Lib.hid hD
      clear hD
      rcases hcase with ⟨hc, hek⟩ | ⟨hc, hek⟩
      all_goals
        rw [hek] at hr3 hyg HPL HP he
        clear hek
        have hcI : ((D.length : Nat) : Int) ≤ 1099511627776 := by have := HD.out; omega
        have hw1 : IntKind.i64.wrap ((m : Int) + (k : Int)) = (m : Int) + (k : Int) := IntWalk.i64_in _ (by omega)
        have hw2 : IntKind.i64.wrap ((m : Int) + (D.length : Int)) = (m : Int) + (D.length : Int) := IntWalk.i64_in _ (by omega)
        gi_wp2
        gi_quiet (fail)
        obtain ⟨fn, tmps, assign, body, hy, hR⟩ := hyg (wr.drewN nq) (below_drewn nq)
        clear hyg hYG
        gi_wp2
        refine hR.mono ?_
        rintro e W3 ⟨rfl, hJ3, hk3⟩
        have o1' := o1.of_block ((hk3.block _ (by simpa using o1.lt) (.inl hG1)).trans rfl)
        have o2' := o2.of_block ((hk3.block _ (by simpa using o2.lt) (.inl hG2)).trans rfl)
        have c2' := o2'.cell
        gi_wp2
        refine ⟨⟨_, ?_, ?_, ?_, hJ3, o1', o2'⟩, ?_⟩
        · rw [HPL.out, hstep, Int.natCast_add]
        · rw [HPL.out]; exact HP.out
        · rw [HPL.out]; exact hjc
        · simp only [intOf]; omega
    · have hge : ¬ (((j * k : Nat) : Int) < (b.length : Int)) := by omega
      have hjc : ¬ j < (chunksL b k).length := fun h => hlt ((chunks_lt (by omega)).2 h)
      obtain ⟨m, hm⟩ : ∃ m, j * k = m := ⟨_, rfl⟩
      rw [hm] at hge ⊢
      have he : pre.map (·.1) = chunksL b k := by rw [hpre, List.take_of_length_le (by omega)]
      have HE := Lib.hid he
      clear he hpre
      gi_wp2
      go_end0
      exact ⟨⟨_, rfl⟩, pre, HE.out, hj⟩

end Go.Proofs.YtnomekfemadpeaaDoor

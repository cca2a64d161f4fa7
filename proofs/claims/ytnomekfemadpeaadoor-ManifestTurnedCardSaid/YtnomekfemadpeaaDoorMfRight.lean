/- The walks of manifest's Right, Count and Span, and of the document's answer's: whether a blob may be, how many pieces it has, where one lies. Condition: hashes of 32 bytes. -/
import Derived.Test.YtnomekfemadpeaaDoorMfBlob
import Derived.Deep.Cut
import Derived.BigQuiet
namespace Go.Proofs.YtnomekfemadpeaaDoor
open Go.RowKit
set_option linter.unusedVariables false
set_option linter.unusedSimpArgs false
set_option maxRecDepth 100000

def mrightB (n k : Int) : Bool := decide (1 ≤ n) && decide (n ≤ 1048576) && decide (16 ≤ k) && decide (k ≤ 16384) && decide ((n + k - 1) / k ≤ 1024)
def mcountB (n k : Int) : Int := if mrightB n k = true then (n + k - 1) / k else 0

theorem count_any (n k : Int) (w : World) (h1 : 1 ≤ n) (h2 : n ≤ 1048576) (h3 : 16 ≤ k) (h4 : k ≤ 16384) :
    Calls Tryd.prog 44 #[.int .i64 n, .int .i64 k] w fun e w' => e = .returned (.int .i64 ((n + k - 1) / k)) ∧ w' = w := by
  go_enter Tryd.func44, Tryd.ntmps44
  go_wp2
  go_ret
  exact ⟨rfl, rfl⟩

set_option maxHeartbeats 1600000 in
theorem Right_any (x : BlobL) (w : World) (hx : x.ok) :
    Calls Tryd.prog 19 #[BlobV x] w fun e w' => e = .returned (.bool (mrightB x.size x.piece)) ∧ Below w.heap.size w w' := by
  have HO := fun W => (blob_alloc W hx)
  obtain ⟨cs, hcs⟩ : ∃ cs, x.cells.toArray = cs := ⟨_, rfl⟩
  have hbo := blob_alloc w hx
  have hs := hbo.size
  have hp := hbo.piece
  have hb : Below w.heap.size w (w.alloc (.cells x.cells.toArray 27)) := (Below.refl _ w).alloc (Nat.le_refl _) _
  unfold BlobV
  rw [hcs] at hs hp hb ⊢
  clear HO hbo hcs
  obtain ⟨n, hn⟩ : ∃ n, x.size = n := ⟨_, rfl⟩
  obtain ⟨k, hk⟩ : ∃ n, x.piece = n := ⟨_, rfl⟩
  rw [hn] at hs ⊢
  rw [hk] at hp ⊢
  clear hn hk hx
  go_enter Tryd.func19, Tryd.ntmps19
  by_cases h1 : 1 ≤ n
  · by_cases h2 : n ≤ 1048576
    · by_cases h3 : 16 ≤ k
      · by_cases h4 : k ≤ 16384
        · have hr : mrightB n k = decide ((n + k - 1) / k ≤ 1024) := by unfold mrightB; simp [h1, h2, h3, h4]
          rw [hr]
          clear hr
          obtain ⟨q, hq⟩ : ∃ q, (n + k - 1) / k = q := ⟨_, rfl⟩
          rw [hq]
          go_wp2_with fail
          refine (count_any n k _ h1 h2 h3 h4).mono ?_
          rintro e w2 ⟨rfl, hw⟩
          subst w2
          simp only [hq]
          go_wp2
          go_ret
          exact ⟨rfl, hb⟩
        · have hr : mrightB n k = false := by unfold mrightB; simp [h4]
          rw [hr]
          clear hr
          go_wp2
          go_ret
          exact ⟨rfl, hb⟩
      · have hr : mrightB n k = false := by unfold mrightB; simp [h3]
        rw [hr]
        clear hr
        go_wp2
        go_ret
        exact ⟨rfl, hb⟩
    · have hr : mrightB n k = false := by unfold mrightB; simp [h2]
      rw [hr]
      clear hr
      go_wp2
      go_ret
      exact ⟨rfl, hb⟩
  · have hr : mrightB n k = false := by unfold mrightB; simp [h1]
    rw [hr]
    clear hr
    go_wp2
    go_ret
    exact ⟨rfl, hb⟩

set_option maxHeartbeats 1600000 in
theorem RRight_any (x : BlobL) (w : World) (hx : x.ok) :
    Calls Tryd.prog 20 #[BlobV x] w fun e w' => e = .returned (.bool (mrightB x.size x.piece)) ∧ Below w.heap.size w w' := by
  have HO := fun W => (blob_alloc W hx)
  obtain ⟨cs, hcs⟩ : ∃ cs, x.cells.toArray = cs := ⟨_, rfl⟩
  have hbo := blob_alloc w hx
  have hs := hbo.size
  have hp := hbo.piece
  have hb : Below w.heap.size w (w.alloc (.cells x.cells.toArray 27)) := (Below.refl _ w).alloc (Nat.le_refl _) _
  unfold BlobV
  rw [hcs] at hs hp hb ⊢
  clear HO hbo hcs
  obtain ⟨n, hn⟩ : ∃ n, x.size = n := ⟨_, rfl⟩
  obtain ⟨k, hk⟩ : ∃ n, x.piece = n := ⟨_, rfl⟩
  rw [hn] at hs ⊢
  rw [hk] at hp ⊢
  clear hn hk hx
  go_enter Tryd.func20, Tryd.ntmps20
  by_cases h1 : 1 ≤ n
  · by_cases h2 : n ≤ 1048576
    · by_cases h3 : 16 ≤ k
      · by_cases h4 : k ≤ 16384
        · have hr : mrightB n k = decide ((n + k - 1) / k ≤ 1024) := by unfold mrightB; simp [h1, h2, h3, h4]
          rw [hr]
          clear hr
          obtain ⟨q, hq⟩ : ∃ q, (n + k - 1) / k = q := ⟨_, rfl⟩
          skip
          rw [hq]
          go_wp2
          go_ret
          exact ⟨rfl, hb⟩
        · have hr : mrightB n k = false := by unfold mrightB; simp [h4]
          rw [hr]
          clear hr
          go_wp2
          go_ret
          exact ⟨rfl, hb⟩
      · have hr : mrightB n k = false := by unfold mrightB; simp [h3]
        rw [hr]
        clear hr
        go_wp2
        go_ret
        exact ⟨rfl, hb⟩
    · have hr : mrightB n k = false := by unfold mrightB; simp [h2]
      rw [hr]
      clear hr
      go_wp2
      go_ret
      exact ⟨rfl, hb⟩
  · have hr : mrightB n k = false := by unfold mrightB; simp [h1]
    rw [hr]
    clear hr
    go_wp2
    go_ret
    exact ⟨rfl, hb⟩

def count1 (n k : Int) : Int := (n + k - 1) / k
theorem right_parts {n k : Int} (h : mrightB n k = true) : 1 ≤ n ∧ n ≤ 1048576 ∧ 16 ≤ k ∧ k ≤ 16384 ∧ (n + k - 1) / k ≤ 1024 := by
  unfold mrightB at h
  simp at h
  omega
theorem count_pos {n k : Int} (h1 : 1 ≤ n) (h3 : 16 ≤ k) : 1 ≤ (n + k - 1) / k := (Int.le_ediv_iff_mul_le (by omega)).2 (by omega)

set_option maxHeartbeats 1600000 in
theorem Count_any (x : BlobL) (w : World) (hx : x.ok) :
    Calls Tryd.prog 21 #[BlobV x] w fun e w' => e = .returned (.int .i64 (mcountB x.size x.piece)) ∧ Below w.heap.size w w' := by
  rw [show BlobV x = .agg x.cells.toArray from rfl]
  have hr1 := fun h => right_parts (n := x.size) (k := x.piece) h
  have hc : mcountB x.size x.piece = if mrightB x.size x.piece = true then (x.size + x.piece - 1) / x.piece else 0 := rfl
  have HC := Lib.hid hc
  clear hc
  go_enter Tryd.func21, Tryd.ntmps21
  go_upto_region 1 with (fail)
  obtain ⟨W, hW⟩ : ∃ W, w.alloc (.cells x.cells.toArray 27) = W := ⟨_, rfl⟩
  have hbo := blob_alloc w hx
  have hb : Below w.heap.size w (w.alloc (.cells x.cells.toArray 27)) := (Below.refl _ w).alloc (Nat.le_refl _) _
  rw [hW] at hbo hb ⊢
  have HBO := Lib.hid hbo
  clear hbo hW
  go_wp2_with ((with_reducible refine wpList_plain (o := ⟨some 3, Op.load 27 (.tmp 1), _, _, _, _⟩) rfl fun K hK => wp_load_blob (g := w.heap.size) rfl rfl HBO.out (hK _ _ ?_)))
  refine (Right_any x W hx).mono ?_
  rintro e w2 ⟨rfl, hb2⟩
  have hbA := below_next hb hb2
  have hbo2 := HBO.out.of_new hb2
  have hs := hbo2.size
  have hp := hbo2.piece
  clear hbo2 hb2 hb HBO
  rcases hq : mrightB x.size x.piece with _ | _
  · rw [hq] at HC
    go_wp2
    go_ret
    exact ⟨ret_int (by rw [HC.out]; rfl), hbA⟩
  · obtain ⟨q1, q2, q3, q4, q5⟩ := hr1 hq
    rw [hq] at HC
    clear hr1 hq
    obtain ⟨n, hn⟩ : ∃ n, x.size = n := ⟨_, rfl⟩
    obtain ⟨k, hk⟩ : ∃ n, x.piece = n := ⟨_, rfl⟩
    rw [hn] at hs q1 q2 q5 HC
    rw [hk] at hp q3 q4 q5 HC
    go_wp2_with fail
    refine (count_any n k _ q1 q2 q3 q4).mono ?_
    rintro e w3 ⟨rfl, hw⟩
    subst w3
    go_wp2
    go_ret
    exact ⟨ret_int (by rw [← hn, ← hk] at *; rw [HC.out]; rfl), hbA⟩

set_option maxHeartbeats 1600000 in
theorem RCount_any (x : BlobL) (w : World) (hx : x.ok) :
    Calls Tryd.prog 22 #[BlobV x] w fun e w' => e = .returned (.int .i64 (mcountB x.size x.piece)) ∧ Below w.heap.size w w' := by
  rw [show BlobV x = .agg x.cells.toArray from rfl]
  have hr1 := fun h => right_parts (n := x.size) (k := x.piece) h
  have hc : mcountB x.size x.piece = if mrightB x.size x.piece = true then (x.size + x.piece - 1) / x.piece else 0 := rfl
  have HC := Lib.hid hc
  clear hc
  go_enter Tryd.func22, Tryd.ntmps22
  go_upto_region 1 with (fail)
  obtain ⟨W, hW⟩ : ∃ W, w.alloc (.cells x.cells.toArray 27) = W := ⟨_, rfl⟩
  have hbo := blob_alloc w hx
  have hb : Below w.heap.size w (w.alloc (.cells x.cells.toArray 27)) := (Below.refl _ w).alloc (Nat.le_refl _) _
  rw [hW] at hbo hb ⊢
  have HBO := Lib.hid hbo
  clear hbo hW
  go_wp2_with ((with_reducible refine wpList_plain (o := ⟨some 4, Op.load 27 (.tmp 1), _, _, _, _⟩) rfl fun K hK => wp_load_blob (g := w.heap.size) rfl rfl HBO.out (hK _ _ ?_)))
  refine (RRight_any x W hx).mono ?_
  rintro e w2 ⟨rfl, hb2⟩
  have hbA := below_next hb hb2
  have hbo2 := HBO.out.of_new hb2
  have hs := hbo2.size
  have hp := hbo2.piece
  clear hbo2 hb2 hb HBO
  rcases hq : mrightB x.size x.piece with _ | _
  · rw [hq] at HC
    go_wp2
    go_ret
    exact ⟨ret_int (by rw [HC.out]; rfl), hbA⟩
  · obtain ⟨q1, q2, q3, q4, q5⟩ := hr1 hq
    rw [hq] at HC
    clear hr1 hq
    obtain ⟨n, hn⟩ : ∃ n, x.size = n := ⟨_, rfl⟩
    obtain ⟨k, hk⟩ : ∃ n, x.piece = n := ⟨_, rfl⟩
    rw [hn] at hs q1 q2 q5 HC
    rw [hk] at hp q3 q4 q5 HC
    go_wp2
    go_ret
    exact ⟨ret_int (by rw [← hn, ← hk] at *; rw [HC.out]; rfl), hbA⟩

/-- Where a piece lies. -/
def spanZ (n k i : Int) : Int × Int × Int := if i < 0 ∨ mcountB n k ≤ i then (0, 0, 1) else (i * k, min k (n - i * k), 0)
theorem span_parts {n k i : Int} (h0 : 0 ≤ i) (h1 : i < mcountB n k) : 0 ≤ i * k ∧ i * k < n ∧ n ≤ 1048576 ∧ 16 ≤ k ∧ k ≤ 16384 := by
  unfold mcountB at h1
  split at h1
  · rename_i hr
    obtain ⟨a, b, c, d, e⟩ := right_parts hr
    have h2 : i * k + k ≤ n + k - 1 := by
      have := (Int.le_ediv_iff_mul_le (by omega)).1 (show i + 1 ≤ (n + k - 1) / k by omega)
      rw [Int.add_mul, Int.one_mul] at this; exact this
    exact ⟨Int.mul_nonneg h0 (by omega), by omega, b, c, d⟩
  · omega

set_option maxHeartbeats 1600000 in
theorem Span_any (x : BlobL) (i : Int) (w : World) (hx : x.ok) (i1 : -9223372036854775808 ≤ i) (i2 : i ≤ 9223372036854775807) :
    Calls Tryd.prog 17 #[BlobV x, .int .i64 i] w fun e w' => e = .returned (.tuple #[.int .i64 (spanZ x.size x.piece i).1, .int .i64 (spanZ x.size x.piece i).2.1, .int .i64 (spanZ x.size x.piece i).2.2]) ∧ Below w.heap.size w w' := by
  rw [show BlobV x = .agg x.cells.toArray from rfl]
  obtain ⟨S, hS⟩ : ∃ S, spanZ x.size x.piece i = S := ⟨_, rfl⟩
  rw [hS]
  have HS := Lib.hid hS
  clear hS
  go_enter Tryd.func17, Tryd.ntmps17
  go_upto_region 1 with (fail)
  obtain ⟨W, hW⟩ : ∃ W, w.alloc (.cells x.cells.toArray 27) = W := ⟨_, rfl⟩
  have hbo := blob_alloc w hx
  have hb : Below w.heap.size w (w.alloc (.cells x.cells.toArray 27)) := (Below.refl _ w).alloc (Nat.le_refl _) _
  rw [hW] at hbo hb ⊢
  have HBO := Lib.hid hbo
  clear hbo hW
  by_cases h0 : i < 0
  · go_wp2
    go_ret3
    have e : S = (0, 0, 1) := by rw [← HS.out, spanZ, if_pos (.inl h0)]
    rw [e]
    exact ⟨rfl, hb⟩
  have h0' : ¬ i < 0 := h0
  go_wp2_with ((with_reducible refine wpList_met (o := ⟨some 11, _, _, _, _, _⟩) ?_ ?_); rfl; intro K hK; refine wp_load_blob (g := w.heap.size) (x := x) rfl rfl HBO.out (hK _ _ ?_))
  refine (Count_any x W hx).mono ?_
  rintro e w2 ⟨rfl, hb2⟩
  have hbA := below_next hb hb2
  have hbo2 := HBO.out.of_new hb2
  have hs := hbo2.size
  have hp := hbo2.piece
  clear hbo2 hb2 hb HBO
  by_cases h1 : mcountB x.size x.piece ≤ i
  · have e : S = (0, 0, 1) := by rw [← HS.out, spanZ, if_pos (.inr h1)]
    clear HS
    go_wp2
    go_ret3
    rw [e]
    exact ⟨rfl, hbA⟩
  · have e : S = (i * x.piece, min x.piece (x.size - i * x.piece), 0) := by rw [← HS.out, spanZ, if_neg (by omega)]
    obtain ⟨q0, q1, q2, q3, q4⟩ := span_parts (by omega) (Int.not_le.1 h1)
    clear HS
    obtain ⟨c, hc⟩ : ∃ c, mcountB x.size x.piece = c := ⟨_, rfl⟩
    rw [hc] at h1 ⊢
    have hd : ¬ c ≤ i := h1
    obtain ⟨n, hn⟩ : ∃ n, x.size = n := ⟨_, rfl⟩
    obtain ⟨k, hk⟩ : ∃ n, x.piece = n := ⟨_, rfl⟩
    rw [hn] at hs e q1 q2
    rw [hk] at hp e q0 q1 q3 q4
    clear hn hk hc
    obtain ⟨m, hm⟩ : ∃ m, i * k = m := ⟨_, rfl⟩
    rw [hm] at e q0 q1
    have hw1 : IntKind.i64.wrap (i * k) = m := by rw [hm]; exact IntWalk.i64_in _ (by omega)
    have hw2 : IntKind.i64.wrap (n - m) = n - m := IntWalk.i64_in _ (by omega)
    go_wp2
    go_quiet (fail)
    go_wp2
    all_goals
      go_ret3
      refine ⟨?_, hbA.trans (below_drewn _)⟩
      try rw [e]
      first
        | rfl
        | (rw [show min k (n - m) = k by omega]; try rfl)
        | (rw [show min k (n - m) = n - m by omega]; try rfl)

set_option maxHeartbeats 1600000 in
theorem RSpan_any (x : BlobL) (i : Int) (w : World) (hx : x.ok) (i1 : -9223372036854775808 ≤ i) (i2 : i ≤ 9223372036854775807) :
    Calls Tryd.prog 18 #[BlobV x, .int .i64 i] w fun e w' => e = .returned (.tuple #[.int .i64 (spanZ x.size x.piece i).1, .int .i64 (spanZ x.size x.piece i).2.1, .int .i64 (spanZ x.size x.piece i).2.2]) ∧ Below w.heap.size w w' := by
  rw [show BlobV x = .agg x.cells.toArray from rfl]
  obtain ⟨S, hS⟩ : ∃ S, spanZ x.size x.piece i = S := ⟨_, rfl⟩
  rw [hS]
  have HS := Lib.hid hS
  clear hS
  go_enter Tryd.func18, Tryd.ntmps18
  go_upto_region 1 with (fail)
  obtain ⟨W, hW⟩ : ∃ W, w.alloc (.cells x.cells.toArray 27) = W := ⟨_, rfl⟩
  have hbo := blob_alloc w hx
  have hb : Below w.heap.size w (w.alloc (.cells x.cells.toArray 27)) := (Below.refl _ w).alloc (Nat.le_refl _) _
  rw [hW] at hbo hb ⊢
  have HBO := Lib.hid hbo
  clear hbo hW
  by_cases h0 : i < 0
  · go_wp2
    go_ret3
    have e : S = (0, 0, 1) := by rw [← HS.out, spanZ, if_pos (.inl h0)]
    rw [e]
    exact ⟨rfl, hb⟩
  have h0' : ¬ i < 0 := h0
  go_wp2_with ((with_reducible refine wpList_met (o := ⟨some 11, _, _, _, _, _⟩) ?_ ?_); rfl; intro K hK; refine wp_load_blob (g := w.heap.size) (x := x) rfl rfl HBO.out (hK _ _ ?_))
  refine (RCount_any x W hx).mono ?_
  rintro e w2 ⟨rfl, hb2⟩
  have hbA := below_next hb hb2
  have hbo2 := HBO.out.of_new hb2
  have hs := hbo2.size
  have hp := hbo2.piece
  clear hbo2 hb2 hb HBO
  by_cases h1 : mcountB x.size x.piece ≤ i
  · have e : S = (0, 0, 1) := by rw [← HS.out, spanZ, if_pos (.inr h1)]
    clear HS
    go_wp2
    go_ret3
    rw [e]
    exact ⟨rfl, hbA⟩
  · have e : S = (i * x.piece, min x.piece (x.size - i * x.piece), 0) := by rw [← HS.out, spanZ, if_neg (by omega)]
    obtain ⟨q0, q1, q2, q3, q4⟩ := span_parts (by omega) (Int.not_le.1 h1)
    clear HS
    obtain ⟨c, hc⟩ : ∃ c, mcountB x.size x.piece = c := ⟨_, rfl⟩
    rw [hc] at h1 ⊢
    have hd : ¬ c ≤ i := h1
    obtain ⟨n, hn⟩ : ∃ n, x.size = n := ⟨_, rfl⟩
    obtain ⟨k, hk⟩ : ∃ n, x.piece = n := ⟨_, rfl⟩
    rw [hn] at hs e q1 q2
    rw [hk] at hp e q0 q1 q3 q4
    clear hn hk hc
    obtain ⟨m, hm⟩ : ∃ m, i * k = m := ⟨_, rfl⟩
    rw [hm] at e q0 q1
    have hw1 : IntKind.i64.wrap (i * k) = m := by rw [hm]; exact IntWalk.i64_in _ (by omega)
    have hw2 : IntKind.i64.wrap (n - m) = n - m := IntWalk.i64_in _ (by omega)
    go_wp2
    go_quiet (fail)
    go_wp2
    all_goals
      go_ret3
      refine ⟨?_, hbA.trans (below_drewn _)⟩
      try rw [e]
      first
        | rfl
        | (rw [show min k (n - m) = k by omega]; try rfl)
        | (rw [show min k (n - m) = n - m by omega]; try rfl)

end Go.Proofs.YtnomekfemadpeaaDoor

/- The walk of digest.spread: a chunk's words. Condition: 64 bytes or more. -/
import Derived.Test.YtnomekfemadpeaaDoorShaTurn
import Derived.Deep.QuietTactic
import Derived.BigQuiet
namespace Go.Proofs.YtnomekfemadpeaaDoor
open Go.RowKit
set_option linter.unusedVariables false

def W32 (x : UInt32) : Value := .int .u32 (w32 x)
/-- A block that holds words. -/
def Words (w : World) (g t : Nat) (ws : List UInt32) : Prop := w.heap[g]? = some (.cells (ws.map W32).toArray t (0, 0))

theorem Words.cell {w : World} {g t : Nat} {ws : List UInt32} (h : Words w g t ws) {j : Nat} (hj : j < ws.length) : w.cell? ⟨g, j, none⟩ = some (W32 (ws.getD j 0)) := by
  unfold Words at h
  simp [World.cell?, h, List.getElem?_eq_getElem hj, List.getD]
theorem Words.free {w : World} {g t : Nat} {ws : List UInt32} (h : Words w g t ws) (j : Nat) : w.frozen? ⟨g, j, none⟩ = false := by
  unfold Words at h
  simp [World.frozen?, h]
theorem Words.set {w : World} {g t : Nat} {ws : List UInt32} (h : Words w g t ws) (j : Nat) (x : UInt32) : Words (w.setCell ⟨g, j, none⟩ (W32 x)) g t (ws.set j x) := by
  unfold Words at *
  obtain ⟨hlt, hk⟩ := Array.getElem?_eq_some_iff.1 h
  show (w.heap.modify g _)[g]? = _
  rw [Array.getElem?_eq_getElem (by rw [Array.size_modify]; exact hlt), Array.getElem_modify_self, hk]
  simp [List.map_set]
theorem Words.of_block {w w' : World} {g t : Nat} {ws : List UInt32} (h : Words w g t ws) (e : w'.heap[g]? = w.heap[g]?) : Words w' g t ws := by
  unfold Words at *; rw [e]; exact h
theorem Words.drew {w : World} {g t : Nat} {ws : List UInt32} (h : Words w g t ws) : Words w.drew g t ws := h

theorem words_two (w : World) (t : Nat) (A : Array Value) (ws : List UInt32) (h : A = (ws.map W32).toArray) : Words ((w.alloc (.cells A t)).alloc (.cells A t)) (w.heap.size + 1) t ws ∧ Words ((w.alloc (.cells A t)).alloc (.cells A t)) w.heap.size t ws := by
  subst h
  constructor
  · have := heap_alloc_new (w.alloc (.cells (ws.map W32).toArray t)) (.cells (ws.map W32).toArray t)
    rw [World.size_alloc] at this
    exact this
  · exact (Below.heap_alloc _ _ _ (by simp)).trans (heap_alloc_new w _)

theorem pw_len (b : List UInt8) (k : Nat) : (pw b k).length = 64 := by
  induction k with
  | zero => simp [pw]
  | succ k ih => simp [pw, ih]

theorem w32_byte (x : UInt32) (c : UInt8) (j : Nat) (hj : j ≤ 24) : bits BinOp.or IntKind.u32 (w32 x) (IntKind.u32.wrap ((c.toNat : Int) * 2 ^ j)) = w32 (x ||| UInt32.ofNat (c.toNat * 2 ^ j)) := by
  have hc := c.toNat_lt
  have hp : 2 ^ j ≤ 2 ^ 24 := Nat.pow_le_pow_right (by decide) hj
  have hlt : c.toNat * 2 ^ j < 4294967296 := Nat.lt_of_le_of_lt (Nat.mul_le_mul_left _ hp) (by omega)
  have e : IntKind.u32.wrap ((c.toNat : Int) * 2 ^ j) = w32 (UInt32.ofNat (c.toNat * 2 ^ j)) := by
    rw [IntKind.wrap_u32', w32_nat]
    simp
  rw [e, w32_or]

theorem w32_byte' (x : UInt32) (c : UInt8) (j : Nat) (hj : j ≤ 24) : bits BinOp.or IntKind.u32 (w32 x) ((c.toNat : Int) % 4294967296 * 2 ^ j % 4294967296) = w32 (x ||| UInt32.ofNat (c.toNat * 2 ^ j)) := by
  have hc := c.toNat_lt
  rw [← w32_byte x c j hj, IntKind.wrap_u32', show (c.toNat : Int) % 4294967296 = (c.toNat : Int) from by omega]

theorem set_next (m : List UInt8) (t : Nat) (h1 : 16 ≤ t) (h2 : t < 64) :
    (wordsTo m (t - 16) ++ List.replicate (64 - t) 0).set t (nextW (wordsTo m (t - 16))) = wordsTo m (t + 1 - 16) ++ List.replicate (64 - (t + 1)) 0 := by
  have hl := wordsTo_len m (t - 16)
  rw [show t + 1 - 16 = (t - 16) + 1 from by omega, wordsTo, show 64 - t = (64 - (t + 1)) + 1 from by omega, List.replicate_succ]
  rw [List.set_append_right _ _ (by rw [hl]; omega), hl, show t - (16 + (t - 16)) = 0 from by omega, List.set_cons_zero, List.append_assoc, List.singleton_append]

theorem nextW_at (m : List UInt8) (t : Nat) (h1 : 16 ≤ t) : nextW (wordsTo m (t - 16)) = (wordsTo m (t - 16)).getD (t - 16) 0 + (wordsTo m (t - 16)).getD (t - 7) 0 + sg1 ((wordsTo m (t - 16)).getD (t - 2) 0) + sg0 ((wordsTo m (t - 16)).getD (t - 15) 0) := by
  rw [nextW, wordsTo_len, show 16 + (t - 16) = t from by omega]

theorem results_cell {fn : Func} {p : Tmp} {ty : TypeId} (h : fn.results = #[.cell p ty]) (tmps : Array Value) {P : Program} {w : World} {b : Nat} {v : Value} (hp : tmps.getD p undef = .pointer (some ⟨b, 0, none⟩))
    (hv : (loadVar ty ⟨b, 0, none⟩).run P w = .ok v w) : (results fn tmps).run P w = .ok v w := by
  simp only [results, h]
  have hp' : tmps[p]?.getD undef = .pointer (some ⟨b, 0, none⟩) := by simpa using hp
  simp [hp', asAddr, hv]

theorem wpList_store_row {P : Program} {ops : Array Oper} {rest : List Oper} {op : Oper} {a : Act} {w : World} {Q : Exit → Act → World → Prop} (hgd : op.guard = none) (ty : TypeId) (x y : Operand) (ho : op.op = .store ty x y)
    (g t : Nat) (old cells : Array Value) (hx : a.eval x = .pointer (some ⟨g, 0, none⟩)) (hy : a.eval y = .agg cells) (hg : w.heap[g]? = some (.cells old t (0, 0))) (hi : (P.info? ty).map (·.size) = some cells.size) (hs : old.size = cells.size)
    (h1 : cells.all (·.oneCell') = true) (h : wpList P ops Q rest (a.put op.dst undef) (w.setRow g cells)) : wpList P ops Q (op :: rest) a w :=
  wpList_plain hgd fun _ hK => by
    unfold Oper.wp execOp
    simp only [ho, hx, hy, Instr.storeAt, Instr.sureAddr, Sem.run_bind, Sem.run_pure, Result.andThen_ok, run_storeVar_row (P := P) w g t ty old cells hg hi hs h1]
    exact hK _ _ h

theorem below_setRow' {B : Nat} (w : World) (g : Nat) (cs : Array Value) (h : B ≤ g) : Below B w (w.setRow g cs) :=
  ⟨rfl, rfl, rfl, by simp [World.setRow], fun k hk => by simp only [World.setRow, Array.getElem?_modify]; rw [if_neg (by omega)]⟩

theorem words_one (ws : List UInt32) : ((ws.map W32).toArray).all (·.oneCell') = true :=
  Array.all_eq_true_iff_forall_mem.2 (fun v hv => by
    obtain ⟨x, _, rfl⟩ := List.mem_map.1 (by simpa using hv)
    rfl)

/-- A whole array of words laid into a block of words. -/
theorem wpList_store_words {P : Program} {ops : Array Oper} {rest : List Oper} {op : Oper} {a : Act} {w : World} {Q : Exit → Act → World → Prop} (ty : TypeId) (x y : Operand) (g t : Nat) (old ws : List UInt32) (hgd : op.guard = none) (ho : op.op = .store ty x y)
    (hx : a.eval x = .pointer (some ⟨g, 0, none⟩)) (hy : a.eval y = .agg (ws.map W32).toArray) (hg : Words w g t old) (hi : (P.info? ty).map (·.size) = some ws.length) (hs : old.length = ws.length)
    (h : wpList P ops Q rest (a.put op.dst undef) (w.setRow g (ws.map W32).toArray)) : wpList P ops Q (op :: rest) a w :=
  wpList_store_row hgd ty x y ho g t _ _ hx hy hg (by rw [hi]; simp) (by simp [hs]) (words_one ws) h

theorem Words.laid {w : World} {g t : Nat} {old : List UInt32} (h : Words w g t old) (ws : List UInt32) : Words (w.setRow g (ws.map W32).toArray) g t ws := setRow_heap _ _ _ _ _ _ h

/-- A whole array of words read. -/
theorem Words.run_load {P : Program} {w : World} {g t : Nat} {ws : List UInt32} (h : Words w g t ws) (ty e : TypeId) (n : Nat) (hu : P.underlying ty = some (.array n e)) (hi : (P.info? ty).map (·.size) = some ws.length) :
    (loadVar ty ⟨g, 0, none⟩).run P w = .ok (.agg (ws.map W32).toArray) w :=
  run_loadVar_row _ _ t ty _ (0, 0) _ h hu rfl (by rw [hi]; simp)

theorem info_64 : (Tryd.prog.info? 119).map (·.size) = some 64 := by kernel_rfl

attribute [local go_sem] w32_add w32_xor w32_shr10 w32_shr3

set_option maxRecDepth 100000 in
set_option maxHeartbeats 1600000 in
theorem spread_any (v : Value) (l : List UInt8) (w : World) (hl : Bytes w v l) (h64 : 64 ≤ l.length) :
    Calls Tryd.prog 83 #[v] w fun e w' => e = .returned (.agg ((wordsL l).map W32).toArray) ∧ Below w.heap.size w w' := by
  obtain ⟨i0, hi, hz0, hz1, hz2⟩ := info_parts infoU8
  obtain ⟨a, cp, hv⟩ := hl.len
  subst hv
  obtain ⟨r, hrun, hr, _⟩ := hl.part (P := Tryd.prog) (t := 22) Tryd.underlying22 hi hz1 none (some (.int .i64 64)) 0 64 (by omega) h64 (.inl ⟨rfl, rfl⟩) (.inr ⟨.i64, rfl⟩)
  obtain ⟨m, hm⟩ : ∃ m, m = (l.drop 0).take (64 - 0) := ⟨_, rfl⟩
  have hm64 : m.length = 64 := by rw [hm]; simp; omega
  rw [← hm] at hr
  have hwl : wordsL l = wordsL m := by rw [hm]; exact (wordsTo_take l 48).symm
  rw [hwl]
  obtain ⟨ra, rc, hrs⟩ := hr.len
  rw [hm64] at hrs
  subst hrs
  obtain ⟨b, off, c', hv, hbl, hc⟩ := hr.cell (by omega)
  rw [hm64] at hv hc
  obtain ⟨rfl, rfl⟩ : ra = some ⟨b, off, none⟩ ∧ rc = c' := by cases hv; exact ⟨rfl, rfl⟩
  have HC := Lib.hid hc
  clear hc hv hr hm hwl hl h64
  go_enter Tryd.func83, Tryd.ntmps83
  go_wp2
  go_loopw [12] (fun iv wr => ∃ k : Nat, k ≤ 64 ∧ iv = .int .i64 k ∧ Words wr (w.heap.size + 1) 119 (pw m k) ∧ Words wr w.heap.size 119 (List.replicate 64 0) ∧ Below w.heap.size w wr)
    (fun iv _ => 64 - (intOf iv).toNat)
  case atStart => exact ⟨0, by omega, rfl, (words_two w _ _ _ (by rfl)).1, (words_two w _ _ _ (by rfl)).2, ((Below.refl _ w).alloc (Nat.le_refl _) _).alloc (by simp) _⟩
  case round =>
    obtain ⟨k, hk, rfl, hW, hR, hb⟩ := hrel
    by_cases hlt : k < 64
    · have hck := (hb.cell (p := ⟨b, off + k, none⟩) hbl).trans (HC.out k hlt)
      obtain ⟨c, hcc⟩ : ∃ c, c = m.getD k 0 := ⟨_, rfl⟩
      rw [← hcc] at hck
      unfold B8 at hck
      have Hcc := Lib.hid hcc
      have hwk : wr.cell? ⟨w.heap.size + 1, k / 4, none⟩ = some (W32 ((pw m k).getD (k / 4) 0)) := hW.cell (by rw [pw_len]; omega)
      have hfk := hW.free (k / 4)
      unfold W32 at hwk
      obtain ⟨x, hx⟩ : ∃ x, x = (pw m k).getD (k / 4) 0 := ⟨_, rfl⟩
      rw [← hx] at hwk
      have HX := Lib.hid hx
      clear hx
      have HW := Lib.hid hW
      have HR := Lib.hid hR
      clear hW hR hcc
      have hq0 : (0 : Int) ≤ (k : Int) / 4 := by omega
      have hq1 : (k : Int) / 4 < 64 := by omega
      go_wp2
      go_region
      all_goals go_wp2
      go_roundw
      case rel =>
        have hb' : Below w.heap.size w wr := hb
        rw [w32_byte' x c _ (by omega)]
        refine ⟨k + 1, by omega, by go_num, ?_, ?_, (hb.setCell (p := ⟨w.heap.size + 1, k / 4, none⟩) (by simp) _).drew⟩
        · have := (HW.out.set (k / 4) (x ||| UInt32.ofNat (c.toNat * 2 ^ (24 - 8 * (k % 4))))).drew
          rw [pw, ← Hcc.out, ← HX.out]
          exact this
        · exact (HR.out.of_block (Below.heap_setCell _ _ _ _ (by simp))).drew
      case measure => simp [intOf]; omega
    · obtain rfl : k = 64 := by omega
      have hpw : pw m 64 = wordsTo m 0 ++ List.replicate 48 0 := pw_four m 16 (by omega)
      rw [hpw] at hW
      clear hpw
      have hbA := hb
      have hszA := hb.size
      clear hb
      rw [show ((64 : Nat) : Int) = 64 from rfl]
      go_wp2
      go_loopw [6] (fun iv wx => ∃ t : Nat, 16 ≤ t ∧ t ≤ 64 ∧ iv = .int .i64 t ∧ Words wx (w.heap.size + 1) 119 (wordsTo m (t - 16) ++ List.replicate (64 - t) 0) ∧ Words wx w.heap.size 119 (List.replicate 64 0) ∧ Below w.heap.size w wx)
        (fun iv _ => 64 - (intOf iv).toNat)
      case atStart => exact ⟨16, by omega, by omega, rfl, hW, hR, hbA⟩
      case round =>
        clear hW hR hbA
        obtain ⟨t, ht16, ht, rfl, hW, hR, hb⟩ := hrel
        have hlen : (wordsTo m (t - 16) ++ List.replicate (64 - t) 0).length = 64 := by rw [List.length_append, wordsTo_len, List.length_replicate]; omega
        by_cases hlt : t < 64
        · have hg : ∀ j, j < t → (wordsTo m (t - 16) ++ List.replicate (64 - t) 0).getD j 0 = (wordsTo m (t - 16)).getD j 0 := by
            intro j hj
            simp only [List.getD_eq_getElem?_getD]
            rw [List.getElem?_append_left (by rw [wordsTo_len]; omega)]
          have h2 := hW.cell (j := t - 2) (by omega)
          have h15 := hW.cell (j := t - 15) (by omega)
          have h16 := hW.cell (j := t - 16) (by omega)
          have h7 := hW.cell (j := t - 7) (by omega)
          have hfr := hW.free t
          have ht1 := hW.cell (j := t) (by omega)
          rw [hg _ (by omega)] at h2 h15 h16 h7
          unfold W32 at h2 h15 h16 h7 ht1
          obtain ⟨x2, e2⟩ : ∃ x, x = (wordsTo m (t - 16)).getD (t - 2) 0 := ⟨_, rfl⟩
          obtain ⟨x15, e15⟩ : ∃ x, x = (wordsTo m (t - 16)).getD (t - 15) 0 := ⟨_, rfl⟩
          obtain ⟨x16, e16⟩ : ∃ x, x = (wordsTo m (t - 16)).getD (t - 16) 0 := ⟨_, rfl⟩
          obtain ⟨x7, e7⟩ : ∃ x, x = (wordsTo m (t - 16)).getD (t - 7) 0 := ⟨_, rfl⟩
          rw [← e2] at h2
          rw [← e15] at h15
          rw [← e16] at h16
          rw [← e7] at h7
          have E2 := Lib.hid e2
          have E15 := Lib.hid e15
          have E16 := Lib.hid e16
          have E7 := Lib.hid e7
          have HW := Lib.hid hW
          have HR := Lib.hid hR
          have HG := Lib.hid hlen
          clear e2 e15 e16 e7 hW hR hlen hg
          have i2 : (0 : Int) ≤ (t : Int) - 2 := by omega
          have j2 : (t : Int) - 2 < 64 := by omega
          have i15 : (0 : Int) ≤ (t : Int) - 15 := by omega
          have j15 : (t : Int) - 15 < 64 := by omega
          have i16 : (0 : Int) ≤ (t : Int) - 16 := by omega
          have j16 : (t : Int) - 16 < 64 := by omega
          have i7 : (0 : Int) ≤ (t : Int) - 7 := by omega
          have j7 : (t : Int) - 7 < 64 := by omega
          have jt : (t : Int) < 64 := by omega
          go_wp2
          go_quiet (fail)
          go_wp2_with fail
          refine (turn17 x2 _).mono ?_
          rintro e w1 ⟨rfl, rfl⟩
          go_wp2_with fail
          refine (turn19 x2 _).mono ?_
          rintro e w1 ⟨rfl, rfl⟩
          go_wp2_with fail
          refine (turn7 x15 _).mono ?_
          rintro e w1 ⟨rfl, rfl⟩
          go_wp2_with fail
          refine (turn18 x15 _).mono ?_
          rintro e w1 ⟨rfl, rfl⟩
          go_wp2_with fail
          go_region
          all_goals go_wp2
          go_roundw
          case rel =>
            refine ⟨t + 1, by omega, by omega, by go_num, ?_, ?_, Below.trans hb ((below_drewn _).setCell (p := ⟨w.heap.size + 1, t, none⟩) (by show w.heap.size ≤ w.heap.size + 1; omega) _)⟩
            · rw [← set_next m t ht16 hlt, nextW_at m t ht16, ← E2.out, ← E15.out, ← E16.out, ← E7.out]
              exact HW.out.set t _
            · exact HR.out.of_block (Below.heap_setCell _ _ _ _ (by simp))
          case measure => simp [intOf]; omega
        · obtain rfl : t = 64 := by omega
          have hW' : Words wr (w.heap.size + 1) 119 (wordsL m) := by simpa [wordsL] using hW
          have hl48 : (wordsL m).length = 64 := wordsTo_len m 48
          clear hW
          go_wp2_with (first | (refine wpList_load_row rfl 119 _ rfl (w.heap.size + 1) rfl _ _ _ _ hW' Tryd.underlying119 rfl ?hi ?_; (case hi => rw [info_64]; simp [hl48])) | (refine wpList_store_row rfl 119 _ _ rfl w.heap.size 119 _ _ rfl rfl hR ?hj ?hk (words_one _) ?_; (case hj => rw [info_64]; simp [hl48]); (case hk => simp [hl48])))
          refine bodyPost_ret (results_cell rfl _ rfl (run_loadVar_row _ _ 119 _ ((wordsL m).map W32).toArray (0, 0) _ (setRow_heap _ _ _ _ _ _ hR) Tryd.underlying119 rfl (by rw [info_64]; simp [hl48]))) rfl ⟨rfl, ?_⟩
          exact hb.trans (below_setRow' _ _ _ (Nat.le_refl _))

end Go.Proofs.YtnomekfemadpeaaDoor

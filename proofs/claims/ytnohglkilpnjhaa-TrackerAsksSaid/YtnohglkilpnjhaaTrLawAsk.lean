/- The walk of the law TrackerAsks: it answers true. No condition. -/
import Derived.Test.YtnohglkilpnjhaaTrLawBnd
namespace Go.Proofs.Ytnohglkilpnjhaa
open Go.RowKit
set_option linter.unusedVariables false
set_option linter.unusedSimpArgs false
set_option maxRecDepth 100000

/-- A map of numbers to flags. -/
def mL (M : List (Int × Bool)) : List (Int × Value) := M.map fun p => (p.1, .bool p.2)
def lookM (M : List (Int × Bool)) (x : Int) : Bool := ((M.find? (fun p => decide (p.1 = x))).map (·.2)).getD false
def putM2 (M : List (Int × Bool)) (x : Int) (b : Bool) : List (Int × Bool) := (x, b) :: M.filter (fun p => !decide (p.1 = x))
theorem mL_get (M : List (Int × Bool)) (x : Int) : (getL (mL M) x).getD (.bool false) = .bool (lookM M x) := by
  unfold getL lookM mL
  rw [List.find?_map]
  have e : ((fun p : Int × Value => decide (p.1 = x)) ∘ fun p : Int × Bool => (p.1, Value.bool p.2)) = fun p => decide (p.1 = x) := rfl
  rw [e]
  cases M.find? (fun p => decide (p.1 = x)) <;> rfl
theorem mL_put (M : List (Int × Bool)) (x : Int) (b : Bool) : putM (mL M) x (.bool b) = mL (putM2 M x b) := by
  unfold putM delL mL putM2
  rw [List.filter_map]; rfl
theorem mL_len (M : List (Int × Bool)) : (mL M).length = M.length := by simp [mL]
theorem putM2_len (M : List (Int × Bool)) (x : Int) (b : Bool) : (putM2 M x b).length ≤ M.length + 1 := by
  unfold putM2
  have : (M.filter (fun p => !decide (p.1 = x))).length ≤ M.length := List.length_filter_le _ _
  simp; exact this
theorem lookM_put (M : List (Int × Bool)) (x y : Int) (b : Bool) : lookM (putM2 M x b) y = if x = y then b else lookM M y := by
  unfold lookM putM2
  by_cases h : x = y
  · rw [if_pos h, List.find?_cons_of_pos (by simpa using h)]; rfl
  · rw [if_neg h, List.find?_cons_of_neg (by simpa using h)]
    congr 2
    induction M with
    | nil => rfl
    | cons p M ih =>
      by_cases hp : p.1 = x
      · rw [List.filter_cons_of_neg (by simp [hp]), ih, List.find?_cons_of_neg (by simp; omega)]
      · rw [List.filter_cons_of_pos (by simp [hp])]
        by_cases hq : p.1 = y
        · rw [List.find?_cons_of_pos (by simpa using hq), List.find?_cons_of_pos (by simpa using hq)]
        · rw [List.find?_cons_of_neg (by simpa using hq), List.find?_cons_of_neg (by simpa using hq), ih]
/-- All of these are true. -/
def allM (O : List Int) : List (Int × Bool) := (O.map (fun i => (i, true))).reverse
theorem allM_snoc {O : List Int} {x : Int} (h : x ∉ O) : allM (O ++ [x]) = putM2 (allM O) x true := by
  have hf : (allM O).filter (fun p => !decide (p.1 = x)) = allM O := List.filter_eq_self.2 fun p hp => by
    obtain ⟨i, hi, rfl⟩ := List.mem_map.1 (List.mem_reverse.1 hp)
    simp only [Bool.not_eq_true', decide_eq_false_iff_not]
    rintro rfl; exact h hi
  unfold putM2
  rw [hf]
  simp [allM]
theorem allM_look (O : List Int) (x : Int) : lookM (allM O) x = decide (x ∈ O) := by
  unfold lookM
  cases e : (allM O).find? (fun p => decide (p.1 = x)) with
  | none =>
    symm
    rw [Option.map_none, Option.getD_none]
    refine decide_eq_false fun hx => ?_
    have := List.find?_eq_none.1 e (x, true) (List.mem_reverse.2 (List.mem_map.2 ⟨x, hx, rfl⟩))
    simp at this
  | some p =>
    have h1 := List.mem_of_find?_eq_some e
    have h2 : p.1 = x := by simpa using List.find?_some e
    obtain ⟨i, hi, rfl⟩ := List.mem_map.1 (List.mem_reverse.1 h1)
    symm
    exact decide_eq_true (by have h3 : i = x := h2; rw [← h3]; exact hi)
theorem allM_len (O : List Int) : (allM O).length = O.length := by simp [allM]
theorem others_nodup {P : List PeerL} (h : Rising PeerL.id P) (id : Int) : (othersL P id).Nodup := by
  unfold othersL
  have h2 : (P.filter (fun p => p.id != id)).Pairwise (fun a b => a.id < b.id) := h.filter _
  exact List.pairwise_map.2 (h2.imp fun {a b} hlt => by omega)
theorem others_ok {P : List PeerL} (h : PsOk P) (id : Int) : ∀ x ∈ othersL P id, 1 ≤ x ∧ x ≤ 65536 := fun x hx => by
  unfold othersL at hx
  obtain ⟨p, hp, rfl⟩ := List.mem_map.1 hx
  have := h.ok p (List.mem_filter.1 hp).1
  exact ⟨this.1, this.2.1⟩
theorem samp_sub {s : Nat} {O : List Int} {k : Int} (hn : O.Nodup) : (sampleL s O k).Nodup ∧ ∀ x ∈ sampleL s O k, x ∈ O := by
  unfold sampleL
  have hp := shufL_perm s O
  exact ⟨(hp.nodup_iff.2 hn).sublist (List.take_sublist _ _), fun x hx => hp.mem_iff.1 (List.mem_of_mem_take hx)⟩
theorem samp_len (s : Nat) (O : List Int) (k : Int) : ((sampleL s O k).length : Int) = max 0 (min k (O.length : Int)) := by
  unfold sampleL
  rw [List.length_take, (shufL_perm s O).length_eq]
  omega

set_option maxHeartbeats 6400000 in
theorem TrackerAsks_walk (v : Value) (l : List StepL) (x0 x1 : Int) (seed : Nat) (w : World) (hl : RStep.Row w v l) (hx0 : -9223372036854775808 ≤ x0) (hx0' : x0 ≤ 9223372036854775807) (hx1 : -9223372036854775808 ≤ x1) (hx1' : x1 ≤ 9223372036854775807) (hseed : seed < 18446744073709551616) :
    Calls Try.prog 7 #[v, .agg #[.int .i64 x0, .int .i64 x1], .int .u64 (seed : Int)] w fun e w' => e = .returned (.bool true) ∧ Below w.heap.size w w' := by
  obtain ⟨va, vc, hv⟩ := hl.len
  subst hv
  have hle := hl.le
  have HL := Lib.hid hl
  have hbr := build_rtab 1 1
  obtain ⟨W, hW⟩ : ∃ W, w.alloc (.cells #[.int .i64 x0, .int .i64 x1] 58) = W := ⟨_, rfl⟩
  have hb : Below w.heap.size w W := by rw [← hW]; exact (Below.refl _ w).alloc (Nat.le_refl _) _
  have hg0 : W.cell? ⟨w.heap.size, 0, none⟩ = some (.int .i64 x0) := by rw [← hW]; simp only [World.cell?, heap_alloc_new]; rfl
  have hg1 : W.cell? ⟨w.heap.size, 1, none⟩ = some (.int .i64 x1) := by rw [← hW]; simp only [World.cell?, heap_alloc_new]; rfl
  have HB := Lib.hid hb
  have HG0 := Lib.hid hg0
  have HG1 := Lib.hid hg1
  have HW := Lib.hid hW
  clear hl hW hb hg0 hg1
  go_enter Try.func7, Try.ntmps7
  go_upto_region 1 with (fail)
  rw [HW.out]
  obtain ⟨g, hg⟩ : ∃ g, w.heap.size = g := ⟨_, rfl⟩
  have HG := Lib.hid hg
  rw [hg] at HG0 HG1 ⊢
  clear hg
  go_upto_region 3 with (first
    | (go_at_call 9; refine (awake_any _).mono ?_; rintro e w1 ⟨rfl, hb1⟩; have HB1 := Lib.hid hb1; clear hb1)
    | (go_at_call 10; refine (New_ok 1000 64 _ (by decide)).mono ?_; rintro e w2 ⟨t, mb, rfl, hT2, ht2, hmb2, hb2⟩; have HI := Lib.hid (show BndI W t mb 1000 64 [] w2 from ⟨hT2, entE_nil (by decide), (fun j hj => by rcases hj with rfl | ⟨x, hx, _⟩; exact Nat.le_trans HB1.out.size hmb2; cases hx), below_next HB1.out hb2⟩); clear hb2 hT2 ht2 hmb2))
  by_cases h60 : 60 < l.length
  · have t1 : (60 : Int) < (l.length : Int) := by omega
    go_wp2
    go_ret
    exact ⟨rfl, below_next (HG.out ▸ HB.out) HI.out.below⟩
  have t1 : ¬ (60 : Int) < (l.length : Int) := by omega
  go_wp2
  go_loopw [10] (fun iv W' => ∃ (i : Nat) (E : EntL), i ≤ l.length ∧ iv = .int .i64 (i : Int) ∧ BndI W t mb 1000 64 E W') (fun iv _ => l.length - (intOf iv).toNat)
  case atStart => exact ⟨0, [], Nat.zero_le _, rfl, HI.out⟩
  case round =>
    rename World => w4
    obtain ⟨i, E, hi, rfl, hI⟩ := hrel
    have HI4 := Lib.hid hI
    clear hI
    by_cases hlt : i < l.length
    case pos =>
      have hii : (i : Int) < (l.length : Int) := by omega
      obtain ⟨b0, off, c', hv, hbl, hc⟩ := HL.out.at_ (by omega)
      obtain ⟨rfl, rfl⟩ : va = some ⟨b0, off, none⟩ ∧ vc = c' := by cases hv; exact ⟨rfl, rfl⟩
      obtain ⟨x, hx⟩ : ∃ x, l[i]? = some x := ⟨_, List.getElem?_eq_getElem hlt⟩
      have HC := Lib.hid ((hc i x hx).of_new HB.out)
      have hxo : RStep.ok x := (hc i x hx).1
      have HXO := Lib.hid hxo
      clear hv hc hx hxo hbl
      obtain ⟨w5, hw5⟩ : ∃ w5, w4.alloc (.cells #[.int .i64 1, .int .i64 1, .slice none 0 0] 57) = w5 := ⟨_, rfl⟩
      have HR5 := Lib.hid (show RTabP w5 w4.heap.size 1 1 w4.heap.size (.slice none 0 0) [] [] by rw [← hw5]; exact rtabP_new w4 1 1)
      have HB45 := Lib.hid (show Below w4.heap.size w4 w5 by rw [← hw5]; exact (Below.refl _ w4).alloc (Nat.le_refl _) _)
      have HW5 := Lib.hid hw5
      have HAT := Lib.hid (show RStep.At w5 b0 (off + i * 37) x from (HC.out.of_new HI4.out.below).of_new HB45.out)
      clear hw5
      go_wp2_with (first
        | ((with_reducible refine wpList_plain (o := ⟨some 55, Op.load _ _, _, _, _, _⟩) rfl fun K hK => ?_); rw [HW5.out]; (refine HAT.out.wp rfl rfl (hK _ _ ?_)))
        | (go_at_call 16; refine (step_any t mb 1000 64 E w4.heap.size 1 1 w4.heap.size (.slice none 0 0) [] [] x _ (HI4.out.tab.of_new HB45.out) HI4.out.ok (by decide) (by decide) HR5.out (TabOk.nil (by decide)) (by decide) (by decide) HXO.out).mono ?_; unfold StepPost; rintro e w6 ⟨E6, v6, L6, b6, rfl, hE6, hT6, ho6, hR6, hk6, -⟩; have HI6 := Lib.hid (HI4.out.step (by decide) (by decide) HXO.out HB45.out (Nat.le_refl _) hE6 hT6 ho6 hk6); clear hE6 hT6 ho6 hR6 hk6))
      go_roundw
      case rel => exact ⟨i + 1, E6, by omega, by go_num, HI6.out⟩
      case measure => simp [intOf]; omega
    obtain rfl : i = l.length := by omega
    obtain ⟨n, hn⟩ : ∃ n, l.length = n := ⟨_, rfl⟩
    have HNL := Lib.hid hn
    rw [hn] at t1 hle ⊢
    have hii : ¬ (n : Int) < (n : Int) := by omega
    clear hlt hi hn hbr
    go_wp2
    go_loopw [11, 12, 13, 14, 15, 16, 17] (fun iv _ _ _ _ _ _ W' => ∃ i : Nat, i ≤ n ∧ iv = .int .i64 (i : Int) ∧ Below w4.heap.size w4 W') (fun iv _ _ _ _ _ _ _ => n - (intOf iv).toNat)
    case atStart => exact ⟨0, Nat.zero_le _, rfl, Below.refl _ _⟩
    case round =>
      rename World => w7
      obtain ⟨i, hi, rfl, hb7⟩ := hrel
      have HI7 := Lib.hid (HI4.out.new hb7)
      by_cases hlt : i < n
      case neg =>
        obtain rfl : i = n := by omega
        have hii : ¬ (i : Int) < (i : Int) := by omega
        go_wp2
        go_ret
        exact ⟨rfl, below_next (HG.out ▸ HB.out) HI7.out.below⟩
      have hii : (i : Int) < (n : Int) := by omega
      obtain ⟨b0, off, c', hv, hbl, hc⟩ := HL.out.at_ (by rw [HNL.out]; omega)
      rw [HNL.out] at hv
      obtain ⟨rfl, rfl⟩ : va = some ⟨b0, off, none⟩ ∧ vc = c' := by cases hv; exact ⟨rfl, rfl⟩
      obtain ⟨x, hx⟩ : ∃ x, l[i]? = some x := ⟨_, List.getElem?_eq_getElem (by rw [HNL.out]; exact hlt)⟩
      have HC := Lib.hid ((hc i x hx).of_new HB.out)
      have HD7 := Lib.hid (RStep_dig (HC.out.of_new HI7.out.below))
      have H32 := Lib.hid (show x.dig.length = 32 from (hc i x hx).1.1)
      have HB47 := Lib.hid hb7
      clear hv hc hx hbl hb7
      obtain ⟨P, hP⟩ : ∃ P, peersT x.dig (tabOf E) = P := ⟨_, rfl⟩
      have hPo := peersT_ok HI4.out.ok (by decide) x.dig
      rw [hP] at hPo
      have hPl : P.length ≤ 64 := by have := hPo.2; omega
      have HP := Lib.hid hP
      have HPO := Lib.hid hPo.1
      clear hP hPo
      go_upto_region 13 with (first
        | ((with_reducible refine wpList_plain (o := ⟨some 68, Op.load _ _, _, _, _, _⟩) rfl fun K hK => ?_); (refine wp_load_at (ty := 30) (x := .tmp 67) rfl rfl HD7.out (hK _ _ ?_)))
        | (go_at_call 12; refine (Peers_any t mb 1000 64 E x.dig _ HI7.out.tab HI7.out.ok (by decide) H32.out).mono ?_; rw [HP.out]; rintro e w8 ⟨v8, rfl, ho8, hb8⟩; obtain ⟨a8, c8, hv8⟩ := ho8.row.len; subst hv8; have HO8 := Lib.hid ho8.row; have HB8 := Lib.hid (below_next HB47.out hb8); clear ho8 hb8))
      have hmm := @run_makeMap Try.prog
      go_upto_region 14 with (fail)
      obtain ⟨w9, hw9⟩ : ∃ w9, w8.alloc (.map #[] 0) = w9 := ⟨_, rfl⟩
      have HM9 := Lib.hid (show MapL KInt w9 w8.heap.size (mL (allM [])) by rw [← hw9]; exact mapL_made w8)
      have HB9 := Lib.hid (show Below w8.heap.size w8 w9 by rw [← hw9]; exact (Below.refl _ w8).alloc (Nat.le_refl _) _)
      rw [hw9]
      obtain ⟨mp, hmp⟩ : ∃ mp, w8.heap.size = mp := ⟨_, rfl⟩
      have HMP := Lib.hid hmp
      rw [hmp] at HM9 ⊢
      clear hw9 hmp hmm
      go_wp2
      go_loopw [14] (fun kv W' => ∃ k : Nat, k ≤ P.length ∧ kv = .int .i64 (k : Int) ∧ MapL KInt W' mp (mL (allM (othersL (P.take k) x0))) ∧ Below w8.heap.size w8 W') (fun kv _ => P.length - (intOf kv).toNat)
      case atStart => exact ⟨0, Nat.zero_le _, rfl, HM9.out, HB9.out⟩
      case round =>
        rename World => w10
        obtain ⟨k, hk, rfl, hm10, hb10⟩ := hrel
        have HX10 := Lib.hid (below_next HI4.out.below (below_next HB8.out hb10))
        by_cases hlk : k < P.length
        case pos =>
          have hkk : (k : Int) < (P.length : Int) := by omega
          obtain ⟨pb, poff, c', hv, hbl, hat⟩ := HO8.out.at_ (by omega)
          obtain ⟨rfl, rfl⟩ : a8 = some ⟨pb, poff, none⟩ ∧ c8 = c' := by cases hv; exact ⟨rfl, rfl⟩
          obtain ⟨p, hp⟩ : ∃ p, P[k]? = some p := ⟨_, List.getElem?_eq_getElem hlk⟩
          have hpc := (peer_cells ((hat k p hp).of_new hb10)).1
          have hpo := HPO.out.ok p (List.mem_of_getElem? hp)
          unfold PeerOk at hpo
          have hst := othersL_step hp x0
          have hnin : p.id ∉ othersL (P.take k) x0 := fun h => by
            unfold othersL at h
            obtain ⟨q, hq, e⟩ := List.mem_map.1 h
            have hr := HPO.out.rise
            rw [split_at hp] at hr
            have := hr.mid.1 q (List.mem_filter.1 hq).1
            omega
          have c1 := fun w' (h : Grew w10 w') => (Grew.cell h hpc : w'.cell? ⟨pb, poff + k * 3, none⟩ = _)
          have c2 := fun w' (h : Grew w10 w') => Grew.cell h (Grew.cell HX10.out HG0.out)
          have hol := othersL_len (P.take k) x0
          rw [List.length_take] at hol
          obtain ⟨O, hO⟩ : ∃ O, othersL (P.take k) x0 = O := ⟨_, rfl⟩
          rw [hO] at hst hnin hm10 hol
          have HPC := Lib.hid hpc
          have HM10 := Lib.hid hm10
          have HB10 := Lib.hid hb10
          have HST := Lib.hid hst
          have HNI := Lib.hid hnin
          have hol2 : O.length ≤ 64 := by omega
          have HOL := Lib.hid hol2
          clear hv hbl hat hp hpc hst hnin hm10 hb10 hO hol hol2
          go_upto_region 17 with (fail)
          by_cases he : p.id = x0
          · have e1 : (p.id != x0) = false := by simp [he]
            have hst := HST.out
            rw [if_pos he] at hst
            have HS2 := Lib.hid hst
            clear hst he
            refine wp_region_grew (by kernel_rfl) (by kernel_rfl) ?_
            repeat (first
              | (go_big_quiet_want; (with_reducible apply quiet_load_at (ty := 30) (x := .tmp _)); rfl; rfl; assumption; go_simp; go_big_quiet_on)
              | (go_big_quiet_want; apply quiet_val; (intro w' hw'; go_simp; first | done | rfl); go_simp; go_big_quiet_on)
              | (go_big_quiet_skip))
            refine wpQuiet_nil ?_
            intro w11 hw11
            have HB11 := Lib.hid (below_next HB10.out hw11)
            have HM11 := Lib.hid (HM10.out.of_new hw11)
            clear hw11 c1 c2
            go_wp2
            go_roundw
            case rel => exact ⟨k + 1, by omega, by go_num, by rw [HS2.out]; exact HM11.out, HB11.out⟩
            case measure => simp [intOf]; omega
          · have e1 : (p.id != x0) = true := by simp [he]
            have hst := HST.out
            rw [if_neg he] at hst
            have HS2 := Lib.hid hst
            clear hst he
            refine wp_region_grew (by kernel_rfl) (by kernel_rfl) ?_
            repeat (first
              | (go_big_quiet_want; (with_reducible apply quiet_load_at (ty := 30) (x := .tmp _)); rfl; rfl; assumption; go_simp; go_big_quiet_on)
              | (go_big_quiet_want; apply quiet_val; (intro w' hw'; go_simp; first | done | rfl); go_simp; go_big_quiet_on)
              | (go_big_quiet_skip))
            refine wpQuiet_nil ?_
            intro w11 hw11
            have HB11 := Lib.hid (below_next HB10.out hw11)
            have hpc11 : w11.cell? ⟨pb, poff + k * 3, none⟩ = some (.int .i64 p.id) := c1 w11 hw11
            obtain ⟨w12, hput, hm12, hg12, hs12⟩ := (HM10.out.of_new hw11).put (t := 33) Try.underlying33 (KT := KInt) (x := p.id) (show _ ∧ _ by omega) (.bool true) (by rw [mL_len, allM_len]; have := HOL.out; omega)
            replace hput : (Instr.mapUpdate 33 (.map (some mp)) (.int .i64 p.id) (.bool true)).run Try.prog w11 = .ok () w12 := hput
            rw [mL_put, ← allM_snoc HNI.out, ← HS2.out] at hm12
            have HM12 := Lib.hid hm12
            have HB12 := Lib.hid (HB11.out.grown hg12 HB11.out.size (fun q e => by cases e; rw [HMP.out]; exact Nat.le_refl _))
            clear hw11 c1 c2 hm12 hg12 hs12
            go_wp2
            go_roundw
            case rel => exact ⟨k + 1, by omega, by go_num, HM12.out, HB12.out⟩
            case measure => simp [intOf]; omega
        obtain rfl : k = P.length := by omega
        rw [List.take_length] at hm10
        have hkk : ¬ (P.length : Int) < (P.length : Int) := by omega
        have hnd := others_nodup HPO.out.rise x0
        have hoo := others_ok HPO.out x0
        have hol := othersL_len P x0
        obtain ⟨O, hO⟩ : ∃ O, othersL P x0 = O := ⟨_, rfl⟩
        rw [hO] at hm10 hnd hoo hol
        have hlen := fun ty => hm10.len (t := 33) Try.underlying33 ty
        rw [mL_len, allM_len] at hlen
        have hss := samp_sub (s := seed) (k := x1) hnd
        have hsl := samp_len seed O x1
        have hOE : othersL (peersT x.dig (tabOf E)) x0 = O := by rw [HP.out, hO]
        obtain ⟨S, hS⟩ : ∃ S, sampleL seed O x1 = S := ⟨_, rfl⟩
        rw [hS] at hss hsl
        have HOE := Lib.hid hOE
        have HS := Lib.hid hS
        have HSS := Lib.hid hss
        have HSL := Lib.hid hsl
        have HOO := Lib.hid hoo
        have HM10 := Lib.hid hm10
        have HB10 := Lib.hid hb10
        have HI10 := Lib.hid (HI4.out.new (below_next HB8.out hb10))
        have HD10 := Lib.hid (RStep_dig (HC.out.of_new HI10.out.below))
        have hol2 : O.length ≤ 64 := by omega
        clear hm10 hb10 hnd hoo hol hO hss hsl hOE hS
        go_upto_region 20 with (fail)
        clear hlen
        have hdg := HD10.out
        have c1 := fun w' (h : Grew w10 w') => Grew.cell h (Grew.cell HX10.out HG0.out)
        have c2 := fun w' (h : Grew w10 w') => Grew.cell h (Grew.cell HX10.out HG1.out)
        refine wp_region_grew_tail 11 (by kernel_rfl) (by kernel_rfl) ?_
        simp only [List.take_succ_cons, List.take_zero, List.drop_succ_cons, List.drop_zero]
        repeat (first
          | (go_big_quiet_want; (with_reducible apply quiet_load_at (ty := 30) (x := .tmp _)); rfl; rfl; assumption; go_simp; go_big_quiet_on)
          | (go_big_quiet_want; apply quiet_val; (intro w' hw'; go_simp; first | done | rfl); go_simp; go_big_quiet_on)
          | (go_big_quiet_skip))
        refine wpQuiet_nil ?_
        intro w11 hw11
        have HM11 := Lib.hid (HM10.out.of_new hw11)
        have HB11 := Lib.hid (below_next HB10.out hw11)
        have HI11 := Lib.hid (HI10.out.new hw11)
        clear hdg c1 c2 hw11
        go_upto_region 21 with (go_at_call 22; refine (Ask_any t mb 1000 64 E x.dig x0 x1 seed _ HI11.out.tab HI11.out.ok (by decide) H32.out hseed).mono ?_; rw [HOE.out, HS.out]; rintro e w12 ⟨v12, rfl, hi12, hb12⟩; obtain ⟨a12, c12, hv12⟩ := hi12.len; subst hv12; have HO12 := Lib.hid hi12; have HM12 := Lib.hid (HM11.out.of_new hb12); have HB12 := Lib.hid (below_next HB11.out hb12); clear hi12 hb12)
        have hSb : S.length ≤ 64 := by have := HSL.out; omega
        go_wp2
        go_loopw [17] (fun jv W' => ∃ (j : Nat) (M : List (Int × Bool)), j ≤ S.length ∧ jv = .int .i64 (j : Int) ∧ MapL KInt W' mp (mL M) ∧ M.length ≤ 64 + j ∧ (∀ id, lookM M id = decide (id ∈ O ∧ id ∉ S.take j)) ∧ Below w8.heap.size w8 W' ∧ Kept (fun k => k ≠ mp) w12 W') (fun jv _ => S.length - (intOf jv).toNat)
        case atStart => exact ⟨0, allM O, Nat.zero_le _, rfl, HM12.out, by rw [allM_len]; omega, fun id => by rw [allM_look]; simp, HB12.out, Kept.refl _ _⟩
        case round =>
          rename World => w13
          obtain ⟨j, M, hj, rfl, hm13, hml, hlook, hb13, hb1213⟩ := hrel
          by_cases hlj : j < S.length
          case pos =>
            have hjj : (j : Int) < (S.length : Int) := by omega
            obtain ⟨sb, soff, c', hv, hsbl, hsc⟩ := HO12.out.cell (by omega)
            obtain ⟨rfl, rfl⟩ : a12 = some ⟨sb, soff, none⟩ ∧ c12 = c' := by cases hv; exact ⟨rfl, rfl⟩
            have hne : sb ≠ mp := fun e => by
              subst e
              obtain ⟨ma, mc, hmo⟩ := HM12.out.obj
              have h0 := hsc j hlj
              simp [World.cell?, hmo] at h0
            have hcj := (hb1213.cell (p := ⟨sb, soff + j, none⟩) hsbl hne).trans (hsc j hlj)
            obtain ⟨y, hy⟩ : ∃ y, S.getD j 0 = y := ⟨_, rfl⟩
            rw [hy] at hcj
            have hyl : S[j]? = some y := by rw [← hy]; simp [List.getD, hlj]
            have hyO := HSS.out.2 y (List.mem_of_getElem? hyl)
            have hyb := HOO.out y hyO
            have htk := take_snoc_at hyl
            have hynot : y ∉ S.take j := fun h => by
              have hnd := HSS.out.1
              rw [split_at hyl] at hnd
              exact (List.nodup_append.1 hnd).2.2 y h y (by simp) rfl
            have hlk := hm13.look (t := 33) Try.underlying33 (Try.zeroValue4 w13) (KT := KInt) (x := y) (show _ ∧ _ by omega)
            rw [mL_get, hlook, decide_eq_true ⟨hyO, hynot⟩] at hlk
            replace hlk : (Instr.lookup 33 (.map (some mp)) (.int .i64 y) false).run Try.prog w13 = .ok (.bool true) w13 := hlk
            obtain ⟨w14, hput, hm14, hg14, hs14⟩ := hm13.put (t := 33) Try.underlying33 (KT := KInt) (x := y) (show _ ∧ _ by omega) (.bool false) (by rw [mL_len]; omega)
            replace hput : (Instr.mapUpdate 33 (.map (some mp)) (.int .i64 y) (.bool false)).run Try.prog w13 = .ok () w14 := hput
            rw [mL_put] at hm14
            have hlook' : ∀ id, lookM (putM2 M y false) id = decide (id ∈ O ∧ id ∉ S.take (j + 1)) := fun id => by
              rw [lookM_put, htk]
              by_cases e : y = id
              · rw [if_pos e]; symm; exact decide_eq_false fun h => h.2 (by rw [e]; simp)
              · rw [if_neg e, hlook, decide_eq_decide]
                simp only [List.mem_append, List.mem_singleton]
                exact ⟨fun h => ⟨h.1, fun q => q.elim h.2 (fun q => e q.symm)⟩, fun h => ⟨h.1, fun q => h.2 (.inl q)⟩⟩
            have HLK' := Lib.hid hlook'
            have HM14 := Lib.hid hm14
            have HB14 := Lib.hid (hb13.grown hg14 hb13.size (fun q e => by cases e; rw [HMP.out]; exact Nat.le_refl _))
            have hpl := putM2_len M y false
            have HPL := Lib.hid hpl
            have HK14 := Lib.hid (hb1213.grown hg14 (fun q e => by cases e; exact fun h => h rfl))
            clear hv hsc hy hyl hyO hyb htk hynot hm14 hg14 hs14 hlook' hm13 hb13 hlook hpl hb1213 hne
            go_wp2
            go_roundw
            case rel => exact ⟨j + 1, putM2 M y false, by omega, by go_num, HM14.out, by have := HPL.out; omega, HLK'.out, HB14.out, HK14.out⟩
            case measure => simp [intOf]; omega
          obtain rfl : j = S.length := by omega
          have HX13 := Lib.hid (below_next HI4.out.below (below_next (Below.refl _ _) (below_next HB8.out hb13)))
          have c2 := Grew.cell HX13.out HG1.out
          have HB13 := Lib.hid (below_next HB8.out hb13)
          obtain ⟨N, hN⟩ : ∃ N, S.length = N := ⟨_, rfl⟩
          obtain ⟨m, hm⟩ : ∃ m, O.length = m := ⟨_, rfl⟩
          have hfin : (N : Int) = max 0 (min x1 (m : Int)) := by rw [← hN, ← hm]; exact HSL.out
          rw [hN, hm]
          have hjj : ¬ (N : Int) < (N : Int) := by omega
          clear hN hm hm13 hml hlook hb13 hb1213 hlj hj
          have hc3 : (x1 < (m : Int) ∧ 0 < x1 ∧ x1 = (N : Int)) ∨ (x1 < (m : Int) ∧ ¬ 0 < x1 ∧ N = 0) ∨ ((m : Int) < x1 ∧ m = N ∧ 0 < N) ∨ ((m : Int) < x1 ∧ m = N ∧ N = 0) ∨ (x1 = (N : Int) ∧ m = N ∧ 0 < N) ∨ (x1 = (N : Int) ∧ m = N ∧ N = 0) := by omega
          have hbn : ((N : Int) != (N : Int)) = false := by simp
          clear hfin
          rcases hc3 with ⟨q1, q2, rfl⟩ | ⟨q1, q2, rfl⟩ | ⟨q1, rfl, q2⟩ | ⟨q1, rfl, rfl⟩ | ⟨rfl, rfl, q2⟩ | ⟨rfl, rfl, rfl⟩
          all_goals
            go_wp2
            all_goals
              go_roundw
              case rel => exact ⟨i + 1, by omega, by go_num, HB13.out⟩
              case measure => simp [intOf]; omega

end Go.Proofs.Ytnohglkilpnjhaa

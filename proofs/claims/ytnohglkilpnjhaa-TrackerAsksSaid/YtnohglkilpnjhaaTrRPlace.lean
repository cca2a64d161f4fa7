/- The walk of the document's answer's place. Condition: the table as it lies. -/
import Derived.Test.YtnohglkilpnjhaaTrRTab
import Derived.Test.YtnohglkilpnjhaaTrRPlain
import Derived.Test.YtnohglkilpnjhaaTrRCmp
import Derived.Test.YtnohglkilpnjhaaGb
namespace Go.Proofs.Ytnohglkilpnjhaa
open Go.RowKit
set_option linter.unusedVariables false
set_option linter.unusedSimpArgs false
set_option maxRecDepth 100000

theorem ROf_dig {w : World} {g off : Nat} {x : List UInt8 × Value} (h : ROf.At w g off x) : DigAt w g off x.1 := ⟨h.1.1, fun j hj => by
  have h1 := h.2.2 j (by show j < 33; omega)
  rw [h1]
  show (x.1.map B8 ++ [x.2])[j]? = _
  rw [List.getElem?_append_left (by simp [h.1.1]; omega)]⟩
theorem ROf_val {w : World} {g off : Nat} {x : List UInt8 × Value} (h : ROf.At w g off x) : w.cell? ⟨g, off + 32, none⟩ = some x.2 := by
  have h1 := h.2.2 32 (by show 32 < 33; omega)
  rw [h1]
  show (x.1.map B8 ++ [x.2])[32]? = _
  rw [List.getElem?_append_right (by simp [h.1.1])]
  simp [h.1.1]
theorem RTabP.fst {w : World} {r B : Nat} {many most : Int} {v : Value} {L : RefL} {T : TabL} (h : RTabP w r many most B v L T) {i : Nat} {x : List UInt8 × Value} {y : List UInt8 × List PeerL} (hx : L[i]? = some x) (hy : T[i]? = some y) : x.1 = y.1 := by
  have := congrArg (fun l => l[i]?) h.keys
  simpa [hx, hy] using this

def PlacePost (T : TabL) (d : List UInt8) (w : World) (e : Ending) (w' : World) : Prop := ∃ (i : Nat) (is : Bool), e = .returned (.tuple #[.int .i64 (i : Int), .bool is]) ∧ PlaceT T d i is ∧ Below w.heap.size w w'
set_option maxHeartbeats 3200000 in
theorem RPlace_any (r : Nat) (many most : Int) (B : Nat) (v : Value) (L : RefL) (T : TabL) (d : List UInt8) (w : World) (hR : RTabP w r many most B v L T) (hr : Rising kD T) (hdig : ∀ x ∈ T, x.1.length = 32) (hlen : T.length ≤ 100000) (h32 : d.length = 32) :
    Calls Try.prog 35 #[.pointer (some ⟨r, 0, none⟩), .agg (d.map B8).toArray] w (PlacePost T d w) := by
  obtain ⟨W, hW⟩ : ∃ W, w.alloc (.cells (d.map B8).toArray 30) = W := ⟨_, rfl⟩
  have ho : DigO W w.heap.size d := by rw [← hW]; exact digO_new w h32
  have hb : Below w.heap.size w W := by rw [← hW]; exact (Below.refl _ w).alloc (Nat.le_refl _) _
  have hRW := hR.of_new hb
  obtain ⟨a, c, hv⟩ := hR.own.row.len
  subst hv
  have hLT := hR.len
  obtain ⟨n, hn⟩ : ∃ n, T.length = n := ⟨_, rfl⟩
  rw [hLT, hn] at hRW
  have hle : n ≤ 100000 := by omega
  have HW := Lib.hid hW
  have HO := Lib.hid ho
  have HB := Lib.hid hb
  have HR := Lib.hid hRW
  have HRS := Lib.hid hr
  have HDG := Lib.hid hdig
  have H32 := Lib.hid h32
  have HN := Lib.hid hn
  have HLN := Lib.hid hLT
  clear hR hr hdig hlen h32 hW ho hb hRW hLT hn
  go_enter Try.func35, Try.ntmps35
  go_upto_region 1 with (fail)
  rw [HW.out]
  obtain ⟨g, hg⟩ : ∃ g, w.heap.size = g := ⟨_, rfl⟩
  have HG := Lib.hid hg
  rw [hg] at HO ⊢
  clear hg
  go_wp2
  go_loopw [6] (fun iv W' => ∃ i : Nat, i ≤ n ∧ iv = .int .i64 (i : Int) ∧ (∀ x ∈ T.take i, kD x < (natL d : Int)) ∧ Below W.heap.size W W') (fun iv _ => n - (intOf iv).toNat)
  case atStart => exact ⟨0, Nat.zero_le _, rfl, (fun x hx => by cases hx), Below.refl _ _⟩
  case round =>
    obtain ⟨i, hi, rfl, hlow, hbr⟩ := hrel
    have hRr := HR.out.of_new hbr
    have hc2 := fun w' (h : Grew wr w') => Grew.cell h hRr.cell2
    have hdg0 : DigAt wr g 0 d := (HO.out.of_new hbr).at_
    have HLOW := Lib.hid hlow
    have HBR := Lib.hid hbr
    clear hlow hbr
    by_cases hlt : i < n
    · have hii : (i : Int) < (n : Int) := by omega
      obtain ⟨y, hy⟩ : ∃ y, T[i]? = some y := ⟨_, List.getElem?_eq_getElem (by rw [HN.out]; exact hlt)⟩
      obtain ⟨x, hx⟩ : ∃ x, L[i]? = some x := ⟨_, List.getElem?_eq_getElem (by rw [HLN.out, HN.out]; exact hlt)⟩
      obtain ⟨b, off, c', hv, hbl, hat⟩ := hRr.own.row.at_ (by rw [HLN.out, HN.out]; omega)
      obtain ⟨rfl, rfl⟩ : a = some ⟨b, off, none⟩ ∧ c = c' := by cases hv; exact ⟨rfl, rfl⟩
      have hdg1 : DigAt wr b (off + i * 33) x.1 := ROf_dig (hat i x hx)
      rw [hRr.fst hx hy] at hdg1
      have hym := List.mem_of_getElem? hy
      have hy32 := HDG.out y hym
      have hsg := cmpL_sign y.1 d (by rw [hy32, H32.out])
      have HCC := Lib.hid (fun w' => RCompare_any y.1 d w' hy32 H32.out)
      obtain ⟨C, hC⟩ : ∃ C, cmpL y.1 d = C := ⟨_, rfl⟩
      rw [hC] at hsg HCC
      have hdn : DigAt wr b (off + i * 33) y.1 := hdg1
      have HTK := Lib.hid (take_snoc_at hy)
      have HY := Lib.hid hy
      have HY32 := Lib.hid hy32
      have HSG := Lib.hid hsg
      have hgd := guard_dig
      have heql := run_eql_dig y.1 d hy32 H32.out
      clear hv hbl hat hx hy hym hdg1 hRr hC hsg hy32
      by_cases hC0 : C < 0
      · go_upto_region 2 with (fail)
        refine wp_region_grew (by kernel_rfl) (by kernel_rfl) ?_
        repeat (first
          | (go_big_quiet_want; (with_reducible apply quiet_load_at (ty := 30) (x := .tmp _)); rfl; rfl; assumption; go_simp; go_big_quiet_on)
          | (go_big_quiet_want; apply quiet_val; (intro w' hw'; go_simp; first | done | rfl); go_simp; go_big_quiet_on)
          | (go_big_quiet_want; apply quiet_call (f := 61); (intro w' hw'; go_simp; first | done | rfl); (intro w' hw'; exact Grew.call hw' (HCC.out w')); go_simp; go_big_quiet_on)
          | (go_big_quiet_skip))
        refine wpQuiet_nil ?_
        intro w5 hw5
        have HB5 := Lib.hid (below_next HBR.out hw5)
        have hnl : kD y < (natL d : Int) := by
          have h := HSG.out
          unfold kD
          split at h
          · omega
          · split at h <;> omega
        have HNL := Lib.hid hnl
        clear hw5 hc2 hdg0 hdn hgd heql hnl
        go_wp2
        go_roundw
        case rel =>
          refine ⟨i + 1, by omega, by go_num, fun z hz => ?_, HB5.out⟩
          rw [HTK.out] at hz
          rcases List.mem_append.1 hz with hz | hz
          · exact HLOW.out z hz
          · rw [List.mem_singleton.1 hz]; exact HNL.out
        case measure => simp [intOf]; omega
      · go_upto_region 2 with (fail)
        refine wp_region_grew (by kernel_rfl) (by kernel_rfl) ?_
        repeat (first
          | (go_big_quiet_want; (with_reducible apply quiet_load_at (ty := 30) (x := .tmp _)); rfl; rfl; assumption; go_simp; go_big_quiet_on)
          | (go_big_quiet_want; apply quiet_val; (intro w' hw'; go_simp; first | done | rfl); go_simp; go_big_quiet_on)
          | (go_big_quiet_want; apply quiet_call (f := 61); (intro w' hw'; go_simp; first | done | rfl); (intro w' hw'; exact Grew.call hw' (HCC.out w')); go_simp; go_big_quiet_on)
          | (go_big_quiet_skip))
        refine wpQuiet_nil ?_
        intro w5 hw5
        have HB5 := Lib.hid (below_next HBR.out hw5)
        replace hc2 := fun w' (h : Grew w5 w') => hc2 w' (below_next hw5 h)
        replace hdg0 := hdg0.of_new hw5
        replace hdn := hdn.of_new hw5
        clear hw5
        go_upto_region 4 with (fail)
        refine wp_region_grew (by kernel_rfl) (by kernel_rfl) ?_
        repeat (first
          | (go_big_quiet_want; (with_reducible apply quiet_load_at (ty := 30) (x := .tmp _)); rfl; rfl; assumption; go_simp; go_big_quiet_on)
          | (go_big_quiet_want; apply quiet_val; (intro w' hw'; go_simp; first | done | rfl); go_simp; go_big_quiet_on)
          | (go_big_quiet_skip))
        refine wpQuiet_nil ?_
        intro w6 hw6
        have HB6 := Lib.hid (below_next HB.out (below_next HB5.out hw6))
        have hpl : PlaceT T d i (decide (y.1 = d)) := by
          refine ⟨by rw [HN.out]; omega, HLOW.out, fun h => ⟨y.2, ?_⟩, fun h z hz => ?_⟩
          · rw [HY.out]; rw [← of_decide_eq_true h]
          · have hne := of_decide_eq_false h
            have h1 := HSG.out
            have h2 : ¬ natL y.1 = natL d := fun e => hne (natL_inj _ _ (by rw [HY32.out, H32.out]) e)
            have h3 : natL d < natL y.1 := by
              split at h1
              · omega
              · omega
            have hs := split_at HY.out
            have hr2 := HRS.out
            rw [hs] at hr2
            rw [List.drop_eq_getElem_cons (by rw [HN.out]; exact hlt)] at hz
            have hye : T[i]'(by rw [HN.out]; exact hlt) = y := by have := HY.out; rw [List.getElem?_eq_getElem (by rw [HN.out]; exact hlt)] at this; exact Option.some.inj this
            rw [hye] at hz
            rcases List.mem_cons.1 hz with rfl | hz
            · unfold kD; omega
            · have := hr2.mid.2.1 z hz
              unfold kD at this ⊢; omega
        have HPL := Lib.hid hpl
        clear hw6 hc2 hdg0 hdn hgd heql hpl
        go_wp2
        go_ret2
        exact ⟨i, _, rfl, HPL.out, HB6.out⟩
    · obtain rfl : i = n := by omega
      have hii : ¬ (i : Int) < (i : Int) := by omega
      have hpl : PlaceT T d i false := ⟨by rw [HN.out]; exact Nat.le_refl _, HLOW.out, (fun h => (by cases h)), (fun _ z hz => (by rw [List.drop_of_length_le (by rw [HN.out]; exact Nat.le_refl _)] at hz; cases hz))⟩
      have HPL := Lib.hid hpl
      clear hpl hRr
      go_upto_region 2 with (fail)
      refine wp_region_grew (by kernel_rfl) (by kernel_rfl) ?_
      repeat (first
        | (go_big_quiet_want; (with_reducible apply quiet_load_at (ty := 30) (x := .tmp _)); rfl; rfl; assumption; go_simp; go_big_quiet_on)
        | (go_big_quiet_want; apply quiet_val; (intro w' hw'; go_simp; first | done | rfl); go_simp; go_big_quiet_on)
        | (go_big_quiet_skip))
      refine wpQuiet_nil ?_
      intro w5 hw5
      have HB5 := Lib.hid (below_next HBR.out hw5)
      replace hc2 := fun w' (h : Grew w5 w') => hc2 w' (below_next hw5 h)
      clear hw5
      go_upto_region 4 with (fail)
      refine wp_region_grew (by kernel_rfl) (by kernel_rfl) ?_
      repeat (first
        | (go_big_quiet_want; (with_reducible apply quiet_load_at (ty := 30) (x := .tmp _)); rfl; rfl; assumption; go_simp; go_big_quiet_on)
        | (go_big_quiet_want; apply quiet_val; (intro w' hw'; go_simp; first | done | rfl); go_simp; go_big_quiet_on)
        | (go_big_quiet_skip))
      refine wpQuiet_nil ?_
      intro w6 hw6
      have HB6 := Lib.hid (below_next HB.out (below_next HB5.out hw6))
      clear hw6 hc2 hdg0
      go_wp2
      go_ret2
      exact ⟨i, _, rfl, HPL.out, HB6.out⟩

end Go.Proofs.Ytnohglkilpnjhaa

/- The walks of the document's answer's Peers and Blobs. Condition: the table as it lies. -/
import Derived.Test.YtnohglkilpnjhaaTrRSt
namespace Go.Proofs.Ytnohglkilpnjhaa
open Go.RowKit
set_option linter.unusedVariables false
set_option linter.unusedSimpArgs false
set_option maxRecDepth 100000

set_option maxHeartbeats 1600000 in
theorem RPeers_any (r : Nat) (many most : Int) (B : Nat) (v : Value) (L : RefL) (T : TabL) (d : List UInt8) (w : World) (hR : RTabP w r many most B v L T) (hT : TabOk many most T) (hm : 1 ≤ many ∧ many ≤ 1000) (h32 : d.length = 32) :
    Calls Try.prog 18 #[.pointer (some ⟨r, 0, none⟩), .agg (d.map B8).toArray] w fun e w' => ∃ u, e = .returned u ∧ RPeer.Row w' u (peersT d T) ∧ Below w.heap.size w w' := by
  obtain ⟨W, hW⟩ : ∃ W, w.alloc (.cells (d.map B8).toArray 30) = W := ⟨_, rfl⟩
  have ho : DigO W w.heap.size d := by rw [← hW]; exact digO_new w h32
  have hb : Below w.heap.size w W := by rw [← hW]; exact (Below.refl _ w).alloc (Nat.le_refl _) _
  have HW := Lib.hid hW
  have HO := Lib.hid ho
  have HT := Lib.hid hT
  have H32 := Lib.hid h32
  have HB := Lib.hid hb
  have HR0 := Lib.hid (hR.of_new hb)
  have hTl : T.length ≤ 1000 := by have := hT.few; omega
  have HTL := Lib.hid hTl
  obtain ⟨ps, hps⟩ : ∃ ps, peersT d T = ps := ⟨_, rfl⟩
  rw [hps]
  have HPS := Lib.hid hps
  clear hR hT hW ho hb h32 hTl hps
  go_enter Try.func18, Try.ntmps18
  go_upto_region 1 with (fail)
  rw [HW.out]
  obtain ⟨g, hg⟩ : ∃ g, w.heap.size = g := ⟨_, rfl⟩
  have HG := Lib.hid hg
  rw [hg] at HO ⊢
  clear hg
  go_upto_region 2 with (first
    | ((with_reducible refine wpList_plain (o := ⟨some 9, Op.load _ _, _, _, _, _⟩) rfl fun K hK => ?_); (refine wp_load_at (ty := 30) (x := .tmp 3) rfl rfl HO.out.at_ (hK _ _ ?_)))
    | (go_at_call 35; refine (RPlace_any r many most B v L T d _ HR0.out HT.out.rise HT.out.dig (by have := HTL.out; omega) H32.out).mono ?_; rintro e w2 ⟨i, is, rfl, hpl, hb2⟩; have HPL := Lib.hid hpl; have HR2 := Lib.hid (HR0.out.of_new hb2); have HB2 := Lib.hid (below_next HB.out hb2); clear hpl hb2))
  cases is
  case false =>
    obtain ⟨h1, h2, h3⟩ := HPL.out.not HT.out.rise
    have hpe : ps = [] := by rw [← HPS.out, h1]
    have HPE := Lib.hid hpe
    clear h1 h2 h3 hpe
    go_wp2
    go_ret
    exact ⟨_, rfl, by rw [HPE.out]; exact RecT.Row.nil _, HG.out ▸ HB2.out⟩
  case true =>
    obtain ⟨ps', h1, h2, h3, h4, _⟩ := HPL.out.is HT.out.rise
    obtain rfl : ps = ps' := by rw [← HPS.out, h2]
    have HAT := Lib.hid h1
    clear h1 h2 h3 h4
    obtain ⟨gv, gc, hv, -, -, -, -, -⟩ := HR2.out.form (by have := (List.getElem?_eq_some_iff.1 HAT.out).1; omega)
    subst hv
    obtain ⟨n1, hn1⟩ : ∃ n1, T.length = n1 := ⟨_, rfl⟩
    rw [hn1] at HR2
    obtain ⟨a7, k7, -, hrow7, hcell7, -, hin7, -⟩ := HR2.out.entry HAT.out
    have hii : (i : Int) < (n1 : Int) := by omega
    have HROW := Lib.hid hrow7
    have c2 := HR2.out.cell2
    clear hn1 hrow7
    go_wp2
    go_ret
    exact ⟨_, rfl, HROW.out.row, HG.out ▸ HB2.out⟩

set_option maxHeartbeats 1600000 in
theorem RBlobs_any (r : Nat) (many most : Int) (B : Nat) (v : Value) (L : RefL) (T : TabL) (w : World) (hR : RTabP w r many most B v L T) (hT : TabOk many most T) (hm : 1 ≤ many ∧ many ≤ 1000) :
    Calls Try.prog 21 #[.pointer (some ⟨r, 0, none⟩)] w fun e w' => ∃ u, e = .returned u ∧ RDig.Own w' w.heap.size u (T.map (·.1)) ∧ Below w.heap.size w w' := by
  have HT := Lib.hid hT
  have HR := Lib.hid hR
  have hTl : T.length ≤ 1000 := by have := hT.few; omega
  have HTL := Lib.hid hTl
  obtain ⟨va, vc, hv⟩ := hR.own.row.len
  subst hv
  have hLT := hR.len
  obtain ⟨n, hn⟩ : ∃ n, T.length = n := ⟨_, rfl⟩
  rw [hLT, hn] at HR
  have hn1 : n ≤ 1000 := by omega
  have HN := Lib.hid hn
  have HLT := Lib.hid hLT
  clear hR hT hTl hLT hn
  go_enter Try.func21, Try.ntmps21
  go_wp2
  go_loopw [3, 4] (fun ov iv W => ∃ k : Nat, k ≤ n ∧ iv = .int .i64 (k : Int) ∧ RDig.Own W w.heap.size ov ((T.take k).map (·.1)) ∧ Below w.heap.size w W) (fun _ iv _ => n - (intOf iv).toNat)
  case atStart => exact ⟨0, Nat.zero_le _, rfl, RecT.Own.nil _ _, Below.refl _ _⟩
  case round =>
    obtain ⟨k, hk, rfl, hown, hb⟩ := hrel
    obtain ⟨oa, oc, hv⟩ := hown.row.len
    subst hv
    have hRr := HR.out.of_new hb
    have c2 := hRr.cell2
    by_cases hlt : k < n
    · have hki : (k : Int) < (n : Int) := by omega
      obtain ⟨y, hy⟩ : ∃ y, T[k]? = some y := ⟨_, List.getElem?_eq_getElem (by rw [HN.out]; exact hlt)⟩
      obtain ⟨x, hx⟩ : ∃ x, L[k]? = some x := ⟨_, List.getElem?_eq_getElem (by rw [HLT.out, HN.out]; exact hlt)⟩
      obtain ⟨b, off, c', hv, hbl, hat⟩ := hRr.own.row.at_ (by rw [HLT.out, HN.out]; omega)
      obtain ⟨rfl, rfl⟩ : va = some ⟨b, off, none⟩ ∧ vc = c' := by cases hv; exact ⟨rfl, rfl⟩
      have hdg : DigAt wr b (off + k * 33) x.1 := ROf_dig (hat k x hx)
      rw [hRr.fst hx hy] at hdg
      have hy32 := HT.out.dig y (List.mem_of_getElem? hy)
      have htk : (T.take (k + 1)).map (·.1) = (T.take k).map (·.1) ++ [y.1] := by rw [take_snoc_at hy, List.map_append]; rfl
      have hll : ((T.take k).map (·.1)).length ≤ 1000 := by rw [List.length_map, List.length_take]; omega
      obtain ⟨D, hD⟩ : ∃ D, (T.take k).map (·.1) = D := ⟨_, rfl⟩
      rw [hD] at hown htk hll ⊢
      have HTK := Lib.hid htk
      have HLL := Lib.hid hll
      have HDG := Lib.hid hdg
      have HY := Lib.hid hy32
      have HOWN := Lib.hid hown
      have HB := Lib.hid hb
      clear hv hbl hat hx hy hdg hy32 htk hll hD hown hb hRr
      go_wp2_with (first
        | ((with_reducible refine wpList_plain (o := ⟨some 22, Op.load _ _, _, _, _, _⟩) rfl fun K hK => ?_); (refine wp_load_at (ty := 30) (x := .tmp 21) rfl rfl HDG.out (hK _ _ ?_)))
        | ((with_reducible refine wpList_plain (o := ⟨some 23, Op.buildSlice _ _ _, _, _, _, _⟩) rfl fun K hK => ?_); (refine RDig.wp_build1 Try.underlying52 (.tmp 22) (x := y.1) HY.out rfl rfl fun w5 ho5 hb5 hs5 => hK _ _ ?_); have HO5 := Lib.hid ho5.row; have HB5 := Lib.hid hb5; clear ho5 hb5 hs5)
        | ((with_reducible refine wpList_plain (o := ⟨some 24, Op.call _, _, _, _, _⟩) rfl fun K hK => ?_); (refine (HOWN.out.of_new HB5.out).app Try.underlying52 (.tmp 14) (.tmp 23) rfl rfl rfl HO5.out (by have := HLL.out; simp; omega) (by have := HB.out.size; have := HB5.out.size; omega) fun v6 w6 ho6 hg6 hu6 => hK _ _ ?_); have HO6 := Lib.hid ho6; have HB6 := Lib.hid ((below_next HB.out HB5.out).grown hg6 (by have := HB.out.size; have := HB5.out.size; omega) (fun k e => (HOWN.out.lt k e).1)); clear ho6 hg6 hu6))
      go_roundw
      case rel => exact ⟨k + 1, by omega, by go_num, by rw [HTK.out]; exact HO6.out, HB6.out⟩
      case measure => simp [intOf]; omega
    · obtain rfl : k = n := by omega
      have hki : ¬ (k : Int) < (k : Int) := by omega
      have he : T.take k = T := List.take_of_length_le (by rw [HN.out]; exact Nat.le_refl _)
      rw [he] at hown ⊢
      obtain ⟨D, hD⟩ : ∃ D, T.map (·.1) = D := ⟨_, rfl⟩
      rw [hD] at hown ⊢
      have HDD := Lib.hid hD
      have HOWN := Lib.hid hown
      have HB := Lib.hid hb
      clear he hD hown hb hRr
      go_wp2
      go_ret
      exact ⟨_, rfl, by rw [HDD.out]; exact HOWN.out, HB.out⟩

end Go.Proofs.Ytnohglkilpnjhaa

/- slices.SortFunc at peers and at hashes: the kit's contract laid here, and what it says of lists. No condition. -/
import Derived.Test.YtnohglkilpnjhaaTrCmp
import Derived.Test.YtnohglkilpnjhaaRecDig
import Derived.Test.YtnohglkilpnjhaaSortK
import Derived.Test.YtnohglkilpnjhaaDigCmp
import Derived.Shelf.SlSortCmp.NoneTotal
namespace Go.Proofs.Ytnohglkilpnjhaa
open Go.RowKit Go.Shelf
set_option linter.unusedVariables false
set_option linter.unusedSimpArgs false
set_option maxRecDepth 100000

def sortP_ren : Go.Shelf.Ren := ⟨fun | 6 => 49 | 15 => 69 | 14 => 68 | 28 => 83 | 29 => 84 | 20 => 75 | 21 => 76 | 22 => 77 | 23 => 78 | 24 => 79 | 25 => 80 | 26 => 81 | 27 => 82 | 46 => 96 | 47 => 97 | 48 => 98 | 49 => 99 | 50 => 100 | 57 => 105 | n => n, fun | 22 => 31 | 24 => 35 | 25 => 77 | 3 => 3 | 39 => 118 | 0 => 0 | 53 => 129 | 55 => 59 | 4 => 4 | 46 => 123 | 45 => 122 | 50 => 80 | 5 => 5 | 9 => 9 | 66 => 139 | 70 => 142 | 76 => 146 | 77 => 147 | n => n, fun | n => n⟩
theorem sortP : Go.Proofs.SlLaysF0.n6 Try.prog sortP_ren where
  mixed := by kernel_rfl
  f6 := ⟨ "slices.SortFunc[[]starling/api.Peer,starling/api.Peer]", by decide, Try.func49.trans (congrArg some (by kernel_rfl))⟩
  f14 := ⟨ "slices.pdqsortCmpFunc[starling/api.Peer]", by decide, Try.func68.trans (congrArg some (by kernel_rfl))⟩
  f15 := Try.func69.trans (congrArg some (by kernel_rfl))
  f20 := ⟨ "slices.insertionSortCmpFunc[starling/api.Peer]", by decide, Try.func75.trans (congrArg some (by kernel_rfl))⟩
  f21 := ⟨ "slices.heapSortCmpFunc[starling/api.Peer]", by decide, Try.func76.trans (congrArg some (by kernel_rfl))⟩
  f22 := ⟨ "slices.breakPatternsCmpFunc[starling/api.Peer]", by decide, Try.func77.trans (congrArg some (by kernel_rfl))⟩
  f23 := ⟨ "slices.choosePivotCmpFunc[starling/api.Peer]", by decide, Try.func78.trans (congrArg some (by kernel_rfl))⟩
  f24 := ⟨ "slices.reverseRangeCmpFunc[starling/api.Peer]", by decide, Try.func79.trans (congrArg some (by kernel_rfl))⟩
  f25 := ⟨ "slices.partialInsertionSortCmpFunc[starling/api.Peer]", by decide, Try.func80.trans (congrArg some (by kernel_rfl))⟩
  f26 := ⟨ "slices.partitionEqualCmpFunc[starling/api.Peer]", by decide, Try.func81.trans (congrArg some (by kernel_rfl))⟩
  f27 := ⟨ "slices.partitionCmpFunc[starling/api.Peer]", by decide, Try.func82.trans (congrArg some (by kernel_rfl))⟩
  f28 := Try.func83.trans (congrArg some (by kernel_rfl))
  f29 := Try.func84.trans (congrArg some (by kernel_rfl))
  f46 := ⟨ "slices.siftDownCmpFunc[starling/api.Peer]", by decide, Try.func96.trans (congrArg some (by kernel_rfl))⟩
  f47 := Try.func97.trans (congrArg some (by kernel_rfl))
  f48 := Try.func98.trans (congrArg some (by kernel_rfl))
  f49 := ⟨ "slices.medianAdjacentCmpFunc[starling/api.Peer]", by decide, Try.func99.trans (congrArg some (by kernel_rfl))⟩
  f50 := ⟨ "slices.medianCmpFunc[starling/api.Peer]", by decide, Try.func100.trans (congrArg some (by kernel_rfl))⟩
  f57 := ⟨ "slices.order2CmpFunc[starling/api.Peer]", by decide, Try.func105.trans (congrArg some (by kernel_rfl))⟩
  t0 := Try.underlying0
  a0 := Try.isAgg0
  z0 := Try.sizeOf0
  v0 := Try.zeroValue0
  t3 := Try.underlying3
  a3 := Try.isAgg3
  z3 := Try.sizeOf3
  v3 := Try.zeroValue3
  t4 := Try.underlying4
  a4 := Try.isAgg4
  z4 := Try.sizeOf4
  v4 := Try.zeroValue4
  t5 := Try.underlying5
  a5 := Try.isAgg5
  z5 := Try.sizeOf5
  v5 := Try.zeroValue5
  t9 := Try.underlying9
  a9 := Try.isAgg9
  z9 := Try.sizeOf9
  v9 := Try.zeroValue9
  t22 := Try.underlying31
  a22 := Try.isAgg31
  z22 := Try.sizeOf31
  v22 := Try.zeroValue31
  t25 := Try.underlying77
  a25 := Try.isAgg77
  z25 := Try.sizeOf77
  v25 := Try.zeroValue77
  t39 := Try.underlying118
  a39 := Try.isAgg118
  z39 := Try.sizeOf118
  v39 := Try.zeroValue118
  t45 := Try.underlying122
  a45 := Try.isAgg122
  z45 := Try.sizeOf122
  v45 := Try.zeroValue122
  t46 := Try.underlying123
  a46 := Try.isAgg123
  z46 := Try.sizeOf123
  v46 := Try.zeroValue123
  t50 := Try.underlying80
  a50 := Try.isAgg80
  z50 := Try.sizeOf80
  v50 := Try.zeroValue80
  t53 := Try.underlying129
  a53 := Try.isAgg129
  z53 := Try.sizeOf129
  v53 := Try.zeroValue129
  t55 := Try.underlying59
  a55 := Try.isAgg59
  z55 := Try.sizeOf59
  v55 := Try.zeroValue59
  t66 := Try.underlying139
  a66 := Try.isAgg139
  z66 := Try.sizeOf139
  v66 := Try.zeroValue139
  t70 := Try.underlying142
  a70 := Try.isAgg142
  z70 := Try.sizeOf142
  v70 := Try.zeroValue142
  t76 := Try.underlying146
  a76 := Try.isAgg146
  z76 := Try.sizeOf146
  v76 := Try.zeroValue146
  t77 := Try.underlying147
  a77 := Try.isAgg147
  z77 := Try.sizeOf147
  v77 := Try.zeroValue147
def sortD_ren : Go.Shelf.Ren := ⟨fun | 6 => 62 | 15 => 69 | 14 => 71 | 28 => 83 | 29 => 84 | 20 => 86 | 21 => 87 | 22 => 88 | 23 => 89 | 24 => 90 | 25 => 91 | 26 => 92 | 27 => 93 | 46 => 102 | 47 => 97 | 48 => 98 | 49 => 103 | 50 => 104 | 57 => 107 | n => n, fun | 22 => 52 | 24 => 30 | 25 => 88 | 3 => 3 | 39 => 118 | 0 => 0 | 53 => 129 | 55 => 59 | 4 => 4 | 46 => 123 | 45 => 122 | 50 => 80 | 5 => 5 | 9 => 9 | 66 => 139 | 70 => 142 | 76 => 146 | 77 => 147 | n => n, fun | n => n⟩
theorem sortD : Go.Proofs.SlLaysF0.n6 Try.prog sortD_ren where
  mixed := by kernel_rfl
  f6 := ⟨ "slices.SortFunc[[]starling/api.Digest,starling/api.Digest]", by decide, Try.func62.trans (congrArg some (by kernel_rfl))⟩
  f14 := ⟨ "slices.pdqsortCmpFunc[starling/api.Digest]", by decide, Try.func71.trans (congrArg some (by kernel_rfl))⟩
  f15 := Try.func69.trans (congrArg some (by kernel_rfl))
  f20 := ⟨ "slices.insertionSortCmpFunc[starling/api.Digest]", by decide, Try.func86.trans (congrArg some (by kernel_rfl))⟩
  f21 := ⟨ "slices.heapSortCmpFunc[starling/api.Digest]", by decide, Try.func87.trans (congrArg some (by kernel_rfl))⟩
  f22 := ⟨ "slices.breakPatternsCmpFunc[starling/api.Digest]", by decide, Try.func88.trans (congrArg some (by kernel_rfl))⟩
  f23 := ⟨ "slices.choosePivotCmpFunc[starling/api.Digest]", by decide, Try.func89.trans (congrArg some (by kernel_rfl))⟩
  f24 := ⟨ "slices.reverseRangeCmpFunc[starling/api.Digest]", by decide, Try.func90.trans (congrArg some (by kernel_rfl))⟩
  f25 := ⟨ "slices.partialInsertionSortCmpFunc[starling/api.Digest]", by decide, Try.func91.trans (congrArg some (by kernel_rfl))⟩
  f26 := ⟨ "slices.partitionEqualCmpFunc[starling/api.Digest]", by decide, Try.func92.trans (congrArg some (by kernel_rfl))⟩
  f27 := ⟨ "slices.partitionCmpFunc[starling/api.Digest]", by decide, Try.func93.trans (congrArg some (by kernel_rfl))⟩
  f28 := Try.func83.trans (congrArg some (by kernel_rfl))
  f29 := Try.func84.trans (congrArg some (by kernel_rfl))
  f46 := ⟨ "slices.siftDownCmpFunc[starling/api.Digest]", by decide, Try.func102.trans (congrArg some (by kernel_rfl))⟩
  f47 := Try.func97.trans (congrArg some (by kernel_rfl))
  f48 := Try.func98.trans (congrArg some (by kernel_rfl))
  f49 := ⟨ "slices.medianAdjacentCmpFunc[starling/api.Digest]", by decide, Try.func103.trans (congrArg some (by kernel_rfl))⟩
  f50 := ⟨ "slices.medianCmpFunc[starling/api.Digest]", by decide, Try.func104.trans (congrArg some (by kernel_rfl))⟩
  f57 := ⟨ "slices.order2CmpFunc[starling/api.Digest]", by decide, Try.func107.trans (congrArg some (by kernel_rfl))⟩
  t0 := Try.underlying0
  a0 := Try.isAgg0
  z0 := Try.sizeOf0
  v0 := Try.zeroValue0
  t3 := Try.underlying3
  a3 := Try.isAgg3
  z3 := Try.sizeOf3
  v3 := Try.zeroValue3
  t4 := Try.underlying4
  a4 := Try.isAgg4
  z4 := Try.sizeOf4
  v4 := Try.zeroValue4
  t5 := Try.underlying5
  a5 := Try.isAgg5
  z5 := Try.sizeOf5
  v5 := Try.zeroValue5
  t9 := Try.underlying9
  a9 := Try.isAgg9
  z9 := Try.sizeOf9
  v9 := Try.zeroValue9
  t22 := Try.underlying52
  a22 := Try.isAgg52
  z22 := Try.sizeOf52
  v22 := Try.zeroValue52
  t25 := Try.underlying88
  a25 := Try.isAgg88
  z25 := Try.sizeOf88
  v25 := Try.zeroValue88
  t39 := Try.underlying118
  a39 := Try.isAgg118
  z39 := Try.sizeOf118
  v39 := Try.zeroValue118
  t45 := Try.underlying122
  a45 := Try.isAgg122
  z45 := Try.sizeOf122
  v45 := Try.zeroValue122
  t46 := Try.underlying123
  a46 := Try.isAgg123
  z46 := Try.sizeOf123
  v46 := Try.zeroValue123
  t50 := Try.underlying80
  a50 := Try.isAgg80
  z50 := Try.sizeOf80
  v50 := Try.zeroValue80
  t53 := Try.underlying129
  a53 := Try.isAgg129
  z53 := Try.sizeOf129
  v53 := Try.zeroValue129
  t55 := Try.underlying59
  a55 := Try.isAgg59
  z55 := Try.sizeOf59
  v55 := Try.zeroValue59
  t66 := Try.underlying139
  a66 := Try.isAgg139
  z66 := Try.sizeOf139
  v66 := Try.zeroValue139
  t70 := Try.underlying142
  a70 := Try.isAgg142
  z70 := Try.sizeOf142
  v70 := Try.zeroValue142
  t76 := Try.underlying146
  a76 := Try.isAgg146
  z76 := Try.sizeOf146
  v76 := Try.zeroValue146
  t77 := Try.underlying147
  a77 := Try.isAgg147
  z77 := Try.sizeOf147
  v77 := Try.zeroValue147

theorem ltOf_id (x y : RecT.Ok RPeer) : ltOf (fun x y : RecT.Ok RPeer => cmpI x.1.id y.1.id) x y = decide (x.1.id < y.1.id) := by
  unfold ltOf cmpI
  by_cases h1 : x.1.id < y.1.id
  · simp [h1]
  · by_cases h2 : y.1.id < x.1.id <;> simp [h1, h2]
theorem swo_id : Sort.SWO (ltOf fun x y : RecT.Ok RPeer => cmpI x.1.id y.1.id) where
  irrefl x := by rw [ltOf_id]; simp
  trans x y z h1 h2 := by rw [ltOf_id] at *; simp at *; omega
  ntrans x y z h1 h2 := by rw [ltOf_id] at *; simp at *; omega
theorem peersCmp_lays (blk off size : Nat) (w : World) : CmpLays Try.prog 28 #[] RPeer.encOk 3 (fun x y : RecT.Ok RPeer => cmpI x.1.id y.1.id) blk off size w :=
  fun _ _ _ _ x y => (PeersCmp_any x.1 y.1 _).mono fun _ _ ⟨h1, os, h2⟩ => ⟨h1, 0, os, h2⟩

theorem SortP_any (v : Value) (l : List PeerL) (w : World) (base : Nat) (ho : RPeer.Own w base v l) (hl : l.length ≤ 1000000) :
    Calls Try.prog 49 #[v, .func (.func 28) #[] #[]] w fun e w' =>
      e = .returned (.tuple #[]) ∧ ∃ l', l'.Perm l ∧ l'.Pairwise (fun a b => a.id ≤ b.id) ∧ RPeer.Own w' base v l' ∧ w.grownBy w' v.ownBlock := by
  rcases ho.2.2 with ⟨rfl, h0⟩ | ⟨g, cap, cur, rfl, hb, hh, hn, hc, hs, hx⟩
  · have hl0 : l = [] := List.length_eq_zero_iff.1 h0
    subst hl0
    exact (AnyF.slices_SortFunc_none sortP none 0 (.func (.func 28) #[] #[]) w).mono fun e w' ⟨h1, h2⟩ => ⟨h1, [], List.Perm.refl _, List.Pairwise.nil, by rw [h2]; exact ho, by rw [h2]; exact World.grownBy.refl _ _⟩
  · have eg : ∀ args w, (callFunc 28 args).run Try.prog w = .ok (.enter 28 args) w := enters_of Try.func28 (by kernel_rfl) rfl
    have hok : ∀ x ∈ l, RPeer.ok x := fun x _ => RPeer_ok x
    have hu := RPeer.up_len hok
    have hcon := AnyQ.slices_SortFunc sortP 3 Try.isAgg35 Try.sizeOf35 RPeer.encOk (fun x => RPeer.enc_len x) (fun x v hv => RPeer.one x.2 v hv) (fun x y => cmpI x.1.id y.1.id) swo_id 28 #[] g 0 cap (RPeer.up l hok).toArray w eg (peersCmp_lays g 0 _ w) (ho.holds hok) ((Array.getElem?_eq_some_iff.1 hh).1) (by simp only [List.size_toArray, hu]; omega)
    change Calls Try.prog 49 _ _ _ at hcon
    simp only [List.size_toArray, hu] at hcon
    refine hcon.mono ?_
    rintro e w' ⟨h1, d', n, os, hp, hst, rfl⟩
    obtain ⟨d, rfl⟩ : ∃ d : List (RecT.Ok RPeer), d' = d.toArray := ⟨d'.toList, by simp⟩
    have hd : d.length = l.length := by have := hp.1; simpa [hu] using this
    have hp2 := permIn_list (d := (RPeer.up l hok).toArray) (by simpa [hu] using hp)
    have hp3 := hp2.map Subtype.val
    simp only [RPeer.up_val hok] at hp3
    have hs2 := sortedIn_list (d := d) (by rw [hd]; exact hst)
    obtain ⟨k1, k2⟩ := ho.sorted d hd n os
    refine ⟨h1, d.map Subtype.val, hp3, ?_, k1, k2⟩
    rw [List.pairwise_map]
    exact hs2.imp fun {a b} h => by rw [ltOf_id] at h; simpa using h

/-! ### Hashes -/
theorem ltOf_dig (x y : RecT.Ok RDig) : ltOf (fun x y : RecT.Ok RDig => cmpL x.1 y.1) x y = decide (natL x.1 < natL y.1) := by
  have hx : x.1.length = 32 := x.2
  have hy : y.1.length = 32 := y.2
  unfold ltOf
  have hc := cmpL_sign x.1 y.1 (by omega)
  refine decide_eq_decide.2 ?_
  show cmpL x.1 y.1 < 0 ↔ _
  rw [hc]
  by_cases h1 : natL x.1 < natL y.1
  · simp [h1]
  · by_cases h2 : natL y.1 < natL x.1 <;> simp [h1, h2]
theorem swo_dig : Sort.SWO (ltOf fun x y : RecT.Ok RDig => cmpL x.1 y.1) where
  irrefl x := by rw [ltOf_dig]; simp
  trans x y z h1 h2 := by rw [ltOf_dig] at *; simp at *; omega
  ntrans x y z h1 h2 := by rw [ltOf_dig] at *; simp at *; omega
theorem digCmp_lays (blk off size : Nat) (w : World) : CmpLays Try.prog 38 #[] RDig.encOk 32 (fun x y : RecT.Ok RDig => cmpL x.1 y.1) blk off size w :=
  fun _ _ _ _ x y => CompareG_any x.1 y.1 _ x.2 y.2

theorem SortD_any (v : Value) (l : List (List UInt8)) (w : World) (base : Nat) (ho : RDig.Own w base v l) (hl : l.length ≤ 1000000) :
    Calls Try.prog 62 #[v, .func (.func 38) #[] #[]] w fun e w' =>
      e = .returned (.tuple #[]) ∧ ∃ l', l'.Perm l ∧ l'.Pairwise (fun a b => natL a ≤ natL b) ∧ RDig.Own w' base v l' ∧ w.grownBy w' v.ownBlock := by
  rcases ho.2.2 with ⟨rfl, h0⟩ | ⟨g, cap, cur, rfl, hb, hh, hn, hc, hs, hx⟩
  · have hl0 : l = [] := List.length_eq_zero_iff.1 h0
    subst hl0
    exact (AnyF.slices_SortFunc_none sortD none 0 (.func (.func 38) #[] #[]) w).mono fun e w' ⟨h1, h2⟩ => ⟨h1, [], List.Perm.refl _, List.Pairwise.nil, by rw [h2]; exact ho, by rw [h2]; exact World.grownBy.refl _ _⟩
  · have eg : ∀ args w, (callFunc 38 args).run Try.prog w = .ok (.enter 38 args) w := enters_of Try.func38 (by kernel_rfl) rfl
    have hok : ∀ x ∈ l, RDig.ok x := ho.1
    have hu := RDig.up_len hok
    have hcon := AnyQ.slices_SortFunc sortD 32 Try.isAgg30 Try.sizeOf30 RDig.encOk (fun x => RDig.enc_len x) (fun x v hv => RDig.one x.2 v hv) (fun x y => cmpL x.1 y.1) swo_dig 38 #[] g 0 cap (RDig.up l hok).toArray w eg (digCmp_lays g 0 _ w) (ho.holds hok) ((Array.getElem?_eq_some_iff.1 hh).1) (by simp only [List.size_toArray, hu]; omega)
    change Calls Try.prog 62 _ _ _ at hcon
    simp only [List.size_toArray, hu] at hcon
    refine hcon.mono ?_
    rintro e w' ⟨h1, d', n, os, hp, hst, rfl⟩
    obtain ⟨d, rfl⟩ : ∃ d : List (RecT.Ok RDig), d' = d.toArray := ⟨d'.toList, by simp⟩
    have hd : d.length = l.length := by have := hp.1; simpa [hu] using this
    have hp2 := permIn_list (d := (RDig.up l hok).toArray) (by simpa [hu] using hp)
    have hp3 := hp2.map Subtype.val
    simp only [RDig.up_val hok] at hp3
    have hs2 := sortedIn_list (d := d) (by rw [hd]; exact hst)
    obtain ⟨k1, k2⟩ := ho.sorted d hd n os
    refine ⟨h1, d.map Subtype.val, hp3, ?_, k1, k2⟩
    rw [List.pairwise_map]
    exact hs2.imp fun {a b} h => by rw [ltOf_dig] at h; simpa using h

/-- There is one order. -/
theorem rise_sorted {α : Type} {f : α → Int} {l l' : List α} (h : Rising f l) (hp : l'.Perm l) (hs : l'.Pairwise (fun a b => f a ≤ f b)) : l' = l := by
  have h1 : l'.Pairwise (fun a b => f a ≠ f b) := (hp.symm.pairwise_iff (fun {a b} (h : f a ≠ f b) => h.symm)).1 h.apart
  have h2 : Rising f l' := (hs.and h1).imp fun {a b} ⟨h3, h4⟩ => by omega
  exact h2.perm_eq h hp

end Go.Proofs.Ytnohglkilpnjhaa

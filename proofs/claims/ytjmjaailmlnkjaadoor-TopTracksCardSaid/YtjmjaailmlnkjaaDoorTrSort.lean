/- slices.SortFunc at peers and at hashes: the kit's contract laid here, and what it says of lists. No condition. -/
import Derived.Test.YtjmjaailmlnkjaaDoorTrCmp
import Derived.Test.YtjmjaailmlnkjaaDoorRecDig
import Derived.Test.YtjmjaailmlnkjaaDoorSortK
import Derived.Test.YtjmjaailmlnkjaaDoorDigCmp
import Derived.Shelf.SlSortCmp.NoneTotal
namespace Go.Proofs.YtjmjaailmlnkjaaDoor
open Go.RowKit Go.Shelf
set_option linter.unusedVariables false
set_option linter.unusedSimpArgs false
set_option maxRecDepth 100000

def sortP_ren : Go.Shelf.Ren := ⟨fun | 6 => 40 | 15 => 45 | 14 => 44 | 28 => 56 | 29 => 57 | 20 => 48 | 21 => 49 | 22 => 50 | 23 => 51 | 24 => 52 | 25 => 53 | 26 => 54 | 27 => 55 | 46 => 58 | 47 => 59 | 48 => 60 | 49 => 61 | 50 => 62 | 57 => 63 | n => n, fun | 22 => 53 | 24 => 50 | 25 => 68 | 3 => 3 | 39 => 45 | 0 => 0 | 53 => 40 | 55 => 23 | 4 => 4 | 46 => 95 | 45 => 94 | 50 => 99 | 5 => 5 | 9 => 9 | 66 => 103 | 70 => 106 | 76 => 108 | 77 => 109 | n => n, fun | n => n⟩
theorem sortP : Go.Proofs.SlLaysF0.n6 Tryd.prog sortP_ren where
  mixed := by kernel_rfl
  f6 := ⟨ "slices.SortFunc[[]starling/api.Peer,starling/api.Peer]", by decide, Tryd.func40.trans (congrArg some (by kernel_rfl))⟩
  f14 := ⟨ "slices.pdqsortCmpFunc[starling/api.Peer]", by decide, Tryd.func44.trans (congrArg some (by kernel_rfl))⟩
  f15 := Tryd.func45.trans (congrArg some (by kernel_rfl))
  f20 := ⟨ "slices.insertionSortCmpFunc[starling/api.Peer]", by decide, Tryd.func48.trans (congrArg some (by kernel_rfl))⟩
  f21 := ⟨ "slices.heapSortCmpFunc[starling/api.Peer]", by decide, Tryd.func49.trans (congrArg some (by kernel_rfl))⟩
  f22 := ⟨ "slices.breakPatternsCmpFunc[starling/api.Peer]", by decide, Tryd.func50.trans (congrArg some (by kernel_rfl))⟩
  f23 := ⟨ "slices.choosePivotCmpFunc[starling/api.Peer]", by decide, Tryd.func51.trans (congrArg some (by kernel_rfl))⟩
  f24 := ⟨ "slices.reverseRangeCmpFunc[starling/api.Peer]", by decide, Tryd.func52.trans (congrArg some (by kernel_rfl))⟩
  f25 := ⟨ "slices.partialInsertionSortCmpFunc[starling/api.Peer]", by decide, Tryd.func53.trans (congrArg some (by kernel_rfl))⟩
  f26 := ⟨ "slices.partitionEqualCmpFunc[starling/api.Peer]", by decide, Tryd.func54.trans (congrArg some (by kernel_rfl))⟩
  f27 := ⟨ "slices.partitionCmpFunc[starling/api.Peer]", by decide, Tryd.func55.trans (congrArg some (by kernel_rfl))⟩
  f28 := Tryd.func56.trans (congrArg some (by kernel_rfl))
  f29 := Tryd.func57.trans (congrArg some (by kernel_rfl))
  f46 := ⟨ "slices.siftDownCmpFunc[starling/api.Peer]", by decide, Tryd.func58.trans (congrArg some (by kernel_rfl))⟩
  f47 := Tryd.func59.trans (congrArg some (by kernel_rfl))
  f48 := Tryd.func60.trans (congrArg some (by kernel_rfl))
  f49 := ⟨ "slices.medianAdjacentCmpFunc[starling/api.Peer]", by decide, Tryd.func61.trans (congrArg some (by kernel_rfl))⟩
  f50 := ⟨ "slices.medianCmpFunc[starling/api.Peer]", by decide, Tryd.func62.trans (congrArg some (by kernel_rfl))⟩
  f57 := ⟨ "slices.order2CmpFunc[starling/api.Peer]", by decide, Tryd.func63.trans (congrArg some (by kernel_rfl))⟩
  t0 := Tryd.underlying0
  a0 := Tryd.isAgg0
  z0 := Tryd.sizeOf0
  v0 := Tryd.zeroValue0
  t3 := Tryd.underlying3
  a3 := Tryd.isAgg3
  z3 := Tryd.sizeOf3
  v3 := Tryd.zeroValue3
  t4 := Tryd.underlying4
  a4 := Tryd.isAgg4
  z4 := Tryd.sizeOf4
  v4 := Tryd.zeroValue4
  t5 := Tryd.underlying5
  a5 := Tryd.isAgg5
  z5 := Tryd.sizeOf5
  v5 := Tryd.zeroValue5
  t9 := Tryd.underlying9
  a9 := Tryd.isAgg9
  z9 := Tryd.sizeOf9
  v9 := Tryd.zeroValue9
  t22 := Tryd.underlying53
  a22 := Tryd.isAgg53
  z22 := Tryd.sizeOf53
  v22 := Tryd.zeroValue53
  t25 := Tryd.underlying68
  a25 := Tryd.isAgg68
  z25 := Tryd.sizeOf68
  v25 := Tryd.zeroValue68
  t39 := Tryd.underlying45
  a39 := Tryd.isAgg45
  z39 := Tryd.sizeOf45
  v39 := Tryd.zeroValue45
  t45 := Tryd.underlying94
  a45 := Tryd.isAgg94
  z45 := Tryd.sizeOf94
  v45 := Tryd.zeroValue94
  t46 := Tryd.underlying95
  a46 := Tryd.isAgg95
  z46 := Tryd.sizeOf95
  v46 := Tryd.zeroValue95
  t50 := Tryd.underlying99
  a50 := Tryd.isAgg99
  z50 := Tryd.sizeOf99
  v50 := Tryd.zeroValue99
  t53 := Tryd.underlying40
  a53 := Tryd.isAgg40
  z53 := Tryd.sizeOf40
  v53 := Tryd.zeroValue40
  t55 := Tryd.underlying23
  a55 := Tryd.isAgg23
  z55 := Tryd.sizeOf23
  v55 := Tryd.zeroValue23
  t66 := Tryd.underlying103
  a66 := Tryd.isAgg103
  z66 := Tryd.sizeOf103
  v66 := Tryd.zeroValue103
  t70 := Tryd.underlying106
  a70 := Tryd.isAgg106
  z70 := Tryd.sizeOf106
  v70 := Tryd.zeroValue106
  t76 := Tryd.underlying108
  a76 := Tryd.isAgg108
  z76 := Tryd.sizeOf108
  v76 := Tryd.zeroValue108
  t77 := Tryd.underlying109
  a77 := Tryd.isAgg109
  z77 := Tryd.sizeOf109
  v77 := Tryd.zeroValue109
theorem ltOf_id (x y : RecT.Ok RPeer) : ltOf (fun x y : RecT.Ok RPeer => cmpI x.1.id y.1.id) x y = decide (x.1.id < y.1.id) := by
  unfold ltOf cmpI
  by_cases h1 : x.1.id < y.1.id
  · simp [h1]
  · by_cases h2 : y.1.id < x.1.id <;> simp [h1, h2]
theorem swo_id : Sort.SWO (ltOf fun x y : RecT.Ok RPeer => cmpI x.1.id y.1.id) where
  irrefl x := by rw [ltOf_id]; simp
  trans x y z h1 h2 := by rw [ltOf_id] at *; simp at *; omega
  ntrans x y z h1 h2 := by rw [ltOf_id] at *; simp at *; omega
theorem peersCmp_lays (blk off size : Nat) (w : World) : CmpLays Tryd.prog 31 #[] RPeer.encOk 3 (fun x y : RecT.Ok RPeer => cmpI x.1.id y.1.id) blk off size w :=
  fun _ _ _ _ x y => (PeersCmp_any x.1 y.1 _).mono fun _ _ ⟨h1, os, h2⟩ => ⟨h1, 0, os, h2⟩

theorem SortP_any (v : Value) (l : List PeerL) (w : World) (base : Nat) (ho : RPeer.Own w base v l) (hl : l.length ≤ 1000000) :
    Calls Tryd.prog 40 #[v, .func (.func 31) #[] #[]] w fun e w' =>
      e = .returned (.tuple #[]) ∧ ∃ l', l'.Perm l ∧ l'.Pairwise (fun a b => a.id ≤ b.id) ∧ RPeer.Own w' base v l' ∧ w.grownBy w' v.ownBlock := by
  rcases ho.2.2 with ⟨rfl, h0⟩ | ⟨g, cap, cur, rfl, hb, hh, hn, hc, hs, hx⟩
  · have hl0 : l = [] := List.length_eq_zero_iff.1 h0
    subst hl0
    exact (AnyF.slices_SortFunc_none sortP none 0 (.func (.func 31) #[] #[]) w).mono fun e w' ⟨h1, h2⟩ => ⟨h1, [], List.Perm.refl _, List.Pairwise.nil, by rw [h2]; exact ho, by rw [h2]; exact World.grownBy.refl _ _⟩
  · have eg : ∀ args w, (callFunc 31 args).run Tryd.prog w = .ok (.enter 31 args) w := enters_of Tryd.func31 (by kernel_rfl) rfl
    have hok : ∀ x ∈ l, RPeer.ok x := fun x _ => RPeer_ok x
    have hu := RPeer.up_len hok
    have hcon := AnyQ.slices_SortFunc sortP 3 Tryd.isAgg50 Tryd.sizeOf50 RPeer.encOk (fun x => RPeer.enc_len x) (fun x v hv => RPeer.one x.2 v hv) (fun x y => cmpI x.1.id y.1.id) swo_id 31 #[] g 0 cap (RPeer.up l hok).toArray w eg (peersCmp_lays g 0 _ w) (ho.holds hok) ((Array.getElem?_eq_some_iff.1 hh).1) (by simp only [List.size_toArray, hu]; omega)
    change Calls Tryd.prog 40 _ _ _ at hcon
    simp only [List.size_toArray, hu] at hcon
    refine hcon.mono ?_
    rintro e w' ⟨h1, d', n, os, hp, hst, rfl⟩
    obtain ⟨d, rfl⟩ : ∃ d : List (RecT.Ok RPeer), d' = d.toArray := ⟨d'.toList, by simp⟩
    have hd : d.length = l.length := by have := hp.1; simpa [hu] using this
    have hp2 := permIn_list (d := (RPeer.up l hok).toArray) (by simpa [hu] using hp)
    have hp3 := hp2.map Subtype.val
    simp only [RPeer.up_val hok] at hp3
    have hs2 := sortedIn_list (d := d) (by rw [hd]; exact hst)
    obtain ⟨k1, k2⟩ := ho.sorted d hd n os
    refine ⟨h1, d.map Subtype.val, hp3, ?_, k1, k2⟩
    rw [List.pairwise_map]
    exact hs2.imp fun {a b} h => by rw [ltOf_id] at h; simpa using h

/-- There is one order. -/
theorem rise_sorted {α : Type} {f : α → Int} {l l' : List α} (h : Rising f l) (hp : l'.Perm l) (hs : l'.Pairwise (fun a b => f a ≤ f b)) : l' = l := by
  have h1 : l'.Pairwise (fun a b => f a ≠ f b) := (hp.symm.pairwise_iff (fun {a b} (h : f a ≠ f b) => h.symm)).1 h.apart
  have h2 : Rising f l' := (hs.and h1).imp fun {a b} ⟨h3, h4⟩ => by omega
  exact h2.perm_eq h hp

end Go.Proofs.YtjmjaailmlnkjaaDoor

/- slices.SortFunc over a slice of the call's own, of records of any type: the kit's contract in terms of lists. Condition: the function that compares. -/
import Derived.Test.YtjmjaailmlnkjaaDoorRec
import Derived.Shelf.SlSortCmp.WholeK
namespace Go.Proofs.YtjmjaailmlnkjaaDoor
open Go.RowKit
set_option linter.unusedVariables false
set_option linter.unusedSimpArgs false
set_option linter.unusedSectionVars false
set_option maxRecDepth 100000

section
variable {e : TypeId} {α : Type} (R : RecT e α)
/-- Records that are right, as the kit's sort wants them. -/
abbrev RecT.Ok := { x : α // R.ok x }
instance RecT.okInh : Inhabited (RecT.Ok R) := ⟨⟨R.zero, R.zok⟩⟩
def RecT.encOk (x : RecT.Ok R) : List Value := R.cells x.1
def RecT.up (l : List α) (h : ∀ x ∈ l, R.ok x) : List (RecT.Ok R) := l.pmap (fun x hx => ⟨x, hx⟩) h
theorem RecT.up_val {l : List α} (h : ∀ x ∈ l, R.ok x) : (R.up l h).map Subtype.val = l := by
  unfold RecT.up
  rw [List.map_pmap]
  simp
theorem RecT.up_len {l : List α} (h : ∀ x ∈ l, R.ok x) : (R.up l h).length = l.length := by simp [RecT.up]
theorem RecT.enc_len (x : RecT.Ok R) : (R.encOk x).length = R.n := R.len x.2
theorem RecT.flat_vals (d : List (RecT.Ok R)) : R.flat (d.map Subtype.val) = d.flatMap R.encOk := by
  unfold RecT.flat RecT.encOk
  rw [List.flatMap_map]
theorem getBang {β : Type} [Inhabited β] (l : List β) (i : Nat) (hi : i < l.length) : l.toArray[i]! = l[i] := by
  rw [getElem!_pos l.toArray i (by simpa using hi)]
  simp
/-- The flat cells, one by one. -/
theorem RecT.flatK_at (d : List (RecT.Ok R)) (t : Nat) (ht : t < d.length * R.n) : (R.flat (d.map Subtype.val))[t]? = some ((Sort.flatK R.encOk R.n d.toArray)[t]!) := by
  have hp := R.pos
  have hi : t / R.n < d.length := (Nat.div_lt_iff_lt_mul hp).2 ht
  have hm : t % R.n < R.n := Nat.mod_lt _ hp
  rw [Sort.get_flatK _ _ _ _ (by simpa using ht), getBang _ _ hi]
  have h1 := R.flat_at (l := d.map Subtype.val) (fun x hx => by obtain ⟨y, _, rfl⟩ := List.mem_map.1 hx; exact y.2) (i := t / R.n) (j := t % R.n) (x := (d[t / R.n]).1) (by simp [hi]) hm
  have h2 : t / R.n * R.n + t % R.n = t := Nat.div_add_mod' t R.n
  rw [h2] at h1
  rw [h1]
  have h3 := R.enc_len d[t / R.n]
  show (R.encOk d[t / R.n])[t % R.n]? = _
  rw [List.getElem?_eq_getElem (by omega), getElem!_pos _ _ (by omega)]
variable {R} {w : World} {base g cap : Nat} {l : List α}
theorem RecT.Own.holds (h : R.Own w base (.slice (some ⟨g, 0, none⟩) l.length cap) l) (hok : ∀ x ∈ l, R.ok x) : Sort.HoldsK R.encOk R.n w g 0 (R.up l hok).toArray := by
  intro t ht
  rw [Sort.size_flatK] at ht
  simp only [List.size_toArray, RecT.up_len] at ht
  rcases h.2.2 with ⟨h1, h2⟩ | ⟨g', cap', cur, hv, hb, hh, hn, hc, hs, hx⟩
  · cases h1
  · obtain ⟨rfl, rfl⟩ : g = g' ∧ cap = cap' := by cases hv; exact ⟨rfl, rfl⟩
    have h3 := R.flatK_at (R.up l hok) t (by rw [RecT.up_len]; exact ht)
    rw [R.up_val hok, ← hx, List.getElem?_take, if_pos ht] at h3
    refine ⟨?_, by simp [World.frozen?, hh]⟩
    simp only [World.cell?, hh, Nat.zero_add, id_eq]
    simpa using h3
/-- Behind the sort. -/
theorem RecT.Own.sorted (h : R.Own w base (.slice (some ⟨g, 0, none⟩) l.length cap) l) (d : List (RecT.Ok R)) (hd : d.length = l.length) (n : Nat) (os : Array Obj) :
    R.Own (sortWorldK R.encOk R.n w g 0 n d.toArray os) base (.slice (some ⟨g, 0, none⟩) l.length cap) (d.map Subtype.val) ∧ w.grownBy (sortWorldK R.encOk R.n w g 0 n d.toArray os) (some g) := by
  rcases h.2.2 with ⟨h1, h2⟩ | ⟨g', cap', cur, hv, hb, hh, hn, hc, hs, hx⟩
  · cases h1
  · obtain ⟨rfl, rfl⟩ : g = g' ∧ cap = cap' := by cases hv; exact ⟨rfl, rfl⟩
    have hlt : g < w.heap.size := (Array.getElem?_eq_some_iff.1 hh).1
    have hnew : (sortWorldK R.encOk R.n w g 0 n d.toArray os).heap[g]? = some (.cells (Sort.putCells id 0 (Sort.flatK R.encOk R.n d.toArray) cur) e (0, 0)) := by
      show ((w.heap.modify g (Sort.onCells _)) ++ os)[g]? = _
      rw [Array.getElem?_append_left (by simpa using hlt), Array.getElem?_modify, if_pos rfl, hh]
      rfl
    have hdl : (d.map Subtype.val).length = l.length := by rw [List.length_map, hd]
    refine ⟨⟨fun x hx => by obtain ⟨y, _, rfl⟩ := List.mem_map.1 hx; exact y.2, ?_, .inr ⟨g, cap, _, by rw [hdl], hb, hnew, by rw [hdl]; exact hn, hc, by simp [Sort.putCells, hs], ?_⟩⟩, ⟨rfl, rfl, rfl, ?_, ?_⟩⟩
    · exact R.flat_len (fun x hx => by obtain ⟨y, _, rfl⟩ := List.mem_map.1 hx; exact y.2)
    · rw [hdl]
      have hcap : l.length * R.n ≤ cap * R.n := Nat.mul_le_mul_right _ hn
      refine List.ext_getElem? fun t => ?_
      by_cases ht : t < l.length * R.n
      · rw [List.getElem?_take, if_pos ht, R.flatK_at d t (by rw [hd]; exact ht)]
        have hts : t < cur.size := by omega
        simp only [Sort.putCells, Array.getElem?_toList, Array.getElem?_mapIdx]
        rw [Array.getElem?_eq_getElem hts]
        simp only [Option.map_some, Nat.zero_le, true_and, Nat.zero_add, Nat.sub_zero, id_eq]
        rw [if_pos (by rw [Sort.size_flatK]; simp only [List.size_toArray, hd]; exact ht)]
      · have hf := R.flat_len (l := d.map Subtype.val) (fun x hx => by obtain ⟨y, _, rfl⟩ := List.mem_map.1 hx; exact y.2)
        rw [List.getElem?_eq_none (by simp; omega), List.getElem?_eq_none (by rw [hf, hdl]; omega)]
    · show w.heap.size ≤ ((w.heap.modify g (Sort.onCells _)) ++ os).size
      simp
    · intro k hk hne
      show ((w.heap.modify g (Sort.onCells _)) ++ os)[k]? = _
      rw [Array.getElem?_append_left (by simpa using hk), Array.getElem?_modify, if_neg (fun e => hne (by rw [e]))]
theorem sortedIn_list {β : Type} [Inhabited β] {lt : β → β → Bool} {d : List β} (h : Sort.SortedIn lt 0 d.length d.toArray) : d.Pairwise (fun a b => lt b a = false) := by
  rw [List.pairwise_iff_getElem]
  intro i j hi hj hij
  have := h i j (Nat.zero_le _) hij hj
  rwa [getBang _ _ hi, getBang _ _ hj] at this
theorem permIn_list {β : Type} [Inhabited β] {d d' : Array β} (h : Sort.PermIn 0 d.size d d') : d'.toList.Perm d.toList := by
  obtain ⟨h1, _, h2⟩ := h
  have e1 : d'.extract 0 d.size = d' := by rw [← h1]; simp
  have e2 : d.extract 0 d.size = d := by simp
  rw [e1, e2] at h2
  exact h2
end

end Go.Proofs.YtjmjaailmlnkjaaDoor

/- The map of maps of the law TrackerRoom, in memory: until when each peer of each blob is known. No condition. -/
import Derived.Test.YtnohglkilpnjhaaGb
import Derived.Test.YtnohglkilpnjhaaTrRoomPlain
namespace Go.Proofs.Ytnohglkilpnjhaa
open Go.RowKit
set_option linter.unusedVariables false
set_option linter.unusedSimpArgs false
set_option maxRecDepth 100000

abbrev UntL := List (List UInt8 × (Nat × List (Int × Int)))
def outU (x : List UInt8 × (Nat × List (Int × Int))) : List UInt8 × Value := (x.1, .map (some x.2.1))
def inU (x : Int × Int) : Int × Value := (x.1, .int .i64 x.2)
def valU (L : List (Int × Int)) (id : Int) : Int := ((L.find? (fun p => decide (p.1 = id))).map (·.2)).getD 0
def putU (L : List (Int × Int)) (id n : Int) : List (Int × Int) := (id, n) :: L.filter (fun p => !decide (p.1 = id))
def cutU (L : List (Int × Int)) (id : Int) : List (Int × Int) := L.filter (fun p => !decide (p.1 = id))
theorem getL_inU (L : List (Int × Int)) (id : Int) : (getL (L.map inU) id).getD (.int .i64 0) = .int .i64 (valU L id) := by
  unfold getL valU
  rw [List.find?_map]
  have e : ((fun p : Int × Value => decide (p.1 = id)) ∘ inU) = fun p => decide (p.1 = id) := rfl
  rw [e]
  cases L.find? (fun p => decide (p.1 = id)) <;> rfl
theorem delL_inU (L : List (Int × Int)) (id : Int) : delL (L.map inU) id = (cutU L id).map inU := by
  unfold delL cutU
  rw [List.filter_map]; rfl
theorem putM_inU (L : List (Int × Int)) (id n : Int) : putM (L.map inU) id (.int .i64 n) = (putU L id n).map inU := by
  unfold putM
  rw [delL_inU]; rfl
theorem valU_cut (L : List (Int × Int)) (id id' : Int) : valU (cutU L id) id' = if id = id' then 0 else valU L id' := by
  induction L with
  | nil => unfold valU cutU; split <;> rfl
  | cons p L ih =>
    unfold valU cutU at *
    by_cases h1 : p.1 = id
    · rw [List.filter_cons_of_neg (by simp [h1]), ih]
      by_cases h2 : id = id'
      · rw [if_pos h2, if_pos h2]
      · rw [if_neg h2, if_neg h2, List.find?_cons_of_neg (by simp; omega)]
    · rw [List.filter_cons_of_pos (by simp [h1])]
      by_cases h3 : p.1 = id'
      · rw [List.find?_cons_of_pos (by simp [h3]), List.find?_cons_of_pos (by simp [h3]), if_neg (by omega)]
      · rw [List.find?_cons_of_neg (by simp [h3]), List.find?_cons_of_neg (by simp [h3]), ih]
theorem valU_put (L : List (Int × Int)) (id n id' : Int) : valU (putU L id n) id' = if id = id' then n else valU L id' := by
  have h := valU_cut L id id'
  by_cases h2 : id = id'
  · rw [if_pos h2]
    unfold valU putU
    rw [List.find?_cons_of_pos (by simp [h2])]; rfl
  · rw [if_neg h2] at h ⊢
    rw [← h]
    unfold valU putU cutU
    rw [List.find?_cons_of_neg (by simp [h2])]

/-- Block ub is the map, its entries' maps are blocks of their own. -/
structure UntP (w : World) (ub : Nat) (U : UntL) : Prop where
  map : MapL KDig w ub (U.map outU)
  ins : ∀ x ∈ U, MapL KInt w x.2.1 (x.2.2.map inU)
  apart : (ub :: U.map (fun x => x.2.1)).Nodup
def ownU (ub : Nat) (U : UntL) (k : Nat) : Prop := k = ub ∨ ∃ x ∈ U, x.2.1 = k
/-- It says what the table says. -/
structure SemU (U : UntL) (T : TabL) : Prop where
  there : ∀ x ∈ U, x.1.length = 32 ∧ ∀ id, valU x.2.2 id = tillT x.1 id T
  none : ∀ d, (∀ x ∈ U, x.1 ≠ d) → ∀ id, d.length = 32 → tillT d id T = 0
variable {w w' : World} {ub b : Nat} {U : UntL} {d : List UInt8} {L : List (Int × Int)} {T : TabL}
theorem UntP.own_lt (h : UntP w ub U) {k : Nat} (hk : ownU ub U k) : k < w.heap.size := by
  rcases hk with rfl | ⟨x, hx, rfl⟩
  · exact h.map.lt
  · exact (h.ins x hx).lt
theorem UntP.kept {V : Nat → Prop} (h : UntP w ub U) (hk : Kept V w w') (h2 : ∀ k, ownU ub U k → V k) : UntP w' ub U :=
  ⟨h.map.of_block (hk.block _ h.map.lt (h2 _ (.inl rfl))), fun x hx => (h.ins x hx).of_block (hk.block _ (h.ins x hx).lt (h2 _ (.inr ⟨x, hx, rfl⟩))), h.apart⟩
theorem UntP.of_new (h : UntP w ub U) (hb : Below w.heap.size w w') : UntP w' ub U := h.kept ((Kept.refl (fun _ => True) w).below hb) fun _ _ => trivial
theorem UntP.perm {U' : UntL} (h : UntP w ub U) (hp : U.Perm U') : UntP w ub U' :=
  ⟨h.map.perm (hp.map _), fun x hx => h.ins x (hp.mem_iff.2 hx), ((hp.map (fun x : List UInt8 × (Nat × List (Int × Int)) => x.2.1)).cons ub).nodup_iff.1 h.apart⟩
theorem SemU.perm {U' : UntL} (h : SemU U T) (hp : U.Perm U') : SemU U' T := ⟨fun x hx => h.there x (hp.mem_iff.2 hx), fun d hd => h.none d fun x hx => hd x (hp.mem_iff.1 hx)⟩
theorem ownU_perm {U' : UntL} (hp : U.Perm U') {k : Nat} : ownU ub U' k ↔ ownU ub U k := by
  unfold ownU
  constructor
  · rintro (e | ⟨x, hx, e⟩)
    · exact .inl e
    · exact .inr ⟨x, hp.mem_iff.2 hx, e⟩
  · rintro (e | ⟨x, hx, e⟩)
    · exact .inl e
    · exact .inr ⟨x, hp.mem_iff.1 hx, e⟩
/-- A blob has an entry, or it has none. -/
theorem UntP.find (h : UntP w ub U) (h32 : d.length = 32) : ((∀ x ∈ U, x.1 ≠ d) ∧ getL (U.map outU) d = none) ∨ ∃ b L U', U.Perm ((d, (b, L)) :: U') ∧ getL (U.map outU) d = some (.map (some b)) := by
  by_cases hx : ∃ x ∈ U, x.1 = d
  · obtain ⟨x, hm, rfl⟩ := hx
    obtain ⟨A, B, rfl⟩ := List.append_of_mem hm
    refine .inr ⟨x.2.1, x.2.2, A ++ B, List.perm_middle, ?_⟩
    have hp : ((A ++ x :: B).map outU).Pairwise (fun p q => p.1 ≠ q.1) := h.map.apart
    unfold getL
    rw [List.map_append, List.map_cons, List.find?_append]
    rw [List.map_append, List.map_cons] at hp
    have hA := (List.pairwise_append.1 hp).2.2
    have e : (A.map outU).find? (fun p => decide (p.1 = x.1)) = none := by
      rw [List.find?_eq_none]
      intro y hy
      have := hA y hy (outU x) (by simp)
      have h2 : ¬ y.1 = x.1 := this
      simpa using h2
    rw [e]
    simp [outU]
  · refine .inl ⟨fun x hm e => hx ⟨x, hm, e⟩, ?_⟩
    unfold getL
    have e : (U.map outU).find? (fun p => decide (p.1 = d)) = none := by
      rw [List.find?_eq_none]
      intro y hy
      obtain ⟨x, hm, rfl⟩ := List.mem_map.1 hy
      simp only [decide_eq_true_eq]
      exact fun e => hx ⟨x, hm, e⟩
    rw [e]; rfl
theorem UntP.cons_ne (h : UntP w ub ((d, (b, L)) :: U)) : ∀ x ∈ U, x.1 ≠ d := fun x hx e => by
  have := (List.pairwise_cons.1 h.map.apart).1 (outU x) (List.mem_map.2 ⟨x, hx, rfl⟩)
  exact this e.symm
/-- A new entry. -/
theorem UntP.new (h : UntP w ub U) (hno : ∀ x ∈ U, x.1 ≠ d) (hb : MapL KInt w b []) (hbo : ¬ ownU ub U b) (hm : MapL KDig w' ub (putM (U.map outU) d (.map (some b)))) (hg : w.grownBy w' (some ub)) : UntP w' ub ((d, (b, [])) :: U) := by
  have hn := List.nodup_cons.1 h.apart
  refine ⟨?_, fun x hx => ?_, ?_⟩
  · have e : delL (U.map outU) d = U.map outU := List.filter_eq_self.2 fun y hy => by
      obtain ⟨x, hx, rfl⟩ := List.mem_map.1 hy
      have := hno x hx
      have h2 : ¬ (outU x).1 = d := this
      simp [h2]
    unfold putM at hm
    rw [e] at hm
    exact hm
  · rcases List.mem_cons.1 hx with rfl | hx
    · exact hb.of_block (hg.block _ hb.lt (fun e => hbo (.inl (Option.some.inj e))))
    · refine (h.ins x hx).of_block (hg.block _ (h.ins x hx).lt (fun e => ?_))
      exact hn.1 (List.mem_map.2 ⟨x, hx, Option.some.inj e⟩)
  · show (ub :: b :: U.map (fun x => x.2.1)).Nodup
    have h1 : (b :: ub :: U.map (fun x => x.2.1)).Nodup := List.nodup_cons.2 ⟨fun hm2 => hbo (by
      rcases List.mem_cons.1 hm2 with e | e
      · exact .inl e
      · obtain ⟨x, hx, e2⟩ := List.mem_map.1 e
        exact .inr ⟨x, hx, e2⟩), h.apart⟩
    exact (List.Perm.swap ub b _).nodup_iff.1 h1
theorem SemU.new (h : SemU U T) (hno : ∀ x ∈ U, x.1 ≠ d) (h32 : d.length = 32) (b : Nat) : SemU ((d, (b, [])) :: U) T :=
  ⟨fun x hx => by
    rcases List.mem_cons.1 hx with rfl | hx
    · exact ⟨h32, fun id => (h.none d hno id h32).symm⟩
    · exact h.there x hx, fun d' hd => h.none d' fun x hx => hd x (by simp [hx])⟩
/-- An entry's map is written. -/
theorem UntP.set {L' : List (Int × Int)} (h : UntP w ub ((d, (b, L)) :: U)) (hm : MapL KInt w' b (L'.map inU)) (hg : w.grownBy w' (some b)) : UntP w' ub ((d, (b, L')) :: U) := by
  have hap := h.apart
  have hn := List.nodup_cons.1 hap
  have hn2 := List.nodup_cons.1 hn.2
  refine ⟨?_, fun x hx => ?_, hap⟩
  · have : MapL KDig w' ub (((d, (b, L)) :: U).map outU) := h.map.of_block (hg.block _ h.map.lt (fun e => hn.1 (by simp [Option.some.inj e])))
    exact this
  · rcases List.mem_cons.1 hx with rfl | hx
    · exact hm
    · refine (h.ins x (by simp [hx])).of_block (hg.block _ (h.ins x (by simp [hx])).lt (fun e => ?_))
      exact hn2.1 (List.mem_map.2 ⟨x, hx, Option.some.inj e⟩)
theorem SemU.set {L' : List (Int × Int)} {T' : TabL} (h : SemU ((d, (b, L)) :: U) T) (hne : ∀ x ∈ U, x.1 ≠ d) {id n : Int} (hL : ∀ id', valU L' id' = if id = id' then n else valU L id')
    (hT : ∀ d' id', tillT d' id' T' = if natL d = natL d' ∧ id = id' then n else tillT d' id' T) : SemU ((d, (b, L')) :: U) T' := by
  have h32 : d.length = 32 := (h.there (d, (b, L)) (by simp)).1
  refine ⟨fun x hx => ?_, fun d' hd id' hd32 => ?_⟩
  · rcases List.mem_cons.1 hx with rfl | hx
    · refine ⟨h32, fun id' => ?_⟩
      show valU L' id' = tillT d id' T'
      rw [hL, hT]
      have h1 := (h.there (d, (b, L)) (by simp)).2 id'
      have h2 : valU L id' = tillT d id' T := h1
      by_cases hq : id = id'
      · rw [if_pos hq, if_pos ⟨rfl, hq⟩]
      · rw [if_neg hq, if_neg (fun q => hq q.2), h2]
    · have h3 := h.there x (by simp [hx])
      refine ⟨h3.1, fun id' => ?_⟩
      rw [hT, if_neg (fun q => hne x hx (natL_inj _ _ (by rw [h32, h3.1]) q.1).symm)]
      exact h3.2 id'
  · rw [hT, if_neg (fun q => hd (d, (b, L')) (by simp) (natL_inj _ _ (by rw [h32, hd32]) q.1))]
    exact h.none d' (fun x hx => by
      rcases List.mem_cons.1 hx with rfl | hx
      · exact hd (d, (b, L')) (by simp)
      · exact hd x (by simp [hx])) id' hd32
/-- Nothing is written of a blob that has no entry. -/
theorem SemU.same {T' : TabL} (h : SemU U T) (hno : ∀ x ∈ U, x.1 ≠ d) (h32 : d.length = 32) {id : Int} (hT : ∀ d' id', tillT d' id' T' = if natL d = natL d' ∧ id = id' then 0 else tillT d' id' T) : SemU U T' := by
  refine ⟨fun x hx => ?_, fun d' hd id' hd32 => ?_⟩
  · have h3 := h.there x hx
    refine ⟨h3.1, fun id' => ?_⟩
    rw [hT, if_neg (fun q => hno x hx (natL_inj _ _ (by rw [h32, h3.1]) q.1).symm)]
    exact h3.2 id'
  · rw [hT]
    split
    · rfl
    · exact h.none d' hd id' hd32
theorem SemU.nil : SemU [] [] := ⟨fun x hx => (by cases hx), fun d _ id _ => rfl⟩
theorem untP_made (w : World) : UntP (w.alloc (.map #[] 0)) w.heap.size [] := ⟨mapL_made w, fun x hx => (by cases hx), by simp⟩

end Go.Proofs.Ytnohglkilpnjhaa

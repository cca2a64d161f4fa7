/- The plain half of the law TrackerRoom: how long a peer is known, behind each step. No condition. -/
import Derived.Test.YtnohglkilpnjhaaGb
namespace Go.Proofs.Ytnohglkilpnjhaa
set_option linter.unusedVariables false
set_option linter.unusedSimpArgs false

/-- Until when a peer is known (0: it is not). -/
def tillP (id : Int) (P : List PeerL) : Int := (oldP id P).till
def tillT (d : List UInt8) (id : Int) (T : TabL) : Int := tillP id (peersT d T)
theorem peersT_ins {T : TabL} (h : Rising kD T) (d d' : List UInt8) (X : List PeerL) : peersT d' (insK kD (d, X) T) = if natL d = natL d' then X else peersT d' T := by
  unfold peersT
  rw [getK_ins h]
  have e : kD (d, X) = (natL d : Int) := rfl
  rw [e]
  by_cases hq : natL d = natL d'
  · rw [if_pos (by omega), if_pos hq]; rfl
  · rw [if_neg (by omega), if_neg hq]
theorem peersT_del {T : TabL} (h : Rising kD T) (d d' : List UInt8) : peersT d' (delK kD (natL d) T) = if natL d = natL d' then [] else peersT d' T := by
  unfold peersT
  rw [getK_del h]
  by_cases hq : natL d = natL d'
  · rw [if_pos (by omega), if_pos hq]; rfl
  · rw [if_neg (by omega), if_neg hq]
theorem peersT_back {T : TabL} (h : Rising kD T) (d d' : List UInt8) (r : List PeerL) : peersT d' (backT d r T) = if natL d = natL d' then r else peersT d' T := by
  unfold backT
  split
  · rename_i e
    rw [peersT_del h, e]
  · exact peersT_ins h d d' r
theorem tillP_with {P : List PeerL} (h : Rising PeerL.id P) (id id' till : Int) (seed : Bool) : tillP id' (withP id till seed P) = if id = id' then max (tillP id P) till else tillP id' P := by
  unfold tillP oldP withP
  rw [getK_ins h]
  by_cases hq : id = id'
  · rw [if_pos hq, if_pos hq]; rfl
  · rw [if_neg hq, if_neg hq]
theorem tillP_del {P : List PeerL} (h : Rising PeerL.id P) (id id' : Int) : tillP id' (delK PeerL.id id P) = if id = id' then 0 else tillP id' P := by
  unfold tillP oldP
  rw [getK_del h]
  by_cases hq : id = id'
  · rw [if_pos hq.symm, if_pos hq]; rfl
  · rw [if_neg (fun e => hq e.symm), if_neg hq]
theorem tillP_snoc {A : List PeerL} {p : PeerL} (h : ∀ q ∈ A, q.id ≠ p.id) (id : Int) : tillP id (A ++ [p]) = if p.id = id then p.till else tillP id A := by
  unfold tillP oldP getK
  rw [List.find?_append]
  by_cases hq : p.id = id
  · rw [if_pos hq]
    have e : A.find? (fun y => decide (y.id = id)) = none := by
      rw [List.find?_eq_none]
      intro y hy
      rw [← hq]
      simpa using h y hy
    rw [e]
    simp [hq]
  · rw [if_neg hq]
    have e : [p].find? (fun y => decide (y.id = id)) = none := by
      rw [List.find?_eq_none]
      intro y hy
      simp only [List.mem_singleton] at hy
      subst hy
      simpa using hq
    rw [e]
    simp
theorem tillP_le {P : List PeerL} (h : PsOk P) (id : Int) : 0 ≤ tillP id P ∧ tillP id P ≤ 1099512676352 := ⟨(oldP_le h id).2, (oldP_le h id).1⟩

/-- So small is a table behind k steps. -/
structure FewT (k : Nat) (T : TabL) : Prop where
  ok : TabOk 1000 64 T
  few : T.length ≤ k
  ps : ∀ x ∈ T, x.2.length ≤ k
theorem FewT.nil : FewT 0 [] := ⟨TabOk.nil (by decide), Nat.le_refl _, fun x hx => by cases hx⟩
theorem FewT.next {k : Nat} {T : TabL} (h : FewT k T) : FewT (k + 1) T := ⟨h.ok, by have := h.few; omega, fun x hx => by have := h.ps x hx; omega⟩
theorem FewT.peers {k : Nat} {T : TabL} (h : FewT k T) (d : List UInt8) : (peersT d T).length ≤ k := by
  unfold peersT
  cases e : getK kD (natL d) T with
  | none => simp
  | some x => exact h.ps x ((getK_some h.ok.rise).1 e).1
theorem ann_roomy {k : Nat} {T : TabL} (h : FewT k T) (hk : k < 60) (d : List UInt8) (id now life : Int) (seed : Bool) :
    annT 1000 64 T d id now life seed = if argsB id now life then (insK kD (d, withP id (now + life) seed (peersT d T)) T, 0) else (T, 1) := by
  unfold annT
  split
  · rename_i ha
    have hp := (peersT_ok h.ok (by decide) d).1
    have h1 := h.peers d
    have h2 := withP_len (id := id) (till := now + life) (seed := seed) hp
    have hr : roomP 64 (withP id (now + life) seed (peersT d T)) = withP id (now + life) seed (peersT d T) := by
      unfold roomP; rw [if_neg]; omega
    rw [hr]
    have h3 : (insK kD (d, withP id (now + life) seed (peersT d T)) T).length ≤ T.length + 1 := by
      rw [insK_len h.ok.rise]; split <;> omega
    have h4 := h.few
    unfold roomT
    rw [if_neg (by omega)]
  · rfl
theorem FewT.ann {k : Nat} {T : TabL} (h : FewT k T) (hk : k < 60) {d : List UInt8} (hd : d.length = 32) (id now life : Int) (seed : Bool) : FewT (k + 1) (annT 1000 64 T d id now life seed).1 := by
  have h0 := h.ok.ann (by decide) (by decide) hd id now life seed
  rw [ann_roomy h hk] at h0 ⊢
  split
  · rename_i ha
    rw [if_pos ha] at h0
    have hp := (peersT_ok h.ok (by decide) d).1
    have h1 := h.peers d
    have h2 := withP_len (id := id) (till := now + life) (seed := seed) hp
    refine ⟨h0, ?_, fun x hx => ?_⟩
    · have := h.few
      show (insK kD _ T).length ≤ k + 1
      rw [insK_len h.ok.rise]; split <;> omega
    · rcases (mem_insK h.ok.rise).1 hx with rfl | ⟨h3, _⟩
      · dsimp only; omega
      · have := h.ps x h3; omega
  · exact h.next
theorem FewT.leave {k : Nat} {T : TabL} (h : FewT k T) {d : List UInt8} (hd : d.length = 32) (id : Int) : FewT (k + 1) (leaveT T d id).1 := by
  refine ⟨h.ok.leave (by decide) hd id, ?_, fun x hx => ?_⟩
  · have := h.few
    unfold leaveT
    split
    · show (backT _ _ T).length ≤ _
      unfold backT
      split
      · have : (delK kD (natL d) T).length ≤ T.length := List.length_filter_le _ _
        omega
      · rw [insK_len h.ok.rise]; split <;> omega
    · show T.length ≤ _; omega
  · unfold leaveT at hx
    split at hx
    · have h1 := h.peers d
      have h2 : (delK PeerL.id id (peersT d T)).length ≤ (peersT d T).length := List.length_filter_le _ _
      have hx' : x ∈ backT d (delK PeerL.id id (peersT d T)) T := hx
      unfold backT at hx'
      split at hx'
      · have := h.ps x (mem_delK.1 hx').1; omega
      · rcases (mem_insK h.ok.rise).1 hx' with rfl | ⟨h3, _⟩
        · dsimp only; omega
        · have := h.ps x h3; omega
    · have := h.ps x hx; omega

theorem tillT_ann {k : Nat} {T : TabL} (h : FewT k T) (hk : k < 60) (d d' : List UInt8) (id id' now life : Int) (seed : Bool) (ha : argsB id now life = true) :
    tillT d' id' (annT 1000 64 T d id now life seed).1 = if natL d = natL d' ∧ id = id' then max (tillT d id T) (now + life) else tillT d' id' T := by
  rw [ann_roomy h hk, if_pos ha]
  unfold tillT
  show tillP id' (peersT d' (insK kD _ T)) = _
  rw [peersT_ins h.ok.rise]
  have hp := (peersT_ok h.ok (by decide) d).1
  by_cases h1 : natL d = natL d'
  · rw [if_pos h1, tillP_with hp.rise]
    have e : peersT d' T = peersT d T := by unfold peersT; rw [h1]
    by_cases h2 : id = id'
    · rw [if_pos h2, if_pos ⟨h1, h2⟩]
    · rw [if_neg h2, if_neg (fun q => h2 q.2), e]
  · rw [if_neg h1, if_neg (fun q => h1 q.1)]
theorem tillT_leave {k : Nat} {T : TabL} (h : FewT k T) (d d' : List UInt8) (id id' : Int) :
    tillT d' id' (leaveT T d id).1 = if natL d = natL d' ∧ id = id' then 0 else tillT d' id' T := by
  have hp := (peersT_ok h.ok (by decide) d).1
  have e : natL d = natL d' → peersT d' T = peersT d T := fun h1 => by unfold peersT; rw [h1]
  unfold leaveT tillT
  by_cases hs : (getK PeerL.id id (peersT d T)).isSome = true
  · rw [if_pos hs]
    show tillP id' (peersT d' (backT _ _ T)) = _
    rw [peersT_back h.ok.rise]
    by_cases h1 : natL d = natL d'
    · rw [if_pos h1, tillP_del hp.rise]
      by_cases h2 : id = id'
      · rw [if_pos h2, if_pos ⟨h1, h2⟩]
      · rw [if_neg h2, if_neg (fun q => h2 q.2), e h1]
    · rw [if_neg h1, if_neg (fun q => h1 q.1)]
  · rw [if_neg hs]
    show tillP id' (peersT d' T) = _
    by_cases hq : natL d = natL d' ∧ id = id'
    · rw [if_pos hq, e hq.1, ← hq.2]
      unfold tillP oldP
      have hn : getK PeerL.id id (peersT d T) = none := by
        cases hg : getK PeerL.id id (peersT d T) with
        | none => rfl
        | some y => rw [hg] at hs; exact absurd rfl hs
      rw [hn]; rfl
    · rw [if_neg hq]
theorem getK_live {now : Int} {d : Int} : ∀ {T : TabL}, Rising kD T → getK kD d (liveT now T) = ((getK kD d T).map (fun x => (x.1, liveP now x.2))).filter (fun x => !decide (x.2 = []))
  | [], _ => rfl
  | x :: T, h => by
    have ih := getK_live (now := now) (d := d) h.tail
    unfold getK at *
    simp only [liveT]
    rw [List.find?_append, ih]
    unfold oneT
    by_cases hx : kD x = d
    · have hno : T.find? (fun y => decide (kD y = d)) = none := by
        rw [List.find?_eq_none]
        intro y hy
        have := h.head y hy
        simp only [decide_eq_true_eq]
        omega
      rw [hno, List.find?_cons_of_pos (by simpa using hx)]
      split
      · rename_i e
        simp [e, Option.filter]
      · rename_i e
        have hx2 : kD (x.1, liveP now x.2) = d := hx
        simp [e, hx2, Option.filter]
    · rw [List.find?_cons_of_neg (by simpa using hx)]
      split
      · simp
      · have hx2 : ¬ kD (x.1, liveP now x.2) = d := hx
        simp [hx2]
theorem peersT_live {now : Int} {T : TabL} (h : Rising kD T) (d : List UInt8) : peersT d (liveT now T) = liveP now (peersT d T) := by
  unfold peersT
  rw [getK_live h]
  cases getK kD (natL d) T with
  | none => rfl
  | some x =>
    by_cases e : liveP now x.2 = []
    · simp [e, Option.filter]
    · simp [e, Option.filter]
theorem tillP_live {P : List PeerL} (h : Rising PeerL.id P) {now : Int} (h0 : 0 ≤ now) (id : Int) : tillP id (liveP now P) = if tillP id P ≤ now then 0 else tillP id P := by
  unfold tillP oldP
  cases e : getK PeerL.id id P with
  | none =>
    have e2 : getK PeerL.id id (liveP now P) = none := getK_none.2 fun y hy => getK_none.1 e y (List.mem_filter.1 hy).1
    rw [e2]
    show (0 : Int) = if (0 : Int) ≤ now then 0 else 0
    split <;> rfl
  | some y =>
    obtain ⟨h1, h2⟩ := (getK_some h).1 e
    simp only [Option.getD_some]
    by_cases hn : y.till ≤ now
    · rw [if_pos hn]
      have e2 : getK PeerL.id id (liveP now P) = none := getK_none.2 fun z hz hzi => by
        obtain ⟨h3, h4⟩ := List.mem_filter.1 hz
        have := h.inj h1 h3 (by omega)
        rw [← this] at h4
        simp at h4
        omega
      rw [e2]; rfl
    · rw [if_neg hn]
      have e2 : getK PeerL.id id (liveP now P) = some y := (getK_some (h.filter _)).2 ⟨List.mem_filter.2 ⟨h1, by simpa using hn⟩, h2⟩
      rw [e2]; rfl
theorem tillT_exp {T : TabL} (h : TabOk 1000 64 T) (now : Int) (d : List UInt8) (id : Int) :
    tillT d id (expT T now).1 = if (0 ≤ now ∧ now ≤ 1099511627776) ∧ tillT d id T ≤ now then 0 else tillT d id T := by
  unfold expT
  by_cases hn : 0 ≤ now ∧ now ≤ 1099511627776
  · rw [if_pos hn]
    unfold tillT
    show tillP id (peersT d (liveT now T)) = _
    rw [peersT_live h.rise, tillP_live (peersT_ok h (by decide) d).1.rise hn.1]
    by_cases h2 : tillP id (peersT d T) ≤ now
    · rw [if_pos h2, if_pos ⟨hn, h2⟩]
    · rw [if_neg h2, if_neg (fun q => h2 q.2)]
  · rw [if_neg hn, if_neg (fun q => hn q.1)]

end Go.Proofs.Ytnohglkilpnjhaa

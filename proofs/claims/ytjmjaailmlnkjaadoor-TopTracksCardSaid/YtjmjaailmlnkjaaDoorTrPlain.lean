/- A tracker's table, in plain Lean: what package tracker, and the document's answer, compute. No condition. -/
import Derived.Test.YtjmjaailmlnkjaaDoorTrKeys
namespace Go.Proofs.YtjmjaailmlnkjaaDoor
set_option linter.unusedVariables false
set_option linter.unusedSimpArgs false

structure PeerL where
  id : Int
  till : Int
  seed : Bool
deriving DecidableEq
def PeerL.zero : PeerL := ⟨0, 0, false⟩
instance : Inhabited PeerL := ⟨PeerL.zero⟩
abbrev TabL := List (List UInt8 × List PeerL)
/-- A blob's key. -/
def kD {β : Type} (x : List UInt8 × β) : Int := (natL x.1 : Int)
/-- Which of two goes first: whose time is over first; of equals the greater key. -/
def goesK {α : Type} (last key : α → Int) (a b : α) : Bool := decide (last a < last b) || (decide (last a = last b) && decide (key b < key a))
def goesP : PeerL → PeerL → Bool := goesK PeerL.till PeerL.id
def lastP (l : List PeerL) : Int := l.foldl (fun n p => max n p.till) 0
def goesT : List UInt8 × List PeerL → List UInt8 × List PeerL → Bool := goesK (fun x => lastP x.2) kD
def firstP : List PeerL → PeerL
  | [] => PeerL.zero
  | x :: l => pickL goesP l x
def firstT : TabL → List UInt8 × List PeerL
  | [] => ([], [])
  | x :: l => pickL goesT l x
def oldP (id : Int) (l : List PeerL) : PeerL := (getK PeerL.id id l).getD PeerL.zero
def withP (id till : Int) (seed : Bool) (l : List PeerL) : List PeerL := insK PeerL.id ⟨id, max (oldP id l).till till, seed || (oldP id l).seed⟩ l
def roomP (each : Int) (l : List PeerL) : List PeerL := if each < l.length then delK PeerL.id (firstP l).id l else l
def roomT (most : Int) (T : TabL) : TabL := if most < T.length then delK kD (kD (firstT T)) T else T
def peersT (d : List UInt8) (T : TabL) : List PeerL := ((getK kD (natL d) T).map (·.2)).getD []
def argsB (id now life : Int) : Bool := decide (1 ≤ id ∧ id ≤ 65536) && (decide (0 ≤ now ∧ now ≤ 1099511627776) && decide (1 ≤ life ∧ life ≤ 1048576))
/-- Announce: the table, the error. -/
def annT (most each : Int) (T : TabL) (d : List UInt8) (id now life : Int) (seed : Bool) : TabL × Int :=
  if argsB id now life then (roomT most (insK kD (d, roomP each (withP id (now + life) seed (peersT d T))) T), 0) else (T, 1)
/-- What is put back: peers of a blob, or no blob where there are none. -/
def backT (d : List UInt8) (r : List PeerL) (T : TabL) : TabL := if r = [] then delK kD (natL d) T else insK kD (d, r) T
def leaveT (T : TabL) (d : List UInt8) (id : Int) : TabL × Int :=
  if (getK PeerL.id id (peersT d T)).isSome then (backT d (delK PeerL.id id (peersT d T)) T, 0) else (T, 4)
def liveP (now : Int) (l : List PeerL) : List PeerL := l.filter (fun p => decide (now < p.till))
def oneT (d : List UInt8) (r : List PeerL) : TabL := if r = [] then [] else [(d, r)]
def liveT (now : Int) : TabL → TabL
  | [] => []
  | x :: T => oneT x.1 (liveP now x.2) ++ liveT now T
def goneN (now : Int) : TabL → Nat
  | [] => 0
  | x :: T => (x.2.length - (liveP now x.2).length) + goneN now T
def expT (T : TabL) (now : Int) : TabL × Int × Int := if 0 ≤ now ∧ now ≤ 1099511627776 then (liveT now T, (goneN now T : Int), 0) else (T, 0, 1)
def idsT (d : List UInt8) (id : Int) (T : TabL) : List Int := ((peersT d T).filter (fun p => !decide (p.id = id))).map PeerL.id

theorem lastP_perm {a b : List PeerL} (h : a.Perm b) : lastP a = lastP b := by
  unfold lastP
  have : ∀ (a b : List PeerL), a.Perm b → ∀ n : Int, a.foldl (fun n p => max n p.till) n = b.foldl (fun n p => max n p.till) n := by
    intro a b h
    induction h with
    | nil => intro n; rfl
    | cons x _ ih => intro n; exact ih _
    | swap x y l => intro n; simp only [List.foldl_cons]; congr 1; omega
    | trans _ _ ih1 ih2 => intro n; rw [ih1, ih2]
  exact this a b h 0
theorem lastP_snoc (l : List PeerL) (p : PeerL) : lastP (l ++ [p]) = max (lastP l) p.till := by simp [lastP]
theorem goesK_slo {α : Type} {last key : α → Int} {S : α → Prop} (h : ∀ a b, S a → S b → key a = key b → a = b) : SLO (goesK last key) S where
  trans a b c h1 h2 := by
    simp only [goesK, Bool.or_eq_true, Bool.and_eq_true, decide_eq_true_eq] at *
    omega
  irr a := by simp [goesK]
  total a b ha hb hne := by
    have : key a ≠ key b := fun e => hne (h a b ha hb e)
    simp only [goesK, Bool.or_eq_true, Bool.and_eq_true, decide_eq_true_eq]
    omega
theorem goesP_slo {l : List PeerL} (h : Rising PeerL.id l) : SLO goesP (· ∈ l) := goesK_slo fun a b ha hb e => h.inj ha hb e
theorem firstP_perm {l l' : List PeerL} {x : PeerL} (h : Rising PeerL.id l) (hp : (x :: l').Perm l) : firstP l = pickL goesP l' x := by
  cases l with
  | nil => exact absurd hp.length_eq (by simp)
  | cons y l => exact (pickL_perm (goesP_slo h) hp.symm (fun z hz => hz))
theorem goesT_slo {T : TabL} (h : Rising kD T) : SLO goesT (· ∈ T) := goesK_slo fun a b ha hb e => h.inj ha hb e
theorem firstP_mem {l : List PeerL} (h : l ≠ []) : firstP l ∈ l := by
  cases l with
  | nil => exact absurd rfl h
  | cons x l => exact (pickL_mem l x).elim (fun e => by show pickL goesP l x ∈ _; rw [e]; simp) (fun e => by show pickL goesP l x ∈ _; simp [e])
theorem firstT_mem {T : TabL} (h : T ≠ []) : firstT T ∈ T := by
  cases T with
  | nil => exact absurd rfl h
  | cons x l => exact (pickL_mem l x).elim (fun e => by show pickL goesT l x ∈ _; rw [e]; simp) (fun e => by show pickL goesT l x ∈ _; simp [e])

/-- What a table's things are. -/
def PeerOk (p : PeerL) : Prop := 1 ≤ p.id ∧ p.id ≤ 65536 ∧ 1 ≤ p.till ∧ p.till ≤ 1099512676352
structure PsOk (l : List PeerL) : Prop where
  rise : Rising PeerL.id l
  ok : ∀ p ∈ l, PeerOk p
structure TabOk (most each : Int) (T : TabL) : Prop where
  rise : Rising kD T
  dig : ∀ x ∈ T, x.1.length = 32
  ps : ∀ x ∈ T, PsOk x.2 ∧ x.2 ≠ [] ∧ (x.2.length : Int) ≤ each
  few : (T.length : Int) ≤ most
theorem kD_inj {β : Type} {d e : List UInt8} {a b : β} (h1 : d.length = 32) (h2 : e.length = 32) (h : kD (d, a) = kD (e, b)) : d = e := natL_inj d e (by omega) (by unfold kD at h; dsimp only at h; omega)

theorem PsOk.nil : PsOk [] := ⟨Rising.nil, fun p hp => by cases hp⟩
theorem PsOk.del {l : List PeerL} (h : PsOk l) (k : Int) : PsOk (delK PeerL.id k l) := ⟨h.rise.del k, fun p hp => h.ok p (mem_delK.1 hp).1⟩
theorem PsOk.filter {l : List PeerL} (h : PsOk l) (q : PeerL → Bool) : PsOk (l.filter q) := ⟨h.rise.filter q, fun p hp => h.ok p (List.mem_filter.1 hp).1⟩
theorem oldP_le {l : List PeerL} (h : PsOk l) (id : Int) : (oldP id l).till ≤ 1099512676352 ∧ 0 ≤ (oldP id l).till := by
  unfold oldP
  cases e : getK PeerL.id id l with
  | none => exact ⟨by decide, by decide⟩
  | some y =>
    have := h.ok y ((getK_some h.rise).1 e).1
    unfold PeerOk at this
    simp only [Option.getD_some]
    omega
theorem PsOk.withP {l : List PeerL} (h : PsOk l) {id till : Int} (seed : Bool) (h1 : 1 ≤ id ∧ id ≤ 65536) (h2 : 1 ≤ till ∧ till ≤ 1099512676352) : PsOk (withP id till seed l) := by
  refine ⟨h.rise.ins _, fun p hp => ?_⟩
  rcases (mem_insK h.rise).1 hp with rfl | ⟨h3, _⟩
  · have := oldP_le h id
    unfold PeerOk
    dsimp only
    omega
  · exact h.ok p h3
theorem withP_ne {id till : Int} {seed : Bool} {l : List PeerL} (h : PsOk l) : Go.Proofs.YtjmjaailmlnkjaaDoor.withP id till seed l ≠ [] := fun e => by
  have : (⟨id, max (oldP id l).till till, seed || (oldP id l).seed⟩ : PeerL) ∈ Go.Proofs.YtjmjaailmlnkjaaDoor.withP id till seed l := (mem_insK h.rise).2 (.inl rfl)
  rw [e] at this; cases this
theorem withP_len {id till : Int} {seed : Bool} {l : List PeerL} (h : PsOk l) : (Go.Proofs.YtjmjaailmlnkjaaDoor.withP id till seed l).length ≤ l.length + 1 := by
  unfold Go.Proofs.YtjmjaailmlnkjaaDoor.withP
  rw [insK_len h.rise]
  split <;> omega
theorem firstP_get {l : List PeerL} (h : Rising PeerL.id l) (h0 : l ≠ []) : getK PeerL.id (firstP l).id l ≠ none := by
  rw [(getK_some h).2 ⟨firstP_mem h0, rfl⟩]; simp
theorem PsOk.room {l : List PeerL} (h : PsOk l) (each : Int) : PsOk (roomP each l) := by
  unfold roomP
  split
  · exact h.del _
  · exact h
theorem roomP_len {l : List PeerL} {each : Int} (h : PsOk l) (h1 : (l.length : Int) ≤ each + 1) (h0 : l ≠ []) : ((roomP each l).length : Int) ≤ each := by
  unfold roomP
  split
  · have := delK_len h.rise (firstP_get h.rise h0); omega
  · omega
theorem roomP_ne {l : List PeerL} {each : Int} (h : PsOk l) (h1 : 1 ≤ each) (h0 : l ≠ []) : roomP each l ≠ [] := by
  unfold roomP
  split
  · have := delK_len h.rise (firstP_get h.rise h0)
    intro e
    rw [e] at this
    simp at this
    omega
  · exact h0
theorem peersT_ok {most each : Int} {T : TabL} (h : TabOk most each T) (he : 1 ≤ each) (d : List UInt8) : PsOk (peersT d T) ∧ ((peersT d T).length : Int) ≤ each := by
  unfold peersT
  cases e : getK kD (natL d) T with
  | none => exact ⟨PsOk.nil, by simp; omega⟩
  | some x =>
    have := h.ps x ((getK_some h.rise).1 e).1
    exact ⟨this.1, this.2.2⟩
theorem TabOk.nil {most each : Int} (h : 0 ≤ most) : TabOk most each [] := ⟨Rising.nil, fun x hx => (by cases hx), fun x hx => (by cases hx), by simpa using h⟩
theorem TabOk.ann {most each : Int} {T : TabL} (h : TabOk most each T) (hm : 1 ≤ most) (he : 1 ≤ each) {d : List UInt8} (hd : d.length = 32) (id now life : Int) (seed : Bool) : TabOk most each (annT most each T d id now life seed).1 := by
  unfold annT
  split
  · rename_i ha
    simp only [argsB, Bool.and_eq_true, decide_eq_true_eq] at ha
    obtain ⟨hp, hl⟩ := peersT_ok h he d
    have hw := hp.withP (id := id) (till := now + life) seed ha.1 (by omega)
    have hwl := withP_len (id := id) (till := now + life) (seed := seed) hp
    have hw0 := withP_ne (id := id) (till := now + life) (seed := seed) hp
    generalize withP id (now + life) seed (peersT d T) = w at *
    have hr := hw.room each
    have hrl := roomP_len (each := each) hw (by omega) hw0
    have hr0 := roomP_ne (each := each) hw he hw0
    generalize roomP each w = r at *
    have hR := h.rise.ins (d, r)
    have hmem : ∀ x ∈ insK kD (d, r) T, x.1.length = 32 ∧ PsOk x.2 ∧ x.2 ≠ [] ∧ (x.2.length : Int) ≤ each := fun x hx => by
      rcases (mem_insK h.rise).1 hx with rfl | ⟨h3, _⟩
      · exact ⟨hd, hr, hr0, hrl⟩
      · exact ⟨h.dig x h3, h.ps x h3⟩
    have hlen : ((insK kD (d, r) T).length : Int) ≤ most + 1 := by
      rw [insK_len h.rise]
      have := h.few
      split <;> omega
    have hne : insK kD (d, r) T ≠ [] := fun e => by
      have : (d, r) ∈ insK kD (d, r) T := (mem_insK h.rise).2 (.inl rfl)
      rw [e] at this; cases this
    show TabOk most each (roomT most (insK kD (d, r) T))
    generalize insK kD (d, r) T = N at *
    unfold roomT
    split
    · have hg : getK kD (kD (firstT N)) N ≠ none := by rw [(getK_some hR).2 ⟨firstT_mem hne, rfl⟩]; simp
      have := delK_len hR hg
      exact ⟨hR.del _, fun x hx => (hmem x (mem_delK.1 hx).1).1, fun x hx => (hmem x (mem_delK.1 hx).1).2, by omega⟩
    · exact ⟨hR, fun x hx => (hmem x hx).1, fun x hx => (hmem x hx).2, by omega⟩
  · exact h
theorem TabOk.back {most each : Int} {T : TabL} (h : TabOk most each T) {d : List UInt8} (hd : d.length = 32) (hg : getK kD (natL d) T ≠ none) {r : List PeerL} (hr : PsOk r) (hl : (r.length : Int) ≤ each) : TabOk most each (backT d r T) := by
  unfold backT
  split
  · have := delK_len h.rise hg
    exact ⟨h.rise.del _, fun x hx => h.dig x (mem_delK.1 hx).1, fun x hx => h.ps x (mem_delK.1 hx).1, by have := h.few; omega⟩
  · rename_i hne
    refine ⟨h.rise.ins _, fun x hx => ?_, fun x hx => ?_, ?_⟩
    · rcases (mem_insK h.rise).1 hx with rfl | ⟨h3, _⟩
      · exact hd
      · exact h.dig x h3
    · rcases (mem_insK h.rise).1 hx with rfl | ⟨h3, _⟩
      · exact ⟨hr, hne, hl⟩
      · exact h.ps x h3
    · rw [insK_len h.rise]
      have e : getK kD (kD (d, r)) T = getK kD (natL d) T := rfl
      rw [e, if_pos (Option.isSome_iff_ne_none.2 hg)]
      exact h.few
theorem TabOk.leave {most each : Int} {T : TabL} (h : TabOk most each T) (he : 1 ≤ each) {d : List UInt8} (hd : d.length = 32) (id : Int) : TabOk most each (leaveT T d id).1 := by
  unfold leaveT
  split
  · rename_i hs
    obtain ⟨hp, hl⟩ := peersT_ok h he d
    refine h.back hd (fun e => ?_) (hp.del id) ?_
    · unfold peersT at hs
      rw [e] at hs
      cases hs
    · have : (delK PeerL.id id (peersT d T)).length ≤ (peersT d T).length := List.length_filter_le _ _
      omega
  · exact h
theorem liveT_mem {now : Int} : ∀ {T : TabL} {x : List UInt8 × List PeerL}, x ∈ liveT now T → ∃ y ∈ T, x.1 = y.1 ∧ x.2 = liveP now y.2 ∧ x.2 ≠ []
  | [], x, h => by cases h
  | z :: T, x, h => by
    rcases List.mem_append.1 h with h | h
    · unfold oneT at h
      split at h
      · cases h
      · rename_i hne
        obtain rfl := List.mem_singleton.1 h
        exact ⟨z, by simp, rfl, rfl, hne⟩
    · obtain ⟨y, h1, h2⟩ := liveT_mem h
      exact ⟨y, by simp [h1], h2⟩
theorem oneT_len (d : List UInt8) (r : List PeerL) : (oneT d r).length ≤ 1 := by unfold oneT; split <;> simp
theorem liveT_len (now : Int) : ∀ T : TabL, (liveT now T).length ≤ T.length
  | [] => by simp [liveT]
  | x :: T => by
    have := liveT_len now T
    have := oneT_len x.1 (liveP now x.2)
    simp only [liveT, List.length_append, List.length_cons]
    omega
theorem liveT_rise {now : Int} : ∀ {T : TabL}, Rising kD T → Rising kD (liveT now T)
  | [], _ => Rising.nil
  | x :: T, h => by
    refine List.pairwise_append.2 ⟨?_, liveT_rise h.tail, fun a ha b hb => ?_⟩
    · unfold oneT; split
      · exact List.Pairwise.nil
      · exact List.pairwise_singleton _ _
    · obtain ⟨y, h1, h2, _⟩ := liveT_mem hb
      unfold oneT at ha
      split at ha
      · cases ha
      · obtain rfl := List.mem_singleton.1 ha
        have := h.head y h1
        unfold kD at *
        rw [h2]; exact this
theorem TabOk.live {most each : Int} {T : TabL} (h : TabOk most each T) (now : Int) : TabOk most each (liveT now T) := by
  refine ⟨liveT_rise h.rise, fun x hx => ?_, fun x hx => ?_, ?_⟩
  · obtain ⟨y, h1, h2, _⟩ := liveT_mem hx
    rw [h2]; exact h.dig y h1
  · obtain ⟨y, h1, h2, h3, h4⟩ := liveT_mem hx
    obtain ⟨p1, p2, p3⟩ := h.ps y h1
    refine ⟨by rw [h3]; exact p1.filter _, h4, ?_⟩
    rw [h3]
    have : (liveP now y.2).length ≤ y.2.length := List.length_filter_le _ _
    omega
  · have := liveT_len now T
    have := h.few
    omega
theorem TabOk.exp {most each : Int} {T : TabL} (h : TabOk most each T) (now : Int) : TabOk most each (expT T now).1 := by
  unfold expT
  split
  · exact h.live now
  · exact h

/-! ### The blob that goes first, by its hash -/
def goesD (T : TabL) : List UInt8 → List UInt8 → Bool := goesK (fun d => lastP (peersT d T)) (fun d => (natL d : Int))
def goesV (x y m n : Int) : Bool := decide (x < y) || (decide (x = y) && decide (n < m))
theorem peersT_mem {T : TabL} (h : Rising kD T) {x : List UInt8 × List PeerL} (hx : x ∈ T) : peersT x.1 T = x.2 := by
  unfold peersT
  have e : getK kD (natL x.1) T = some x := (getK_some h).2 ⟨hx, rfl⟩
  rw [e]; rfl
theorem goesD_slo (T : TabL) : SLO (goesD T) (fun d => d.length = 32) := goesK_slo fun a b ha hb e => natL_inj a b (by omega) (by omega)
theorem firstT_dig {T : TabL} (h : Rising kD T) (h32 : ∀ x ∈ T, x.1.length = 32) {d : List UInt8} {l : List (List UInt8)} (hp : (d :: l).Perm (T.map (·.1))) : (firstT T).1 = pickL (goesD T) l d := by
  cases T with
  | nil => exact absurd hp.length_eq (by simp)
  | cons y T' =>
    have hm := pickL_map (goes := goesT) (go2 := goesD (y :: T')) (fun x : List UInt8 × List PeerL => x.1) T' y (fun a ha b hb => by
      have e1 := peersT_mem h ha
      have e2 := peersT_mem h hb
      show goesV (lastP (peersT a.1 (y :: T'))) (lastP (peersT b.1 (y :: T'))) (natL a.1) (natL b.1) = goesV (lastP a.2) (lastP b.2) (natL a.1) (natL b.1)
      rw [e1, e2])
    show (pickL goesT T' y).1 = _
    rw [← hm]
    refine pickL_perm (goesD_slo (y :: T')) hp.symm (fun z hz => ?_)
    obtain ⟨x, hx, rfl⟩ := List.mem_map.1 (show z ∈ (y :: T').map (·.1) from hz)
    exact h32 x hx

end Go.Proofs.YtjmjaailmlnkjaaDoor

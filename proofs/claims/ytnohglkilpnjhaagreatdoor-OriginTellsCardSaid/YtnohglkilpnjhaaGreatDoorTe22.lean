/- Texts of this claim, one behind the other: each begins with a comment that says what it proves and asks. -/
import Derived.Test.YtnohglkilpnjhaaGreatDoorTe21
/- The walk of the laws' awake. Condition: the table of the hash's constants. -/
namespace Go.Proofs.YtnohglkilpnjhaaGreatDoor
open Go.RowKit
set_option linter.unusedVariables false
set_option linter.unusedSimpArgs false
set_option maxRecDepth 100000

theorem right_one : mrightB ((([7] : List UInt8).length : Nat) : Int) 16 = true := by decide
theorem pub_one : ∃ S nm, pubL OrgL.zero [[7]] 16 = (S, nm, 0) ∧ nm.length = 32 ∧ (imgAt S nm).isSome = true := by
  have hb : blobsL 16 [[7]] = [(blobE [7] 16).1] := rfl
  have he : encGE (blobsL 16 [[7]]) = 0 := by
    have h1 : imageE (blobsL 16 [[7]]) = 0 := by
      rw [hb]
      refine image_one ?_
      unfold blobE
      rw [if_pos right_one]
      exact right_one
    obtain ⟨h2, _⟩ := encG_some h1 (blobsL_ok 16 [[7]])
    unfold encGE
    rw [if_pos h1]
    unfold encG at h2
    rw [if_pos h1] at h2
    rw [h2]; rfl
  refine ⟨⟨[(nameL (blobsL 16 [[7]]), blobsL 16 [[7]])], (contsL 16 [[7]]).foldl addC [], []⟩, nameL (blobsL 16 [[7]]), ?_, nameL_len _, ?_⟩
  · unfold pubL
    rw [if_pos (by unfold layersOk; simp only [List.all_cons, List.all_nil, Bool.and_true]; exact right_one), if_pos he, if_neg (by simp [imgAt, OrgL.zero]), if_neg (by simp [OrgL.zero])]
    rfl
  · simp [imgAt]
theorem take_ask {S : OrgL} {nm : List UInt8} {most each life : Int} (h : (imgAt S nm).isSome = true) : ∃ bs, takeO S most each life 3 1 (mk0 9 nm) 0 = (S, { mk0 10 nm with bytes := bs }, true, 0) := by
  obtain ⟨xs, hx⟩ := Option.isSome_iff_exists.1 h
  refine ⟨(encG xs).getD [], ?_⟩
  have hr : wrightB (mk0 9 nm) = true := by
    rw [wrightB_eq]
    simp [itemB, hasL, mk0, fitsB, bareB]
  have hok : takeOk 3 1 (mk0 9 nm) = true := takeOk_iff.2 ⟨by omega, by omega, hr⟩
  unfold takeO
  rw [if_pos hok, if_pos (show (mk0 9 nm).kind = 9 from rfl)]
  have ht : tellL S nm = { mk0 10 nm with bytes := (encG xs).getD [] } := by unfold tellL; rw [hx]
  show (S, tellL S nm, true, 0) = _
  rw [ht]
theorem parts_one19 {w : World} : PartsV ((w.alloc (.cells #[.int .u8 7] 5)).alloc (.cells #[.slice (some ⟨w.heap.size, 0, none⟩) 1 1] 33)) (.slice (some ⟨w.heap.size + 1, 0, none⟩) 1 1) [[7]] := by
  have h1 := heap_alloc_new w (.cells #[.int .u8 7] 5)
  have hs : (w.alloc (.cells #[.int .u8 7] 5)).heap.size = w.heap.size + 1 := by simp
  have h2 := heap_alloc_new (w.alloc (.cells #[.int .u8 7] 5)) (.cells #[.slice (some ⟨w.heap.size, 0, none⟩) 1 1] 33)
  rw [hs] at h2
  refine ⟨_, 1, rfl, by simp, by unfold maxLen; omega, (fun h => by cases h), fun _ => ⟨w.heap.size + 1, 0, rfl, by simp, fun i hi => ?_⟩⟩
  obtain rfl : i = 0 := by simp at hi; omega
  refine ⟨.slice (some ⟨w.heap.size, 0, none⟩) 1 1, by simp only [World.cell?, h2]; rfl, ?_⟩
  have hb : Bytes (w.alloc (.cells #[.int .u8 7] 5)) (.slice (some ⟨w.heap.size, 0, none⟩) 1 1) [7] := by
    refine ⟨rfl, _, 1, rfl, by simp, by unfold maxLen; omega, (fun h => by cases h), fun _ => ⟨w.heap.size, 0, rfl, by simp, fun j hj => ?_⟩⟩
    obtain rfl : j = 0 := by simp at hj; omega
    simp only [World.cell?, h1]; rfl
  exact hb.of_new ((Below.refl _ _).alloc (Nat.le_refl _) _)

theorem mk0_ok {k : Int} {d : List UInt8} (h : inI64 k) : (mk0 k d).ok := ⟨h, (by show inI64 0; unfold inI64; omega), (fun n hn => by cases hn), fun x hx => by cases hx⟩
set_option maxHeartbeats 3200000 in
theorem oawake_any (w : World) (hKc : Consts w) : Calls Tryz.prog 9 #[] w fun e w' => e = .returned (.bool true) ∧ Below w.heap.size w w' := by
  obtain ⟨S, nm, hpub, hn32, hsome⟩ := pub_one
  obtain ⟨bs, htake⟩ := take_ask (most := 5) (each := 5) (life := 10) hsome
  have HPUB := Lib.hid hpub
  have HN32 := Lib.hid hn32
  have HTAKE := Lib.hid htake
  have HKC := Lib.hid hKc
  have hokS : OrgOk 5 5 S := by
    have := (OrgOk.zero (most := 5) (each := 5) (by omega)).pub [[7]] 16
    rw [hpub] at this
    exact this
  have HOK := Lib.hid hokS
  have HZ := Lib.hid (OrgOk.zero (most := 5) (each := 5) (by omega))
  clear hpub hn32 hsome htake hKc hokS
  go_enter Tryz.func9, Tryz.ntmps9
  go_upto_region 4 with (go_at_call 11; refine (ONew_ok 5 5 10 _ (by decide)).mono ?_; rintro e w1 ⟨o, F, rfl, ho1, hf1, hb1⟩; have HO1 := Lib.hid ho1; have HF1 := Lib.hid hf1; have HB1 := Lib.hid hb1; clear ho1 hf1 hb1)
  go_upto_region 5 with (first
    | (go_at_call 12; have hb2 : Below w1.heap.size w1 _ := ((Below.refl _ w1).alloc (Nat.le_refl _) (.cells #[.int .u8 7] 5)).alloc (by simp) (.cells #[.slice (some ⟨w1.heap.size, 0, none⟩) 1 1] 33); refine (OPublish_any o 5 5 10 OrgL.zero F _ [[7]] 16 _ (HO1.out.of_new hb2) HZ.out parts_one19 (by decide) ((HKC.out.of_new HB1.out).of_new hb2)).mono ?_; unfold PubPost; rw [HPUB.out]; rintro e w3 ⟨F3, rfl, ho3, hs3⟩; have HO3 := Lib.hid ho3; have HB3 := Lib.hid (hs3.below (below_next HB1.out hb2) (by have := HB1.out.size; have := hb2.size; omega) HF1.out); have HF3 := Lib.hid (fun k hk => (hs3.own k hk).elim (HF1.out k) (fun h => Nat.le_trans (Nat.le_trans HB1.out.size hb2.size) h)); clear hb2 ho3 hs3)
    | ((with_reducible refine wpList_plain (o := ⟨some 3, Op.alloc _, _, _, _, _⟩) rfl fun K hK => ?_); (refine wp_alloc_dig rfl fun w4 ho4 hb4 hs4 => hK _ _ ?_); have HO4 := Lib.hid ho4; have HB4 := Lib.hid hb4; clear ho4 hb4 hs4)
    | ((with_reducible refine wpList_plain (o := ⟨none, Op.store _ (.tmp 3) (.tmp 23), _, _, _, _⟩) rfl fun K hK => ?_); (refine wp_store_digO (.tmp 3) (.tmp 23) w3.heap.size nm dig0 rfl rfl rfl HN32.out HO4.out fun w5 ho5 hg5 hs5 => hK _ _ ?_); have hb5 := HB4.out.grown hg5 (by have := HB4.out.size; omega) (fun k e => by cases e; exact Nat.le_refl _); have HDG := Lib.hid ho5.at_; have HB5 := Lib.hid hb5; clear ho5 hg5 hs5 hb5))
  obtain ⟨g3, hg3⟩ : ∃ g, w3.heap.size = g := ⟨_, rfl⟩
  rw [hg3] at HDG ⊢
  clear hg3
  have HO5 := Lib.hid (HO3.out.of_new HB5.out)
  have HBW := Lib.hid (below_next HB3.out HB5.out)
  have hT := fun W h1 h2 => OTake_any o 5 5 10 S F3 3 1 (mk0 9 nm) sN 0 W h1 HOK.out (by omega) (by omega) (msgR_0 W 9 HN32.out) (mk0_ok (by unfold inI64; omega)) (by omega) h2
  rw [HTAKE.out] at hT
  have HT := Lib.hid hT
  clear hT
  go_upto_region 6 with (first
    | ((with_reducible refine wpList_plain (o := ⟨some 27, Op.load _ _, _, _, _, _⟩) rfl fun K hK => ?_); (refine wp_load_at (ty := 31) (x := .tmp 3) rfl rfl HDG.out (hK _ _ ?_)))
    | ((with_reducible refine wpList_plain (o := ⟨some 28, Op.build _ _, _, _, _, _⟩) rfl fun K hK => ?_); (refine wp_build_m1 9 nm HN32.out rfl rfl rfl (hK _ _ ?_)))
    | (go_at_call 13; refine (HT.out _ HO5.out (HKC.out.of_new HBW.out)).mono ?_; unfold TakePost; rintro e w6 ⟨F6, s6, rfl, hr6, -, -, hb6, -⟩; have HR6 := Lib.hid hr6; have HB6 := Lib.hid (below_next HBW.out (hb6 (by show (9 : Int) ≠ 6; decide))); clear hr6 hb6)
    | ((with_reducible refine wpList_plain (o := ⟨some 5, Op.alloc _, _, _, _, _⟩) rfl fun K hK => ?_); (refine wp_alloc_msg rfl fun w7 ho7 hb7 hs7 => hK _ _ ?_); have HO7 := Lib.hid ho7.o; have HB7 := Lib.hid hb7; have HR7 := Lib.hid (HR6.out.of_new hb7); clear ho7 hb7 hs7)
    | ((with_reducible refine wpList_plain (o := ⟨none, Op.store _ (.tmp 5) (.tmp 30), _, _, _, _⟩) rfl fun K hK => ?_); (refine wp_store_msg (.tmp 5) (.tmp 30) w6.heap.size _ msgZ s6 sN rfl rfl rfl HR7.out HO7.out fun w8 ho8 hg8 hs8 => hK _ _ ?_); have HO8 := Lib.hid ho8; have HB8 := Lib.hid (below_next HB6.out (HB7.out.grown hg8 (by have := HB7.out.size; omega) (fun k e => by cases e; exact Nat.le_refl _))); clear ho8 hg8 hs8))
  have hk := HO8.out.kind
  rw [show (({ mk0 10 nm with bytes := bs } : MsgL)).kind = 10 from rfl] at hk
  go_wp2
  go_ret
  exact ⟨rfl, HB8.out⟩

end Go.Proofs.YtnohglkilpnjhaaGreatDoor

/- The plain law of OriginTells: who announced itself is told. No condition. -/
namespace Go.Proofs.YtnohglkilpnjhaaGreatDoor
open Go.RowKit
set_option linter.unusedVariables false
set_option linter.unusedSimpArgs false

/-- A map of numbers, all true. -/
def setM (l : List Int) : List (Int × Value) := l.map fun i => (i, .bool true)
theorem setM_get (l : List Int) (x : Int) : (getL (setM l) x).getD (.bool false) = .bool (decide (x ∈ l)) := by
  unfold getL setM
  induction l with
  | nil => rfl
  | cons y l ih =>
    rw [List.map_cons]
    by_cases h : y = x
    · rw [List.find?_cons_of_pos (by simpa using h)]
      simp [h]
    · rw [List.find?_cons_of_neg (by simpa using h), ih]
      congr 1
      rw [decide_eq_decide]
      simp only [List.mem_cons]
      exact ⟨.inr, fun h1 => h1.elim (fun e => absurd e.symm h) id⟩
theorem setM_del (l : List Int) (x : Int) : delL (setM l) x = setM (l.filter fun y => !decide (y = x)) := by
  unfold delL setM; rw [List.filter_map]; rfl
theorem setM_put (l : List Int) (x : Int) : putM (setM l) x (.bool true) = setM (x :: l.filter fun y => !decide (y = x)) := by
  unfold putM; rw [setM_del]; rfl
theorem setM_len (l : List Int) : (setM l).length = l.length := by simp [setM]

def okId (x : Int) : Prop := 1 ≤ x ∧ x ≤ 65536
instance (x : Int) : Decidable (okId x) := inferInstanceAs (Decidable (_ ∧ _))
/-- The table behind those announcements. -/
def TellI (till : Int) (L : List Int) (T : TabL) : Prop :=
  ∃ ps, T = oneT dig0 ps ∧ PsOk ps ∧ (∀ p ∈ ps, p.till = till) ∧ (∀ x, x ∈ ps.map PeerL.id ↔ x ∈ L ∧ okId x) ∧ ps.length ≤ L.length
theorem TellI.nil (till : Int) : TellI till [] [] := ⟨[], rfl, PsOk.nil, fun p hp => (by cases hp), fun x => by simp, Nat.le_refl _⟩
theorem peersT_one (d : List UInt8) (ps : List PeerL) : peersT d (oneT d ps) = ps := by
  unfold oneT peersT
  by_cases h : ps = []
  · rw [if_pos h, h]; rfl
  · rw [if_neg h]
    have : getK kD (natL d) [(d, ps)] = some (d, ps) := by
      unfold getK
      rw [List.find?_cons_of_pos (by simp [kD])]
    rw [this]; rfl
theorem insK_one (d : List UInt8) (ps q : List PeerL) : insK kD (d, q) (oneT d ps) = [(d, q)] := by
  unfold oneT
  by_cases h : ps = []
  · rw [if_pos h]; rfl
  · rw [if_neg h]
    unfold insK
    rw [if_neg (by simp [kD]), if_pos (by simp [kD])]
theorem ann_one {ps : List PeerL} {id now life : Int} {seed : Bool} (hp : PsOk ps) (hl : ps.length ≤ 60) (h : argsB id now life = true) :
    annT 5 64 (oneT dig0 ps) dig0 id now life seed = (oneT dig0 (withP id (now + life) seed ps), 0) := by
  unfold annT
  rw [if_pos h, peersT_one, insK_one]
  have hw := withP_len (id := id) (till := now + life) (seed := seed) hp
  have hn := withP_ne (id := id) (till := now + life) (seed := seed) hp
  have h1 : roomP 64 (withP id (now + life) seed ps) = withP id (now + life) seed ps := by
    unfold roomP; rw [if_neg (by omega)]
  rw [h1]
  unfold roomT oneT
  rw [if_neg (by simp), if_neg hn]
theorem ann_ok : wrightB (mk0 6 dig0) = true := by
  rw [wrightB_eq]
  simp [itemB, hasL, mk0, fitsB, bareB]
theorem takeOk_ann {id now : Int} (hn : 0 ≤ now ∧ now ≤ 1073741824) : takeOk id now (mk0 6 dig0) = decide (okId id) := by
  unfold takeOk okId
  rw [ann_ok, decide_eq_true (show 0 ≤ now ∧ now ≤ 1099511627776 by omega), Bool.and_true, Bool.and_true]
  exact decide_eq_decide.2 Iff.rfl
theorem args_ok {id now life : Int} (hi : okId id) (hn : 0 ≤ now ∧ now ≤ 1073741824) (hl : 1 ≤ life ∧ life ≤ 1048576) : argsB id now life = true := by
  unfold argsB
  unfold okId at hi
  rw [decide_eq_true hi, decide_eq_true (show 0 ≤ now ∧ now ≤ 1099511627776 by omega), decide_eq_true hl]; rfl
theorem with_one {ps : List PeerL} {id till : Int} {seed : Bool} (hp : PsOk ps) (ht : ∀ p ∈ ps, p.till = till) (h0 : 0 ≤ till) : ∀ p ∈ withP id till seed ps, p.till = till := fun p hm => by
  rcases (mem_insK hp.rise).1 hm with rfl | ⟨h, _⟩
  · show max (oldP id ps).till till = till
    unfold oldP
    cases e : getK PeerL.id id ps with
    | none => show max 0 till = till; omega
    | some y =>
      have := ht y ((getK_some hp.rise).1 e).1
      show max y.till till = till
      omega
  · exact ht p h
theorem with_ids {ps : List PeerL} {id till : Int} {seed : Bool} (hp : PsOk ps) (x : Int) : x ∈ (withP id till seed ps).map PeerL.id ↔ x = id ∨ x ∈ ps.map PeerL.id := by
  simp only [List.mem_map]
  constructor
  · rintro ⟨p, hm, rfl⟩
    rcases (mem_insK hp.rise).1 hm with rfl | ⟨h, _⟩
    · exact .inl rfl
    · exact .inr ⟨p, h, rfl⟩
  · rintro (rfl | ⟨p, h, rfl⟩)
    · exact ⟨_, (mem_insK hp.rise).2 (.inl rfl), rfl⟩
    · by_cases e : p.id = id
      · exact ⟨_, (mem_insK hp.rise).2 (.inl rfl), e.symm⟩
      · exact ⟨p, (mem_insK hp.rise).2 (.inr ⟨h, e⟩), rfl⟩
/-- One announcement. -/
theorem tell_step {S : OrgL} {L : List Int} {life now id : Int} (hT : TellI (now + life) L S.tab) (hl : L.length ≤ 8) (hn : 0 ≤ now ∧ now ≤ 1073741824) (hf : 1 ≤ life ∧ life ≤ 1048576) :
    TellI (now + life) (L ++ [id]) (takeO S 5 64 life id now (mk0 6 dig0) 0).1.tab ∧ (takeO S 5 64 life id now (mk0 6 dig0) 0).2.2.2 = if okId id then 0 else 1 := by
  unfold takeO
  rw [takeOk_ann hn]
  by_cases h : okId id
  · rw [if_pos (decide_eq_true h), if_neg (show ¬ (mk0 6 dig0).kind = 9 by decide), if_neg (show ¬ (mk0 6 dig0).kind = 3 by decide), if_pos (show (mk0 6 dig0).kind = 6 from rfl), if_pos h]
    refine ⟨?_, rfl⟩
    obtain ⟨ps, h1, h2, h3, h4, h5⟩ := hT
    show TellI _ _ (annT 5 64 S.tab dig0 id now life false).1
    rw [h1, ann_one h2 (by omega) (args_ok h hn hf)]
    refine ⟨_, rfl, h2.withP false h (by omega), with_one h2 h3 (by omega), fun x => ?_, ?_⟩
    · rw [with_ids h2, h4]
      simp only [List.mem_append, List.mem_singleton]
      exact ⟨fun q => q.elim (fun e => ⟨.inr e, e ▸ h⟩) (fun e => ⟨.inl e.1, e.2⟩), fun q => q.1.elim (fun e => .inr ⟨e, q.2⟩) .inl⟩
    · have := withP_len (id := id) (till := now + life) (seed := false) h2
      simp; omega
  · rw [decide_eq_false h, if_neg (by decide), if_neg h]
    refine ⟨?_, rfl⟩
    obtain ⟨ps, h1, h2, h3, h4, h5⟩ := hT
    refine ⟨ps, h1, h2, h3, fun x => ?_, by simp; omega⟩
    rw [h4]
    simp only [List.mem_append, List.mem_singleton]
    exact ⟨fun q => ⟨.inl q.1, q.2⟩, fun q => ⟨q.1.elim (fun e => e) (fun e => absurd (e ▸ q.2) h), q.2⟩⟩
/-- The end: who is told. -/
theorem tell_end {S : OrgL} {L : List Int} {life x0 x1 : Int} (hT : TellI (x0 + life) L S.tab) (hl : L.length ≤ 8) (h0 : 0 ≤ x0 ∧ x0 ≤ 1073741824) (h1 : 0 ≤ x1 ∧ x1 ≤ 1073741824) (hf : 1 ≤ life ∧ life ≤ 1048576) :
    ∃ ids, (takeO (tickL S x1).1 5 64 life 7 x1 (mk0 6 dig0) 5).2 = ({ mk0 7 dig0 with ids := ids }, true, 0) ∧ ids.length ≤ 8 ∧ ids.Nodup ∧ (∀ x ∈ ids, okId x) ∧
      (x0 + life ≤ x1 → ids = []) ∧ (¬ x0 + life ≤ x1 → ∀ x, x ∈ ids ↔ (x ∈ L ∧ okId x) ∧ x ≠ 7) := by
  obtain ⟨ps, e1, h2, h3, h4, h5⟩ := hT
  have e2 : (tickL S x1).1.tab = oneT dig0 (liveP x1 ps) := by
    unfold tickL expT
    rw [if_pos (by omega)]
    show liveT x1 S.tab = _
    rw [e1]
    unfold oneT
    by_cases hp : ps = []
    · rw [if_pos hp, hp]; rfl
    · rw [if_neg hp]
      show oneT dig0 (liveP x1 ps) ++ [] = _
      rw [List.append_nil]; rfl
  have hlp : PsOk (liveP x1 ps) := h2.filter _
  have hll : (liveP x1 ps).length ≤ 8 := by
    have : (liveP x1 ps).length ≤ ps.length := List.length_filter_le _ _
    omega
  obtain ⟨S1, hS1⟩ : ∃ S1, (tickL S x1).1 = S1 := ⟨_, rfl⟩
  rw [hS1] at e2 ⊢
  unfold takeO
  rw [takeOk_ann h1, if_pos (by decide), if_neg (show ¬ (mk0 6 dig0).kind = 9 by decide), if_neg (show ¬ (mk0 6 dig0).kind = 3 by decide), if_pos (show (mk0 6 dig0).kind = 6 from rfl)]
  have hot : ∀ q : List PeerL, PsOk q → othersL (withP 7 (x1 + life) false q) 7 = othersL q 7 := fun q hq => by
    unfold othersL
    congr 1
    refine (Rising.filter (f := PeerL.id) (hq.rise.ins _) _).ext (hq.rise.filter _) fun y => ?_
    simp only [List.mem_filter, bne_iff_ne, ne_eq]
    constructor
    · rintro ⟨hm, h7⟩
      rcases (mem_insK hq.rise).1 hm with rfl | ⟨h, _⟩
      · exact absurd rfl h7
      · exact ⟨h, h7⟩
    · rintro ⟨hm, h7⟩
      exact ⟨(mem_insK hq.rise).2 (.inr ⟨hm, h7⟩), h7⟩
  have hps : peersT dig0 (annS S1 5 64 life dig0 7 x1 false).tab = withP 7 (x1 + life) false (liveP x1 ps) := by
    show peersT dig0 (annT 5 64 S1.tab dig0 7 x1 life false).1 = _
    rw [e2, ann_one hlp (by omega) (args_ok (by decide) h1 hf), peersT_one]
  refine ⟨sampleL 5 (othersL (liveP x1 ps) 7) 8, ?_, ?_⟩
  · show (askS (annS S1 5 64 life dig0 7 x1 false) dig0 7 5, true, 0) = _
    unfold askS
    rw [hps, hot _ hlp]
  have hol : (othersL (liveP x1 ps) 7).length ≤ 8 := by
    unfold othersL
    rw [List.length_map]
    have := List.length_filter_le (fun p : PeerL => p.id != 7) (liveP x1 ps)
    omega
  have hsm : sampleL 5 (othersL (liveP x1 ps) 7) 8 = shufL 5 (othersL (liveP x1 ps) 7) := by
    unfold sampleL
    exact List.take_of_length_le (by rw [(shufL_perm 5 _).length_eq]; omega)
  rw [hsm]
  have hperm := shufL_perm 5 (othersL (liveP x1 ps) 7)
  have hmem : ∀ x, x ∈ othersL (liveP x1 ps) 7 ↔ (∃ p ∈ ps, p.id = x ∧ x1 < p.till) ∧ x ≠ 7 := fun x => by
    unfold othersL liveP
    simp only [List.mem_map, List.mem_filter, bne_iff_ne, ne_eq, decide_eq_true_eq]
    constructor
    · rintro ⟨p, ⟨⟨h1, h2⟩, h3⟩, rfl⟩
      exact ⟨⟨p, h1, rfl, h2⟩, h3⟩
    · rintro ⟨⟨p, h1, rfl, h2⟩, h3⟩
      exact ⟨p, ⟨⟨h1, h2⟩, h3⟩, rfl⟩
  refine ⟨by rw [hperm.length_eq]; exact hol, hperm.nodup_iff.2 ?_, fun x hx => ?_, fun he => ?_, fun he x => ?_⟩
  · unfold othersL
    have h2' : ((liveP x1 ps).filter (fun p => p.id != 7)).Pairwise (fun a b => a.id < b.id) := hlp.rise.filter _
    exact List.pairwise_map.2 (h2'.imp fun {a b} hlt => by omega)
  · obtain ⟨⟨p, hp, rfl, _⟩, _⟩ := (hmem x).1 (hperm.mem_iff.1 hx)
    have := h2.ok p hp
    unfold PeerOk at this
    unfold okId
    omega
  · have : othersL (liveP x1 ps) 7 = [] := List.eq_nil_iff_forall_not_mem.2 fun x hx => by
      obtain ⟨⟨p, hp, _, hlt⟩, _⟩ := (hmem x).1 hx
      have := h3 p hp
      omega
    rw [this] at hperm ⊢
    exact hperm.eq_nil
  · rw [hperm.mem_iff, hmem, ← h4]
    simp only [List.mem_map]
    constructor
    · rintro ⟨⟨p, hp, rfl, _⟩, h7⟩
      exact ⟨⟨p, hp, rfl⟩, h7⟩
    · rintro ⟨⟨p, hp, rfl⟩, h7⟩
      exact ⟨⟨p, hp, rfl, by have := h3 p hp; omega⟩, h7⟩

theorem tell_want {K L : List Int} {i : Nat} {x : Int} (hK : ∀ y, y ∈ K ↔ y ∈ L.take i ∧ okId y) (hx : L[i]? = some x) (ho : okId x) : ∀ y, y ∈ x :: K.filter (fun y => !decide (y = x)) ↔ y ∈ L.take (i + 1) ∧ okId y := fun y => by
  rw [List.take_add_one, hx]
  simp only [List.mem_cons, List.mem_filter, hK, Bool.not_eq_true', decide_eq_false_iff_not, Option.toList_some, List.mem_append, List.mem_singleton, List.not_mem_nil, or_false]
  constructor
  · rintro (rfl | ⟨⟨h1, h2⟩, _⟩)
    · exact ⟨.inr rfl, ho⟩
    · exact ⟨.inl h1, h2⟩
  · rintro ⟨h1 | rfl, h2⟩
    · by_cases e : y = x
      · exact .inl e
      · exact .inr ⟨⟨h1, h2⟩, e⟩
    · exact .inl rfl
theorem tell_not {K L : List Int} {i : Nat} {x : Int} (hK : ∀ y, y ∈ K ↔ y ∈ L.take i ∧ okId y) (hx : L[i]? = some x) (ho : ¬ okId x) : ∀ y, y ∈ K ↔ y ∈ L.take (i + 1) ∧ okId y := fun y => by
  rw [List.take_add_one, hx, hK]
  simp only [Option.toList_some, List.mem_append, List.mem_singleton, List.mem_cons, List.not_mem_nil, or_false]
  exact ⟨fun h => ⟨.inl h.1, h.2⟩, fun h => ⟨h.1.elim (fun e => e) (fun e => absurd (e ▸ h.2) ho), h.2⟩⟩
theorem tell_put_len (K : List Int) (x : Int) : (x :: K.filter (fun y => !decide (y = x))).length ≤ K.length + 1 := by
  have := List.length_filter_le (fun y => !decide (y = x)) K
  simp only [List.length_cons]; omega
theorem tell_cut {K S : List Int} {j : Nat} {x : Int} (hK : ∀ y, y ∈ K ↔ y ∈ S.drop j) (hn : S.Nodup) (hx : S[j]? = some x) : x ∈ K ∧ ∀ y, y ∈ K.filter (fun y => !decide (y = x)) ↔ y ∈ S.drop (j + 1) := by
  have hj : j < S.length := (List.getElem?_eq_some_iff.1 hx).1
  have hd : S.drop j = x :: S.drop (j + 1) := by
    rw [List.drop_eq_getElem_cons hj]
    congr 1
    exact (List.getElem?_eq_some_iff.1 hx).2
  have hnd : (x :: S.drop (j + 1)).Nodup := by rw [← hd]; exact hn.sublist (List.drop_sublist _ _)
  refine ⟨(hK x).2 (by rw [hd]; simp), fun y => ?_⟩
  simp only [List.mem_filter, hK, hd, List.mem_cons, Bool.not_eq_true', decide_eq_false_iff_not]
  constructor
  · rintro ⟨h1 | h1, h2⟩
    · exact absurd h1 h2
    · exact h1
  · intro h
    exact ⟨.inr h, fun e => (List.nodup_cons.1 hnd).1 (e ▸ h)⟩

end Go.Proofs.YtnohglkilpnjhaaGreatDoor

/- The walk of the law OriginTells: it answers true. Condition: the table of the hash's constants. -/
namespace Go.Proofs.YtnohglkilpnjhaaGreatDoor
open Go.RowKit
set_option linter.unusedVariables false
set_option linter.unusedSimpArgs false
set_option maxRecDepth 100000

theorem build_ann (w : World) : (Instr.build 37 #[(0, .int .i64 6)]).run Tryz.prog w = .ok (MsgV (mk0 6 dig0) sN) w := by kernel_rfl
theorem OrgP.put_msg {w w' : World} {o g : Nat} {most each life : Int} {S : OrgL} {F : Nat → Prop} {m : MsgL} {s : MsgS} (h : OrgP w o most each life S F) (hm : MsgO w g m s) (hg : w.grownBy w' (some g)) : OrgP w' o most each life S F := by
  refine h.kept ((Kept.refl (fun k => k ≠ g) w).grown hg (fun r e => by cases e; exact fun h => h rfl)) (fun k hk e => ?_) (fun k cur ty f he ht e => ?_)
  · subst e; exact h.cells_ne hk hm.1
  · subst e
    rw [hm.1] at he
    cases he
    rcases ht with h | h | h | h | h <;> exact absurd h (by decide)

/-- What is so behind each announcement. -/
structure TellsI (W : World) (o mp : Nat) (life : Int) (S : OrgL) (F : Nat → Prop) (K : List Int) (w : World) : Prop where
  org : OrgP w o 5 64 life S F
  ok : OrgOk 5 64 S
  own : ∀ k, F k → W.heap.size ≤ k
  off : ¬ F mp
  map : MapL KInt w mp (setM K)
  ge : W.heap.size ≤ mp
  below : Below W.heap.size W w
section
variable {W w w' : World} {o mp : Nat} {life : Int} {S S' : OrgL} {F F' : Nat → Prop} {K K' : List Int}
theorem TellsI.new (h : TellsI W o mp life S F K w) (hb : Below w.heap.size w w') : TellsI W o mp life S F K w' := ⟨h.org.of_new hb, h.ok, h.own, h.off, h.map.of_new hb, h.ge, below_next h.below hb⟩
theorem TellsI.step (h : TellsI W o mp life S F K w) (ho : OrgP w' o 5 64 life S' F') (hk : OrgOk 5 64 S') (hs : OStep F F' w w') : TellsI W o mp life S' F' K w' :=
  ⟨ho, hk, fun k hf => (hs.own k hf).elim (h.own k) (fun e => Nat.le_trans h.below.size e), fun hf => (hs.own mp hf).elim h.off (fun e => by have := h.map.lt; omega), h.map.of_block (hs.kept.block mp h.map.lt h.off), h.ge, hs.below h.below h.below.size h.own⟩
theorem TellsI.put (h : TellsI W o mp life S F K w) (hm : MapL KInt w' mp (setM K')) (hg : w.grownBy w' (some mp)) : TellsI W o mp life S F K' w' :=
  ⟨h.org.kept ((Kept.refl (fun k => k ≠ mp) w).grown hg (fun r e => by cases e; exact fun h => h rfl)) (fun k hk e => h.off (e ▸ hk)) (fun k cur ty f hc _ e => by subst e; obtain ⟨a, c, ho⟩ := h.map.obj; rw [ho] at hc; cases hc), h.ok, h.own, h.off, hm, h.ge, h.below.grown hg h.below.size (fun k e => by cases e; exact h.ge)⟩
theorem TellsI.put_msg {g : Nat} {m : MsgL} {s : MsgS} (h : TellsI W o mp life S F K w) (hm : MsgO w g m s) (hg : w.grownBy w' (some g)) (hge : W.heap.size ≤ g) : TellsI W o mp life S F K w' :=
  ⟨h.org.put_msg hm hg, h.ok, h.own, h.off, h.map.of_block (hg.block mp h.map.lt (fun e => by cases e; obtain ⟨a, c, ho⟩ := h.map.obj; rw [hm.1] at ho; cases ho)), h.ge, h.below.grown hg h.below.size (fun k e => by cases e; exact hge)⟩
end

set_option maxHeartbeats 6400000 in
theorem OriginTells_walk (life : Int) (v : Value) (L : List Int) (x0 x1 : Int) (w : World) (hlife : -9223372036854775808 ≤ life) (hlife' : life ≤ 9223372036854775807) (hL : Ints w v L) (hids : ∀ x ∈ L, -9223372036854775808 ≤ x ∧ x ≤ 9223372036854775807) (hx0 : -9223372036854775808 ≤ x0) (hx0' : x0 ≤ 9223372036854775807) (hx1 : -9223372036854775808 ≤ x1) (hx1' : x1 ≤ 9223372036854775807) (hKc : Consts w) :
    Calls Tryz.prog 5 #[.int .i64 life, v, .agg #[.int .i64 x0, .int .i64 x1]] w fun e w' => e = .returned (.bool true) ∧ Below w.heap.size w w' := by
  obtain ⟨va, vc, hv⟩ := hL.len
  subst hv
  have hle := hL.le
  clear hlife hlife'
  obtain ⟨W, hW⟩ : ∃ W, w.alloc (.cells #[.int .i64 x0, .int .i64 x1] 59) = W := ⟨_, rfl⟩
  have hb : Below w.heap.size w W := by rw [← hW]; exact (Below.refl _ w).alloc (Nat.le_refl _) _
  have hg0 : W.cell? ⟨w.heap.size, 0, none⟩ = some (.int .i64 x0) := by rw [← hW]; simp only [World.cell?, heap_alloc_new]; rfl
  have hg1 : W.cell? ⟨w.heap.size, 1, none⟩ = some (.int .i64 x1) := by rw [← hW]; simp only [World.cell?, heap_alloc_new]; rfl
  have HL := Lib.hid (hL.of_new hb)
  have HKC := Lib.hid (hKc.of_new hb)
  have HIDS := Lib.hid hids
  have HB := Lib.hid hb
  have HG0 := Lib.hid hg0
  have HG1 := Lib.hid hg1
  have HW := Lib.hid hW
  clear hL hW hb hg0 hg1 hKc hids
  go_enter Tryz.func5, Tryz.ntmps5
  go_upto_region 1 with (fail)
  rw [HW.out]
  obtain ⟨g, hg⟩ : ∃ g, w.heap.size = g := ⟨_, rfl⟩
  have HG := Lib.hid hg
  rw [hg] at HG0 HG1 ⊢
  clear hg
  go_upto_region 2 with (go_at_call 9; refine (oawake_any _ HKC.out).mono ?_; rintro e w1 ⟨rfl, hb1⟩; have HB1 := Lib.hid hb1; clear hb1)
  cases hok : orgOk 5 64 life with
  | false =>
    go_upto_region 3 with (go_at_call 11; refine (ONew_bad 5 64 life _ hok).mono ?_; rintro e w2 ⟨rfl, hb2⟩; have HB2 := Lib.hid (below_next HB1.out hb2); clear hb2)
    go_wp2
    go_ret
    exact ⟨rfl, below_next (HG.out ▸ HB.out) HB2.out⟩
  | true =>
    have HLF := Lib.hid (orgOk_iff.1 hok).2
    go_upto_region 3 with (go_at_call 11; refine (ONew_ok 5 64 life _ hok).mono ?_; rintro e w2 ⟨o, F0, rfl, ho2, hf2, hb2⟩; have HO2 := Lib.hid ho2; have HF2 := Lib.hid (fun k hk => Nat.le_trans HB1.out.size (hf2 k hk)); have HB2 := Lib.hid (below_next HB1.out hb2); clear ho2 hf2 hb2)
    have c0 := Grew.cell HB2.out HG0.out
    have c1 := Grew.cell HB2.out HG1.out
    have hc : (8 : Int) < (L.length : Int) ∨ (¬ (8 : Int) < (L.length : Int) ∧ x0 < 0) ∨ (¬ (8 : Int) < (L.length : Int) ∧ ¬ x0 < 0 ∧ (1073741824 : Int) < x0) ∨ (¬ (8 : Int) < (L.length : Int) ∧ ¬ x0 < 0 ∧ ¬ (1073741824 : Int) < x0 ∧ x1 < 0) ∨ (¬ (8 : Int) < (L.length : Int) ∧ ¬ x0 < 0 ∧ ¬ (1073741824 : Int) < x0 ∧ ¬ x1 < 0 ∧ (1073741824 : Int) < x1) ∨ (¬ (8 : Int) < (L.length : Int) ∧ ¬ x0 < 0 ∧ ¬ (1073741824 : Int) < x0 ∧ ¬ x1 < 0 ∧ ¬ (1073741824 : Int) < x1) := by omega
    rcases hc with q1 | ⟨q1, q2⟩ | ⟨q1, q2, q3⟩ | ⟨q1, q2, q3, q4⟩ | ⟨q1, q2, q3, q4, q5⟩ | ⟨q1, q2, q3, q4, q5⟩
    case inr.inr.inr.inr.inr =>
      have hmm := @run_makeMap Tryz.prog
      go_upto_region 6 with (fail)
      obtain ⟨w3, hw3⟩ : ∃ w3, w2.alloc (.map #[] 0) = w3 := ⟨_, rfl⟩
      have hb3 : Below w2.heap.size w2 w3 := by rw [← hw3]; exact (Below.refl _ w2).alloc (Nat.le_refl _) _
      have HI3 := Lib.hid (show TellsI W o w2.heap.size life OrgL.zero F0 [] w3 from ⟨HO2.out.of_new hb3, OrgOk.zero (by omega), HF2.out, fun hf => absurd (HO2.out.lt hf) (Nat.lt_irrefl _), by rw [← hw3]; exact mapL_made w2, HB2.out.size, below_next HB2.out hb3⟩)
      rw [hw3]
      obtain ⟨mp, hmp⟩ : ∃ mp, w2.heap.size = mp := ⟨_, rfl⟩
      rw [hmp] at HI3 ⊢
      clear hw3 hmp hmm hb3 c0 c1
      have hl8 : L.length ≤ 8 := by omega
      have hbm := build_ann
      go_wp2
      go_loopw [11, 12, 13, 14] (fun iv _ _ _ W' => ∃ (i : Nat) (S : OrgL) (F : Nat → Prop) (K : List Int), i ≤ L.length ∧ iv = .int .i64 (i : Int) ∧ TellsI W o mp life S F K W' ∧ TellI (x0 + life) (L.take i) S.tab ∧ K.length ≤ i ∧ (∀ x, x ∈ K ↔ x ∈ L.take i ∧ okId x)) (fun iv _ _ _ _ => L.length - (intOf iv).toNat)
      case atStart => exact ⟨0, OrgL.zero, F0, [], Nat.zero_le _, rfl, HI3.out, TellI.nil _, Nat.le_refl _, fun x => by simp⟩
      case round =>
        rename World => w4
        obtain ⟨i, S, F, K, hi, rfl, hI, hT, hK, hKm⟩ := hrel
        have HI4 := Lib.hid hI
        have HT4 := Lib.hid hT
        have HK4 := Lib.hid hK
        have HKM4 := Lib.hid hKm
        clear hI hT hK hKm
        by_cases hlt : i < L.length
        case pos =>
          have hii : (i : Int) < (L.length : Int) := by omega
          obtain ⟨b, off, c', hv, hbl, hcl⟩ := HL.out.cell (by omega)
          obtain ⟨rfl, rfl⟩ : va = some ⟨b, off, none⟩ ∧ vc = c' := by cases hv; exact ⟨rfl, rfl⟩
          obtain ⟨x, hx⟩ : ∃ x, L[i]? = some x := ⟨_, List.getElem?_eq_getElem hlt⟩
          have hci := hcl i hlt
          rw [show L.getD i 0 = x by simp [List.getD, hx]] at hci
          have HCI := Lib.hid hci
          have HX := Lib.hid hx
          have hxb := HIDS.out x (List.mem_of_getElem? hx)
          clear hv hcl hci hx hbl
          go_upto_region 9 with (fail)
          have c1 := fun w' (h : Grew W w') => Grew.cell h HCI.out
          have c2 := fun w' (h : Grew W w') => Grew.cell h HG0.out
          refine (wpIn_wide (n := 5)).1 ?_
          refine wpIn_region_stepsW (ro := none) (Grew W) [9, 10, 11, 12, 14, 15, 16] [0, 1, 2, 3, 4, 5, 6, 7] 9 (by kernel_rfl) (by kernel_rfl) (below_next HI4.out.below (Grew.start _)) (fun c a d v w h => by cases d <;> exact h) ?_
          simp only [opsAt, List.flatMap_cons, List.flatMap_nil, List.getElem?_cons_zero, List.getElem?_cons_succ, Option.toList_some, List.cons_append, List.nil_append]
          go_simp
          obtain ⟨w5, hw5⟩ : ∃ w5, w4.drew = w5 := ⟨_, rfl⟩
          have HI5 := Lib.hid (show TellsI W o mp life S F K w5 from HI4.out.new (by rw [← hw5]; exact Grew.start w4))
          rw [hw5]
          clear hw5
          repeat (first
            | (go_big_quiet_want; (with_reducible apply quiet_load_at (ty := 31) (x := .tmp _)); rfl; rfl; assumption; go_simp; go_big_quiet_on)
            | (go_big_quiet_want; apply quiet_val; (intro w' hw'; go_simp; first | done | rfl); go_simp; go_big_quiet_on)
            | (go_big_quiet_skip))
          refine wpQuiet_nil ?_
          clear c1 c2
          have hst := tell_step HT4.out (id := x) (by rw [List.length_take]; omega) (now := x0) (life := life) (by omega) HLF.out
          rw [← take_snoc_at HX.out] at hst
          have HOT := Lib.hid (fun W' h1 h2 => OTake_any o 5 64 life S F x x0 (mk0 6 dig0) sN 0 W' h1 HI5.out.ok (by omega) (by omega) (msgR_0 W' 6 rfl) (mk0_ok (by unfold inI64; omega)) (by omega) h2)
          have hok2 := HI5.out.ok.take (by omega) (by omega) (m := mk0 6 dig0) rfl life x x0 0
          obtain ⟨R, hR⟩ : ∃ R, takeO S 5 64 life x x0 (mk0 6 dig0) 0 = R := ⟨_, rfl⟩
          have HOT := HOT.out
          rw [hR] at hst hok2 HOT
          have HOT := Lib.hid HOT
          have HST := Lib.hid hst
          have HOK := Lib.hid hok2
          clear hst hok2 hR
          refine wpAnyS_two (by kernel_rfl) 8 13 rfl rfl rfl rfl (by kernel_rfl) ?_ ?_
          · unfold StepS
            refine (wp_enter (f := 13) (args := #[.pointer (some ⟨o, 0, none⟩), .int .i64 x, .int .i64 x0, MsgV (mk0 6 dig0) sN, .int .u64 0]) (by go_simp <;> rfl) (HOT.out w5 HI5.out.org (HKC.out.of_new HI5.out.below)) ?_)
            unfold TakePost
            rintro e w6 ⟨F6, s6, rfl, hr6, ho6, hs6, -⟩
            have HI6 := Lib.hid (HI5.out.step ho6 HOK.out hs6)
            have HR6 := Lib.hid hr6
            clear hr6 ho6 hs6
            refine ⟨_, rfl, HI6.out.below, ?_⟩
            refine wpAnyS_pure (by kernel_rfl) (by kernel_rfl) (fun c a d v w h => by cases d <;> exact h) 9 rfl (by kernel_rfl) ?_
            apply quiet_val
            · intro w' hw'; go_simp; first | done | rfl
            go_simp
            refine wpAnyS_pure (by kernel_rfl) (by kernel_rfl) (fun c a d v w h => by cases d <;> exact h) 10 rfl (by kernel_rfl) ?_
            apply quiet_val
            · intro w' hw'; go_simp; first | done | rfl
            go_simp
            refine wpAnyS_pure (by kernel_rfl) (by kernel_rfl) (fun c a d v w h => by cases d <;> exact h) 11 rfl (by kernel_rfl) ?_
            apply quiet_val
            · intro w' hw'; go_simp; first | done | rfl
            go_simp
            refine wpAnyS_pure (by kernel_rfl) (by kernel_rfl) (fun c a d v w h => by cases d <;> exact h) 12 rfl (by kernel_rfl) ?_
            apply quiet_val
            · intro w' hw'; go_simp; first | done | rfl
            go_simp
            refine wpAnyS_one (by kernel_rfl) 13 rfl rfl (by kernel_rfl) ?_
            unfold StepS
            refine wp_alloc_msg rfl fun w7 hf7 hb7 hs7 => ?_
            have HI7 := Lib.hid (HI6.out.new hb7)
            have HR7 := Lib.hid (HR6.out.of_new hb7)
            have HO7 := Lib.hid hf7.o
            have HGE := Lib.hid HI6.out.below.size
            refine ⟨HI7.out.below, ?_⟩
            obtain ⟨g7, hg7⟩ : ∃ g, w6.heap.size = g := ⟨_, rfl⟩
            rw [hg7] at HO7 HGE ⊢
            clear hg7 hf7 hb7 hs7
            refine wpAnyS_restI (fun _ _ => trivial) [14, 15, 16] _ _ _ (by decide) (by kernel_rfl) ?_
            simp only [opsAt, List.flatMap_cons, List.flatMap_nil, List.getElem?_cons_zero, List.getElem?_cons_succ, Option.toList_some, List.cons_append, List.nil_append]
            refine wpListIn_of_wp (ro := none) rfl (fun c hc => by cases hc) (wp_store_msg (.tmp 12) (.tmp 86) g7 R.2.1 msgZ s6 sN rfl rfl rfl HR7.out HO7.out ?_)
            intro w8 ho8 hg8 hs8
            have HI8 := Lib.hid (HI7.out.put_msg HO7.out hg8 HGE.out)
            clear ho8 hg8 hs8
            simp only [Act.put]
            rw [wF_none]
            gi_wp2
            have hc8 := Grew.cell HI8.out.below HCI.out
            obtain ⟨S8, hS8⟩ : ∃ S8, R.1 = S8 := ⟨_, rfl⟩
            obtain ⟨er, her⟩ : ∃ er, R.2.2.2 = er := ⟨_, rfl⟩
            have HS := HST.out
            rw [hS8, her] at HS
            have HS8 := Lib.hid HS.1
            have hif := HS.2
            rw [hS8] at HI8
            rw [her]
            clear HS hS8 her
            by_cases hox : okId x
            · rw [if_pos hox] at hif
              subst hif
              obtain ⟨w9, hput, hm9, hg9, hs9⟩ := HI8.out.map.put (t := 60) Tryz.underlying60 (KT := KInt) (x := x) hxb (.bool true) (by rw [setM_len]; have := HK4.out; omega)
              replace hput : (Instr.mapUpdate 60 (.map (some mp)) (.int .i64 x) (.bool true)).run Tryz.prog w8 = .ok () w9 := hput
              rw [setM_put] at hm9
              have HI9 := Lib.hid (HI8.out.put hm9 hg9)
              have HW9 := Lib.hid (tell_want HKM4.out HX.out hox)
              clear hm9 hg9 hs9
              go_wp2
              go_roundw
              case rel => exact ⟨i + 1, S8, F6, _, by omega, by go_num, HI9.out, HS8.out, by have := tell_put_len K x; have := HK4.out; omega, HW9.out⟩
              case measure => simp [intOf]; omega
            · rw [if_neg hox] at hif
              subst hif
              have HW9 := Lib.hid (tell_not HKM4.out HX.out hox)
              go_wp2
              go_roundw
              case rel => exact ⟨i + 1, S8, F6, K, by omega, by go_num, HI8.out, HS8.out, by have := HK4.out; omega, HW9.out⟩
              case measure => simp [intOf]; omega
          · unfold StepS
            refine wp_alloc_msg rfl fun w6 hf6 hb6 hs6 => ?_
            have HI6 := Lib.hid (HI5.out.new hb6)
            have HO6 := Lib.hid hf6.o
            have HGE := Lib.hid HI5.out.below.size
            have HNF := Lib.hid (show ¬ F w5.heap.size from fun hf => absurd (HI5.out.org.lt hf) (Nat.lt_irrefl _))
            refine ⟨HI6.out.below, ?_⟩
            obtain ⟨g7, hg7⟩ : ∃ g, w5.heap.size = g := ⟨_, rfl⟩
            rw [hg7] at HO6 HGE HNF ⊢
            clear hg7 hf6 hb6 hs6
            refine wpAnyS_one (by kernel_rfl) 8 rfl rfl (by kernel_rfl) ?_
            unfold StepS
            refine (wp_enter (f := 13) (args := #[.pointer (some ⟨o, 0, none⟩), .int .i64 x, .int .i64 x0, MsgV (mk0 6 dig0) sN, .int .u64 0]) (by go_simp <;> rfl) (HOT.out w6 HI6.out.org (HKC.out.of_new HI6.out.below)) ?_)
            unfold TakePost
            rintro e w7 ⟨F6, s6, rfl, hr7, ho7, hs7, -⟩
            have HI7 := Lib.hid (HI6.out.step ho7 HOK.out hs7)
            have HR7 := Lib.hid hr7
            have HO7 := Lib.hid (HO6.out.of_block (hs7.kept.block g7 HO6.out.lt HNF.out))
            clear hr7 ho7 hs7
            refine ⟨_, rfl, HI7.out.below, ?_⟩
            refine wpAnyS_pure (by kernel_rfl) (by kernel_rfl) (fun c a d v w h => by cases d <;> exact h) 9 rfl (by kernel_rfl) ?_
            apply quiet_val
            · intro w' hw'; go_simp; first | done | rfl
            go_simp
            refine wpAnyS_pure (by kernel_rfl) (by kernel_rfl) (fun c a d v w h => by cases d <;> exact h) 10 rfl (by kernel_rfl) ?_
            apply quiet_val
            · intro w' hw'; go_simp; first | done | rfl
            go_simp
            refine wpAnyS_pure (by kernel_rfl) (by kernel_rfl) (fun c a d v w h => by cases d <;> exact h) 11 rfl (by kernel_rfl) ?_
            apply quiet_val
            · intro w' hw'; go_simp; first | done | rfl
            go_simp
            refine wpAnyS_pure (by kernel_rfl) (by kernel_rfl) (fun c a d v w h => by cases d <;> exact h) 12 rfl (by kernel_rfl) ?_
            apply quiet_val
            · intro w' hw'; go_simp; first | done | rfl
            go_simp
            refine wpAnyS_restI (fun _ _ => trivial) [14, 15, 16] _ _ _ (by decide) (by kernel_rfl) ?_
            simp only [opsAt, List.flatMap_cons, List.flatMap_nil, List.getElem?_cons_zero, List.getElem?_cons_succ, Option.toList_some, List.cons_append, List.nil_append]
            refine wpListIn_of_wp (ro := none) rfl (fun c hc => by cases hc) (wp_store_msg (.tmp 12) (.tmp 86) g7 R.2.1 msgZ s6 sN rfl rfl rfl HR7.out HO7.out ?_)
            intro w8 ho8 hg8 hs8
            have HI8 := Lib.hid (HI7.out.put_msg HO7.out hg8 HGE.out)
            clear ho8 hg8 hs8
            simp only [Act.put]
            rw [wF_none]
            gi_wp2
            have hc8 := Grew.cell HI8.out.below HCI.out
            obtain ⟨S8, hS8⟩ : ∃ S8, R.1 = S8 := ⟨_, rfl⟩
            obtain ⟨er, her⟩ : ∃ er, R.2.2.2 = er := ⟨_, rfl⟩
            have HS := HST.out
            rw [hS8, her] at HS
            have HS8 := Lib.hid HS.1
            have hif := HS.2
            rw [hS8] at HI8
            rw [her]
            clear HS hS8 her
            by_cases hox : okId x
            · rw [if_pos hox] at hif
              subst hif
              obtain ⟨w9, hput, hm9, hg9, hs9⟩ := HI8.out.map.put (t := 60) Tryz.underlying60 (KT := KInt) (x := x) hxb (.bool true) (by rw [setM_len]; have := HK4.out; omega)
              replace hput : (Instr.mapUpdate 60 (.map (some mp)) (.int .i64 x) (.bool true)).run Tryz.prog w8 = .ok () w9 := hput
              rw [setM_put] at hm9
              have HI9 := Lib.hid (HI8.out.put hm9 hg9)
              have HW9 := Lib.hid (tell_want HKM4.out HX.out hox)
              clear hm9 hg9 hs9
              go_wp2
              go_roundw
              case rel => exact ⟨i + 1, S8, F6, _, by omega, by go_num, HI9.out, HS8.out, by have := tell_put_len K x; have := HK4.out; omega, HW9.out⟩
              case measure => simp [intOf]; omega
            · rw [if_neg hox] at hif
              subst hif
              have HW9 := Lib.hid (tell_not HKM4.out HX.out hox)
              go_wp2
              go_roundw
              case rel => exact ⟨i + 1, S8, F6, K, by omega, by go_num, HI8.out, HS8.out, by have := HK4.out; omega, HW9.out⟩
              case measure => simp [intOf]; omega
        obtain rfl : i = L.length := by omega
        rw [List.take_length] at HT4
        have hkm := HKM4.out
        rw [List.take_length] at hkm
        have HKM := Lib.hid hkm
        have hii : ¬ (L.length : Int) < (L.length : Int) := by omega
        have c1 := Grew.cell HI4.out.below HG1.out
        obtain ⟨ids, htk, hlen, hnd, hok, hov, hmem⟩ := tell_end HT4.out (by omega) (x1 := x1) (by omega) (by omega) HLF.out
        have hkT := HI4.out.ok.tick x1
        have hTi := OTick_any o 5 64 life S F x1 w4 HI4.out.org HI4.out.ok (by omega) (by omega)
        obtain ⟨S1, hS1⟩ : ∃ S1, (tickL S x1).1 = S1 := ⟨_, rfl⟩
        rw [hS1] at htk hkT hTi
        obtain ⟨S2, hS2⟩ : ∃ S2, takeO S1 5 64 life 7 x1 (mk0 6 dig0) 5 = (S2, { mk0 7 dig0 with ids := ids }, true, 0) := ⟨_, Prod.ext rfl htk⟩
        have HTI := Lib.hid hTi
        have HKT := Lib.hid hkT
        have HS2 := Lib.hid hS2
        have HLEN := Lib.hid hlen
        have HND := Lib.hid hnd
        have HOKI := Lib.hid hok
        have HOV := Lib.hid hov
        have HMEM := Lib.hid hmem
        clear hkm htk hlen hnd hok hov hmem hkT hTi hS1 hS2
        go_upto_region 13 with (go_at_call 21; refine HTI.out.mono ?_; rintro e w5 ⟨F5, rfl, ho5, hs5⟩; have HI5 := Lib.hid (HI4.out.step ho5 HKT.out hs5); clear ho5 hs5)
        have c1 := Grew.cell HI5.out.below HG1.out
        have hT := fun W h1 h2 => OTake_any o 5 64 life S1 F5 7 x1 (mk0 6 dig0) sN 5 W h1 HKT.out (by omega) (by omega) (msgR_0 W 6 rfl) (mk0_ok (by unfold inI64; omega)) (by omega) h2
        rw [HS2.out] at hT
        have HT := Lib.hid hT
        have hk2 := HKT.out.take (by omega) (by omega) (m := mk0 6 dig0) rfl life 7 x1 5
        rw [HS2.out] at hk2
        have HK2 := Lib.hid hk2
        clear hT hk2
        go_upto_region 14 with (first
          | (go_at_call 13; refine (HT.out _ HI5.out.org (HKC.out.of_new HI5.out.below)).mono ?_; unfold TakePost; rintro e w6 ⟨F6, s6, rfl, hr6, ho6, hs6, -⟩; have HR6 := Lib.hid hr6; have HI6 := Lib.hid (HI5.out.step ho6 HK2.out hs6); clear hr6 ho6 hs6)
          | ((with_reducible refine wpList_plain (o := ⟨some 15, Op.alloc _, _, _, _, _⟩) rfl fun K hK => ?_); (refine wp_alloc_msg rfl fun w7 ho7 hb7 hs7 => hK _ _ ?_); have HO7 := Lib.hid ho7.o; have HI7 := Lib.hid (HI6.out.new hb7); have HR7 := Lib.hid (HR6.out.of_new hb7); have HB7 := Lib.hid hb7; clear ho7 hb7 hs7)
          | ((with_reducible refine wpList_plain (o := ⟨none, Op.store _ (.tmp 15) (.tmp 106), _, _, _, _⟩) rfl fun K hK => ?_); (refine wp_store_msg (.tmp 15) (.tmp 106) w6.heap.size _ msgZ s6 sN rfl rfl rfl HR7.out HO7.out fun w8 ho8 hg8 hs8 => hK _ _ ?_); have HO8 := Lib.hid ho8; have HI8 := Lib.hid (HI7.out.put_msg HO7.out hg8 HI6.out.below.size); have HR8 := Lib.hid (HR6.out.of_new (HB7.out.grown hg8 HB7.out.size (fun k e => by cases e; exact Nat.le_refl _))); clear ho8 hg8 hs8))
        obtain ⟨gm, hgm⟩ : ∃ g, w6.heap.size = g := ⟨_, rfl⟩
        rw [hgm] at HO8 ⊢
        clear hgm
        have hk8 := HO8.out.kind
        rw [show (({ mk0 7 dig0 with ids := ids } : MsgL)).kind = 7 from rfl] at hk8
        obtain ⟨ia, ic, hiv⟩ := HR8.out.ids.len
        rw [show (({ mk0 7 dig0 with ids := ids } : MsgL)).ids = ids from rfl] at hiv
        have hi8 := HO8.out.ids
        rw [hiv] at hi8
        have HIR := Lib.hid (hiv ▸ HR8.out.ids)
        have HI8I := Lib.hid hi8
        clear hiv hi8
        go_upto_region 16 with (fail)
        obtain ⟨w9, hdel, hm9, hg9, hs9⟩ := HI8.out.map.del (t := 60) Tryz.underlying60 (KT := KInt) (x := 7) (show _ ∧ _ by omega) 0
        replace hdel : (Builtin.delete_ #[60, 3] 0 #[.map (some mp), .int .i64 7]).run Tryz.prog w8 = .ok (.tuple #[]) w9 := hdel
        rw [setM_del] at hm9
        have HI9 := Lib.hid (HI8.out.put hm9 hg9)
        have hkp9 : Kept (fun k => k ≠ mp) w8 w9 := (Kept.refl _ w8).grown hg9 (fun r e => by cases e; exact fun h => h rfl)
        have hne : gm ≠ mp := fun e => by
          subst e
          obtain ⟨a, c, ho⟩ := HI8.out.map.obj
          have h0 := HO8.out.1
          rw [ho] at h0
          cases h0
        have HNE := Lib.hid hne
        have HKP9 := Lib.hid hkp9
        clear hm9 hg9 hs9 hkp9 hne
        go_upto_region 17 with (fail)
        clear hdel hk8
        have hi9 : w9.cell? ⟨gm, 34, none⟩ = some (.slice ia ids.length ic) := (HKP9.out.cell (p := ⟨gm, 34, none⟩) HO8.out.lt HNE.out).trans HI8I.out
        have d0 := Grew.cell HI9.out.below HG0.out
        have d1 := Grew.cell HI9.out.below HG1.out
        by_cases hvo : x0 + life ≤ x1
        · have hnil := HOV.out hvo
          rw [hnil, List.length_nil] at hi9
          have hlf := HLF.out
          go_wp2
          go_ret
          exact ⟨rfl, below_next (HG.out ▸ HB.out) HI9.out.below⟩
        have hlf := HLF.out
        have hvo2 : ¬ (x0 + life ≤ x1) := hvo
        have HMEM := Lib.hid (HMEM.out (by omega))
        have hln := HLEN.out
        obtain ⟨n, hn⟩ : ∃ n, ids.length = n := ⟨_, rfl⟩
        have HN := Lib.hid hn
        rw [hn] at hi9 hln HI8I
        clear hn
        go_wp2
        go_loopw [18] (fun jv W' => ∃ (j : Nat) (K2 : List Int), j ≤ n ∧ jv = .int .i64 (j : Int) ∧ TellsI W o mp life S2 F6 K2 W' ∧ Kept (fun k => k ≠ mp) w8 W' ∧ (∀ x, x ∈ K2 ↔ x ∈ ids.drop j)) (fun jv _ => n - (intOf jv).toNat)
        case atStart => exact ⟨0, _, Nat.zero_le _, rfl, HI9.out, HKP9.out, fun x => by rw [List.drop_zero, HMEM.out, List.mem_filter, HKM.out]; simp⟩
        case round =>
          rename World => w10
          obtain ⟨j, K2, hj, rfl, hI, hkp, hK2⟩ := hrel
          have hi10 : w10.cell? ⟨gm, 34, none⟩ = some (.slice ia n ic) := (hkp.cell (p := ⟨gm, 34, none⟩) HO8.out.lt HNE.out).trans HI8I.out
          have HI10 := Lib.hid hI
          have HKP := Lib.hid hkp
          have HK2 := Lib.hid hK2
          clear hI hkp hK2
          by_cases hlj : j < n
          case pos =>
            have hjj : (j : Int) < (n : Int) := by omega
            obtain ⟨sb, soff, c', hv, hsbl, hsc⟩ := HIR.out.cell (by show 0 < ids.length; rw [HN.out]; omega)
            obtain ⟨rfl, rfl⟩ : ia = some ⟨sb, soff, none⟩ ∧ ic = c' := by cases hv; exact ⟨rfl, rfl⟩
            obtain ⟨y, hy⟩ : ∃ y, ids[j]? = some y := ⟨_, List.getElem?_eq_getElem (by rw [HN.out]; exact hlj)⟩
            have hne : sb ≠ mp := fun e => by
              subst e
              obtain ⟨ma, mc, hmo⟩ := HI8.out.map.obj
              have h0 := hsc j (by show j < ids.length; rw [HN.out]; exact hlj)
              simp [World.cell?, hmo] at h0
            have hcj := (HKP.out.cell (p := ⟨sb, soff + j, none⟩) hsbl hne).trans (hsc j (by show j < ids.length; rw [HN.out]; exact hlj))
            rw [show (({ mk0 7 dig0 with ids := ids } : MsgL)).ids.getD j 0 = y by show ids.getD j 0 = y; simp [List.getD, hy]] at hcj
            obtain ⟨hyK, hcut⟩ := tell_cut HK2.out HND.out hy
            have hyb := HOKI.out y (List.mem_of_getElem? hy)
            unfold okId at hyb
            have hlk := HI10.out.map.look (t := 60) Tryz.underlying60 (Tryz.zeroValue4 w10) (KT := KInt) (x := y) (show _ ∧ _ by omega)
            rw [setM_get, decide_eq_true hyK] at hlk
            replace hlk : (Instr.lookup 60 (.map (some mp)) (.int .i64 y) false).run Tryz.prog w10 = .ok (.bool true) w10 := hlk
            obtain ⟨w11, hdel, hm11, hg11, hs11⟩ := HI10.out.map.del (t := 60) Tryz.underlying60 (KT := KInt) (x := y) (show _ ∧ _ by omega) 0
            replace hdel : (Builtin.delete_ #[60, 3] 0 #[.map (some mp), .int .i64 y]).run Tryz.prog w10 = .ok (.tuple #[]) w11 := hdel
            rw [setM_del] at hm11
            have HI11 := Lib.hid (HI10.out.put hm11 hg11)
            have HKP11 := Lib.hid (HKP.out.grown hg11 (fun q e => by cases e; exact fun h => h rfl))
            have HCUT := Lib.hid hcut
            clear hv hsc hy hyK hcut hm11 hg11 hs11 hne hsbl
            go_wp2
            go_roundw
            case rel => exact ⟨j + 1, _, by omega, by go_num, HI11.out, HKP11.out, HCUT.out⟩
            case measure => simp [intOf]; omega
          obtain rfl : j = n := by omega
          have hjj : ¬ (j : Int) < (j : Int) := by omega
          have hnil : K2 = [] := List.eq_nil_iff_forall_not_mem.2 fun x hx => by
            have := (HK2.out x).1 hx
            rw [← HN.out, List.drop_length] at this
            cases this
          subst hnil
          have hlenM := fun ty => HI10.out.map.len (t := 60) Tryz.underlying60 ty
          rw [setM_len, List.length_nil] at hlenM
          go_wp2
          go_ret
          exact ⟨rfl, below_next (HG.out ▸ HB.out) HI10.out.below⟩
    all_goals
      go_wp2
      go_ret
      exact ⟨rfl, below_next (HG.out ▸ HB.out) HB2.out⟩

end Go.Proofs.YtnohglkilpnjhaaGreatDoor

/- The walks of wire.put, one for each kind of item. Condition: no more than 2^20 bytes. -/
import Derived.Test.YtnomekfemadpeaaWrOne
import Derived.Test.YtnomekfemadpeaaWrMsgF
namespace Go.Proofs.Ytnomekfemadpeaa
open Go.RowKit Go.Shelf
attribute [local go_sem] Oper.semAt_some
set_option linter.unusedVariables false
set_option linter.unusedSimpArgs false
set_option maxRecDepth 100000

/-- The message's slices lie no lower than L. -/
def Hi (L : Nat) (s : MsgS) : Prop := (∀ k, s.vi.ownBlock = some k → L ≤ k) ∧ (∀ k, s.vb.ownBlock = some k → L ≤ k) ∧ (∀ k, s.vp.ownBlock = some k → L ≤ k) ∧ ∀ k, s.vm.ownBlock = some k → L ≤ k
/-- What put leaves. -/
def PutPost (w : World) (g : Nat) (i : Int) (s : MsgS) (v : Value) (fine : Bool) (m2 : MsgL) (e : Ending) (w' : World) : Prop :=
  e = .returned (.bool fine) ∧ Kept (fun k => k ≠ g) w w' ∧ (fine = true → ∃ s2, MsgF w' g m2 s2 ∧ (i ≠ 6 → s2.vp = s.vp) ∧ (i ≠ 7 → s2.vm = s.vm) ∧ ∀ L, L ≤ w.heap.size → Hi L s → (∀ k, v.ownBlock = some k → L ≤ k) → Hi L s2)

set_option maxHeartbeats 1600000 in
theorem put_piece (g : Nat) (m : MsgL) (s : MsgS) (v : Value) (b : List UInt8) (w : World) (hF : MsgF w g m s) (hl : Bytes w v b) (hlen : b.length ≤ 1048576) :
    Calls Try.prog 33 #[.pointer (some ⟨g, 0, none⟩), .int .i64 3, v] w (PutPost w g 3 s v (oneL b).isSome { m with piece := (oneL b).getD 0 }) := by
  have h1 := one_any v b w hl hlen
  obtain ⟨va, vc, hv⟩ := hl.len
  subst hv
  obtain ⟨O, hO⟩ : ∃ O, oneL b = O := ⟨_, rfl⟩
  rw [hO] at h1 ⊢
  have HF := Lib.hid hF
  clear hO hl hF
  go_enter Try.func33, Try.ntmps33
  go_wp2_with fail
  refine h1.mono ?_
  rintro e w2 ⟨rfl, hb2⟩
  have HF2 := HF.out.of_new hb2
  have hf := HF2.free 33
  have hc := HF2.o.piece
  go_wp2
  go_ret
  exact ⟨rfl, ((Kept.refl _ w).below hb2).setCell (p := ⟨g, 33, none⟩) (fun h => h rfl) _, fun _ => ⟨_, HF2.setPiece _, fun _ => rfl, fun _ => rfl, fun L _ h _ => h⟩⟩

set_option maxHeartbeats 1600000 in
theorem put_bytes (g : Nat) (m : MsgL) (s : MsgS) (v : Value) (b : List UInt8) (w : World) (hF : MsgF w g m s) (hl : Bytes w v b) (hv : Off w g v) :
    Calls Try.prog 33 #[.pointer (some ⟨g, 0, none⟩), .int .i64 5, v] w (PutPost w g 5 s v true { m with bytes := b }) := by
  obtain ⟨va, vc, rfl⟩ := hl.len
  have hf := hF.free 35
  have hc := hF.o.bytes
  have HF := Lib.hid hF
  have HV := Lib.hid hv
  have HL := Lib.hid hl
  clear hl hF hv
  go_enter Try.func33, Try.ntmps33
  go_wp2
  go_ret
  exact ⟨rfl, (Kept.refl _ w).setCell (p := ⟨g, 35, none⟩) (fun h => h rfl) _, fun _ => ⟨_, HF.out.setBytes _ _ HL.out HV.out, fun _ => rfl, fun _ => rfl, fun L _ h hv => ⟨h.1, hv, h.2.2⟩⟩⟩

set_option maxHeartbeats 1600000 in
theorem put_ids (g : Nat) (m : MsgL) (s : MsgS) (v : Value) (b : List UInt8) (w : World) (hF : MsgF w g m s) (hl : Bytes w v b) (hlen : b.length ≤ 1048576) :
    Calls Try.prog 33 #[.pointer (some ⟨g, 0, none⟩), .int .i64 4, v] w (PutPost w g 4 s v true { m with ids := numsL b }) := by
  obtain ⟨va, vc, hv⟩ := hl.len
  subst hv
  have hcl := collNums_any va vc b w hl hlen
  have hn := numbers_any va b.length vc w
  obtain ⟨L, hL⟩ : ∃ L, numsL b = L := ⟨_, rfl⟩
  rw [hL] at hcl ⊢
  have HF := Lib.hid hF
  have hg := hF.o.lt
  clear hl hF hL
  go_enter Try.func33, Try.ntmps33
  go_wp2_with fail
  refine hn.mono ?_
  rintro e w2 ⟨rfl, rfl⟩
  go_wp2_with fail
  refine hcl.mono ?_
  rintro e w4 ⟨v4, rfl, ho4, hb4⟩
  have HF4 := HF.out.of_new hb4
  have hf := HF4.free 34
  have hc := HF4.o.ids
  have hlt := ho4.lt
  obtain ⟨a4, c4, hv4⟩ := ho4.ints.len
  subst hv4
  have HLT := Lib.hid hlt
  have HO4 := Lib.hid ho4
  clear hlt ho4
  go_wp2
  go_ret
  exact ⟨rfl, ((Kept.refl _ w).below hb4).setCell (p := ⟨g, 34, none⟩) (fun h => h rfl) _, fun _ => ⟨_, HF4.setIds _ _ HO4.out.ints (fun k hk => ⟨by have := (HLT.out k hk).1; omega, (HLT.out k hk).2⟩), fun _ => rfl, fun _ => rfl, fun L hL h _ => ⟨fun k hk => Nat.le_trans hL (HLT.out k hk).1, h.2⟩⟩⟩

set_option maxHeartbeats 1600000 in
theorem put_seed (g : Nat) (m : MsgL) (s : MsgS) (v : Value) (b : List UInt8) (w : World) (hF : MsgF w g m s) (hl : Bytes w v b) (hlen : b.length ≤ 1048576) :
    Calls Try.prog 33 #[.pointer (some ⟨g, 0, none⟩), .int .i64 8, v] w (PutPost w g 8 s v ((oneL b).isSome && decide ((oneL b).getD 0 ≤ 1)) { m with seed := (oneL b).getD 0 == 1 }) := by
  have h1 := one_any v b w hl hlen
  obtain ⟨va, vc, hv⟩ := hl.len
  subst hv
  obtain ⟨O, hO⟩ : ∃ O, oneL b = O := ⟨_, rfl⟩
  rw [hO] at h1 ⊢
  have HF := Lib.hid hF
  clear hO hl hF
  go_enter Try.func33, Try.ntmps33
  go_wp2_with fail
  refine h1.mono ?_
  rintro e w2 ⟨rfl, hb2⟩
  have HF2 := HF.out.of_new hb2
  have hf := HF2.free 38
  have hc := HF2.o.seed
  rcases O with _ | n
  · go_wp2
    go_ret
    exact ⟨rfl, ((Kept.refl _ w).below hb2).setCell (p := ⟨g, 38, none⟩) (fun h => h rfl) _, fun h => nomatch h⟩
  · go_wp2
    go_ret
    exact ⟨by simp, ((Kept.refl _ w).below hb2).setCell (p := ⟨g, 38, none⟩) (fun h => h rfl) _, fun _ => ⟨_, HF2.setSeed _, fun _ => rfl, fun _ => rfl, fun L _ h _ => h⟩⟩

theorem run_arrayAt_dig (a : Option Addr) (c : Nat) (w : World) : (Instr.arrayAt 23 (.slice a 32 c)).run Try.prog w = .ok (.pointer a) w := by
  simp [Instr.arrayAt, run_underlying Try.underlying23, Sem.run_bind, Sem.run_pure]

set_option maxHeartbeats 1600000 in
theorem put_hash (g : Nat) (m : MsgL) (s : MsgS) (v : Value) (b : List UInt8) (w : World) (hF : MsgF w g m s) (hl : Bytes w v b) :
    Calls Try.prog 33 #[.pointer (some ⟨g, 0, none⟩), .int .i64 2, v] w (PutPost w g 2 s v (b.length == 32) { m with hash := b }) := by
  obtain ⟨va, vc, hv⟩ := hl.len
  subst hv
  have HF := Lib.hid hF
  have HL := Lib.hid hl
  clear hF
  by_cases h32 : b.length = 32
  · have hcell := hl.cell (by omega)
    obtain ⟨bb, off, c, hv, hbb, hc⟩ := hcell
    cases hv
    have hd : DigAt w bb off b := ⟨h32, fun j hj => by rw [hc j (by omega)]; simp [List.getElem?_eq_getElem (show j < b.length by omega), List.getD]⟩
    have HD := Lib.hid hd
    clear hd hc hl
    have eb : (b.length == 32) = true := by simp [h32]
    rw [eb]
    clear eb
    go_enter Try.func33, Try.ntmps33
    obtain ⟨w9, hS, hMF, hKP⟩ := HF.out.setHash b h32
    have hA := run_arrayAt_dig (some ⟨bb, off, none⟩) vc
    go_wp2_with (first
      | ((with_reducible refine wpList_plain (o := ⟨some 20, _, _, _, _, _⟩) rfl fun K hK => ?_); (refine wp_load_at (ty := 23) (x := .tmp 19) rfl rfl HD.out (hK _ _ ?_))))
    go_ret
    exact ⟨rfl, hKP, fun _ => ⟨_, hMF, fun _ => rfl, fun _ => rfl, fun L _ h _ => h⟩⟩
  · have h32i : ¬ (b.length : Int) = 32 := by omega
    have e : (b.length == 32) = false := by simp [h32]
    rw [e]
    clear hl e
    have hbe : ((b.length : Int) == 32) = false := beq_eq_false_iff_ne.2 h32i
    go_enter Try.func33, Try.ntmps33
    go_wp2
    go_ret
    exact ⟨rfl, Kept.refl _ w, fun h => absurd h (by simp)⟩

end Go.Proofs.Ytnomekfemadpeaa

/- The walks of chapter 17's awake and few: one message is encoded as it should be; whether a message has no more than a test should have. No condition. -/
import Derived.Test.YtnomekfemadpeaaWrEncode
import Derived.Test.YtnomekfemadpeaaGb
namespace Go.Proofs.Ytnomekfemadpeaa
open Go.RowKit
set_option linter.unusedVariables false
set_option linter.unusedSimpArgs false
set_option maxRecDepth 100000

/-- What Encode comes to, at once. -/
def errE (r : Option (List UInt8)) : Int := if r.isSome then 0 else 1
theorem EncPost.both {w w' : World} {r : Option (List UInt8)} {e : Ending} (h : EncPost w r e w') : ∃ v, e = .returned (.tuple #[v, .int .i64 (errE r)]) ∧ Bytes w' v (r.getD []) ∧ Below w.heap.size w w' := by
  cases r with
  | none =>
    obtain ⟨hb, v, rfl⟩ := h
    exact ⟨_, rfl, Bytes.of_nil, hb⟩
  | some c =>
    obtain ⟨hb, v, rfl, ho⟩ := h
    exact ⟨_, rfl, ho.bytes, hb⟩

def msg0 : MsgL := ⟨2, zero32, 5, [], [], [], [], false⟩
def sl0 : MsgS := ⟨.slice none 0 0, .slice none 0 0, .slice none 0 0, .slice none 0 0⟩
theorem mems_nil (w : World) : Mems w (.slice none 0 0) [] := Row.of_nil 4
theorem ints_nil (w : World) : Ints w (.slice none 0 0) [] := Row.of_nil 1
theorem digs_nil (w : World) : Digs w (.slice none 0 0) [] := ⟨(fun d h => by cases h), Row.of_nil 32⟩
theorem msg0_R (w : World) : MsgR w msg0 sl0 := ⟨rfl, ints_nil w, Bytes.of_nil, digs_nil w, mems_nil w⟩
def enc0 : List UInt8 := [1, 1, 2, 2, 32] ++ zero32 ++ [3, 1, 5]
theorem encM_0 : encM msg0 = some enc0 := by
  have h1 : rightB msg0 = true := by decide
  have h2 : itemsM msg0 = [(1, uintsL [2]), (2, zero32), (3, uintsL [5])] := rfl
  have h3 : uintsL [2] = [2] := by simp [uintsL, u64L, uint_small]
  have h4 : uintsL [5] = [5] := by simp [uintsL, u64L, uint_small]
  unfold encM
  rw [if_pos h1, h2, h3, h4]
  have h5 : zero32.length = 32 := rfl
  simp [encL, encF, uint_small, h5, enc0]
theorem str_15 : (ByteArray.mk ([3, 1, 5] : List UInt8).toArray == ByteArray.mk #[3, 1, 5]) = true := by decide

set_option maxHeartbeats 1600000 in
theorem awake17_any (w : World) : Calls Try.prog 8 #[] w fun e w' => e = .returned (.bool true) ∧ Below w.heap.size w w' := by
  have hE := Encode17_any msg0 sl0 w (msg0_R w)
  rw [show MsgV msg0 sl0 = .agg #[.int .i64 2, .int .u8 0, .int .u8 0, .int .u8 0, .int .u8 0, .int .u8 0, .int .u8 0, .int .u8 0, .int .u8 0, .int .u8 0, .int .u8 0, .int .u8 0, .int .u8 0, .int .u8 0, .int .u8 0, .int .u8 0, .int .u8 0, .int .u8 0, .int .u8 0, .int .u8 0, .int .u8 0, .int .u8 0, .int .u8 0, .int .u8 0, .int .u8 0, .int .u8 0, .int .u8 0, .int .u8 0, .int .u8 0, .int .u8 0, .int .u8 0, .int .u8 0, .int .u8 0, .int .i64 5, .slice none 0 0, .slice none 0 0, .slice none 0 0, .slice none 0 0, .bool false] from rfl, encM_0] at hE
  have hc1 : enc0.length = 40 := rfl
  have hc2 : (enc0.drop 37).take (40 - 37) = [3, 1, 5] := rfl
  generalize enc0 = c at *
  go_enter Try.func8, Try.ntmps8
  go_wp2_with fail
  refine hE.mono ?_
  rintro e w2 ⟨hb2, v2, rfl, ho2⟩
  have hby := ho2.bytes
  obtain ⟨i0, hi, hz0, hz1, hz2⟩ := info_parts infoU8
  obtain ⟨v3, hr, hby3, _⟩ := hby.part (P := Try.prog) Try.underlying25 hi hz1 (some (.int .i64 37)) none 37 40 (by omega) (by omega) (.inr ⟨_, rfl⟩) (.inl ⟨rfl, hc1.symm⟩)
  rw [hc2] at hby3
  have hst := hby3.string (P := Try.prog) (t := 25) (d := 9) Try.underlying25 Try.underlying5 Try.underlying9
  obtain ⟨a2, c2, hv⟩ := hby.len
  rw [hc1] at hv
  subst hv
  have hq := str_15
  clear hby hby3 ho2 hE hc1 hc2
  go_wp2
  go_ret
  exact ⟨rfl, hb2⟩

def fewB (m : MsgL) : Bool := decide (m.ids.length ≤ 200) && decide (m.bytes.length ≤ 20000) && decide (m.proof.length ≤ 100) && decide (m.members.length ≤ 200)
set_option maxHeartbeats 1600000 in
theorem few17_any (m : MsgL) (s : MsgS) (w : World) (hm : MsgR w m s) : Calls Try.prog 9 #[MsgV m s] w fun e w' => e = .returned (.bool (fewB m)) ∧ Below w.heap.size w w' := by
  obtain ⟨W, hW, ho, hb⟩ := msg_boxed w (s := s) hm.hash
  rw [show MsgV m s = .agg (msgCells m s).toArray from rfl]
  obtain ⟨ai, ci, hvi⟩ := hm.ids.len
  obtain ⟨ab, cb, hvb⟩ := hm.bytes.len
  obtain ⟨ap, cp, hvp⟩ := hm.proof.len
  obtain ⟨am, cm, hvm⟩ := hm.members.len
  have e4 := ho.ids
  have e5 := ho.bytes
  have e6 := ho.proof
  have e7 := ho.members
  rw [hvi] at e4
  rw [hvb] at e5
  rw [hvp] at e6
  rw [hvm] at e7
  have hf : fewB m = (decide (m.ids.length ≤ 200) && decide (m.bytes.length ≤ 20000) && decide (m.proof.length ≤ 100) && decide (m.members.length ≤ 200)) := rfl
  rw [hf]
  generalize m.ids.length = ni at *
  generalize m.bytes.length = nb at *
  generalize m.proof.length = np at *
  generalize m.members.length = nm at *
  have HW := Lib.hid hW
  clear hW hm hvi hvb hvp hvm ho hf
  go_enter Try.func9, Try.ntmps9
  go_upto_region 1 with (fail)
  rw [HW.out]
  by_cases h1 : ni ≤ 200
  case neg =>
    have t1 : ¬ (ni : Int) ≤ 200 := by omega
    go_wp2
    go_ret
    exact ⟨ret_bool (by simp [h1]), hb⟩
  have t1 : (ni : Int) ≤ 200 := by omega
  by_cases h2 : nb ≤ 20000
  case neg =>
    have t2 : ¬ (nb : Int) ≤ 20000 := by omega
    go_wp2
    go_ret
    exact ⟨ret_bool (by simp [h2]), hb⟩
  have t2 : (nb : Int) ≤ 20000 := by omega
  by_cases h3 : np ≤ 100
  case neg =>
    have t3 : ¬ (np : Int) ≤ 100 := by omega
    go_wp2
    go_ret
    exact ⟨ret_bool (by simp [h3]), hb⟩
  have t3 : (np : Int) ≤ 100 := by omega
  by_cases h4 : nm ≤ 200
  case neg =>
    have t4 : ¬ (nm : Int) ≤ 200 := by omega
    go_wp2
    go_ret
    exact ⟨ret_bool (by simp [h4]), hb⟩
  have t4 : (nm : Int) ≤ 200 := by omega
  go_wp2
  go_ret
  exact ⟨ret_bool (by simp [h1, h2, h3, h4]), hb⟩

end Go.Proofs.Ytnomekfemadpeaa

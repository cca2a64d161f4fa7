/- Plain laws of the hash's text: how the padded bytes are cut into chunks. No program in sight. No condition. -/
import Derived.Test.YtnomekfemadpeaaDoorShaSpec
namespace Go.Proofs.YtnomekfemadpeaaDoor
set_option linter.unusedVariables false

theorem takeL_take (s : St) (b : List UInt8) : takeL s (b.take 64) = takeL s b := by
  unfold takeL wordsL; rw [wordsTo_take]

/-- The state behind the chunks of one text is that of another one that begins so. -/
theorem chunksTo_app (m r : List UInt8) (n : Nat) (h : 64 * n ≤ m.length) : chunksTo (m ++ r) n = chunksTo m n := by
  induction n with
  | zero => rfl
  | succ n ih =>
    rw [chunksTo, chunksTo, ih (by omega), List.drop_append_of_le_length (by omega), List.take_append_of_le_length (by rw [List.length_drop]; omega)]

/-- The next chunk. -/
theorem chunksTo_next (m : List UInt8) (n : Nat) : chunksTo m (n + 1) = takeL (chunksTo m n) (m.drop (64 * n)) := by
  rw [chunksTo, takeL_take]

/-- What lies behind the whole chunks. -/
def tailL (b : List UInt8) : List UInt8 := (padL b).drop (b.length / 64 * 64)

theorem lenBytes_len (n : Nat) : (lenBytes n).length = 8 := by simp [lenBytes]
theorem padL_len (b : List UInt8) : (padL b).length = b.length + 1 + zerosOf b.length + 8 := by
  simp [padL, lenBytes_len]; omega
theorem padL_dvd (b : List UInt8) : (padL b).length % 64 = 0 := by
  rw [padL_len]; unfold zerosOf; omega

theorem tailL_eq (b : List UInt8) : tailL b = b.drop (b.length / 64 * 64) ++ [128] ++ List.replicate (zerosOf b.length) 0 ++ lenBytes b.length := by
  unfold tailL padL
  simp only [List.append_assoc]
  rw [List.drop_append_of_le_length (by omega)]

theorem tailL_len (b : List UInt8) : (tailL b).length = (padL b).length - b.length / 64 * 64 := by unfold tailL; rw [List.length_drop]

/-- The chunks of the whole: first those of the bytes, then those of the tail. -/
theorem padL_whole (b : List UInt8) (n : Nat) (h : 64 * n ≤ b.length) : chunksTo (padL b) n = chunksTo b n := by
  unfold padL
  simp only [List.append_assoc]
  exact chunksTo_app _ _ _ h

theorem padL_next (b : List UInt8) (n : Nat) : chunksTo (padL b) (b.length / 64 + n + 1) = takeL (chunksTo (padL b) (b.length / 64 + n)) ((tailL b).drop (64 * n)) := by
  rw [chunksTo_next]
  unfold tailL
  rw [List.drop_drop]
  congr 2
  omega

theorem zeros_step (n j : Nat) (h : (n % 64 + 1 + j) % 64 ≠ 56) (hj : j ≤ zerosOf n) : j + 1 ≤ zerosOf n := by unfold zerosOf at *; omega
theorem zeros_end (n j : Nat) (h : (n % 64 + 1 + j) % 64 = 56) (hj : j ≤ zerosOf n) : j = zerosOf n := by unfold zerosOf at *; omega

end Go.Proofs.YtnomekfemadpeaaDoor

/- Strings of bytes compared. No condition. -/
import Derived.Test.YtnomekfemadpeaaDoorGa
namespace Go.Proofs.YtnomekfemadpeaaDoor
open Go.RowKit
set_option linter.unusedVariables false

theorem str_eq (x y : List UInt8) : ((ByteArray.mk x.toArray) == (ByteArray.mk y.toArray)) = decide (x = y) := by
  have h : ((ByteArray.mk x.toArray) == (ByteArray.mk y.toArray)) = (x.toArray == y.toArray) := rfl
  rw [h, Bool.eq_iff_iff]
  simp
theorem str_same (x : List UInt8) : ((ByteArray.mk x.toArray) == (ByteArray.mk x.toArray)) = true := by rw [str_eq]; simp

end Go.Proofs.YtnomekfemadpeaaDoor

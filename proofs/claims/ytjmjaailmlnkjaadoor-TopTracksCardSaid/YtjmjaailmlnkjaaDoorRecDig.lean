/- Hashes as records (RecT). No condition. -/
import Derived.Test.YtjmjaailmlnkjaaDoorRec
import Derived.Test.YtjmjaailmlnkjaaDoorGa
namespace Go.Proofs.YtjmjaailmlnkjaaDoor
open Go.RowKit
set_option linter.unusedVariables false
set_option linter.unusedSimpArgs false
set_option maxRecDepth 100000

def RDig : RecT 29 (List UInt8) where
  n := 32
  bytes := 32
  zero := dig0
  cells := fun d => d.map B8
  ok := fun d => d.length = 32
  pos := by decide
  small := by decide
  few := by decide
  zok := rfl
  len := fun h => by simp [h]
  one := fun {x} _ v hv => by
    obtain ⟨b, _, rfl⟩ := List.mem_map.1 hv
    rfl
  agg := ⟨_, Tryd.underlying29, rfl⟩
  info := by kernel_rfl
theorem RDig_row {w : World} {v : Value} {l : List (List UInt8)} : RDig.Row w v l ↔ Digs w v l := Iff.rfl
theorem RecT.O.digO {w : World} {g : Nat} {d : List UInt8} (h : RDig.O w g d) : DigO w g d := h

end Go.Proofs.YtjmjaailmlnkjaaDoor

/- One name for the kit's tactics and my own laws that a walk needs. No condition. -/
import Derived.Test.YtjmjaailmlnkjaaDoorGa
import Derived.LoopNIn
import Derived.LoopIn
import Derived.BigFrameIn
import Derived.BigGuardIn
import Derived.Deep.DeepCutAuto
import Derived.Deep.LoopGhost
import Derived.Sort.LoopGhostIn
import Derived.Shelf.Abstract
import Derived.Shelf.RegionOpen
namespace Go.Proofs.YtjmjaailmlnkjaaDoor
open Go.RowKit
/-- An operation's plain law, inside a function that a range runs. -/
theorem wpListIn_one {m : Nat} {P : Program} {ops : Array Oper} {rest : List Oper} {o : Oper} {a : Act} {w : World} {Q : Exit → Act → World → Prop} (hgd : o.guard = none) (hd : ∀ c, o.op ≠ .defer c)
    (h : o.wp P a w (wpListIn Fence.wide m P ops Q rest) Q) : wpListIn Fence.wide m P ops Q (o :: rest) a w := wpListIn_of_wp (ro := none) hgd hd h
end Go.Proofs.YtjmjaailmlnkjaaDoor

/- The table of the hash's constants, as a row lists it: from the row's condition to what the walks ask; a world for the witness. No condition. -/
import Derived.Test.YtjmjaailmlnkjaaDoorGb
import Derived.Test.YtjmjaailmlnkjaaDoorRows
import Derived.Lib.LaidTab
namespace Go.Proofs.YtjmjaailmlnkjaaDoor
open Go.RowKit
set_option linter.unusedVariables false

def shaZ : List Int := [1116352408, 1899447441, 3049323471, 3921009573, 961987163, 1508970993, 2453635748, 2870763221, 3624381080, 310598401, 607225278, 1426881987, 1925078388, 2162078206, 2614888103, 3248222580, 3835390401, 4022224774, 264347078, 604807628, 770255983, 1249150122, 1555081692, 1996064986, 2554220882, 2821834349, 2952996808, 3210313671, 3336571891, 3584528711, 113926993, 338241895, 666307205, 773529912, 1294757372, 1396182291, 1695183700, 1986661051, 2177026350, 2456956037, 2730485921, 2820302411, 3259730800, 3345764771, 3516065817, 3600352804, 4094571909, 275423344, 430227734, 506948616, 659060556, 883997877, 958139571, 1322822218, 1537002063, 1747873779, 1955562222, 2024104815, 2227730452, 2361852424, 2428436474, 2756734187, 3204031479, 3329325298]
theorem gK : Tryd.prog.globalNamed "starling/digest.constants" = some 0 := by kernel_rfl
theorem gKType : (Tryd.prog.globals[0]?).map (·.type) = some 58 := by kernel_rfl
theorem cellsK : Tryd.prog.cellsOf 58 = 64 := by kernel_rfl
theorem cellsK1 : Tryd.prog.cellsOf 40 = 1 := by kernel_rfl
theorem shaZ_at : ∀ j : Fin 64, shaZ.getD j.val 0 = w32 (shaK.getD j.val 0) := by decide

theorem consts_of {W : World} (h : laidMetH Tryd.prog [("starling/digest.constants", Rows.laid_starling_digest_constants)] W) : Consts W := by
  have ht : Lib.TabIs Tryd.prog W "starling/digest.constants" .u32 shaZ := Lib.tabIs_of_head (rest := []) gK gKType Tryd.underlying58 Tryd.underlying40 cellsK1 cellsK h
  intro j hj
  have := ht.cell gK j hj
  rw [this]
  unfold W32
  rw [← shaZ_at ⟨j, hj⟩]

/-- A world for the witness: the settled one, the table holding what its initialiser lays. -/
noncomputable def laidWorld (os : Os) : World :=
  { World.holding Tryd.prog os ⟨#[], #[], []⟩ with heap := (World.holding Tryd.prog os ⟨#[], #[], []⟩).heap.modify 0 fun
      | .cells _ t frozen => .cells #[.int .u32 1116352408, .int .u32 1899447441, .int .u32 3049323471, .int .u32 3921009573, .int .u32 961987163, .int .u32 1508970993, .int .u32 2453635748, .int .u32 2870763221, .int .u32 3624381080, .int .u32 310598401, .int .u32 607225278, .int .u32 1426881987, .int .u32 1925078388, .int .u32 2162078206, .int .u32 2614888103, .int .u32 3248222580, .int .u32 3835390401, .int .u32 4022224774, .int .u32 264347078, .int .u32 604807628, .int .u32 770255983, .int .u32 1249150122, .int .u32 1555081692, .int .u32 1996064986, .int .u32 2554220882, .int .u32 2821834349, .int .u32 2952996808, .int .u32 3210313671, .int .u32 3336571891, .int .u32 3584528711, .int .u32 113926993, .int .u32 338241895, .int .u32 666307205, .int .u32 773529912, .int .u32 1294757372, .int .u32 1396182291, .int .u32 1695183700, .int .u32 1986661051, .int .u32 2177026350, .int .u32 2456956037, .int .u32 2730485921, .int .u32 2820302411, .int .u32 3259730800, .int .u32 3345764771, .int .u32 3516065817, .int .u32 3600352804, .int .u32 4094571909, .int .u32 275423344, .int .u32 430227734, .int .u32 506948616, .int .u32 659060556, .int .u32 883997877, .int .u32 958139571, .int .u32 1322822218, .int .u32 1537002063, .int .u32 1747873779, .int .u32 1955562222, .int .u32 2024104815, .int .u32 2227730452, .int .u32 2361852424, .int .u32 2428436474, .int .u32 2756734187, .int .u32 3204031479, .int .u32 3329325298] t frozen
      | o => o }

end Go.Proofs.YtjmjaailmlnkjaaDoor

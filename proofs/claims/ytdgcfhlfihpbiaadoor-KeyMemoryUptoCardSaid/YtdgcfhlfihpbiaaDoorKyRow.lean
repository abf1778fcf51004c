/- Words for the rows of key: the library's tables in a world that is written out; what the world's shape gives. -/
import Derived.Test.YtdgcfhlfihpbiaaDoorRows
import Derived.Test.YtdgcfhlfihpbiaaDoorKy2
import Derived.Test.YtdgcfhlfihpbiaaDoorRowTU
import Derived.Shelf.Vars
import Derived.WalkKit
import Derived.ProofKit
import Derived.Deep.DeepHandedRow
set_option linter.unusedVariables false
set_option linter.unusedSimpArgs false
set_option maxRecDepth 100000
namespace Go.Proofs.YtdgcfhlfihpbiaaDoor
open Go.RowKit
theorem maxL_of {W : World} (h : W.ShapedOpen Tryd.prog) : MaxL W :=
  Go.Proofs.cell_of_shapedOpen_int (g := 0) (zero := #[.int .i64 0]) (t := 3) h (of_decide_eq_true (by kernel_rfl)) (by kernel_rfl) rfl (by kernel_rfl) (by kernel_rfl) Tryd.underlying3
/-- A block of cells with other values in them. -/
def withCells (cs : List Nat) : Obj → Obj
  | .cells _ t frozen => .cells (cs.map fun (n : Nat) => Value.int .u8 (n : Int)).toArray t frozen
  | o => o
/-- A world for the witness: the library's two tables as they are laid. -/
noncomputable def laidWorld (os : Os) : World :=
  { World.holding Tryd.prog os ⟨#[], #[], []⟩ with heap := ((World.holding Tryd.prog os ⟨#[], #[], []⟩).heap.modify 1 (withCells Go.Pinned.utf8FirstZ)).modify 2 (withCells [128, 191, 160, 191, 128, 159, 144, 191, 128, 143, 0, 0, 0, 0, 0, 0, 0, 0, 0, 0, 0, 0, 0, 0, 0, 0, 0, 0, 0, 0, 0, 0]) }
end Go.Proofs.YtdgcfhlfihpbiaaDoor

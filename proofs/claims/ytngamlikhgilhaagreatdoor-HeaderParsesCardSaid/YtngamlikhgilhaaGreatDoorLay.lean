/- A start that meets what the rows of this seat list: the door's run, and the pinned table. -/
import Derived.Test.YtngamlikhgilhaaGreatDoorRows
import Derived.Test.YtngamlikhgilhaaGreatDoorTie
import Derived.WalkKit
import Derived.ProofKit
import Derived.LaidMore
import Derived.SevenTiedAt
namespace Go.Proofs.YtngamlikhgilhaaGreatDoor
open Go.ChangeShapes Go.WideShapes Go.ChangeAt Go.RowKit

def seatLaid : List (String × DataW Unit) := [("unicode/utf8.acceptRanges", Rows.laid_unicode_utf8_acceptRanges), ("unicode/utf8.first", Rows.laid_unicode_utf8_first)]
noncomputable def firstAt : Nat := (Tryz.prog.globalNamed "unicode/utf8.first").getD 0
noncomputable def laidWorld (os : Os) : World :=
  { World.doorLaid Tryz.prog 19 os with heap := (World.doorLaid Tryz.prog 19 os).heap.modify firstAt fun
      | .cells _ t frozen => .cells (Go.Pinned.utf8FirstZ.map fun (n : Nat) => Value.int .u8 (Int.ofNat n)).toArray t frozen
      | o => o }
theorem laidWorld_met (os : Os) (args : Array Value) : laidMetH Tryz.prog seatLaid ((laidWorld os).forCall (fun _ _ => 0) ⟨#[], args, []⟩).memory :=
  laidMetH_of_parts3 (fuel := 8) (laidMet_of_run' 8 (by kernel_rfl) (by kernel_rfl)) (by kernel_rfl) (by kernel_rfl)
theorem laidOwn : ownKnob Tryz.prog.godebug = none := by kernel_rfl
end Go.Proofs.YtngamlikhgilhaaGreatDoor

/-
  A WORLD IN WHICH THE LISTED PACKAGE VARIABLES LIE AS THE ROWS TELL: the heap that the door's own run leaves, and the pinned table.
-/
import Derived.Test.YtajkpdhcefkopaaGreatDoorRows
import Derived.LaidMore
import Derived.Deep.DeepLaidRun
import Derived.Deep.DeepWitnessRowRef
import Derived.KernelRfl
namespace Go.Own
open Go.Proofs

noncomputable def laidWorld (os : Os) : World :=
  { World.doorLaid Tryz.prog 77 os with heap := (World.doorLaid Tryz.prog 77 os).heap.modify 3 fun
      | .cells _ t frozen => .cells (Go.Pinned.utf8FirstZ.map fun (n : Nat) => Value.int .u8 (n : Int)).toArray t frozen
      | o => o }
theorem laid_shaped1 (os : Os) (args : Array Value) : ((laidWorld os).forCall (fun _ _ => 0) ⟨#[], args, []⟩).variablesRefB Tryz.prog = true := by kernel_rfl
theorem laid_shaped2 (os : Os) (args : Array Value) : (((laidWorld os).forCall (fun _ _ => 0) ⟨#[], args, []⟩).heap.toList.drop Tryz.prog.globals.size).take ((begin Tryz.prog (fun _ _ => 0) default).world.heap.size - Tryz.prog.globals.size) =
      (begin Tryz.prog (fun _ _ => 0) default).world.heap.toList.drop Tryz.prog.globals.size := by kernel_rfl
theorem laid_met (os : Os) (args : Array Value) : laidMet Tryz.prog YtajkpdhcefkopaaGreatDoor.Rows.pinsPlaysRow.laid ((laidWorld os).forCall (fun _ _ => 0) ⟨#[], args, []⟩).memory :=
  laidMet_of_run3 8 (by kernel_rfl) (by kernel_rfl) (by kernel_rfl)
end Go.Own

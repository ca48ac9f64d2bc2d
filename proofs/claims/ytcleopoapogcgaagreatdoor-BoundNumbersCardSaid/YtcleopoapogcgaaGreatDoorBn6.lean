/- The call underpinlaw28.alive answers true; from every world with a block. -/
import Derived.Test.YtcleopoapogcgaaGreatDoorBn5
namespace Go.Proofs.YtcleopoapogcgaaGreatDoor
open Go.RowKit Go.Up
set_option maxRecDepth 1000000
theorem run_alive : runCall Tryz.prog 3000 4 [] ⟨1, .leaf⟩ (fun v _ => isTrue v) = true := by kernel_rfl
theorem alive_any (w : World) (hw : 0 < w.heap.size) : Calls Tryz.prog 4 #[] w fun e w' => e = .returned (.bool true) ∧ Below w.heap.size w w' := closed_true Tryz.mixed run_alive w hw
end Go.Proofs.YtcleopoapogcgaaGreatDoor

/- What tableb.Sizes, its reference and bound.Op answer; from every world with a block. -/
import Derived.Test.YtcleopoapogcgaaGreatDoorUpClosed
import Derived.Test.YtcleopoapogcgaaGreatDoorProg
import Derived.KernelRfl
namespace Go.Proofs.YtcleopoapogcgaaGreatDoor
open Go.RowKit Go.Up
theorem Tryz.mixed : Tryz.prog.follows .mixedOrders = true := by kernel_rfl
def sizes0 : List Int := [16, 32, 48, 64, 80, 96, 112, 128, 160, 192, 224, 256, 320, 384, 448, 512]
def sizes1 : List Int := [8, 16, 24, 32, 48, 64, 96, 128, 192, 256, 384, 512]
set_option maxRecDepth 1000000
theorem run_sizes0 : runCall Tryz.prog 3000 20 [.int .i64 0] ⟨1, .leaf⟩ (intsAre sizes0) = true := by kernel_rfl
theorem run_sizes1 : runCall Tryz.prog 3000 20 [.int .i64 1] ⟨1, .leaf⟩ (intsAre sizes1) = true := by kernel_rfl
theorem run_rsizes0 : runCall Tryz.prog 3000 24 [.int .i64 0] ⟨1, .leaf⟩ (intsAre sizes0) = true := by kernel_rfl
theorem run_rsizes1 : runCall Tryz.prog 3000 24 [.int .i64 1] ⟨1, .leaf⟩ (intsAre sizes1) = true := by kernel_rfl
theorem run_op : runCall Tryz.prog 3000 18 [] ⟨1, .leaf⟩ (isInt 18) = true := by kernel_rfl
theorem lrel_one {ρ : Ren} (k : IntKind) (n : Int) : LRel ρ [.int k n] (#[.int k n] : Array Value).toList := .cons (.int k n) .nil
theorem sizes_0 (w : World) (hw : 0 < w.heap.size) : Calls Tryz.prog 20 #[.int .i64 0] w (Ints sizes0 w) := closed_ints Tryz.mixed run_sizes0 (lrel_one _ _) w hw
theorem sizes_1 (w : World) (hw : 0 < w.heap.size) : Calls Tryz.prog 20 #[.int .i64 1] w (Ints sizes1 w) := closed_ints Tryz.mixed run_sizes1 (lrel_one _ _) w hw
theorem rsizes_0 (w : World) (hw : 0 < w.heap.size) : Calls Tryz.prog 24 #[.int .i64 0] w (Ints sizes0 w) := closed_ints Tryz.mixed run_rsizes0 (lrel_one _ _) w hw
theorem rsizes_1 (w : World) (hw : 0 < w.heap.size) : Calls Tryz.prog 24 #[.int .i64 1] w (Ints sizes1 w) := closed_ints Tryz.mixed run_rsizes1 (lrel_one _ _) w hw
theorem op_any (w : World) (hw : 0 < w.heap.size) : Calls Tryz.prog 18 #[] w fun e w' => e = .returned (.int .i64 18) ∧ Below w.heap.size w w' := closed_int Tryz.mixed run_op .nil w hw
end Go.Proofs.YtcleopoapogcgaaGreatDoor

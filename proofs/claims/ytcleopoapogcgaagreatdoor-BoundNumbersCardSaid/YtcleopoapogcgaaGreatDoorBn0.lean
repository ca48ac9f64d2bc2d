/- A number from 1 to 4096 is a power of two just if it is none of a list that is written out; no condition. -/
import Derived.WalkKit
namespace Go.Proofs.YtcleopoapogcgaaGreatDoor
open Go.RowKit
def aligns : List Int := [1, 2, 4, 8, 16, 32, 64, 128, 256, 512, 1024, 2048, 4096]
def alignB (n : Int) : Bool := aligns.contains n
set_option maxRecDepth 100000 in
theorem bits_align : ∀ k : Fin 4096, (bits BinOp.and IntKind.i64 ((k.val : Int) + 1) ((k.val : Int) + 1 - 1) == 0) = aligns.contains ((k.val : Int) + 1) := by decide +kernel

end Go.Proofs.YtcleopoapogcgaaGreatDoor

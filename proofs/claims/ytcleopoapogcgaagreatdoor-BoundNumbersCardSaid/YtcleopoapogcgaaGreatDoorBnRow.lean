/- The law BoundNumbers of underpinlaw28: it returns true at every three numbers, and its arguments read behind the call as they read before; where the package-level table math/bits.deBruijn64tab reads as the program's text lays it (the card ties it). -/
import Derived.Test.YtcleopoapogcgaaGreatDoorBnLift
import Derived.Test.YtcleopoapogcgaaGreatDoorBnFacts
namespace Go.Proofs.YtcleopoapogcgaaGreatDoor
open Go.ChangeShapes Go.WideShapes Go.ChangeAt Go.RowKit

theorem boundNumbers_holds : Rows.BoundNumbersSaid :=
  OpenClaim.holds_of_wide 3 Tryz.f3 rfl rfl rfl rfl rfl rfl rfl ⟨rfl, rfl, rfl, rfl, rfl⟩ rfl rfl rfl rfl rfl named Tryz.func3 closed inst wrap
    (fun os started H enc _ => lifted os started H enc)
end Go.Proofs.YtcleopoapogcgaaGreatDoor

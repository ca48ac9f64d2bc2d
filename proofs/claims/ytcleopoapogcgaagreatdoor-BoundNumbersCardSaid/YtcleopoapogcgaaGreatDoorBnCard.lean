/- The tied card of the law BoundNumbers of underpinlaw28: it returns true at every three numbers, and its arguments read behind the call as they read before; the package-level table math/bits.deBruijn64tab starts as the program's text lays it. -/
import Derived.Test.YtcleopoapogcgaaGreatDoorBnRow
import Derived.Test.YtcleopoapogcgaaGreatDoorTie
import Derived.Test.YtcleopoapogcgaaGreatDoorCards
import Derived.SevenTiedAt
namespace Go.Proofs.YtcleopoapogcgaaGreatDoor
open Go

set_option maxHeartbeats 40000000
theorem cardWf : Rows.boundNumbersRow.wfByText (OpenSpec.ofChange Rows.boundNumbersSpec) = true := by kernel_rfl
theorem cardMain : Tryz.pinned.checked.prog.mainIs = some ((true, "c030d9f3c39e737955f457213a41969658d6d6096ece8b912e37cc71bcbb19bc").1, (true, "c030d9f3c39e737955f457213a41969658d6d6096ece8b912e37cc71bcbb19bc").2.toList) := by kernel_rfl
theorem cardLooks : true = Tryz.pinned.checked.prog.looks [] := by kernel_rfl
theorem cardStand : ([3].all fun u => !Tryz.prog.wantsStandIn u) = true := by kernel_rfl
theorem cardGoes : false = Rows.boundNumbersRow.goesBy Tryz.pinned.checked.prog := by kernel_rfl
theorem boundNumbers_card : Rows.BoundNumbersCardSaid :=
  Claim7.holds_tied_plain_at .later [] [.data] true (true, "c030d9f3c39e737955f457213a41969658d6d6096ece8b912e37cc71bcbb19bc") true
    boundNumbers_holds (fun _ h => by cases h) cardWf (fun _ h => by cases h) boundNumbers_row_tie rfl ⟨rfl, rfl⟩ cardMain rfl
    (fun f fn hf hfn => by
      obtain rfl : f = 3 := Option.some.inj (named.symm.trans hf) |>.symm
      obtain rfl : fn = Tryz.f3 := (Option.some.inj (Tryz.func3.symm.trans hfn)).symm
      exact ⟨cardLooks, fun j t ht => by
        rw [Tryz.params3] at ht
        have hm : t ∈ [3] := by simpa using Array.mem_of_getElem? ht
        exact (show Tryz.prog.wantsStandIn t = false by simpa using List.all_eq_true.1 cardStand t hm)⟩)
    cardGoes
end Go.Proofs.YtcleopoapogcgaaGreatDoor

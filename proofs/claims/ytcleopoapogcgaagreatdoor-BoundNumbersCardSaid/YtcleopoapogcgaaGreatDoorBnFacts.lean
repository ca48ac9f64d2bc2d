/- The closed facts of the row of the law BoundNumbers: its cells are the program's own; no condition. -/
import Derived.Test.YtcleopoapogcgaaGreatDoorRows
import Derived.ProofKit
namespace Go.Proofs.YtcleopoapogcgaaGreatDoor
open Go.ChangeShapes Go.WideShapes Go.ChangeAt Go.RowKit

theorem named : Tryz.pinned.checked.prog.funcNamed Rows.boundNumbersRow.func = some 3 := by kernel_rfl
theorem inst : Tryz.f3.isInstance Tryz.pinned.checked.prog Rows.boundNumbersRow.origin Rows.boundNumbersRow.targs := of_decide_eq_true (by kernel_rfl)
theorem wrap : Tryz.f3.isWrapper Tryz.pinned.checked.prog Rows.boundNumbersRow.wrapper Rows.boundNumbersRow.mainSum := by
  unfold Func.isWrapper
  first | (rw [if_pos (by decide +kernel)]; kernel_rfl) | (rw [if_neg (by decide +kernel)]; exact ⟨rfl, rfl⟩)
theorem andT {a b : Bool} (h : a = true) (h' : b = true) : (a && b) = true := by rw [h, h']; rfl
set_option maxHeartbeats 40000000 in
/-- The row's closed facts, each by itself: all at once they ask too much memory. -/
theorem closed : joinedFacts Tryz.pinned.checked.prog 3 Tryz.f3 Rows.boundNumbersSpec Rows.boundNumbersRow = true := by
  unfold joinedFacts
  repeat' (with_reducible apply andT)
  all_goals (as_aux_lemma => kernel_rfl)
end Go.Proofs.YtcleopoapogcgaaGreatDoor

/- What bound.cut, Ack, Rest, their references, sizes.is and cmp.isNaN answer, for every number; no condition. -/
import Derived.Test.YtcleopoapogcgaaGreatDoorProg
import Derived.WalkKit
import Derived.WalkSpells
import Derived.WalkLawsBesides
import Derived.IntWalk
import Derived.Lib.Hide
namespace Go.Proofs.YtcleopoapogcgaaGreatDoor
open Go.RowKit

theorem ret_int {k : IntKind} {a b : Int} (h : a = b) : Ending.returned (.int k a) = .returned (.int k b) := by rw [h]

def cutv (n : Int) : Int := max 0 (min n 1099511627776)
theorem cutv_bd (n : Int) : 0 ≤ cutv n ∧ cutv n ≤ 1099511627776 := by unfold cutv; omega

set_option maxHeartbeats 400000 in
theorem cut_any (n : Int) (w : World) :
    Calls Tryz.prog 25 #[.int .i64 n] w fun e w' => e = .returned (.int .i64 (cutv n)) ∧ w = w' := by
  go_enter Tryz.func25, Tryz.ntmps25
  go_wp2
  all_goals
    go_ret
    refine ⟨ret_int ?_, rfl⟩
    unfold cutv
    (try split at *) <;> omega

set_option maxHeartbeats 400000 in
theorem rcut_any (n : Int) (w : World) :
    Calls Tryz.prog 9 #[.int .i64 n] w fun e w' => e = .returned (.int .i64 (cutv n)) ∧ w = w' := by
  go_enter Tryz.func9, Tryz.ntmps9
  go_wp2
  all_goals
    go_ret
    refine ⟨ret_int ?_, rfl⟩
    unfold cutv
    (try split at *) <;> omega

set_option maxHeartbeats 400000 in
theorem ack_any (n : Int) (w : World) :
    Calls Tryz.prog 8 #[.int .i64 n] w fun e w' => e = .returned (.int .i64 (cutv n + 1)) ∧ w = w' := by
  have hb := cutv_bd n
  go_enter Tryz.func8, Tryz.ntmps8
  go_wp2_with (go_at_call 25; refine (cut_any _ _).mono ?_; rintro e w' ⟨rfl, rfl⟩)
  go_ret
  exact ⟨rfl, rfl⟩

set_option maxHeartbeats 400000 in
theorem rest_any (a b : Int) (w : World) :
    Calls Tryz.prog 12 #[.int .i64 a, .int .i64 b] w fun e w' => e = .returned (.int .i64 (cutv a + cutv b + 4)) ∧ w = w' := by
  have hb := cutv_bd a
  have hb' := cutv_bd b
  go_enter Tryz.func12, Tryz.ntmps12
  go_wp2_with (go_at_call 25; refine (cut_any _ _).mono ?_; rintro e w' ⟨rfl, rfl⟩)
  go_ret
  exact ⟨rfl, rfl⟩

/-- Is a number within the bounds? -/
def isB (n : Int) : Bool := decide (0 ≤ n ∧ n ≤ 1099511627776)

set_option maxHeartbeats 400000 in
theorem is_any (n : Int) (w : World) :
    Calls Tryz.prog 65 #[.int .i64 n] w fun e w' => e = .returned (.bool (isB n)) ∧ w = w' := by
  by_cases h1 : 0 ≤ n <;> by_cases h2 : n ≤ 1099511627776
  all_goals
    go_enter Tryz.func65, Tryz.ntmps65
    go_wp2
    go_ret
    refine ⟨congrArg (fun b => Ending.returned (.bool b)) ?_, rfl⟩
    unfold isB
    simp
    omega

set_option maxHeartbeats 400000 in
theorem nan_any (n : Int) (w : World) :
    Calls Tryz.prog 142 #[.int .i64 n] w fun e w' => e = .returned (.bool false) ∧ w = w' := by
  go_enter Tryz.func142, Tryz.ntmps142
  go_wp2
  go_ret
  exact ⟨rfl, rfl⟩
theorem nan2_any (n : Int) (w : World) :
    Calls Tryz.prog 93 #[.int .i64 n] w fun e w' => e = .returned (.bool false) ∧ w = w' := by
  go_enter Tryz.func93, Tryz.ntmps93
  go_wp2
  go_ret
  exact ⟨rfl, rfl⟩

end Go.Proofs.YtcleopoapogcgaaGreatDoor

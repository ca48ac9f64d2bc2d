/- What the reference of large.Shape answers, for every number; no condition. -/
import Derived.Test.YtcleopoapogcgaaGreatDoorBn3
namespace Go.Proofs.YtcleopoapogcgaaGreatDoor
open Go.RowKit
set_option maxHeartbeats 400000 in
theorem rshape_yes (n c : Int) (w : World) (h1 : 0 ≤ n) (h2 : n ≤ 1099511627776) (hc : alignB c = true) :
    Calls Tryz.prog 22 #[.int .i64 n, .int .i64 c] w fun e w' => e = .returned (.tuple #[.int .i64 (pagesv n), .int .i64 (stepv c), .int .i64 0]) ∧ w = w' := by
  obtain ⟨hb1, hb2⟩ := align_bd hc
  have hc' := Lib.hid hc
  clear hc
  go_enter Tryz.func22, Tryz.ntmps22
  go_wp2_with ((go_at_call 43; refine (align_any _ _).mono ?_; rintro e w' ⟨rfl, rfl⟩; rw [hc'.out]))
  all_goals
    go_ret3
    refine ⟨ret_int3 ?_ ?_, rfl⟩
    · unfold pagesv
      try simp at *
      omega
    · unfold stepv
      omega
set_option maxHeartbeats 400000 in
theorem rshape_no (n c : Int) (w : World) (h : n < 0 ∨ 1099511627776 < n) :
    Calls Tryz.prog 22 #[.int .i64 n, .int .i64 c] w fun e w' => e = .returned (.tuple #[.int .i64 0, .int .i64 0, .int .i64 11]) ∧ w = w' := by
  rcases h with h | h
  all_goals
    go_enter Tryz.func22, Tryz.ntmps22
    go_wp2_with (fail)
    go_ret3
    exact ⟨rfl, rfl⟩
set_option maxHeartbeats 400000 in
theorem rshape_odd (n c : Int) (w : World) (h1 : 0 ≤ n) (h2 : n ≤ 1099511627776) (hc : alignB c = false) :
    Calls Tryz.prog 22 #[.int .i64 n, .int .i64 c] w fun e w' => e = .returned (.tuple #[.int .i64 0, .int .i64 0, .int .i64 11]) ∧ w = w' := by
  have hc' := Lib.hid hc
  clear hc
  go_enter Tryz.func22, Tryz.ntmps22
  go_wp2_with ((go_at_call 43; refine (align_any _ _).mono ?_; rintro e w' ⟨rfl, rfl⟩; rw [hc'.out]))
  go_ret3
  exact ⟨rfl, rfl⟩
end Go.Proofs.YtcleopoapogcgaaGreatDoor

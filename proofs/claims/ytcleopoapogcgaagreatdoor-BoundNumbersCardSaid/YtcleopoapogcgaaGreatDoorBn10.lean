/- What slices.BinarySearch over integers answers; where the list is in order and of at most 100 items. -/
import Derived.Test.YtcleopoapogcgaaGreatDoorBn9
namespace Go.Proofs.YtcleopoapogcgaaGreatDoor
open Go.RowKit Go.Up

def ltB (a b : Int) : Bool := decide (a < b)
set_option maxHeartbeats 400000 in
theorem less_any (a b : Int) (w : World) :
    Calls Tryz.prog 92 #[.int .i64 a, .int .i64 b] w fun e w' => e = .returned (.bool (ltB a b)) ∧ w = w' := by
  go_enter Tryz.func92, Tryz.ntmps92
  go_wp2_with (go_at_call 142; refine (nan_any _ _).mono ?_; rintro e w' ⟨rfl, rfl⟩)
  go_ret
  exact ⟨rfl, rfl⟩

theorem ret_pair {i u : Nat} {v : Value} (h : i = u) : Ending.returned (.tuple #[.int .i64 i, v]) = .returned (.tuple #[.int .i64 u, v]) := by rw [h]
/-- The place of a number in a list, and whether it is there. -/
def Found (L : List Int) (n : Int) (w : World) (e : Ending) (w' : World) : Prop := ∃ f : Bool, e = .returned (.tuple #[.int .i64 (under L n), .bool f]) ∧ w = w'

set_option maxHeartbeats 1000000 in
theorem search_any (L : List Int) (n : Int) (b cap : Nat) (w : World) (hL : L.length ≤ 100) (ho : ordB L = true) (hc : ∀ (j : Nat) (h : j < L.length), w.cell? ⟨b, j, none⟩ = some (.int .i64 L[j])) :
    Calls Tryz.prog 68 #[.slice (some ⟨b, 0, none⟩) L.length cap, .int .i64 n] w (Found L n w) := by
  have hc' := Lib.hid hc
  have ho' := Lib.hid ho
  have hu := under_le L n
  clear hc ho
  go_enter Tryz.func68, Tryz.ntmps68
  go_wp2_with fail
  go_loop [7, 8] (fun i j => ∃ i' j' : Nat, i' ≤ under L n ∧ under L n ≤ j' ∧ j' ≤ L.length ∧ i = .int .i64 i' ∧ j = .int .i64 j') (fun i j => (intOf j - intOf i).toNat)
  case atStart => exact ⟨0, L.length, by omega, by omega, by omega, rfl, rfl⟩
  case round =>
    obtain ⟨i, j, h1, h2, h3, rfl, rfl⟩ := hrel
    by_cases hlt : i < j
    · have hh : (i + j) / 2 < L.length := by omega
      have hv := hc'.out ((i + j) / 2) hh
      have hs := under_spec ho'.out n ((i + j) / 2) hh
      generalize hx : L[(i + j) / 2] = x at hv hs
      have hx' := Lib.hid hx
      clear hx
      by_cases hxn : x < n
      · have hl := Lib.hid (show ltB x n = true from decide_eq_true hxn)
        have hs' : (i + j) / 2 < under L n := hs.1 hxn
        clear hs
        go_wp2_with (go_at_call 92; refine (less_any _ _ _).mono ?_; rintro e w' ⟨rfl, rfl⟩; rw [hl.out])
        go_round
        case rel => exact ⟨(i + j) / 2 + 1, j, by omega, by omega, by omega, by go_num, rfl⟩
        case measure => simp [intOf]; omega
      · have hl := Lib.hid (show ltB x n = false from decide_eq_false hxn)
        have hs' : under L n ≤ (i + j) / 2 := by omega
        clear hs
        go_wp2_with (go_at_call 92; refine (less_any _ _ _).mono ?_; rintro e w' ⟨rfl, rfl⟩; rw [hl.out])
        go_round
        case rel => exact ⟨i, (i + j) / 2, by omega, by omega, by omega, rfl, by go_num⟩
        case measure => simp [intOf]; omega
    · obtain rfl : i = j := by omega
      have hi := Lib.hid (show i = under L n by omega)
      by_cases hh : i < L.length
      · have hv := hc'.out i hh
        generalize hx : L[i] = x at hv
        clear hx
        go_wp2_with (go_at_call 93; refine (nan2_any _ _).mono ?_; rintro e w' ⟨rfl, rfl⟩)
        all_goals
          go_ret2
          exact ⟨_, ret_pair hi.out, rfl⟩
      · go_wp2_with fail
        all_goals
          go_ret2
          exact ⟨_, ret_pair hi.out, rfl⟩
end Go.Proofs.YtcleopoapogcgaaGreatDoor

/- What sizes.Power, sizes.Pages and large.Shape answer, for every number; no condition. -/
import Derived.Test.YtcleopoapogcgaaGreatDoorBn0
import Derived.Test.YtcleopoapogcgaaGreatDoorBn1
namespace Go.Proofs.YtcleopoapogcgaaGreatDoor
open Go.RowKit

def powB (n : Int) : Bool := decide (1 ≤ n ∧ n ≤ 1099511627776) && (bits BinOp.and IntKind.i64 n (n - 1) == 0)

theorem pow_align {n : Int} (h : n ≤ 4096) : powB n = alignB n := by
  unfold powB alignB
  by_cases h1 : 1 ≤ n
  · have e := bits_align ⟨(n - 1).toNat, by omega⟩
    have e1 : ((n - 1).toNat : Int) + 1 = n := by omega
    simp only [e1] at e
    rw [e, decide_eq_true ⟨h1, by omega⟩, Bool.true_and]
  · rw [decide_eq_false (by omega), Bool.false_and]
    symm
    unfold aligns
    simp only [List.contains_cons, List.contains_nil, Bool.or_false]
    simp
    omega
theorem align_bd {n : Int} (h : alignB n = true) : 1 ≤ n ∧ n ≤ 4096 := by
  unfold alignB aligns at h
  simp only [List.contains_cons, List.contains_nil, Bool.or_false] at h
  simp at h
  omega

set_option maxHeartbeats 400000 in
theorem power_any (n : Int) (w : World) :
    Calls Tryz.prog 38 #[.int .i64 n] w fun e w' => e = .returned (.bool (powB n)) ∧ w = w' := by
  by_cases h1 : 1 ≤ n
  · by_cases h2 : n ≤ 1099511627776
    · go_enter Tryz.func38, Tryz.ntmps38
      go_wp2
      go_ret
      refine ⟨congrArg (fun b => Ending.returned (.bool b)) ?_, rfl⟩
      unfold powB
      rw [decide_eq_true ⟨h1, h2⟩, Bool.true_and]
    · have h3 : 1099511627776 < n := by omega
      clear h2
      go_enter Tryz.func38, Tryz.ntmps38
      go_wp2
      go_ret
      refine ⟨congrArg (fun b => Ending.returned (.bool b)) ?_, rfl⟩
      unfold powB
      rw [decide_eq_false (by omega), Bool.false_and]
  · have h3 : n < 1 := by omega
    clear h1
    go_enter Tryz.func38, Tryz.ntmps38
    go_wp2
    go_ret
    refine ⟨congrArg (fun b => Ending.returned (.bool b)) ?_, rfl⟩
    unfold powB
    rw [decide_eq_false (by omega), Bool.false_and]

def pagesv (n : Int) : Int := max ((n + 255) / 256) 1
theorem isB_yes {n : Int} (h1 : 0 ≤ n) (h2 : n ≤ 1099511627776) : isB n = true := decide_eq_true ⟨h1, h2⟩
theorem isB_no {n : Int} (h : n < 0 ∨ 1099511627776 < n) : isB n = false := decide_eq_false (by omega)

theorem ret_int2 {k : IntKind} {a b : Int} {v : Value} (h : a = b) : Ending.returned (.tuple #[.int k a, v]) = .returned (.tuple #[.int k b, v]) := by rw [h]

set_option maxHeartbeats 400000 in
theorem pages_yes (n : Int) (w : World) (h1 : 0 ≤ n) (h2 : n ≤ 1099511627776) :
    Calls Tryz.prog 39 #[.int .i64 n] w fun e w' => e = .returned (.tuple #[.int .i64 (pagesv n), .int .i64 0]) ∧ w = w' := by
  have hb := Lib.hid (isB_yes h1 h2)
  go_enter Tryz.func39, Tryz.ntmps39
  go_wp2_with (go_at_call 65; refine (is_any _ _).mono ?_; rintro e w' ⟨rfl, rfl⟩; rw [hb.out])
  all_goals
    go_ret2
    refine ⟨ret_int2 ?_, rfl⟩
    unfold pagesv
    omega

set_option maxHeartbeats 400000 in
theorem pages_no (n : Int) (w : World) (h : n < 0 ∨ 1099511627776 < n) :
    Calls Tryz.prog 39 #[.int .i64 n] w fun e w' => e = .returned (.tuple #[.int .i64 0, .int .i64 11]) ∧ w = w' := by
  have hb := Lib.hid (isB_no h)
  go_enter Tryz.func39, Tryz.ntmps39
  go_wp2_with (go_at_call 65; refine (is_any _ _).mono ?_; rintro e w' ⟨rfl, rfl⟩; rw [hb.out])
  go_ret2
  exact ⟨rfl, rfl⟩
end Go.Proofs.YtcleopoapogcgaaGreatDoor
namespace Go.Proofs.YtcleopoapogcgaaGreatDoor
open Go.RowKit
def stepv (n : Int) : Int := max (n / 256) 1
theorem ret_int3 {k : IntKind} {a b c d : Int} {v : Value} (h : a = b) (h' : c = d) : Ending.returned (.tuple #[.int k a, .int k c, v]) = .returned (.tuple #[.int k b, .int k d, v]) := by rw [h, h']
set_option maxHeartbeats 400000 in
theorem shape_yes (n c : Int) (w : World) (h1 : 0 ≤ n) (h2 : n ≤ 1099511627776) (hc : alignB c = true) :
    Calls Tryz.prog 19 #[.int .i64 n, .int .i64 c] w fun e w' => e = .returned (.tuple #[.int .i64 (pagesv n), .int .i64 (stepv c), .int .i64 0]) ∧ w = w' := by
  have hb := align_bd hc
  have hp := Lib.hid (pow_align hb.2)
  have hc' := Lib.hid hc
  obtain ⟨hb1, hb2⟩ := hb
  clear hc
  go_enter Tryz.func19, Tryz.ntmps19
  go_wp2_with (first | (go_at_call 38; refine (power_any _ _).mono ?_; rintro e w' ⟨rfl, rfl⟩; rw [hp.out, hc'.out]) | (go_at_call 39; refine (pages_yes _ _ (by omega) (by omega)).mono ?_; rintro e w' ⟨rfl, rfl⟩))
  all_goals
    go_ret3
    refine ⟨ret_int3 rfl ?_, rfl⟩
    unfold stepv
    omega
set_option maxHeartbeats 400000 in
theorem shape_no (n c : Int) (w : World) (h : n < 0 ∨ 1099511627776 < n) (hc : alignB c = true) :
    Calls Tryz.prog 19 #[.int .i64 n, .int .i64 c] w fun e w' => e = .returned (.tuple #[.int .i64 0, .int .i64 0, .int .i64 11]) ∧ w = w' := by
  have hb := align_bd hc
  have hp := Lib.hid (pow_align hb.2)
  have hc' := Lib.hid hc
  obtain ⟨hb1, hb2⟩ := hb
  have h' := Lib.hid h
  clear hc h
  go_enter Tryz.func19, Tryz.ntmps19
  go_wp2_with (first | (go_at_call 38; refine (power_any _ _).mono ?_; rintro e w' ⟨rfl, rfl⟩; rw [hp.out, hc'.out]) | (go_at_call 39; refine (pages_no _ _ h'.out).mono ?_; rintro e w' ⟨rfl, rfl⟩))
  go_ret3
  exact ⟨rfl, rfl⟩
set_option maxHeartbeats 400000 in
theorem shape_odd (n c : Int) (w : World) (hc : alignB c = false) :
    Calls Tryz.prog 19 #[.int .i64 n, .int .i64 c] w fun e w' => e = .returned (.tuple #[.int .i64 0, .int .i64 0, .int .i64 11]) ∧ w = w' := by
  by_cases hb : c ≤ 4096
  · have hp := Lib.hid (pow_align hb)
    have hc' := Lib.hid hc
    clear hc
    go_enter Tryz.func19, Tryz.ntmps19
    go_wp2_with ((go_at_call 38; refine (power_any _ _).mono ?_; rintro e w' ⟨rfl, rfl⟩; rw [hp.out, hc'.out]))
    go_ret3
    exact ⟨rfl, rfl⟩
  · have hb' : 4096 < c := by omega
    clear hb hc
    cases hp : powB c
    all_goals
      have hp' := Lib.hid hp
      clear hp
      go_enter Tryz.func19, Tryz.ntmps19
      go_wp2_with ((go_at_call 38; refine (power_any _ _).mono ?_; rintro e w' ⟨rfl, rfl⟩; rw [hp'.out]))
      go_ret3
      exact ⟨rfl, rfl⟩
end Go.Proofs.YtcleopoapogcgaaGreatDoor

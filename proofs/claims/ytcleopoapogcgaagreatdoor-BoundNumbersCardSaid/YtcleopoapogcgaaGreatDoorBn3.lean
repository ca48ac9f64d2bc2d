/- The reference of an alignment answers as the list of the 13 powers, for every number; no condition. -/
import Derived.Test.YtcleopoapogcgaaGreatDoorBn2
namespace Go.Proofs.YtcleopoapogcgaaGreatDoor
open Go.RowKit

def powers : List (Int × Nat) := [(1, 0), (2, 1), (4, 2), (8, 3), (16, 4), (32, 5), (64, 6), (128, 7), (256, 8), (512, 9), (1024, 10), (2048, 11), (4096, 12), (8192, 13)]
/-- Where the reference's search stands: behind 'k' powers. -/
def AtPower (c : Int) (p : Value) : Prop := ∃ (n : Int) (k : Nat), (n, k) ∈ powers ∧ p = .int .i64 n ∧ Hid (alignB c = (aligns.drop k).contains c)
theorem drop_no {c n : Int} {l : List Int} {b : Bool} (h : Hid (b = (n :: l).contains c)) (hn : ¬ n = c) : Hid (b = l.contains c) := by
  refine Lib.hid ?_
  rw [h.out, List.contains_cons]
  have : (c == n) = false := by simpa using fun e => hn e.symm
  rw [this, Bool.false_or]

theorem next_power {c n : Int} {k : Nat} (hk : (n, k) ∈ powers) (hn : n ≤ 4096) (hr : Hid (alignB c = (aligns.drop k).contains c)) (hne : (n == c) = false) : AtPower c (.int .i64 (n * 2)) := by
  have hne' : ¬ n = c := fun e => by subst e; simp at hne
  unfold powers at hk
  simp only [List.mem_cons, Prod.mk.injEq, List.not_mem_nil, or_false] at hk
  rcases hk with ⟨rfl, rfl⟩ | ⟨rfl, rfl⟩ | ⟨rfl, rfl⟩ | ⟨rfl, rfl⟩ | ⟨rfl, rfl⟩ | ⟨rfl, rfl⟩ | ⟨rfl, rfl⟩ | ⟨rfl, rfl⟩ | ⟨rfl, rfl⟩ | ⟨rfl, rfl⟩ | ⟨rfl, rfl⟩ | ⟨rfl, rfl⟩ | ⟨rfl, rfl⟩ | ⟨rfl, rfl⟩
  · exact ⟨_, 1, by unfold powers; decide, rfl, drop_no hr hne'⟩
  · exact ⟨_, 2, by unfold powers; decide, rfl, drop_no hr hne'⟩
  · exact ⟨_, 3, by unfold powers; decide, rfl, drop_no hr hne'⟩
  · exact ⟨_, 4, by unfold powers; decide, rfl, drop_no hr hne'⟩
  · exact ⟨_, 5, by unfold powers; decide, rfl, drop_no hr hne'⟩
  · exact ⟨_, 6, by unfold powers; decide, rfl, drop_no hr hne'⟩
  · exact ⟨_, 7, by unfold powers; decide, rfl, drop_no hr hne'⟩
  · exact ⟨_, 8, by unfold powers; decide, rfl, drop_no hr hne'⟩
  · exact ⟨_, 9, by unfold powers; decide, rfl, drop_no hr hne'⟩
  · exact ⟨_, 10, by unfold powers; decide, rfl, drop_no hr hne'⟩
  · exact ⟨_, 11, by unfold powers; decide, rfl, drop_no hr hne'⟩
  · exact ⟨_, 12, by unfold powers; decide, rfl, drop_no hr hne'⟩
  · exact ⟨_, 13, by unfold powers; decide, rfl, drop_no hr hne'⟩
  · omega

set_option maxHeartbeats 1000000 in
theorem align_any (c : Int) (w : World) :
    Calls Tryz.prog 43 #[.int .i64 c] w fun e w' => e = .returned (.bool (alignB c)) ∧ w = w' := by
  go_enter Tryz.func43, Tryz.ntmps43
  go_wp2
  go_loop [3] (AtPower c) (fun p => (8192 - intOf p).toNat)
  case atStart => exact ⟨1, 0, by unfold powers; simp, rfl, Lib.hid rfl⟩
  case round =>
    obtain ⟨n, k, hk, rfl, hr⟩ := hrel
    have hk0 := hk
    unfold powers at hk
    simp only [List.mem_cons, Prod.mk.injEq, List.not_mem_nil, or_false] at hk
    rcases hk with ⟨rfl, rfl⟩ | ⟨rfl, rfl⟩ | ⟨rfl, rfl⟩ | ⟨rfl, rfl⟩ | ⟨rfl, rfl⟩ | ⟨rfl, rfl⟩ | ⟨rfl, rfl⟩ | ⟨rfl, rfl⟩ | ⟨rfl, rfl⟩ | ⟨rfl, rfl⟩ | ⟨rfl, rfl⟩ | ⟨rfl, rfl⟩ | ⟨rfl, rfl⟩ | ⟨rfl, rfl⟩
    case inr.inr.inr.inr.inr.inr.inr.inr.inr.inr.inr.inr.inr =>
      go_wp2
      go_ret
      refine ⟨congrArg (fun b => Ending.returned (.bool b)) ?_, rfl⟩
      rw [hr.out]; rfl
    all_goals
      go_wp2
      · go_ret
        refine ⟨congrArg (fun b => Ending.returned (.bool b)) ?_, rfl⟩
        have e := eq_of_beq ‹((_ : Int) == c) = true›
        subst e
        rfl
      · go_round
        case rel =>
          exact next_power hk0 (by omega) hr ‹((_ : Int) == c) = false›
        case measure => simp [intOf]
end Go.Proofs.YtcleopoapogcgaaGreatDoor

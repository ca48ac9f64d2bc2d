/- How many of a list in order are smaller than a number; plain lists, no condition. -/
import Derived.Test.YtcleopoapogcgaaGreatDoorBn8
namespace Go.Proofs.YtcleopoapogcgaaGreatDoor
open Go.RowKit Go.Up

/-- How many of a list are smaller. -/
def under (L : List Int) (n : Int) : Nat := (L.filter fun s => decide (s < n)).length
/-- Is a list in order? -/
def ordB : List Int → Bool
  | [] => true
  | a :: l => l.all (fun b => decide (a < b)) && ordB l
theorem under_le (L : List Int) (n : Int) : under L n ≤ L.length := List.length_filter_le _ _
theorem under_spec {L : List Int} (h : ordB L = true) (n : Int) : ∀ (j : Nat) (hj : j < L.length), (L[j] < n ↔ j < under L n) := by
  induction L with
  | nil => intro j hj; cases hj
  | cons a l ih =>
    simp only [ordB, Bool.and_eq_true, List.all_eq_true, decide_eq_true_eq] at h
    obtain ⟨h1, h2⟩ := h
    intro j hj
    have hu : under (a :: l) n = (if a < n then 1 else 0) + under l n := by
      unfold under
      rw [List.filter_cons]
      by_cases ha : a < n
      · simp [ha]; omega
      · simp [ha]
    rw [hu]
    cases j with
    | zero =>
      by_cases ha : a < n
      · simp [ha]; omega
      · have : under l n = 0 := by
          unfold under
          rw [List.length_eq_zero_iff, List.filter_eq_nil_iff]
          intro b hb
          have := h1 b hb
          simp; omega
        simp [ha, this]
    | succ j =>
      have hj' : j < l.length := by simpa using hj
      have e : (a :: l)[j + 1] = l[j] := rfl
      have hi := ih h2 j hj'
      rw [e]
      by_cases ha : a < n
      · rw [if_pos ha]; omega
      · have h3 : ¬ l[j] < n := by have := h1 l[j] (List.getElem_mem hj'); omega
        rw [if_neg ha]
        omega
theorem ord_0 : ordB sizes0 = true := by decide
theorem ord_1 : ordB sizes1 = true := by decide
end Go.Proofs.YtcleopoapogcgaaGreatDoor

/- What tableb.Class answers at a version that has sizes; from every world with a block. -/
import Derived.Test.YtcleopoapogcgaaGreatDoorBn10
namespace Go.Proofs.YtcleopoapogcgaaGreatDoor
open Go.RowKit Go.Up

/-- Has a list a class for a size? -/
def classB (L : List Int) (n : Int) : Bool := decide (0 ≤ n ∧ under L n < L.length)
/-- The class of a size. -/
def classv (L : List Int) (n : Int) : Int := if classB L n = true then under L n else -1
theorem ret_both {a b : Int} {x y : Bool} (h : a = b) (h' : x = y) : Ending.returned (.tuple #[.int .i64 a, .bool x]) = .returned (.tuple #[.int .i64 b, .bool y]) := by rw [h, h']

/-- A layout whose sizes are these. -/
structure Layout (a : Int) (L : List Int) : Prop where
  few : L.length ≤ 100
  some : 0 < L.length
  ord : ordB L = true
  pos : ∀ (j : Nat) (h : j < L.length), 0 ≤ L[j] ∧ L[j] ≤ 512
  sizes : ∀ w1 : World, 0 < w1.heap.size → Calls Tryz.prog 20 #[.int .i64 a] w1 (Ints L w1)
  rsizes : ∀ w1 : World, 0 < w1.heap.size → Calls Tryz.prog 24 #[.int .i64 a] w1 (Ints L w1)
theorem layout_0 : Layout 0 sizes0 := ⟨by decide, by decide, ord_0, by decide, sizes_0, rsizes_0⟩
theorem layout_1 : Layout 1 sizes1 := ⟨by decide, by decide, ord_1, by decide, sizes_1, rsizes_1⟩

set_option maxHeartbeats 1000000 in
theorem class_any {a : Int} {L : List Int} (hl : Layout a L) (n : Int) (w : World) (hw : 0 < w.heap.size) :
    Calls Tryz.prog 42 #[.int .i64 a, .int .i64 n] w fun e w' => e = .returned (.tuple #[.int .i64 (classv L n), .bool (classB L n)]) ∧ Below w.heap.size w w' := by
  have hs := Lib.hid (hl.sizes w hw)
  have hu := under_le L n
  have hsr := fun b cap (w1 : World) (hc : ∀ (j : Nat) (h : j < L.length), w1.cell? ⟨b, j, none⟩ = some (.int .i64 L[j])) => search_any L n b cap w1 hl.few hl.ord hc
  have hsr' := Lib.hid hsr
  have hfew := hl.few
  clear hsr
  by_cases h0 : 0 ≤ n
  · by_cases h1 : under L n < L.length
    · have e1 : classB L n = true := decide_eq_true ⟨h0, h1⟩
      have e2 := Lib.hid (show classv L n = under L n from if_pos e1)
      have e1' := Lib.hid e1
      have hne : ((under L n : Int) == (L.length : Int)) = false := by simp; omega
      clear e1
      go_enter Tryz.func42, Tryz.ntmps42
      go_wp2_with (first | (go_at_call 20; refine hs.out.mono ?_; rintro e w1 ⟨b, cap, rfl, hb1, hc1, hb2⟩; have hc1' := Lib.hid hc1; clear hc1) | (go_at_call 68; refine (hsr'.out _ _ _ hc1'.out).mono ?_; rintro e w' ⟨f, rfl, rfl⟩))
      all_goals
        go_ret2
        exact ⟨ret_both e2.out.symm e1'.out.symm, hb2⟩
    · have e1 : classB L n = false := decide_eq_false (by omega)
      have e2 := Lib.hid (show classv L n = -1 from if_neg (by rw [e1]; decide))
      have e1' := Lib.hid e1
      have h2 : (under L n : Int) = L.length := by omega
      have h2' := Lib.hid h2
      clear e1 h2 h1
      have hsr2 : Hid (∀ b cap (w1 : World) (hc : ∀ (j : Nat) (h : j < L.length), w1.cell? ⟨b, j, none⟩ = some (.int .i64 L[j])), Calls Tryz.prog 68 #[.slice (some ⟨b, 0, none⟩) L.length cap, .int .i64 n] w1 fun e w' => ∃ f : Bool, e = .returned (.tuple #[.int .i64 (L.length : Int), .bool f]) ∧ w1 = w') :=
        Lib.hid fun b cap w1 hc => (hsr'.out b cap w1 hc).mono fun e w' ⟨f, hf, hw'⟩ => ⟨f, by rw [hf, h2'.out], hw'⟩
      go_enter Tryz.func42, Tryz.ntmps42
      go_wp2_with (first | (go_at_call 20; refine hs.out.mono ?_; rintro e w1 ⟨b, cap, rfl, hb1, hc1, hb2⟩; have hc1' := Lib.hid hc1; clear hc1) | (go_at_call 68; refine (hsr2.out _ _ _ hc1'.out).mono ?_; rintro e w' ⟨f, rfl, rfl⟩))
      all_goals
        go_ret2
        exact ⟨ret_both e2.out.symm e1'.out.symm, hb2⟩
  · have e1 : classB L n = false := decide_eq_false (by omega)
    have e2 := Lib.hid (show classv L n = -1 from if_neg (by rw [e1]; decide))
    have e1' := Lib.hid e1
    have h0' : n < 0 := by omega
    clear e1 h0
    go_enter Tryz.func42, Tryz.ntmps42
    go_wp2_with (first | (go_at_call 20; refine hs.out.mono ?_; rintro e w1 ⟨b, cap, rfl, hb1, hc1, hb2⟩; have hc1' := Lib.hid hc1; clear hc1) | (go_at_call 68; refine (hsr'.out _ _ _ hc1'.out).mono ?_; rintro e w' ⟨f, rfl, rfl⟩))
    all_goals
      go_ret2
      exact ⟨ret_both e2.out.symm e1'.out.symm, hb2⟩
end Go.Proofs.YtcleopoapogcgaaGreatDoor

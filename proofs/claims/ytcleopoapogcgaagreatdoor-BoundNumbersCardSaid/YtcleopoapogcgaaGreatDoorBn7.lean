/- What tableb.Sizes, its reference and bound.Cached answer at every version; from every world with a block. -/
import Derived.Test.YtcleopoapogcgaaGreatDoorBn5
import Derived.Test.YtcleopoapogcgaaGreatDoorBn4
import Derived.Below
namespace Go.Proofs.YtcleopoapogcgaaGreatDoor
open Go.RowKit Go.Up

theorem bcell {W w1 : World} (hb : Below W.heap.size W w1) : (∀ b o, b < W.heap.size → w1.cell? ⟨b, o, none⟩ = W.cell? ⟨b, o, none⟩) ∧ (∀ b o, b < W.heap.size → w1.frozen? ⟨b, o, none⟩ = W.frozen? ⟨b, o, none⟩) :=
  ⟨fun b o h => hb.cell (p := ⟨b, o, none⟩) h, fun b o h => hb.frozen (p := ⟨b, o, none⟩) h⟩

/-- A layout's sizes; none of another. -/
def sizesOf (a : Int) : List Int := if a = 0 then sizes0 else if a = 1 then sizes1 else []

set_option maxHeartbeats 400000 in
theorem sizes_none (a : Int) (w : World) (h0 : ¬ a = 0) (h1 : ¬ a = 1) :
    Calls Tryz.prog 20 #[.int .i64 a] w fun e w' => e = .returned (.slice none 0 0) ∧ w = w' := by
  have e0 : (a == 0) = false := by simpa using h0
  have e1 : (a == 1) = false := by simpa using h1
  clear h0 h1
  go_enter Tryz.func20, Tryz.ntmps20
  go_wp2
  go_ret
  exact ⟨rfl, rfl⟩
set_option maxHeartbeats 400000 in
theorem rsizes_none (a : Int) (w : World) (h0 : ¬ a = 0) (h1 : ¬ a = 1) :
    Calls Tryz.prog 24 #[.int .i64 a] w fun e w' => e = .returned (.slice none 0 0) ∧ w = w' := by
  have e0 : (a == 0) = false := by simpa using h0
  have e1 : (a == 1) = false := by simpa using h1
  clear h0 h1
  go_enter Tryz.func24, Tryz.ntmps24
  go_wp2
  go_ret
  exact ⟨rfl, rfl⟩

/-- The answer is a slice of so many items; all that was is as it was. -/
def SomeSlice (n : Nat) (w : World) (e : Ending) (w' : World) : Prop := ∃ p cap, e = .returned (.slice p n cap) ∧ Below w.heap.size w w'

theorem sizes_len (a : Int) (w : World) (hw : 0 < w.heap.size) : Calls Tryz.prog 20 #[.int .i64 a] w (SomeSlice (sizesOf a).length w) := by
  unfold sizesOf
  by_cases h0 : a = 0
  · subst h0
    exact (sizes_0 w hw).mono fun e w' ⟨b, cap, h1, _, _, h4⟩ => ⟨_, cap, h1, h4⟩
  · by_cases h1 : a = 1
    · subst h1
      exact (sizes_1 w hw).mono fun e w' ⟨b, cap, h1, _, _, h4⟩ => ⟨_, cap, h1, h4⟩
    · rw [if_neg h0, if_neg h1]
      exact (sizes_none a w h0 h1).mono fun e w' ⟨h2, h3⟩ => ⟨none, 0, h2, h3 ▸ .refl _ _⟩
theorem rsizes_len (a : Int) (w : World) (hw : 0 < w.heap.size) : Calls Tryz.prog 24 #[.int .i64 a] w (SomeSlice (sizesOf a).length w) := by
  unfold sizesOf
  by_cases h0 : a = 0
  · subst h0
    exact (rsizes_0 w hw).mono fun e w' ⟨b, cap, h1, _, _, h4⟩ => ⟨_, cap, h1, h4⟩
  · by_cases h1 : a = 1
    · subst h1
      exact (rsizes_1 w hw).mono fun e w' ⟨b, cap, h1, _, _, h4⟩ => ⟨_, cap, h1, h4⟩
    · rw [if_neg h0, if_neg h1]
      exact (rsizes_none a w h0 h1).mono fun e w' ⟨h2, h3⟩ => ⟨none, 0, h2, h3 ▸ .refl _ _⟩

/-- How many addresses a cache has. -/
def cachedv (a : Int) : Int := 8 * (sizesOf a).length
theorem cached_cases (a : Int) : (sizesOf a).length = 16 ∨ (sizesOf a).length = 12 ∨ (sizesOf a).length = 0 := by
  unfold sizesOf
  split
  · exact .inl rfl
  · split
    · exact .inr (.inl rfl)
    · exact .inr (.inr rfl)
set_option maxHeartbeats 400000 in
theorem cached_any (a : Int) (w : World) (hw : 0 < w.heap.size) :
    Calls Tryz.prog 10 #[.int .i64 a] w fun e w' => e = .returned (.int .i64 (cachedv a)) ∧ Below w.heap.size w w' := by
  have hc := sizes_len a w hw
  unfold cachedv
  rcases cached_cases a with h | h | h <;> rw [h] at hc ⊢ <;> clear h
  all_goals
    go_enter Tryz.func10, Tryz.ntmps10
    go_wp2_with (go_at_call 20; refine hc.mono ?_; rintro e w' ⟨p, cap, rfl, hb⟩)
    go_ret
    exact ⟨rfl, hb⟩
end Go.Proofs.YtcleopoapogcgaaGreatDoor

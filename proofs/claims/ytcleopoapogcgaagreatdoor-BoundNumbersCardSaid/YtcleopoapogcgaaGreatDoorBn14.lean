/- What bound.Need and its reference answer; from every world with a block. -/
import Derived.Test.YtcleopoapogcgaaGreatDoorBn13
namespace Go.Proofs.YtcleopoapogcgaaGreatDoor
open Go.RowKit Go.Up

/-- What a call answers by three numbers. -/
def Three (p s e : Int) (w : World) (x : Ending) (w' : World) : Prop := x = .returned (.tuple #[.int .i64 p, .int .i64 s, .int .i64 e]) ∧ Below w.heap.size w w'

set_option maxHeartbeats 1000000 in
theorem need_shape (a b c : Int) (w : World)
    (h : ∀ w : World, Calls Tryz.prog 19 #[.int .i64 b, .int .i64 c] w fun e w' => e = .returned (.tuple #[.int .i64 0, .int .i64 0, .int .i64 11]) ∧ w = w') :
    Calls Tryz.prog 5 #[.int .i64 a, .int .i64 b, .int .i64 c] w (Three 0 0 11 w) := by
  have h' := Lib.hid h
  clear h
  go_enter Tryz.func5, Tryz.ntmps5
  go_wp2_with (go_at_call 19; refine (h'.out _).mono ?_; rintro e w' ⟨rfl, rfl⟩)
  go_ret3
  exact ⟨rfl, Below.refl _ _⟩
set_option maxHeartbeats 1000000 in
theorem need_none (a b c : Int) (w : World) (h0 : ¬ a = 0) (h1 : ¬ a = 1)
    (h : ∀ w : World, Calls Tryz.prog 19 #[.int .i64 b, .int .i64 c] w fun e w' => e = .returned (.tuple #[.int .i64 (pagesv b), .int .i64 (stepv c), .int .i64 0]) ∧ w = w') :
    Calls Tryz.prog 5 #[.int .i64 a, .int .i64 b, .int .i64 c] w (Three 0 0 11 w) := by
  have h' := Lib.hid h
  have hs := Lib.hid (fun w => sizes_none a w h0 h1)
  clear h h0 h1
  generalize pagesv b = p at h'
  generalize stepv c = s at h'
  go_enter Tryz.func5, Tryz.ntmps5
  go_wp2_with (first | (go_at_call 19; refine (h'.out _).mono ?_; rintro e w' ⟨rfl, rfl⟩) | (go_at_call 20; refine (hs.out _).mono ?_; rintro e w' ⟨rfl, rfl⟩))
  go_ret3
  exact ⟨rfl, Below.refl _ _⟩
set_option maxHeartbeats 1000000 in
theorem need_full {a : Int} {L : List Int} (hl : Layout a L) (b c : Int) (w : World) (hw : 0 < w.heap.size) (ha : alignB c = true)
    (h : ∀ w : World, Calls Tryz.prog 19 #[.int .i64 b, .int .i64 c] w fun e w' => e = .returned (.tuple #[.int .i64 (pagesv b), .int .i64 (stepv c), .int .i64 0]) ∧ w = w') :
    Calls Tryz.prog 5 #[.int .i64 a, .int .i64 b, .int .i64 c] w (Three (if smallB L b c = true then 4 else pagesv b) (if smallB L b c = true then 4 else stepv c) 0 w) := by
  have h' := Lib.hid h
  have hs : ∀ w1, Below w.heap.size w w1 → Calls Tryz.prog 20 #[.int .i64 a] w1 fun e w' => ∃ p cap, e = .returned (.slice p L.length cap) ∧ Below w.heap.size w w' := fun w1 hb =>
    (hl.sizes w1 (Nat.lt_of_lt_of_le hw hb.size)).mono fun e w' ⟨b, cap, h1, _, h3, h4⟩ => ⟨_, cap, h1, hb.trans (h4.mono hb.size)⟩
  have hal : ∀ w1, Below w.heap.size w w1 → Calls Tryz.prog 21 #[.int .i64 a, .int .i64 b, .int .i64 c] w1 fun e w' => ∃ r : Int, e = .returned (.tuple #[.int .i64 r, .bool (smallB L b c)]) ∧ Below w.heap.size w w' := fun w1 hb => by
    have hw1 := Nat.lt_of_lt_of_le hw hb.size
    refine Calls.mono (R := SomeClass (smallB L b c) w1) ?_ fun e w' ⟨r, h1, h2⟩ => ⟨r, h1, hb.trans (h2.mono hb.size)⟩
    cases hc : classB L b
    · exact aligned_no hl b c w1 hw1 hc
    · exact aligned_any hl b c w1 hw1 ha hc
  have hs' := Lib.hid hs
  have hsome := hl.some
  have hfew := hl.few
  clear h hl ha hs
  generalize pagesv b = p at h'
  generalize stepv c = s at h'
  cases hq : smallB L b c
  all_goals
    rw [hq] at hal
    have hal' := Lib.hid hal
    clear hq hal
    go_enter Tryz.func5, Tryz.ntmps5
    go_wp2_with (first | (go_at_call 19; refine (h'.out _).mono ?_; rintro e w' ⟨rfl, rfl⟩) | (go_at_call 20; refine (hs'.out _ (Below.refl _ _)).mono ?_; rintro e w1 ⟨q, cap, rfl, hb⟩) | (go_at_call 21; refine (hal'.out _ hb).mono ?_; rintro e w2 ⟨r, rfl, hb2⟩))
    go_ret3
    exact ⟨rfl, hb2⟩

set_option maxHeartbeats 1000000 in
theorem rneed_shape (a b c : Int) (w : World)
    (h : ∀ w : World, Calls Tryz.prog 22 #[.int .i64 b, .int .i64 c] w fun e w' => e = .returned (.tuple #[.int .i64 0, .int .i64 0, .int .i64 11]) ∧ w = w') :
    Calls Tryz.prog 6 #[.int .i64 a, .int .i64 b, .int .i64 c] w (Three 0 0 11 w) := by
  have h' := Lib.hid h
  clear h
  go_enter Tryz.func6, Tryz.ntmps6
  go_wp2_with (go_at_call 22; refine (h'.out _).mono ?_; rintro e w' ⟨rfl, rfl⟩)
  go_ret3
  exact ⟨rfl, Below.refl _ _⟩
set_option maxHeartbeats 1000000 in
theorem rneed_none (a b c : Int) (w : World) (h0 : ¬ a = 0) (h1 : ¬ a = 1)
    (h : ∀ w : World, Calls Tryz.prog 22 #[.int .i64 b, .int .i64 c] w fun e w' => e = .returned (.tuple #[.int .i64 (pagesv b), .int .i64 (stepv c), .int .i64 0]) ∧ w = w') :
    Calls Tryz.prog 6 #[.int .i64 a, .int .i64 b, .int .i64 c] w (Three 0 0 11 w) := by
  have h' := Lib.hid h
  have e0 : (a == 0) = false := by simpa using h0
  have e1 : (a == 1) = false := by simpa using h1
  have f0 : (a != 0) = true := by simpa using h0
  have f1 : (a != 1) = true := by simpa using h1
  clear h h0 h1
  generalize pagesv b = p at h'
  generalize stepv c = s at h'
  go_enter Tryz.func6, Tryz.ntmps6
  go_wp2_with (first | (go_at_call 22; refine (h'.out _).mono ?_; rintro e w' ⟨rfl, rfl⟩))
  go_ret3
  exact ⟨rfl, Below.refl _ _⟩
set_option maxHeartbeats 1000000 in
theorem rneed_full {a : Int} {L : List Int} (hl : Layout a L) (hv : a = 0 ∨ a = 1) (b c : Int) (w : World) (hw : 0 < w.heap.size) (ha : alignB c = true)
    (h : ∀ w : World, Calls Tryz.prog 22 #[.int .i64 b, .int .i64 c] w fun e w' => e = .returned (.tuple #[.int .i64 (pagesv b), .int .i64 (stepv c), .int .i64 0]) ∧ w = w') :
    Calls Tryz.prog 6 #[.int .i64 a, .int .i64 b, .int .i64 c] w (Three (if smallB L b c = true then 4 else pagesv b) (if smallB L b c = true then 4 else stepv c) 0 w) := by
  have h' := Lib.hid h
  have hs := Lib.hid (hl.rsizes w hw)
  have hf : ∀ (q cap : Nat) (w1 : World), (∀ (j : Nat) (h : j < L.length), w1.cell? ⟨q, j, none⟩ = some (.int .i64 L[j])) → Calls Tryz.prog 23 #[.slice (some ⟨q, 0, none⟩) L.length cap, .int .i64 b, .int .i64 c] w1 (SomePlace (smallB L b c) w1) := fun q cap w1 hc => by
    by_cases hb : b < 0 ∨ 512 < b
    · exact first_out L b c _ _ cap w1 hl.pos hb
    · exact first_in L b c q cap w1 hl.few hl.pos hc (by omega) (by omega) (align_bd ha).1
  have hsome := hl.some
  have hfew := hl.few
  clear h hl ha
  generalize pagesv b = p at h'
  generalize stepv c = s at h'
  cases hq : smallB L b c
  all_goals
    rw [hq] at hf
    have hf' := Lib.hid hf
    clear hq hf
    rcases hv with rfl | rfl
  all_goals
    go_enter Tryz.func6, Tryz.ntmps6
    go_wp2_with (first | (go_at_call 22; refine (h'.out _).mono ?_; rintro e w' ⟨rfl, rfl⟩) | (go_at_call 24; refine hs.out.mono ?_; rintro e w1 ⟨q, cap, rfl, hq1, hc1, hb⟩; have hc1' := Lib.hid hc1; clear hc1) | (go_at_call 23; refine (hf'.out _ _ _ hc1'.out).mono ?_; rintro e w' ⟨r, rfl, hr, rfl⟩))
    go_ret3
    exact ⟨rfl, hb⟩
end Go.Proofs.YtcleopoapogcgaaGreatDoor

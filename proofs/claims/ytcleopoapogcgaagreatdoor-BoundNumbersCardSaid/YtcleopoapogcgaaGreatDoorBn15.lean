/- The call underpinlaw28.BoundNumbers answers true at every three numbers; from every world with a block. -/
import Derived.Test.YtcleopoapogcgaaGreatDoorBn14
import Derived.Test.YtcleopoapogcgaaGreatDoorBn6
namespace Go.Proofs.YtcleopoapogcgaaGreatDoor
open Go.RowKit Go.Up

theorem need_both (a b c : Int) : ∃ p s e : Int, (∀ w : World, 0 < w.heap.size → Calls Tryz.prog 5 #[.int .i64 a, .int .i64 b, .int .i64 c] w (Three p s e w)) ∧ (∀ w : World, 0 < w.heap.size → Calls Tryz.prog 6 #[.int .i64 a, .int .i64 b, .int .i64 c] w (Three p s e w)) := by
  cases ha : alignB c
  · refine ⟨0, 0, 11, fun w _ => need_shape a b c w fun w => shape_odd b c w ha, fun w _ => rneed_shape a b c w fun w => ?_⟩
    by_cases hb : b < 0 ∨ 1099511627776 < b
    · exact rshape_no b c w hb
    · exact rshape_odd b c w (by omega) (by omega) ha
  · by_cases hb : b < 0 ∨ 1099511627776 < b
    · exact ⟨0, 0, 11, fun w _ => need_shape a b c w fun w => shape_no b c w hb ha, fun w _ => rneed_shape a b c w fun w => rshape_no b c w hb⟩
    · have h1 : 0 ≤ b := by omega
      have h2 : b ≤ 1099511627776 := by omega
      have hs := fun w => shape_yes b c w h1 h2 ha
      have hr := fun w => rshape_yes b c w h1 h2 ha
      by_cases h0 : a = 0
      · subst h0
        exact ⟨_, _, _, fun w hw => need_full layout_0 b c w hw ha hs, fun w hw => rneed_full layout_0 (.inl rfl) b c w hw ha hr⟩
      · by_cases h3 : a = 1
        · subst h3
          exact ⟨_, _, _, fun w hw => need_full layout_1 b c w hw ha hs, fun w hw => rneed_full layout_1 (.inr rfl) b c w hw ha hr⟩
        · exact ⟨0, 0, 11, fun w _ => need_none a b c w h0 h3 hs, fun w _ => rneed_none a b c w h0 h3 hr⟩

/-- A call's answer is one value; all that was before the first world is as it was. -/
theorem onward {P : Program} {f : FuncId} {args : Array Value} {v : Ending} {w : World} (hw : 0 < w.heap.size) (h : ∀ w1 : World, 0 < w1.heap.size → Calls P f args w1 fun e w' => e = v ∧ Below w1.heap.size w1 w') :
    Hid (∀ w1, Below w.heap.size w w1 → Calls P f args w1 fun e w' => e = v ∧ Below w.heap.size w w') :=
  Lib.hid fun w1 hb => (h w1 (Nat.lt_of_lt_of_le hw hb.size)).mono fun _ _ ⟨h1, h2⟩ => ⟨h1, hb.trans (h2.mono hb.size)⟩

set_option maxRecDepth 100000 in
set_option maxHeartbeats 4000000 in
theorem bound_numbers (a b c : Int) (w : World) (hw : 0 < w.heap.size) :
    Calls Tryz.prog 3 #[.int .i64 a, .int .i64 b, .int .i64 c] w fun e w' => e = .returned (.bool true) ∧ Below w.heap.size w w' := by
  obtain ⟨p, s, e, hn, hr⟩ := need_both a b c
  have h15 := onward hw alive_any
  have h16 := onward hw hn
  have h17 := onward hw hr
  have h18 := onward hw (rshake_any a)
  have h19 : Hid (∀ w1, Calls Tryz.prog 8 #[.int .i64 b] w1 fun e w' => e = .returned (.int .i64 (cutv b + 1)) ∧ w1 = w') := Lib.hid fun w1 => ack_any b w1
  have h20 : Hid (∀ n w1, Calls Tryz.prog 9 #[.int .i64 n] w1 fun e w' => e = .returned (.int .i64 (cutv n)) ∧ w1 = w') := Lib.hid fun n w1 => rcut_any n w1
  have h21 := onward hw (cached_any a)
  have h22 := onward hw (shake_any a)
  have h23 : Hid (∀ w1, Calls Tryz.prog 12 #[.int .i64 b, .int .i64 c] w1 fun e w' => e = .returned (.int .i64 (cutv b + cutv c + 4)) ∧ w1 = w') := Lib.hid fun w1 => rest_any b c w1
  have h24 := onward hw (slabs_any c)
  have hb := cutv_bd b
  have hc := cutv_bd c
  unfold cachedv at h21
  unfold shakev at h18 h22
  clear hn hr
  rcases cached_cases a with h | h | h <;> rw [h] at h18 h21 h22 <;> clear h
  all_goals
    go_enter Tryz.func3, Tryz.ntmps3
    go_wp2_with (first
      | (go_at_call 4; refine (h15.out _ (Below.refl _ _)).mono ?_; rintro e w1 ⟨rfl, hb1⟩)
      | (go_at_call 5; refine (h16.out _ (by assumption)).mono ?_; rintro e w2 ⟨rfl, hb2⟩)
      | (go_at_call 6; refine (h17.out _ (by assumption)).mono ?_; rintro e w3 ⟨rfl, hb3⟩)
      | (go_at_call 7; refine (h18.out _ (by assumption)).mono ?_; rintro e w4 ⟨rfl, hb4⟩)
      | (go_at_call 8; refine (h19.out _).mono ?_; rintro e w' ⟨rfl, rfl⟩)
      | (go_at_call 9; refine (h20.out _ _).mono ?_; rintro e w' ⟨rfl, rfl⟩)
      | (go_at_call 10; refine (h21.out _ (by assumption)).mono ?_; rintro e w5 ⟨rfl, hb5⟩)
      | (go_at_call 11; refine (h22.out _ (by assumption)).mono ?_; rintro e w6 ⟨rfl, hb6⟩)
      | (go_at_call 12; refine (h23.out _).mono ?_; rintro e w' ⟨rfl, rfl⟩)
      | (go_at_call 13; refine (h24.out _ (by assumption)).mono ?_; rintro e w7 ⟨rfl, hb7⟩))
    go_ret
    exact ⟨rfl, by assumption⟩
end Go.Proofs.YtcleopoapogcgaaGreatDoor

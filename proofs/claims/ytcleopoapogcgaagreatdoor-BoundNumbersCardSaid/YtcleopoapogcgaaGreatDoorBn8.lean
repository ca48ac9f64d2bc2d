/- What bound.Shake, its reference and bound.Slabs answer at every number; from every world with a block. -/
import Derived.Test.YtcleopoapogcgaaGreatDoorBn7
namespace Go.Proofs.YtcleopoapogcgaaGreatDoor
open Go.RowKit Go.Up

/-- How many steps of a worker it takes. -/
def shakev (a : Int) : Int := if (sizesOf a).length = 0 then 0 else 19 + 8 * (sizesOf a).length
theorem len_0 : (sizesOf 0).length = 16 := rfl
theorem len_1 : (sizesOf 1).length = 12 := rfl
theorem cut_128 : cutv 128 + 1 = 129 := by decide
theorem cut_96 : cutv 96 + 1 = 97 := by decide
set_option maxHeartbeats 400000 in
theorem rshake_any (a : Int) (w : World) (hw : 0 < w.heap.size) :
    Calls Tryz.prog 7 #[.int .i64 a] w fun e w' => e = .returned (.int .i64 (shakev a)) ∧ Below w.heap.size w w' := by
  have hc := rsizes_len a w hw
  unfold shakev
  rcases cached_cases a with h | h | h <;> rw [h] at hc ⊢ <;> clear h
  all_goals
    go_enter Tryz.func7, Tryz.ntmps7
    go_wp2_with (go_at_call 24; refine hc.mono ?_; rintro e w' ⟨p, cap, rfl, hb⟩)
    go_ret
    exact ⟨rfl, hb⟩
set_option maxHeartbeats 400000 in
theorem shake_any (a : Int) (w : World) (hw : 0 < w.heap.size) :
    Calls Tryz.prog 11 #[.int .i64 a] w fun e w' => e = .returned (.int .i64 (shakev a)) ∧ Below w.heap.size w w' := by
  have hc := cached_any a w hw
  unfold cachedv at hc
  unfold shakev
  have ho : ∀ w1, Below w.heap.size w w1 → Calls Tryz.prog 18 #[] w1 fun e w' => e = .returned (.int .i64 18) ∧ Below w.heap.size w w' := fun w1 hb =>
    (op_any w1 (Nat.lt_of_lt_of_le hw hb.size)).mono fun e w' ⟨h1, h2⟩ => ⟨h1, hb.trans (h2.mono hb.size)⟩
  have ho' := Lib.hid ho
  clear ho
  rcases cached_cases a with h | h | h <;> rw [h] at hc ⊢ <;> clear h
  all_goals
    go_enter Tryz.func11, Tryz.ntmps11
    go_wp2_with (first | (go_at_call 10; refine hc.mono ?_; rintro e w' ⟨rfl, hb⟩) | (go_at_call 18; refine (ho'.out _ hb).mono ?_; rintro e w1 ⟨rfl, hb1⟩) | (go_at_call 8; refine (ack_any _ _).mono ?_; rintro e w' ⟨rfl, rfl⟩; rw [show cutv _ + 1 = _ from by first | exact cut_128 | exact cut_96]))
    go_ret
    first | exact ⟨rfl, hb1⟩ | exact ⟨rfl, hb⟩
set_option maxHeartbeats 400000 in
theorem slabs_any (n : Int) (w : World) (hw : 0 < w.heap.size) :
    Calls Tryz.prog 13 #[.int .i64 n] w fun e w' => e = .returned (.int .i64 (cutv n + 28)) ∧ Below w.heap.size w w' := by
  have hb0 := cutv_bd n
  have h0 : ∀ a w1, Below w.heap.size w w1 → Calls Tryz.prog 20 #[.int .i64 a] w1 fun e w' => ∃ p cap, e = .returned (.slice p (sizesOf a).length cap) ∧ Below w.heap.size w w' := fun a w1 hb =>
    (sizes_len a w1 (Nat.lt_of_lt_of_le hw hb.size)).mono fun e w' ⟨p, c, h1, h2⟩ => ⟨p, c, h1, hb.trans (h2.mono hb.size)⟩
  have h0' := Lib.hid h0
  clear h0
  go_enter Tryz.func13, Tryz.ntmps13
  go_wp2_with (first | (go_at_call 25; refine (cut_any _ _).mono ?_; rintro e w' ⟨rfl, rfl⟩) | (go_at_call 20; refine (h0'.out _ _ (by first | assumption | exact Below.refl _ _)).mono ?_; rintro e w' ⟨p, cap, rfl, hb⟩; first | rw [len_0] | rw [len_1]))
  go_ret
  exact ⟨ret_int (a := cutv n + 16 + 12) (by omega), by assumption⟩
end Go.Proofs.YtcleopoapogcgaaGreatDoor

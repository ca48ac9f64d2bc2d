/- What the reference of a first class answers; at an alignment. -/
import Derived.Test.YtcleopoapogcgaaGreatDoorBn12
namespace Go.Proofs.YtcleopoapogcgaaGreatDoor
open Go.RowKit Go.Up

/-- A place, or a number under none: is there one? -/
def SomePlace (t : Bool) (w : World) (e : Ending) (w' : World) : Prop := ∃ r : Int, e = .returned (.int .i64 r) ∧ decide (0 ≤ r) = t ∧ w = w'

theorem small_great {L : List Int} {n c : Int} (hp : ∀ (j : Nat) (h : j < L.length), 0 ≤ L[j] ∧ L[j] ≤ 512) (h : 512 < n) : smallB L n c = false :=
  small_no fun j hj hx => absurd (hp j hj).2 (by omega)

set_option maxHeartbeats 1000000 in
theorem first_out (L : List Int) (n c : Int) (p : Option Addr) (m cap : Nat) (w : World) (hp : ∀ (j : Nat) (h : j < L.length), 0 ≤ L[j] ∧ L[j] ≤ 512) (h : n < 0 ∨ 512 < n) :
    Calls Tryz.prog 23 #[.slice p m cap, .int .i64 n, .int .i64 c] w (SomePlace (smallB L n c) w) := by
  have hf : smallB L n c = false := h.elim small_neg (small_great hp)
  rw [hf]
  clear hf hp
  rcases h with h | h
  all_goals
    go_enter Tryz.func23, Tryz.ntmps23
    go_wp2_with fail
    go_ret
    exact ⟨_, rfl, by decide, rfl⟩

set_option maxHeartbeats 1000000 in
theorem first_in (L : List Int) (n c : Int) (b cap : Nat) (w : World) (hfew : L.length ≤ 100) (hp : ∀ (j : Nat) (h : j < L.length), 0 ≤ L[j] ∧ L[j] ≤ 512) (hc : ∀ (j : Nat) (h : j < L.length), w.cell? ⟨b, j, none⟩ = some (.int .i64 L[j]))
    (h0 : 0 ≤ n) (h1 : n ≤ 512) (hb1 : 1 ≤ c) :
    Calls Tryz.prog 23 #[.slice (some ⟨b, 0, none⟩) L.length cap, .int .i64 n, .int .i64 c] w (SomePlace (smallB L n c) w) := by
  have hcells := Lib.hid hc
  have hpos := Lib.hid hp
  clear hc hp
  go_enter Tryz.func23, Tryz.ntmps23
  go_wp2_with fail
  go_loop [7] (fun i => ∃ k : Nat, k ≤ L.length ∧ i = .int .i64 k ∧ Hid (NoneYet L n c k)) (fun i => L.length - (intOf i).toNat)
  case atStart => exact ⟨0, by omega, rfl, Lib.hid fun j _ h => absurd h (Nat.not_lt_zero _)⟩
  case round =>
    obtain ⟨k, hk, rfl, hn⟩ := hrel
    by_cases hlt : k < L.length
    · have hv := hcells.out k hlt
      obtain ⟨hx0, hx1⟩ := hpos.out k hlt
      generalize hx : L[k] = x at hv hx0 hx1
      have hx' := Lib.hid hx
      clear hx
      by_cases hge : n ≤ x
      · cases hm : (x % c == 0)
        · have hz := Lib.hid hm
          go_wp2_with fail
          go_round
          case rel => exact ⟨k + 1, by omega, by go_num, Lib.hid fun j hj hjk hnj => by
            by_cases e : j = k
            · subst e; intro h; have := hz.out; rw [hx'.out] at h; rw [h] at this; simp at this
            · exact hn.out j hj (by omega) hnj⟩
          case measure => simp [intOf]; omega
        · have hz := Lib.hid hm
          go_wp2_with fail
          go_ret
          refine ⟨(k : Int), rfl, ?_, rfl⟩
          rw [decide_eq_true (by omega)]
          refine (small_yes h0 hlt ?_ ?_).symm
          · rw [hx'.out]; omega
          · rw [hx'.out]; exact eq_of_beq hz.out
      · have hge' : x < n := by omega
        clear hge
        go_wp2_with fail
        go_round
        case rel => exact ⟨k + 1, by omega, by go_num, Lib.hid fun j hj hjk hnj => by
          by_cases e : j = k
          · subst e; rw [hx'.out] at hnj; omega
          · exact hn.out j hj (by omega) hnj⟩
        case measure => simp [intOf]; omega
    · go_wp2_with fail
      go_ret
      refine ⟨-1, rfl, ?_, rfl⟩
      rw [show decide ((0 : Int) ≤ -1) = false from rfl]
      exact (small_no fun j hj hx => hn.out j hj (by omega) hx).symm
end Go.Proofs.YtcleopoapogcgaaGreatDoor

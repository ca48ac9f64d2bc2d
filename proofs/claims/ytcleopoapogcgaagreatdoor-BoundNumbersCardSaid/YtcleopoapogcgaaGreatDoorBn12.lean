/- What tableb.Aligned answers at a version that has sizes; from every world with a block, at an alignment. -/
import Derived.Test.YtcleopoapogcgaaGreatDoorBn11
namespace Go.Proofs.YtcleopoapogcgaaGreatDoor
open Go.RowKit Go.Up

/-- Is there a size of a list for a number and an alignment? -/
def smallB (L : List Int) (n c : Int) : Bool := decide (0 ≤ n) && L.any (fun s => decide (n ≤ s) && decide (s % c = 0))
theorem small_yes {L : List Int} {n c : Int} (h0 : 0 ≤ n) {j : Nat} (hj : j < L.length) (h1 : n ≤ L[j]) (h2 : L[j] % c = 0) : smallB L n c = true := by
  unfold smallB
  rw [decide_eq_true h0, Bool.true_and, List.any_eq_true]
  exact ⟨L[j], List.getElem_mem hj, by simp [h1, h2]⟩
theorem small_no {L : List Int} {n c : Int} (h : ∀ (j : Nat) (hj : j < L.length), n ≤ L[j] → ¬ L[j] % c = 0) : smallB L n c = false := by
  unfold smallB
  have : L.any (fun s => decide (n ≤ s) && decide (s % c = 0)) = false := by
    rw [List.any_eq_false]
    intro s hs
    obtain ⟨j, hj, rfl⟩ := List.getElem_of_mem hs
    intro hx
    simp at hx
    exact h j hj hx.1 (by simpa using hx.2)
  rw [this, Bool.and_false]
theorem small_neg {L : List Int} {n c : Int} (h : n < 0) : smallB L n c = false := by
  unfold smallB
  rw [decide_eq_false (by omega), Bool.false_and]
theorem small_class {L : List Int} {n c : Int} (ho : ordB L = true) (h : classB L n = false) : smallB L n c = false := by
  by_cases h0 : 0 ≤ n
  · have h1 : ¬ under L n < L.length := fun h1 => by unfold classB at h; rw [decide_eq_true ⟨h0, h1⟩] at h; cases h
    refine small_no fun j hj hx => ?_
    have := under_spec ho n j hj
    omega
  · exact small_neg (by omega)

/-- Some class, and whether there is one. -/
def SomeClass (t : Bool) (w : World) (e : Ending) (w' : World) : Prop := ∃ r : Int, e = .returned (.tuple #[.int .i64 r, .bool t]) ∧ Below w.heap.size w w'
theorem ret_small {r : Int} {x y : Bool} (h : x = y) : Ending.returned (.tuple #[.int .i64 r, .bool x]) = .returned (.tuple #[.int .i64 r, .bool y]) := by rw [h]
/-- Where the search for a class stands. -/
def NoneYet (L : List Int) (n c : Int) (k : Nat) : Prop := ∀ (j : Nat) (hj : j < L.length), j < k → n ≤ L[j] → ¬ L[j] % c = 0

set_option maxHeartbeats 1000000 in
theorem aligned_no {a : Int} {L : List Int} (hl : Layout a L) (n c : Int) (w : World) (hw : 0 < w.heap.size) (hc : classB L n = false) :
    Calls Tryz.prog 21 #[.int .i64 a, .int .i64 n, .int .i64 c] w (SomeClass (smallB L n c) w) := by
  have hk := (class_any hl n w hw)
  rw [small_class hl.ord hc]
  rw [hc] at hk
  have hk' := Lib.hid hk
  clear hk hc hl
  generalize classv L n = u at hk'
  go_enter Tryz.func21, Tryz.ntmps21
  go_wp2_with (go_at_call 42; refine hk'.out.mono ?_; rintro e w1 ⟨rfl, hb⟩)
  go_ret2
  exact ⟨_, rfl, hb⟩

set_option maxHeartbeats 1000000 in
theorem aligned_any {a : Int} {L : List Int} (hl : Layout a L) (n c : Int) (w : World) (hw : 0 < w.heap.size) (ha : alignB c = true) (hc : classB L n = true) :
    Calls Tryz.prog 21 #[.int .i64 a, .int .i64 n, .int .i64 c] w (SomeClass (smallB L n c) w) := by
  obtain ⟨hn0, hu⟩ : 0 ≤ n ∧ under L n < L.length := by unfold classB at hc; simpa using hc
  have hk := (class_any hl n w hw)
  rw [show classv L n = under L n from if_pos hc, hc] at hk
  have hk' := Lib.hid hk
  obtain ⟨hb1, hb2⟩ := align_bd ha
  have hp := Lib.hid ((pow_align hb2).trans ha)
  have hs : ∀ w1, Below w.heap.size w w1 → Calls Tryz.prog 20 #[.int .i64 a] w1 fun e w' => ∃ b cap, e = .returned (.slice (some ⟨b, 0, none⟩) L.length cap) ∧ Hid (∀ (j : Nat) (h : j < L.length), w'.cell? ⟨b, j, none⟩ = some (.int .i64 L[j])) ∧ Below w.heap.size w w' := fun w1 hb =>
    (hl.sizes w1 (Nat.lt_of_lt_of_le hw hb.size)).mono fun e w' ⟨b, cap, h1, _, h3, h4⟩ => ⟨b, cap, h1, Lib.hid h3, hb.trans (h4.mono hb.size)⟩
  have hs' := Lib.hid hs
  have hos := Lib.hid (under_spec hl.ord n)
  have hpos := Lib.hid hl.pos
  have hfew := hl.few
  clear hk ha hs hl hc
  generalize under L n = u at hk' hos hu
  go_enter Tryz.func21, Tryz.ntmps21
  go_wp2_with (first | (go_at_call 42; refine hk'.out.mono ?_; rintro e w1 ⟨rfl, hb⟩) | (go_at_call 38; refine (power_any _ _).mono ?_; rintro e w' ⟨rfl, rfl⟩; rw [hp.out]) | (go_at_call 20; refine (hs'.out _ hb).mono ?_; rintro e w1 ⟨b, cap, rfl, hcells, hb⟩))
  go_loop [32] (fun i => ∃ k : Nat, k ≤ L.length ∧ i = .int .i64 k ∧ Hid (NoneYet L n c k)) (fun i => L.length - (intOf i).toNat)
  case atStart => exact ⟨0, by omega, rfl, Lib.hid fun j _ h => absurd h (Nat.not_lt_zero _)⟩
  case round =>
    obtain ⟨k, hk, rfl, hn⟩ := hrel
    by_cases hlt : k < L.length
    · have hv := hcells.out k hlt
      have ho := hos.out k hlt
      obtain ⟨hx0, hx1⟩ := hpos.out k hlt
      generalize hx : L[k] = x at hv ho hx0 hx1
      have hx' := Lib.hid hx
      clear hx
      by_cases hge : u ≤ k
      · cases hm : (x % c == 0)
        · have hz := Lib.hid hm
          go_wp2_with fail
          go_round
          case rel => exact ⟨k + 1, by omega, by go_num, Lib.hid fun j hj hjk hnj => by
            by_cases e : j = k
            · subst e; intro h; have := hz.out; rw [hx'.out] at h; rw [h] at this; simp at this
            · exact hn.out j hj (by omega) hnj⟩
          case measure => simp [intOf]; omega
        · have hz := Lib.hid hm
          go_wp2_with fail
          go_ret2
          refine ⟨_, ret_small ?_, hb⟩
          refine (small_yes hn0 hlt ?_ ?_).symm
          · rw [hx'.out]; omega
          · rw [hx'.out]; exact eq_of_beq hz.out
      · have hge' : k < u := by omega
        clear hge
        go_wp2_with fail
        go_round
        case rel => exact ⟨k + 1, by omega, by go_num, Lib.hid fun j hj hjk hnj => by
          by_cases e : j = k
          · subst e; rw [hx'.out] at hnj; omega
          · exact hn.out j hj (by omega) hnj⟩
        case measure => simp [intOf]; omega
    · go_wp2_with fail
      go_ret2
      refine ⟨_, ret_small ?_, hb⟩
      exact (small_no fun j hj hx => hn.out j hj (by omega) hx).symm
end Go.Proofs.YtcleopoapogcgaaGreatDoor

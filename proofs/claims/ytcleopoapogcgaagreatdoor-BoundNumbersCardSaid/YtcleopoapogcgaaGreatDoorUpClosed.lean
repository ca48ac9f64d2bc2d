/- A closed call that the interpreter brings to a list of integers, or to an integer, answers these; from every world with a block. -/
import Derived.Test.YtcleopoapogcgaaGreatDoorUpSnd12
namespace Go.Up
open Go.RowKit

/-- Does a list of values read as these integers? -/
def intsEq : List Value → List Int → Bool
  | [], [] => true
  | .int .i64 n :: l, m :: k => (n == m) && intsEq l k
  | _, _ => false
/-- Is it a slice that reads as these integers? -/
def intsAre (L : List Int) (v : Value) (H : AW) : Bool :=
  match v with
  | .slice (some ⟨i, 0, none⟩) len _ =>
    match H.get i with
    | some (.cells c _ _) => Nat.beq len L.length && intsEq (c.take len) L
    | _ => false
  | _ => false
/-- Is it this integer? -/
def isInt (m : Int) (v : Value) (_ : AW) : Bool :=
  match v with
  | .int .i64 n => n == m
  | _ => false

/-- The answer is a slice, made anew, that reads as these integers; all that was is as it was. -/
def Ints (L : List Int) (w : World) (e : Ending) (w' : World) : Prop :=
  ∃ b cap, e = .returned (.slice (some ⟨b, 0, none⟩) L.length cap) ∧ b < w'.heap.size ∧ (∀ (j : Nat) (h : j < L.length), w'.cell? ⟨b, j, none⟩ = some (.int .i64 L[j])) ∧ Below w.heap.size w w'

theorem lrel_ints {ρ : Ren} {l m : List Value} (h : LRel ρ l m) : ∀ {L : List Int}, intsEq l L = true → m.length = L.length ∧ ∀ (j : Nat) (hj : j < L.length), m[j]? = some (.int .i64 L[j]) := by
  induction h with
  | nil =>
    intro L hL
    cases L with
    | nil => exact ⟨rfl, fun j hj => absurd hj (Nat.not_lt_zero _)⟩
    | cons _ _ => cases hL
  | @cons a b l m hab _ ih =>
    intro L hL
    cases L with
    | nil => cases a <;> simp [intsEq] at hL
    | cons x L =>
      cases hab with
      | int k n =>
        cases k <;> simp only [intsEq, Bool.and_eq_true, beq_iff_eq, reduceCtorEq] at hL
        obtain ⟨rfl, hL⟩ := hL
        obtain ⟨h1, h2⟩ := ih hL
        refine ⟨by simp [h1], fun j hj => ?_⟩
        cases j with
        | zero => rfl
        | succ j => exact h2 j (by simpa using hj)
      | _ => simp [intsEq] at hL

theorem lrel_take {ρ : Ren} {l m : List Value} (h : LRel ρ l m) (n : Nat) : LRel ρ (l.take n) (m.take n) := by
  induction h generalizing n with
  | nil => simp; exact .nil
  | cons h _ ih =>
    cases n with
    | zero => exact .nil
    | succ n => exact .cons h (ih n)

theorem closed_ints {P : Program} (hm : P.follows .mixedOrders = true) {n : Nat} {g : FuncId} {args : List Value} {L : List Int} (h : runCall P n g args ⟨1, .leaf⟩ (intsAre L) = true) {args' : Array Value} (ha : LRel rho0 args args'.toList) (w : World) (hw : 0 < w.heap.size) :
    Calls P g args' w (Ints L w) := by
  refine (runCall_sound hm h ha (Rel.init w hw)).mono ?_
  intro e w' ⟨v, v', H, ρ', h1, h2, h3, _, _, h6⟩
  unfold intsAre at h6
  split at h6
  · rename_i i len c0
    split at h6
    · rename_i c _ _ hg
      simp only [Bool.and_eq_true] at h6
      obtain ⟨h60, h7⟩ := h6
      obtain rfl := Nat.eq_of_beq_eq_true h60
      cases h2 with
      | slice _ _ _ _ r hi hl =>
        obtain ⟨⟨c', hb, hs, hl2⟩, _⟩ := h3.obj i _ r hg hi
        refine ⟨r.blk, _, h1, h3.low i r hi, fun j hj => ?_, below_of_rel h3⟩
        obtain ⟨h8, h9⟩ := lrel_ints (lrel_take hl2 L.length) h7
        have h10 := h9 j hj
        have h11 : c'[j]? = some (.int .i64 L[j]) := by
          simp only [List.getElem?_take] at h10
          rw [if_pos hj] at h10
          by_cases hjc : j < c.length
          · rw [if_pos hjc] at h10
            simpa using h10
          · rw [if_neg hjc] at h10
            cases h10
        unfold World.cell?
        simp only [hb]
        simpa using h11
    · cases h6
  · cases h6

theorem closed_int {P : Program} (hm : P.follows .mixedOrders = true) {n : Nat} {g : FuncId} {args : List Value} {m : Int} (h : runCall P n g args ⟨1, .leaf⟩ (isInt m) = true) {args' : Array Value} (ha : LRel rho0 args args'.toList) (w : World) (hw : 0 < w.heap.size) :
    Calls P g args' w fun e w' => e = .returned (.int .i64 m) ∧ Below w.heap.size w w' := by
  refine (runCall_sound hm h ha (Rel.init w hw)).mono ?_
  intro e w' ⟨v, v', H, ρ', h1, h2, h3, _, _, h6⟩
  unfold isInt at h6
  split at h6
  · cases h2
    rw [beq_iff_eq] at h6
    subst h6
    exact ⟨h1, below_of_rel h3⟩
  · cases h6
end Go.Up

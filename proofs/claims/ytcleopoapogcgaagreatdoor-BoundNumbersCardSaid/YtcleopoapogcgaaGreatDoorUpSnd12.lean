/- The abstract interpreter is sound, part 12: a closed call. -/
import Derived.Test.YtcleopoapogcgaaGreatDoorUpSnd11
import Derived.Below
namespace Go.Up
open Go.RowKit

def isTrue : Value → Bool
  | .bool b => b
  | _ => false

def rho0 : Ren := fun i => if i = 0 then some ⟨0, 0⟩ else none

theorem Rel.init {P : Program} (w : World) (h : 0 < w.heap.size) : Rel P w rho0 ⟨1, .leaf⟩ w := by
  have hg : ∀ i, (⟨1, .leaf⟩ : AW).get i = none := fun i => T.get_leaf deep i
  refine ⟨?_, by unfold mostBlocks; simp, ?_, ?_, fun _ _ h => h, ⟨⟨0, 0⟩, rfl, rfl⟩, ?_, .refl _⟩
  · intro i r hi
    unfold rho0 at hi
    split at hi
    · subst_vars; simp
    · cases hi
  · intro i o r hi; rw [hg] at hi; cases hi
  · intro i j r s hi; rw [hg] at hi; cases hi
  · intro i r hi
    unfold rho0 at hi
    split at hi
    · cases hi; exact h
    · cases hi

/-- As 'Rel.init', where the program's first variable is known: it is read, not written. -/
theorem Rel.init_table {P : Program} (w : World) {c : List Value} {c' : Array Value} {e : TypeId} (h : w.heap[0]? = some (.cells c' e (0, 0))) (hc : LRel rho0 c c'.toList) : Rel P w rho0 ⟨1, T.set deep .leaf 0 (some (AObj.cells c e true))⟩ w := by
  have hg : ∀ i, (⟨1, T.set deep .leaf 0 (some (AObj.cells c e true))⟩ : AW).get i = if i = 0 then some (.cells c e true) else none := fun i => by
    show T.get deep (T.set deep .leaf 0 (some (AObj.cells c e true))) i = _
    rw [T.get_set deep _ 0 i _ (by unfold deep; omega), T.get_leaf]
  have hlt : 0 < w.heap.size := (Array.getElem?_eq_some_iff.1 h).1
  refine ⟨?_, by unfold mostBlocks; simp, ?_, ?_, fun _ _ h => h, ⟨⟨0, 0⟩, rfl, rfl⟩, ?_, .refl _⟩
  · intro i r hi
    unfold rho0 at hi
    split at hi
    · subst_vars; simp
    · cases hi
  · intro i o r hi hr
    rw [hg] at hi
    split at hi
    · rename_i h0
      subst h0
      cases hi
      unfold rho0 at hr
      cases hr
      refine ⟨⟨c', h, ?_, ?_⟩, fun hw => by cases hw⟩
      · have := hc.length; simp at this; simp [this]
      · rw [hc.length, List.take_length]; exact hc
    · cases hi
  · intro i j r s hi hj _ _ _
    rw [hg] at hi hj
    split at hi
    · split at hj
      · omega
      · cases hj
    · cases hi
  · intro i r hi
    unfold rho0 at hi
    split at hi
    · cases hi; exact hlt
    · cases hi

theorem below_of_rel {P : Program} {O : World} {ρ : Ren} {H : AW} {w : World} (h : Rel P O ρ H w) : Below O.heap.size O w :=
  ⟨h.same.os, h.same.tape, h.same.output, h.same.size, fun k hk => by
    have e : O.heap[k]? = some O.heap[k] := Array.getElem?_eq_getElem hk
    rw [e]; exact h.pin k _ e⟩

/-- A closed call that the interpreter brings to 'true'. -/
theorem closed_true {P : Program} (hm : P.follows .mixedOrders = true) {n : Nat} {g : FuncId} (h : runCall P n g [] ⟨1, .leaf⟩ (fun v _ => isTrue v) = true) (w : World) (hw : 0 < w.heap.size) :
    Calls P g #[] w fun e w' => e = .returned (.bool true) ∧ Below w.heap.size w w' := by
  refine (runCall_sound hm h (args' := #[]) .nil (Rel.init w hw)).mono ?_
  intro e w' ⟨v, v', H, ρ', h1, h2, h3, _, _, h6⟩
  refine ⟨?_, below_of_rel h3⟩
  have h7 : isTrue v = true := h6
  unfold isTrue at h7
  split at h7
  · cases h2
    rw [h1, h7]
  · cases h7

theorem closed_true_table {P : Program} (hm : P.follows .mixedOrders = true) {n : Nat} {g : FuncId} {c : List Value} {e : TypeId} (h : runCall P n g [] ⟨1, T.set deep .leaf 0 (some (AObj.cells c e true))⟩ (fun v _ => isTrue v) = true)
    (w : World) {c' : Array Value} (hw : w.heap[0]? = some (.cells c' e (0, 0))) (hc : LRel rho0 c c'.toList) :
    Calls P g #[] w fun e w' => e = .returned (.bool true) ∧ Below w.heap.size w w' := by
  refine (runCall_sound hm h (args' := #[]) .nil (Rel.init_table w hw hc)).mono ?_
  intro e w' ⟨v, v', H, ρ', h1, h2, h3, _, _, h6⟩
  refine ⟨?_, below_of_rel h3⟩
  have h7 : isTrue v = true := h6
  unfold isTrue at h7
  split at h7
  · cases h2
    rw [h1, h7]
  · cases h7

end Go.Up

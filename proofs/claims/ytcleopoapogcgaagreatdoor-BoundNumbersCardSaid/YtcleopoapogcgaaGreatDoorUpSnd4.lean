/- The abstract interpreter is sound, part 4: slices, maps, equality of pointers, builtins. -/
import Derived.Test.YtcleopoapogcgaaGreatDoorUpSnd3
namespace Go.Up

theorem natOf_some {v : Value} {n : Nat} (h : natOf? v = some n) : ∃ k, v = .int k (n : Int) := by
  unfold natOf? at h
  split at h
  · cases h; exact ⟨_, rfl⟩
  · cases h

theorem wrap_small {n : Nat} (h : n ≤ 10000000) : IntKind.i64.wrap (n : Int) = (n : Int) := by
  have h1 : (n : Int) % (2 ^ 64 : Int) = n := Int.emod_eq_of_lt (by omega) (by omega)
  simp only [IntKind.wrap, IntKind.bits, IntKind.signed, h1]
  rw [if_neg]
  simp only [Bool.true_and, decide_eq_true_eq]
  omega

/-! ### Fields and elements -/
theorem aFieldAddr_sound {P : Program} {ρ : Ren} {s : TypeId} {f : Nat} {p p' v : Value} (hp : VRel ρ p p') (h : aFieldAddr P s f p = some v) (w : World) :
    ∃ v', (Instr.fieldAt s p' f).run P w = .ok v' w ∧ VRel ρ v v' := by
  unfold aFieldAddr at h
  split at h
  · rename_i fs i off hu
    cases hp with
    | ptr i off r hr =>
      split at h
      · rename_i fd hfd
        split at h
        · rename_i n hn
          cases h
          refine ⟨_, ?_, .ptr i (off + fd.offset) r hr⟩
          simp [Instr.fieldAt, run_underlying hu, hfd, Instr.sureAddr, fieldPlace, run_sizeOf hn, Addr.add_lit]
        · cases h
      · cases h
  · cases h

theorem aField_sound {P : Program} {ρ : Ren} {s : TypeId} {f : Nat} {p p' v : Value} (hp : VRel ρ p p') (h : aField P s f p = some v) (w : World) :
    ∃ v', (Instr.field s p' f).run P w = .ok v' w ∧ VRel ρ v v' := by
  unfold aField at h
  split at h
  · rename_i fs cs hu
    cases hp with
    | agg _ cs' ha ha2 =>
      split at h
      · rename_i fd hfd
        obtain ⟨v', hrun, hv⟩ := partOf_sound (cs' := cs') (LRel.of ha ha2) h w
        refine ⟨v', ?_, hv⟩
        simp [Instr.field, run_underlying hu, hfd, asAgg, hrun]
      · cases h
  · cases h

theorem aIndexAddr_sound {P : Program} {ρ : Ren} {t : TypeId} {x x' ix ix' v : Value} (hx : VRel ρ x x') (hi : VRel ρ ix ix') (h : aIndexAddr P t x ix = some v) (w : World) :
    ∃ v', (Instr.indexAt t x' ix').run P w = .ok v' w ∧ VRel ρ v v' := by
  unfold aIndexAddr at h
  split at h
  · rename_i i e b off len c hn hu
    obtain ⟨k, rfl⟩ := natOf_some hn
    cases hi
    cases hx with
    | slice b off len c r hr hl =>
      split at h
      · rename_i n hsz
        rw [bltD, Bool.cond_decide] at h
        split at h
        · rename_i hlt
          cases h
          refine ⟨_, ?_, .ptr b (off + i * n) r hr⟩
          simp [Instr.indexAt, asIntOf, run_underlying hu, run_sizeOf hsz, hlt, Addr.add_lit]
        · cases h
      · cases h
  · rename_i i len e b off hn hu
    obtain ⟨k, rfl⟩ := natOf_some hn
    cases hi
    cases hx with
    | ptr b off r hr =>
      split at h
      · rename_i n hsz
        rw [bltD, Bool.cond_decide] at h
        split at h
        · rename_i hlt
          cases h
          refine ⟨_, ?_, .ptr b (off + i * n) r hr⟩
          simp [Instr.indexAt, asIntOf, run_underlying hu, run_sizeOf hsz, hlt, Addr.add_lit, Instr.sureAddr]
        · cases h
      · cases h
  · cases h

theorem aIndex_sound {P : Program} {ρ : Ren} {t : TypeId} {x x' ix ix' v : Value} (hx : VRel ρ x x') (hi : VRel ρ ix ix') (h : aIndex P t x ix = some v) (w : World) :
    ∃ v', (Instr.index t x' ix').run P w = .ok v' w ∧ VRel ρ v v' := by
  unfold aIndex at h
  split at h
  · rename_i i len e cs hn hu
    obtain ⟨k, rfl⟩ := natOf_some hn
    cases hi
    cases hx with
    | agg _ cs' ha ha2 =>
      split at h
      · rename_i n hsz
        rw [bltD, Bool.cond_decide] at h
        split at h
        · rename_i hlt
          obtain ⟨v', hrun, hv⟩ := partOf_sound (cs' := cs') (LRel.of ha ha2) h w
          refine ⟨v', ?_, hv⟩
          simp [Instr.index, asIntOf, run_underlying hu, run_sizeOf hsz, hlt, hrun]
        · cases h
      · cases h
  · cases h

/-! ### Slices that are made -/
theorem capOf_small {n s : Nat} (h : n < capB) : capOf n s = n ∧ capLow n = n := by
  simp [capOf, capLow, capExact, bltD, h]

theorem aBuildSlice_sound {P : Program} {pins : World} {ρ : Ren} {H H1 : AW} {w : World} (hr : Rel P pins ρ H w) {t : TypeId} {len : Nat} {ps : List (Nat × Value)} {ps' : Array (Nat × Value)} (hp : PRel ρ ps ps'.toList) {v : Value}
    (h : aBuildSlice P H t len ps = some (v, H1)) :
    ∃ v' w1 ρ1, (Instr.buildSlice t len ps').run P w = .ok v' w1 ∧ Rel P pins ρ1 H1 w1 ∧ Ext H.next ρ ρ1 ∧ VRel ρ1 v v' ∧ H.next ≤ H1.next := by
  unfold aBuildSlice at h
  split at h
  · rename_i e hu
    split at h
    · rename_i n z hsz hz
      rw [bleD, beqD, Bool.cond_eq_ite] at h
      split at h
      · rename_i hc
        simp only [Bool.and_eq_true, decide_eq_true_eq] at hc
        obtain ⟨⟨hle, hlz⟩, hpz⟩ := hc
        split at h
        · rename_i cs hf
          split at h
          · rename_i i H' hn
            cases h
            obtain ⟨cs', hf', hcs⟩ := fill_rel (cs' := (zerosOf (cellsOfV z) len).toArray) hp (by simpa using LRel.of_pfree (zerosOf_pfree hpz len)) hf
            obtain ⟨h1, h2, h3⟩ := new_sound (P := P) hr hn hcs
            have hlen : len < capB := by
              have : len ≤ len * (n + 1) := Nat.le_mul_of_pos_right _ (by omega)
              unfold capB; omega
            obtain ⟨hcap, hlow⟩ := capOf_small (s := 0) hlen
            have hv : VRel (ρ.add i ⟨w.heap.size, 0⟩) (.slice (some ⟨i, 0, none⟩) len len) (.slice (some ⟨w.heap.size, 0, none⟩) len (capOf len 0)) := .slice i 0 len len _ (Ren.add_self _ _ _) (by omega)
            rw [hcap] at hv
            refine ⟨_, _, _, ?_, h1, h2, hv, h3⟩
            have h24 : ¬ (len * (n + 1) > 2 ^ 24) := by omega
            have hrow := zeros_row z.cells len n hlz
            by_cases h0 : len = 0
            · subst h0
              have hz0 : (zerosOf (cellsOfV z) 0).toArray = (#[] : Array Value) := rfl
              rw [hz0] at hf'
              have hr0 : Array.range 0 = #[] := rfl
              simp [Instr.buildSlice, run_underlying hu, run_sizeOf hsz, hf', newRow, hr0]
            · have hne : ¬ (len * (n + 1) = 0) := by
                intro h; rcases Nat.mul_eq_zero.1 h with h | h <;> omega
              simp only [Instr.buildSlice, Sem.run_bind, run_underlying hu, Result.andThen_ok, run_sizeOf hsz, if_neg h24, if_neg hne, run_zeroValue hz, Sem.run_pure]
              have hrow' : (Array.map (fun x => z.cells[x % z.cells.size]!) (Array.range (len * (n + 1)))) = (zerosOf (cellsOfV z) len).toArray := hrow
              simp [hrow', hf', newRow]
          · cases h
        · cases h
      · cases h
    · cases h
  · cases h

theorem aMakeSlice_sound {P : Program} {pins : World} {ρ : Ren} {H H1 : AW} {w : World} (hr : Rel P pins ρ H w) {t : TypeId} {l l' c c' v : Value} (hl : VRel ρ l l') (hc : VRel ρ c c')
    (h : aMakeSlice P H t l c = some (v, H1)) :
    ∃ v' w1 ρ1, (Instr.makeSlice t l' c').run P w = .ok v' w1 ∧ Rel P pins ρ1 H1 w1 ∧ Ext H.next ρ ρ1 ∧ VRel ρ1 v v' ∧ H.next ≤ H1.next := by
  unfold aMakeSlice at h
  split at h
  · rename_i e ln cn hu hln hcn
    obtain ⟨k1, rfl⟩ := natOf_some hln
    obtain ⟨k2, rfl⟩ := natOf_some hcn
    cases hl
    cases hc
    split at h
    · rename_i n z b hsz hz hb
      rw [bleD, bleD, bleD, beqD, Bool.cond_eq_ite] at h
      split at h
      · rename_i hcond
        simp only [Bool.and_eq_true, decide_eq_true_eq] at hcond
        obtain ⟨⟨⟨⟨hlc, hsmall⟩, hcs⟩, hlz⟩, hpz⟩ := hcond
        split at h
        · rename_i i H' hn
          cases h
          obtain ⟨h1, h2, h3⟩ := new_sound (P := P) hr hn (c' := (zerosOf (cellsOfV z) cn).toArray) (by simpa using LRel.of_pfree (zerosOf_pfree hpz cn))
          have hlen : cn < capB := by unfold capB; omega
          obtain ⟨hcap, hlow⟩ := capOf_small (s := 0) hlen
          have hv : VRel (ρ.add i ⟨w.heap.size, 0⟩) (.slice (some ⟨i, 0, none⟩) ln cn) (.slice (some ⟨w.heap.size, 0, none⟩) ln (capOf cn 0)) := .slice i 0 ln cn _ (Ren.add_self _ _ _) (by omega)
          rw [hcap] at hv
          refine ⟨_, _, _, ?_, h1, h2, hv, h3⟩
          obtain ⟨ib, hib, hbb⟩ := info_of_bytes hb
          have hw1 := wrap_small (n := ln) (by omega)
          have hw2 := wrap_small (n := cn) hcs
          have hbc : b * cn ≤ 10000000 := by
            have : cn * b ≤ cn * (n + 1 + b) := Nat.mul_le_mul_left _ (by omega)
            rw [Nat.mul_comm b cn]; omega
          have ht0 : (ib.bytes : Int) * (cn : Int) ≤ 10000000 := by rw [hbb, ← Int.natCast_mul]; omega
          have ht : ¬ ((ib.bytes : Int) * (cn : Int) > 2 ^ 48) := by
            generalize (ib.bytes : Int) * (cn : Int) = q at ht0
            omega
          have hrow := zeros_row z.cells cn n hlz
          have hrow' : (Array.map (fun x => z.cells[x % z.cells.size]!) (Array.range (cn * (n + 1)))) = (zerosOf (cellsOfV z) cn).toArray := hrow
          have hti : (typeInfo e).run P w = .ok ib w := by simp [typeInfo, hib]
          have hcond2 : ¬ (((decide ((cn : Int) < 0) || decide ((ib.bytes : Int) * (cn : Int) > 2 ^ 48)) || decide ((ln : Int) < 0) || decide ((ln : Int) > (cn : Int))) = true) := by
            simp only [Bool.or_eq_true, decide_eq_true_eq, not_or]
            refine ⟨⟨⟨by omega, ht⟩, by omega⟩, by omega⟩
          by_cases h0 : cn = 0
          · subst h0
            have : ln = 0 := by omega
            subst this
            have hr0 : Array.range 0 = #[] := rfl
            simp only [Instr.makeSlice, Sem.run_bind, run_underlying hu, Result.andThen_ok, asInt, asIntOf, Sem.run_pure, hti, hw1]
            rw [if_neg hcond2]
            simp [run_sizeOf hsz, newRow, zerosOf, hr0]
          · have hne : ¬ (cn * (n + 1) = 0) := by
              intro h; rcases Nat.mul_eq_zero.1 h with h | h <;> omega
            simp only [Instr.makeSlice, Sem.run_bind, run_underlying hu, Result.andThen_ok, asInt, asIntOf, Sem.run_pure, hti, hw1, hw2]
            rw [if_neg hcond2]
            simp only [Sem.run_bind, run_askRoom, Result.andThen_ok, Int.toNat_natCast, run_sizeOf hsz, if_neg hne, run_zeroValue hz, Sem.run_pure, newRow, hrow', run_newObj]
        · cases h
      · cases h
    · cases h
  · cases h

theorem aMakeMap_sound {P : Program} {pins : World} {ρ : Ren} {H H1 : AW} {w : World} (hr : Rel P pins ρ H w) {t : TypeId} {r r' : Option Value} {v : Value} (hrr : match r, r' with | none, none => True | some x, some y => VRel ρ x y | _, _ => False)
    (h : aMakeMap P H t r = some (v, H1)) :
    ∃ v' w1 ρ1, (Instr.makeMap t r').run P w = .ok v' w1 ∧ Rel P pins ρ1 H1 w1 ∧ Ext H.next ρ ρ1 ∧ VRel ρ1 v v' ∧ H.next ≤ H1.next := by
  unfold aMakeMap at h
  split at h
  · rename_i kt et hu hall
    split at h
    · rename_i i H' hn
      cases h
      obtain ⟨h1, h2, h3⟩ := hr.alloc hn (.map #[] 0) ⟨w.heap.size, 0⟩ (w' := { w with heap := w.heap.push (.map #[] 0) }) rfl rfl ⟨rfl, rfl, rfl, by simp⟩ ⟨#[], 0, rfl, .nil, .nil⟩
      refine ⟨_, _, _, ?_, h1, h2, .map i _ (Ren.add_self _ _ _), h3⟩
      cases r with
      | none =>
        cases r' with
        | none => simp [Instr.makeMap]
        | some y => exact hrr.elim
      | some x =>
        cases r' with
        | none => exact hrr.elim
        | some y =>
          simp only [Option.all_some] at hall
          have hrr' : VRel ρ x y := hrr
          cases hrr' <;> simp [intOf?] at hall
          simp [Instr.makeMap, run_underlying hu, asInt, asIntOf]
    · cases h
  · cases h

/-! ### Equality of pointers -/
theorem run_sameAddr_cells {P : Program} {w : World} {b c x y : Nat} {cb cc : Array Value} {tb tc : TypeId} (hb : w.heap[b]? = some (.cells cb tb (0, 0))) (hc : w.heap[c]? = some (.cells cc tc (0, 0))) :
    (sameAddr ⟨b, x, none⟩ ⟨c, y, none⟩).run P w = .ok (decide (b = c) && decide (x = y)) w := by
  have f1 : ∀ o, w.frozen? ⟨b, o, none⟩ = false := fun o => by simp [World.frozen?, hb]
  have f2 : ∀ o, w.frozen? ⟨c, o, none⟩ = false := fun o => by simp [World.frozen?, hc]
  have s1 : w.shape? b = some (tb, cb.size) := by simp [World.shape?, hb]
  have s2 : w.shape? c = some (tc, cc.size) := by simp [World.shape?, hc]
  by_cases h : b = c
  · subst h
    by_cases hxy : x = y
    · subst hxy; simp [sameAddr]
    · have : ((⟨b, x, none⟩ : Addr) == ⟨b, y, none⟩) = false := by simp [hxy]
      simp [sameAddr, this, hxy]
  · have hbc : (b == c) = false := by simp [h]
    simp [sameAddr, hbc, f1, f2, noView, viewAt, s1, s2, mayBeOne, stringish, h]

theorem ptrEqIn_sound (d : Nat) {P : Program} {pins : World} {ρ : Ren} {H : AW} {w : World} (hr : Rel P pins ρ H w) {t : TypeId} {x x' y y' : Value} {b : Bool} (hx : VRel ρ x x') (hy : VRel ρ y y') (h : ptrEq P H t x y = some b) :
    (Op.equalIn (d + 1) t x' y').run P w = .ok b w := by
  unfold ptrEq at h
  split at h
  · rename_i hu
    cases h; cases hx; cases hy <;> simp [Op.equalIn, run_underlying hu]
  · rename_i hu
    cases h; cases hx; cases hy; simp [Op.equalIn, run_underlying hu]
  · rename_i e a c hu
    split at h
    · rename_i n c1 e1 r1 c2 e2 r2 hsz hg1 hg2
      cases h
      cases hx with
      | ptr i off r hi =>
        cases hy with
        | ptr j off' s hj =>
          obtain ⟨⟨c1', hb1, _, _⟩, _⟩ := hr.obj i _ r hg1 hi
          obtain ⟨⟨c2', hb2, _, _⟩, _⟩ := hr.obj j _ s hg2 hj
          have hij : (i = j) ↔ (r.blk = s.blk) := by
            constructor
            · intro e; subst e; rw [hi] at hj; cases hj; rfl
            · intro e; exact hr.inj i j r s (by simp only [hg1]; rfl) (by simp only [hg2]; rfl) hi hj e
          simp only [Op.equalIn, Sem.run_bind, run_underlying hu, Result.andThen_ok, run_sizeOf hsz]
          rw [if_pos (by simp)]
          rw [run_sameAddr_cells hb1 hb2]
          congr 1
          simp only [beqD]
          congr 1
          exact decide_eq_decide.2 hij.symm
    · cases h
  · rename_i hu
    cases h; cases hx; cases hy <;> simp [Op.equalIn, run_underlying hu]
  · rename_i hu
    cases h; cases hx; cases hy; simp [Op.equalIn, run_underlying hu]
  · rename_i hu
    cases h; cases hx; cases hy <;> simp [Op.equalIn, run_underlying hu]
  · rename_i hu
    cases h; cases hx; cases hy; simp [Op.equalIn, run_underlying hu]
  · rename_i hu
    cases h; cases hx; cases hy; simp [Op.equalIn, run_underlying hu]
  · rename_i hu
    cases h; cases hx; cases hy; simp [Op.equalIn, run_underlying hu]
  · rename_i hu
    cases h; cases hx; cases hy; simp [Op.equalIn, run_underlying hu]
  · rename_i hu
    cases h; cases hx; cases hy; simp [Op.equalIn, run_underlying hu]
  · cases h

theorem ptrEq_sound {P : Program} {pins : World} {ρ : Ren} {H : AW} {w : World} (hr : Rel P pins ρ H w) {t : TypeId} {x x' y y' : Value} {b : Bool} (hx : VRel ρ x x') (hy : VRel ρ y y') (h : ptrEq P H t x y = some b) :
    (Op.equal t x' y').run P w = .ok b w := ptrEqIn_sound 9999 hr hx hy h

end Go.Up

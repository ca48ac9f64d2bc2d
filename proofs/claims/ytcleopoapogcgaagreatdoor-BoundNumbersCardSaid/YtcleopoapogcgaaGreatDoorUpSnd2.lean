/- The abstract interpreter is sound, part 2: operands, and the operations that only compute or read. -/
import Derived.Test.YtcleopoapogcgaaGreatDoorUpSnd1
namespace Go.Up

structure ERel (ρ : Ren) (a : Env) (a' : Act) : Prop where
  vals : LRel ρ a a'.tmps.toList
  defers : a'.defers = []

theorem ERel.mono {ρ ρ' : Ren} (hρ : ∀ i r, ρ i = some r → ρ' i = some r) {a : Env} {a' : Act} (h : ERel ρ a a') : ERel ρ' a a' := ⟨h.vals.mono hρ, h.defers⟩

theorem LRel.getD {ρ : Ren} {l m : List Value} (h : LRel ρ l m) : ∀ i, VRel ρ (l.getD i undef) (m.getD i undef) := by
  induction h with
  | nil => intro i; simp; exact .undef
  | cons h _ ih => intro i; cases i with
    | zero => simpa using h
    | succ i => simpa using ih i

theorem ERel.at {ρ : Ren} {a : Env} {a' : Act} (h : ERel ρ a a') (t : Nat) : VRel ρ (Env.at a t) (a'.tmps.getD t undef) := by
  have := h.vals.getD t
  simpa [Env.at, lget_eq, Array.getD_eq_getD_getElem?, List.getD_eq_getElem?_getD] using this

theorem ERel.eval {P : Program} {pins : World} {ρ : Ren} {H : AW} {w : World} {a : Env} {a' : Act} (h : ERel ρ a a') (hr : Rel P pins ρ H w) {x : Operand} {v : Value}
    (hx : a.eval x = some v) : VRel ρ v (a'.eval x) := by
  cases x with
  | tmp t => simp only [Env.eval, Option.some.injEq] at hx; subst hx; exact h.at t
  | const c =>
    simp only [Env.eval] at hx
    cases hp : pfree c with
    | false => simp [hp] at hx
    | true => simp [hp] at hx; subst hx; exact .of_pfree hp
  | global g =>
    simp only [Env.eval, beqD, Bool.cond_decide] at hx
    split at hx
    · rename_i hg
      subst hg
      cases hx
      obtain ⟨r, h0, hz⟩ := hr.zero
      have := VRel.ptr (ρ := ρ) 0 0 r h0
      rw [hz] at this
      exact this
    · cases hx
  | func f => simp only [Env.eval, Option.some.injEq] at hx; subst hx; exact .funcL .nil .nil

theorem ERel.evals {P : Program} {pins : World} {ρ : Ren} {H : AW} {w : World} {a : Env} {a' : Act} (h : ERel ρ a a') (hr : Rel P pins ρ H w) :
    ∀ {xs : List Operand} {vs : List Value}, Env.evals a xs = some vs → LRel ρ vs (xs.map a'.eval)
  | [], vs, hx => by simp only [Env.evals, Option.some.injEq] at hx; subst hx; exact .nil
  | x :: xs, vs, hx => by
    simp only [Env.evals] at hx
    split at hx
    · rename_i v vs' h1 h2
      cases hx
      exact .cons (h.eval hr h1) (h.evals hr h2)
    · cases hx

inductive PRel (ρ : Ren) : List (Nat × Value) → List (Nat × Value) → Prop
  | nil : PRel ρ [] []
  | cons {i : Nat} {a b : Value} {l m : List (Nat × Value)} (h : VRel ρ a b) (t : PRel ρ l m) : PRel ρ ((i, a) :: l) ((i, b) :: m)

theorem ERel.parts {P : Program} {pins : World} {ρ : Ren} {H : AW} {w : World} {a : Env} {a' : Act} (h : ERel ρ a a') (hr : Rel P pins ρ H w) :
    ∀ {xs : List (Nat × Operand)} {vs : List (Nat × Value)}, Env.parts a xs = some vs → PRel ρ vs (xs.map fun (i, x) => (i, a'.eval x))
  | [], vs, hx => by simp only [Env.parts, Option.some.injEq] at hx; subst hx; exact .nil
  | (i, x) :: xs, vs, hx => by
    simp only [Env.parts] at hx
    split at hx
    · rename_i v vs' h1 h2
      cases hx
      exact .cons (h.eval hr h1) (h.parts hr h2)
    · cases hx

theorem ERel.put {ρ : Ren} {a : Env} {a' : Act} (h : ERel ρ a a') (d : Option Tmp) {v v' : Value} (hv : VRel ρ v v') : ERel ρ (a.put d v) (a'.put d v') := by
  cases d with
  | none => exact h
  | some d => exact ⟨by simpa [Env.put, lset_eq, Act.put] using h.vals.set hv d, h.defers⟩

/-! ### What only computes -/
theorem pureRun_run {α : Type} {P : Program} {s : Sem α} : ∀ {x : α}, pureRun P s = some x → ∀ w, s.run P w = .ok x w := by
  induction s with
  | pure a => intro x h w; simp only [pureRun, Option.some.injEq] at h; subst h; rfl
  | program k ih => intro x h w; exact ih P h w
  | mark m k ih => intro x h w; exact ih h w
  | _ => intro x h; simp [pureRun] at h

theorem pfreeAt_eq {P : Program} {pins : World} {ρ : Ren} {H : AW} {w : World} {a : Env} {a' : Act} (h : ERel ρ a a') (hr : Rel P pins ρ H w) {x : Operand}
    (hx : pfreeAt a x = true) : a'.eval x = a.raw x := by
  unfold pfreeAt at hx
  split at hx
  · rename_i v hv
    rw [pfree_eq (h.eval hr hv) hx]
    simp [Env.raw, hv]
  · cases hx

theorem pureOf_sound {P : Program} {pins : World} {ρ : Ren} {H : AW} {w : World} {a : Env} {a' : Act} (h : ERel ρ a a') (hr : Rel P pins ρ H w) {o : Oper} {v : Value}
    (hs : ∀ cs b, o.op ≠ .select cs b) (hv : pureOf P o a = some v) : (execOp a'.eval o).run P w = .ok (.value v) w ∧ VRel ρ v v := by
  unfold pureOf at hv
  cases hall : o.op.operands.toList.all (pfreeAt a) with
  | false => simp [hall] at hv
  | true =>
    simp only [hall, cond_true] at hv
    split at hv
    · rename_i u hu
      cases hp : pfree u with
      | false => simp [hp] at hv
      | true =>
        simp [hp] at hv
        subst hv
        have he : execOp a'.eval o = execOp a.raw o := execOp_congr o hs fun x hx => pfreeAt_eq h hr (List.all_eq_true.1 hall x (by simpa using hx))
        rw [he]
        exact ⟨pureRun_run hu w, .of_pfree hp⟩
    · cases hv

/-! ### What an operation did -/
def Did (P : Program) (pins : World) (ρ : Ren) (H : AW) (v : Value) (H1 : AW) (r : Result Next) : Prop :=
  ∃ v' w1 ρ1, (r = .ok (.value v') w1 ∨ (r = .ok .skip w1 ∧ v' = undef)) ∧ Rel P pins ρ1 H1 w1 ∧ Ext H.next ρ ρ1 ∧ VRel ρ1 v v' ∧ H.next ≤ H1.next

theorem Did.same {P : Program} {pins : World} {ρ : Ren} {H : AW} {w : World} (hr : Rel P pins ρ H w) {v v' : Value} {r : Result Next} (h : r = .ok (.value v') w) (hv : VRel ρ v v') :
    Did P pins ρ H v H r := ⟨v', w, ρ, .inl h, hr, .refl _ _, hv, Nat.le_refl _⟩

theorem pairUp_some {α : Type} {H H1 : AW} {o : Option α} {v : α} (h : pairUp H o = some (v, H1)) : o = some v ∧ H1 = H := by
  unfold pairUp at h
  split at h
  · cases h; exact ⟨rfl, rfl⟩
  · cases h
theorem idle_some {o : Option AW} {H1 : AW} {v : Value} (h : idle o = some (v, H1)) : o = some H1 ∧ v = undef := by
  unfold idle at h
  split at h
  · cases h; exact ⟨rfl, rfl⟩
  · cases h

/-! ### Types -/
theorem info_of_cells {P : Program} {t : TypeId} {n : Nat} (h : cellsOfT P t = some n) : ∃ i, P.info? t = some i ∧ i.size = n := by
  unfold cellsOfT at h
  cases hi : P.info? t with
  | none => simp [hi] at h
  | some i => simp [hi] at h; exact ⟨i, rfl, h⟩
theorem info_of_zero {P : Program} {t : TypeId} {z : Value} (h : zeroOfT P t = some z) : ∃ i, P.info? t = some i ∧ i.zero = some z := by
  unfold zeroOfT at h
  cases hi : P.info? t with
  | none => simp [hi] at h
  | some i => simp [hi] at h; exact ⟨i, rfl, h⟩
theorem info_of_bytes {P : Program} {t : TypeId} {n : Nat} (h : bytesOfT P t = some n) : ∃ i, P.info? t = some i ∧ i.bytes = n := by
  unfold bytesOfT at h
  cases hi : P.info? t with
  | none => simp [hi] at h
  | some i => simp [hi] at h; exact ⟨i, rfl, h⟩
theorem run_sizeOf {P : Program} {t : TypeId} {n : Nat} (h : cellsOfT P t = some n) (w : World) : (sizeOf t).run P w = .ok n w := by
  obtain ⟨i, hi, rfl⟩ := info_of_cells h
  simp [sizeOf, typeInfo, hi]
theorem run_zeroValue {P : Program} {t : TypeId} {z : Value} (h : zeroOfT P t = some z) (w : World) : (zeroValue t).run P w = .ok z w := by
  obtain ⟨i, hi, hz⟩ := info_of_zero h
  simp [zeroValue, typeInfo, hi, hz]
theorem run_isAgg {P : Program} {t : TypeId} {b : Bool} (h : aggT P t = some b) (w : World) : (isAgg t).run P w = .ok b w := by
  unfold aggT at h
  cases hu : P.underlying t with
  | none => simp [hu] at h
  | some d =>
    simp only [hu, Option.map_some, Option.some.injEq] at h
    subst h
    simp only [isAgg, Sem.run_bind, run_underlying hu, Result.andThen_ok]
    cases d <;> rfl

/-! ### Loads -/
theorem cell_of_block {w : World} {b off : Nat} {c : Array Value} {e : TypeId} {fr : Nat × Nat} (h : w.heap[b]? = some (.cells c e fr)) : w.cell? ⟨b, off, none⟩ = c[off]? := by
  simp [World.cell?, h]

theorem run_loadCells_at {P : Program} {w : World} {b off n : Nat} {c : Array Value} {e : TypeId} {fr : Nat × Nat} (h : w.heap[b]? = some (.cells c e fr)) (hn : off + n ≤ c.size) :
    (loadCells ⟨b, off, none⟩ n).run P w = .ok ((c.toList.drop off).take n).toArray w := by
  have hl : ((c.toList.drop off).take n).length = n := by simp; omega
  have := run_loadCells_list (P := P) w ⟨b, off, none⟩ ((c.toList.drop off).take n) (fun j v hj => by
    rw [Addr.add_lit, cell_of_block h]
    rw [List.getElem?_take] at hj
    split at hj
    · simpa using hj
    · cases hj)
  rw [hl] at this
  exact this

theorem take_take_drop {m : List Value} {off n k : Nat} (h : off + n ≤ k) : ((m.take k).drop off).take n = (m.drop off).take n := by
  rw [List.drop_take, List.take_take]
  congr 1
  omega

/-- What 'loadAt' gives is what the model loads. -/
theorem loadAt_sound {P : Program} {pins : World} {ρ : Ren} {H : AW} {w : World} (hr : Rel P pins ρ H w) {t : TypeId} {i off : Nat} {r : RI} {v : Value} (hi : ρ i = some r)
    (h : loadAt P H t i off = some v) : ∃ v', (loadVar t ⟨r.blk, off, none⟩).run P w = .ok v' w ∧ VRel ρ v v' := by
  unfold loadAt at h
  split at h
  · rename_i c e ro hg
    obtain ⟨⟨c', hb, hsz, hc⟩, _⟩ := hr.obj i _ r hg hi
    have hle : c.length ≤ c'.size := by omega
    split at h
    · rename_i ha
      split at h
      · rename_i n hn
        rw [bleD, Bool.cond_decide] at h
        split at h
        · rename_i hoff
          cases h
          refine ⟨.agg ((c'.toList.drop off).take n).toArray, ?_, ?_⟩
          · simp only [loadVar, Sem.run_bind, run_isAgg ha, Result.andThen_ok, if_true, run_sizeOf hn, run_loadCells_at hb (show off + n ≤ c'.size by omega), Sem.run_pure]
          · have := (hc.drop off).take n
            rw [take_take_drop hoff] at this
            exact .aggL (by simpa using this)
        · cases h
      · cases h
    · rename_i ha
      have hlt : off < c.length := (List.getElem?_eq_some_iff.1 h).1
      obtain ⟨y, hy, hv⟩ := hc.someAt h
      rw [List.getElem?_take, if_pos hlt] at hy
      refine ⟨y, ?_, hv⟩
      have hcell : w.cell? ⟨r.blk, off, none⟩ = some y := by rw [cell_of_block hb]; simpa using hy
      simp [loadVar, run_isAgg ha, hcell]
    · cases h
  · cases h

theorem partOf_sound {P : Program} {ρ : Ren} {t : TypeId} {cs : List Value} {cs' : Array Value} {off : Nat} {v : Value} (hc : LRel ρ cs cs'.toList) (h : partOf P t cs off = some v) (w : World) :
    ∃ v', (part t cs' off).run P w = .ok v' w ∧ VRel ρ v v' := by
  unfold partOf at h
  split at h
  · rename_i ha
    split at h
    · rename_i n hn
      rw [bleD, Bool.cond_decide] at h
      split at h
      · cases h
        refine ⟨.agg (cs'.extract off (off + n)), ?_, ?_⟩
        · simp [part, run_isAgg ha, run_sizeOf hn]
        · refine .aggL ?_
          have := (hc.drop off).take n
          rw [Array.toList_extract]
          simpa [List.extract] using this
      · cases h
    · cases h
  · rename_i ha
    obtain ⟨y, hy, hv⟩ := hc.someAt h
    refine ⟨y, ?_, hv⟩
    have : cs'[off]? = some y := by simpa using hy
    simp [part, run_isAgg ha, this]
  · cases h

end Go.Up

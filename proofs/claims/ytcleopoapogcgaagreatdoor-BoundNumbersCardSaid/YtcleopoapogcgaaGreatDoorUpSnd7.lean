/- The abstract interpreter is sound, part 7: the other builtins; all operations but calls of functions. -/
import Derived.Test.YtcleopoapogcgaaGreatDoorUpSnd6
namespace Go.Up

theorem Gave.same {P : Program} {pins : World} {ρ : Ren} {H : AW} {w : World} (hr : Rel P pins ρ H w) {v v' : Value} {r : Result Value} (h : r = .ok v' w) (hv : VRel ρ v v') : Gave P pins ρ H v H r :=
  ⟨v', w, ρ, h, hr, .refl _ _, hv, Nat.le_refl _⟩

theorem aCopy_sound {P : Program} {pins : World} {ρ : Ren} {H H1 : AW} {w : World} (hr : Rel P pins ρ H w) {ats : Array TypeId} {t ty : TypeId} (ht0 : ats[0]? = some t) {d d' x x' v : Value} (hd : VRel ρ d d') (hx : VRel ρ x x')
    (h : aCopy P H t d x = some (v, H1)) : Gave P pins ρ H v H1 ((Builtin.copy_ ats ty #[d', x']).run P w) := by
  unfold aCopy at h
  split at h
  · rename_i e base dlen c xl ht hlx
    split at h
    · rename_i m hm
      split at h
      · rename_i new hnew
        have hlen := lenV_sound (P := P) hx hlx w
        obtain ⟨new', hrun, hnl⟩ := elemsOf_sound (P := P) hr hx hnew
        split at h
        · rename_i i off
          split at h
          · rename_i H' hst
            cases h
            cases hd with
            | slice i off len c r hi hl =>
              obtain ⟨w1, hw1, hrel, hnext⟩ := storeCellsAt_sound (P := P) hr hi hnl hst off (Nat.le_refl _)
              rw [Nat.sub_self] at hw1
              refine ⟨_, w1, ρ, ?_, hrel, .refl _ _, .int _ _, by omega⟩
              simp only [Builtin.copy_, ht0, List.getElem?_toArray, List.getElem?_cons_zero, List.getElem?_cons_succ, Sem.run_bind, run_underlying ht, Result.andThen_ok, hlen, run_sizeOf hm, hrun, hw1, Sem.run_pure]
              rfl
          · cases h
        · rw [beqD, Bool.cond_decide] at h
          split at h
          · rename_i hl0
            cases h
            cases hd
            refine Gave.same hr (v' := goInt (Nat.min xl 0)) ?_ (.int _ _)
            simp only [Builtin.copy_, ht0, List.getElem?_toArray, List.getElem?_cons_zero, List.getElem?_cons_succ, Sem.run_bind, run_underlying ht, Result.andThen_ok, hlen, run_sizeOf hm, hrun, Sem.run_pure]
          · cases h
        · cases h
      · cases h
    · cases h
  · cases h

theorem aLen_sound {P : Program} {pins : World} {ρ : Ren} {H : AW} {w : World} (hr : Rel P pins ρ H w) {ats : Array TypeId} {t ty : TypeId} (ht0 : ats[0]? = some t) {x x' v : Value} (hx : VRel ρ x x')
    (h : aLen P H t x = some v) : ∃ v', (Builtin.len_ ats ty #[x']).run P w = .ok v' w ∧ VRel ρ v v' := by
  unfold aLen at h
  split at h
  · rename_i ht
    cases h; cases hx
    exact ⟨_, by simp [Builtin.len_, ht0, run_underlying ht]; rfl, .int _ _⟩
  · rename_i ht
    cases h
    exact ⟨_, by simp [Builtin.len_, ht0, run_underlying ht]; rfl, .int _ _⟩
  · rename_i ht
    cases h; cases hx <;> exact ⟨_, by simp [Builtin.len_, ht0, run_underlying ht]; rfl, .int _ _⟩
  · rename_i ht
    cases h; cases hx
    exact ⟨_, by simp [Builtin.len_, ht0, run_underlying ht]; rfl, .int _ _⟩
  · rename_i i ht
    split at h
    · rename_i es hg
      cases h
      cases hx with
      | map i r hi =>
        obtain ⟨⟨es', clk, ho, l1, l2⟩, _⟩ := hr.obj i _ r hg hi
        have hgo : (getObj r.blk).run P w = .ok (.map es' clk) w := by simp [getObj, Sem.run, ho]
        have hl := l1.length
        simp only [List.length_map, Array.length_toList] at hl
        refine ⟨goInt es'.size, by simp [Builtin.len_, ht0, run_underlying ht, hgo], ?_⟩
        rw [hl]
        exact .int _ _
    · cases h
  · cases h

theorem abuiltin_sound {P : Program} {pins : World} {ρ : Ren} {H H1 : AW} {w : World} (hr : Rel P pins ρ H w) {b : Builtin} {ty : TypeId} {ats : Array TypeId} {cs : Array Bool} {args : List Value} {args' : Array Value} (ha : LRel ρ args args'.toList) {v : Value}
    (h : abuiltin P b ty ats args H = some (v, H1)) : Did P pins ρ H v H1 ((builtin b ats ty cs args').run P w) := by
  have lift : ∀ {s : Sem Value}, Gave P pins ρ H v H1 (s.run P w) → Did P pins ρ H v H1 ((do pure (Next.value (← s)) : Sem Next).run P w) := by
    intro s ⟨v', w1, ρ1, h1, h2, h3, h4, h5⟩
    exact ⟨v', w1, ρ1, .inl (by simp [h1]), h2, h3, h4, h5⟩
  have h0 : ∀ {t : TypeId} {ts : List TypeId}, ats.toList = t :: ts → ats[0]? = some t := by
    intro t ts e
    rw [← Array.getElem?_toList, e]; rfl
  have h1 : ∀ {t u : TypeId} {ts : List TypeId}, ats.toList = t :: u :: ts → ats[1]? = some u := by
    intro t u ts e
    rw [← Array.getElem?_toList, e]; rfl
  obtain ⟨l', rfl⟩ : ∃ l' : List Value, args' = l'.toArray := ⟨args'.toList, by simp⟩
  simp only at ha
  unfold abuiltin at h
  split at h
  · rename_i x t ts hts
    obtain ⟨e1, e2⟩ := pairUp_some h
    subst e2
    cases ha with
    | cons hx hn =>
      cases hn
      obtain ⟨v', hrun, hv⟩ := aLen_sound (ty := ty) (ats := ats) hr (h0 hts) hx e1
      exact lift (Gave.same hr hrun hv)
  · rename_i base len c t ts hts
    split at h
    · rename_i e ht
      rw [Bool.cond_eq_ite] at h
      split at h
      · rename_i hex
        cases h
        cases ha with
        | cons hx hn =>
          cases hn
          cases hx with
          | nilslice => exact lift (Gave.same hr (v' := goInt 0) (by simp [Builtin.cap_, h0 hts, run_underlying ht]) (.int _ _))
          | slice i off len c r hi hl =>
            obtain ⟨g1, g2⟩ := capOf_exact (s := r.slack) hex
            exact lift (Gave.same hr (v' := goInt c) (by simp [Builtin.cap_, h0 hts, run_underlying ht, g1]) (.int _ _))
      · cases h
    · cases h
  · rw [Bool.cond_eq_ite] at h
    split at h
    · rename_i hp
      have := pfrees_eq ha hp
      subst this
      split at h
      · rename_i u hu
        rw [Bool.cond_eq_ite] at h
        split at h
        · rename_i hpu
          cases h
          exact Did.same hr (pureRun_run hu w) (.of_pfree hpu)
        · cases h
      · cases h
    · cases h
  · rw [Bool.cond_eq_ite] at h
    split at h
    · rename_i hp
      have := pfrees_eq ha hp
      subst this
      split at h
      · rename_i u hu
        rw [Bool.cond_eq_ite] at h
        split at h
        · rename_i hpu
          cases h
          exact Did.same hr (pureRun_run hu w) (.of_pfree hpu)
        · cases h
      · cases h
    · cases h
  · rename_i s x t u ts hts
    cases ha with
    | cons hs ha =>
      cases ha with
      | cons hx hn =>
        cases hn
        exact lift (aAppend_sound (ty := ty) hr (h0 hts) (h1 hts) hs hx h)
  · rename_i d x t ts hts
    cases ha with
    | cons hd ha =>
      cases ha with
      | cons hx hn =>
        cases hn
        exact lift (aCopy_sound (ty := ty) hr (h0 hts) hd hx h)
  · cases h

/-! ### All operations but calls -/
theorem aop_sound {P : Program} {pins : World} {ρ : Ren} {H H1 : AW} {w : World} {a : Env} {a' : Act} (he : ERel ρ a a') (hr : Rel P pins ρ H w) {o : Oper} {v : Value} (h : aop P o a H = some (v, H1)) :
    Did P pins ρ H v H1 ((execOp a'.eval o).run P w) := by
  have lift : ∀ {s : Sem Value}, Gave P pins ρ H v H1 (s.run P w) → Did P pins ρ H v H1 ((do pure (Next.value (← s)) : Sem Next).run P w) := by
    intro s ⟨v', w1, ρ1, h1, h2, h3, h4, h5⟩
    exact ⟨v', w1, ρ1, .inl (by simp [h1]), h2, h3, h4, h5⟩
  have liftu : ∀ {s : Sem Unit}, v = undef → (∃ w1, s.run P w = .ok () w1 ∧ Rel P pins ρ H1 w1 ∧ H1.next = H.next) → Did P pins ρ H v H1 ((do s; pure Next.skip : Sem Next).run P w) := by
    intro s hv ⟨w1, h1, h2, h3⟩
    subst hv
    exact ⟨undef, w1, ρ, .inr ⟨by simp [h1], rfl⟩, h2, .refl _ _, .undef, by omega⟩
  have val : ∀ {s : Sem Value}, H1 = H → (∃ v', s.run P w = .ok v' w ∧ VRel ρ v v') → Did P pins ρ H v H1 ((do pure (Next.value (← s)) : Sem Next).run P w) := by
    intro s e ⟨v', h1, h2⟩
    subst e
    exact lift (Gave.same hr h1 h2)
  have pureV : ∀ {u : Value}, pureOf P o a = some u → (∀ cs b, o.op ≠ .select cs b) → u = v → H1 = H → Did P pins ρ H v H1 ((execOp a'.eval o).run P w) := by
    intro u hu hs e1 e2
    subst e1; subst e2
    obtain ⟨h1, h2⟩ := pureOf_sound he hr hs hu
    exact Did.same hr h1 h2
  unfold aop at h
  cases hop : o.op
  all_goals simp only [hop] at h
  all_goals try (cases h; done)
  case move x =>
    obtain ⟨e1, e2⟩ := pairUp_some h
    subst e2
    exact Did.same hr (by simp [execOp, hop]) (he.eval hr e1)
  case assign x =>
    obtain ⟨e1, e2⟩ := pairUp_some h
    subst e2
    exact Did.same hr (by simp [execOp, hop]) (he.eval hr e1)
  case pick c x y =>
    split at h
    · rename_i b hb
      obtain ⟨e1, e2⟩ := pairUp_some h
      subst e2
      have hc := he.eval hr hb
      generalize hcv : a'.eval c = cv at hc
      cases hc
      refine Did.same hr (v' := a'.eval (bif b then x else y)) ?_ (he.eval hr e1)
      cases b <;> simp [execOp, hop, hcv, asBool]
    · cases h
  case alloc t =>
    simp only [execOp, hop]
    exact lift (aAlloc_sound hr h)
  case box t x =>
    split at h
    · rename_i u hu
      simp only [execOp, hop]
      exact lift (aBox_sound hr (he.eval hr hu) h)
    · cases h
  case build t ps =>
    split at h
    · rename_i vs z hvs hz
      rw [Bool.cond_eq_ite] at h
      split at h
      · rename_i hp
        split at h
        · rename_i cs hb
          cases h
          obtain ⟨cs', hb', hl⟩ := built_rel hz hp (he.parts hr hvs) hb
          refine Did.same hr (v' := .agg cs') ?_ (.aggL hl)
          have hps : (ps.map fun (i, x) => (i, a'.eval x)).toList = ps.toList.map fun (i, x) => (i, a'.eval x) := by simp
          simp only [execOp, hop]
          rw [← hps] at hb'
          simp [run_build w t _ cs' hb']
        · cases h
      · cases h
    · cases h
  case buildSlice t len ps =>
    split at h
    · rename_i vs hvs
      simp only [execOp, hop]
      have hp := he.parts hr hvs
      have hps : (ps.map fun (i, x) => (i, a'.eval x)).toList = ps.toList.map fun (i, x) => (i, a'.eval x) := by simp
      rw [← hps] at hp
      exact lift (aBuildSlice_sound hr hp h)
    · cases h
  case insert t m k x =>
    split at h
    · rename_i m1 k1 x1 hm hk hx
      obtain ⟨e1, e2⟩ := idle_some h
      simp only [execOp, hop]
      exact liftu e2 (aMapUpdate_sound hr (he.eval hr hm) (he.eval hr hk) (he.eval hr hx) e1)
    · cases h
  case load t x =>
    split at h
    · rename_i p hp
      obtain ⟨e1, e2⟩ := pairUp_some h
      simp only [execOp, hop]
      refine val e2 ?_
      have hv := he.eval hr hp
      generalize a'.eval x = p' at hv
      unfold aLoad at e1
      split at e1
      · cases hv with
        | ptr i off r hi =>
          obtain ⟨v', h1, h2⟩ := loadAt_sound hr hi e1
          exact ⟨v', by simp [Instr.loadAt, Instr.sureAddr, h1], h2⟩
      · cases e1
    · cases h
  case store t x y =>
    split at h
    · rename_i p u hp hu
      obtain ⟨e1, e2⟩ := idle_some h
      simp only [execOp, hop]
      refine liftu e2 ?_
      have hv := he.eval hr hp
      have hw := he.eval hr hu
      generalize a'.eval x = p' at hv
      unfold aStore at e1
      split at e1
      · cases hv with
        | ptr i off r hi =>
          obtain ⟨w1, h1, h2, h3⟩ := storeAt_sound hr hi hw e1
          exact ⟨w1, by simp [Instr.storeAt, Instr.sureAddr, h1], h2, h3⟩
      · cases e1
    · cases h
  case nilCheck x =>
    split at h
    · rename_i p hp
      cases h
      have hv := he.eval hr hp
      generalize hx : a'.eval x = p' at hv
      cases hv with
      | ptr i off r hi => exact Did.same hr (by simp [execOp, hop, hx]) (.ptr i off r hi)
    · cases h
  case binOp op t x y yt =>
    split at h
    · rename_i u hu
      cases h
      exact pureV hu (by simp [hop]) rfl rfl
    · split at h
      · rename_i x1 y1 hx hy
        split at h
        · rename_i b hb
          cases h
          have hvx := he.eval hr hx
          have hvy := he.eval hr hy
          have hq := ptrEq_sound hr hvx hvy hb
          have hg : (eqGuard .eql t x y (a'.eval x) (a'.eval y)).run P w = .ok () w := by
            generalize a'.eval x = x' at hvx
            generalize a'.eval y = y' at hvy
            unfold ptrEq at hb
            split at hb <;> first | (cases hvx <;> cases hvy <;> rfl) | cases hb
          have hbo : (binOp .eql t (a'.eval x) (a'.eval y)).run P w = .ok (.bool b) w := by
            generalize a'.eval x = x' at hvx hq
            generalize a'.eval y = y' at hvy hq
            have e : binOp .eql t x' y' = (do pure (.bool (← Op.equal t x' y'))) := by
              unfold ptrEq at hb
              split at hb <;> first | (cases hvx <;> cases hvy <;> rfl) | cases hb
            rw [e]
            simp [hq]
          exact Did.same hr (v' := .bool b) (by simp [execOp, hop, hg, hbo]) (.bool b)
        · cases h
      · rename_i x1 y1 hx hy
        split at h
        · rename_i b hb
          cases h
          have hvx := he.eval hr hx
          have hvy := he.eval hr hy
          have hq := ptrEq_sound hr hvx hvy hb
          have hg : (eqGuard .neq t x y (a'.eval x) (a'.eval y)).run P w = .ok () w := by
            generalize a'.eval x = x' at hvx
            generalize a'.eval y = y' at hvy
            unfold ptrEq at hb
            split at hb <;> first | (cases hvx <;> cases hvy <;> rfl) | cases hb
          have hbo : (binOp .neq t (a'.eval x) (a'.eval y)).run P w = .ok (.bool (!b)) w := by
            generalize a'.eval x = x' at hvx hq
            generalize a'.eval y = y' at hvy hq
            have e : binOp .neq t x' y' = (do pure (.bool (!(← Op.equal t x' y')))) := by
              unfold ptrEq at hb
              split at hb <;> first | (cases hvx <;> cases hvy <;> rfl) | cases hb
            rw [e]
            simp [hq]
          exact Did.same hr (v' := .bool (!b)) (by simp [execOp, hop, hg, hbo]) (.bool (!b))
        · cases h
      · cases h
  case unOp op t x =>
    obtain ⟨e1, e2⟩ := pairUp_some h
    exact pureV e1 (by simp [hop]) rfl e2
  case convert sT dT x =>
    obtain ⟨e1, e2⟩ := pairUp_some h
    exact pureV e1 (by simp [hop]) rfl e2
  case makeInterface t x =>
    split at h
    · cases h
    · rename_i d u hne hd hu
      cases h
      have hv := he.eval hr hu
      refine Did.same hr (v' := .iface t (a'.eval x)) ?_ (.iface _ _ _ hv)
      have : (Instr.makeInterface t (a'.eval x)).run P w = .ok (.iface t (a'.eval x)) w := by
        simp only [Instr.makeInterface, Sem.run_bind, run_underlying hd, Result.andThen_ok]
        cases d <;> first | rfl | exact absurd hd (fun h => hne _ h)
      simp [execOp, hop, this]
    · cases h
  case makeFunc fn first cap =>
    split at h
    · rename_i f c hf hc
      cases h
      have h1 := he.evals hr hf
      have h2 := he.evals hr hc
      refine Did.same hr (v' := .func fn (first.map a'.eval) (cap.map a'.eval)) (by simp [execOp, hop, Instr.makeFunc]) (.funcL ?_ ?_)
      · simpa using h1
      · simpa using h2
    · cases h
  case makeMap t r =>
    cases r with
    | none =>
      simp only [execOp, hop]
      exact lift (aMakeMap_sound hr (r := none) (r' := none) trivial h)
    | some x =>
      simp only at h
      split at h
      · rename_i u hu
        simp only [execOp, hop]
        exact lift (aMakeMap_sound hr (r := some u) (r' := some (a'.eval x)) (he.eval hr hu) h)
      · cases h
  case makeSlice t l c =>
    split at h
    · rename_i l1 c1 hl hc
      simp only [execOp, hop]
      exact lift (aMakeSlice_sound hr (he.eval hr hl) (he.eval hr hc) h)
    · cases h
  case slice t x lo hi mx =>
    split at h
    · rename_i u hu
      cases h
      exact pureV hu (by simp [hop]) rfl rfl
    · split at h
      · rename_i u hu
        obtain ⟨e1, e2⟩ := pairUp_some h
        simp only [execOp, hop]
        exact val e2 (aSlice_sound he hr (he.eval hr hu) e1)
      · cases h
  case fieldAddr sT x f =>
    split at h
    · rename_i p hp
      obtain ⟨e1, e2⟩ := pairUp_some h
      simp only [execOp, hop]
      exact val e2 (aFieldAddr_sound (he.eval hr hp) e1 w)
    · cases h
  case field sT x f =>
    split at h
    · rename_i p hp
      obtain ⟨e1, e2⟩ := pairUp_some h
      simp only [execOp, hop]
      exact val e2 (aField_sound (he.eval hr hp) e1 w)
    · cases h
  case indexAddr t x ix =>
    split at h
    · rename_i x1 i1 hx hi
      obtain ⟨e1, e2⟩ := pairUp_some h
      simp only [execOp, hop]
      exact val e2 (aIndexAddr_sound (he.eval hr hx) (he.eval hr hi) e1 w)
    · cases h
  case index t x ix =>
    split at h
    · rename_i u hu
      cases h
      exact pureV hu (by simp [hop]) rfl rfl
    · split at h
      · rename_i x1 i1 hx hi
        obtain ⟨e1, e2⟩ := pairUp_some h
        simp only [execOp, hop]
        exact val e2 (aIndex_sound (he.eval hr hx) (he.eval hr hi) e1 w)
      · cases h
  case lookup t x ix ok =>
    split at h
    · rename_i x1 i1 hx hi
      obtain ⟨e1, e2⟩ := pairUp_some h
      simp only [execOp, hop]
      exact val e2 (aLookup_sound hr (he.eval hr hx) (he.eval hr hi) e1)
    · cases h
  case mapUpdate t m k x =>
    split at h
    · rename_i m1 k1 x1 hm hk hx
      obtain ⟨e1, e2⟩ := idle_some h
      simp only [execOp, hop]
      exact liftu e2 (aMapUpdate_sound hr (he.eval hr hm) (he.eval hr hk) (he.eval hr hx) e1)
    · cases h
  case extract t i =>
    split at h
    · rename_i vs hvs
      obtain ⟨e1, e2⟩ := pairUp_some h
      subst e2
      have hv := he.eval hr hvs
      generalize hx : a'.eval t = p' at hv
      cases hv with
      | tuple _ vs' hl h2 =>
        obtain ⟨y, hy, hyv⟩ := (LRel.of hl h2).someAt e1
        have hy' : vs'[i]? = some y := by simpa using hy
        exact Did.same hr (v' := y) (by simp [execOp, hop, hx, Instr.extract, hy']) hyv
    · cases h

end Go.Up

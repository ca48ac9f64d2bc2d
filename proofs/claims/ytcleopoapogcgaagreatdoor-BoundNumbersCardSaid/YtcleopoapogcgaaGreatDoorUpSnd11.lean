/- The abstract interpreter is sound, part 11: code, and what a run of it shows. -/
import Derived.Test.YtcleopoapogcgaaGreatDoorUpSnd10
namespace Go.Up

section
variable {P : Program} {pins : World} {ops : Array Oper}

/-- An operation is listed at once. -/
theorem DInv.list {n0 : Nat} {L C : Array Bool} {late : List Late} {a : Env} {H H1 : AW} {ρ : Ren} {a' : Act} {w : World} (h : DInv P pins ops n0 L C late a H ρ a' w) {i : Nat} {o : Oper} (hi : i ∈ Region.ready .any ops L) (ho : ops[i]? = some o)
    (hfree : Region.free .any ops L i = true) (hsep : sepA ops o late = true) {v : Value} {nw : Option (TypeId × Nat)} (hkind : (Late.mk i o v nw).Tied ops) (hrel : Rel P pins ρ H1 w) (hnext : H.next ≤ H1.next)
    (hnew : ∀ t n, nw = some (t, n) → ρ n = none ∧ n = H.next ∧ n < H1.next) : DInv P pins ops n0 (L.setIfInBounds i true) C (⟨i, o, v, nw⟩ :: late) (a.put o.dst v) H1 ρ a' w := by
  obtain ⟨hLi, o', ho', hdeps⟩ := (ready_free h.sizeL).1 hi
  rw [ho] at ho'
  cases ho'
  have hlt : i < L.size := by rw [h.sizeL]; exact (Array.getElem?_eq_some_iff.1 ho).1
  have hset : ∀ j : Nat, (L.setIfInBounds i true).getD j false = if j = i then true else L.getD j false := fun j => set_getD hlt
  have hCi : C.getD i false = false := by
    cases hc : C.getD i false with
    | false => rfl
    | true => have := h.sub i hc; rw [hLi] at this; cases this
  -- what it writes, and the others
  have hs : ∀ d, o.dst = some d → d ∉ o.looksAt ops ∧ ∀ l ∈ late, d ∉ l.op.looksAt ops ∧ l.op.dst ≠ some d := by
    intro d hd
    unfold sepA at hsep
    simp only [hd, Bool.and_eq_true, Bool.not_eq_true', List.all_eq_true, bne_iff_ne] at hsep
    refine ⟨by simpa using hsep.1, fun l hl => ?_⟩
    have := hsep.2 l hl
    exact ⟨by simpa using this.1, this.2⟩
  have put_other : ∀ t, (∀ d, o.dst = some d → d ≠ t) → (a.put o.dst v)[t]? = a[t]? := by
    intro t ht
    cases hd : o.dst with
    | none => rfl
    | some d => simp only [Env.put, lset_eq]; exact List.getElem?_set_ne (ht d hd)
  have put_len : (a.put o.dst v).length = a.length := by cases o.dst <;> simp [Env.put, lset_eq]
  refine ⟨by simp [h.sizeL], h.sizeC, ?_, ?_, ?_, ?_, ?_, ?_, ?_, ?_, ?_, Nat.le_trans h.start hnext, ?_, hrel, ?_⟩
  · intro j hj
    rw [hset]
    split
    · rfl
    · exact h.sub j hj
  · intro j hj hjc
    rw [hset] at hj
    split at hj
    · rename_i e; exact ⟨_, List.mem_cons_self .., e.symm⟩
    · obtain ⟨l, hl, e⟩ := h.known j hj hjc
      exact ⟨l, List.mem_cons_of_mem _ hl, e⟩
  · intro l hl
    cases hl with
    | head => exact ⟨hkind, by simp only [hset, if_true]⟩
    | tail _ hl =>
      obtain ⟨h1, h2⟩ := h.tied l hl
      refine ⟨h1, ?_⟩
      rw [hset]
      split
      · rfl
      · exact h2
  · intro l hl hlc d hd hdl
    rw [put_len] at hdl
    cases hl with
    | head =>
      simp only at hd
      simp only [hd, Env.put, lset_eq]
      exact List.getElem?_set_self hdl
    | tail _ hl =>
      rw [put_other d fun d' hd' e => (hs d' hd').2 l hl |>.2 (by rw [e]; exact hd)]
      exact h.val l hl hlc d hd hdl
  · intro l hl hlc d hd k ok hk hkc
    cases hl with
    | head =>
      simp only at hd ⊢
      by_cases hki : k = i
      · subst hki
        rw [ho] at hk
        cases hk
        exact .inr ⟨(hs d hd).1, fun hne => absurd rfl hne⟩
      · cases hLk : L.getD k false with
        | true =>
          obtain ⟨l2, hl2, e2⟩ := h.known k hLk hkc
          have : l2.op = ok := by have := (h.tied l2 hl2).1.op; rw [e2, hk] at this; exact (Option.some.inj this).symm
          obtain ⟨g1, g2⟩ := (hs d hd).2 l2 hl2
          rw [this] at g1 g2
          exact .inr ⟨g1, fun _ => g2⟩
        | false =>
          by_cases hw : waitsA ok i = true
          · exact .inl hw
          · have hklt : k < L.size := by rw [h.sizeL]; exact (Array.getElem?_eq_some_iff.1 hk).1
            have hap := Region.free_spec ho hfree k ok hk hki (by rw [getD_true_false hklt true false]; exact hLk) (fun e he hb heq => hw (waitsA_iff.2 ⟨e, he, hb, heq⟩))
            obtain ⟨g1, g2, g3⟩ := Oper.apart_spec hap
            exact .inr ⟨g1 d hd, fun _ => g2 d hd⟩
    | tail _ hl => exact h.apart l hl hlc d hd k ok hk hkc
  · intro l hl hlc t n hn
    cases hl with
    | head => obtain ⟨g1, _, g3⟩ := hnew t n hn; exact ⟨g1, g3⟩
    | tail _ hl =>
      obtain ⟨g1, g2⟩ := h.ghost l hl hlc t n hn
      exact ⟨g1, by omega⟩
  · intro l hl m hm t u n hln hmn
    cases hl with
    | head =>
      cases hm with
      | head => rfl
      | tail _ hm =>
        have g1 := (hnew t n hln).2.1
        have g2 := h.below m hm u n hmn
        omega
    | tail _ hl =>
      cases hm with
      | head =>
        have g1 := (hnew u n hmn).2.1
        have g2 := h.below l hl t n hln
        omega
      | tail _ hm => exact h.uniq l hl m hm t u n hln hmn
  · intro l hl t n hn
    cases hl with
    | head => exact (hnew t n hn).2.2
    | tail _ hl => have := h.below l hl t n hn; omega
  · intro l hl t n hn
    cases hl with
    | head => have := (hnew t n hn).2.1; have := h.start; omega
    | tail _ hl => exact h.newer l hl t n hn
  · obtain ⟨a0, he0, hlen, hag⟩ := h.env
    refine ⟨a0, he0, by rw [put_len]; exact hlen, fun t ht => ?_⟩
    rw [put_other t fun d hd e => ht ⟨i, o, v, nw⟩ (List.mem_cons_self ..) hCi (by rw [← e]; exact hd)]
    exact hag t fun l hl hlc => ht l (List.mem_cons_of_mem _ hl) hlc
  · intro j oj hj hoj e he hb
    rw [hset]
    split
    · rfl
    · rw [hset] at hj
      split at hj
      · rename_i ej
        subst ej
        rw [ho] at hoj
        cases hoj
        exact hdeps e he hb
      · exact h.back j oj hj hoj e he hb

/-- An operation that waits for nobody else comes up. -/
theorem DInv.spine {n0 : Nat} {L C : Array Bool} {late : List Late} {a a0 : Env} {H H1 : AW} {ρ ρ1 : Ren} {a' : Act} {w w1 : World} (h : DInv P pins ops n0 L C late a H ρ a' w) {i : Nat} {o : Oper} (hiL : i ∈ Region.ready .any ops L) (hi : i ∈ Region.ready .any ops C) (ho : ops[i]? = some o)
    (he0 : ERel ρ a0 a') (hlen : a0.length = a.length) (hag : ∀ t : Nat, (∀ l ∈ late, C.getD l.num false = false → l.op.dst ≠ some t) → a0[t]? = a[t]?)
    {v v' : Value} (hrel : Rel P pins ρ1 H1 w1) (hext : Ext H.next ρ ρ1) (hnext : H.next ≤ H1.next) (hv : VRel ρ1 v v') :
    DInv P pins ops n0 (L.setIfInBounds i true) (C.setIfInBounds i true) (late.filter fun l => !waitsA o l.num) (a.put o.dst v) H1 ρ1 (a'.put o.dst v') w1 := by
  obtain ⟨hLi, o', ho', hdeps⟩ := (ready_free h.sizeL).1 hiL
  rw [ho] at ho'
  cases ho'
  obtain ⟨hCi, o', ho', hdepsC⟩ := (ready_free h.sizeC).1 hi
  rw [ho] at ho'
  cases ho'
  have hlt : i < L.size := by rw [h.sizeL]; exact (Array.getElem?_eq_some_iff.1 ho).1
  have hltC : i < C.size := by rw [h.sizeC, ← h.sizeL]; exact hlt
  have hset : ∀ j : Nat, (L.setIfInBounds i true).getD j false = if j = i then true else L.getD j false := fun j => set_getD hlt
  have hsetC : ∀ j : Nat, (C.setIfInBounds i true).getD j false = if j = i then true else C.getD j false := fun j => set_getD hltC
  have nowait : ∀ l ∈ late, C.getD l.num false = false → waitsA o l.num = false := by
    intro l _ hlc
    cases hw : waitsA o l.num with
    | false => rfl
    | true =>
      obtain ⟨e, he, hb, heq⟩ := waitsA_iff.1 hw
      have := hdepsC e he hb
      rw [heq, hlc] at this
      cases this
  have mem : ∀ l, l ∈ late.filter (fun l => !waitsA o l.num) → l ∈ late := fun l hl => (List.mem_filter.1 hl).1
  have pend : ∀ l ∈ late, (C.setIfInBounds i true).getD l.num false = false → C.getD l.num false = false ∧ l.num ≠ i := by
    intro m _ hm
    rw [hsetC] at hm
    split at hm
    · cases hm
    · rename_i hne; exact ⟨hm, hne⟩
  have put_len : (a.put o.dst v).length = a.length := by cases o.dst <;> simp [Env.put, lset_eq]
  have dsts : ∀ l ∈ late, C.getD l.num false = false → l.num ≠ i → ∀ d, l.op.dst = some d → o.dst ≠ some d := by
    intro l hl hlc hne d hd
    rcases h.apart l hl hlc d hd i o ho hCi with hw | ⟨_, hw⟩
    · rw [nowait l hl hlc] at hw; cases hw
    · exact hw (Ne.symm hne)
  refine ⟨by simp [h.sizeL], by simp [h.sizeC], ?_, ?_, ?_, ?_, ?_, ?_, ?_, ?_, ?_, Nat.le_trans h.start hnext, ?_, hrel, ?_⟩
  · intro j hj
    rw [hsetC] at hj
    rw [hset]
    split
    · rfl
    · rename_i hne; rw [if_neg hne] at hj; exact h.sub j hj
  · intro j hj hjc
    rw [hset] at hj
    rw [hsetC] at hjc
    split at hjc
    · cases hjc
    · rename_i hne
      rw [if_neg hne] at hj
      obtain ⟨l, hl, e⟩ := h.known j hj hjc
      exact ⟨l, List.mem_filter.2 ⟨hl, by rw [nowait l hl (by rw [e]; exact hjc)]; rfl⟩, e⟩
  · intro l hl
    obtain ⟨h1, h2⟩ := h.tied l (mem l hl)
    refine ⟨h1, ?_⟩
    rw [hset]
    split
    · rfl
    · exact h2
  · intro l hl hlc d hd hdl
    obtain ⟨g1, g2⟩ := pend l (mem l hl) hlc
    rw [put_len] at hdl
    have hne := dsts l (mem l hl) g1 g2 d hd
    cases hod : o.dst with
    | none => exact h.val l (mem l hl) g1 d hd hdl
    | some d' =>
      simp only [Env.put, lset_eq]
      rw [List.getElem?_set_ne (fun e => hne (by rw [hod, e]))]
      exact h.val l (mem l hl) g1 d hd hdl
  · intro l hl hlc d hd k ok hk hkc
    rw [hsetC] at hkc
    split at hkc
    · cases hkc
    · exact h.apart l (mem l hl) (pend l (mem l hl) hlc).1 d hd k ok hk hkc
  · intro l hl hlc t n hn
    obtain ⟨g1, g2⟩ := h.ghost l (mem l hl) (pend l (mem l hl) hlc).1 t n hn
    exact ⟨by rw [hext n g2]; exact g1, by omega⟩
  · intro l hl m hm t u n hln hmn
    exact h.uniq l (mem l hl) m (mem m hm) t u n hln hmn
  · intro l hl t n hn
    have := h.below l (mem l hl) t n hn; omega
  · intro l hl t n hn
    exact h.newer l (mem l hl) t n hn
  · refine ⟨a0.put o.dst v, (he0.mono (hext.keeps h.rel)).put o.dst hv, ?_, ?_⟩
    · rw [put_len]; cases o.dst <;> simp [Env.put, lset_eq, hlen]
    · intro t ht
      have base : a0[t]? = a[t]? ∨ o.dst = some t := by
        by_cases hot : o.dst = some t
        · exact .inr hot
        · refine .inl (hag t fun l hl hlc hd => ?_)
          by_cases hli : l.num = i
          · have : l.op = o := by have := (h.tied l hl).1.op; rw [hli, ho] at this; exact (Option.some.inj this).symm
            rw [this] at hd
            exact hot hd
          · exact ht l (List.mem_filter.2 ⟨hl, by rw [nowait l hl hlc]; rfl⟩) (by rw [hsetC, if_neg hli]; exact hlc) hd
      cases hod : o.dst with
      | none =>
        simp only [Env.put]
        rcases base with hb | hb
        · exact hb
        · rw [hod] at hb; cases hb
      | some d =>
        simp only [Env.put, lset_eq]
        by_cases hdt : d = t
        · subst hdt
          by_cases hdl : d < a.length
          · have h1 : (List.set a0 d v)[d]? = some v := List.getElem?_set_self (show d < List.length a0 by rw [hlen]; exact hdl)
            have h2 : (List.set a d v)[d]? = some v := List.getElem?_set_self hdl
            rw [h1, h2]
          · have hdl' : List.length a ≤ d := Nat.le_of_not_lt hdl
            rw [List.getElem?_eq_none (show List.length (List.set a0 d v) ≤ d by rw [List.length_set, hlen]; exact hdl'), List.getElem?_eq_none (show List.length (List.set a d v) ≤ d by rw [List.length_set]; exact hdl')]
        · rw [List.getElem?_set_ne hdt, List.getElem?_set_ne hdt]
          rcases base with hb | hb
          · exact hb
          · rw [hod] at hb; exact absurd (Option.some.inj hb) hdt
  · intro j oj hj hoj e he hb
    rw [hset]
    split
    · rfl
    · rw [hset] at hj
      split at hj
      · rename_i ej
        subst ej
        rw [ho] at hoj
        cases hoj
        exact hdeps e he hb
      · exact h.back j oj hj hoj e he hb

theorem drawA_sound {ih : IH} (hih : Sound P pins ih) (hback : backA ops.toList = true) {ρ0 : Ren} {n0 : Nat} {k : KK} : ∀ (n : Nat) (L : Array Bool) (late : List Late) (a : Env) (H : AW), drawA P ih ops n L late a H k = true →
    ∀ fuel C ρ a' w, DInv P pins ops n0 L C late a H ρ a' w → Ext n0 ρ0 ρ → unl C ≤ fuel → wpAny P .any ops (Post P pins ρ0 n0 k) fuel C a' w := by
  intro n
  induction n with
  | zero => intro L late a H h; simp [drawA] at h
  | succ n ihn =>
    intro L late a H h fuel C ρ a' w hinv hx hu
    unfold drawA at h
    split at h
    · -- the end
      rename_i hr
      simp only [Bool.and_eq_true] at h
      exact stop_sound hback h.1 hinv.start (fun _ => h.2) (fun i hi => by rw [hr] at hi; cases hi) fuel C ρ a' w hinv hx hu
    · rename_i r hne
      split at h
      · -- something is listed at once
        rename_i i hfind
        have hi : i ∈ Region.ready .any ops L := List.mem_of_find?_eq_some hfind
        have hcond := List.find?_some hfind
        split at h
        · rename_i o ho
          simp only [ho, Option.any_some, Bool.and_eq_true] at hcond
          obtain ⟨⟨hfa, hfree⟩, hsep⟩ := hcond
          split at h
          · rename_i t hop
            rw [Bool.cond_eq_ite] at h
            split at h
            · rename_i hg
              have hg' : o.guard = none := by simpa using hg
              split at h
              · rename_i v H' hv
                have hal : aAlloc P H t = some (v, H') := by unfold aop at hv; rw [hop] at hv; exact hv
                unfold aAlloc at hal
                split at hal
                · rename_i z hz
                  rw [Bool.cond_eq_ite] at hal
                  split at hal
                  · rename_i hpz
                    split at hal
                    · rename_i q H'' hnew
                      cases hal
                      obtain ⟨g1, g2, g3, g4, g5⟩ := hinv.rel.grow hnew
                      refine ihn _ _ _ _ h fuel C ρ a' w (hinv.list hi ho hfree hsep ⟨ho, ?_⟩ g1 g5 ?_) hx hu
                      · exact ⟨hop, hg', by rw [g4]⟩
                      · intro t' n' e
                        cases e
                        rw [← g4]
                        exact ⟨g2, rfl, g3⟩
                    · cases hal
                  · cases hal
                · cases hal
              · cases h
            · cases h
          · rename_i hnal
            split at h
            · rename_i v hv
              have hfl : floats o.op = true := by
                simp only [Bool.or_eq_true] at hfa
                rcases hfa with hfa | hfa
                · exact hfa
                · cases hop : o.op <;> simp [hop, allocs] at hfa
                  exact absurd hop (hnal _)
              refine ihn _ _ _ _ h fuel C ρ a' w (hinv.list hi ho hfree hsep ⟨ho, hfl⟩ hinv.rel (Nat.le_refl _) (fun t n e => by cases e)) hx hu
            · cases h
        · cases h
      · -- one operation alone may come up
        rename_i hfind
        split at h
        · rename_i i hr
          split at h
          · rename_i o ho
            simp only [Bool.and_eq_true] at h
            obtain ⟨hok, h⟩ := h
            refine stop_sound hback hok hinv.start (fun he => by rw [hr] at he; cases he) ?_ fuel C ρ a' w hinv hx hu
            intro i' hi' fuel C ρ a' w hinv hx hiC hu
            have hi0 := hi'
            rw [hr] at hi'
            have : i' = i := by simpa using hi'
            subst this
            obtain ⟨a0, he0, hlen, hag⟩ := hinv.env
            have hlook := hinv.looks hag hiC ho
            have hCi := ((ready_free hinv.sizeC).1 hiC).1
            have hltC : i' < C.size := by rw [hinv.sizeC]; exact (Array.getElem?_eq_some_iff.1 ho).1
            have hun := unl_set hltC hCi
            unfold wpOp
            simp only [ho]
            rw [← wantedA_eq (o := o) (ops := ops) he0.vals, wantedA_congr hlook]
            cases hw : wantedA ops.toList o a with
            | false =>
              simp only [hw, cond_false] at h
              rw [if_neg (by simp)]
              exact ihn _ _ _ _ h fuel _ ρ _ w (hinv.spine hi0 hiC ho he0 hlen hag hinv.rel (.refl _ _) (Nat.le_refl _) .undef) hx (by omega)
            | true =>
              simp only [hw, cond_true] at h
              rw [if_pos rfl]
              refine .inl (operA_sound hih (a := a0) (by rw [operA_congr (operands_of_looks hlook)]; exact h) he0 hinv.rel _ _ ?_)
              intro v v' H1 ρ1 w1 h1 h2 h3 h4 h5
              exact ihn _ _ _ _ h5 fuel _ ρ1 _ w1 (hinv.spine hi0 hiC ho he0 hlen hag h1 h2 h3 h4) (hx.trans h2 hinv.start) (by omega)
          · cases h
        · cases h

/-! ### Code -/
theorem stepA_sound {ih : IH} (hm : P.follows .mixedOrders = true) (hih : Sound P pins ih) : Sound P pins (stepA P ih) := by
  intro c a H k ρ a' w h he hr
  have self : ∀ {ae : AExit}, k ae a H = true → Post P pins ρ H.next k ae.out a' w := fun {ae} hk => ⟨ae, a, H, ρ, rfl, he, hr, .refl _ _, Nat.le_refl _, hk⟩
  have sub : ∀ {c : Code} {k1 : KK} {Q : Exit → Act → World → Prop}, ih c a H k1 = true → (∀ ae a1 H1 ρ1 a1' w1, ERel ρ1 a1 a1' → Rel P pins ρ1 H1 w1 → Ext H.next ρ ρ1 → H.next ≤ H1.next → k1 ae a1 H1 = true → Q ae.out a1' w1) → c.wp P Q a' w := by
    intro c k1 Q hc hq
    refine wp_mono (hih c a H k1 ρ a' w hc he hr).wp ?_
    intro e a1' w1 ⟨ae, a1, H1, ρ1, g1, g2, g3, g4, g5, g6⟩
    subst g1
    exact hq ae a1 H1 ρ1 a1' w1 g2 g3 g4 g5 g6
  have again : ∀ {c : Code} {a1 : Env} {H1 : AW} {ρ1 : Ren} {a1' : Act} {w1 : World}, ih c a1 H1 k = true → ERel ρ1 a1 a1' → Rel P pins ρ1 H1 w1 → Ext H.next ρ ρ1 → H.next ≤ H1.next → wpS P c (Post P pins ρ H.next k) a1' w1 := by
    intro c a1 H1 ρ1 a1' w1 hc g2 g3 g4 g5
    exact (hih c a1 H1 k ρ1 a1' w1 hc g2 g3).mono fun e a2 w2 hp => hp.mono g4 g5
  unfold stepA at h
  split at h
  · exact wp_skip (self h)
  · exact wp_label (self h)
  · exact wp_ret (self h)
  · exact wp_exit (self (ae := .exit _) h)
  · rename_i x y
    refine wp_seq (sub h ?_)
    intro ae a1 H1 ρ1 a1' w1 g2 g3 g4 g5 g6
    cases ae with
    | normal => exact (again g6 g2 g3 g4 g5).wp
    | exit id => exact ⟨_, a1, H1, ρ1, rfl, g2, g3, g4, g5, g6⟩
    | ret => exact ⟨_, a1, H1, ρ1, rfl, g2, g3, g4, g5, g6⟩
  · rename_i c x y
    split at h
    · rename_i b hb
      have hv := he.eval hr hb
      generalize hcv : a'.eval c = cv at hv
      cases hv
      refine wp_cond hcv ?_
      rw [Bool.cond_eq_ite] at h
      rw [← Bool.cond_eq_ite]
      rw [← Bool.cond_eq_ite] at h
      have := (hih _ a H k ρ a' w h he hr).wp
      rw [Bool.cond_eq_ite] at this ⊢
      exact this
    · cases h
  · rename_i id c
    refine wp_block (sub h ?_)
    intro ae a1 H1 ρ1 a1' w1 g2 g3 g4 g5 g6
    cases ae with
    | normal => exact ⟨.normal, a1, H1, ρ1, rfl, g2, g3, g4, g5, g6⟩
    | ret => exact ⟨.ret, a1, H1, ρ1, rfl, g2, g3, g4, g5, g6⟩
    | exit j =>
      simp only [beqD, Bool.cond_decide] at g6
      simp only [AExit.out, Exit.inBlock]
      split
      · rename_i hj
        rw [if_pos hj] at g6
        exact ⟨.normal, a1, H1, ρ1, rfl, g2, g3, g4, g5, g6⟩
      · rename_i hj
        rw [if_neg hj] at g6
        exact ⟨.exit j, a1, H1, ρ1, rfl, g2, g3, g4, g5, g6⟩
  · rename_i c
    refine LoopWp.round (sub h ?_)
    intro ae a1 H1 ρ1 a1' w1 g2 g3 g4 g5 g6
    cases ae with
    | normal => exact again (c := .loop c) g6 g2 g3 g4 g5
    | exit id => exact ⟨_, a1, H1, ρ1, rfl, g2, g3, g4, g5, g6⟩
    | ret => exact ⟨_, a1, H1, ρ1, rfl, g2, g3, g4, g5, g6⟩
  · rename_i id ops
    exact wp_region_list (opsA_sound hih h he hr)
  · rename_i id ops
    simp only [Bool.and_eq_true] at h
    refine wp_region_any hm ?_
    refine drawA_sound hih h.1 _ _ _ _ _ h.2 ops.size _ ρ a' _ ?_ (.refl _ _) ?_
    · have no : ∀ j : Nat, (Array.replicate ops.size false).getD j false = false := fun j => by
        simp only [Array.getD, Array.size_replicate, Array.getInternal_eq_getElem, Array.getElem_replicate]
        split <;> rfl
      have nil : ∀ {p : Late → Prop}, ∀ l ∈ ([] : List Late), p l := fun l hl => by cases hl
      exact ⟨by simp, by simp, fun j hj => hj, fun j hj => (by rw [no] at hj; cases hj), nil, nil, nil, nil, nil, nil, nil, Nat.le_refl _, ⟨a, he, rfl, fun _ _ => rfl⟩, hr.drew, fun j oj hj => (by rw [no] at hj; cases hj)⟩
    · unfold unl
      refine Nat.le_trans (List.length_filter_le _ _) ?_
      simp
  · cases h

theorem runA_sound (hm : P.follows .mixedOrders = true) : ∀ n, Sound P pins (runA P n)
  | 0 => fun c a H k ρ a' w h => by simp [runA] at h
  | n + 1 => stepA_sound hm (runA_sound hm n)

/-- **What a run of the interpreter shows of the model's run.** From a world whose block 0 is the package's one variable (if it is asked for), nothing that was there is changed. -/
theorem runCall_sound (hm : P.follows .mixedOrders = true) {n : Nat} {g : FuncId} {args : List Value} {H : AW} {k : KV} (h : runCall P n g args H k = true) {args' : Array Value} {ρ : Ren} {w : World} (ha : LRel ρ args args'.toList) (hr : Rel P pins ρ H w) :
    Calls P g args' w (Back P pins ρ H.next k) := enterA_sound (runA_sound hm n) h ha hr

end
end Go.Up

/- The abstract interpreter is sound, part 10: a region that draws its order, in whatever order. -/
import Derived.Test.YtcleopoapogcgaaGreatDoorUpSnd9
namespace Go.Up

section
variable {P : Program} {pins : World} {ops : Array Oper}

/-- What is listed at once, and its operation. -/
structure Late.Tied (ops : Array Oper) (l : Late) : Prop where
  op : ops[l.num]? = some l.op
  kind : match l.new with
    | none => floats l.op.op = true
    | some (t, n) => l.op.op = .alloc t ∧ l.op.guard = none ∧ l.val = .pointer (some ⟨n, 0, none⟩)

structure DInv (P : Program) (pins : World) (ops : Array Oper) (n0 : Nat) (L C : Array Bool) (late : List Late) (a : Env) (H : AW) (ρ : Ren) (a' : Act) (w : World) : Prop where
  sizeL : L.size = ops.size
  sizeC : C.size = ops.size
  sub : ∀ j : Nat, C.getD j false = true → L.getD j false = true
  known : ∀ j : Nat, L.getD j false = true → C.getD j false = false → ∃ l ∈ late, l.num = j
  tied : ∀ l ∈ late, l.Tied ops ∧ L.getD l.num false = true
  val : ∀ l ∈ late, C.getD l.num false = false → ∀ d, l.op.dst = some d → d < a.length → a[d]? = some l.val
  apart : ∀ l ∈ late, C.getD l.num false = false → ∀ d, l.op.dst = some d → ∀ (k : Nat) ok, ops[k]? = some ok → C.getD k false = false → waitsA ok l.num = true ∨ (d ∉ ok.looksAt ops ∧ (k ≠ l.num → ok.dst ≠ some d))
  ghost : ∀ l ∈ late, C.getD l.num false = false → ∀ t n, l.new = some (t, n) → ρ n = none ∧ n < H.next
  uniq : ∀ l ∈ late, ∀ m ∈ late, ∀ t u n, l.new = some (t, n) → m.new = some (u, n) → l.num = m.num
  below : ∀ l ∈ late, ∀ t n, l.new = some (t, n) → n < H.next
  newer : ∀ l ∈ late, ∀ t n, l.new = some (t, n) → n0 ≤ n
  start : n0 ≤ H.next
  env : ∃ a0, ERel ρ a0 a' ∧ a0.length = a.length ∧ ∀ t : Nat, (∀ l ∈ late, C.getD l.num false = false → l.op.dst ≠ some t) → a0[t]? = a[t]?
  rel : Rel P pins ρ H w
  back : ∀ (j : Nat) oj, L.getD j false = true → ops[j]? = some oj → ∀ e ∈ oj.after, Region.binds .any e = true → L.getD e.on false = true

theorem waitsA_iff {o : Oper} {j : Nat} : waitsA o j = true ↔ ∃ e ∈ o.after, Region.binds .any e = true ∧ e.on = j := by
  unfold waitsA
  simp only [beqD, Array.any_eq_true', Bool.and_eq_true, decide_eq_true_eq]

theorem getD_true_false {C : Array Bool} {j : Nat} (h : j < C.size) (d e : Bool) : C.getD j d = C.getD j e := by
  simp [Array.getD, h]

theorem ready_free {C : Array Bool} (hs : C.size = ops.size) {j : Nat} : j ∈ Region.ready .any ops C ↔ C.getD j false = false ∧ ∃ o, ops[j]? = some o ∧ ∀ e ∈ o.after, Region.binds .any e = true → C.getD e.on false = true := by
  rw [mem_ready]
  constructor
  · rintro ⟨h1, o, ho, h2⟩
    have hlt : j < C.size := by rw [hs]; exact (Array.getElem?_eq_some_iff.1 ho).1
    exact ⟨by rw [getD_true_false hlt false true]; exact h1, o, ho, h2⟩
  · rintro ⟨h1, o, ho, h2⟩
    have hlt : j < C.size := by rw [hs]; exact (Array.getElem?_eq_some_iff.1 ho).1
    exact ⟨by rw [getD_true_false hlt true false]; exact h1, o, ho, h2⟩

theorem set_getD {C : Array Bool} {i j : Nat} (hi : i < C.size) : (C.setIfInBounds i true).getD j false = if j = i then true else C.getD j false := by
  by_cases h : j = i
  · subst h; simp [Array.getD, hi]
  · rw [if_neg h, getD_set_ne false (Ne.symm h)]

/-- A block that was listed is made. -/
theorem Rel.bind {ρ : Ren} {H : AW} {w w' : World} {n : Nat} {c : List Value} {e : TypeId} {ro : Bool} (h : Rel P pins ρ H w) (hn : ρ n = none) (hlt : n < H.next) (hg : H.get n = some (.cells c e ro)) {c' : Array Value} (hc : LRel ρ c c'.toList)
    (hw : w'.heap = w.heap.push (.cells c' e (0, 0))) (hsm : Same w w') : Rel P pins (ρ.add n ⟨w.heap.size, 0⟩) H w' := by
  have hne : ∀ j s, ρ j = some s → j ≠ n := fun j s hj e => by rw [e, hn] at hj; cases hj
  have keep : ∀ j s, ρ j = some s → (ρ.add n ⟨w.heap.size, 0⟩) j = some s := fun j s hj => by simp [Ren.add, hne j s hj, hj]
  refine ⟨?_, h.few, ?_, ?_, ?_, ?_, ?_, h.same.trans hsm⟩
  · intro j s hj
    simp only [Ren.add] at hj
    split at hj
    · omega
    · exact h.dom j s hj
  · intro j o' s hgj hj
    simp only [Ren.add] at hj
    by_cases hjn : j = n
    · subst hjn
      simp only [if_true, Option.some.injEq] at hj
      rw [hg] at hgj
      cases hgj
      subst hj
      refine ⟨?_, fun _ => ?_⟩
      · rw [hw]; simp only [Array.getElem?_push_size]; exact (ORel.fresh e ro _ hc).mono keep
      · cases hp : pins.heap[w.heap.size]? with
        | none => rfl
        | some x =>
          have := h.pin _ _ hp
          simp at this
    · simp only [hjn, if_false] at hj
      obtain ⟨h1, h2⟩ := h.obj j o' s hgj hj
      refine ⟨?_, h2⟩
      have hlow := h.low j s hj
      rw [hw, Array.getElem?_push, if_neg (by omega)]
      exact h1.mono keep
  · intro j k s t hgj hgk hj hk hst
    simp only [Ren.add] at hj hk
    by_cases hjn : j = n <;> by_cases hkn : k = n
    · omega
    · simp only [hjn, hkn, if_true, if_false] at hj hk
      cases hj
      have := h.low k t hk
      simp only at hst
      omega
    · simp only [hjn, hkn, if_true, if_false] at hj hk
      cases hk
      have := h.low j s hj
      simp only at hst
      omega
    · simp only [hjn, hkn, if_false] at hj hk
      exact h.inj j k s t hgj hgk hj hk hst
  · intro b x hb'
    have := h.pin b x hb'
    rw [hw, Array.getElem?_push]
    have hlt : b < w.heap.size := (Array.getElem?_eq_some_iff.1 this).1
    rw [if_neg (by omega)]
    exact this
  · obtain ⟨s, hs, hz⟩ := h.zero
    exact ⟨s, keep 0 s hs, hz⟩
  · intro j s hj
    rw [hw]; simp only [Array.size_push]
    simp only [Ren.add] at hj
    split at hj
    · cases hj; simp
    · have := h.low j s hj; omega

/-- A block is listed that is not made yet. -/
theorem Rel.grow {ρ : Ren} {H H1 : AW} {w : World} {i : Nat} {o : AObj} (h : Rel P pins ρ H w) (hn : H.new o = some (i, H1)) : Rel P pins ρ H1 w ∧ ρ i = none ∧ i < H1.next ∧ i = H.next ∧ H.next ≤ H1.next := by
  obtain ⟨rfl, hnext, hfew, hget⟩ := AW.new_some hn
  have hne : ∀ j s, ρ j = some s → j ≠ H.next := fun j s hj => Nat.ne_of_lt (h.dom j s hj)
  have hno : ρ H.next = none := by
    cases hx : ρ H.next with
    | none => rfl
    | some s => exact absurd rfl (hne _ s hx)
  refine ⟨⟨?_, by omega, ?_, ?_, h.pin, h.zero, h.low, h.same⟩, hno, by omega, rfl, by omega⟩
  · intro j s hj; have := h.dom j s hj; omega
  · intro j o' s hg hj
    rw [hget, if_neg (hne j s hj)] at hg
    exact h.obj j o' s hg hj
  · intro j k s t hgj hgk hj hk hst
    rw [hget, if_neg (hne j s hj)] at hgj
    rw [hget, if_neg (hne k t hk)] at hgk
    exact h.inj j k s t hgj hgk hj hk hst

/-- How many have not come up yet. -/
def unl (C : Array Bool) : Nat := (C.toList.filter (!·)).length
theorem unl_list {l : List Bool} : ∀ {i : Nat} (hi : i < l.length), l[i] = false → ((l.set i true).filter (!·)).length + 1 = (l.filter (!·)).length := by
  induction l with
  | nil => intro i hi; simp at hi
  | cons b l ih =>
    intro i hi h
    cases i with
    | zero => simp at h; simp [h]
    | succ i =>
      have := ih (i := i) (by simpa using hi) (by simpa using h)
      cases b <;> simp only [List.set_cons_succ, List.filter_cons, Bool.not_false, Bool.not_true, if_true, if_false, List.length_cons, Bool.false_eq_true] <;> omega
theorem unl_set {C : Array Bool} {i : Nat} (hi : i < C.size) (h : C.getD i false = false) : unl (C.setIfInBounds i true) + 1 = unl C := by
  unfold unl
  rw [Array.toList_setIfInBounds]
  exact unl_list (by simpa using hi) (by simpa [Array.getD, hi] using h)
theorem unl_zero {C : Array Bool} (h : unl C = 0) (j : Nat) (hj : j < C.size) : C.getD j false = true := by
  unfold unl at h
  rw [List.length_eq_zero_iff, List.filter_eq_nil_iff] at h
  have := h C[j] (by simp)
  simpa [Array.getD, hj] using this

/-- All that an operation that may come up looks at is there. -/
theorem DInv.looks {n0 : Nat} {L C : Array Bool} {late : List Late} {a : Env} {H : AW} {ρ : Ren} {a' : Act} {w : World} (h : DInv P pins ops n0 L C late a H ρ a' w) {a0 : Env} (h0 : ∀ t : Nat, (∀ l ∈ late, C.getD l.num false = false → l.op.dst ≠ some t) → a0[t]? = a[t]?)
    {i : Nat} {o : Oper} (hi : i ∈ Region.ready .any ops C) (ho : ops[i]? = some o) : ∀ t ∈ o.looksAt ops, a0[t]? = a[t]? := by
  intro t ht
  obtain ⟨hc, o', ho', hdeps⟩ := (ready_free h.sizeC).1 hi
  rw [ho] at ho'
  cases ho'
  refine h0 t fun l hl hlc hd => ?_
  rcases h.apart l hl hlc t hd i o ho hc with hw | ⟨hw, _⟩
  · obtain ⟨e, he, hb, heq⟩ := waitsA_iff.1 hw
    have := hdeps e he hb
    rw [heq, hlc] at this
    cases this
  · exact hw ht

/-- What may come up and is listed already comes up. -/
theorem DInv.late_step {n0 : Nat} {L C : Array Bool} {late : List Late} {a : Env} {H : AW} {ρ : Ren} {a' : Act} {w : World} (h : DInv P pins ops n0 L C late a H ρ a' w) (hok : late.all (Late.ok P ops.toList a H) = true) {i : Nat}
    (hi : i ∈ Region.ready .any ops C) (hL : L.getD i false = true) (Q : Exit → Act → World → Prop) (K : Act → World → Prop)
    (hK : ∀ ρ1 a1 w1, DInv P pins ops n0 L (C.setIfInBounds i true) late a H ρ1 a1 w1 → Ext n0 ρ ρ1 → K a1 w1) : wpOp P ops Q i K a' w := by
  obtain ⟨hc, o, ho, hdeps⟩ := (ready_free h.sizeC).1 hi
  have hlt : i < C.size := by rw [h.sizeC]; exact (Array.getElem?_eq_some_iff.1 ho).1
  obtain ⟨l, hl, hnum⟩ := h.known i hL hc
  obtain ⟨htied, _⟩ := h.tied l hl
  have hop : l.op = o := by have := htied.op; rw [hnum, ho] at this; exact (Option.some.inj this).symm
  obtain ⟨a0, he0, hlen, hag⟩ := h.env
  have hlook := h.looks hag hi ho
  have hokl := List.all_eq_true.1 hok l hl
  have hset : ∀ j : Nat, (C.setIfInBounds i true).getD j false = if j = i then true else C.getD j false := fun j => set_getD hlt
  have hpend : ∀ m ∈ late, (C.setIfInBounds i true).getD m.num false = false → C.getD m.num false = false ∧ m.num ≠ i := by
    intro m _ hm
    rw [hset] at hm
    split at hm
    · cases hm
    · rename_i hne; exact ⟨hm, hne⟩
  -- the state behind it
  have done : ∀ (ρ1 : Ren) (v' : Value) (w1 : World), (∀ j r, ρ j = some r → ρ1 j = some r) → VRel ρ1 l.val v' → Rel P pins ρ1 H w1 → (∀ m ∈ late, C.getD m.num false = false → m.num ≠ i → ∀ t n, m.new = some (t, n) → ρ1 n = none) →
      DInv P pins ops n0 L (C.setIfInBounds i true) late a H ρ1 (a'.put o.dst v') w1 := by
    intro ρ1 v' w1 hmono hv hrel hgh
    refine ⟨h.sizeL, by simp [h.sizeC], ?_, ?_, h.tied, ?_, ?_, ?_, h.uniq, h.below, h.newer, h.start, ?_, hrel, h.back⟩
    · intro j hj
      rw [hset] at hj
      split at hj
      · rename_i e; rw [e]; exact hL
      · exact h.sub j hj
    · intro j hj1 hj2
      rw [hset] at hj2
      split at hj2
      · cases hj2
      · exact h.known j hj1 hj2
    · intro m hm hmc
      exact h.val m hm (hpend m hm hmc).1
    · intro m hm hmc d hd k ok hk hkc
      rw [hset] at hkc
      split at hkc
      · cases hkc
      · exact h.apart m hm (hpend m hm hmc).1 d hd k ok hk hkc
    · intro m hm hmc t n hn
      obtain ⟨h1, h2⟩ := hpend m hm hmc
      exact ⟨hgh m hm h1 h2 t n hn, (h.ghost m hm h1 t n hn).2⟩
    · refine ⟨a0.put o.dst l.val, (he0.mono hmono).put o.dst hv, ?_, ?_⟩
      · cases o.dst <;> simp [Env.put, lset_eq, hlen]
      · intro t ht
        have base : ∀ d, o.dst = some d → d ≠ t → a0[t]? = a[t]? := by
          intro d hd hdt
          refine hag t fun m hm hmc hmd => ?_
          by_cases hmi : m.num = i
          · obtain ⟨hmt, _⟩ := h.tied m hm
            have : m.op = o := by have := hmt.op; rw [hmi, ho] at this; exact (Option.some.inj this).symm
            rw [this, hd] at hmd
            exact hdt (Option.some.inj hmd)
          · exact ht m hm (by rw [hset, if_neg hmi]; exact hmc) hmd
        cases hd : o.dst with
        | none =>
          simp only [Env.put]
          refine hag t fun m hm hmc hmd => ?_
          by_cases hmi : m.num = i
          · obtain ⟨hmt, _⟩ := h.tied m hm
            have : m.op = o := by have := hmt.op; rw [hmi, ho] at this; exact (Option.some.inj this).symm
            rw [this, hd] at hmd
            cases hmd
          · exact ht m hm (by rw [hset, if_neg hmi]; exact hmc) hmd
        | some d =>
          simp only [Env.put, lset_eq]
          by_cases hdt : d = t
          · subst hdt
            by_cases hdl : d < a.length
            · rw [h.val l hl (by rw [hnum]; exact hc) d (by rw [hop]; exact hd) hdl]
              exact List.getElem?_set_self (show d < List.length a0 by rw [hlen]; exact hdl)
            · have hdl' : List.length a ≤ d := Nat.le_of_not_lt hdl
              rw [List.getElem?_eq_none (show List.length (List.set a0 d l.val) ≤ d by rw [List.length_set, hlen]; exact hdl'), List.getElem?_eq_none hdl']
          · rw [List.getElem?_set_ne hdt]
            exact base d hd hdt
  unfold wpOp
  simp only [ho]
  cases hnew : l.new with
  | none =>
    have hfl : floats o.op = true := by have := htied.kind; rw [hnew] at this; rw [← hop]; exact this
    unfold Late.ok at hokl
    rw [hnew] at hokl
    simp only at hokl
    split at hokl
    · rename_i u hu
      have huv := veqv_eq hokl
      subst huv
      rw [hop, ← floatVal_congr hlook] at hu
      unfold floatVal at hu
      rw [← wantedA_eq (o := o) (ops := ops) he0.vals]
      cases hw : wantedA ops.toList o a0 with
      | false =>
        simp only [hw, cond_false, Option.some.injEq] at hu
        rw [if_neg (by simp)]
        refine hK ρ _ _ (done ρ undef w (fun _ _ h => h) (by rw [← hu]; exact .undef) h.rel ?_) (.refl _ _)
        intro m hm h1 _ t n hn
        exact (h.ghost m hm h1 t n hn).1
      | true =>
        simp only [hw, cond_true] at hu
        rw [if_pos rfl]
        refine .inl ?_
        have fin : ∀ {v : Value} {H1 : AW} {r : Result Next}, v = l.val → H1 = H → Did P pins ρ H v H1 r → (execOp a'.eval o).run P w = r → o.wp P a' w K Q := by
          intro v H1 r hv hH ⟨v', w1, ρ1, hd, h2, h3, h4, h5⟩ hr
          subst hv; subst hH
          have hmono := h3.keeps h.rel
          have hinv := done ρ1 v' w1 hmono h4 h2 (fun m hm h1 _ t n hn => by
            obtain ⟨g1, g2⟩ := h.ghost m hm h1 t n hn
            rw [h3 n g2]; exact g1)
          unfold Oper.wp
          rw [hr]
          rcases hd with hd | ⟨hd, hu⟩
          · rw [hd, Oper.upon_value]; exact hK _ _ _ hinv (fun j hj => h3 j (Nat.lt_of_lt_of_le hj h.start))
          · rw [hd, Oper.upon_skip, ← hu]; exact hK _ _ _ hinv (fun j hj => h3 j (Nat.lt_of_lt_of_le hj h.start))
        have plain : ∀ {x : Option (Value × AW)}, x = aop P o a0 H → (match x with | some (v, _) => some v | none => none) = some l.val → o.wp P a' w K Q := by
          intro x hx hm
          subst hx
          split at hm
          · rename_i v H1 hv
            exact fin (by simpa using hm) (aop_same hfl hv) (aop_sound he0 h.rel hv) rfl
          · cases hm
        split at hu
        · rename_i c hcall
          split at hu
          · rename_i b hcal
            split at hu
            · rename_i args hargs
              split at hu
              · rename_i v H1 hb
                have hl' : LRel ρ args (c.args.map a'.eval).toList := by simpa using he0.evals h.rel hargs
                have hbb : b = .len ∨ b = .cap ∨ b = .max ∨ b = .min := by
                  rw [hcall] at hfl
                  simp only [floats, hcal] at hfl
                  split at hfl <;> simp_all
                refine fin (by simpa using hu) (abuiltin_same hbb hb) (abuiltin_sound (cs := c.args.map fun | .const _ => true | _ => false) h.rel hl' hb) ?_
                simp [execOp, hcall, resolve, hcal, invoke]
                rfl
              · cases hu
            · cases hu
          · cases hu
        · exact plain rfl hu
    · cases hokl
  | some q =>
    obtain ⟨t, n⟩ := q
    have hk := htied.kind
    rw [hnew] at hk
    simp only at hk
    rw [hop] at hk
    unfold Late.ok at hokl
    rw [hnew] at hokl
    simp only at hokl
    have hw : Region.wanted o (yielded ops a'.tmps) = true := by simp [Region.wanted, hk.2]
    rw [if_pos hw]
    refine .inl ?_
    split at hokl
    · rename_i c e' z hg hz
      simp only [Bool.and_eq_true, beqD, decide_eq_true_eq] at hokl
      obtain ⟨⟨hte, hcz⟩, hpz⟩ := hokl
      subst hte
      have hcz' := veqs_eq hcz
      subst hcz'
      obtain ⟨gn, gl⟩ := h.ghost l hl (by rw [hnum]; exact hc) t n hnew
      have hrun : (execOp a'.eval o).run P w = .ok (.value (.pointer (some ⟨w.heap.size, 0, none⟩))) (w.alloc (.cells z.cells t)) := by
        simp [execOp, hk.1, Instr.alloc, run_zeroValue hz, newVar, newRow]
      have hrel := h.rel.bind gn gl hg (c' := z.cells) (LRel.of_pfree hpz) (w' := w.alloc (.cells z.cells t)) rfl ⟨rfl, rfl, rfl, by simp⟩
      have hmono : ∀ j r, ρ j = some r → (ρ.add n ⟨w.heap.size, 0⟩) j = some r := fun j r hj => by
        have : j ≠ n := fun e => by rw [e, gn] at hj; cases hj
        simp [Ren.add, this, hj]
      have hinv := done (ρ.add n ⟨w.heap.size, 0⟩) (.pointer (some ⟨w.heap.size, 0, none⟩)) _ hmono (by rw [hk.2.2]; exact .ptr n 0 _ (Ren.add_self _ _ _)) hrel (fun m hm h1 h2 u q hq => by
        have hne : q ≠ n := fun e => h2 (by rw [← hnum]; exact h.uniq m hm l hl u t n (by rw [hq, e]) hnew)
        have := (h.ghost m hm h1 u q hq).1
        simp [Ren.add, hne, this])
      unfold Oper.wp
      rw [hrun, Oper.upon_value]
      refine hK _ _ _ hinv fun j hj => ?_
      have := h.newer l hl t n hnew
      simp [Ren.add, show j ≠ n by omega]
    · cases hokl

/-- Nothing is left that may come up: all that was listed has come up, and nothing more may be listed. -/
theorem DInv.all_up {n0 : Nat} {L C : Array Bool} {late : List Late} {a : Env} {H : AW} {ρ : Ren} {a' : Act} {w : World} (h : DInv P pins ops n0 L C late a H ρ a' w) (hback : backA ops.toList = true) (hr : Region.ready .any ops C = []) :
    (∀ j : Nat, L.getD j false = true → C.getD j false = true) ∧ Region.ready .any ops L = [] := by
  have hb : ∀ (j : Nat) oj, ops[j]? = some oj → ∀ e ∈ oj.after, Region.binds .any e = true → e.on < j := by
    intro j oj hj e he hbe
    unfold backA at hback
    rw [List.all_eq_true] at hback
    have hmem : (oj, j) ∈ ops.toList.zipIdx := by
      rw [List.mem_zipIdx_iff_getElem?]
      simpa using hj
    have := hback _ hmem
    simp only [Array.all_eq_true_iff_forall_mem] at this
    have := this e he
    simpa [hbe, bltD] using this
  have hall : ∀ j : Nat, L.getD j false = true → C.getD j false = true := by
    intro j
    induction j using Nat.strongRecOn with
    | _ j ih =>
      intro hj
      have hlt : j < L.size := by
        rcases Nat.lt_or_ge j L.size with h1 | h1
        · exact h1
        · simp [Array.getD, Nat.not_lt.2 h1] at hj
      have hlt' : j < ops.size := by rw [← h.sizeL]; exact hlt
      obtain ⟨oj, hoj⟩ : ∃ oj, ops[j]? = some oj := ⟨_, Array.getElem?_eq_getElem hlt'⟩
      cases hc : C.getD j false with
      | true => rfl
      | false =>
        have : j ∈ Region.ready .any ops C := (ready_free h.sizeC).2 ⟨hc, oj, hoj, fun e he hbe => ih e.on (hb j oj hoj e he hbe) (h.back j oj hj hoj e he hbe)⟩
        rw [hr] at this
        cases this
  refine ⟨hall, ?_⟩
  cases hL : Region.ready .any ops L with
  | nil => rfl
  | cons i r =>
    have hi : i ∈ Region.ready .any ops L := by rw [hL]; simp
    obtain ⟨h1, o, ho, h2⟩ := (ready_free h.sizeL).1 hi
    have : i ∈ Region.ready .any ops C := (ready_free h.sizeC).2 ⟨by
      cases hc : C.getD i false with
      | false => rfl
      | true => (have := h.sub i hc; rw [h1] at this; cases this), o, ho, fun e he hbe => hall e.on (h2 e he hbe)⟩
    rw [hr] at this
    cases this

/-- Where the region's order stops: whatever comes up. -/
theorem stop_sound {L : Array Bool} {late : List Late} {a : Env} {H : AW} (hback : backA ops.toList = true) (hok : late.all (Late.ok P ops.toList a H) = true) {ρ0 : Ren} {n0 : Nat} (hn0 : n0 ≤ H.next) {k : KK}
    (hend : Region.ready .any ops L = [] → k .normal a H = true)
    (hspine : ∀ i ∈ Region.ready .any ops L, ∀ fuel C ρ a' w, DInv P pins ops n0 L C late a H ρ a' w → Ext n0 ρ0 ρ → i ∈ Region.ready .any ops C → unl C ≤ fuel + 1 → wpOp P ops (Post P pins ρ0 n0 k) i (wpAny P .any ops (Post P pins ρ0 n0 k) fuel (C.setIfInBounds i true)) a' w) :
    ∀ fuel C ρ a' w, DInv P pins ops n0 L C late a H ρ a' w → Ext n0 ρ0 ρ → unl C ≤ fuel → wpAny P .any ops (Post P pins ρ0 n0 k) fuel C a' w := by
  have fin : ∀ C ρ a' w, DInv P pins ops n0 L C late a H ρ a' w → Ext n0 ρ0 ρ → Region.ready .any ops C = [] → Post P pins ρ0 n0 k .normal a' w := by
    intro C ρ a' w h hx hr
    obtain ⟨h1, h2⟩ := h.all_up hback hr
    obtain ⟨a0, he0, hlen, hag⟩ := h.env
    have : a0 = a := by
      apply List.ext_getElem?
      intro t
      refine hag t fun l hl hlc => ?_
      have := h1 l.num (h.tied l hl).2
      rw [this] at hlc
      cases hlc
    subst this
    exact ⟨.normal, a0, H, ρ, rfl, he0, h.rel, hx, hn0, hend h2⟩
  intro fuel
  induction fuel with
  | zero =>
    intro C ρ a' w h hx hu
    have hr : Region.ready .any ops C = [] := by
      cases hr : Region.ready .any ops C with
      | nil => rfl
      | cons i r =>
        have hi : i ∈ Region.ready .any ops C := by rw [hr]; simp
        obtain ⟨h1, o, ho, _⟩ := (ready_free h.sizeC).1 hi
        have hlt : i < C.size := by rw [h.sizeC]; exact (Array.getElem?_eq_some_iff.1 ho).1
        rw [unl_zero (by omega) i hlt] at h1
        cases h1
    exact ⟨hr, fin C ρ a' w h hx hr⟩
  | succ fuel ih =>
    intro C ρ a' w h hx hu
    refine ⟨fin C ρ a' w h hx, fun i hi => ?_⟩
    obtain ⟨hc, o, ho, hdeps⟩ := (ready_free h.sizeC).1 hi
    have hlt : i < C.size := by rw [h.sizeC]; exact (Array.getElem?_eq_some_iff.1 ho).1
    cases hL : L.getD i false with
    | true =>
      refine h.late_step hok hi hL _ _ fun ρ1 a1 w1 h1 hm => ih _ ρ1 a1 w1 h1 ?_ (by have := unl_set hlt hc; omega)
      intro j hj
      rw [hm j hj, hx j hj]
    | false =>
      have hiL : i ∈ Region.ready .any ops L := (ready_free h.sizeL).2 ⟨hL, o, ho, fun e he hb => h.sub e.on (hdeps e he hb)⟩
      exact hspine i hiL fuel C ρ a' w h hx hi hu

end
end Go.Up

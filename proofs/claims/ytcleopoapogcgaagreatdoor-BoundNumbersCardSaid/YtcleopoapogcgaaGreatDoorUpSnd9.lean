/- The abstract interpreter is sound, part 9: a region that draws its order. -/
import Derived.Test.YtcleopoapogcgaaGreatDoorUpSnd8
namespace Go.Up

/-! ### Equality that was checked -/
theorem veq_eq {a b : Value} (h : veq a b = true) : a = b := by
  unfold veq at h
  split at h <;> first
    | (simp only [beq_iff_eq] at h; subst h; rfl)
    | (simp only [Bool.and_eq_true, beq_iff_eq] at h; obtain ⟨⟨h1, h2⟩, h3⟩ := h; subst h1; subst h2; subst h3; rfl)
    | (simp only [Bool.and_eq_true, beq_iff_eq] at h; obtain ⟨h1, h2⟩ := h; subst h1; subst h2; rfl)
    | rfl
    | (rename_i x y; obtain ⟨x⟩ := x; obtain ⟨y⟩ := y; simp only [beq_iff_eq] at h; subst h; rfl)
    | cases h
theorem veqs_eq : ∀ {a b : List Value}, veqs a b = true → a = b
  | [], [], _ => rfl
  | a :: l, b :: m, h => by
    simp only [veqs, Bool.and_eq_true] at h
    rw [veq_eq h.1, veqs_eq h.2]
  | [], _ :: _, h => by cases h
  | _ :: _, [], h => by cases h
theorem veqa_eq {a b : Value} (h : veqa a b = true) : a = b := by
  unfold veqa at h
  split at h
  · rw [Array.ext' (veqs_eq h)]
  · exact veq_eq h
theorem veqas_eq : ∀ {a b : List Value}, veqas a b = true → a = b
  | [], [], _ => rfl
  | a :: l, b :: m, h => by
    simp only [veqas, Bool.and_eq_true] at h
    rw [veqa_eq h.1, veqas_eq h.2]
  | [], _ :: _, h => by cases h
  | _ :: _, [], h => by cases h
theorem veqv_eq {a b : Value} (h : veqv a b = true) : a = b := by
  unfold veqv at h
  split at h
  · rw [Array.ext' (veqas_eq h)]
  · simp only [Bool.and_eq_true, beq_iff_eq] at h
    rw [h.1, veqa_eq h.2]
  · simp only [Bool.and_eq_true, beq_iff_eq] at h
    rw [h.1.1, Array.ext' (veqs_eq h.1.2), Array.ext' (veqs_eq h.2)]
  · exact veqa_eq h

/-! ### What an operation looks at -/
theorem eval_congr {a b : Env} {x : Operand} (h : ∀ t, x = .tmp t → a[t]? = b[t]?) : a.eval x = b.eval x := by
  cases x with
  | tmp t => simp only [Env.eval, Env.at, lget_eq, List.getD_eq_getElem?_getD, h t rfl]
  | _ => rfl
theorem evals_congr {a b : Env} : ∀ {xs : List Operand}, (∀ x ∈ xs, a.eval x = b.eval x) → Env.evals a xs = Env.evals b xs
  | [], _ => rfl
  | x :: xs, h => by
    have e := evals_congr (a := a) (b := b) (xs := xs) (fun y hy => h y (List.mem_cons_of_mem _ hy))
    simp only [Env.evals, h x (List.mem_cons_self ..), e]
theorem parts_congr {a b : Env} : ∀ {xs : List (Nat × Operand)}, (∀ x ∈ xs, a.eval x.2 = b.eval x.2) → Env.parts a xs = Env.parts b xs
  | [], _ => rfl
  | (i, x) :: xs, h => by
    have e := parts_congr (a := a) (b := b) (xs := xs) (fun y hy => h y (List.mem_cons_of_mem _ hy))
    have e2 := h (i, x) (List.mem_cons_self ..)
    simp only at e2
    simp only [Env.parts, e2, e]
theorem pureOf_congr {P : Program} {o : Oper} {a b : Env} (hs : ∀ cs b, o.op ≠ .select cs b) (h : ∀ x ∈ o.op.operands, a.eval x = b.eval x) : pureOf P o a = pureOf P o b := by
  have h1 : o.op.operands.toList.all (pfreeAt a) = o.op.operands.toList.all (pfreeAt b) := by
    rw [Bool.eq_iff_iff, List.all_eq_true, List.all_eq_true]
    constructor
    · intro hh x hx; have := hh x hx; unfold pfreeAt at this ⊢; rw [← h x (by simpa using hx)]; exact this
    · intro hh x hx; have := hh x hx; unfold pfreeAt at this ⊢; rw [h x (by simpa using hx)]; exact this
  have h2 : execOp a.raw o = execOp b.raw o := execOp_congr o hs fun x hx => by unfold Env.raw; rw [h x hx]
  unfold pureOf
  rw [h1, h2]
theorem boundOf_congr {a b : Env} {x : Option Operand} {d : Nat} (h : ∀ y ∈ x, a.eval y = b.eval y) : boundOf a x d = boundOf b x d := by
  cases x with
  | none => rfl
  | some y => simp only [boundOf, h y (by simp)]

theorem aop_congr {P : Program} {o : Oper} {a b : Env} {H : AW} (h : ∀ x ∈ o.op.operands, a.eval x = b.eval x) : aop P o a H = aop P o b H := by
  unfold aop
  cases hop : o.op <;> simp only [hop, Op.operands] at h ⊢
  case move x => rw [h x (by simp)]
  case assign x => rw [h x (by simp)]
  case pick c x y =>
    rw [h c (by simp)]
    split
    · rename_i q _
      cases q
      · simp only [cond_false]; rw [h y (by simp)]
      · simp only [cond_true]; rw [h x (by simp)]
    · rfl
  case extract x i => rw [h x (by simp)]
  case nilCheck x => rw [h x (by simp)]
  case box t x => rw [h x (by simp)]
  case load t x => rw [h x (by simp)]
  case store t x y => rw [h x (by simp), h y (by simp)]
  case fieldAddr t x f => rw [h x (by simp)]
  case field t x f => rw [h x (by simp)]
  case indexAddr t x i => rw [h x (by simp), h i (by simp)]
  case build t ps => rw [parts_congr (a := a) (b := b) (fun x hx => h x.2 (by simp; exact ⟨x.1, by simpa using hx⟩))]
  case buildSlice t n ps => rw [parts_congr (a := a) (b := b) (fun x hx => h x.2 (by simp; exact ⟨x.1, by simpa using hx⟩))]
  case makeSlice t l c => rw [h l (by simp), h c (by simp)]
  case makeMap t r => cases r with
    | none => rfl
    | some x => simp only; rw [h x (by simp)]
  case makeInterface t x => rw [h x (by simp)]
  case makeFunc fn f c =>
    rw [evals_congr (a := a) (b := b) (xs := f.toList) (fun x hx => h x (by simp at hx; simp [hx])), evals_congr (a := a) (b := b) (xs := c.toList) (fun x hx => h x (by simp at hx; simp [hx]))]
  case slice t x lo hi mx =>
    rw [pureOf_congr (a := a) (b := b) (by simp [hop]) (by rw [hop]; exact h), h x (by simp)]
    split
    · rfl
    · split
      · congr 1
        unfold aSlice
        have e1 : ∀ d, boundOf a lo d = boundOf b lo d := fun d => boundOf_congr (fun y hy => h y (by simp at hy; subst hy; simp))
        have e2 : ∀ d, boundOf a hi d = boundOf b hi d := fun d => boundOf_congr (fun y hy => h y (by simp at hy; subst hy; simp))
        have e3 : maxOf a mx = maxOf b mx := by
          unfold maxOf
          cases mx with
          | none => rfl
          | some m => simp only [Option.map_some, h m (by simp)]
        simp only [e1, e2, e3]
      · rfl
  case lookup t x i ok => rw [h x (by simp), h i (by simp)]
  case mapUpdate t m k x => rw [h m (by simp), h k (by simp), h x (by simp)]
  case insert t m k x => rw [h m (by simp), h k (by simp), h x (by simp)]
  case binOp op t x y yt =>
    rw [pureOf_congr (a := a) (b := b) (by simp [hop]) (by rw [hop]; exact h), h x (by simp), h y (by simp)]
  case unOp op t x => rw [pureOf_congr (a := a) (b := b) (by simp [hop]) (by rw [hop]; exact h)]
  case convert s d x => rw [pureOf_congr (a := a) (b := b) (by simp [hop]) (by rw [hop]; exact h)]
  case index t x i =>
    rw [pureOf_congr (a := a) (b := b) (by simp [hop]) (by rw [hop]; exact h), h x (by simp), h i (by simp)]

theorem operA_congr {P : Program} {ih : IH} {o : Oper} {a b : Env} {H : AW} {k : KV} (h : ∀ x ∈ o.op.operands, a.eval x = b.eval x) : operA P ih o a H k = operA P ih o b H k := by
  unfold operA
  split
  · rename_i c hop
    rw [hop] at h
    unfold callA
    have hargs : Env.evals a c.args.toList = Env.evals b c.args.toList := evals_congr fun x hx => h x (by simp at hx; simp [Op.operands, Call.operands, hx])
    cases hc : c.callee with
    | builtin bb => simp only [hargs]
    | value f => simp only [hargs, h f (by simp [Op.operands, Call.operands, hc])]
    | invoke r m => simp only [hargs, h r (by simp [Op.operands, Call.operands, hc])]
  · rw [aop_congr h]

theorem wantedA_congr {ops : Array Oper} {o : Oper} {a b : Env} (h : ∀ t ∈ o.looksAt ops, a[t]? = b[t]?) : wantedA ops.toList o a = wantedA ops.toList o b := by
  unfold wantedA
  cases hg : o.guard with
  | none => rfl
  | some q =>
    obtain ⟨j, want⟩ := q
    simp only
    cases hd : (ops.toList[j]?).bind (·.dst) with
    | none => rfl
    | some d =>
      have e : ops.toList[j]? = ops[j]? := by simp
      rw [e] at hd
      simp only [h d (by simp [Oper.looksAt, hg, hd])]

theorem operands_of_looks {ops : Array Oper} {o : Oper} {a b : Env} (h : ∀ t ∈ o.looksAt ops, a[t]? = b[t]?) : ∀ x ∈ o.op.operands, a.eval x = b.eval x := fun x hx =>
  eval_congr fun t ht => h t (by
    subst ht
    exact List.mem_append_left _ (List.mem_filterMap.2 ⟨.tmp t, by simpa using hx, rfl⟩))

theorem floatVal_congr {P : Program} {ops : Array Oper} {o : Oper} {a b : Env} {H : AW} (h : ∀ t ∈ o.looksAt ops, a[t]? = b[t]?) : floatVal P ops.toList o a H = floatVal P ops.toList o b H := by
  have h2 := operands_of_looks h
  unfold floatVal
  rw [wantedA_congr h]
  cases hop : o.op
  case call c =>
    rw [hop] at h2
    have hargs : Env.evals a c.args.toList = Env.evals b c.args.toList := evals_congr fun x hx => h2 x (by simp at hx; simp [Op.operands, Call.operands, hx])
    simp only [hargs]
  all_goals simp only [aop_congr h2]

/-- What floats leaves memory as it was. -/
theorem aop_same {P : Program} {o : Oper} {a : Env} {H H1 : AW} {v : Value} (hf : floats o.op = true) (h : aop P o a H = some (v, H1)) : H1 = H := by
  unfold aop at h
  cases hop : o.op <;> simp only [hop, floats] at hf h <;> try (cases hf; done)
  case build t ps =>
    split at h
    · rw [Bool.cond_eq_ite] at h
      split at h
      · split at h <;> cases h; rfl
      · cases h
    · cases h
  all_goals first
    | exact (pairUp_some h).2
    | (split at h <;> first
        | exact (pairUp_some h).2
        | (cases h; rfl)
        | (split at h <;> first
            | exact (pairUp_some h).2
            | (cases h; rfl)
            | (split at h <;> first | exact (pairUp_some h).2 | (cases h; rfl) | cases h)
            | cases h)
        | cases h)
    | cases h

theorem abuiltin_same {P : Program} {b : Builtin} {ty : TypeId} {ats : Array TypeId} {args : List Value} {H H1 : AW} {v : Value} (hb : b = .len ∨ b = .cap ∨ b = .max ∨ b = .min) (h : abuiltin P b ty ats args H = some (v, H1)) : H1 = H := by
  unfold abuiltin at h
  split at h
  · exact (pairUp_some h).2
  · split at h
    · rw [Bool.cond_eq_ite] at h; split at h <;> cases h; rfl
    · cases h
  · rw [Bool.cond_eq_ite] at h
    split at h
    · split at h
      · rw [Bool.cond_eq_ite] at h; split at h <;> cases h; rfl
      · cases h
    · cases h
  · rw [Bool.cond_eq_ite] at h
    split at h
    · split at h
      · rw [Bool.cond_eq_ite] at h; split at h <;> cases h; rfl
      · cases h
    · cases h
  · rcases hb with hb | hb | hb | hb <;> cases hb
  · rcases hb with hb | hb | hb | hb <;> cases hb
  · cases h

end Go.Up

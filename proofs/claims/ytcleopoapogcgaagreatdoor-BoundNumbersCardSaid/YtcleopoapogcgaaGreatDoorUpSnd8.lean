/- The abstract interpreter is sound, part 8: calls, and the operations of a region in the text's order. -/
import Derived.Test.YtcleopoapogcgaaGreatDoorUpSnd7
namespace Go.Up

def AExit.out : AExit → Exit
  | .normal => .normal
  | .exit id => .exit id
  | .ret => .ret

/-- What holds behind a piece of code. -/
def Post (P : Program) (pins : World) (ρ : Ren) (n : Nat) (k : KK) : Exit → Act → World → Prop := fun e a' w =>
  ∃ ae a H ρ', AExit.out ae = e ∧ ERel ρ' a a' ∧ Rel P pins ρ' H w ∧ Ext n ρ ρ' ∧ n ≤ H.next ∧ k ae a H = true

theorem Post.mono {P : Program} {pins : World} {ρ ρ1 : Ren} {n m : Nat} {k : KK} {e : Exit} {a' : Act} {w : World} (h : Post P pins ρ1 m k e a' w) (hx : Ext n ρ ρ1) (hn : n ≤ m) : Post P pins ρ n k e a' w := by
  obtain ⟨ae, a, H, ρ', h1, h2, h3, h4, h5, h6⟩ := h
  exact ⟨ae, a, H, ρ', h1, h2, h3, hx.trans h4 hn, by omega, h6⟩

/-- As a loop goes on: from its round's beginning. -/
def LoopWp (P : Program) (c : Code) (Q : Exit → Act → World → Prop) (a : Act) (w : World) : Prop :=
  ∀ (b : Frame) (k : List Item) (cs : List Frame), ∃ e a' w', Q e a' w' ∧ Arrives P (lone (b.at a (.code c :: .inLoop c :: k)) cs w) b k cs e a' w'

def wpS (P : Program) (c : Code) (Q : Exit → Act → World → Prop) (a : Act) (w : World) : Prop :=
  match c with
  | .loop b => LoopWp P b Q a w
  | c => c.wp P Q a w

theorem wpS.wp {P : Program} {c : Code} {Q : Exit → Act → World → Prop} {a : Act} {w : World} (h : wpS P c Q a w) : c.wp P Q a w := by
  cases c <;> first
    | exact h
    | (intro b k cs
       obtain ⟨e, a', w', hq, harr⟩ := h b k cs
       exact ⟨e, a', w', hq, .of_steps (.one step_loop) harr⟩)
theorem wpS.mono {P : Program} {c : Code} {Q Q' : Exit → Act → World → Prop} {a : Act} {w : World} (h : wpS P c Q a w) (hq : ∀ e a w, Q e a w → Q' e a w) : wpS P c Q' a w := by
  cases c <;> first
    | exact wp_mono h hq
    | (intro b k cs
       obtain ⟨e, a', w', hq', harr⟩ := h b k cs
       exact ⟨e, a', w', hq _ _ _ hq', harr⟩)
theorem LoopWp.round {P : Program} {c : Code} {Q : Exit → Act → World → Prop} {a : Act} {w : World} (h : c.wp P (Exit.then (LoopWp P c Q) Q) a w) : LoopWp P c Q a w := by
  intro b k cs
  obtain ⟨e, a₁, w₁, hq, harr⟩ := h b (.inLoop c :: k) cs
  cases e with
  | normal =>
    obtain ⟨e₂, a₂, w₂, hq₂, harr₂⟩ := hq b k cs
    exact ⟨e₂, a₂, w₂, hq₂, .of_steps (Steps.trans harr (.one step_inLoop)) harr₂⟩
  | exit id => exact ⟨_, a₁, w₁, hq, .pass (x := .inLoop c) rfl (fun _ _ => .inl (by simp)) harr⟩
  | goto l => exact ⟨_, a₁, w₁, hq, .pass (x := .inLoop c) rfl (fun _ _ => .inl (by simp)) harr⟩
  | ret => exact ⟨_, a₁, w₁, hq, .pass (x := .inLoop c) rfl (fun _ _ => .inl (by simp)) harr⟩
  | panic ch => exact ⟨_, a₁, w₁, hq, .pass (x := .inLoop c) rfl (fun _ _ => .inl (by simp)) harr⟩
  | outgrown => exact ⟨_, a₁, w₁, hq, .pass (x := .inLoop c) rfl (fun _ _ => .inl (by simp)) harr⟩

def Sound (P : Program) (pins : World) (ih : IH) : Prop :=
  ∀ (c : Code) (a : Env) (H : AW) (k : KK) (ρ : Ren) (a' : Act) (w : World), ih c a H k = true → ERel ρ a a' → Rel P pins ρ H w → wpS P c (Post P pins ρ H.next k) a' w

/-- What holds behind a call. -/
def Back (P : Program) (pins : World) (ρ : Ren) (n : Nat) (k : KV) : Ending → World → Prop := fun e w =>
  ∃ v v' H ρ', e = .returned v' ∧ VRel ρ' v v' ∧ Rel P pins ρ' H w ∧ Ext n ρ ρ' ∧ n ≤ H.next ∧ k v H = true

theorem goodF_some {P : Program} {g : FuncId} {fn : Func} (h : goodF P g = some fn) : P.funcs[g]? = some fn ∧ fn.body.isSome = true ∧ (fn.name == "runtime.NumGoroutine") = false := by
  unfold goodF at h
  split at h
  · rename_i f hf
    rw [Bool.cond_eq_ite] at h
    split at h
    · rename_i hc
      cases h
      simp only [Bool.and_eq_true, bne_iff_ne, ne_eq] at hc
      exact ⟨hf, hc.1, by simpa using hc.2⟩
    · cases h
  · cases h

theorem run_callFunc {P : Program} {g : FuncId} {fn : Func} (h : goodF P g = some fn) (args : Array Value) (w : World) : (callFunc g args).run P w = .ok (.enter g args) w := by
  obtain ⟨h1, h2, h3⟩ := goodF_some h
  obtain ⟨c, hc⟩ := Option.isSome_iff_exists.1 h2
  have h3' : fn.name ≠ "runtime.NumGoroutine" := by simpa using h3
  simp [callFunc, h1, h3', hc]

/-! ### Results -/
def resF (tmps : Array Value) : ResultVar → Sem Value
  | .tmp t => pure (tmps.getD t undef)
  | .cell x t => do loadVar t (← asAddr (tmps.getD x undef))

theorem resultA_sound {P : Program} {pins : World} {ρ : Ren} {H : AW} {w : World} {a : Env} {a' : Act} (he : ERel ρ a a') (hr : Rel P pins ρ H w) {r : ResultVar} {v : Value} (h : resultA P a H r = some v) :
    ∃ v', (resF a'.tmps r).run P w = .ok v' w ∧ VRel ρ v v' := by
  cases r with
  | tmp t =>
    simp only [resultA, Option.some.injEq] at h
    subst h
    exact ⟨_, rfl, he.at t⟩
  | cell x t =>
    simp only [resultA] at h
    split at h
    · rename_i i off hx
      have hv := he.at x
      rw [hx] at hv
      generalize hp : a'.tmps.getD x undef = p' at hv
      cases hv with
      | ptr i off r hi =>
        obtain ⟨v', h1, h2⟩ := loadAt_sound hr hi h
        refine ⟨v', ?_, h2⟩
        simp only [resF, hp, asAddr, Sem.run_bind, Sem.run_pure, Result.andThen_ok, h1]
    · cases h

theorem resultsA_sound {P : Program} {pins : World} {ρ : Ren} {H : AW} {w : World} {a : Env} {a' : Act} (he : ERel ρ a a') (hr : Rel P pins ρ H w) : ∀ {rs : List ResultVar} {vs : List Value}, resultsA P a H rs = some vs →
    ∃ vs', (rs.mapM (resF a'.tmps)).run P w = .ok vs' w ∧ LRel ρ vs vs'
  | [], vs, h => by simp only [resultsA, Option.some.injEq] at h; subst h; exact ⟨[], by simp, .nil⟩
  | r :: rs, vs, h => by
    simp only [resultsA] at h
    split at h
    · rename_i v vs1 h1 h2
      cases h
      obtain ⟨v', g1, g2⟩ := resultA_sound he hr h1
      obtain ⟨vs', g3, g4⟩ := resultsA_sound he hr h2
      refine ⟨v' :: vs', ?_, .cons g2 g4⟩
      simp only [List.mapM_cons, Sem.run_bind, g1, Result.andThen_ok, g3, Sem.run_pure]
    · cases h

theorem results_resF (fn : Func) (tmps : Array Value) : results fn tmps = (do let vs ← fn.results.mapM (resF tmps); pure (if h : vs.size = 1 then vs[0] else .tuple vs)) := by
  unfold results
  have e : (fun x : ResultVar => (match x with | .tmp t => pure (tmps.getD t undef) | .cell a t => (do loadVar t (← asAddr (tmps.getD a undef))) : Sem Value)) = resF tmps := by
    funext r
    cases r <;> rfl
  rw [← e]
  rfl

/-- The value that a list of results makes. -/
def resultV (vs : List Value) : Value := match vs with
  | [v] => v
  | vs => .tuple vs.toArray

theorem results_sound {P : Program} {pins : World} {ρ : Ren} {H : AW} {w : World} {a : Env} {a' : Act} (he : ERel ρ a a') (hr : Rel P pins ρ H w) {fn : Func} {vs : List Value} (h : resultsA P a H fn.results.toList = some vs) :
    ∃ v', (results fn a'.tmps).run P w = .ok v' w ∧ VRel ρ (resultV vs) v' := by
  obtain ⟨vs', g1, g2⟩ := resultsA_sound he hr h
  refine ⟨resultV vs', ?_, ?_⟩
  · rw [results_resF, Array.mapM_eq_mapM_toList]
    simp only [Sem.run_bind, Sem.run_map, g1]
    simp only [Result.andThen_ok, Sem.run_pure]
    congr 1
    unfold resultV
    match vs' with
    | [] => rfl
    | [v] => rfl
    | _ :: _ :: _ => rfl
  · unfold resultV
    cases g2 with
    | nil => exact .tupleL .nil
    | cons q t =>
      cases t with
      | nil => exact q
      | cons q2 t2 => exact .tupleL (.cons q (.cons q2 t2))

/-! ### A function is entered -/
theorem LRel.replicate {ρ : Ren} (n : Nat) : LRel ρ (List.replicate n undef) (List.replicate n undef) := by
  induction n with
  | zero => exact .nil
  | succ n ih => exact .cons .undef ih

theorem enterA_sound {P : Program} {pins : World} {ih : IH} (hih : Sound P pins ih) {g : FuncId} {args : List Value} {args' : Array Value} {ρ : Ren} {H : AW} {w : World} {k : KV} (h : enterA P ih g args H k = true)
    (ha : LRel ρ args args'.toList) (hr : Rel P pins ρ H w) : Calls P g args' w (Back P pins ρ H.next k) := by
  unfold enterA at h
  split at h
  · cases h
  · rename_i fn hg
    obtain ⟨h1, h2, h3⟩ := goodF_some hg
    split at h
    · cases h
    · rename_i c hc
      refine calls_of_wp h1 hc ?_
      have hl : args.length = args'.size := by simpa using ha.length
      have he : ERel ρ (args ++ List.replicate (fn.ntmps - args.length) undef) { tmps := args' ++ Array.replicate (fn.ntmps - args'.size) undef, defers := [] } := by
        refine ⟨?_, rfl⟩
        simp only [Array.toList_append, Array.toList_replicate, ← hl]
        exact ha.append (LRel.replicate _)
      refine wp_mono (hih c _ H _ ρ _ w h he hr).wp ?_
      intro e a1 w1 ⟨ae, a, H1, ρ1, g1, g2, g3, g4, g5, g6⟩
      subst g1
      have fin : ∀ vs, resultsA P a H1 fn.results.toList = some vs → k (resultV vs) H1 = true → a1.defers = [] ∧ ∃ v, (results fn a1.tmps).run P w1 = .ok v w1 ∧ Back P pins ρ H.next k (.returned v) w1 := by
        intro vs hvs hk
        obtain ⟨v', r1, r2⟩ := results_sound g2 g3 hvs
        exact ⟨g2.defers, v', r1, _, v', H1, ρ1, rfl, r2, g3, g4, g5, hk⟩
      have both : (match resultsA P a H1 fn.results.toList with | some [v] => k v H1 | some vs => k (.tuple vs.toArray) H1 | none => false) = true →
          a1.defers = [] ∧ ∃ v, (results fn a1.tmps).run P w1 = .ok v w1 ∧ Back P pins ρ H.next k (.returned v) w1 := by
        intro hm
        split at hm
        · rename_i v hv; exact fin _ hv hm
        · rename_i vs hne hv
          refine fin vs hv ?_
          unfold resultV
          split
          · rename_i v; exact absurd rfl (hne v)
          · exact hm
        · cases hm
      cases ae with
      | normal => exact both g6
      | ret => exact both g6
      | exit id => cases g6

/-! ### One operation -/
theorem run_method_ptr {P : Program} (n : Nat) {t e : TypeId} {i : TypeInfo} {m : Method} {g : FuncId} {name : String} {p : Addr} (hi : P.info? t = some i) (hm : i.methods.find? (·.name == name) = some m) (hpath : m.path.toList = [])
    (hfunc : m.func = some (g, true)) (hu : P.underlying t = some (.pointer e)) (w : World) : (method (n + 1) t (.pointer (some p)) name).run P w = .ok (g, .pointer (some p)) w := by
  have hti : (typeInfo t).run P w = .ok i w := by simp [typeInfo, hi]
  unfold method
  simp only [Sem.run_bind, hti, Result.andThen_ok, hm, hpath, follow, Sem.run_pure, hfunc, receiverAt, run_underlying hu, Place.get]

theorem callA_sound {P : Program} {pins : World} {ih : IH} (hih : Sound P pins ih) {c : Call} {o : Oper} (hop : o.op = .call c) {a : Env} {a' : Act} {ρ : Ren} {H : AW} {w : World} {k : KV} (h : callA P ih c o.type a H k = true)
    (he : ERel ρ a a') (hr : Rel P pins ρ H w) (next : Act → World → Prop) (Q : Exit → Act → World → Prop)
    (hnext : ∀ v v' H1 ρ1 w1, Rel P pins ρ1 H1 w1 → Ext H.next ρ ρ1 → H.next ≤ H1.next → VRel ρ1 v v' → k v H1 = true → next (a'.put o.dst v') w1) : o.wp P a' w next Q := by
  have enter : ∀ {g : FuncId} {args : List Value} {args' : Array Value}, enterA P ih g args H k = true → LRel ρ args args'.toList → (execOp a'.eval o).run P w = (callFunc g args').run P w → o.wp P a' w next Q := by
    intro g args args' hg hl hrun
    have hf : ∃ fn, goodF P g = some fn := by
      unfold enterA at hg
      split at hg
      · cases hg
      · rename_i fn hf; exact ⟨fn, hf⟩
    obtain ⟨fn, hf⟩ := hf
    unfold Oper.wp
    rw [hrun, run_callFunc hf, Oper.upon_enter]
    refine (enterA_sound hih hg hl hr).mono ?_
    intro e w1 ⟨v, v', H1, ρ1, g1, g2, g3, g4, g5, g6⟩
    subst g1
    exact hnext v v' H1 ρ1 w1 g3 g4 g5 g2 g6
  unfold callA at h
  split at h
  · rename_i b hcal
    split at h
    · rename_i args hargs
      split at h
      · rename_i v H1 hb
        have hl := he.evals hr hargs
        have hl' : LRel ρ args (c.args.map a'.eval).toList := by simpa using hl
        obtain ⟨v', w1, ρ1, hd, h2, h3, h4, h5⟩ := abuiltin_sound (cs := c.args.map fun | .const _ => true | _ => false) hr hl' hb
        unfold Oper.wp
        have e : (execOp a'.eval o).run P w = (builtin b c.argTypes o.type (c.args.map fun | .const _ => true | _ => false) (c.args.map a'.eval)).run P w := by
          simp [execOp, hop, resolve, hcal, invoke]
          rfl
        rw [e]
        rcases hd with hd | ⟨hd, hu⟩
        · rw [hd, Oper.upon_value]; exact hnext v v' H1 ρ1 w1 h2 h3 h5 h4 h
        · rw [hd, Oper.upon_skip, ← hu]; exact hnext v v' H1 ρ1 w1 h2 h3 h5 h4 h
      · cases h
    · cases h
  · rename_i f hcal
    split at h
    · rename_i g first cap args hf hargs
      have hl := he.evals hr hargs
      have hfv := he.eval hr hf
      generalize hfe : a'.eval f = fv at hfv
      cases hfv with
      | func fn x y x' y' hx hy hx2 hy2 =>
        refine enter h (args' := x' ++ c.args.map a'.eval ++ y') ?_ ?_
        · simp only [Array.toList_append, Array.toList_map]
          exact ((LRel.of hx hx2).append hl).append (LRel.of hy hy2)
        · simp [execOp, hop, resolve, hcal, hfe, Deferred.ofValue, invoke]
    · cases h
  · rename_i r name hcal
    split at h
    · rename_i t p args hrv hargs
      split at h
      · rename_i i hi
        split at h
        · rename_i m hm
          split at h
          · rename_i g elem hpath hfunc hu
            have hl := he.evals hr hargs
            have hfv := he.eval hr hrv
            generalize hfe : a'.eval r = fv at hfv
            cases hfv with
            | iface t v v' hv =>
              refine enter h (args' := #[v'] ++ c.args.map a'.eval) ?_ ?_
              · simp only [Array.toList_append, Array.toList_map]
                exact .cons hv hl
              · have hti : (typeInfo t).run P w = .ok i w := by simp [typeInfo, hi]
                have hmeth : (method (P.types.size + Made.depth) t v' name).run P w = .ok (g, v') w := by
                  cases hv with
                  | ptr j off r hj => exact run_method_ptr (P.types.size + 99) hi hm hpath hfunc hu w
                have e0 : (#[Value.iface t v'] ++ c.args.map a'.eval)[0]? = some (.iface t v') := by
                  rw [← Array.getElem?_toList]; simp
                have e1 : (c.args.map a'.eval).extract 0 c.args.size = c.args.map a'.eval := by
                  have : c.args.size = (c.args.map a'.eval).size := by simp
                  rw [this, Array.extract_size]
                simp only [execOp, hop, resolve, hcal, hfe, Sem.run_bind, Sem.run_pure, Result.andThen_ok, invoke, e0, callMethod, run_program, hmeth]
                congr 2
                apply Array.ext'
                simp only [Array.toList_append, Array.toList_extract, Array.toList_map]
                simp
                exact List.take_of_length_le (by simp)
          · cases h
        · cases h
      · cases h
    · cases h

theorem operA_sound {P : Program} {pins : World} {ih : IH} (hih : Sound P pins ih) {o : Oper} {a : Env} {a' : Act} {ρ : Ren} {H : AW} {w : World} {k : KV} (h : operA P ih o a H k = true)
    (he : ERel ρ a a') (hr : Rel P pins ρ H w) (next : Act → World → Prop) (Q : Exit → Act → World → Prop)
    (hnext : ∀ v v' H1 ρ1 w1, Rel P pins ρ1 H1 w1 → Ext H.next ρ ρ1 → H.next ≤ H1.next → VRel ρ1 v v' → k v H1 = true → next (a'.put o.dst v') w1) : o.wp P a' w next Q := by
  unfold operA at h
  split at h
  · rename_i c hop
    exact callA_sound hih hop h he hr next Q hnext
  · split at h
    · rename_i v H1 hv
      obtain ⟨v', w1, ρ1, hd, h2, h3, h4, h5⟩ := aop_sound he hr hv
      unfold Oper.wp
      rcases hd with hd | ⟨hd, hu⟩
      · rw [hd, Oper.upon_value]; exact hnext v v' H1 ρ1 w1 h2 h3 h5 h4 h
      · rw [hd, Oper.upon_skip, ← hu]; exact hnext v v' H1 ρ1 w1 h2 h3 h5 h4 h
    · cases h

/-! ### The operations of a region, in the text's order -/
theorem wantedA_eq {ops : Array Oper} {o : Oper} {ρ : Ren} {a : Env} {a' : Act} (hl : LRel ρ a a'.tmps.toList) : wantedA ops.toList o a = Region.wanted o (yielded ops a'.tmps) := by
  unfold wantedA Region.wanted
  cases hg : o.guard with
  | none => rfl
  | some q =>
    obtain ⟨j, want⟩ := q
    simp only
    unfold yielded
    have e : ops.toList[j]? = ops[j]? := by simp
    rw [e]
    cases hd : (ops[j]?).bind (·.dst) with
    | none => rfl
    | some d =>
      simp only [Option.bind_some]
      have e2 : a'.tmps[d]? = a'.tmps.toList[d]? := by simp
      rw [e2]
      cases hx : a[d]? with
      | none =>
        have : a'.tmps.toList[d]? = none := by
          rw [List.getElem?_eq_none_iff] at hx ⊢
          rw [← hl.length]; exact hx
        rw [this]
        rfl
      | some x =>
        obtain ⟨y, hy, hv⟩ := hl.someAt hx
        rw [hy]
        cases hv <;> rfl

theorem opsA_sound {P : Program} {pins : World} {ih : IH} (hih : Sound P pins ih) {ops : Array Oper} : ∀ {l : List Oper} {a : Env} {a' : Act} {ρ : Ren} {H : AW} {w : World} {k : KK}, opsA P ih ops.toList l a H k = true →
    ERel ρ a a' → Rel P pins ρ H w → wpList P ops (Post P pins ρ H.next k) l a' w
  | [], a, a', ρ, H, w, k, h, he, hr => ⟨.normal, a, H, ρ, rfl, he, hr, .refl _ _, Nat.le_refl _, h⟩
  | o :: rest, a, a', ρ, H, w, k, h, he, hr => by
    simp only [opsA] at h
    unfold wpList
    rw [← wantedA_eq (ops := ops) (o := o) he.vals]
    cases hw : wantedA ops.toList o a with
    | true =>
      simp only [hw, cond_true] at h
      rw [if_pos rfl]
      refine .inl (operA_sound hih h he hr _ _ ?_)
      intro v v' H1 ρ1 w1 h1 h2 h3 h4 h5
      have := opsA_sound hih h5 ((he.mono (h2.keeps hr)).put o.dst h4) h1
      have aux : ∀ {l : List Oper} {a : Act} {w : World}, wpList P ops (Post P pins ρ1 H1.next k) l a w → wpList P ops (Post P pins ρ H.next k) l a w := by
        intro l
        induction l with
        | nil => intro a w h; exact Post.mono h h2 h3
        | cons o l ihl =>
          intro a w h
          unfold wpList at h ⊢
          split
          · rename_i hw
            rw [if_pos hw] at h
            rcases h with h | ⟨h, ⟨a0, w0, hl⟩⟩
            · refine .inl ?_
              unfold Oper.wp at h ⊢
              generalize (execOp a.eval o).run P w = r at h
              cases r with
              | ok n w' =>
                cases n <;> simp only [Oper.upon] at h ⊢
                all_goals first
                  | exact ihl h
                  | exact Calls.mono h (fun e w'' he => by cases e <;> first | exact ihl he | exact Post.mono he h2 h3 | (obtain ⟨a0, w0, hl⟩ := he; exact ⟨a0, w0, Post.mono hl h2 h3⟩))
                  | exact Rows.mono h (fun _ _ he => ihl he)
              | halt x w' => cases x <;> simp only [Oper.upon] at h ⊢ <;> exact Post.mono h h2 h3
            · exact .inr ⟨h, a0, w0, Post.mono hl h2 h3⟩
          · rename_i hw
            rw [if_neg hw] at h
            exact ihl h
      exact aux this
    | false =>
      simp only [hw, cond_false] at h
      rw [if_neg (by simp)]
      exact opsA_sound hih h (he.put o.dst .undef) hr

end Go.Up

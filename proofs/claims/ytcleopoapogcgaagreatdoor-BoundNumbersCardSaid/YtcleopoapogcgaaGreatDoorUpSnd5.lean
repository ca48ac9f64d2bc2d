/- The abstract interpreter is sound, part 5: slicing, maps, append, copy. -/
import Derived.Test.YtcleopoapogcgaaGreatDoorUpSnd4
namespace Go.Up

/-! ### Slicing -/
theorem shiftBy_some (i off n : Nat) : shiftBy (some ⟨i, off, none⟩) n = some ⟨i, off + n, none⟩ := rfl
theorem shiftBy_none (n : Nat) : shiftBy none n = none := rfl

theorem boundOf_sound {P : Program} {pins : World} {ρ : Ren} {H : AW} {w : World} {a : Env} {a' : Act} (h : ERel ρ a a') (hr : Rel P pins ρ H w) {x : Operand} {n : Nat}
    (hx : boundOf a (some x) 0 = some n) : ∃ k, a'.eval x = .int k (n : Int) := by
  simp only [boundOf] at hx
  cases he : a.eval x with
  | none => simp [he] at hx
  | some v =>
    simp only [he, Option.bind_some] at hx
    obtain ⟨k, rfl⟩ := natOf_some hx
    have := h.eval hr he
    cases hv : a'.eval x with
    | int k' n' => rw [hv] at this; cases this; exact ⟨k, rfl⟩
    | _ => rw [hv] at this; cases this

theorem run_sliceBound {P : Program} {w : World} (k : IntKind) (n y : Nat) (code : BoundsCode) (h : n ≤ y) : (Instr.sliceBound (.int k (n : Int)) y code).run P w = .ok n w := by
  simp [Instr.sliceBound, asIntOf, h]

/-- How a bound that may be left out stands for one of the model's. -/
def Bound (x' : Option Value) (n d : Nat) : Prop := match x' with
  | none => n = d
  | some v => ∃ k, v = .int k (n : Int)

theorem boundOf_bound {P : Program} {pins : World} {ρ : Ren} {H : AW} {w : World} {a : Env} {a' : Act} (h : ERel ρ a a') (hr : Rel P pins ρ H w) {x : Option Operand} {n d : Nat}
    (hx : boundOf a x d = some n) : Bound (x.map a'.eval) n d := by
  cases x with
  | none => simp only [boundOf, Option.some.injEq] at hx; exact hx.symm
  | some x => exact boundOf_sound h hr hx

theorem run_sliceBounds {P : Program} {w : World} (isSlice : Bool) (len cap l h : Nat) (low high : Option Value) (hl : Bound low l 0) (hh : Bound high h len) (hlh : l ≤ h) (hhc : h ≤ cap) :
    (Instr.sliceBounds isSlice len cap low high none).run P w = .ok (l, h, cap) w := by
  cases low with
  | none =>
    simp only [Bound] at hl
    subst hl
    cases high with
    | none =>
      simp only [Bound] at hh
      subst hh
      simp only [Instr.sliceBounds, Sem.run_bind, Sem.run_pure, Result.andThen_ok]
    | some v =>
      obtain ⟨k, rfl⟩ := hh
      simp only [Instr.sliceBounds, Sem.run_bind, Sem.run_pure, Result.andThen_ok, run_sliceBound k h cap _ hhc]
  | some u =>
    obtain ⟨k', rfl⟩ := hl
    cases high with
    | none =>
      simp only [Bound] at hh
      subst hh
      simp only [Instr.sliceBounds, Sem.run_bind, Sem.run_pure, Result.andThen_ok, run_sliceBound k' l h _ hlh]
    | some v =>
      obtain ⟨k, rfl⟩ := hh
      simp only [Instr.sliceBounds, Sem.run_bind, Sem.run_pure, Result.andThen_ok, run_sliceBound k h cap _ hhc, run_sliceBound k' l h _ hlh]

theorem run_sliceBounds3 {P : Program} {w : World} (isSlice : Bool) (len cap l h m : Nat) (km : IntKind) (low : Option Value) (hv : Value) (hl : Bound low l 0) (hh : Bound (some hv) h len) (hlh : l ≤ h) (hhm : h ≤ m) (hmc : m ≤ cap) :
    (Instr.sliceBounds isSlice len cap low (some hv) (some (.int km (m : Int)))).run P w = .ok (l, h, m) w := by
  obtain ⟨kh, rfl⟩ := hh
  cases low with
  | none =>
    simp only [Bound] at hl
    subst hl
    simp only [Instr.sliceBounds, Sem.run_bind, run_sliceBound km m cap _ hmc, Result.andThen_ok, run_sliceBound kh h m _ hhm, Sem.run_pure]
  | some u =>
    obtain ⟨k', rfl⟩ := hl
    simp only [Instr.sliceBounds, Sem.run_bind, run_sliceBound km m cap _ hmc, Result.andThen_ok, run_sliceBound kh h m _ hhm, Sem.run_pure, run_sliceBound k' l h _ hlh]

theorem capOf_exact {c s : Nat} (h : capExact c = true) : capOf c s = c ∧ capLow c = c := by
  have : c < capB := by simpa [capExact, bltD] using h
  exact capOf_small this
theorem capOf_inexact {c s : Nat} (h : capExact c = false) : capOf c s = capLow c + s ∧ capLow c = c - capB ∧ capB ≤ c := by
  have h1 : ¬ c < capB := by simpa [capExact, bltD] using h
  refine ⟨?_, ?_, Nat.le_of_not_lt h1⟩
  · unfold capOf; rw [h, cond_false]
  · unfold capLow; unfold capExact at h; rw [h, cond_false]

/-- 'cutSlice' is what the model's slicing gives. -/
theorem cutSlice_sound {ρ : Ren} {base base' : Option Addr} {len c c' size l h : Nat} {v : Value} (hs : VRel ρ (.slice base len c) (.slice base' len c')) (hcut : cutSlice base c size l h none = some v) :
    l ≤ h ∧ h ≤ c' ∧ VRel ρ v (.slice (if c' = l then base' else base'.map (·.add (l * size))) (h - l) (c' - l)) := by
  unfold cutSlice at hcut
  rw [bleD, Bool.cond_decide] at hcut
  split at hcut
  · rename_i hlh
    simp only at hcut
    rw [bleD, Bool.cond_decide] at hcut
    split at hcut
    · rename_i hhc
      cases hs with
      | nilslice =>
        have hc0 : capExact 0 = true := rfl
        have hl0 : capLow 0 = 0 := rfl
        rw [hl0] at hhc
        have : l = 0 := by omega
        subst this
        have : h = 0 := by omega
        subst this
        simp only [hc0, cond_true, Nat.sub_self] at hcut
        have : v = .slice none 0 0 := by
          simp only [shiftBy_none, Bool.cond_self, Option.some.injEq] at hcut
          exact hcut.symm
        subst this
        exact ⟨by omega, by omega, by simp; exact .nilslice⟩
      | slice i off len c r hi hl =>
        cases he : capExact c with
        | true =>
          obtain ⟨h1, h2⟩ := capOf_exact (s := r.slack) he
          rw [h2] at hhc
          rw [h1]
          refine ⟨hlh, hhc, ?_⟩
          simp only [he, cond_true, Option.some.injEq] at hcut
          subst hcut
          have he' : capExact (c - l) = true := by
            have : c < capB := by simpa [capExact, bltD] using he
            simp [capExact, bltD]; omega
          obtain ⟨h3, h4⟩ := capOf_exact (s := r.slack) he'
          rw [beqD, Bool.cond_decide]
          have key : ∀ o, VRel ρ (.slice (some ⟨i, o, none⟩) (h - l) (c - l)) (.slice (some ⟨r.blk, o, none⟩) (h - l) (c - l)) := by
            intro o
            have := VRel.slice i o (h - l) (c - l) r hi (by omega)
            rwa [h3] at this
          by_cases hcl : c = l
          · rw [if_pos hcl, if_pos hcl]; exact key off
          · rw [if_neg hcl, if_neg hcl, shiftBy_some]
            simp only [Option.map_some, Addr.add_lit]
            exact key (off + l * size)
        | false =>
          obtain ⟨h1, h2, h3⟩ := capOf_inexact (s := r.slack) he
          simp only [he, cond_false] at hcut
          rw [beqD, Bool.cond_decide] at hcut
          split at hcut
          · rename_i hl0
            subst hl0
            cases hcut
            refine ⟨hlh, by omega, ?_⟩
            have hv := VRel.slice i off h c r hi hhc
            by_cases hc0 : capOf c r.slack = 0
            · rw [if_pos hc0]; simpa using hv
            · rw [if_neg hc0]; simpa [Addr.add_lit] using hv
          · rename_i hl0
            rw [bltD, Bool.cond_decide] at hcut
            split at hcut
            · rename_i hlt
              cases hcut
              refine ⟨hlh, by omega, ?_⟩
              have he' : capExact (c - l) = false := by
                simp only [capExact, bltD, decide_eq_false_iff_not]; omega
              obtain ⟨g1, g2, g3⟩ := capOf_inexact (s := r.slack) he'
              have hv := VRel.slice i (off + l * size) (h - l) (c - l) r hi (by omega)
              have e : capOf (c - l) r.slack = capOf c r.slack - l := by omega
              rw [e] at hv
              rw [if_neg (by omega), shiftBy_some]
              simpa [Addr.add_lit] using hv
            · cases hcut
    · cases hcut
  · cases hcut

theorem cutSlice3_sound {ρ : Ren} {base base' : Option Addr} {len c c' size l h m : Nat} {v : Value} (hs : VRel ρ (.slice base len c) (.slice base' len c')) (hcut : cutSlice base c size l h (some m) = some v) :
    l ≤ h ∧ h ≤ m ∧ m ≤ c' ∧ VRel ρ v (.slice (if m = l then base' else base'.map (·.add (l * size))) (h - l) (m - l)) := by
  unfold cutSlice at hcut
  rw [bleD, Bool.cond_decide] at hcut
  split at hcut
  · rename_i hlh
    simp only at hcut
    rw [bleD, bleD, Bool.cond_eq_ite] at hcut
    split at hcut
    · rename_i hc
      simp only [Bool.and_eq_true, decide_eq_true_eq] at hc
      obtain ⟨⟨hhm, hmc⟩, hex⟩ := hc
      cases hcut
      obtain ⟨h3, h4⟩ := capOf_exact (s := 0) hex
      rw [beqD, Bool.cond_decide]
      cases hs with
      | nilslice =>
        have hl0 : capLow 0 = 0 := rfl
        rw [hl0] at hmc
        have : m = 0 := by omega
        subst this
        have : h = 0 := by omega
        subst this
        have : l = 0 := by omega
        subst this
        exact ⟨by omega, by omega, by omega, by simp; exact .nilslice⟩
      | slice i off len c r hi hl =>
        have key : ∀ o, VRel ρ (.slice (some ⟨i, o, none⟩) (h - l) (m - l)) (.slice (some ⟨r.blk, o, none⟩) (h - l) (m - l)) := by
          intro o
          have := VRel.slice i o (h - l) (m - l) r hi (by omega)
          obtain ⟨g, _⟩ := capOf_exact (s := r.slack) hex
          rwa [g] at this
        refine ⟨hlh, hhm, ?_, ?_⟩
        · unfold capOf; omega
        · by_cases hml : m = l
          · rw [if_pos hml, if_pos hml]; exact key off
          · rw [if_neg hml, if_neg hml, shiftBy_some]
            simp only [Option.map_some, Addr.add_lit]
            exact key (off + l * size)
    · cases hcut
  · cases hcut

theorem aSlice_sound {P : Program} {pins : World} {ρ : Ren} {H : AW} {w : World} {a : Env} {a' : Act} (h : ERel ρ a a') (hr : Rel P pins ρ H w) {t : TypeId} {x x' v : Value} {lo hi mx : Option Operand} (hx : VRel ρ x x')
    (hs : aSlice P t x a lo hi mx = some v) : ∃ v', (Instr.sliceAt t x' (lo.map a'.eval) (hi.map a'.eval) (mx.map a'.eval)).run P w = .ok v' w ∧ VRel ρ v v' := by
  unfold aSlice at hs
  split at hs
  · rename_i e base len c hu
    have hx' : ∃ base' c', x' = .slice base' len c' := by cases hx <;> exact ⟨_, _, rfl⟩
    obtain ⟨base', c', rfl⟩ := hx'
    split at hs
    · rename_i n l hh hsz hlo hhi hmx
      cases mx with
      | some m => simp [maxOf] at hmx
      | none =>
        obtain ⟨h1, h2, h3⟩ := cutSlice_sound hx hs
        refine ⟨_, ?_, h3⟩
        simp only [Instr.sliceAt, Sem.run_bind, run_underlying hu, Result.andThen_ok, Instr.slice, Option.map_none, run_sliceBounds true len c' l hh _ _ (boundOf_bound h hr hlo) (boundOf_bound h hr hhi) h1 h2, run_sizeOf hsz, Sem.run_pure]
    · rename_i n l hh mm hsz hlo hhi hmx
      cases mx with
      | none => simp [maxOf] at hmx
      | some m =>
        simp only [maxOf, Option.map_some, Option.some.injEq] at hmx
        cases hi with
        | none => simp at hs
        | some hop =>
          simp only [Option.isSome_some, cond_true] at hs
          obtain ⟨h1, h2, h3, h4⟩ := cutSlice3_sound hx hs
          obtain ⟨km, hkm⟩ := boundOf_sound h hr (show boundOf a (some m) 0 = some mm from hmx)
          refine ⟨_, ?_, h4⟩
          have hb := boundOf_bound h hr hhi
          simp only [Option.map_some] at hb ⊢
          rw [hkm]
          simp only [Instr.sliceAt, Sem.run_bind, run_underlying hu, Result.andThen_ok, Instr.slice, run_sliceBounds3 true len c' l hh mm km _ _ (boundOf_bound h hr hlo) hb h1 h2 h3, run_sizeOf hsz, Sem.run_pure]
    · cases hs
  · rename_i k e p hu
    split at hs
    · rename_i n l hh hsz hlo hhi hmx
      cases mx with
      | some m => simp [maxOf] at hmx
      | none =>
        cases hex : capExact k with
        | false => simp [hex] at hs
        | true =>
          simp only [hex, cond_true] at hs
          cases hx with
          | ptr i off r hi' =>
            obtain ⟨g, g2⟩ := capOf_exact (s := r.slack) hex
            have hsl := VRel.slice i off k k r hi' (by omega)
            rw [g] at hsl
            obtain ⟨h1, h2, h3⟩ := cutSlice_sound hsl hs
            refine ⟨_, ?_, h3⟩
            simp only [Instr.sliceAt, Sem.run_bind, run_underlying hu, Result.andThen_ok, Instr.sureAddr, Sem.run_pure, Option.map_none, run_sliceBounds false k k l hh _ _ (boundOf_bound h hr hlo) (boundOf_bound h hr hhi) h1 h2, run_sizeOf hsz]
            congr 2
            split <;> rfl
    · cases hs
  · cases hs

/-! ### Maps -/
def FRel (ρ : Ren) : Option (Nat × Value) → Option (Nat × Value) → Prop
  | none, none => True
  | some (i, v), some (j, u) => i = j ∧ VRel ρ v u
  | _, _ => False

theorem keq_key {P : Program} {ρ : Ren} {kt : TypeId} {k k' x x' : Value} {b : Bool} (hk : VRel ρ k k') (hx : VRel ρ x x') (h : keq P kt k x = some b) : k' = k ∧ x' = x ∧ pureRun P (Op.equal kt k x) = some b := by
  unfold keq at h
  rw [Bool.cond_eq_ite] at h
  split at h
  · rename_i hp
    simp only [Bool.and_eq_true] at hp
    exact ⟨pfree_eq hk hp.1, pfree_eq hx hp.2, h⟩
  · cases h

theorem findAsking_sound {P : Program} {ρ : Ren} {kt : TypeId} {k k' : Value} (hk : VRel ρ k k') (w : World) : ∀ {es : List (Value × Value)} {es' : List MapEntry} {i : Nat} {res : Option (Nat × Value)},
    LRel ρ (es.map (·.1)) (es'.map (·.key)) → LRel ρ (es.map (·.2)) (es'.map (·.val)) → findA P kt k es i = some res → ∃ res', (Instr.findAsking kt k' es' i).run P w = .ok res' w ∧ FRel ρ res res'
  | [], [], i, res, _, _, h => by simp only [findA, Option.some.injEq] at h; subst h; exact ⟨none, rfl, trivial⟩
  | [], _ :: _, _, _, h1, _, _ => by cases h1
  | _ :: _, [], _, _, h1, _, _ => by cases h1
  | (x, v) :: es, e :: es', i, res, h1, h2, h => by
    simp only [List.map_cons] at h1 h2
    cases h1 with
    | cons hx h1 =>
      cases h2 with
      | cons hv h2 =>
        simp only [findA] at h
        split at h
        · rename_i hq
          cases h
          obtain ⟨e1, e2, e3⟩ := keq_key hk hx hq
          refine ⟨some (i, e.val), ?_, rfl, hv⟩
          simp only [Instr.findAsking, Sem.run_bind, e1, e2, pureRun_run e3 w, Result.andThen_ok]
          rfl
        · rename_i hq
          obtain ⟨e1, e2, e3⟩ := keq_key hk hx hq
          obtain ⟨res', hrun, hf⟩ := findAsking_sound hk w h1 h2 h
          refine ⟨res', ?_, hf⟩
          simp only [Instr.findAsking, Sem.run_bind, e1, e2, pureRun_run e3 w, Result.andThen_ok]
          rw [e1] at hrun
          exact hrun
        · cases h

theorem sameNow_eq {P : Program} {kt : TypeId} {d : TypeDesc} {a b : Value} {c q : Bool} (hd : P.underlying kt = some d) (h : Instr.sameNow d a b = some c) (hq : pureRun P (Op.equal kt a b) = some q) : c = q := by
  have hrun := pureRun_run hq default
  have key : ∀ n, (Op.equalIn (n + 1) kt a b).run P default = .ok c default := by
    intro n
    unfold Instr.sameNow at h
    split at h
    · rename_i k a k' b
      split at h
      · rename_i hkk
        cases h
        simp [Op.equalIn, run_underlying hd, hkk]
      · cases h
    · cases h; simp [Op.equalIn, run_underlying hd]
    · cases h; simp [Op.equalIn, run_underlying hd]
    · cases h
  have hk : (Op.equal kt a b).run P default = .ok c default := key 9999
  rw [hk] at hrun
  cases hrun
  rfl

theorem findNow_sound {P : Program} {ρ : Ren} {kt : TypeId} {d : TypeDesc} (hd : P.underlying kt = some d) {k k' : Value} (hk : VRel ρ k k') : ∀ {es : List (Value × Value)} {es' : List MapEntry} {i : Nat} {res res' : Option (Nat × Value)},
    LRel ρ (es.map (·.1)) (es'.map (·.key)) → LRel ρ (es.map (·.2)) (es'.map (·.val)) → findA P kt k es i = some res → Instr.findNow d k' es' i = some res' → FRel ρ res res'
  | [], [], i, res, res', _, _, h, h' => by
    simp only [findA, Option.some.injEq] at h; subst h
    simp only [Instr.findNow, Option.some.injEq] at h'; subst h'; trivial
  | [], _ :: _, _, _, _, h1, _, _, _ => by cases h1
  | _ :: _, [], _, _, _, h1, _, _, _ => by cases h1
  | (x, v) :: es, e :: es', i, res, res', h1, h2, h, h' => by
    simp only [List.map_cons] at h1 h2
    cases h1 with
    | cons hx h1 =>
      cases h2 with
      | cons hv h2 =>
        simp only [findA] at h
        simp only [Instr.findNow] at h'
        split at h
        · rename_i hq
          cases h
          obtain ⟨e1, e2, e3⟩ := keq_key hk hx hq
          rw [e1, e2] at h'
          split at h'
          · cases h'; exact ⟨rfl, hv⟩
          · rename_i hn
            cases sameNow_eq hd hn e3
          · cases h'
        · rename_i hq
          obtain ⟨e1, e2, e3⟩ := keq_key hk hx hq
          rw [e1, e2] at h'
          split at h'
          · rename_i hn
            cases sameNow_eq hd hn e3
          · rw [← e1] at h'
            exact findNow_sound hd hk h1 h2 h h'
          · cases h'
        · cases h

theorem findKey_sound {P : Program} {ρ : Ren} {kt : TypeId} {k k' : Value} (hkt : (P.underlying kt).isSome) (hk : VRel ρ k k') (w : World) {es : List (Value × Value)} {es' : List MapEntry} {res : Option (Nat × Value)}
    (h1 : LRel ρ (es.map (·.1)) (es'.map (·.key))) (h2 : LRel ρ (es.map (·.2)) (es'.map (·.val))) (h : findA P kt k es 0 = some res) : ∃ res', (Instr.findKey kt k' es').run P w = .ok res' w ∧ FRel ρ res res' := by
  obtain ⟨d, hd⟩ := Option.isSome_iff_exists.1 hkt
  simp only [Instr.findKey, Sem.run_bind, run_underlying hd, Result.andThen_ok]
  cases hn : Instr.findNow d k' es' 0 with
  | none => exact findAsking_sound hk w h1 h2 h
  | some r => exact ⟨r, rfl, findNow_sound hd hk h1 h2 h hn⟩

theorem keyOk_sound {P : Program} {ρ : Ren} {b : Bool} {kt : TypeId} {k k' : Value} (hk : VRel ρ k k') (h : keyOk P b kt k = true) (w : World) : k' = k ∧ (Instr.checkKey b 10000 kt k).run P w = .ok () w := by
  unfold keyOk at h
  simp only [Bool.and_eq_true] at h
  obtain ⟨u, hu⟩ := Option.isSome_iff_exists.1 h.2
  exact ⟨pfree_eq hk h.1, pureRun_run hu w⟩

theorem checkKey_underlying {P : Program} {b : Bool} {kt : TypeId} {k : Value} {w : World} (n : Nat) (h : (Instr.checkKey b (n + 1) kt k).run P w = .ok () w) : (P.underlying kt).isSome := by
  cases hu : P.underlying kt with
  | some d => rfl
  | none => simp [Instr.checkKey, underlying, hu] at h

def lookupOut (ok : Bool) (z : Value) : Option (Nat × Value) → Value
  | some (_, v) => if ok = true then .tuple #[v, .bool true] else v
  | none => if ok = true then .tuple #[z, .bool false] else z

theorem run_lookup {P : Program} {w : World} {t kt et : TypeId} {x' k' : Value} {ok : Bool} {es' : Array MapEntry} {res : Option (Nat × Value)} {z : Value} (hu : P.underlying t = some (.map kt et))
    (hx : (x' = .map none ∧ es' = #[]) ∨ ∃ b clk, x' = .map (some b) ∧ w.heap[b]? = some (.map es' clk)) (hck : (Instr.checkKey es'.isEmpty 10000 kt k').run P w = .ok () w)
    (hf : (Instr.findKey kt k' es'.toList).run P w = .ok res w) (hz : res = none → (zeroValue et).run P w = .ok z w) :
    (Instr.lookup t x' k' ok).run P w = .ok (lookupOut ok z res) w := by
  rcases hx with ⟨rfl, rfl⟩ | ⟨b, clk, rfl, hb⟩
  · unfold Instr.lookup
    simp only [Sem.run_bind, run_underlying hu, Result.andThen_ok, Sem.run_pure, hck, hf]
    cases res with
    | some q => simp only [Sem.run_bind, Sem.run_pure, Result.andThen_ok, lookupOut]
    | none => simp only [Sem.run_bind, Sem.run_pure, Result.andThen_ok, lookupOut, hz rfl]
  · have hgo : (getObj b).run P w = .ok (.map es' clk) w := by simp [getObj, Sem.run, hb]
    unfold Instr.lookup
    simp only [Sem.run_bind, run_underlying hu, Result.andThen_ok, Sem.run_pure, hgo, hck, hf]
    cases res with
    | some q => simp only [Sem.run_bind, Sem.run_pure, Result.andThen_ok, lookupOut]
    | none => simp only [Sem.run_bind, Sem.run_pure, Result.andThen_ok, lookupOut, hz rfl]

theorem aLookup_sound {P : Program} {pins : World} {ρ : Ren} {H : AW} {w : World} (hr : Rel P pins ρ H w) {t : TypeId} {x x' k k' v : Value} {ok : Bool} (hx : VRel ρ x x') (hk : VRel ρ k k')
    (h : aLookup P H t x k ok = some v) : ∃ v', (Instr.lookup t x' k' ok).run P w = .ok v' w ∧ VRel ρ v v' := by
  unfold aLookup at h
  split at h
  · rename_i kt et es hu hm
    rw [Bool.cond_eq_ite] at h
    split at h
    · rename_i hkey
      obtain ⟨e1, hck⟩ := keyOk_sound hk hkey w
      subst e1
      have hkt := checkKey_underlying 9999 hck
      have hes : ∃ es' : Array MapEntry, ((x' = .map none ∧ es' = #[]) ∨ ∃ b clk, x' = .map (some b) ∧ w.heap[b]? = some (.map es' clk)) ∧
          LRel ρ (es.map (·.1)) (es'.toList.map (·.key)) ∧ LRel ρ (es.map (·.2)) (es'.toList.map (·.val)) := by
        unfold mapOf at hm
        split at hm
        · cases hm; cases hx; exact ⟨#[], .inl ⟨rfl, rfl⟩, .nil, .nil⟩
        · rename_i i
          split at hm
          · rename_i es0 hg
            cases hm
            cases hx with
            | map i r hi =>
              obtain ⟨⟨es', clk, ho, l1, l2⟩, _⟩ := hr.obj i _ r hg hi
              exact ⟨es', .inr ⟨r.blk, clk, rfl, ho⟩, l1, l2⟩
          · cases hm
        · cases hm
      obtain ⟨es', hcase, l1, l2⟩ := hes
      have hempty : es'.isEmpty = es.isEmpty := by
        have hl := l1.length
        simp only [List.length_map, Array.length_toList] at hl
        unfold Array.isEmpty
        cases es with
        | nil => rw [← hl]; rfl
        | cons a l => rw [← hl]; rfl
      cases hf : findA P kt k' es 0 with
      | none => simp [hf] at h
      | some res =>
        obtain ⟨res', hfr, hfrel⟩ := findKey_sound hkt hk w l1 l2 hf
        simp only [hf] at h
        have hck' : (Instr.checkKey es'.isEmpty 10000 kt k').run P w = .ok () w := by rw [hempty]; exact hck
        cases res with
        | some q =>
          obtain ⟨i, u⟩ := q
          cases res' with
          | none => exact hfrel.elim
          | some q' =>
            obtain ⟨i', u'⟩ := q'
            obtain ⟨_, hv⟩ := hfrel
            simp only [Option.some.injEq] at h
            subst h
            refine ⟨_, run_lookup (z := undef) hu hcase hck' hfr (fun h => by cases h), ?_⟩
            cases ok
            · exact hv
            · exact .tupleL (.cons hv (.cons (.bool true) .nil))
        | none =>
          cases res' with
          | some q' => exact hfrel.elim
          | none =>
            simp only at h
            split at h
            · rename_i z hz
              rw [Bool.cond_eq_ite] at h
              split at h
              · rename_i hpz
                cases h
                refine ⟨_, run_lookup hu hcase hck' hfr (fun _ => run_zeroValue hz w), ?_⟩
                cases ok
                · exact .of_pfree hpz
                · exact .tupleL (.cons (.of_pfree hpz) (.cons (.bool false) .nil))
              · cases h
            · cases h
    · cases h
  · cases h

theorem aMapUpdate_sound {P : Program} {pins : World} {ρ : Ren} {H H1 : AW} {w : World} (hr : Rel P pins ρ H w) {t : TypeId} {m m' k k' x x' : Value} (hm : VRel ρ m m') (hk : VRel ρ k k') (hx : VRel ρ x x')
    (h : aMapUpdate P H t m k x = some H1) : ∃ w1, (Instr.mapUpdate t m' k' x').run P w = .ok () w1 ∧ Rel P pins ρ H1 w1 ∧ H1.next = H.next := by
  unfold aMapUpdate at h
  split at h
  · rename_i kt et i hu
    split at h
    · rename_i es hg
      rw [Bool.cond_eq_ite] at h
      split at h
      · rename_i hkey
        obtain ⟨e1, hck⟩ := keyOk_sound hk hkey w
        subst e1
        have hkt := checkKey_underlying 9999 hck
        split at h
        · rename_i hf
          cases h
          cases hm with
          | map i r hi =>
            obtain ⟨⟨es', clk, ho, l1, l2⟩, _⟩ := hr.obj i _ r hg hi
            obtain ⟨res', hfr, hfrel⟩ := findKey_sound hkt hk w l1 l2 hf
            cases res' with
            | some q => exact hfrel.elim
            | none =>
              have hgo : (getObj r.blk).run P w = .ok (.map es' clk) w := by simp [getObj, Sem.run, ho]
              have hlt : r.blk < w.heap.size := hr.low i r hi
              have hso : ∀ o, (setObj r.blk o).run P w = .ok () { w with heap := w.heap.setIfInBounds r.blk o } := fun o => by simp [setObj, Sem.run, ho]
              refine ⟨{ w with heap := w.heap.setIfInBounds r.blk (.map (es'.push { key := k', val := x', born := clk }) (clk + 1)) }, ?_, ?_, rfl⟩
              · simp only [Instr.mapUpdate, Sem.run_bind, run_underlying hu, Result.andThen_ok, hgo, hck, hfr, hso]
              · refine hr.write hg rfl hi (.map (es'.push { key := k', val := x', born := clk }) (clk + 1)) (by simp) (fun b hb => ?_) ?_ ⟨rfl, rfl, rfl, by simp⟩ ⟨_, _, rfl, ?_, ?_⟩
                · simp [Ne.symm hb]
                · simp [hlt]
                · simpa using l1.snoc hk
                · simpa using l2.snoc hx
        · cases h
      · cases h
    · cases h
  · cases h

end Go.Up

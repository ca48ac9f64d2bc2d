/- The abstract interpreter is sound, part 3: the operations that make or write memory. -/
import Derived.Test.YtcleopoapogcgaaGreatDoorUpSnd2
namespace Go.Up

/-! ### Stores -/
/-- Cells are stored from a place of a block on. -/
theorem run_storeCells_at {P : Program} (g : Nat) (t : TypeId) (off : Nat) : ∀ (vs : List Value) (i : Nat) (cur : Array Value) (w : World), w.heap[g]? = some (.cells cur t (0, 0)) → off + i + vs.length ≤ cur.size → (∀ v ∈ vs, v.oneCell' = true) →
    ∃ w1, (storeCells ⟨g, off, none⟩ vs i).run P w = .ok () w1 ∧ w1.heap.size = w.heap.size ∧ Same w w1 ∧ (∀ b, b ≠ g → w1.heap[b]? = w.heap[b]?) ∧
      ∃ cur1 : Array Value, w1.heap[g]? = some (.cells cur1 t (0, 0)) ∧ cur1.toList = cur.toList.take (off + i) ++ vs ++ cur.toList.drop (off + i + vs.length)
  | [], i, cur, w, hg, hl, _ => ⟨w, rfl, rfl, .refl _, fun _ _ => rfl, cur, hg, by simp⟩
  | v :: rest, i, cur, w, hg, hl, h1 => by
    simp only [List.length_cons] at hl
    have hi : off + i < cur.size := by omega
    have hadd : (⟨g, off, none⟩ : Addr).add i = ⟨g, off + i, none⟩ := Addr.add_lit _ _ _
    have hcell : w.cell? ⟨g, off + i, none⟩ = some cur[off + i] := by simp [World.cell?, hg, hi]
    have hfro : w.frozen? ⟨g, off + i, none⟩ = false := by simp [World.frozen?, hg]
    have hst : (store ((⟨g, off, none⟩ : Addr).add i) v).run P w = .ok () (w.setRow g (cur.setIfInBounds (off + i) v)) := by
      rw [hadd, run_store P w _ v _ (h1 v (by simp)), hcell]
      simp [hfro, setCell_eq_setRow w g (off + i) cur t (0, 0) v hg]
    obtain ⟨w1, hr, hs, hsm, ho, cur1, hg1, hc⟩ := run_storeCells_at (P := P) g t off rest (i + 1) (cur.setIfInBounds (off + i) v) (w.setRow g (cur.setIfInBounds (off + i) v)) (setRow_heap w g cur _ t _ hg)
      (by simp; omega) (fun x hx => h1 x (by simp [hx]))
    refine ⟨w1, ?_, by rw [hs]; simp, Same.trans (b := w.setRow g (cur.setIfInBounds (off + i) v)) ⟨rfl, rfl, rfl, by simp⟩ hsm, fun b hb => by rw [ho b hb, setRow_other w g b _ hb], cur1, hg1, ?_⟩
    · simp only [storeCells, Sem.run_bind, hst, Result.andThen_ok, hr]
    · rw [hc]
      have hlt : off + i < cur.toList.length := by simpa using hi
      rw [Array.toList_setIfInBounds]
      have e1 : (cur.toList.set (off + i) v).take (off + (i + 1)) = cur.toList.take (off + i) ++ [v] := by
        rw [show off + (i + 1) = (off + i) + 1 by omega, List.take_set, List.take_add_one, List.set_append]
        rw [if_neg (by simp; omega)]
        simp [List.getElem?_eq_getElem hlt, Nat.min_eq_left (Nat.le_of_lt hi)]
      have e2 : (cur.toList.set (off + i) v).drop (off + (i + 1) + rest.length) = cur.toList.drop (off + i + (rest.length + 1)) := by
        rw [List.drop_set_of_lt (by omega)]
        congr 1
        omega
      rw [e1, e2]
      simp

theorem storeCellsAt_sound {P : Program} {pins : World} {ρ : Ren} {H H1 : AW} {w : World} (hr : Rel P pins ρ H w) {i off : Nat} {r : RI} {vs vs' : List Value} (hi : ρ i = some r)
    (hv : LRel ρ vs vs') (h : storeCellsAt H i off vs = some H1) (k : Nat) (hk : k ≤ off) :
    ∃ w1, (storeCells ⟨r.blk, k, none⟩ vs' (off - k)).run P w = .ok () w1 ∧ Rel P pins ρ H1 w1 ∧ H1.next = H.next := by
  unfold storeCellsAt at h
  split at h
  · rename_i c e hg
    rw [bleD, Bool.cond_eq_ite] at h
    split at h
    · rename_i hc
      simp only [Bool.and_eq_true, decide_eq_true_eq] at hc
      obtain ⟨hle, hone⟩ := hc
      cases h
      obtain ⟨⟨c', hb, hsz, hcc⟩, _⟩ := hr.obj i _ r hg hi
      have hl : vs.length = vs'.length := hv.length
      have hone' : ∀ v ∈ vs', v.oneCell' = true := by
        have : ∀ {l m : List Value}, LRel ρ l m → l.all Value.oneCell' = true → ∀ v ∈ m, v.oneCell' = true := by
          intro l m hlm
          induction hlm with
          | nil => intro _ v hv; cases hv
          | cons h _ ih =>
            intro ha v hv
            simp at ha
            cases hv with
            | head => rw [h.oneCell]; exact ha.1
            | tail _ hv => exact ih (by simpa using ha.2) v hv
        exact this hv hone
      obtain ⟨w1, hrun, hs, hsm, ho, cur1, hg1, hcur⟩ := run_storeCells_at (P := P) r.blk e k vs' (off - k) c' w hb (by omega) hone'
      refine ⟨w1, hrun, ?_, rfl⟩
      have hko : k + (off - k) = off := by omega
      rw [hko] at hcur
      have hlen : cur1.size = c'.size := by
        have := congrArg List.length hcur
        simp at this
        omega
      refine hr.write hg rfl hi (.cells cur1 e (0, 0)) hs ho hg1 hsm ⟨cur1, rfl, ?_, ?_⟩
      · simp only [spliceAt, List.length_append, List.length_take, List.length_drop]
        omega
      · have hlen2 : (spliceAt c off vs).length = c.length := by
          simp only [spliceAt, List.length_append, List.length_take, List.length_drop]; omega
        rw [hlen2, hcur]
        unfold spliceAt
        have e1 : (c'.toList.take off ++ vs' ++ c'.toList.drop (off + vs'.length)).take c.length = c'.toList.take off ++ vs' ++ (c'.toList.take c.length).drop (off + vs'.length) := by
          rw [List.take_append, List.take_of_length_le (by simp; omega)]
          congr 1
          rw [List.drop_take]
          congr 1
          simp
          omega
        rw [e1]
        have t1 := hcc.take off
        rw [List.take_take, Nat.min_eq_left (by omega)] at t1
        have t2 := hcc.drop (off + vs.length)
        rw [hl] at t2 ⊢
        exact (t1.append hv).append t2
    · cases h
  · cases h

theorem storeAt_sound {P : Program} {pins : World} {ρ : Ren} {H H1 : AW} {w : World} (hr : Rel P pins ρ H w) {t : TypeId} {i off : Nat} {r : RI} {v v' : Value} (hi : ρ i = some r)
    (hv : VRel ρ v v') (h : storeAt P H t i off v = some H1) : ∃ w1, (storeVar t ⟨r.blk, off, none⟩ v').run P w = .ok () w1 ∧ Rel P pins ρ H1 w1 ∧ H1.next = H.next := by
  unfold storeAt at h
  split at h
  · rename_i n hn
    rw [beqD, Bool.cond_decide] at h
    split at h
    · rename_i hlen
      obtain ⟨w1, hrun, hrel, hnext⟩ := storeCellsAt_sound (P := P) hr hi hv.cells h off (Nat.le_refl _)
      refine ⟨w1, ?_, hrel, hnext⟩
      have hl := hv.cells.length
      have hs : v'.cells.size = n := by
        have : (cellsOfV v').length = n := by omega
        simpa [cellsOfV] using this
      rw [Nat.sub_self] at hrun
      simp [storeVar, run_sizeOf hn, hs]
      exact hrun
    · cases h
  · cases h

/-! ### Blocks that are made -/
theorem ORel.fresh {P : Program} {ρ : Ren} {c : List Value} {c' : Array Value} (e : TypeId) (ro : Bool) (b : Nat) (h : LRel ρ c c'.toList) : ORel P ρ ⟨b, 0⟩ (.cells c e ro) (some (.cells c' e (0, 0))) :=
  ⟨c', rfl, by have := h.length; simp at this; simp [this], by rw [h.length, List.take_length]; exact h⟩

/-- A block of cells is made as the model makes one. -/
theorem new_sound {P : Program} {pins : World} {ρ : Ren} {H H1 : AW} {w : World} (hr : Rel P pins ρ H w) {i : Nat} {c : List Value} {e : TypeId} {ro : Bool} (hn : H.new (.cells c e ro) = some (i, H1))
    {c' : Array Value} (hc : LRel ρ c c'.toList) : Rel P pins (ρ.add i ⟨w.heap.size, 0⟩) H1 { w with heap := w.heap.push (.cells c' e (0, 0)) } ∧ Ext H.next ρ (ρ.add i ⟨w.heap.size, 0⟩) ∧ H.next ≤ H1.next :=
  hr.alloc hn (.cells c' e (0, 0)) ⟨w.heap.size, 0⟩ rfl rfl ⟨rfl, rfl, rfl, by simp⟩ (.fresh e ro _ hc)

theorem Ren.add_self (ρ : Ren) (i : Nat) (r : RI) : (ρ.add i r) i = some r := by simp [Ren.add]

theorem aAlloc_sound {P : Program} {pins : World} {ρ : Ren} {H H1 : AW} {w : World} (hr : Rel P pins ρ H w) {t : TypeId} {v : Value} (h : aAlloc P H t = some (v, H1)) :
    ∃ v' w1 ρ1, (Instr.alloc t true (.tuple #[])).run P w = .ok v' w1 ∧ Rel P pins ρ1 H1 w1 ∧ Ext H.next ρ ρ1 ∧ VRel ρ1 v v' ∧ H.next ≤ H1.next := by
  unfold aAlloc at h
  split at h
  · rename_i z hz
    cases hp : (cellsOfV z).all pfree with
    | false => simp [hp] at h
    | true =>
      simp only [hp, cond_true] at h
      split at h
      · rename_i i H' hn
        cases h
        obtain ⟨h1, h2, h3⟩ := new_sound (P := P) hr hn (c' := z.cells) (LRel.of_pfree hp)
        refine ⟨_, _, _, ?_, h1, h2, .ptr i 0 _ (Ren.add_self _ _ _), h3⟩
        simp [Instr.alloc, run_zeroValue hz, newVar, newRow]
      · cases h
  · cases h

theorem aBox_sound {P : Program} {pins : World} {ρ : Ren} {H H1 : AW} {w : World} (hr : Rel P pins ρ H w) {t : TypeId} {x x' v : Value} (hx : VRel ρ x x') (h : aBox H t x = some (v, H1)) :
    ∃ v' w1 ρ1, (Instr.box t x').run P w = .ok v' w1 ∧ Rel P pins ρ1 H1 w1 ∧ Ext H.next ρ ρ1 ∧ VRel ρ1 v v' ∧ H.next ≤ H1.next := by
  unfold aBox at h
  split at h
  · rename_i i H' hn
    cases h
    obtain ⟨h1, h2, h3⟩ := new_sound (P := P) hr hn (c' := x'.cells) hx.cells
    refine ⟨_, _, _, ?_, h1, h2, .ptr i 0 _ (Ren.add_self _ _ _), h3⟩
    simp [Instr.box, newVar, newRow]
  · cases h

/-! ### Filling -/
theorem fold_rel {ρ : Ren} (off : Nat) : ∀ {vs vs' : List Value} (k : Nat) {cs cs' : Array Value}, LRel ρ vs vs' → LRel ρ cs.toList cs'.toList →
    LRel ρ ((vs.zipIdx k).foldl (fun cs (x : Value × Nat) => cs.setIfInBounds (off + x.2) x.1) cs).toList ((vs'.zipIdx k).foldl (fun cs (x : Value × Nat) => cs.setIfInBounds (off + x.2) x.1) cs').toList := by
  intro vs vs' k cs cs' hv
  induction hv generalizing k cs cs' with
  | nil => intro hc; exact hc
  | cons h _ ih =>
    intro hc
    simp only [List.zipIdx_cons, List.foldl_cons]
    refine ih (k + 1) ?_
    rw [Array.toList_setIfInBounds, Array.toList_setIfInBounds]
    exact hc.set h _

theorem fill_rel {ρ : Ren} {place : Nat → Option (Nat × Nat)} : ∀ {ps ps' : List (Nat × Value)} {cs cs' out : Array Value}, PRel ρ ps ps' → LRel ρ cs.toList cs'.toList → Instr.fill place cs ps = some out →
    ∃ out', Instr.fill place cs' ps' = some out' ∧ LRel ρ out.toList out'.toList := by
  intro ps ps' cs cs' out hp
  induction hp generalizing cs cs' with
  | nil => intro hc h; simp only [Instr.fill, Option.some.injEq] at h; subst h; exact ⟨cs', rfl, hc⟩
  | cons h _ ih =>
    rename_i i a b l m _
    intro hc hf
    simp only [Instr.fill] at hf ⊢
    cases hpl : place i with
    | none => simp [hpl] at hf
    | some q =>
      obtain ⟨off, size⟩ := q
      simp only [hpl] at hf ⊢
      have hcl := h.cells.length
      have hs : a.cells.size = b.cells.size := by simpa [cellsOfV] using hcl
      have hcs : cs.size = cs'.size := by simpa using hc.length
      rw [hs, hcs] at hf
      split at hf
      · cases hf
      · rename_i hcond
        rw [if_neg hcond]
        refine ih ?_ hf
        have := fold_rel (ρ := ρ) off 0 h.cells hc
        rw [← Array.foldl_toList, ← Array.foldl_toList, Array.toList_zipIdx, Array.toList_zipIdx]
        exact this

theorem built_rel {P : Program} {ρ : Ren} {t : TypeId} {z : Value} (hz : zeroOfT P t = some z) (hp : (cellsOfV z).all pfree = true) {ps ps' : List (Nat × Value)} (h : PRel ρ ps ps') {cs : Array Value} (hb : P.built t ps = some cs) :
    ∃ cs', P.built t ps' = some cs' ∧ LRel ρ cs.toList cs'.toList := by
  obtain ⟨it, hit, hz⟩ := info_of_zero hz
  have hzr : LRel ρ z.cells.toList z.cells.toList := LRel.of_pfree hp
  unfold Program.built at hb ⊢
  cases hu : P.underlying t with
  | none => simp [hit, hu] at hb
  | some d =>
    cases d <;> try (simp [hit, hu] at hb; done)
    case array n e =>
      cases hie : P.info? e with
      | none => simp [hit, hu, hz, hie] at hb
      | some ie =>
        simp only [hit, hu, hz, hie] at hb ⊢
        exact fill_rel h hzr hb
    case struct fs =>
      cases hpl : fs.toList.mapM (fun f => (P.info? f.type).map fun i => (f.offset, i.size)) with
      | none => simp [hit, hu, hz, hpl] at hb
      | some pl =>
        simp only [hit, hu, hz, hpl] at hb ⊢
        exact fill_rel h hzr hb

/-! ### Rows of zeros -/
theorem zerosOf_length (z : List Value) (n : Nat) : (zerosOf z n).length = n * z.length := by
  induction n with
  | zero => simp [zerosOf]
  | succ n ih => simp [zerosOf, ih, Nat.succ_mul, Nat.add_comm]
theorem zerosOf_get (z : List Value) (hz : 0 < z.length) : ∀ (n i : Nat), i < n * z.length → (zerosOf z n)[i]? = z[i % z.length]?
  | 0, i, h => by simp at h
  | n + 1, i, h => by
    simp only [zerosOf]
    by_cases hi : i < z.length
    · rw [List.getElem?_append_left hi, Nat.mod_eq_of_lt hi]
    · have hi' : z.length ≤ i := by omega
      rw [List.getElem?_append_right hi', zerosOf_get z hz n (i - z.length) (by rw [Nat.succ_mul] at h; omega)]
      rw [Nat.mod_eq_sub_mod hi']
theorem zeros_row (z : Array Value) (n m : Nat) (hz : z.toList.length = m + 1) : (Array.range (n * (m + 1))).map (fun i => z[i % z.size]!) = (zerosOf z.toList n).toArray := by
  have hs : z.size = m + 1 := by simpa using hz
  apply Array.ext'
  apply List.ext_getElem?
  intro i
  simp only [Array.toList_map, Array.toList_range, List.getElem?_map]
  by_cases hi : i < n * (m + 1)
  · rw [zerosOf_get z.toList (by omega) n i (by rw [hz]; exact hi)]
    have hmod : i % (m + 1) < m + 1 := Nat.mod_lt _ (by omega)
    simp [hi, hs, hmod]
  · have := zerosOf_length z.toList n
    rw [hz] at this
    rw [List.getElem?_eq_none (by simp; omega), List.getElem?_eq_none (by omega)]
    rfl
theorem zerosOf_pfree {z : List Value} (h : z.all pfree = true) : ∀ n, (zerosOf z n).all pfree = true
  | 0 => rfl
  | n + 1 => by simp only [zerosOf, List.all_append, h, zerosOf_pfree h n, Bool.and_self]

end Go.Up

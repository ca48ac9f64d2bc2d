/- The abstract interpreter is sound, part 6: append, copy, len and the other builtins; all operations but calls of functions. -/
import Derived.Test.YtcleopoapogcgaaGreatDoorUpSnd5
namespace Go.Up

theorem lenV_sound {P : Program} {ρ : Ren} {x x' : Value} {n : Nat} (hx : VRel ρ x x') (h : lenV x = some n) (w : World) : (Builtin.lenOf x').run P w = .ok n w := by
  cases hx <;> simp [lenV] at h <;> subst h <;> rfl

theorem elemsOf_sound {P : Program} {pins : World} {ρ : Ren} {H : AW} {w : World} (hr : Rel P pins ρ H w) {m n : Nat} {x x' : Value} {new : List Value} (hx : VRel ρ x x') (h : elemsOf H m n x = some new) :
    ∃ new' : Array Value, (Builtin.firstCells m n x').run P w = .ok new' w ∧ LRel ρ new new'.toList := by
  unfold elemsOf at h
  split at h
  · rename_i i off len c
    rw [bleD, Bool.cond_decide] at h
    split at h
    · split at h
      · rename_i cs e ro hg
        rw [bleD, Bool.cond_decide] at h
        split at h
        · rename_i hle
          cases h
          cases hx with
          | slice i off len c r hi hl =>
            obtain ⟨⟨c', hb, hsz, hc⟩, _⟩ := hr.obj i _ r hg hi
            refine ⟨((c'.toList.drop off).take (n * m)).toArray, ?_, ?_⟩
            · simp only [Builtin.firstCells]
              exact run_loadCells_at hb (by omega)
            · have := (hc.drop off).take (n * m)
              rw [take_take_drop hle] at this
              simpa using this
        · cases h
      · cases h
    · cases h
  · rw [beqD, Bool.cond_decide] at h
    split at h
    · cases h
      cases hx
      exact ⟨#[], rfl, .nil⟩
    · cases h
  · rename_i s
    rw [beqD, beqD, Bool.cond_eq_ite] at h
    split at h
    · rename_i hc
      simp only [Bool.and_eq_true, decide_eq_true_eq] at hc
      cases h
      cases hx
      refine ⟨(s.extract 0 n).data.map fun b => .int .u8 b.toNat, rfl, ?_⟩
      have e : s.extract 0 n = s := by
        rw [hc.1]
        exact ByteArray.extract_zero_size
      rw [e, Array.toList_map]
      have : ∀ l : List UInt8, LRel ρ (l.map fun b => .int .u8 (b.toNat : Int)) (l.map fun b => .int .u8 (b.toNat : Int)) := by
        intro l
        induction l with
        | nil => exact .nil
        | cons a l ih => exact .cons (.int _ _) ih
      exact this _
    · cases h
  · cases h

theorem run_append_room {P : Program} {w w1 : World} {ats : Array TypeId} {t u ty e : TypeId} {m n len c : Nat} {base : Option Addr} {x : Value} {new : Array Value} (ht0 : ats[0]? = some t) (hu0 : ats[1]? = some u) (ht : P.underlying t = some (.slice e))
    (hu : sliceOrString P u = true) (hm : cellsOfT P e = some m) (hn : (Builtin.lenOf x).run P w = .ok n w) (hnew : (Builtin.firstCells m n x).run P w = .ok new w)
    (hle : len + n ≤ c) (hst : match base with | some a => (storeCells (a.add (len * m)) new.toList).run P w = .ok () w1 | none => w1 = w) :
    (Builtin.append_ ats ty #[.slice base len c, x]).run P w = .ok (.slice base (len + n) c) w1 := by
  unfold Builtin.append_
  simp only [ht0, hu0, List.getElem?_toArray, List.getElem?_cons_zero, List.getElem?_cons_succ, Sem.run_bind, run_underlying ht, Result.andThen_ok, run_sizeOf hm]
  unfold sliceOrString at hu
  cases hd : P.underlying u with
  | none => simp [hd] at hu
  | some d =>
    cases base with
    | none =>
      subst hst
      cases d <;> simp [hd] at hu <;> simp [run_underlying hd, hn, hle, hnew]
    | some a =>
      have hst' : (storeCells (a.add (len * m)) new.toList).run P w = .ok () w1 := hst
      cases d <;> simp [hd] at hu <;> simp [run_underlying hd, hn, hle, hnew, hst']

theorem run_append_new {P : Program} {w : World} {ats : Array TypeId} {t u ty e : TypeId} {m n len c by_ : Nat} {base : Option Addr} {x z : Value} {old new : Array Value} (ht0 : ats[0]? = some t) (hu0 : ats[1]? = some u) (ht : P.underlying t = some (.slice e))
    (hu : sliceOrString P u = true) (hm : cellsOfT P e = some m) (hb : bytesOfT P e = some by_) (hz : zeroOfT P e = some z) (hn : (Builtin.lenOf x).run P w = .ok n w)
    (hnew : (Builtin.firstCells m n x).run P w.drew = .ok new w.drew) (hold : (Builtin.firstCells m len (.slice base len c)).run P w.drew = .ok old w.drew)
    (hgt : c < len + n) (h1 : len + n ≤ 10000000) (h2 : (len + n) * by_ ≤ 10000000) :
    ∃ k, (Builtin.append_ ats ty #[.slice base len c, x]).run P w = .ok (.slice (some ⟨w.heap.size, 0, none⟩) (len + n) (len + n + k)) (w.drew.alloc (.cells (old ++ new ++ Builtin.zeroCells z.cells k) e)) := by
  obtain ⟨ib, hib, hbb⟩ := info_of_bytes hb
  refine ⟨(Question.appendCap (len + n) c e).cut (w.tape w.drawn (.appendCap (len + n) c e)) - (len + n), ?_⟩
  have hcut : len + n ≤ (Question.appendCap (len + n) c e).cut (w.tape w.drawn (.appendCap (len + n) c e)) := by simp [Question.cut]
  generalize hq : (Question.appendCap (len + n) c e).cut (w.tape w.drawn (.appendCap (len + n) c e)) = q at hcut ⊢
  have hti : ∀ w, (typeInfo e).run P w = .ok ib w := fun w => by simp [typeInfo, hib]
  have hle : ¬ (len + n ≤ c) := by omega
  have h63 : ¬ ((9223372036854775807 : Int) < (len : Int) + (n : Int)) := by omega
  have hgrow : Builtin.nextslicecap (len + n) c * ib.bytes ≤ 281474976710656 := growslice_fits hgt (by rw [hbb]; omega)
  have h48 : ¬ (281474976710656 < Builtin.nextslicecap (len + n) c * ib.bytes) := by omega
  have hqq : len + n + (q - (len + n)) = q := by omega
  unfold Builtin.append_
  simp only [ht0, hu0, List.getElem?_toArray, List.getElem?_cons_zero, List.getElem?_cons_succ, Sem.run_bind, run_underlying ht, Result.andThen_ok, run_sizeOf hm]
  unfold sliceOrString at hu
  cases hd : P.underlying u with
  | none => simp [hd] at hu
  | some d =>
    cases d <;> simp [hd] at hu <;> simp [run_underlying hd, hn, hle, hti, h63, h48, Question.forced, hq, hold, hnew, run_zeroValue hz, newRow, hqq]

theorem take_two {A B C : List Value} {n : Nat} (h : n = A.length + B.length) : (A ++ B ++ C).take n = A ++ B := by
  subst h
  rw [← List.length_append]
  exact List.take_left

theorem size_zeroCells (z : Array Value) (n : Nat) : (Builtin.zeroCells z n).size = n * z.size := by simp [Builtin.zeroCells]

/-- A block is forgotten. -/
theorem Rel.drop {P : Program} {pins : World} {ρ : Ren} {H : AW} {w : World} (h : Rel P pins ρ H w) (i : Nat) (hi : i < mostBlocks) : Rel P pins ρ (H.put i none) w := by
  have hget := fun j => AW.get_put H i j none hi
  refine ⟨h.dom, h.few, ?_, ?_, h.pin, h.zero, h.low, h.same⟩
  · intro j o r hg hj
    rw [hget] at hg
    split at hg
    · cases hg
    · exact h.obj j o r hg hj
  · intro j k s t hgj hgk hj hk hst
    rw [hget] at hgj hgk
    split at hgj
    · cases hgj
    · split at hgk
      · cases hgk
      · exact h.inj j k s t hgj hgk hj hk hst

/-- A block that is known under another number from now on, with other contents. -/
theorem Rel.reown {P : Program} {pins : World} {ρ : Ren} {H H1 : AW} {w w' : World} {i k : Nat} {o o' : AObj} {r : RI} (h : Rel P pins ρ H w) (hi : H.get i = some o) (hw : o.writes = true) (hr : ρ i = some r)
    (hn : (H.put i none).new o' = some (k, H1)) (obj : Obj) (s : RI) (hs : s.blk = r.blk) (hsz : w'.heap.size = w.heap.size) (hother : ∀ b, b ≠ r.blk → w'.heap[b]? = w.heap[b]?) (hsame : w'.heap[r.blk]? = some obj) (hsm : Same w w') (ho : ORel P ρ s o' (some obj)) :
    Rel P pins (ρ.add k s) H1 w' ∧ Ext H.next ρ (ρ.add k s) ∧ H.next ≤ H1.next := by
  have hlt : i < mostBlocks := Nat.lt_of_lt_of_le (h.dom i r hr) h.few
  have hget0 := fun j => AW.get_put H i j none hlt
  obtain ⟨hk, hnext, hfew, hget⟩ := AW.new_some hn
  have hn0 : (H.put i none).next = H.next := rfl
  rw [hn0] at hk hnext hfew
  subst hk
  have hpin : pins.heap[r.blk]? = none := (h.obj i o r hi hr).2 hw
  have hext : Ext H.next ρ (ρ.add H.next s) := fun j hj => by simp [Ren.add, Nat.ne_of_lt hj]
  have keep : ∀ j t, ρ j = some t → (ρ.add H.next s) j = some t := fun j t hj => by rw [hext j (h.dom j t hj)]; exact hj
  have hgetj : ∀ j, H1.get j = if j = H.next then some o' else if j = i then none else H.get j := by
    intro j
    rw [hget j, hn0]
    split
    · rfl
    · rw [hget0]
  refine ⟨⟨?_, ?_, ?_, ?_, ?_, ?_, ?_, h.same.trans hsm⟩, hext, by omega⟩
  · intro j t hj
    simp only [Ren.add] at hj
    split at hj
    · omega
    · have := h.dom j t hj; omega
  · omega
  · intro j oj t hg hj
    rw [hgetj] at hg
    simp only [Ren.add] at hj
    by_cases hjn : j = H.next
    · simp only [hjn, if_true] at hg hj
      cases hg; cases hj
      rw [hs]
      exact ⟨by rw [hsame]; exact ho.mono keep, fun _ => hpin⟩
    · simp only [hjn, if_false] at hg hj
      split at hg
      · cases hg
      · rename_i hji
        obtain ⟨h1, h2⟩ := h.obj j oj t hg hj
        have hne : t.blk ≠ r.blk := fun e => hji (h.inj j i t r (by simp [hg]) (by simp [hi]) hj hr e)
        exact ⟨by rw [hother _ hne]; exact h1.mono keep, h2⟩
  · intro j l s' t' hgj hgl hj hl hst
    rw [hgetj] at hgj hgl
    simp only [Ren.add] at hj hl
    have aux : ∀ j t', j ≠ H.next → (if j = i then none else H.get j).isSome = true → ρ j = some t' → t'.blk ≠ r.blk := by
      intro j t' _ hg hj he
      split at hg
      · cases hg
      · rename_i hji
        exact hji (h.inj j i t' r hg (by simp [hi]) hj hr he)
    by_cases hjn : j = H.next <;> by_cases hln : l = H.next
    · omega
    · simp only [hjn, hln, if_true, if_false] at hj hl hgl
      cases hj
      exact absurd (by rw [← hst, hs]) (aux l t' hln hgl hl)
    · simp only [hjn, hln, if_true, if_false] at hj hl hgj
      cases hl
      exact absurd (by rw [hst, hs]) (aux j s' hjn hgj hj)
    · simp only [hjn, hln, if_false] at hgj hgl hj hl
      split at hgj
      · cases hgj
      · split at hgl
        · cases hgl
        · exact h.inj j l s' t' hgj hgl hj hl hst
  · intro b x hb
    have hne : b ≠ r.blk := fun e => by rw [e, hpin] at hb; cases hb
    rw [hother b hne]
    exact h.pin b x hb
  · obtain ⟨t, ht, hz⟩ := h.zero
    exact ⟨t, keep 0 t ht, hz⟩
  · intro j t hj
    rw [hsz]
    simp only [Ren.add] at hj
    split at hj
    · cases hj; rw [hs]; exact h.low i r hr
    · exact h.low j t hj

theorem oneCells_rel {ρ : Ren} {l m : List Value} (h : LRel ρ l m) (ha : l.all Value.oneCell' = true) : ∀ v ∈ m, v.oneCell' = true := by
  induction h with
  | nil => intro v hv; cases hv
  | cons h _ ih =>
    intro v hv
    simp at ha
    cases hv with
    | head => rw [h.oneCell]; exact ha.1
    | tail _ hv => exact ih (by simpa using ha.2) v hv

/-- What an operation that gives a value did. -/
def Gave (P : Program) (pins : World) (ρ : Ren) (H : AW) (v : Value) (H1 : AW) (r : Result Value) : Prop :=
  ∃ v' w1 ρ1, r = .ok v' w1 ∧ Rel P pins ρ1 H1 w1 ∧ Ext H.next ρ ρ1 ∧ VRel ρ1 v v' ∧ H.next ≤ H1.next

theorem capB_slice {ρ : Ren} {i n : Nat} {r : RI} (h : ρ i = some r) : VRel ρ (.slice (some ⟨i, 0, none⟩) n (capB + n)) (.slice (some ⟨r.blk, 0, none⟩) n (n + r.slack)) := by
  have he : capExact (capB + n) = false := by simp only [capExact, bltD, decide_eq_false_iff_not]; omega
  obtain ⟨g1, g2, g3⟩ := capOf_inexact (s := r.slack) he
  have := VRel.slice i 0 n (capB + n) r h (by omega)
  rw [g1, g2, show capB + n - capB = n by omega] at this
  exact this

theorem elemsOf_length {H : AW} {m n : Nat} {x : Value} {new : List Value} (h : elemsOf H m n x = some new) : new.length = n * m := by
  unfold elemsOf at h
  split at h
  · rw [bleD, Bool.cond_decide] at h
    split at h
    · split at h
      · rw [bleD, Bool.cond_decide] at h
        split at h
        · cases h; simp; omega
        · cases h
      · cases h
    · cases h
  · rw [beqD, Bool.cond_decide] at h
    split at h
    · rename_i hn0; cases h; simp [hn0]
    · cases h
  · rw [beqD, beqD, Bool.cond_eq_ite] at h
    split at h
    · rename_i hc
      simp only [Bool.and_eq_true, decide_eq_true_eq] at hc
      cases h
      rw [hc.2, hc.1, Nat.mul_one, List.length_map]
      rfl
    · cases h
  · cases h

/-- In place: the block is known under another number from now on. -/
theorem append_place {P : Program} {pins : World} {ρ : Ren} {H H1 : AW} {w : World} (hr : Rel P pins ρ H w) {i k len n m : Nat} {e : TypeId} {cs new : List Value} {new' : Array Value} {r : RI} (hg : H.get i = some (.cells cs e false)) (hi : ρ i = some r)
    (hn : (H.put i none).new (.cells (cs ++ new) e false) = some (k, H1)) (hm : sizeT P e = m) (hlc : len * m = cs.length) (hnl : LRel ρ new new'.toList) (hnlen : new.length = n * m) (hone : new.all Value.oneCell' = true) (hroom : n ≤ r.slack) :
    ∃ w1, (storeCells ⟨r.blk, len * m, none⟩ new'.toList).run P w = .ok () w1 ∧ Rel P pins (ρ.add k ⟨r.blk, r.slack - n⟩) H1 w1 ∧ Ext H.next ρ (ρ.add k ⟨r.blk, r.slack - n⟩) ∧ H.next ≤ H1.next := by
  obtain ⟨⟨cc, hb', hsz, hcc⟩, _⟩ := hr.obj i _ r hg hi
  rw [hm] at hsz
  have hnn : new'.toList.length = n * m := by rw [← hnl.length, hnlen]
  have hnm : n * m ≤ r.slack * m := Nat.mul_le_mul_right _ hroom
  have hsub : (r.slack - n) * m = r.slack * m - n * m := Nat.sub_mul _ _ _
  obtain ⟨w1, hw1, hs1, hsm, hs2, cur1, hs3, hs4⟩ := run_storeCells_at (P := P) r.blk e (len * m) new'.toList 0 cc w hb' (by omega) (oneCells_rel hnl hone)
  have hlen1 : cur1.size = cc.size := by
    have := congrArg List.length hs4
    simp only [Array.length_toList, List.length_append, List.length_take, List.length_drop] at this hnn
    omega
  obtain ⟨k1, k2, k3⟩ := hr.reown hg rfl hi hn (.cells cur1 e (0, 0)) ⟨r.blk, r.slack - n⟩ rfl hs1 hs2 hs3 hsm
    ⟨cur1, rfl, by rw [hm, hlen1, List.length_append, hnlen, hsub]; omega, by
      rw [hs4, List.length_append, hnlen, Nat.add_zero, ← hlc]
      rw [List.take_append_of_le_length (by simp only [List.length_append, List.length_take, Array.length_toList, hnn]; omega), List.take_of_length_le (by simp only [List.length_append, List.length_take, Array.length_toList, hnn]; omega)]
      rw [← hlc] at hcc
      exact hcc.append hnl⟩
  exact ⟨w1, hw1, k1, k2, k3⟩

theorem aAppend_sound {P : Program} {pins : World} {ρ : Ren} {H H1 : AW} {w : World} (hr : Rel P pins ρ H w) {ats : Array TypeId} {t u ty : TypeId} (ht0 : ats[0]? = some t) (hu0 : ats[1]? = some u) {s s' x x' v : Value} (hs : VRel ρ s s') (hx : VRel ρ x x')
    (h : aAppend P H t u s x = some (v, H1)) : Gave P pins ρ H v H1 ((Builtin.append_ ats ty #[s', x']).run P w) := by
  unfold aAppend at h
  split at h
  · rename_i e base len c ht
    split at h
    · rename_i m by_ n z hm hb hlx hz
      rw [beqD, bleD, bleD, bleD, Bool.cond_eq_ite] at h
      split at h
      · rename_i hc
        simp only [Bool.and_eq_true, decide_eq_true_eq] at hc
        obtain ⟨⟨⟨⟨hu, hlz⟩, hby⟩, hsmall⟩, hb1⟩ := hc
        cases hnew : elemsOf H (m + 1) n x with
        | none => simp [hnew] at h
        | some new =>
          simp only [hnew] at h
          have hlen := lenV_sound (P := P) hx hlx w
          have hs' : ∃ base' c', s' = .slice base' len c' := by cases hs <;> exact ⟨_, _, rfl⟩
          obtain ⟨base', c', rfl⟩ := hs'
          obtain ⟨new', hrun, hnl⟩ := elemsOf_sound (P := P) hr hx hnew
          have hrd : Rel P pins ρ H w.drew := hr.drew
          obtain ⟨newd, hrund, hnld⟩ := elemsOf_sound (P := P) hrd hx hnew
          have hszT : sizeT P e = m + 1 := by simp [sizeT, hm]
          have hzsz : z.cells.size = m + 1 := by simpa [cellsOfV] using hlz
          unfold aAppendTo at h
          rw [bleD, Bool.cond_decide] at h
          split at h
          · rename_i hle
            split at h
            · rename_i i off
              split at h
              · rename_i H' hst
                cases h
                cases hs with
                | slice i off len c r hi hl =>
                  obtain ⟨w1, hw1, hrel, hnext⟩ := storeCellsAt_sound (P := P) hr hi hnl hst (off + len * (m + 1)) (Nat.le_refl _)
                  rw [Nat.sub_self] at hw1
                  refine ⟨_, w1, ρ, run_append_room (w1 := w1) (base := some ⟨r.blk, off, none⟩) ht0 hu0 ht hu hm hlen hrun (by unfold capOf; omega) ?_, hrel, .refl _ _, ?_, by omega⟩
                  · simp only [Addr.add_lit]; exact hw1
                  · exact .slice i off (len + n) c r hi hle
              · cases h
            · rw [beqD, Bool.cond_decide] at h
              split at h
              · rename_i hn0
                cases h
                cases hs
                have hl0 : capLow 0 = 0 := rfl
                refine ⟨_, w, ρ, run_append_room (w1 := w) (base := none) ht0 hu0 ht hu hm hlen hrun (by omega) rfl, hr, .refl _ _, ?_, Nat.le_refl _⟩
                rw [hn0]
                exact .nilslice
              · cases h
            · cases h
          · rename_i hgt
            split at h
            · -- a nil slice
              rw [beqD, Bool.cond_eq_ite] at h
              split at h
              · rename_i hc
                simp only [Bool.and_eq_true, decide_eq_true_eq] at hc
                unfold anew at h
                split at h
                · rename_i k H' hn
                  cases h
                  cases hs
                  have hl0 : capLow 0 = 0 := rfl
                  rw [hl0] at hgt
                  obtain ⟨q, hq⟩ := run_append_new (ty := ty) (base := none) (len := 0) (c := 0) (old := #[]) ht0 hu0 ht hu hm hb hz hlen hrund (by simp [Builtin.firstCells]) (by omega) hsmall hby
                  have hnl' := hnld.length
                  have hnsz : newd.size = new.length := by simpa using hnl'.symm
                  obtain ⟨g1, g2, g3⟩ := hr.alloc hn (.cells (#[] ++ newd ++ Builtin.zeroCells z.cells q) e (0, 0)) ⟨w.heap.size, q⟩ (w' := w.drew.alloc (.cells (#[] ++ newd ++ Builtin.zeroCells z.cells q) e)) rfl rfl ⟨rfl, rfl, rfl, by simp⟩
                    ⟨_, rfl, by simp [size_zeroCells, hzsz, hszT, hnsz], by
                      simp only [Array.toList_append, List.nil_append]
                      rw [List.take_append_of_le_length (by simp [hnsz]), List.take_of_length_le (by simp [hnsz])]
                      exact hnld⟩
                  have hv := capB_slice (n := n) (Ren.add_self ρ k ⟨w.heap.size, q⟩)
                  refine ⟨_, _, _, hq, g1, g2, ?_, g3⟩
                  simpa using hv
                · cases h
              · cases h
            · rename_i i off
              split at h
              · rename_i cs e' ro hg
                rw [bleD, Bool.cond_decide] at h
                split at h
                · rename_i hoff
                  cases hs with
                  | slice i off len c r hi hl =>
                    obtain ⟨⟨cc, hb', hsz, hcc⟩, _⟩ := hr.obj i _ r hg hi
                    have hold : (Builtin.firstCells (m + 1) len (.slice (some ⟨r.blk, off, none⟩) len (capOf c r.slack))).run P w.drew = .ok ((cc.toList.drop off).take (len * (m + 1))).toArray w.drew := by
                      simp only [Builtin.firstCells]
                      exact run_loadCells_at (w := w.drew) hb' (by omega)
                    have holdr : LRel ρ ((cs.drop off).take (len * (m + 1))) ((cc.toList.drop off).take (len * (m + 1))) := by
                      have := (hcc.drop off).take (len * (m + 1))
                      rw [take_take_drop hoff] at this
                      exact this
                    have hnsz : newd.size = new.length := by simpa using hnld.length.symm
                    have hosz : ((cs.drop off).take (len * (m + 1))).length = len * (m + 1) := by simp; omega
                    have hosz' : ((cc.toList.drop off).take (len * (m + 1))).length = len * (m + 1) := by rw [← holdr.length, hosz]
                    -- a block is made
                    have made : ∀ {H0 : AW} {k : Nat} {cnt : List Value}, Rel P pins ρ H0 w → H0.next = H.next → cnt = (cs.drop off).take (len * (m + 1)) ++ new → H0.new (.cells cnt e false) = some (k, H1) → capOf c r.slack < len + n →
                        v = .slice (some ⟨k, 0, none⟩) (len + n) (capB + (len + n)) → Gave P pins ρ H v H1 ((Builtin.append_ ats ty #[.slice (some ⟨r.blk, off, none⟩) len (capOf c r.slack), x']).run P w) := by
                      intro H0 k cnt hr0 hn0 hcnt hn hlt hv0
                      subst hv0
                      obtain ⟨q, hq⟩ := run_append_new (ty := ty) ht0 hu0 ht hu hm hb hz hlen hrund hold hlt hsmall hby
                      obtain ⟨g1, g2, g3⟩ := hr0.alloc hn (.cells (((cc.toList.drop off).take (len * (m + 1))).toArray ++ newd ++ Builtin.zeroCells z.cells q) e (0, 0)) ⟨w.heap.size, q⟩
                        (w' := w.drew.alloc (.cells (((cc.toList.drop off).take (len * (m + 1))).toArray ++ newd ++ Builtin.zeroCells z.cells q) e)) rfl rfl ⟨rfl, rfl, rfl, by simp⟩
                        ⟨_, rfl, by
                          rw [hcnt]
                          simp only [Array.size_append, List.size_toArray, hosz', hnsz, size_zeroCells, hzsz, hszT, List.length_append, hosz], by
                          rw [hcnt]
                          simp only [Array.toList_append, List.length_append, hosz]
                          rw [take_two (by rw [hosz']; simp [hnsz])]
                          exact holdr.append hnld⟩
                      rw [hn0] at g2 g3
                      exact ⟨_, _, _, hq, g1, g2, capB_slice (Ren.add_self ρ k ⟨w.heap.size, q⟩), g3⟩
                    cases hex : capExact c with
                    | true =>
                      simp only [hex, cond_true] at h
                      obtain ⟨g1, g2⟩ := capOf_exact (s := r.slack) hex
                      unfold anew at h
                      split at h
                      · rename_i k H' hn
                        cases h
                        exact made hr rfl rfl hn (by omega) rfl
                      · cases h
                    | false =>
                      simp only [hex, cond_false] at h
                      obtain ⟨g1, g2, g3⟩ := capOf_inexact (s := r.slack) hex
                      rw [beqD, beqD, beqD, beqD, Bool.cond_eq_ite] at h
                      split at h
                      · rename_i hc
                        simp only [Bool.and_eq_true, decide_eq_true_eq, Bool.not_eq_true'] at hc
                        obtain ⟨⟨⟨⟨⟨ho0, hee⟩, hro⟩, hlc⟩, hcl⟩, hone⟩ := hc
                        subst hee
                        subst ho0
                        subst hro
                        have hcs : (cs.drop 0).take (len * (m + 1)) = cs := by rw [List.drop_zero, hlc, List.take_length]
                        unfold anew at h
                        split at h
                        · rename_i k H' hn
                          cases h
                          have hlt : i < mostBlocks := Nat.lt_of_lt_of_le (hr.dom i r hi) hr.few
                          by_cases hroom : len + n ≤ capOf c r.slack
                          · -- in place
                            obtain ⟨w1, hw1, k1, k2, k3⟩ := append_place (n := n) hr hg hi hn hszT hlc hnl (elemsOf_length hnew) hone (by omega)
                            refine ⟨_, w1, _, run_append_room (w1 := w1) (base := some ⟨r.blk, 0, none⟩) ht0 hu0 ht hu hm hlen hrun hroom ?_, k1, k2, ?_, k3⟩
                            · simp only [Addr.add_lit, Nat.zero_add]; exact hw1
                            · have hv := capB_slice (n := len + n) (Ren.add_self ρ k ⟨r.blk, r.slack - n⟩)
                              have e : len + n + (r.slack - n) = capOf c r.slack := by omega
                              rw [e] at hv
                              exact hv
                          · have hr0 := hr.drop i hlt
                            exact made hr0 rfl (by rw [hcs]) hn (by omega) rfl
                        · cases h
                      · cases h
                · cases h
              · cases h
            · cases h
      · cases h
    · cases h
  · cases h

end Go.Up

/- The abstract interpreter is sound, part 1: how abstract values and memory stand for the model's. -/
import Derived.Test.YtcleopoapogcgaaGreatDoorUpAbs
namespace Go.Up

/-! ### The tree -/
theorem T.get_leaf {α : Type} (f n : Nat) : T.get f (T.leaf : T α) n = none := by cases f <;> rfl
theorem beqD (n m : Nat) : Nat.beq n m = decide (n = m) := by
  cases hb : Nat.beq n m with
  | false =>
    have h : ¬ n = m := fun e => by rw [e, Nat.beq_refl] at hb; cases hb
    simp [h]
  | true => simp [Nat.eq_of_beq_eq_true hb]
theorem bleD (n m : Nat) : Nat.ble n m = decide (n ≤ m) := by
  by_cases h : n ≤ m
  · simp [h, Nat.ble_eq_true_of_le h]
  · simp only [h, decide_false]
    cases hb : Nat.ble n m with
    | false => rfl
    | true => exact absurd (Nat.le_of_ble_eq_true hb) h
theorem bltD (n m : Nat) : Nat.blt n m = decide (n < m) := by unfold Nat.blt; rw [bleD]; rfl
theorem T.val_node {α : Type} (l r : T α) (v : Option α) : (T.node l v r).val = v := rfl
theorem T.left_node {α : Type} (l r : T α) (v : Option α) : (T.node l v r).left = l := rfl
theorem T.right_node {α : Type} (l r : T α) (v : Option α) : (T.node l v r).right = r := rfl
theorem T.get_eq {α : Type} (f : Nat) (t : T α) (n : Nat) :
    T.get (f + 1) t n = if n = 0 then t.val else if n % 2 = 1 then T.get f t.left (n / 2) else T.get f t.right (n / 2 - 1) := by
  cases t with
  | leaf =>
    have e1 : (T.leaf : T α).val = none := rfl
    have e2 : (T.leaf : T α).left = .leaf := rfl
    have e3 : (T.leaf : T α).right = .leaf := rfl
    rw [e1, e2, e3, T.get_leaf, T.get_leaf, T.get_leaf]
    simp
  | node l v r => simp only [T.get, beqD, Bool.cond_decide, T.val_node, T.left_node, T.right_node]
theorem T.set_eq {α : Type} (f : Nat) (t : T α) (n : Nat) (x : Option α) :
    T.set (f + 1) t n x = if n = 0 then .node t.left x t.right else if n % 2 = 1 then .node (T.set f t.left (n / 2) x) t.val t.right else .node t.left t.val (T.set f t.right (n / 2 - 1) x) := by
  simp only [T.set, beqD, Bool.cond_decide]

theorem T.get_set {α : Type} (f : Nat) : ∀ (t : T α) (n m : Nat) (x : Option α), n + 1 < 2 ^ f →
    T.get f (T.set f t n x) m = if m = n then x else T.get f t m := by
  induction f with
  | zero => intro t n m x h; simp at h
  | succ f ih =>
    intro t n m x h
    have hp : 2 ^ (f + 1) = 2 * 2 ^ f := by rw [Nat.pow_succ]; omega
    rw [T.get_eq, T.get_eq, T.set_eq]
    by_cases hn : n = 0
    · subst hn
      simp only [if_true, T.val_node, T.left_node, T.right_node]
      by_cases hm : m = 0
      · simp [hm]
      · simp [hm]
    · by_cases hn1 : n % 2 = 1
      · simp only [hn, hn1, if_true, if_false, T.val_node, T.left_node, T.right_node]
        by_cases hm : m = 0
        · subst hm; simp [Ne.symm hn]
        · by_cases hm1 : m % 2 = 1
          · simp only [hm, hm1, if_true, if_false]
            rw [ih t.left (n / 2) (m / 2) x (by omega)]
            by_cases hmn : m = n
            · simp [hmn]
            · rw [if_neg (by omega), if_neg hmn]
          · have hmn : m ≠ n := by intro h; subst h; exact hm1 hn1
            simp only [hm, hm1, hmn, if_false]
      · simp only [hn, hn1, if_false, T.val_node, T.left_node, T.right_node]
        by_cases hm : m = 0
        · subst hm; simp [Ne.symm hn]
        · by_cases hm1 : m % 2 = 1
          · have hmn : m ≠ n := by intro h; subst h; exact hn1 hm1
            simp only [hm, hm1, hmn, if_true, if_false]
          · simp only [hm, hm1, if_false]
            rw [ih t.right (n / 2 - 1) (m / 2 - 1) x (by omega)]
            by_cases hmn : m = n
            · simp [hmn]
            · rw [if_neg (by omega), if_neg hmn]

theorem AW.get_put (H : AW) (i j : Nat) (o : Option AObj) (h : i < mostBlocks) : (H.put i o).get j = if j = i then o else H.get j :=
  T.get_set deep H.objs i j o (by unfold mostBlocks at h; unfold deep; omega)
theorem AW.new_some {H H' : AW} {o : AObj} {i : Nat} (h : H.new o = some (i, H')) :
    i = H.next ∧ H'.next = H.next + 1 ∧ H.next < mostBlocks ∧ ∀ j, H'.get j = if j = H.next then some o else H.get j := by
  unfold AW.new at h
  rw [bltD, Bool.cond_decide] at h
  split at h
  · rename_i hlt
    simp only [Option.some.injEq, Prod.mk.injEq] at h
    obtain ⟨rfl, rfl⟩ := h
    refine ⟨rfl, rfl, hlt, fun j => ?_⟩
    exact T.get_set deep H.objs H.next j (some o) (by unfold mostBlocks at hlt; unfold deep; omega)
  · cases h

/-! ### Values -/
structure RI where
  blk : Nat
  slack : Nat
abbrev Ren := Nat → Option RI

def capOf (c s : Nat) : Nat := capLow c + bif capExact c then 0 else s

inductive VRel (ρ : Ren) : Value → Value → Prop
  | bool (b : Bool) : VRel ρ (.bool b) (.bool b)
  | int (k : IntKind) (n : Int) : VRel ρ (.int k n) (.int k n)
  | string (s : ByteArray) : VRel ρ (.string s) (.string s)
  | nilptr : VRel ρ (.pointer none) (.pointer none)
  | ptr (i off : Nat) (r : RI) (h : ρ i = some r) : VRel ρ (.pointer (some ⟨i, off, none⟩)) (.pointer (some ⟨r.blk, off, none⟩))
  | nilslice : VRel ρ (.slice none 0 0) (.slice none 0 0)
  | slice (i off len c : Nat) (r : RI) (h : ρ i = some r) (hl : len ≤ capLow c) :
      VRel ρ (.slice (some ⟨i, off, none⟩) len c) (.slice (some ⟨r.blk, off, none⟩) len (capOf c r.slack))
  | nilmap : VRel ρ (.map none) (.map none)
  | map (i : Nat) (r : RI) (h : ρ i = some r) : VRel ρ (.map (some i)) (.map (some r.blk))
  | nilFunc : VRel ρ .nilFunc .nilFunc
  | nilIface : VRel ρ .nilIface .nilIface
  | func (fn : Fn) (a b a' b' : Array Value) (ha : a.toList.length = a'.toList.length) (hb : b.toList.length = b'.toList.length)
      (ha2 : ∀ (i : Nat) (x y : Value), a.toList[i]? = some x → a'.toList[i]? = some y → VRel ρ x y) (hb2 : ∀ (i : Nat) (x y : Value), b.toList[i]? = some x → b'.toList[i]? = some y → VRel ρ x y) :
      VRel ρ (.func fn a b) (.func fn a' b')
  | iface (t : TypeId) (v v' : Value) (h : VRel ρ v v') : VRel ρ (.iface t v) (.iface t v')
  | agg (a a' : Array Value) (ha : a.toList.length = a'.toList.length) (ha2 : ∀ (i : Nat) (x y : Value), a.toList[i]? = some x → a'.toList[i]? = some y → VRel ρ x y) : VRel ρ (.agg a) (.agg a')
  | tuple (a a' : Array Value) (ha : a.toList.length = a'.toList.length) (ha2 : ∀ (i : Nat) (x y : Value), a.toList[i]? = some x → a'.toList[i]? = some y → VRel ρ x y) : VRel ρ (.tuple a) (.tuple a')

inductive LRel (ρ : Ren) : List Value → List Value → Prop
  | nil : LRel ρ [] []
  | cons {a b : Value} {l m : List Value} (h : VRel ρ a b) (t : LRel ρ l m) : LRel ρ (a :: l) (b :: m)

theorem LRel.of {ρ : Ren} : ∀ {l m : List Value}, l.length = m.length → (∀ (i : Nat) (x y : Value), l[i]? = some x → m[i]? = some y → VRel ρ x y) → LRel ρ l m
  | [], [], _, _ => .nil
  | a :: l, b :: m, hl, h => .cons (h 0 a b rfl rfl) (LRel.of (by simpa using hl) fun i x y hx hy => h (i + 1) x y (by simpa using hx) (by simpa using hy))
  | [], _ :: _, hl, _ => by simp at hl
  | _ :: _, [], hl, _ => by simp at hl
theorem LRel.length {ρ : Ren} {l m : List Value} (h : LRel ρ l m) : l.length = m.length := by
  induction h with
  | nil => rfl
  | cons _ _ ih => simp [ih]
theorem LRel.get {ρ : Ren} {l m : List Value} (h : LRel ρ l m) : ∀ (i : Nat) (x y : Value), l[i]? = some x → m[i]? = some y → VRel ρ x y := by
  induction h with
  | nil => intro i x y hx; simp at hx
  | cons h _ ih =>
    intro i x y hx hy
    cases i with
    | zero => simp at hx hy; subst hx; subst hy; exact h
    | succ i => exact ih i x y (by simpa using hx) (by simpa using hy)
theorem LRel.someAt {ρ : Ren} {l m : List Value} (h : LRel ρ l m) {i : Nat} {x : Value} (hx : l[i]? = some x) : ∃ y, m[i]? = some y ∧ VRel ρ x y := by
  have hi : i < m.length := by rw [← h.length]; exact (List.getElem?_eq_some_iff.1 hx).1
  exact ⟨m[i], List.getElem?_eq_getElem hi, h.get i x _ hx (List.getElem?_eq_getElem hi)⟩
theorem LRel.append {ρ : Ren} {l m l' m' : List Value} (h : LRel ρ l m) (h' : LRel ρ l' m') : LRel ρ (l ++ l') (m ++ m') := by
  induction h with
  | nil => exact h'
  | cons h _ ih => exact .cons h ih
theorem LRel.take {ρ : Ren} {l m : List Value} (h : LRel ρ l m) : ∀ n, LRel ρ (l.take n) (m.take n) := by
  induction h with
  | nil => intro n; simp; exact .nil
  | cons h _ ih => intro n; cases n with
    | zero => exact .nil
    | succ n => simpa using .cons h (ih n)
theorem LRel.drop {ρ : Ren} {l m : List Value} (h : LRel ρ l m) : ∀ n, LRel ρ (l.drop n) (m.drop n) := by
  induction h with
  | nil => intro n; simp; exact .nil
  | cons h t ih => intro n; cases n with
    | zero => exact .cons h t
    | succ n => simpa using ih n
theorem LRel.set {ρ : Ren} {l m : List Value} (h : LRel ρ l m) {x y : Value} (hxy : VRel ρ x y) : ∀ n, LRel ρ (l.set n x) (m.set n y) := by
  induction h with
  | nil => intro n; simp; exact .nil
  | cons h t ih => intro n; cases n with
    | zero => exact .cons hxy t
    | succ n => simpa using .cons h (ih n)
theorem LRel.snoc {ρ : Ren} {l m : List Value} (h : LRel ρ l m) {x y : Value} (hxy : VRel ρ x y) : LRel ρ (l ++ [x]) (m ++ [y]) := h.append (.cons hxy .nil)

theorem VRel.aggL {ρ : Ren} {a a' : Array Value} (h : LRel ρ a.toList a'.toList) : VRel ρ (.agg a) (.agg a') := .agg _ _ h.length h.get
theorem VRel.tupleL {ρ : Ren} {a a' : Array Value} (h : LRel ρ a.toList a'.toList) : VRel ρ (.tuple a) (.tuple a') := .tuple _ _ h.length h.get
theorem VRel.funcL {ρ : Ren} {fn : Fn} {a b a' b' : Array Value} (h : LRel ρ a.toList a'.toList) (g : LRel ρ b.toList b'.toList) : VRel ρ (.func fn a b) (.func fn a' b') := .func _ _ _ _ _ h.length g.length h.get g.get
theorem VRel.undef {ρ : Ren} : VRel ρ undef undef := .tupleL .nil

theorem VRel.mono {ρ ρ' : Ren} (hρ : ∀ i r, ρ i = some r → ρ' i = some r) {v v' : Value} (h : VRel ρ v v') : VRel ρ' v v' := by
  induction h with
  | bool b => exact .bool b
  | int k n => exact .int k n
  | string s => exact .string s
  | nilptr => exact .nilptr
  | ptr i off r h => exact .ptr i off r (hρ _ _ h)
  | nilslice => exact .nilslice
  | slice i off len c r h hl => exact .slice i off len c r (hρ _ _ h) hl
  | nilmap => exact .nilmap
  | map i r h => exact .map i r (hρ _ _ h)
  | nilFunc => exact .nilFunc
  | nilIface => exact .nilIface
  | func fn a b a' b' ha hb _ _ iha ihb => exact .func fn a b a' b' ha hb iha ihb
  | iface t v v' _ ih => exact .iface t v v' ih
  | agg a a' ha _ ih => exact .agg a a' ha ih
  | tuple a a' ha _ ih => exact .tuple a a' ha ih
theorem LRel.mono {ρ ρ' : Ren} (hρ : ∀ i r, ρ i = some r → ρ' i = some r) {l m : List Value} (h : LRel ρ l m) : LRel ρ' l m := by
  induction h with
  | nil => exact .nil
  | cons h _ ih => exact .cons (h.mono hρ) ih

theorem VRel.of_flat {ρ : Ren} {v : Value} (h : flat v = true) : VRel ρ v v := by
  unfold flat at h
  split at h <;> first | exact .bool _ | exact .int _ _ | exact .string _ | exact .nilptr | exact .nilmap | exact .nilFunc | exact .nilIface | exact .nilslice | simp at h
theorem LRel.of_flat {ρ : Ren} : ∀ {l : List Value}, l.all flat = true → LRel ρ l l
  | [], _ => .nil
  | a :: l, h => by simp at h; exact .cons (VRel.of_flat h.1) (LRel.of_flat (by simpa using h.2))
theorem VRel.of_pfree {ρ : Ren} {v : Value} (h : pfree v = true) : VRel ρ v v := by
  unfold pfree at h
  split at h
  · exact .aggL (LRel.of_flat h)
  · rename_i fn a b
    simp at h
    obtain ⟨ha, hb⟩ := h
    subst ha; subst hb
    exact .funcL .nil .nil
  · exact .tupleL (LRel.of_flat h)
  · exact .iface _ _ _ (VRel.of_flat h)
  · exact VRel.of_flat h
theorem flat_eq {ρ : Ren} {v v' : Value} (h : VRel ρ v v') (hf : flat v = true) : v' = v := by
  cases h <;> first | rfl | simp [flat] at hf
theorem flats_eq {ρ : Ren} {l m : List Value} (h : LRel ρ l m) (hf : l.all flat = true) : m = l := by
  induction h with
  | nil => rfl
  | cons h _ ih =>
    simp at hf
    rw [flat_eq h hf.1, ih (by simpa using hf.2)]
theorem pfree_eq {ρ : Ren} {v v' : Value} (h : VRel ρ v v') (hf : pfree v = true) : v' = v := by
  cases h with
  | func fn a b a' b' ha hb _ _ =>
    simp [pfree] at hf
    obtain ⟨h1, h2⟩ := hf
    subst h1; subst h2
    have e1 : a' = #[] := by simpa using ha.symm
    have e2 : b' = #[] := by simpa using hb.symm
    rw [e1, e2]
  | iface t v v' h => rw [flat_eq h (by simpa [pfree] using hf)]
  | agg a a' ha ha2 =>
    have := flats_eq (LRel.of ha ha2) (by simpa [pfree] using hf)
    rw [Array.ext' this]
  | tuple a a' ha ha2 =>
    have := flats_eq (LRel.of ha ha2) (by simpa [pfree] using hf)
    rw [Array.ext' this]
  | ptr => simp [pfree, flat] at hf
  | slice => simp [pfree, flat] at hf
  | map => simp [pfree, flat] at hf
  | _ => rfl
theorem LRel.of_pfree {ρ : Ren} : ∀ {l : List Value}, l.all pfree = true → LRel ρ l l
  | [], _ => .nil
  | a :: l, h => by simp at h; exact .cons (VRel.of_pfree h.1) (LRel.of_pfree (by simpa using h.2))
theorem pfrees_eq {ρ : Ren} {l m : List Value} (h : LRel ρ l m) (hf : l.all pfree = true) : m = l := by
  induction h with
  | nil => rfl
  | cons h _ ih =>
    simp at hf
    rw [pfree_eq h hf.1, ih (by simpa using hf.2)]

theorem VRel.cells {ρ : Ren} {v v' : Value} (h : VRel ρ v v') : LRel ρ (cellsOfV v) (cellsOfV v') := by
  cases h with
  | agg a a' ha ha2 => exact LRel.of ha ha2
  | func fn a b a' b' ha hb ha2 hb2 => exact .cons (.func _ _ _ _ _ ha hb ha2 hb2) .nil
  | iface t v v' h => exact .cons (.iface _ _ _ h) .nil
  | tuple a a' ha ha2 => exact .cons (.tuple _ _ ha ha2) .nil
  | ptr i off r h => exact .cons (.ptr i off r h) .nil
  | slice i off len c r h hl => exact .cons (.slice i off len c r h hl) .nil
  | map i r h => exact .cons (.map i r h) .nil
  | bool b => exact .cons (.bool b) .nil
  | int k n => exact .cons (.int k n) .nil
  | string s => exact .cons (.string s) .nil
  | nilptr => exact .cons .nilptr .nil
  | nilslice => exact .cons .nilslice .nil
  | nilmap => exact .cons .nilmap .nil
  | nilFunc => exact .cons .nilFunc .nil
  | nilIface => exact .cons .nilIface .nil

theorem VRel.oneCell {ρ : Ren} {v v' : Value} (h : VRel ρ v v') : v'.oneCell' = v.oneCell' := by
  cases h <;> rfl

/-! ### Memory -/
def sizeT (P : Program) (t : TypeId) : Nat := (cellsOfT P t).getD 0

def ORel (P : Program) (ρ : Ren) (r : RI) : AObj → Option Obj → Prop
  | .cells c e _, oo => ∃ c' : Array Value, oo = some (.cells c' e (0, 0)) ∧ c'.size = c.length + r.slack * sizeT P e ∧ LRel ρ c (c'.toList.take c.length)
  | .map es, oo => ∃ (es' : Array MapEntry) (clk : Nat), oo = some (.map es' clk) ∧ LRel ρ (es.map (·.1)) (es'.toList.map (·.key)) ∧ LRel ρ (es.map (·.2)) (es'.toList.map (·.val))

def AObj.writes : AObj → Bool
  | .cells _ _ ro => !ro
  | .map _ => true

/-- The streams and the tape are as they were; no block has gone. -/
structure Same (w w' : World) : Prop where
  os : w'.os = w.os
  tape : w'.tape = w.tape
  output : w'.output = w.output
  size : w.heap.size ≤ w'.heap.size
theorem Same.refl (w : World) : Same w w := ⟨rfl, rfl, rfl, Nat.le_refl _⟩
theorem Same.trans {a b c : World} (h : Same a b) (k : Same b c) : Same a c := ⟨k.os.trans h.os, k.tape.trans h.tape, k.output.trans h.output, Nat.le_trans h.size k.size⟩

structure Rel (P : Program) (pins : World) (ρ : Ren) (H : AW) (w : World) : Prop where
  dom : ∀ i r, ρ i = some r → i < H.next
  few : H.next ≤ mostBlocks
  obj : ∀ i o r, H.get i = some o → ρ i = some r → ORel P ρ r o w.heap[r.blk]? ∧ (o.writes = true → pins.heap[r.blk]? = none)
  inj : ∀ i j r s, (H.get i).isSome → (H.get j).isSome → ρ i = some r → ρ j = some s → r.blk = s.blk → i = j
  pin : ∀ (b : Nat) (o : Obj), pins.heap[b]? = some o → w.heap[b]? = some o
  zero : ∃ r, ρ 0 = some r ∧ r.blk = 0
  low : ∀ i r, ρ i = some r → r.blk < w.heap.size
  same : Same pins w

/-- What was known of the places stays. -/
def Ext (n : Nat) (ρ ρ' : Ren) : Prop := ∀ i, i < n → ρ' i = ρ i
theorem Ext.refl (n : Nat) (ρ : Ren) : Ext n ρ ρ := fun _ _ => rfl
theorem Ext.trans {n m : Nat} {ρ ρ' ρ'' : Ren} (h : Ext n ρ ρ') (h' : Ext m ρ' ρ'') (hn : n ≤ m) : Ext n ρ ρ'' := fun i hi => by
  rw [h' i (by omega), h i hi]
theorem Ext.keeps {P : Program} {pins : World} {ρ ρ' : Ren} {H : AW} {w : World} (hr : Rel P pins ρ H w) (h : Ext H.next ρ ρ') : ∀ i r, ρ i = some r → ρ' i = some r :=
  fun i r hi => by rw [h i (hr.dom i r hi)]; exact hi

/-- A draw changes nothing. -/
theorem Rel.heap {P : Program} {pins : World} {ρ : Ren} {H : AW} {w w' : World} (h : Rel P pins ρ H w) (e : w'.heap = w.heap) (hs : Same w w') : Rel P pins ρ H w' :=
  ⟨h.dom, h.few, by rw [e]; exact h.obj, h.inj, by rw [e]; exact h.pin, h.zero, by rw [e]; exact h.low, h.same.trans hs⟩
theorem Rel.drew {P : Program} {pins : World} {ρ : Ren} {H : AW} {w : World} (h : Rel P pins ρ H w) : Rel P pins ρ H w.drew := h.heap rfl ⟨rfl, rfl, rfl, Nat.le_refl _⟩

theorem ORel.mono {P : Program} {ρ ρ' : Ren} (hρ : ∀ i r, ρ i = some r → ρ' i = some r) {r : RI} {o : AObj} {oo : Option Obj} (h : ORel P ρ r o oo) : ORel P ρ' r o oo := by
  cases o with
  | cells c e ro => obtain ⟨c', h1, h2, h3⟩ := h; exact ⟨c', h1, h2, h3.mono hρ⟩
  | map es => obtain ⟨es', clk, h1, h2, h3⟩ := h; exact ⟨es', clk, h1, h2.mono hρ, h3.mono hρ⟩

def Ren.add (ρ : Ren) (i : Nat) (r : RI) : Ren := fun j => if j = i then some r else ρ j

/-- A block is made. -/
theorem Rel.alloc {P : Program} {pins : World} {ρ : Ren} {H H' : AW} {w w' : World} {i : Nat} {o : AObj} (h : Rel P pins ρ H w) (hn : H.new o = some (i, H'))
    (obj : Obj) (r : RI) (hb : r.blk = w.heap.size) (hw : w'.heap = w.heap.push obj) (hs : Same w w') (ho : ORel P ρ r o (some obj)) :
    Rel P pins (ρ.add i r) H' w' ∧ Ext H.next ρ (ρ.add i r) ∧ H.next ≤ H'.next := by
  obtain ⟨rfl, hnext, hfew, hget⟩ := AW.new_some hn
  have hne : ∀ j s, ρ j = some s → j ≠ H.next := fun j s hj => Nat.ne_of_lt (h.dom j s hj)
  have hext : Ext H.next ρ (ρ.add H.next r) := fun j hj => by simp [Ren.add, Nat.ne_of_lt hj]
  have keep : ∀ j s, ρ j = some s → (ρ.add H.next r) j = some s := fun j s hj => by rw [hext j (h.dom j s hj)]; exact hj
  refine ⟨⟨?_, ?_, ?_, ?_, ?_, ?_, ?_, h.same.trans hs⟩, hext, by omega⟩
  · intro j s hj
    simp only [Ren.add] at hj
    split at hj
    · omega
    · have := h.dom j s hj; omega
  · omega
  · intro j o' s hg hj
    rw [hget] at hg
    simp only [Ren.add] at hj
    by_cases hjn : j = H.next
    · simp only [hjn, if_true] at hg hj
      cases hg; cases hj
      refine ⟨?_, fun _ => ?_⟩
      · rw [hw, hb]; simpa using ho.mono keep
      · cases hp : pins.heap[r.blk]? with
        | none => rfl
        | some x =>
          have := h.pin _ _ hp
          rw [hb] at this
          simp at this
    · simp only [hjn, if_false] at hg hj
      obtain ⟨h1, h2⟩ := h.obj j o' s hg hj
      refine ⟨?_, h2⟩
      have hlow := h.low j s hj
      rw [hw, Array.getElem?_push]
      rw [if_neg (by omega)]
      exact h1.mono keep
  · intro j k s t hgj hgk hj hk hst
    rw [hget] at hgj hgk
    simp only [Ren.add] at hj hk
    by_cases hjn : j = H.next <;> by_cases hkn : k = H.next
    · omega
    · simp only [hjn, hkn, if_true, if_false] at hj hk
      cases hj
      have := h.low k t hk
      omega
    · simp only [hjn, hkn, if_true, if_false] at hj hk
      cases hk
      have := h.low j s hj
      omega
    · simp only [hjn, hkn, if_false] at hgj hgk hj hk
      exact h.inj j k s t hgj hgk hj hk hst
  · intro b x hb'
    have := h.pin b x hb'
    rw [hw, Array.getElem?_push]
    have hlt : b < w.heap.size := (Array.getElem?_eq_some_iff.1 this).1
    rw [if_neg (by omega)]
    exact this
  · obtain ⟨s, hs, hz⟩ := h.zero
    exact ⟨s, keep 0 s hs, hz⟩
  · intro j s hj
    rw [hw]; simp only [Array.size_push]
    simp only [Ren.add] at hj
    split at hj
    · cases hj; omega
    · have := h.low j s hj; omega

/-- A block's contents are others. -/
theorem Rel.write {P : Program} {pins : World} {ρ : Ren} {H : AW} {w w' : World} {i : Nat} {o o' : AObj} {r : RI} (h : Rel P pins ρ H w) (hi : H.get i = some o) (hw : o.writes = true)
    (hr : ρ i = some r) (obj : Obj) (hsz : w'.heap.size = w.heap.size) (hother : ∀ b, b ≠ r.blk → w'.heap[b]? = w.heap[b]?) (hsame : w'.heap[r.blk]? = some obj) (hs : Same w w') (ho : ORel P ρ r o' (some obj)) :
    Rel P pins ρ (H.put i (some o')) w' := by
  have hlt : i < mostBlocks := Nat.lt_of_lt_of_le (h.dom i r hr) h.few
  have hget := fun j => AW.get_put H i j (some o') hlt
  have hpin : pins.heap[r.blk]? = none := (h.obj i o r hi hr).2 hw
  refine ⟨h.dom, h.few, ?_, ?_, ?_, h.zero, ?_, h.same.trans hs⟩
  · intro j oj s hg hj
    rw [hget] at hg
    by_cases hji : j = i
    · simp only [hji, if_true] at hg
      cases hg
      rw [hji, hr] at hj
      cases hj
      exact ⟨by rw [hsame]; exact ho, fun _ => hpin⟩
    · simp only [hji, if_false] at hg
      obtain ⟨h1, h2⟩ := h.obj j oj s hg hj
      have hne : s.blk ≠ r.blk := fun e => hji (h.inj j i s r (by simp [hg]) (by simp [hi]) hj hr e)
      exact ⟨by rw [hother _ hne]; exact h1, h2⟩
  · intro j k s t hgj hgk hj hk hst
    rw [hget] at hgj hgk
    refine h.inj j k s t ?_ ?_ hj hk hst
    · by_cases hji : j = i
      · subst hji; simp [hi]
      · simpa [hji] using hgj
    · by_cases hki : k = i
      · subst hki; simp [hi]
      · simpa [hki] using hgk
  · intro b x hb
    have hne : b ≠ r.blk := fun e => by rw [e, hpin] at hb; cases hb
    rw [hother b hne]
    exact h.pin b x hb
  · intro j s hj; rw [hsz]; exact h.low j s hj

end Go.Up

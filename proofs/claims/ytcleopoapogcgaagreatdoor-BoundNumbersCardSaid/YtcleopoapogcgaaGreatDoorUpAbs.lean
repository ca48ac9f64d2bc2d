/- An abstract interpreter of the model's code that does not ask the tape (capacities of what append makes are hidden, a region that draws its order is run in one order under checks): its text alone. -/
import Derived.Orders
import Derived.Tactics
import Derived.Laws.Tables
import Derived.Laws.Append
import Derived.Laws.Pointers
import Derived.KernelRfl
namespace Go.Up

/-! ### A tree of places -/
inductive T (α : Type) where
  | leaf
  | node (l : T α) (v : Option α) (r : T α)

def T.left {α : Type} : T α → T α
  | .leaf => .leaf
  | .node l _ _ => l
def T.val {α : Type} : T α → Option α
  | .leaf => none
  | .node _ v _ => v
def T.right {α : Type} : T α → T α
  | .leaf => .leaf
  | .node _ _ r => r

def T.get {α : Type} : Nat → T α → Nat → Option α
  | 0, _, _ => none
  | f + 1, t, n =>
    match t with
    | .leaf => none
    | .node l v r => bif Nat.beq n 0 then v else bif Nat.beq (n % 2) 1 then T.get f l (n / 2) else T.get f r (n / 2 - 1)

def T.set {α : Type} : Nat → T α → Nat → Option α → T α
  | 0, t, _, _ => t
  | f + 1, t, n, x =>
    bif Nat.beq n 0 then .node t.left x t.right
    else bif Nat.beq (n % 2) 1 then .node (T.set f t.left (n / 2) x) t.val t.right
    else .node t.left t.val (T.set f t.right (n / 2 - 1) x)

/-- How deep the heap's tree goes, and how many blocks it may hold. -/
def deep : Nat := 20
def mostBlocks : Nat := 500000

/-! ### What is in memory -/
inductive AObj where
  | cells (c : List Value) (elem : TypeId) (ro : Bool)
  | map (es : List (Value × Value))

structure AW where
  next : Nat
  objs : T AObj

def AW.get (H : AW) (i : Nat) : Option AObj := T.get deep H.objs i
def AW.put (H : AW) (i : Nat) (o : Option AObj) : AW := { H with objs := T.set deep H.objs i o }
def AW.new (H : AW) (o : AObj) : Option (Nat × AW) :=
  bif Nat.blt H.next mostBlocks then some (H.next, { next := H.next + 1, objs := T.set deep H.objs H.next (some o) }) else none

abbrev Env := List Value

/-- 'List.set', in few steps. -/
def lset (l : List Value) (d : Nat) (v : Value) : List Value :=
  Nat.rec (motive := fun _ => List Value → List Value) (fun l => List.casesOn l [] fun _ t => v :: t) (fun _ ih l => List.casesOn l [] fun h t => h :: ih t) d l
/-- 'List.getD', in few steps. -/
def lget (l : List Value) (d : Nat) : Value :=
  Nat.rec (motive := fun _ => List Value → Value) (fun l => List.casesOn l undef fun h _ => h) (fun _ ih l => List.casesOn l undef fun _ t => ih t) d l
theorem lset_eq (l : List Value) (d : Nat) (v : Value) : lset l d v = List.set l d v := by
  induction d generalizing l with
  | zero => cases l <;> rfl
  | succ d ih =>
    cases l with
    | nil => rfl
    | cons h t =>
      show h :: lset t d v = _
      rw [ih]; rfl
theorem lget_eq (l : List Value) (d : Nat) : lget l d = l.getD d undef := by
  induction d generalizing l with
  | zero => cases l <;> rfl
  | succ d ih =>
    cases l with
    | nil => rfl
    | cons h t =>
      show lget t d = _
      rw [ih]; simp
def Env.at (a : Env) (t : Nat) : Value := lget a t
def Env.put (a : Env) (dst : Option Tmp) (v : Value) : Env :=
  match dst with
  | some d => lset a d v
  | none => a

/-- A capacity from here on says: at least so much, less this number. -/
def capB : Nat := 2 ^ 63
def capLow (c : Nat) : Nat := bif Nat.blt c capB then c else c - capB
def capExact (c : Nat) : Bool := Nat.blt c capB

/-! ### Values without pointers -/
def flat : Value → Bool
  | .bool _ | .int _ _ | .string _ | .pointer none | .map none | .nilFunc | .nilIface => true
  | .slice none 0 0 => true
  | _ => false
def pfree : Value → Bool
  | .agg cs => cs.toList.all flat
  | .func _ a b => a.toList.isEmpty && b.toList.isEmpty
  | .tuple vs => vs.toList.all flat
  | .iface _ v => flat v
  | v => flat v

def Env.eval (a : Env) : Operand → Option Value
  | .tmp t => some (Env.at a t)
  | .const v => bif pfree v then some v else none
  | .global g => bif Nat.beq g 0 then some (.pointer (some ⟨0, 0, none⟩)) else none
  | .func f => some (.func (.func f) #[] #[])
def Env.evals (a : Env) : List Operand → Option (List Value)
  | [] => some []
  | x :: xs => match a.eval x, Env.evals a xs with
    | some v, some vs => some (v :: vs)
    | _, _ => none
def Env.parts (a : Env) : List (Nat × Operand) → Option (List (Nat × Value))
  | [] => some []
  | (i, x) :: xs => match a.eval x, Env.parts a xs with
    | some v, some vs => some ((i, v) :: vs)
    | _, _ => none
/-- As the model evaluates it. -/
def Env.raw (a : Env) (x : Operand) : Value := (a.eval x).getD undef
def pfreeAt (a : Env) (x : Operand) : Bool := match a.eval x with
  | some v => pfree v
  | none => false

/-- What a computation that asks neither memory nor tape gives. -/
def pureRun {α : Type} (P : Program) : Sem α → Option α
  | .pure a => some a
  | .program k => pureRun P (k P)
  | .mark _ k => pureRun P k
  | _ => none

/-! ### Equality of values, checked -/
def veq : Value → Value → Bool
  | .bool a, .bool b => a == b
  | .int k a, .int l b => k == l && a == b
  | .string a, .string b => a.data == b.data
  | .pointer a, .pointer b => a == b
  | .slice a l c, .slice b m d => a == b && l == m && c == d
  | .map a, .map b => a == b
  | .nilFunc, .nilFunc => true
  | .nilIface, .nilIface => true
  | _, _ => false
def veqs : List Value → List Value → Bool
  | [], [] => true
  | a :: l, b :: m => veq a b && veqs l m
  | _, _ => false
def veqa : Value → Value → Bool
  | .agg a, .agg b => veqs a.toList b.toList
  | a, b => veq a b
def veqas : List Value → List Value → Bool
  | [], [] => true
  | a :: l, b :: m => veqa a b && veqas l m
  | _, _ => false
def veqv : Value → Value → Bool
  | .tuple a, .tuple b => veqas a.toList b.toList
  | .iface t v, .iface u w => t == u && veqa v w
  | .func (.func f) a b, .func (.func g) c d => f == g && veqs a.toList c.toList && veqs b.toList d.toList
  | a, b => veqa a b

/-! ### Types -/
def cellsOfT (P : Program) (t : TypeId) : Option Nat := (P.info? t).map (·.size)
def bytesOfT (P : Program) (t : TypeId) : Option Nat := (P.info? t).map (·.bytes)
def zeroOfT (P : Program) (t : TypeId) : Option Value := (P.info? t).bind (·.zero)
def aggT (P : Program) (t : TypeId) : Option Bool := (P.underlying t).map fun | .struct _ | .array _ _ => true | _ => false

def loadAt (P : Program) (H : AW) (t : TypeId) (i off : Nat) : Option Value :=
  match H.get i with
  | some (.cells c _ _) =>
    match aggT P t with
    | some true =>
      match cellsOfT P t with
      | some n => bif Nat.ble (off + n) c.length then some (.agg ((c.drop off).take n).toArray) else none
      | none => none
    | some false => c[off]?
    | none => none
  | _ => none

def spliceAt (c : List Value) (off : Nat) (vs : List Value) : List Value := c.take off ++ vs ++ c.drop (off + vs.length)

/-- The cells 'vs' are stored from a place on. -/
def storeCellsAt (H : AW) (i off : Nat) (vs : List Value) : Option AW :=
  match H.get i with
  | some (.cells c e false) => bif Nat.ble (off + vs.length) c.length && vs.all Value.oneCell' then some (H.put i (some (.cells (spliceAt c off vs) e false))) else none
  | _ => none

def cellsOfV (v : Value) : List Value := v.cells.toList

def storeAt (P : Program) (H : AW) (t : TypeId) (i off : Nat) (v : Value) : Option AW :=
  match cellsOfT P t with
  | some n => bif Nat.beq (cellsOfV v).length n then storeCellsAt H i off (cellsOfV v) else none
  | none => none

/-- Part of an aggregate. -/
def partOf (P : Program) (t : TypeId) (cs : List Value) (off : Nat) : Option Value :=
  match aggT P t with
  | some true => match cellsOfT P t with
    | some n => bif Nat.ble (off + n) cs.length then some (.agg ((cs.drop off).take n).toArray) else none
    | none => none
  | some false => cs[off]?
  | none => none

def zerosOf (z : List Value) : Nat → List Value
  | 0 => []
  | n + 1 => z ++ zerosOf z n

def intOf? : Value → Option Int
  | .int _ n => some n
  | _ => none

/-- Keys are compared. -/
def keq (P : Program) (kt : TypeId) (a b : Value) : Option Bool := bif pfree a && pfree b then pureRun P (Op.equal kt a b) else none
def findA (P : Program) (kt : TypeId) (k : Value) : List (Value × Value) → Nat → Option (Option (Nat × Value))
  | [], _ => some none
  | (x, v) :: es, i =>
    match keq P kt k x with
    | some true => some (some (i, v))
    | some false => findA P kt k es (i + 1)
    | none => none
/-- May it be a key? (It is compared as a struct or an array, or it is an int, a string, a bool.) -/
def keyOk (P : Program) (empty : Bool) (kt : TypeId) (k : Value) : Bool := pfree k && (pureRun P (Instr.checkKey empty 10000 kt k)).isSome

def mapOf (H : AW) : Value → Option (List (Value × Value))
  | .map none => some []
  | .map (some i) => match H.get i with
    | some (.map es) => some es
    | _ => none
  | _ => none

def shiftBy (base : Option Addr) (n : Nat) : Option Addr := base.map fun a => { a with off := a.off + n }

/-- 'x[l:h:m]' of a slice. -/
def cutSlice (base : Option Addr) (c size l h : Nat) (m : Option Nat) : Option Value :=
  bif Nat.ble l h then
    match m with
    | some m => bif Nat.ble h m && Nat.ble m (capLow c) && capExact (m - l) then some (.slice (bif Nat.beq m l then base else shiftBy base (l * size)) (h - l) (m - l)) else none
    | none =>
      bif Nat.ble h (capLow c) then
        bif capExact c then some (.slice (bif Nat.beq c l then base else shiftBy base (l * size)) (h - l) (c - l))
        else bif Nat.beq l 0 then some (.slice base h c)
        else bif Nat.blt l (capLow c) then some (.slice (shiftBy base (l * size)) (h - l) (c - l))
        else none
      else none
  else none

def natOf? : Value → Option Nat
  | .int _ (.ofNat n) => some n
  | _ => none
def boundOf (a : Env) (x : Option Operand) (d : Nat) : Option Nat :=
  match x with
  | some o => (a.eval o).bind natOf?
  | none => some d

/-- Elements of a slice, or bytes of a string. -/
def elemsOf (H : AW) (size n : Nat) : Value → Option (List Value)
  | .slice (some ⟨i, off, none⟩) len _ => bif Nat.ble n len then
      match H.get i with
      | some (.cells c _ _) => bif Nat.ble (off + n * size) c.length then some ((c.drop off).take (n * size)) else none
      | _ => none
    else none
  | .slice none _ _ => bif Nat.beq n 0 then some [] else none
  | .string s => bif Nat.beq n s.size && Nat.beq size 1 then some (s.data.toList.map fun b => .int .u8 b.toNat) else none
  | _ => none
def lenV : Value → Option Nat
  | .slice _ n _ => some n
  | .string s => some s.size
  | _ => none

/-- What hangs on values without pointers alone. -/
def pureOf (P : Program) (o : Oper) (a : Env) : Option Value :=
  bif o.op.operands.toList.all (pfreeAt a) then
    match pureRun P (execOp a.raw o) with
    | some (.value v) => bif pfree v then some v else none
    | _ => none
  else none

/-- '==' of two values one of which is a pointer, or of nil. -/
def ptrEq (P : Program) (H : AW) (t : TypeId) (x y : Value) : Option Bool :=
  match P.underlying t, x, y with
  | some (.pointer _), .pointer none, .pointer b => some b.isNone
  | some (.pointer _), .pointer (some _), .pointer none => some false
  | some (.pointer e), .pointer (some a), .pointer (some b) =>
    match cellsOfT P e, H.get a.block, H.get b.block with
    | some (_ + 1), some (.cells _ _ _), some (.cells _ _ _) => some (Nat.beq a.block b.block && Nat.beq a.off b.off)
    | _, _, _ => none
  | some (.slice _), .slice none _ _, .slice b _ _ => some b.isNone
  | some (.slice _), .slice (some _) _ _, .slice none _ _ => some false
  | some (.map _ _), .map none, .map b => some b.isNone
  | some (.map _ _), .map (some _), .map none => some false
  | some (.interface _), .nilIface, .iface _ _ => some false
  | some (.interface _), .iface _ _, .nilIface => some false
  | some (.func _ _ _), .func _ _ _, .nilFunc => some false
  | some (.func _ _ _), .nilFunc, .func _ _ _ => some false
  | _, _, _ => none

/-! ### The operations, but for calls -/
def aAlloc (P : Program) (H : AW) (t : TypeId) : Option (Value × AW) :=
  match zeroOfT P t with
  | some z => bif (cellsOfV z).all pfree then match H.new (.cells (cellsOfV z) t false) with
    | some (i, H) => some (.pointer (some ⟨i, 0, none⟩), H)
    | none => none
    else none
  | none => none
def aBox (H : AW) (t : TypeId) (v : Value) : Option (Value × AW) :=
  match H.new (.cells (cellsOfV v) t false) with
  | some (i, H) => some (.pointer (some ⟨i, 0, none⟩), H)
  | none => none
def aLoad (P : Program) (H : AW) (t : TypeId) : Value → Option Value
  | .pointer (some ⟨i, off, none⟩) => loadAt P H t i off
  | _ => none
def aStore (P : Program) (H : AW) (t : TypeId) (p v : Value) : Option AW :=
  match p with
  | .pointer (some ⟨i, off, none⟩) => storeAt P H t i off v
  | _ => none
def aFieldAddr (P : Program) (s : TypeId) (f : Nat) (p : Value) : Option Value :=
  match P.underlying s, p with
  | some (.struct fs), .pointer (some ⟨i, off, none⟩) => match fs[f]? with
    | some fd => match cellsOfT P fd.type with
      | some (_ + 1) => some (.pointer (some ⟨i, off + fd.offset, none⟩))
      | _ => none
    | none => none
  | _, _ => none
def aField (P : Program) (s : TypeId) (f : Nat) (v : Value) : Option Value :=
  match P.underlying s, v with
  | some (.struct fs), .agg cs => match fs[f]? with
    | some fd => partOf P fd.type cs.toList fd.offset
    | none => none
  | _, _ => none
def aIndexAddr (P : Program) (t : TypeId) (x ix : Value) : Option Value :=
  match natOf? ix, P.underlying t, x with
  | some i, some (.slice e), .slice (some ⟨b, off, none⟩) len _ => match cellsOfT P e with
    | some n => bif Nat.blt i len then some (.pointer (some ⟨b, off + i * n, none⟩)) else none
    | none => none
  | some i, some (.array len e), .pointer (some ⟨b, off, none⟩) => match cellsOfT P e with
    | some n => bif Nat.blt i len then some (.pointer (some ⟨b, off + i * n, none⟩)) else none
    | none => none
  | _, _, _ => none
def aIndex (P : Program) (t : TypeId) (x ix : Value) : Option Value :=
  match natOf? ix, P.underlying t, x with
  | some i, some (.array len e), .agg cs => match cellsOfT P e with
    | some n => bif Nat.blt i len then partOf P e cs.toList (i * n) else none
    | none => none
  | _, _, _ => none
def aBuildSlice (P : Program) (H : AW) (t : TypeId) (len : Nat) (ps : List (Nat × Value)) : Option (Value × AW) :=
  match P.underlying t with
  | some (.slice e) => match cellsOfT P e, zeroOfT P e with
    | some (n + 1), some z => bif Nat.ble (len * (n + 1)) 10000 && Nat.beq (cellsOfV z).length (n + 1) && (cellsOfV z).all pfree then
        match Instr.fill (fun i => some (i * (n + 1), n + 1)) (zerosOf (cellsOfV z) len).toArray ps with
        | some cs => match H.new (.cells cs.toList e false) with
          | some (i, H) => some (.slice (some ⟨i, 0, none⟩) len len, H)
          | none => none
        | none => none
      else none
    | _, _ => none
  | _ => none
def aMakeSlice (P : Program) (H : AW) (t : TypeId) (l c : Value) : Option (Value × AW) :=
  match P.underlying t, natOf? l, natOf? c with
  | some (.slice e), some l, some c => match cellsOfT P e, zeroOfT P e, bytesOfT P e with
    | some (n + 1), some z, some b => bif Nat.ble l c && Nat.ble (c * (n + 1 + b)) 10000000 && Nat.ble c 10000000 && Nat.beq (cellsOfV z).length (n + 1) && (cellsOfV z).all pfree then
        match H.new (.cells (zerosOf (cellsOfV z) c) e false) with
        | some (i, H) => some (.slice (some ⟨i, 0, none⟩) l c, H)
        | none => none
      else none
    | _, _, _ => none
  | _, _, _ => none
def aMakeMap (P : Program) (H : AW) (t : TypeId) (r : Option Value) : Option (Value × AW) :=
  match P.underlying t, r.all fun v => (intOf? v).isSome with
  | some (.map _ _), true => match H.new (.map []) with
    | some (i, H) => some (.map (some i), H)
    | none => none
  | _, _ => none
def maxOf (a : Env) (mx : Option Operand) : Option (Option Nat) := mx.map fun m => (a.eval m).bind natOf?
def aSlice (P : Program) (t : TypeId) (x : Value) (a : Env) (lo hi mx : Option Operand) : Option Value :=
  match P.underlying t, x with
  | some (.slice e), .slice base len c => match cellsOfT P e, boundOf a lo 0, boundOf a hi len, maxOf a mx with
    | some n, some l, some h, none => cutSlice base c n l h none
    | some n, some l, some h, some (some m) => bif hi.isSome then cutSlice base c n l h (some m) else none
    | _, _, _, _ => none
  | some (.array k e), .pointer (some p) => match cellsOfT P e, boundOf a lo 0, boundOf a hi k, maxOf a mx with
    | some n, some l, some h, none => bif capExact k then cutSlice (some p) k n l h none else none
    | _, _, _, _ => none
  | _, _ => none
def aLookup (P : Program) (H : AW) (t : TypeId) (x ix : Value) (ok : Bool) : Option Value :=
  match P.underlying t, mapOf H x with
  | some (.map kt et), some es =>
    bif keyOk P es.isEmpty kt ix then
      match findA P kt ix es 0 with
      | some (some (_, v)) => some (bif ok then .tuple #[v, .bool true] else v)
      | some none => match zeroOfT P et with
        | some z => bif pfree z then some (bif ok then .tuple #[z, .bool false] else z) else none
        | none => none
      | none => none
    else none
  | _, _ => none
def aMapUpdate (P : Program) (H : AW) (t : TypeId) (m k x : Value) : Option AW :=
  match P.underlying t, m with
  | some (.map kt _), .map (some i) => match H.get i with
    | some (.map es) =>
      bif keyOk P false kt k then
        match findA P kt k es 0 with
        | some none => some (H.put i (some (.map (es ++ [(k, x)]))))
        | _ => none
      else none
    | _ => none
  | _, _ => none

def pairUp {α : Type} (H : AW) (v : Option α) : Option (α × AW) :=
  match v with
  | some v => some (v, H)
  | none => none
def idle (H : Option AW) : Option (Value × AW) :=
  match H with
  | some H => some (undef, H)
  | none => none

def aop (P : Program) (o : Oper) (a : Env) (H : AW) : Option (Value × AW) :=
  match o.op with
  | .move x | .assign x => pairUp H (a.eval x)
  | .pick c x y => match a.eval c with
    | some (.bool b) => pairUp H (a.eval (bif b then x else y))
    | _ => none
  | .extract t i => match a.eval t with
    | some (.tuple vs) => pairUp H (vs.toList[i]?)
    | _ => none
  | .nilCheck x => match a.eval x with
    | some (.pointer (some p)) => some (.pointer (some p), H)
    | _ => none
  | .alloc t => aAlloc P H t
  | .box t x => match a.eval x with
    | some v => aBox H t v
    | none => none
  | .load t x => match a.eval x with
    | some p => pairUp H (aLoad P H t p)
    | none => none
  | .store t x v => match a.eval x, a.eval v with
    | some p, some v => idle (aStore P H t p v)
    | _, _ => none
  | .fieldAddr s x f => match a.eval x with
    | some p => pairUp H (aFieldAddr P s f p)
    | none => none
  | .field s x f => match a.eval x with
    | some v => pairUp H (aField P s f v)
    | none => none
  | .indexAddr t x ix => match a.eval x, a.eval ix with
    | some x, some ix => pairUp H (aIndexAddr P t x ix)
    | _, _ => none
  | .build t ps => match Env.parts a ps.toList, zeroOfT P t with
    | some ps, some z => bif (cellsOfV z).all pfree then
        match P.built t ps with
        | some cs => some (.agg cs, H)
        | none => none
      else none
    | _, _ => none
  | .buildSlice t len ps => match Env.parts a ps.toList with
    | some ps => aBuildSlice P H t len ps
    | none => none
  | .makeSlice t l c => match a.eval l, a.eval c with
    | some l, some c => aMakeSlice P H t l c
    | _, _ => none
  | .makeMap t r => match r with
    | none => aMakeMap P H t none
    | some x => match a.eval x with
      | some v => aMakeMap P H t (some v)
      | none => none
  | .makeInterface t x => match P.underlying t, a.eval x with
    | some (.interface _), _ => none
    | some _, some v => some (.iface t v, H)
    | _, _ => none
  | .makeFunc fn first cap => match Env.evals a first.toList, Env.evals a cap.toList with
    | some f, some c => some (.func fn f.toArray c.toArray, H)
    | _, _ => none
  | .slice t x lo hi mx => match pureOf P o a with
    | some v => some (v, H)
    | none => match a.eval x with
      | some x => pairUp H (aSlice P t x a lo hi mx)
      | none => none
  | .lookup t x ix ok => match a.eval x, a.eval ix with
    | some x, some ix => pairUp H (aLookup P H t x ix ok)
    | _, _ => none
  | .mapUpdate t m k x | .insert t m k x => match a.eval m, a.eval k, a.eval x with
    | some m, some k, some x => idle (aMapUpdate P H t m k x)
    | _, _, _ => none
  | .binOp op t x y _ => match pureOf P o a with
    | some v => some (v, H)
    | none => match op, a.eval x, a.eval y with
      | .eql, some x, some y => match ptrEq P H t x y with
        | some b => some (.bool b, H)
        | none => none
      | .neq, some x, some y => match ptrEq P H t x y with
        | some b => some (.bool (!b), H)
        | none => none
      | _, _, _ => none
  | .unOp _ _ _ => pairUp H (pureOf P o a)
  | .convert _ _ _ => pairUp H (pureOf P o a)
  | .index t x ix => match pureOf P o a with
    | some v => some (v, H)
    | none => match a.eval x, a.eval ix with
      | some x, some ix => pairUp H (aIndex P t x ix)
      | _, _ => none
  | _ => none

/-! ### Builtins -/
def aLen (P : Program) (H : AW) (t : TypeId) (x : Value) : Option Value :=
  match P.underlying t, x with
  | some .string, .string s => some (goInt s.size)
  | some (.array n _), _ => some (goInt n)
  | some (.slice _), .slice _ n _ => some (goInt n)
  | some (.map _ _), .map none => some (goInt 0)
  | some (.map _ _), .map (some i) => match H.get i with
    | some (.map es) => some (goInt es.length)
    | _ => none
  | _, _ => none

def anew (H : AW) (o : AObj) (f : Nat → Value) : Option (Value × AW) :=
  match H.new o with
  | some (i, H) => some (f i, H)
  | none => none

/-- 'append', the slice's elements of 'm' cells, 'n' of them ('new') to be appended. -/
def aAppendTo (H : AW) (e : TypeId) (m len c n : Nat) (new : List Value) (s : Value) (base : Option Addr) : Option (Value × AW) :=
  bif Nat.ble (len + n) (capLow c) then
    match base with
    | some ⟨i, off, none⟩ => match storeCellsAt H i (off + len * m) new with
      | some H => some (.slice base (len + n) c, H)
      | none => none
    | none => bif Nat.beq n 0 then some (s, H) else none
    | _ => none
  else
    match base with
    | none => bif Nat.beq len 0 && capExact c then anew H (.cells new e false) fun i => .slice (some ⟨i, 0, none⟩) n (capB + n) else none
    | some ⟨i, off, none⟩ => match H.get i with
      | some (.cells old e' ro) =>
        bif Nat.ble (off + len * m) old.length then
          bif capExact c then anew H (.cells ((old.drop off).take (len * m) ++ new) e false) fun i => .slice (some ⟨i, 0, none⟩) (len + n) (capB + (len + n))
          else bif Nat.beq off 0 && Nat.beq e e' && !ro && Nat.beq (len * m) old.length && Nat.beq (capLow c) len && new.all Value.oneCell' then
            anew (H.put i none) (.cells (old ++ new) e false) fun i => .slice (some ⟨i, 0, none⟩) (len + n) (capB + (len + n))
          else none
        else none
      | _ => none
    | _ => none

def sliceOrString (P : Program) (u : TypeId) : Bool := match P.underlying u with
  | some (.slice _) | some .string => true
  | _ => false

def aAppend (P : Program) (H : AW) (t u : TypeId) (s x : Value) : Option (Value × AW) :=
  match P.underlying t, s with
  | some (.slice e), .slice base len c => match cellsOfT P e, bytesOfT P e, lenV x, zeroOfT P e with
    | some (m + 1), some by_, some n, some z =>
      bif sliceOrString P u && Nat.beq (cellsOfV z).length (m + 1) && Nat.ble ((len + n) * by_) 10000000 && Nat.ble (len + n) 10000000 && Nat.ble by_ 10000 then
        match elemsOf H (m + 1) n x with
        | some new => aAppendTo H e (m + 1) len c n new s base
        | none => none
      else none
    | _, _, _, _ => none
  | _, _ => none

def aCopy (P : Program) (H : AW) (t : TypeId) (d x : Value) : Option (Value × AW) :=
  match P.underlying t, d, lenV x with
  | some (.slice e), .slice base dlen _, some xl => match cellsOfT P e with
    | some m => match elemsOf H m (Nat.min xl dlen) x with
      | some new => match base with
        | some ⟨i, off, none⟩ => match storeCellsAt H i off new with
          | some H => some (goInt (Nat.min xl dlen), H)
          | none => none
        | none => bif Nat.beq new.length 0 then some (goInt (Nat.min xl dlen), H) else none
        | _ => none
      | none => none
    | none => none
  | _, _, _ => none

def abuiltin (P : Program) (b : Builtin) (ty : TypeId) (argTypes : Array TypeId) (args : List Value) (H : AW) : Option (Value × AW) :=
  match b, args, argTypes.toList with
  | .len, [x], t :: _ => pairUp H (aLen P H t x)
  | .cap, [.slice _ _ c], t :: _ => match P.underlying t with
    | some (.slice _) => bif capExact c then some (goInt c, H) else none
    | _ => none
  | .max, _, _ | .min, _, _ =>
    bif args.all pfree then
      match pureRun P (builtin b argTypes ty #[] args.toArray) with
      | some (.value v) => bif pfree v then some (v, H) else none
      | _ => none
    else none
  | .append, [s, x], t :: u :: _ => aAppend P H t u s x
  | .copy, [d, x], t :: _ => aCopy P H t d x
  | _, _, _ => none

/-! ### Control -/
inductive AExit where
  | normal | exit (id : Nat) | ret

abbrev KV := Value → AW → Bool
abbrev KK := AExit → Env → AW → Bool

def wantedA (ops : List Oper) (o : Oper) (a : Env) : Bool :=
  match o.guard with
  | none => true
  | some (j, want) => match (ops[j]?).bind (·.dst) with
    | some d => match a[d]? with
      | some (.bool b) => b == want
      | _ => false
    | none => false

def goodF (P : Program) (g : FuncId) : Option Func :=
  match P.funcs[g]? with
  | some fn => bif fn.body.isSome && fn.name != "runtime.NumGoroutine" then some fn else none
  | none => none

def resultA (P : Program) (a : Env) (H : AW) : ResultVar → Option Value
  | .tmp t => some (Env.at a t)
  | .cell t ty => match Env.at a t with
    | .pointer (some ⟨i, off, none⟩) => loadAt P H ty i off
    | _ => none
def resultsA (P : Program) (a : Env) (H : AW) : List ResultVar → Option (List Value)
  | [] => some []
  | r :: rs => match resultA P a H r, resultsA P a H rs with
    | some v, some vs => some (v :: vs)
    | _, _ => none

abbrev IH := Code → Env → AW → KK → Bool

/-- A function is entered. -/
def enterA (P : Program) (ih : IH) (g : FuncId) (args : List Value) (H : AW) (k : KV) : Bool :=
  match goodF P g with
  | none => false
  | some fn => match fn.body with
    | none => false
    | some c => ih c (args ++ List.replicate (fn.ntmps - args.length) undef) H fun e a H =>
      match e with
      | .exit _ => false
      | _ => match resultsA P a H fn.results.toList with
        | some [v] => k v H
        | some vs => k (.tuple vs.toArray) H
        | none => false

def callA (P : Program) (ih : IH) (c : Call) (ty : TypeId) (a : Env) (H : AW) (k : KV) : Bool :=
  match c.callee with
  | .builtin b => match Env.evals a c.args.toList with
    | some args => match abuiltin P b ty c.argTypes args H with
      | some (v, H) => k v H
      | none => false
    | none => false
  | .value f => match a.eval f, Env.evals a c.args.toList with
    | some (.func (.func g) first cap), some args => enterA P ih g (first.toList ++ args ++ cap.toList) H k
    | _, _ => false
  | .invoke r name => match a.eval r, Env.evals a c.args.toList with
    | some (.iface t (.pointer (some p))), some args => match P.info? t with
      | some i => match i.methods.find? (·.name == name) with
        | some m => match m.path.toList, m.func, P.underlying t with
          | [], some (g, true), some (.pointer _) => enterA P ih g (.pointer (some p) :: args) H k
          | _, _, _ => false
        | none => false
      | none => false
    | _, _ => false

def operA (P : Program) (ih : IH) (o : Oper) (a : Env) (H : AW) (k : KV) : Bool :=
  match o.op with
  | .call c => callA P ih c o.type a H k
  | _ => match aop P o a H with
    | some (v, H) => k v H
    | none => false

def opsA (P : Program) (ih : IH) (ops : List Oper) : List Oper → Env → AW → KK → Bool
  | [], a, H, k => k .normal a H
  | o :: rest, a, H, k =>
    bif wantedA ops o a then operA P ih o a H fun v H => opsA P ih ops rest (a.put o.dst v) H k
    else opsA P ih ops rest (a.put o.dst undef) H k

/-! ### A region that draws its order -/
/-- May it be done at once, whenever it is really done? (It only computes, or reads.) -/
def floats : Op → Bool
  | .move _ | .pick .. | .extract .. | .nilCheck _ | .load .. | .fieldAddr .. | .field .. | .indexAddr .. | .index .. | .build .. | .binOp .. | .unOp .. | .convert .. | .makeInterface .. | .makeFunc .. | .slice .. | .lookup .. => true
  | .call c => match c.callee with
    | .builtin .len | .builtin .cap | .builtin .max | .builtin .min => true
    | _ => false
  | _ => false
/-- It makes a block, whose contents are not looked at here. -/
def allocs : Op → Bool
  | .alloc _ => true
  | _ => false

def floatVal (P : Program) (ops : List Oper) (o : Oper) (a : Env) (H : AW) : Option Value :=
  bif wantedA ops o a then
    match o.op with
    | .call c => match c.callee with
      | .builtin b => match Env.evals a c.args.toList with
        | some args => match abuiltin P b o.type c.argTypes args H with
          | some (v, _) => some v
          | none => none
        | none => none
      | _ => none
    | _ => match aop P o a H with
      | some (v, _) => some v
      | none => none
  else some undef

/-- What has been done at once, and may really be done later: its number, its value, and of a block that is made: its type and its number. -/
structure Late where
  num : Nat
  op : Oper
  val : Value
  new : Option (TypeId × Nat)

/-- Does 'o' wait for number j? -/
def waitsA (o : Oper) (j : Nat) : Bool := o.after.any fun e => Region.binds .any e && Nat.beq e.on j

/-- Would it still give what it gave? -/
def Late.ok (P : Program) (ops : List Oper) (a : Env) (H : AW) (l : Late) : Bool :=
  match l.new with
  | none => match floatVal P ops l.op a H with
    | some u => veqv u l.val
    | none => false
  | some (t, i) => match H.get i, zeroOfT P t with
    | some (.cells c u false), some z => Nat.beq t u && veqs c (cellsOfV z) && (cellsOfV z).all pfree
    | _, _ => false

/-- Nobody who may really be done behind it looks at what it writes. -/
def sepA (ops : Array Oper) (o : Oper) (late : List Late) : Bool :=
  match o.dst with
  | none => true
  | some d => !(o.looksAt ops).contains d && late.all fun l => !(l.op.looksAt ops).contains d && l.op.dst != some d

/-- Each waits for earlier ones alone. -/
def backA (ops : List Oper) : Bool := ops.zipIdx.all fun (o, i) => o.after.all fun e => !Region.binds .any e || Nat.blt e.on i

def drawA (P : Program) (ih : IH) (ops : Array Oper) : Nat → Array Bool → List Late → Env → AW → KK → Bool
  | 0, _, _, _, _, _ => false
  | n + 1, L, late, a, H, k =>
    match Region.ready .any ops L with
    | [] => late.all (Late.ok P ops.toList a H) && k .normal a H
    | r => match r.find? (fun i => (ops[i]?).any fun o => (floats o.op || allocs o.op) && Region.free .any ops L i && sepA ops o late) with
      | some i => match ops[i]? with
        | some o => match o.op with
          | .alloc t => bif o.guard.isNone then
              match aop P o a H with
              | some (v, H') => drawA P ih ops n (L.setIfInBounds i true) (⟨i, o, v, some (t, H.next)⟩ :: late) (a.put o.dst v) H' k
              | none => false
            else false
          | _ => match floatVal P ops.toList o a H with
            | some v => drawA P ih ops n (L.setIfInBounds i true) (⟨i, o, v, none⟩ :: late) (a.put o.dst v) H k
            | none => false
        | none => false
      | none => match r with
        | [i] => match ops[i]? with
          | some o => late.all (Late.ok P ops.toList a H) &&
            (bif wantedA ops.toList o a then operA P ih o a H fun v H => drawA P ih ops n (L.setIfInBounds i true) (late.filter fun l => !waitsA o l.num) (a.put o.dst v) H k
             else drawA P ih ops n (L.setIfInBounds i true) (late.filter fun l => !waitsA o l.num) (a.put o.dst undef) H k)
          | none => false
        | _ => false

def stepA (P : Program) (ih : IH) : IH
  | .skip, a, H, k => k .normal a H
  | .label _, a, H, k => k .normal a H
  | .ret, a, H, k => k .ret a H
  | .exit id, a, H, k => k (.exit id) a H
  | .seq x y, a, H, k => ih x a H fun e a H => match e with
    | .normal => ih y a H k
    | e => k e a H
  | .cond c x y, a, H, k => match a.eval c with
    | some (.bool b) => ih (bif b then x else y) a H k
    | _ => false
  | .block id c, a, H, k => ih c a H fun e a H => match e with
    | .exit j => bif Nat.beq j id then k .normal a H else k (.exit j) a H
    | e => k e a H
  | .loop c, a, H, k => ih c a H fun e a H => match e with
    | .normal => ih (.loop c) a H k
    | e => k e a H
  | .region _ ops false, a, H, k => opsA P ih ops.toList ops.toList a H k
  | .region _ ops true, a, H, k => backA ops.toList && drawA P ih ops (ops.size + 1) (Array.replicate ops.size false) [] a H k
  | _, _, _, _ => false

def runA (P : Program) : Nat → IH := Nat.rec (fun _ _ _ _ => false) fun _ ih => stepA P ih

def runCall (P : Program) (n : Nat) (g : FuncId) (args : List Value) (H : AW) (k : KV) : Bool := enterA P (runA P n) g args H k

end Go.Up

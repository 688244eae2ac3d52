/-
  AN ABSTRACT EVALUATOR of the program's code, definitions alone: memory is a finite map from numbers of blocks to objects; a slice that an append has made has a capacity that is only known from below.
-/
import Derived.CallsIn
import Derived.OrdersIn
import Derived.LoopNIn
import Derived.RangeFuncLeaves
namespace Go.Proofs.YtlkhpgocbojdgaaGreatDoor.Ai
open Go

/-! ### A finite map from numbers -/
inductive T (α : Type) where
  | nil : T α
  | node (v : Option α) (l r : T α) : T α

/-- By the recursor itself: what the kernel reckons with runs often. -/
noncomputable def T.get {α : Type} (t : T α) : Nat → Option α :=
  T.rec (motive := fun _ => Nat → Option α) (fun _ => none)
    (fun v _ _ gl gr k => Nat.rec (motive := fun _ => Option α) v (fun k _ => Bool.rec (motive := fun _ => Option α) (gr (Nat.div k 2)) (gl (Nat.div k 2)) (Nat.beq (Nat.mod k 2) 0)) k) t

/-- A branch that holds one thing. -/
noncomputable def T.one {α : Type} (x : Option α) (f : Nat) : Nat → T α :=
  Nat.rec (motive := fun _ => Nat → T α) (fun _ => .nil)
    (fun _ go k => Nat.rec (motive := fun _ => T α) (.node x .nil .nil)
      (fun k _ => Bool.rec (motive := fun _ => T α) (.node none .nil (go (Nat.div k 2))) (.node none (go (Nat.div k 2)) .nil) (Nat.beq (Nat.mod k 2) 0)) k) f

noncomputable def T.set {α : Type} (x : Option α) (t : T α) : Nat → T α :=
  T.rec (motive := fun _ => Nat → T α) (fun k => T.one x (k + 1) k)
    (fun v l r gl gr k => Nat.rec (motive := fun _ => T α) (.node x l r)
      (fun k _ => Bool.rec (motive := fun _ => T α) (.node v l (gr (Nat.div k 2))) (.node v (gl (Nat.div k 2)) r) (Nat.beq (Nat.mod k 2) 0)) k) t

noncomputable def T.put {α : Type} (t : T α) (k : Nat) (x : α) : T α := T.set (some x) t k
noncomputable def T.del {α : Type} (t : T α) (k : Nat) : T α := T.set none t k

/-! ### Memory -/

inductive AObj where
  | ro (c : List Value)
  | cells (c : List Value) (elem : TypeId)
  | map (es : List MapEntry) (clock : Nat)
  | loop (st : LoopState) (pending : Option Code) (tmps : T Value) (params : List Tmp) (assign body : Code) (defers : Nat)
  | defers
  | closed
  | strIter (s : ByteArray) (pos : Nat)
  | mapIter (m : Option Nat) (since : Nat) (seen : List Nat) (stepped : Nat)

structure AHeap where
  m : T AObj
  next : Nat
  low : Nat

noncomputable def AHeap.get (h : AHeap) (b : Nat) : Option AObj := match Nat.blt b h.next with
  | true => h.m.get b
  | false => none
noncomputable def AHeap.alloc (h : AHeap) (o : AObj) : AHeap := { h with m := h.m.put h.next o, next := h.next + 1 }
noncomputable def AHeap.set (h : AHeap) (b : Nat) (o : AObj) : AHeap := { h with m := h.m.put b o, low := Nat.min h.low b }
noncomputable def AHeap.kill (h : AHeap) (b : Nat) : AHeap := { h with m := h.m.del b, low := Nat.min h.low b }

structure ASt where
  tmps : T Value
  heap : AHeap
  marks : List Nat

inductive AExit where
  | normal
  | exit (id : Nat)
  | ret

/-! ### Types as the program tells them -/
structure TyI where
  desc : TypeDesc
  zero : Value
  size : Nat
  bytes : Nat

/-- What is given: the program; its functions and types, as tables; calls that are answered by a contract. -/
structure Env where
  P : Program
  fn : T Func
  ty : T TyI
  intr : T (List Value → AHeap → Option (Value × AHeap))

/-! ### Values -/
/-- A capacity from here on is known from below only: 'upCap z k': at least k elements of z cells each. -/
def SL : Nat := 18446744073709551616
/-- A slice without elements, wherever it lies. -/
def UN : Nat := 340282366920938463463374607431768211456
def upCap (z k : Nat) : Nat := SL * (z + 1) + k
/-- A slice that grows: of no capacity where it has no elements; else it begins its block, and all of it is known. -/
def GC (z : Nat) : Nat := UN + 1 + z

def flatCell : Value → Bool
  | .bool _ | .int .. | .string _ | .float .. | .nilIface | .nilFunc => true
  | .pointer none | .map none => true
  | .slice none _ _ => true
  | _ => false
/-- What stands in an abstract row for a cell that nobody may read. -/
def isDead : Value → Bool
  | .float _ n => Nat.beq n 4294967295
  | _ => false
/-- A value without an address in it: the same in every memory. -/
def flat : Value → Bool
  | .agg cs => cs.toList.all flatCell
  | .tuple vs => vs.toList.all fun | .agg cs => cs.toList.all flatCell | v => flatCell v
  | v => flatCell v

/-- The answer of a computation that asks the program alone. -/
def runP {α : Type} (P : Program) : Sem α → Option α
  | .pure a => some a
  | .program k => runP P (k P)
  | .mark _ k => runP P k
  | _ => none

/-- A value is kept if there is no address in it. -/
def okFlat : Option Value → Option Value
  | some v => match flat v with
    | true => some v
    | false => none
  | none => none

def isAggD : TypeDesc → Bool
  | .struct _ | .array .. => true
  | _ => false

def slice? (l : List Value) (off n : Nat) : Option (List Value) :=
  let r := (l.drop off).take n
  match Nat.beq r.length n with
  | true => some r
  | false => none

def splice (l : List Value) (off : Nat) (news : List Value) : Option (List Value) :=
  match Nat.ble (off + news.length) l.length with
  | true => some (l.take off ++ news ++ l.drop (off + news.length))
  | false => none

noncomputable def readCells (h : AHeap) (a : Addr) (n : Nat) : Option (List Value) :=
  match h.get a.block with
  | some (.cells c _) => slice? c a.off n
  | some (.ro c) => match slice? c a.off n with
    | some l => match l.any isDead with
      | false => some l
      | true => none
    | none => none
  | _ => none

noncomputable def writeCells (h : AHeap) (a : Addr) (news : List Value) : Option AHeap :=
  match h.get a.block with
  | some (.cells c e) => match news.all (·.oneCell'), splice c a.off news with
    | true, some c' => some (h.set a.block (.cells c' e))
    | _, _ => none
  | _ => none

def inI64 : Int → Bool
  | .ofNat n => Nat.blt n 9223372036854775808
  | .negSucc n => Nat.blt n 9223372036854775808

def addr (a : Addr) (n : Nat) : Addr := ⟨a.block, a.off + n, none⟩

def wrapCells (agg : Bool) (l : List Value) : Option Value :=
  match agg, l with
  | true, l => some (.agg ⟨l⟩)
  | false, [v] => some v
  | _, _ => none

def asNat (i : Int) : Option Nat := match i with
  | .ofNat n => some n
  | .negSucc _ => none

def intV : Value → Option Int
  | .int _ i => some i
  | _ => none

def natV (v : Value) : Option Nat := (intV v).bind asNat

/-- The cells that a slice of n elements holds. -/
noncomputable def sliceCells (h : AHeap) (size : Nat) : Value → Option (List Value)
  | .slice none 0 _ => some []
  | .slice (some _) 0 _ => some []
  | .slice (some a) n _ => readCells h a (n * size)
  | _ => none

def bytesCells (s : ByteArray) : List Value := s.data.toList.map fun b => .int .u8 b.toNat

/-! ### The operations -/
noncomputable section ops
variable (E : Env)

def zeroOf (t : TypeId) : Option Value := (E.ty.get t).map (·.zero)
def sizeT (t : TypeId) : Option Nat := (E.ty.get t).map (·.size)

def evalO (s : T Value) : Operand → Option Value
  | .tmp t => s.get t
  | .const v => match flat v with
    | true => some v
    | false => none
  | .func f => some (.func (.func f) #[] #[])
  | .global _ => none

def evalL (s : T Value) : List Operand → Option (List Value)
  | [] => some []
  | x :: xs => match evalO s x with
    | some v => (evalL s xs).map (v :: ·)
    | none => none

def evalParts (s : T Value) : List (Nat × Operand) → Option (List (Nat × Value))
  | [] => some []
  | (i, x) :: xs => match evalO s x with
    | some v => (evalParts s xs).map ((i, v) :: ·)
    | none => none

def places (t : TyI) : Option (Nat → Option (Nat × Nat)) :=
  match t.desc with
  | .struct fields =>
    (fields.toList.mapM fun f => (sizeT E f.type).map fun z => (f.offset, z)).map fun l i => l[i]?
  | .array _ elem => (sizeT E elem).map fun z i => some (i * z, z)
  | _ => none

def fillL (place : Nat → Option (Nat × Nat)) (cells : List Value) : List (Nat × Value) → Option (List Value)
  | [] => some cells
  | (i, v) :: rest =>
    match place i with
    | none => none
    | some (off, size) =>
      let c := v.cells.toList
      match Nat.beq c.length size with
      | true => match splice cells off c with
        | some cells' => fillL place cells' rest
        | none => none
      | false => none

def rep (z : List Value) : Nat → List Value
  | 0 => []
  | n + 1 => z ++ rep z n

def slNil (n cap : Nat) : Option Bool := match Nat.ble cap UN with
  | true => some false
  | false => match Nat.beq n 0 with
    | true => none
    | false => some false
/-- Equality of what is or is not nil, and of two addresses in one block. -/
def nilEq (d : TypeDesc) (a b : Value) : Option Bool :=
  match d, a, b with
  | .slice _, .slice none _ _, .slice none _ _ => some true
  | .slice _, .slice none _ _, .slice (some _) n cap => slNil n cap
  | .slice _, .slice (some _) n cap, .slice none _ _ => slNil n cap
  | .pointer _, .pointer none, .pointer q => some q.isNone
  | .pointer _, .pointer (some _), .pointer none => some false
  | .pointer e, .pointer (some p), .pointer (some q) => match sizeT E e, Nat.beq p.block q.block with
    | some (_ + 1), true => some (Nat.beq p.off q.off)
    | _, _ => none
  | .map _ _, .map none, .map q => some q.isNone
  | .map _ _, .map (some _), .map none => some false
  | .func _ _ _, .nilFunc, .func _ _ _ => some false
  | .func _ _ _, .func _ _ _, .nilFunc => some false
  | .interface _, .nilIface, .iface _ _ => some false
  | .interface _, .iface _ _, .nilIface => some false
  | _, _, _ => none

def eqlA (op : BinOp) : Option Bool → Option Value
  | some d => match op with
    | .eql => some (.bool d)
    | .neq => some (.bool (!d))
    | _ => none
  | none => none

def strOp (op : BinOp) (x y : List UInt8) : Option Value :=
  match op with
  | .add => match Nat.ble (x.length + y.length) 1099511627776 with
    | true => some (.string ⟨⟨x ++ y⟩⟩)
    | false => none
  | .eql => some (.bool (x == y))
  | .neq => some (.bool (!(x == y)))
  | .lss => some (.bool (Op.bytesLess x y))
  | .leq => some (.bool (Op.bytesLess x y || x == y))
  | .gtr => some (.bool (!(Op.bytesLess x y || x == y)))
  | .geq => some (.bool (!(Op.bytesLess x y)))
  | _ => none

/-- An int is wrapped only where that changes it. -/
def wrapF (k : IntKind) (n : Int) : Int :=
  match k with
  | .i64 => match inI64 n with
    | true => n
    | false => IntKind.wrap .i64 n
  | k => k.wrap n

def intA (op : BinOp) (k : IntKind) (a b : Int) : Option Value :=
  match op with
  | .add => some (.int k (wrapF k (a + b)))
  | .sub => some (.int k (wrapF k (a - b)))
  | .mul => some (.int k (wrapF k (a * b)))
  | .eql => some (.bool (decide (a = b)))
  | .neq => some (.bool (!decide (a = b)))
  | .lss => some (.bool (decide (a < b)))
  | .leq => some (.bool (decide (a ≤ b)))
  | .gtr => some (.bool (decide (b < a)))
  | .geq => some (.bool (decide (b ≤ a)))
  | op => okFlat (runP E.P (binOp op 0 (.int k a) (.int k b)))

def sameKind : IntKind → IntKind → Bool
  | .i64, .i64 => true
  | a, b => decide (a = b)

def binA (op : BinOp) (t : TypeId) (x y : Operand) (a b : Value) : Option Value :=
  match a, b with
  | .int k x, .int j y => match sameKind k j with
    | true => intA E op k x y
    | false => none
  | .string p, .string q => strOp op p.data.toList q.data.toList
  | _, _ =>
    match flat a && flat b with
    | true => okFlat (runP E.P (do eqGuard op t x y a b; binOp op t a b))
    | false => match E.ty.get t with
      | some i => eqlA op (nilEq E i.desc a b)
      | none => none

def bounds (len cap : Nat) (lo hi : Option Value) : Option (Nat × Nat) :=
  match (match hi with | some v => natV v | none => some len), (match lo with | some v => natV v | none => some 0) with
  | some h, some l => match Nat.ble l h && Nat.ble h cap with
    | true => some (l, h)
    | false => none
  | _, _ => none

def sliceA (desc : TypeDesc) (x : Value) (lo hi : Option Value) : Option Value :=
  match desc, x with
  | .string, .string s => (bounds s.size s.size lo hi).map fun (l, h) => .string ⟨⟨(s.data.toList.drop l).take (h - l)⟩⟩
  | .slice elem, .slice base len cap =>
    match sizeT E elem with
    | none => none
    | some size =>
      match base with
      | none => (bounds len cap lo hi).map fun (l, h) => .slice none (h - l) (cap - l)
      | some a =>
        match Nat.blt cap SL with
        | true => (bounds len cap lo hi).map fun (l, h) => .slice (some (match Nat.beq l cap with | true => a | false => addr a (l * size))) (h - l) (cap - l)
        | false => match Nat.blt cap UN with
          | true => match Nat.beq (cap / SL) (size + 1) with
            | true => (bounds len (cap % SL) lo hi).map fun (l, h) =>
              match Nat.beq l (cap % SL) with
              | true => .slice (some a) 0 UN
              | false => .slice (some (addr a (l * size))) (h - l) (cap - l)
            | false => none
          | false => match Nat.beq cap UN with
            | true => (bounds 0 0 lo hi).map fun _ => .slice (some a) 0 UN
            | false => match Nat.blt 0 len && Nat.beq cap (GC size) with
              | true => (bounds len len lo hi).map fun (l, h) =>
                match Nat.beq l len with
                | true => .slice (some a) 0 UN
                | false => .slice (some (addr a (l * size))) (h - l) (upCap size (len - l))
              | false => none
  | .array n elem, .pointer (some a) =>
    match sizeT E elem with
    | none => none
    | some size => match Nat.blt n SL with
      | true => (bounds n n lo hi).map fun (l, h) => .slice (some (match Nat.beq l n with | true => a | false => addr a (l * size))) (h - l) (n - l)
      | false => none
  | _, _ => none

/-- append: the value, and the memory behind it. -/
def growA (h : AHeap) (elem : TypeId) (size bytes n : Nat) (cells : List Value) : Option (Value × AHeap) :=
  match Nat.ble (n * bytes) 1099511627776 && Nat.blt n 4611686018427387904 && Nat.blt size 1099511627776 with
  | true => some (.slice (some ⟨h.next, 0, none⟩) n (upCap size n), h.alloc (.cells cells elem))
  | false => none

def growG (h : AHeap) (elem : TypeId) (size bytes n : Nat) (cells : List Value) : Option (Value × AHeap) :=
  match Nat.ble (n * bytes) 1099511627776 && Nat.blt n 4611686018427387904 && Nat.blt size 1099511627776 with
  | true => some (.slice (some ⟨h.next, 0, none⟩) n (GC size), h.alloc (.cells cells elem))
  | false => none

def appendG (h : AHeap) (elem : TypeId) (size bytes : Nat) (a : Addr) (len : Nat) (n : Nat) (news : List Value) : Option (Value × AHeap) :=
  match h.get a.block, a.off with
  | some (.cells c e), 0 =>
    match Nat.beq e elem && Nat.beq c.length (len * size) && news.all (·.oneCell') with
    | true => growG (h.kill a.block) elem size bytes (len + n) (c ++ news)
    | false => none
  | _, _ => none

def appendA (h : AHeap) (elem : TypeId) (size bytes : Nat) (s : Value) (n : Nat) (news : List Value) : Option (Value × AHeap) :=
  match s with
  | .slice none 0 0 =>
    match n with
    | 0 => some (.slice none 0 0, h)
    | n + 1 => growA h elem size bytes (n + 1) news
  | .slice (some a) len cap =>
    match Nat.blt cap SL with
    | true =>
      match Nat.ble (len + n) cap with
      | true => match writeCells h (addr a (len * size)) news with
        | some h' => some (.slice (some a) (len + n) cap, h')
        | none => none
      | false => match sliceCells h size s with
        | some old => growA h elem size bytes (len + n) (old ++ news)
        | none => none
    | false => match Nat.beq cap (GC size) with
     | true => appendG h elem size bytes a len n news
     | false =>
      match Nat.blt cap UN && Nat.beq (cap / SL) (size + 1), Nat.ble (len + n) (cap % SL) with
      | true, true => match writeCells h (addr a (len * size)) news with
        | some h' => some (.slice (some a) (len + n) cap, h')
        | none => none
      | true, false =>
        match h.get a.block, a.off with
        | some (.cells c e), 0 =>
          match Nat.beq e elem && Nat.beq c.length (cap % SL * size) && Nat.ble len (cap % SL), news.all (·.oneCell') with
          | true, true => growA (h.kill a.block) elem size bytes (len + n) (c.take (len * size) ++ news)
          | _, _ => none
        | _, _ => none
      | _, _ => none
  | _ => none

def elemD : Option TyI → Option TypeId
  | some { desc := .slice elem, .. } => some elem
  | _ => none
def isInt : Option TyI → Option Bool
  | some { desc := .int _, .. } => some true
  | some _ => some false
  | none => none

def lenA : Value → Option Nat
  | .slice _ n _ => some n
  | .string s => some s.size
  | _ => none

/-- The cells of a second argument of append and copy. -/
def srcCells (h : AHeap) (size n : Nat) : Value → Option (List Value)
  | .string s => some ((bytesCells s).take n)
  | .slice (some a) _ _ => match n with
    | 0 => some []
    | n + 1 => readCells h a ((n + 1) * size)
  | .slice none _ _ => some []
  | _ => none

def lenBA (h : AHeap) : Option TyI → Value → Option (Value × AHeap)
  | some { desc := .slice _, .. }, .slice _ n _ => some (.int .i64 n, h)
  | some { desc := .string, .. }, .string s => some (.int .i64 s.size, h)
  | some { desc := .map _ _, .. }, .map none => some (.int .i64 0, h)
  | some { desc := .map _ _, .. }, .map (some r) => match h.get r with
    | some (.map es _) => some (.int .i64 es.length, h)
    | _ => none
  | _, _ => none

/-- Bytes out of cells. -/
def unBytes : List Value → Option (List UInt8)
  | [] => some []
  | .int .u8 (.ofNat n) :: r => match Nat.blt n 256, unBytes r with
    | true, some l => some (n.toUInt8 :: l)
    | _, _ => none
  | _ => none
def ptrD : Option TyI → Option TypeId
  | some { desc := .pointer t, .. } => some t
  | _ => none

def builtinA (h : AHeap) (b : Builtin) (tys : List TypeId) (args : List Value) : Option (Value × AHeap) :=
  match b, tys, args with
  | .len, [t], [x] => lenBA h (E.ty.get t) x
  | .max, _, _ => match args.all flat with
    | true => (okFlat (runP E.P (Builtin.max_ #[] 0 ⟨args⟩))).map fun v => (v, h)
    | false => none
  | .min, _, _ => match args.all flat with
    | true => (okFlat (runP E.P (Builtin.min_ #[] 0 ⟨args⟩))).map fun v => (v, h)
    | false => none
  | .append, [t, u], [s, x] =>
    match elemD (E.ty.get t), isInt (E.ty.get u) with
    | some elem, some false =>
      match E.ty.get elem, lenA x with
      | some i, some n => match srcCells h i.size n x with
        | some news => match Nat.beq news.length (n * i.size) with
          | true => appendA h elem i.size i.bytes s n news
          | false => none
        | none => none
      | _, _ => none
    | _, _ => none
  | .copy, [t, _], [.slice base dl cap, .slice sb n sc] =>
    match elemD (E.ty.get t) with
    | some elem => match sizeT E elem with
      | some size => match srcCells h size (Nat.min n dl) (.slice sb n sc), base, Nat.min n dl with
        | some _, _, 0 => some (.int .i64 0, h)
        | some news, some a, m => match writeCells h a news with
          | some h' => some (.int .i64 m, h')
          | none => none
        | _, _, _ => none
      | none => none
    | none => none
  | .clear, [t], [.slice base n cap] =>
    match n, base, elemD (E.ty.get t) with
    | 0, _, some _ => some (.tuple #[], h)
    | n, some a, some elem => match zeroOf E elem with
      | some z => match writeCells h a (rep z.cells.toList n) with
        | some h' => some (.tuple #[], h')
        | none => none
      | none => none
    | _, _, _ => none
  | .unsafeSliceData, _, [.slice (some a) n cap] => match Nat.blt 0 n && Nat.blt 0 (Nat.mod cap SL) with
    | true => some (.pointer (some a), h)
    | false => none
  | .unsafeString, [pt, _], [.pointer (some ⟨b, 0, none⟩), .int .i64 (.ofNat n)] => match ptrD (E.ty.get pt), h.get b with
    | some u, some (.cells c e) => match Nat.beq e u && (Nat.blt 0 n && Nat.ble n 9223372036854775807), sizeT E e, slice? c 0 n with
      | true, some 1, some r => match unBytes r with
        | some l => some (.string ⟨⟨l⟩⟩, h.set b (.ro c))
        | none => none
      | _, _, _ => none
    | _, _ => none
  | _, _, _ => none

/-- What an operation leaves: a value or none, and the memory behind it. -/
abbrev Left := Option (Option Value × AHeap)

def ret (h : AHeap) : Option Value → Left
  | some v => some (some v, h)
  | none => none
def stored : Option AHeap → Left
  | some h => some (none, h)
  | none => none
def made (h : AHeap) (o : AObj) (v : Value) : Left := some (some v, h.alloc o)
def ptr (b : Nat) : Value := .pointer (some ⟨b, 0, none⟩)

def pickA (s : T Value) (a b : Operand) : Option Value → Option Value
  | some (.bool true) => evalO s a
  | some (.bool false) => evalO s b
  | _ => none
def allocA (h : AHeap) (e : TypeId) : Option Value → Left
  | some z => made h (.cells z.cells.toList e) (ptr h.next)
  | none => none
def buildA (h : AHeap) : Option TyI → Option (List (Nat × Value)) → Left
  | some i, some ps => match places E i with
    | some pl => match fillL pl i.zero.cells.toList ps with
      | some c => some (some (.agg ⟨c⟩), h)
      | none => none
    | none => none
  | _, _ => none
def buildSliceA (h : AHeap) (len : Nat) (elem : Option TypeId) (ps : Option (List (Nat × Value))) : Left :=
  match elem, ps with
  | some elem, some ps => match E.ty.get elem with
    | some i => match Nat.ble (len * i.size) 4096 && Nat.ble len 4096 with
      | true => match fillL (fun j => some (j * i.size, i.size)) (rep i.zero.cells.toList len) ps with
        | some c => made h (.cells c elem) (.slice (some ⟨h.next, 0, none⟩) len len)
        | none => none
      | false => none
    | none => none
  | _, _ => none
def loadA (h : AHeap) : Option Value → Option TyI → Left
  | some (.pointer (some p)), some i => match readCells h p i.size with
    | some l => ret h (wrapCells (isAggD i.desc) l)
    | none => none
  | _, _ => none
def storeA (h : AHeap) : Option Value → Option Value → Option TyI → Left
  | some (.pointer (some p)), some z, some i => match Nat.beq z.cells.toList.length i.size with
    | true => stored (writeCells h p z.cells.toList)
    | false => none
  | _, _, _ => none
def nilCheckA (h : AHeap) : Option Value → Left
  | some (.pointer (some p)) => some (some (.pointer (some p)), h)
  | _ => none
def binOA (h : AHeap) (op : BinOp) (t : TypeId) (x y : Operand) : Option Value → Option Value → Left
  | some a, some b => ret h (binA E op t x y a b)
  | _, _ => none
def unA (h : AHeap) (op : UnOp) : Option Value → Left
  | some a => match flat a with
    | true => ret h (okFlat (runP E.P (Op.unary op a)))
    | false => none
  | none => none
def convA (h : AHeap) : Option TyI → Option Value → Option TyI → Left
  | some _, some (.int _ n), some { desc := .int k, .. } => some (some (.int k (wrapF k n)), h)
  | some _, some (.string z), some { desc := .string, .. } => some (some (.string z), h)
  | some _, some (.string z), some { desc := .slice e, .. } => match E.ty.get e with
    | some { desc := .int .u8, size := 1, .. } => match Nat.blt z.size SL with
      | true => made h (.cells (bytesCells z) e) (.slice (some ⟨h.next, 0, none⟩) z.size (upCap 1 z.size))
      | false => none
    | _ => none
  | some { desc := .pointer t, .. }, some (.pointer (some ⟨b, off, none⟩)), some { desc := .unsafePointer, .. } => match sizeT E t, h.get b with
    | some (_ + 1), some (.cells c _) => match Nat.blt off c.length with
      | true => some (some (.pointer (some ⟨b, off, none⟩)), h)
      | false => none
    | _, _ => none
  | some { desc := .unsafePointer, .. }, some (.pointer (some ⟨b, 0, none⟩)), some { desc := .pointer u, .. } => match sizeT E u, h.get b with
    | some (n + 1), some (.cells c e) => match Nat.beq e u && Nat.ble (n + 1) c.length with
      | true => some (some (.pointer (some ⟨b, 0, none⟩)), h)
      | false => none
    | _, _ => none
  | _, _, _ => none
def funcA (h : AHeap) (fn : Fn) : Option (List Value) → Option (List Value) → Left
  | some f, some c => match fn with
    | .yield _ => none
    | fn => some (some (.func fn ⟨f⟩ ⟨c⟩), h)
  | _, _ => none
def makeSliceA (h : AHeap) (elem : Option TypeId) (l c : Option Nat) : Left :=
  match elem, l, c with
  | some elem, some l, some c => match E.ty.get elem with
    | some i => match Nat.ble l c && Nat.ble (c * i.bytes) 1048576 && Nat.ble c 1048576 with
      | true => made h (.cells (rep i.zero.cells.toList c) elem) (.slice (some ⟨h.next, 0, none⟩) l c)
      | false => none
    | none => none
  | _, _, _ => none
def optO (s : T Value) : Option Operand → Option (Option Value)
  | none => some none
  | some q => match evalO s q with
    | some v => some (some v)
    | none => none
def sliceOA (h : AHeap) : Option TyI → Option Value → Option (Option Value) → Option (Option Value) → Left
  | some i, some x, some lo, some hi => ret h (sliceA E i.desc x lo hi)
  | _, _, _, _ => none
def fieldsD : Option TyI → Option (List Field)
  | some { desc := .struct fs, .. } => some fs.toList
  | _ => none
def fieldAddrA (h : AHeap) (f : Nat) : Option Value → Option (List Field) → Left
  | some (.pointer (some p)), some fs => match fs[f]? with
    | some f => match sizeT E f.type with
      | some (_ + 1) => some (some (.pointer (some (addr p f.offset))), h)
      | _ => none
    | none => none
  | _, _ => none
def partA (h : AHeap) (cs : List Value) (off : Nat) : Option TyI → Left
  | some i => match slice? cs off i.size with
    | some l => ret h (wrapCells (isAggD i.desc) l)
    | none => none
  | none => none
def fieldA (h : AHeap) (f : Nat) : Option Value → Option (List Field) → Left
  | some (.agg cs), some fs => match fs[f]? with
    | some f => partA h cs.toList f.offset (E.ty.get f.type)
    | none => none
  | _, _ => none
def indexAddrA (h : AHeap) : Option TyI → Option Value → Option Nat → Left
  | some { desc := .slice elem, .. }, some (.slice (some a) len _), some i => match Nat.blt i len, sizeT E elem with
    | true, some z => some (some (.pointer (some (addr a (i * z)))), h)
    | _, _ => none
  | some { desc := .array len elem, .. }, some (.pointer (some a)), some i => match Nat.blt i len, sizeT E elem with
    | true, some z => some (some (.pointer (some (addr a (i * z)))), h)
    | _, _ => none
  | _, _, _ => none
def indexA (h : AHeap) : Option TyI → Option Value → Option Nat → Left
  | some { desc := .array len elem, .. }, some (.agg cs), some i => match Nat.blt i len, E.ty.get elem with
    | true, some z => partA h cs.toList (i * z.size) (some z)
    | _, _ => none
  | some { desc := .string, .. }, some (.string b), some i => match b.data.toList[i]? with
    | some c => some (some (.int .u8 c.toNat), h)
    | none => none
  | _, _, _ => none
def mapD : Option TyI → Option (TypeId × TypeId)
  | some { desc := .map k e, .. } => some (k, e)
  | _ => none
def entriesA (h : AHeap) : Option Value → Option (List MapEntry)
  | some (.map none) => some []
  | some (.map (some r)) => match h.get r with
    | some (.map es _) => some es
    | _ => none
  | _ => none
def flatKey : Option Value → Option Value
  | some k => match flat k with
    | true => some k
    | false => none
  | none => none
def lookupA (h : AHeap) (ok : Bool) (d : Option (TypeId × TypeId)) (es : Option (List MapEntry)) (k : Option Value) : Left :=
  match d, es, k with
  | some (kt, et), some es, some k => match runP E.P (Instr.checkKey es.isEmpty 10000 kt k), runP E.P (Instr.findKey kt k es), zeroOf E et with
    | some _, some (some (_, v)), some _ => some (some (match ok with | true => .tuple #[v, .bool true] | false => v), h)
    | some _, some none, some z => some (some (match ok with | true => .tuple #[z, .bool false] | false => z), h)
    | _, _, _ => none
  | _, _, _ => none
def mapA (h : AHeap) : Option Value → Option (Nat × List MapEntry × Nat)
  | some (.map (some r)) => match h.get r with
    | some (.map es c) => some (r, es, c)
    | _ => none
  | _ => none
def mapUpdateA (h : AHeap) (d : Option (TypeId × TypeId)) (m : Option (Nat × List MapEntry × Nat)) (k x : Option Value) : Left :=
  match d, m, k, x with
  | some (kt, _), some (r, es, clock), some k, some x => match runP E.P (Instr.checkKey false 10000 kt k), runP E.P (Instr.findKey kt k es) with
    | some _, some (some (i, _)) => match es[i]? with
      | some e => match Instr.sameBits 10000 e.key k with
        | true => some (none, h.set r (.map (es.modify i fun e => { e with key := k, val := x }) clock))
        | false => none
      | none => none
    | some _, some none => some (none, h.set r (.map (es ++ [{ key := k, val := x, born := clock }]) (clock + 1)))
    | _, _ => none
  | _, _, _, _ => none
def rangeA (h : AHeap) : Option TyI → Option Value → Left
  | some { desc := .string, .. }, some (.string z) => made h (.strIter z 0) (ptr h.next)
  | some { desc := .map _ _, .. }, some (.map none) => made h (.mapIter none 0 [] 0) (ptr h.next)
  | some { desc := .map _ _, .. }, some (.map (some m)) => match h.get m with
    | some (.map _ clock) => made h (.mapIter (some m) clock [] clock) (ptr h.next)
    | _ => none
  | _, _ => none
/-- The entry at which a range over a map stands. -/
def entryA (h : AHeap) : Option Value → Left
  | some (.pointer (some ⟨r, 0, none⟩)) => match h.get r with
    | some (.mapIter (some m) _ seen stepped) => match seen.getLast?, h.get m with
      | some stamp, some (.map es clock) => match Nat.beq clock stepped, es.find? (fun e => e.born == stamp) with
        | true, some e => some (some (.tuple #[e.key, e.val]), h)
        | _, _ => none
      | _, _ => none
    | _ => none
  | _ => none
def mapEntryA (h : AHeap) (d : Option (TypeId × TypeId)) (m : Option (Nat × List MapEntry × Nat)) (k : Option Value) : Left :=
  match d, m, k with
  | some (kt, et), some (r, es, clock), some k => match runP E.P (Instr.checkKey false 10000 kt k), runP E.P (Instr.findKey kt k es), zeroOf E et with
    | some _, some (some (i, v)), _ => match es[i]? with
      | some e => match Instr.sameBits 10000 e.key k with
        | true => some (some (.tuple #[v, .int .i64 e.born]), h.set r (.map (es.modify i fun e => { e with key := k }) clock))
        | false => none
      | none => none
    | some _, some none, some z => some (some (.tuple #[z, .int .i64 clock]), h.set r (.map (es ++ [{ key := k, val := z, born := clock }]) (clock + 1)))
    | _, _, _ => none
  | _, _, _ => none
def entryStoreA (h : AHeap) (m : Option (Nat × List MapEntry × Nat)) (st x : Option Value) : Left :=
  match m, st.bind intV, x with
  | some (r, es, clock), some b, some x => match es.findIdx? (fun e => (e.born : Int) == b) with
    | some i => some (none, h.set r (.map (es.modify i fun e => { e with val := x }) clock))
    | none => none
  | _, _, _ => none
def nextA (h : AHeap) : Option Value → Left
  | some (.pointer (some ⟨r, 0, none⟩)) => match h.get r with
    | some (.strIter z pos) => match Nat.blt pos z.size with
      | true => some (some (.tuple #[.bool true, .int .i64 pos, .int .i32 (Utf8.decode z pos).1]), h.set r (.strIter z (pos + (Utf8.decode z pos).2)))
      | false => some (some (.tuple #[.bool false]), h)
    | _ => none
  | _ => none
def ifaceA (h : AHeap) (t : TypeId) : Option Value → Option TyI → Left
  | some x, some i => match i.desc with
    | .interface _ => none
    | _ => some (some (.iface t x), h)
  | _, _ => none
def extractA (h : AHeap) (i : Nat) : Option Value → Left
  | some (.tuple vs) => ret h (vs.toList[i]?)
  | _ => none

/-- What one operation that calls nothing leaves in its place, and the memory behind it. -/
def aop (s : T Value) (h : AHeap) (o : Oper) : Left :=
  match o.op with
  | .move x | .assign x => ret h (evalO s x)
  | .pick c a b => ret h (pickA s a b (evalO s c))
  | .alloc e => allocA h e (zeroOf E e)
  | .box e x => allocA h e (evalO s x)
  | .build t parts => buildA E h (E.ty.get t) (evalParts s parts.toList)
  | .buildSlice t len parts => buildSliceA E h len (elemD (E.ty.get t)) (evalParts s parts.toList)
  | .load t a => loadA h (evalO s a) (E.ty.get t)
  | .store t a x => storeA h (evalO s a) (evalO s x) (E.ty.get t)
  | .nilCheck x => nilCheckA h (evalO s x)
  | .binOp op t x y _ => binOA E h op t x y (evalO s x) (evalO s y)
  | .unOp op _ x => unA E h op (evalO s x)
  | .convert src dst x => convA E h (E.ty.get src) (evalO s x) (E.ty.get dst)
  | .makeFunc fn first captured => funcA h fn (evalL s first.toList) (evalL s captured.toList)
  | .makeMap _ none => made h (.map [] 0) (.map (some h.next))
  | .makeSlice t l c => makeSliceA E h (elemD (E.ty.get t)) ((evalO s l).bind natV) ((evalO s c).bind natV)
  | .slice t x lo hi none => sliceOA E h (E.ty.get t) (evalO s x) (optO s lo) (optO s hi)
  | .fieldAddr t x f => fieldAddrA E h f (evalO s x) (fieldsD (E.ty.get t))
  | .field t x f => fieldA E h f (evalO s x) (fieldsD (E.ty.get t))
  | .indexAddr t x ix => indexAddrA E h (E.ty.get t) (evalO s x) ((evalO s ix).bind natV)
  | .index t x ix => indexA E h (E.ty.get t) (evalO s x) ((evalO s ix).bind natV)
  | .lookup t x ix ok => lookupA E h ok (mapD (E.ty.get t)) (entriesA h (evalO s x)) (flatKey (evalO s ix))
  | .mapUpdate t m k x => mapUpdateA E h (mapD (E.ty.get t)) (mapA h (evalO s m)) (flatKey (evalO s k)) (evalO s x)
  | .range t x => rangeA h (E.ty.get t) (evalO s x)
  | .entry x => entryA h (evalO s x)
  | .mapEntry t m k => mapEntryA E h (mapD (E.ty.get t)) (mapA h (evalO s m)) (flatKey (evalO s k))
  | .entryStore _ m st x => entryStoreA h (mapA h (evalO s m)) (evalO s st) (evalO s x)
  | .next x true => nextA h (evalO s x)
  | .makeInterface t x => ifaceA h t (evalO s x) (E.ty.get t)
  | .extract x i => extractA h i (evalO s x)
  | _ => none

/-- Does the operation look at memory, or make any? -/
def isPure (o : Oper) : Bool :=
  match o.op with
  | .move _ | .assign _ | .pick .. | .build .. | .nilCheck _ | .binOp .. | .unOp .. | .makeFunc .. | .slice .. | .fieldAddr .. | .field .. | .indexAddr .. | .index .. | .makeInterface .. | .extract .. => true
  | .convert .. => false
  | .call { callee := .builtin .len, argTypes, .. } => match argTypes.toList with
    | [t] => match E.ty.get t with
      | some { desc := .map .., .. } => false
      | some _ => true
      | none => false
    | _ => false
  | .call { callee := .builtin .max, .. } | .call { callee := .builtin .min, .. } => true
  | _ => false

/-! ### Regions, code, calls -/
def wantedA (ops : List Oper) (s : T Value) (o : Oper) : Option Bool :=
  match o.guard with
  | none => some true
  | some (g, want) => match (ops[g]?).bind (·.dst) with
    | some d => match s.get d with
      | some (.bool b) => some (b == want)
      | some _ => some false
      | none => none
    | none => some false

def putT (s : T Value) (d : Option Tmp) (v : Option Value) : T Value :=
  match d, v with
  | some d, some v => s.put d v
  | some d, none => s.put d undef
  | none, _ => s

/-- What is called, and with what. -/
inductive Callee where
  | fn (f : FuncId) (args : List Value)
  | yield (l : Nat) (args : List Value)

def calleeA (f : Value) (args : List Value) : Option Callee :=
  match f with
  | .func (.func g) first captured => some (.fn g (first.toList ++ args ++ captured.toList))
  | .func (.yield l) first captured => match first.toList, captured.toList with
    | [], [] => some (.yield l args)
    | _, _ => none
  | _ => none

/-- The block of the round that the code stands in; the code; the state. -/
abbrev CodeRun := Option Nat → Code → ASt → Option (AExit × ASt)

/-- The results of a function. -/
def res1 (s : ASt) : ResultVar → Option Value
  | .tmp t => s.tmps.get t
  | .cell t ty => match s.tmps.get t, E.ty.get ty with
    | some (.pointer (some p)), some i => (readCells s.heap p i.size).bind (wrapCells (isAggD i.desc))
    | _, _ => none
def resL (s : ASt) : List ResultVar → Option (List Value)
  | [] => some []
  | r :: rs => match res1 E s r with
    | some v => (resL s rs).map (v :: ·)
    | none => none
def resA (fn : Func) (s : ASt) : Option Value :=
  match resL E s fn.results.toList with
  | some [v] => some v
  | some l => some (.tuple ⟨l⟩)
  | none => none

def loadArgs : List Value → Nat → T Value → T Value
  | [], _, t => t
  | v :: vs, i, t => loadArgs vs (i + 1) (t.put i v)

/-- The blocks that ranges over functions have laid are shut. -/
def closeA : List Nat → AHeap → Option AHeap
  | [], h => some h
  | m :: ms, h => match h.get m with
    | some .defers => closeA ms (h.set m .closed)
    | _ => none

/-- A call of a function that has a body. -/
def callA (run : CodeRun) (f : FuncId) (args : List Value) (h : AHeap) : Option (Value × AHeap) :=
  match E.intr.get f with
  | some g => g args h
  | none =>
    match E.fn.get f with
    | none => none
    | some fn => match fn.body with
      | none => none
      | some c => match run none c { tmps := loadArgs args 0 .nil, heap := { h with low := h.next }, marks := [] } with
        | some (.exit _, _) => none
        | some (_, s) => match closeA s.marks s.heap with
          | none => none
          | some hc => match resA E fn { s with heap := hc } with
            | none => none
            | some v => match flat v && Nat.ble h.next hc.low with
              | true => some (v, h)
              | false => some (v, { hc with low := Nat.min h.low hc.low })
        | none => none

def jumpA : AExit → Option Code
  | .normal => none
  | .ret => some .ret
  | .exit id => some (.exit id)

def loadParams : List Tmp → List Value → T Value → Option (T Value)
  | [], [], t => some t
  | p :: ps, v :: vs, t => loadParams ps vs (t.put p v)
  | _, _, _ => none

/-- One round of a range over a function. -/
def roundA (run : CodeRun) (l : Nat) (args : List Value) (h : AHeap) : Option (Value × AHeap) :=
  match h.get l with
  | some (.loop _ _ tmps params assign body _) =>
    match loadParams params args tmps with
    | none => none
    | some t => match run (some l) assign { tmps := t, heap := h, marks := [] } with
      | some (.normal, s1) => match s1.heap.get l with
        | some (.loop .ready p1 t1 q1 a1 b1 d1) =>
          match run (some l) body { s1 with heap := s1.heap.set l (.loop .busy p1 t1 q1 a1 b1 d1) } with
          | some (e, s2) => match s2.heap.get l with
            | some (.loop _ _ t2 q2 a2 b2 d2) =>
              some (.bool (jumpA e).isNone, s2.heap.set l (.loop (if (jumpA e).isNone then .ready else .done) (jumpA e) t2 q2 a2 b2 d2))
            | _ => none
          | none => none
        | _ => none
      | _ => none
  | _ => none

def callOp (run : CodeRun) (s : T Value) (h : AHeap) (c : Call) : Option (Value × AHeap) :=
  match evalL s c.args.toList with
  | none => none
  | some args =>
    match c.callee with
    | .builtin b => builtinA E h b c.argTypes.toList args
    | .value f => match (evalO s f).bind fun f => calleeA f args with
      | some (.fn g as) => callA E run g as h
      | some (.yield l as) => roundA run l as h
      | none => none
    | .invoke .. => none

def stepA (run : CodeRun) (s : T Value) (h : AHeap) (o : Oper) : Option (Option Value × AHeap) :=
  match o.op with
  | .call c => (callOp E run s h c).map fun (v, h') => (some v, h')
  | _ => aop E s h o

def seqOps (run : CodeRun) (ops : List Oper) : List Oper → T Value → AHeap → Option (T Value × AHeap)
  | [], s, h => some (s, h)
  | o :: rest, s, h => match wantedA ops s o with
    | some true => match stepA E run s h o with
      | some (v, h') => seqOps run ops rest (putT s o.dst v) h'
      | none => none
    | some false => seqOps run ops rest (putT s o.dst none) h
    | none => none

/-! ### Values that are the same -/
def eqI : Int → Int → Bool
  | .ofNat m, .ofNat n => Nat.beq m n
  | .negSucc m, .negSucc n => Nat.beq m n
  | _, _ => false
def eqL {α : Type} (f : α → α → Bool) : List α → List α → Bool
  | [], [] => true
  | a :: r, b :: q => match f a b with
    | true => eqL f r q
    | false => false
  | _, _ => false
def eqB8 (a b : UInt8) : Bool := Nat.beq a.toNat b.toNat
def eqC : Value → Value → Bool
  | .int .i64 a, .int .i64 b => eqI a b
  | .bool true, .bool true => true
  | .bool false, .bool false => true
  | .string ⟨⟨s⟩⟩, .string ⟨⟨t⟩⟩ => eqL eqB8 s t
  | .slice (some ⟨i, o, none⟩) n c, .slice (some ⟨j, p, none⟩) m d => match Nat.beq i j, Nat.beq o p, Nat.beq n m, Nat.beq c d with
    | true, true, true, true => true
    | _, _, _, _ => false
  | _, _ => false
def sameO : Option Value → Option Value → Bool
  | some a, some b => eqC a b
  | none, none => true
  | _, _ => false
def isLook (o : Oper) : Bool := match o.op with
  | .lookup .. => true
  | _ => false
def ptrB : Option Value → Option Nat
  | some (.pointer (some ⟨b, _, none⟩)) => some b
  | _ => none
/-- What is read of a block that no operation of the region writes: out of a memory of this block alone. -/
def qLoad (q : List Nat) (s : T Value) (h : AHeap) (o : Oper) : Option AHeap :=
  match o.op with
  | .load _ p => match ptrB (evalO s p) with
    | some b => match q.any (Nat.beq b) with
      | true => match h.get b with
        | some (.cells c el) => match c.all flatCell with
          | true => some { m := T.put .nil b (.cells c el), next := h.next, low := h.next }
          | false => none
        | _ => none
      | false => none
    | none => none
  | _ => none
def mapB : Option Value → Option Nat
  | some (.map (some b)) => some b
  | _ => none
/-- A writer leaves those blocks alone. -/
def wOk (q : List Nat) (s : T Value) (o : Oper) : Bool :=
  match q with
  | [] => true
  | _ => match o.op with
    | .store _ p _ => match ptrB (evalO s p) with
      | some b => !q.any (Nat.beq b)
      | none => false
    | .mapEntry _ m _ => match mapB (evalO s m) with
      | some b => !q.any (Nat.beq b)
      | none => false
    | .entryStore _ m _ _ => match mapB (evalO s m) with
      | some b => !q.any (Nat.beq b)
      | none => false
    | _ => false
def loadsL (s : T Value) : List Oper → List Nat
  | [] => []
  | o :: r => match o.op with
    | .load _ p => match ptrB (evalO s p) with
      | some b => b :: loadsL s r
      | none => loadsL s r
    | _ => loadsL s r
def storesL (s : T Value) : List Oper → List Nat
  | [] => []
  | o :: r => match o.op with
    | .store _ p _ => match ptrB (evalO s p) with
      | some b => b :: storesL s r
      | none => storesL s r
    | _ => storesL s r
def quietQ (s : T Value) (h : AHeap) (ops : List Oper) : List Nat := (loadsL s ops).filter fun b => Nat.blt b h.next && !(storesL s ops).any (Nat.beq b)

/-- One operation of a region that draws its order: what it leaves; 0: it asks memory nothing; 1: it changes nothing old; 2: it does. -/
def stepD (run : CodeRun) (ops : List Oper) (fl : Bool) (q : List Nat) (o : Oper) (s : T Value) (h : AHeap) : Option (T Value × AHeap × Nat) :=
  match wantedA ops s o with
  | some true => match isPure E o with
    | true => match stepA E run s { m := .nil, next := h.next, low := h.next } o with
      | some (v, h') => match Nat.beq h'.next h.next && Nat.beq h'.low h.next with
        | true => some (putT s o.dst v, h, 0)
        | false => none
      | none => none
    | false => match fl && isLook o with
    | true => match stepA E run s { h with low := h.next } o with
      | some (v, h') => match Nat.beq h'.next h.next && Nat.beq h'.low h.next with
        | true => some (putT s o.dst v, h, 0)
        | false => none
      | none => none
    | false => match qLoad q s h o with
      | some hb => match stepA E run s hb o with
        | some (v, h') => match Nat.beq h'.next h.next && Nat.beq h'.low h.next with
          | true => some (putT s o.dst v, h, 0)
          | false => none
        | none => none
      | none => match stepA E run s { h with low := h.next } o with
        | some (v, h') => match wOk q s o || !(Nat.blt h'.low h.next) with
          | true => some (putT s o.dst v, { h' with low := Nat.min h.low h'.low }, match Nat.blt h'.low h.next with | true => 2 | false => 1)
          | false => none
        | none => none
  | some false => some (putT s o.dst none, h, 0)
  | none => none

/-- All of them, in the text's order; their kinds, the last first. -/
def drawOps (run : CodeRun) (ops : List Oper) (fl : Bool) (q : List Nat) : List Oper → T Value → AHeap → List Nat → Option (T Value × AHeap × List Nat)
  | [], s, h, ks => some (s, h, ks)
  | o :: rest, s, h, ks => match stepD E run ops fl q o s h with
    | some (s', h', k) => drawOps run ops fl q rest s' h' (ks ++ [k])
    | none => none

/-- Which operations must have come before each: the numbers' bits. -/
def befOne (acc : List Nat) (o : Oper) : Nat :=
  o.after.toList.foldr (fun e s => match Region.binds .any e with | true => Nat.lor (Nat.lor s (2 ^ e.on)) (acc.getD e.on 0) | false => s) 0
def befL : List Oper → List Nat → List Nat
  | [], acc => acc
  | o :: r, acc => befL r (acc ++ [befOne acc o])
def isBef (b : List Nat) (i j : Nat) : Bool := Nat.testBit (b.getD j 0) i
/-- Of two operations where one writes and the other asks memory too, the earlier in the text must come first. -/
def drawOk (b ks : List Nat) : Bool :=
  (List.range ks.length).all fun j => (List.range j).all fun i =>
    match ks.getD i 0, ks.getD j 0 with
    | 2, 0 | 0, _ => true
    | 2, _ | _, 2 => isBef b i j
    | _, _ => true
def noWriter (ks : List Nat) : Bool := ks.all fun k => !(Nat.beq k 2)

/-- Lookups may come before or behind writers, if they find the same. -/
def floatAt (run : CodeRun) (L : List Oper) (q : List Nat) (s : T Value) (h : AHeap) (i j : Nat) (o : Oper) : Bool :=
  match drawOps E run L true q (L.take i) s h [], drawOps E run L true q (L.take (j + 1)) s h [] with
  | some (si, hi, _), some (_, hj, _) => match stepA E run si { hi with low := hi.next } o, stepA E run si { hj with low := hj.next } o with
    | some (v, _), some (v2, h2) => sameO v v2 && (Nat.beq hj.next hi.next && (Nat.beq h2.next hi.next && Nat.beq h2.low hi.next))
    | _, _ => false
  | _, _ => false
def floatSt (L : List Oper) (b ks : List Nat) : Bool :=
  (List.range L.length).all fun i => match L[i]? with
    | some o => match isLook o with
      | true => (List.range i).all fun j => match Nat.beq (ks.getD j 0) 2 with
        | true => isBef b j i
        | false => true
      | false => true
    | none => true
def floatPairs (L : List Oper) (b ks : List Nat) : List (Nat × Nat × Oper) :=
  (List.range L.length).flatMap fun i => match L[i]? with
    | some o => match isLook o with
      | true => ((List.range L.length).filter fun j => Nat.blt i j && (Nat.beq (ks.getD j 0) 2 && !isBef b i j)).map fun j => (i, j, o)
      | false => []
    | none => []
def floatAll (run : CodeRun) (L : List Oper) (q : List Nat) (s : T Value) (h : AHeap) : List (Nat × Nat × Oper) → Bool
  | [] => true
  | (i, j, o) :: r => match floatAt E run L q s h i j o with
    | true => floatAll run L q s h r
    | false => false

def regionA (run : CodeRun) (ops : Array Oper) (draw : Bool) (s : ASt) : Option ASt :=
  match draw with
  | false => (seqOps E run ops.toList ops.toList s.tmps s.heap).map fun (t, h) => { s with tmps := t, heap := h }
  | true => match drawOps E run ops.toList false [] ops.toList s.tmps s.heap [] with
    | some (t, h, ks) => match noWriter ks || drawOk (befL ops.toList []) ks with
      | true => some { s with tmps := t, heap := h }
      | false => match drawOps E run ops.toList true (quietQ t s.heap ops.toList) ops.toList s.tmps s.heap [] with
        | some (t2, h2, ks2) => match (noWriter ks2 || drawOk (befL ops.toList []) ks2) && floatSt ops.toList (befL ops.toList []) ks2 with
          | true => match floatAll E run ops.toList (quietQ t s.heap ops.toList) s.tmps s.heap (floatPairs ops.toList (befL ops.toList []) ks2) with
            | true => some { s with tmps := t2, heap := h2 }
            | false => none
          | false => none
        | none => none
    | none => none

/-- Where a range over a function keeps the calls that its rounds defer. -/
def enterA (rd : Option Nat) (h : AHeap) (marks : List Nat) : Option (Nat × AHeap × List Nat) :=
  match rd with
  | none => some (h.next, h.alloc .defers, h.next :: marks)
  | some l => match h.get l with
    | some (.loop _ _ _ _ _ _ d) => some (d, h, marks)
    | _ => none

def exitA : Option Code → Option AExit
  | none => some .normal
  | some .ret => some .ret
  | some (.exit id) => some (.exit id)
  | some _ => none

def rangeFuncA (go : CodeRun) (rd : Option Nat) (g : Operand) (ps : Array Tmp) (assign body : Code) (s : ASt) : Option (AExit × ASt) :=
  match evalO s.tmps g, enterA rd s.heap s.marks with
  | some gv, some (d, h, marks) =>
    match calleeA gv [.func (.yield h.next) #[] #[]] with
    | some (.fn f args) => match E.intr.get f, callA E go f args (h.alloc (.loop .ready none s.tmps ps.toList assign body d)) with
      | none, some (_, h1) => match h1.get h.next with
        | some (.loop st pending t1 q1 a1 b1 d1) => match st with
          | .busy => none
          | _ => match exitA pending with
            | some x => some (x, { tmps := s.tmps, heap := h1.set h.next (.loop .exhausted pending t1 q1 a1 b1 d1), marks })
            | none => none
        | _ => none
      | _, _ => none
    | _ => none
  | _, _ => none

def exStep (go : CodeRun) (rd : Option Nat) (c : Code) (s : ASt) : Option (AExit × ASt) :=
    match c with
    | .skip | .label _ => some (.normal, s)
    | .ret => some (.ret, s)
    | .exit id => some (.exit id, s)
    | .seq x y => match go rd x s with
      | some (.normal, s') => go rd y s'
      | r => r
    | .cond q x y => match evalO s.tmps q with
      | some (.bool true) => go rd x s
      | some (.bool false) => go rd y s
      | _ => none
    | .block id b => match go rd b s with
      | some (.exit i, s') => match Nat.beq i id with
        | true => some (.normal, s')
        | false => some (.exit i, s')
      | r => r
    | .scope b => go rd b s
    | .loop b => match go rd b s with
      | some (.normal, s') => go rd (.loop b) s'
      | r => r
    | .rangeFunc g ps assign body => rangeFuncA E go rd g ps assign body s
    | .region _ ops draw => (regionA E go ops draw s).map fun s' => (.normal, s')
    | _ => none

/-- The code's run, to a depth. -/
def ex (n : Nat) : CodeRun := Nat.rec (motive := fun _ => CodeRun) (fun _ _ _ => none) (fun _ go => exStep E go) n

end ops

/-! ### What is asked of the program's text -/
def readsL (xs : List Operand) (t : Tmp) : Bool := xs.any fun | .tmp u => Nat.beq u t | _ => false
def optL : Option Operand → List Operand
  | some x => [x]
  | none => []
/-- The operands of an operation that the evaluator knows. -/
def operands : Op → List Operand
  | .move x | .assign x | .box _ x | .load _ x | .nilCheck x | .unOp _ _ x | .convert _ _ x | .fieldAddr _ x _ | .field _ x _ | .range _ x | .next x _ | .entry x | .makeInterface _ x | .extract x _ => [x]
  | .pick a b c => [a, b, c]
  | .build _ ps | .buildSlice _ _ ps => ps.toList.map (·.2)
  | .store _ a x | .binOp _ _ a x _ | .makeSlice _ a x | .indexAddr _ a x | .index _ a x => [a, x]
  | .makeFunc _ f c => f.toList ++ c.toList
  | .slice _ x lo hi _ => x :: (optL lo ++ optL hi)
  | .lookup _ x i _ => [x, i]
  | .mapEntry _ m k => [m, k]
  | .entryStore _ m k x => [m, k, x]
  | .mapUpdate _ m k x => [m, k, x]
  | .call c => (match c.callee with | .value f => [f] | _ => []) ++ c.args.toList
  | _ => []
def reads (ops : List Oper) (o : Oper) (t : Tmp) : Bool :=
  readsL (operands o.op) t || (match o.guard with
    | some (g, _) => match (ops[g]?).bind (·.dst) with | some d => Nat.beq d t | none => false
    | none => false)
def dstIs (o : Oper) (t : Tmp) : Bool := match o.dst with | some d => Nat.beq d t | none => false
/-- Where one operation names what another leaves, they stand in the order of the text. -/
def depOk (ops : List Oper) : Bool :=
  let b := befL ops []
  (List.range ops.length).all fun j => (List.range j).all fun i =>
    match ops[i]?, ops[j]? with
    | some p, some q =>
      isBef b i j ||
        ((match p.dst with | some d => !(dstIs q d || reads ops q d) | none => true) && (match q.dst with | some d => !(reads ops p d) | none => true))
    | _, _ => true
def edgesOk (ops : List Oper) : Bool :=
  (List.range ops.length).all fun j => match ops[j]? with
    | some o => o.after.toList.all fun e => match Region.binds .any e with | true => Nat.blt e.on j | false => true
    | none => true
def codeOk (N : Nat) : Code → Bool
  | .region _ ops draw => (ops.toList.all fun o => match o.dst with | some d => Nat.blt d N | none => true) && (!draw || (depOk ops.toList && edgesOk ops.toList))
  | .seq a b => codeOk N a && codeOk N b
  | .cond _ a b => codeOk N a && codeOk N b
  | .block _ b => codeOk N b
  | .loop b => codeOk N b
  | .scope b => codeOk N b
  | .rangeFunc _ ps assign body => ps.toList.all (fun p => Nat.blt p N) && codeOk N assign && codeOk N body
  | _ => true
end Go.Proofs.YtlkhpgocbojdgaaGreatDoor.Ai

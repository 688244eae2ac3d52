/-
  THE EVALUATOR ALONG ONE WAY, where some values are not known: what it cannot reckon it asks of a list of facts, and it tells what it asked.
-/
import Derived.Test.YtlkhpgocbojdgaaGreatDoorAiDen
namespace Go.Proofs.YtlkhpgocbojdgaaGreatDoor.Ai
open Go
set_option linter.unusedSimpArgs false
set_option linter.unusedVariables false

/-- How a state is named anew: what becomes of a block, of a temporary. -/
inductive CanT where
  | same
  | flatV
  | nilG (b z : Nat)
  | upG (z : Nat)
inductive CanB where
  | old (o : Nat)
  | flat (o : Nat)
  | dummy (e : TypeId)
  | loop (o : Nat) (tmps : List (Nat × CanT))
structure Can where
  next : Nat
  blocks : List (Nat × CanB)
  tmps : List (Nat × CanT)

inductive Fact where
  | go (n : Nat)
  | b (a r : Bool)
  | n (a r : Nat)
  | v (a r : Value)
  | l (a r : List Value)
  | ol (a : Option (List Value)) (r : List Value)
  | ov (a : Option Value) (r : Value)
  | on (a : Option Nat) (r : Nat)
  | om (a : Option (List MapEntry × Nat)) (r : List MapEntry × Nat)
  | oc (a : Option (Value × AHeap)) (r : Value × AHeap)
  | loop (sp : Can) (c : Code) (s : ASt) (x : AExit) (s' : ASt)

def Fact.ok (D : Code → ASt → AExit → ASt → Prop) : Fact → Prop
  | .go _ => True
  | .b a r => a = r
  | .n a r => a = r
  | .v a r => a = r
  | .l a r => a = r
  | .ol a r => a = some r
  | .ov a r => a = some r
  | .on a r => a = some r
  | .om a r => a = some r
  | .oc a r => a = some r
  | .loop _ c s x s' => D c s x s'

def AllOk (D : Code → ASt → AExit → ASt → Prop) : List Fact → Prop
  | [] => True
  | f :: fs => f.ok D ∧ AllOk D fs

def strip : List Fact → List Fact
  | [] => []
  | .go _ :: fs => strip fs
  | f :: fs => f :: strip fs

inductive Out (α : Type) where
  | ok (a : α) (rest tr : List Fact)
  | need (f : Fact)
  | bad (k : Nat)

def M (α : Type) := List Fact → Out α
def M.pure {α : Type} (a : α) : M α := fun fs => .ok a fs []
def M.fail {α : Type} (k : Nat) : M α := fun _ => .bad k
def M.bind {α β : Type} (m : M α) (f : α → M β) : M β := fun fs => match m fs with
  | .ok a rest tr => match f a rest with
    | .ok b rest' tr' => .ok b rest' (tr ++ tr')
    | .need f => .need f
    | .bad k => .bad k
  | .need f => .need f
  | .bad k => .bad k
instance : Monad M where
  pure := M.pure
  bind := M.bind

def ask {α : Type} (a : α) (f : Fact) (take : Fact → Option α) (mk : α → Fact) : M α
  | [] => .need f
  | .go 0 :: rest => ask a f take mk rest
  | .go 1 :: rest => .ok a rest []
  | .go (n + 2) :: rest => .ok a (.go (n + 1) :: rest) []
  | x :: rest => match take x with
    | some r => .ok r rest [mk r]
    | none => .need f

def askB (a : Bool) : M Bool := ask a (.b a true) (fun | .b _ r => some r | _ => none) (.b a)
def askN (a : Nat) : M Nat := ask a (.n a 0) (fun | .n _ r => some r | _ => none) (.n a)
def askV (a : Value) : M Value := ask a (.v a a) (fun | .v _ r => some r | _ => none) (.v a)
def askL (a : List Value) : M (List Value) := ask a (.l a a) (fun | .l _ r => some r | _ => none) (.l a)
/-- What may be none. -/
def askO {α : Type} (a : Option α) (f : Fact) (take : Fact → Option α) (mk : α → Fact) : M α
  | [] => .need f
  | .go 0 :: rest => askO a f take mk rest
  | .go 1 :: rest => match a with
    | some x => .ok x rest []
    | none => .bad 1
  | .go (n + 2) :: rest => match a with
    | some x => .ok x (.go (n + 1) :: rest) []
    | none => .bad 1
  | x :: rest => match take x with
    | some r => .ok r rest [mk r]
    | none => .need f
def askOL (a : Option (List Value)) : M (List Value) := askO a (.ol a []) (fun | .ol _ r => some r | _ => none) (.ol a)
def askOV (a : Option Value) : M Value := askO a (.ov a .nilIface) (fun | .ov _ r => some r | _ => none) (.ov a)
def askON (a : Option Nat) : M Nat := askO a (.on a 0) (fun | .on _ r => some r | _ => none) (.on a)
def askOM (a : Option (List MapEntry × Nat)) : M (List MapEntry × Nat) := askO a (.om a ([], 0)) (fun | .om _ r => some r | _ => none) (.om a)
def askOC (a : Option (Value × AHeap)) : M (Value × AHeap) := askO a (.oc a (.nilIface, ⟨.nil, 0, 0⟩)) (fun | .oc _ r => some r | _ => none) (.oc a)

def M.of {α : Type} (k : Nat) : Option α → M α
  | some a => M.pure a
  | none => M.fail k

noncomputable section ops
variable (E : Env)

abbrev XRun := Option Nat → Code → ASt → M (AExit × ASt)

def flatBin (op : BinOp) (t : TypeId) (x y : Operand) (a b : Value) : Option Value := okFlat (runP E.P (do eqGuard op t x y a b; binOp op t a b))
def binX (op : BinOp) (t : TypeId) (x y : Operand) (a b : Value) : M Value :=
  match a, b with
  | .int k x, .int j y => match sameKind k j with
    | true => askOV (intA E op k x y)
    | false => M.fail 2
  | .string p, .string q => askOV (strOp op p.data.toList q.data.toList)
  | _, _ =>
    match flat a && flat b with
    | true => askOV (flatBin E op t x y a b)
    | false => askOV (match E.ty.get t with
      | some i => eqlA op (nilEq E i.desc a b)
      | none => none)

def boundsX (len cap : Nat) (lo hi : Option Value) : M (Nat × Nat) := do
  let h ← (match hi with | some v => askON (natV v) | none => M.pure len)
  let l ← (match lo with | some v => askON (natV v) | none => M.pure 0)
  let t ← askB (Nat.ble l h && Nat.ble h cap)
  match t with
  | true => M.pure (l, h)
  | false => M.fail 3

def sliceX (desc : TypeDesc) (x : Value) (lo hi : Option Value) : M Value :=
  match desc, x with
  | .string, .string s => do
    let (l, h) ← boundsX s.size s.size lo hi
    askV (.string ⟨⟨(s.data.toList.drop l).take (h - l)⟩⟩)
  | .slice elem, .slice (some a) len cap =>
    match sizeT E elem with
    | none => M.fail 4
    | some size => do
      let t0 ← askB (Nat.blt cap SL)
      match t0 with
      | true => do
        let (l, h) ← boundsX len cap lo hi
        let t ← askB (Nat.beq l cap)
        match t with
        | true => M.pure (.slice (some a) (h - l) (cap - l))
        | false => do
          let off ← askN (a.off + l * size)
          let n ← askN (h - l)
          let c ← askN (cap - l)
          M.pure (.slice (some ⟨a.block, off, none⟩) n c)
      | false => askOV (sliceA E desc x lo hi)
  | _, _ => askOV (sliceA E desc x lo hi)

def loadX (h : AHeap) : Option Value → Option TyI → M (Option Value × AHeap)
  | some (.pointer (some p)), some i => match h.get p.block with
    | some (.cells c _) => do
      let l ← askOL (slice? c p.off i.size)
      M.of 6 (ret h (wrapCells (isAggD i.desc) l))
    | some (.ro c) => do
      let l ← askOL (slice? c p.off i.size)
      match l.any isDead with
      | false => M.of 6 (ret h (wrapCells (isAggD i.desc) l))
      | true => M.fail 35
    | _ => M.fail 7
  | _, _ => M.fail 8

def storeX (h : AHeap) : Option Value → Option Value → Option TyI → M (Option Value × AHeap)
  | some (.pointer (some p)), some z, some i => match Nat.beq z.cells.toList.length i.size, h.get p.block with
    | true, some (.cells c e) => match z.cells.toList.all (·.oneCell') with
      | true => do
        let c' ← askOL (splice c p.off z.cells.toList)
        M.pure (none, h.set p.block (.cells c' e))
      | false => M.fail 9
    | _, _ => M.fail 10
  | _, _, _ => M.fail 11

def srcX (h : AHeap) (size n : Nat) : Value → M (List Value)
  | .string s => M.pure ((bytesCells s).take n)
  | .slice (some a) _ _ => do
    let t ← askB (Nat.beq n 0)
    match t, h.get a.block with
    | true, _ => M.pure []
    | false, some (.cells c _) => askOL (slice? c a.off (n * size))
    | false, some (.ro c) => do
      let l ← askOL (slice? c a.off (n * size))
      let t ← askB (l.any isDead)
      match t with
      | false => M.pure l
      | true => M.fail 36
    | _, _ => M.fail 12
  | .slice none _ _ => M.pure []
  | _ => M.fail 13

def growX (h : AHeap) (elem : TypeId) (size bytes n : Nat) (cells : List Value) : M (Value × AHeap) := do
  let t ← askB (Nat.ble (n * bytes) 1099511627776 && Nat.blt n 4611686018427387904 && Nat.blt size 1099511627776)
  match t with
  | true => do
    let m ← askN n
    let c ← askL cells
    M.pure (.slice (some ⟨h.next, 0, none⟩) m (upCap size m), h.alloc (.cells c elem))
  | false => M.fail 14

def growGX (h : AHeap) (elem : TypeId) (size bytes n : Nat) (cells : List Value) : M (Value × AHeap) := do
  let t ← askB (Nat.ble (n * bytes) 1099511627776 && Nat.blt n 4611686018427387904 && Nat.blt size 1099511627776)
  match t with
  | true => do
    let m ← askN n
    let c ← askL cells
    M.pure (.slice (some ⟨h.next, 0, none⟩) m (GC size), h.alloc (.cells c elem))
  | false => M.fail 15

def appendX (h : AHeap) (elem : TypeId) (size bytes : Nat) (s : Value) (n : Nat) (news : List Value) : M (Value × AHeap) :=
  match s with
  | .slice none 0 0 => do
    let t ← askB (Nat.beq n 0)
    match t with
    | true => M.pure (.slice none 0 0, h)
    | false => growX h elem size bytes n news
  | .slice (some a) len cap => do
    let t0 ← askB (Nat.blt cap SL)
    match t0 with
    | true => do
      let t ← askB (Nat.ble (len + n) cap)
      match t, h.get a.block with
      | true, some (.cells c e) => do
        let t ← askB (news.all (·.oneCell'))
        match t with
        | true => do
          let c' ← askOL (splice c (a.off + len * size) news)
          let m ← askN (len + n)
          M.pure (.slice (some a) m cap, h.set a.block (.cells c' e))
        | false => M.fail 16
      | false, _ => do
        let old ← askOL (sliceCells h size (.slice (some a) len cap))
        growX h elem size bytes (len + n) (old ++ news)
      | _, _ => M.fail 17
    | false => do
      let t1 ← askB (Nat.beq cap (GC size))
      match t1 with
      | true => match h.get a.block, a.off with
        | some (.cells c e), 0 => do
          let t ← askB (Nat.beq e elem && Nat.beq c.length (len * size) && news.all (·.oneCell'))
          match t with
          | true => growGX (h.kill a.block) elem size bytes (len + n) (c ++ news)
          | false => M.fail 18
        | _, _ => M.fail 19
      | false => askOC (appendA h elem size bytes s n news)
  | _ => M.fail 20

def maxF (args : List Value) : Option Value := okFlat (runP E.P (Builtin.max_ #[] 0 ⟨args⟩))
def minF (args : List Value) : Option Value := okFlat (runP E.P (Builtin.min_ #[] 0 ⟨args⟩))

def builtinX (h : AHeap) (b : Builtin) (tys : List TypeId) (args : List Value) : M (Value × AHeap) :=
  match b, tys, args with
  | .len, [t], [x] => M.of 21 (lenBA h (E.ty.get t) x)
  | .max, _, _ => match args.all flat with
    | true => do
      let v ← askOV (maxF E args)
      M.pure (v, h)
    | false => M.fail 22
  | .min, _, _ => match args.all flat with
    | true => do
      let v ← askOV (minF E args)
      M.pure (v, h)
    | false => M.fail 23
  | .append, [t, u], [s, x] =>
    match elemD (E.ty.get t), isInt (E.ty.get u) with
    | some elem, some false =>
      match E.ty.get elem, lenA x with
      | some i, some n => do
        let news ← srcX h i.size n x
        let t ← askB (Nat.beq news.length (n * i.size))
        match t with
        | true => appendX h elem i.size i.bytes s n news
        | false => M.fail 24
      | _, _ => M.fail 25
    | _, _ => M.fail 26
  | b, tys, args => askOC (builtinA E h b tys args)

def indexAddrX (h : AHeap) : Option TyI → Option Value → Option Nat → M (Option Value × AHeap)
  | some { desc := .slice elem, .. }, some (.slice (some a) len _), ix => do
    let i ← askON ix
    let t ← askB (Nat.blt i len)
    match t, sizeT E elem with
    | true, some z => do
      let off ← askN (a.off + i * z)
      M.pure (some (.pointer (some ⟨a.block, off, none⟩)), h)
    | _, _ => M.fail 27
  | some { desc := .array len elem, .. }, some (.pointer (some a)), ix => do
    let i ← askON ix
    let t ← askB (Nat.blt i len)
    match t, sizeT E elem with
    | true, some z => do
      let off ← askN (a.off + i * z)
      M.pure (some (.pointer (some ⟨a.block, off, none⟩)), h)
    | _, _ => M.fail 28
  | _, _, _ => M.fail 29

def strAt (s : ByteArray) (i : Nat) : Option Value := match s.data.toList[i]? with
  | some c => some (.int .u8 c.toNat)
  | none => none

def indexX (h : AHeap) : Option TyI → Option Value → Option Nat → M (Option Value × AHeap)
  | some { desc := .string, .. }, some (.string b), ix => do
    let i ← askON ix
    let v ← askOV (strAt b i)
    M.pure (some v, h)
  | some { desc := .array len elem, .. }, some (.agg cs), ix => do
    let i ← askON ix
    let t ← askB (Nat.blt i len)
    match t, E.ty.get elem with
    | true, some z => do
      let l ← askOL (slice? cs.toList (i * z.size) z.size)
      M.of 30 (ret h (wrapCells (isAggD z.desc) l))
    | _, _ => M.fail 31
  | _, _, _ => M.fail 32

def lookupV (ok : Bool) (kt et : TypeId) (es : List MapEntry) (k : Value) : Option Value :=
  match runP E.P (Instr.checkKey es.isEmpty 10000 kt k), runP E.P (Instr.findKey kt k es), zeroOf E et with
  | some _, some (some (_, v)), some _ => some (match ok with | true => .tuple #[v, .bool true] | false => v)
  | some _, some none, some z => some (match ok with | true => .tuple #[z, .bool false] | false => z)
  | _, _, _ => none
def lookupX (h : AHeap) (ok : Bool) (d : Option (TypeId × TypeId)) (es : Option (List MapEntry)) (k : Option Value) : M (Option Value × AHeap) :=
  match d, es, k with
  | some (kt, et), some es, some k => do
    let v ← askOV (lookupV E ok kt et es k)
    M.pure (some v, h)
  | _, _, _ => M.fail 33

def updateV (kt : TypeId) (es : List MapEntry) (clock : Nat) (k x : Value) : Option (List MapEntry × Nat) :=
  match runP E.P (Instr.checkKey false 10000 kt k), runP E.P (Instr.findKey kt k es) with
  | some _, some (some (i, _)) => match es[i]? with
    | some e => match Instr.sameBits 10000 e.key k with
      | true => some (es.modify i fun e => { e with key := k, val := x }, clock)
      | false => none
    | none => none
  | some _, some none => some (es ++ [{ key := k, val := x, born := clock }], clock + 1)
  | _, _ => none
def mapUpdateX (h : AHeap) (d : Option (TypeId × TypeId)) (m : Option (Nat × List MapEntry × Nat)) (k x : Option Value) : M (Option Value × AHeap) :=
  match d, m, k, x with
  | some (kt, _), some (r, es, clock), some k, some x => do
    let p ← askOM (updateV E kt es clock k x)
    M.pure (none, h.set r (.map p.1 p.2))
  | _, _, _, _ => M.fail 34

def entM (kt et : TypeId) (es : List MapEntry) (clock : Nat) (k : Value) : Option (List MapEntry × Nat) :=
  match runP E.P (Instr.checkKey false 10000 kt k), runP E.P (Instr.findKey kt k es), zeroOf E et with
  | some _, some (some (i, _)), _ => match es[i]? with
    | some e => match Instr.sameBits 10000 e.key k with
      | true => some (es.modify i fun e => { e with key := k }, clock)
      | false => none
    | none => none
  | some _, some none, some z => some (es ++ [{ key := k, val := z, born := clock }], clock + 1)
  | _, _, _ => none
def entV (kt et : TypeId) (es : List MapEntry) (clock : Nat) (k : Value) : Option Value :=
  match runP E.P (Instr.findKey kt k es), zeroOf E et with
  | some (some (i, v)), _ => match es[i]? with
    | some e => some (.tuple #[v, .int .i64 e.born])
    | none => none
  | some none, some z => some (.tuple #[z, .int .i64 clock])
  | _, _ => none
def mapEntryX (h : AHeap) (d : Option (TypeId × TypeId)) (m : Option (Nat × List MapEntry × Nat)) (k : Option Value) : M (Option Value × AHeap) :=
  match d, m, k with
  | some (kt, et), some (r, es, clock), some k => do
    let p ← askOM (entM E kt et es clock k)
    let v ← askOV (entV E kt et es clock k)
    M.pure (some v, h.set r (.map p.1 p.2))
  | _, _, _ => M.fail 73
def storeM (es : List MapEntry) (clock : Nat) (b : Int) (x : Value) : Option (List MapEntry × Nat) :=
  match es.findIdx? (fun e => (e.born : Int) == b) with
  | some i => some (es.modify i fun e => { e with val := x }, clock)
  | none => none
def entryStoreX (h : AHeap) (m : Option (Nat × List MapEntry × Nat)) (st x : Option Value) : M (Option Value × AHeap) :=
  match m, st.bind intV, x with
  | some (r, es, clock), some b, some x => do
    let p ← askOM (storeM es clock b x)
    M.pure (none, h.set r (.map p.1 p.2))
  | _, _, _ => M.fail 74
def entryV (seen : List Nat) (stepped : Nat) (es : List MapEntry) (clock : Nat) : Option Value :=
  match seen.getLast? with
  | some stamp => match Nat.beq clock stepped, es.find? (fun e => e.born == stamp) with
    | true, some e => some (.tuple #[e.key, e.val])
    | _, _ => none
  | none => none
def entryX (h : AHeap) : Option Value → M (Option Value × AHeap)
  | some (.pointer (some ⟨r, 0, none⟩)) => match h.get r with
    | some (.mapIter (some m) _ seen stepped) => match h.get m with
      | some (.map es clock) => do
        let v ← askOV (entryV seen stepped es clock)
        M.pure (some v, h)
      | _ => M.fail 75
    | _ => M.fail 76
  | _ => M.fail 77

def nextX (h : AHeap) : Option Value → M (Option Value × AHeap)
  | some (.pointer (some ⟨r, 0, none⟩)) => match h.get r with
    | some (.strIter z pos) => do
      let t ← askB (Nat.blt pos z.size)
      match t with
      | true => do
        let v ← askV (.int .i32 (Utf8.decode z pos).1)
        let p ← askN (pos + (Utf8.decode z pos).2)
        M.pure (some (.tuple #[.bool true, .int .i64 pos, v]), h.set r (.strIter z p))
      | false => M.pure (some (.tuple #[.bool false]), h)
    | _ => M.fail 35
  | _ => M.fail 36

def makeSliceX (h : AHeap) (elem : Option TypeId) (l c : Option Nat) : M (Option Value × AHeap) :=
  match elem with
  | some elem => match E.ty.get elem with
    | some i => do
      let l ← askON l
      let c ← askON c
      let t ← askB (Nat.ble l c && Nat.ble (c * i.bytes) 1048576 && Nat.ble c 1048576)
      match t with
      | true => do
        let cs ← askL (rep i.zero.cells.toList c)
        M.pure (some (.slice (some ⟨h.next, 0, none⟩) l c), h.alloc (.cells cs elem))
      | false => M.fail 37
    | none => M.fail 38
  | none => M.fail 39

/-- What one operation that calls nothing leaves. -/
def aopX (s : T Value) (h : AHeap) (o : Oper) : M (Option Value × AHeap) :=
  match o.op with
  | .pick c a b => match evalO s c with
    | some (.bool t) => do
      let t ← askB t
      match t with
      | true => M.of 70 (ret h (evalO s a))
      | false => M.of 71 (ret h (evalO s b))
    | _ => M.fail 72
  | .load t a => loadX h (evalO s a) (E.ty.get t)
  | .store t a x => storeX h (evalO s a) (evalO s x) (E.ty.get t)
  | .binOp op t x y _ => match evalO s x, evalO s y with
    | some a, some b => do
      let v ← binX E op t x y a b
      M.pure (some v, h)
    | _, _ => M.fail 40
  | .unOp op _ x => match evalO s x with
    | some a => match flat a with
      | true => do
        let v ← askOV (okFlat (runP E.P (Op.unary op a)))
        M.pure (some v, h)
      | false => M.fail 41
    | none => M.fail 42
  | .convert src dst x => match evalO s x, E.ty.get src, E.ty.get dst with
    | some (.int _ n), some _, some { desc := .int k, .. } => do
      let v ← askV (.int k (wrapF k n))
      M.pure (some v, h)
    | _, _, _ => M.of 43 (aop E s h o)
  | .makeSlice t l c => makeSliceX E h (elemD (E.ty.get t)) ((evalO s l).bind natV) ((evalO s c).bind natV)
  | .slice t x lo hi none => match E.ty.get t, evalO s x, optO s lo, optO s hi with
    | some i, some x, some lo, some hi => do
      let v ← sliceX E i.desc x lo hi
      M.pure (some v, h)
    | _, _, _, _ => M.fail 44
  | .indexAddr t x ix => indexAddrX E h (E.ty.get t) (evalO s x) ((evalO s ix).bind natV)
  | .index t x ix => indexX E h (E.ty.get t) (evalO s x) ((evalO s ix).bind natV)
  | .lookup t x ix ok => lookupX E h ok (mapD (E.ty.get t)) (entriesA h (evalO s x)) (flatKey (evalO s ix))
  | .mapUpdate t m k x => mapUpdateX E h (mapD (E.ty.get t)) (mapA h (evalO s m)) (flatKey (evalO s k)) (evalO s x)
  | .mapEntry t m k => mapEntryX E h (mapD (E.ty.get t)) (mapA h (evalO s m)) (flatKey (evalO s k))
  | .entryStore _ m st x => entryStoreX h (mapA h (evalO s m)) (evalO s st) (evalO s x)
  | .entry x => entryX h (evalO s x)
  | .next x true => nextX h (evalO s x)
  | _ => M.of 45 (aop E s h o)

def callX (run : XRun) (f : FuncId) (args : List Value) (h : AHeap) : M (Value × AHeap) :=
  match E.intr.get f with
  | some g => askOC (g args h)
  | none =>
    match E.fn.get f with
    | none => M.fail (1000 + f)
    | some fn => match fn.body with
      | none => M.fail (10000 + f)
      | some c => do
        let r ← run none c { tmps := loadArgs args 0 .nil, heap := { h with low := h.next }, marks := [] }
        match r with
        | (.exit _, _) => M.fail 46
        | (_, s) => match closeA s.marks s.heap with
          | none => M.fail 47
          | some hc => match resA E fn { s with heap := hc } with
            | none => M.fail 48
            | some v => match flat v && Nat.ble h.next hc.low with
              | true => M.pure (v, h)
              | false => M.pure (v, { hc with low := Nat.min h.low hc.low })

def roundX (run : XRun) (l : Nat) (args : List Value) (h : AHeap) : M (Value × AHeap) :=
  match h.get l with
  | some (.loop _ _ tmps params assign body _) =>
    match loadParams params args tmps with
    | none => M.fail 49
    | some t => do
      let r ← run (some l) assign { tmps := t, heap := h, marks := [] }
      match r with
      | (.normal, s1) => match s1.heap.get l with
        | some (.loop .ready p1 t1 q1 a1 b1 d1) => do
          let r ← run (some l) body { s1 with heap := s1.heap.set l (.loop .busy p1 t1 q1 a1 b1 d1) }
          match r with
          | (e, s2) => match s2.heap.get l with
            | some (.loop _ _ t2 q2 a2 b2 d2) =>
              M.pure (.bool (jumpA e).isNone, s2.heap.set l (.loop (if (jumpA e).isNone then .ready else .done) (jumpA e) t2 q2 a2 b2 d2))
            | _ => M.fail 50
        | _ => M.fail 51
      | _ => M.fail 52
  | _ => M.fail 53

def callOpX (run : XRun) (s : T Value) (h : AHeap) (c : Call) : M (Value × AHeap) :=
  match evalL s c.args.toList with
  | none => M.fail 54
  | some args =>
    match c.callee with
    | .builtin b => builtinX E h b c.argTypes.toList args
    | .value f => match (evalO s f).bind fun f => calleeA f args with
      | some (.fn g as) => callX E run g as h
      | some (.yield l as) => roundX run l as h
      | none => M.fail 55
    | .invoke .. => M.fail 56

def stepX (run : XRun) (s : T Value) (h : AHeap) (o : Oper) : M (Option Value × AHeap) :=
  match o.op with
  | .call c => do
    let p ← callOpX E run s h c
    M.pure (some p.1, p.2)
  | _ => aopX E s h o

def wantedX (ops : List Oper) (s : T Value) (o : Oper) : M Bool :=
  match o.guard with
  | none => M.pure true
  | some (g, want) => match (ops[g]?).bind (·.dst) with
    | some d => match s.get d with
      | some (.bool b) => do
        let t ← askB b
        M.pure (t == want)
      | some _ => M.pure false
      | none => M.fail 57
    | none => M.pure false

def seqX (run : XRun) (ops : List Oper) : List Oper → T Value → AHeap → M (T Value × AHeap)
  | [], s, h => M.pure (s, h)
  | o :: rest, s, h => do
    let t ← wantedX ops s o
    match t with
    | true => do
      let p ← stepX E run s h o
      seqX run ops rest (putT s o.dst p.1) p.2
    | false => seqX run ops rest (putT s o.dst none) h

def stepDX (run : XRun) (ops : List Oper) (fl : Bool) (q : List Nat) (o : Oper) (s : T Value) (h : AHeap) : M (T Value × AHeap × Nat) :=
  do
  let t ← wantedX ops s o
  match t with
  | true => match isPure E o with
    | true => do
      let p ← stepX E run s { m := .nil, next := h.next, low := h.next } o
      match Nat.beq p.2.next h.next && Nat.beq p.2.low h.next with
      | true => M.pure (putT s o.dst p.1, h, 0)
      | false => M.fail 58
    | false => match fl && isLook o with
    | true => do
      let p ← stepX E run s { h with low := h.next } o
      match Nat.beq p.2.next h.next && Nat.beq p.2.low h.next with
      | true => M.pure (putT s o.dst p.1, h, 0)
      | false => M.fail 55
    | false => match qLoad q s h o with
      | some hb => do
        let p ← stepX E run s hb o
        match Nat.beq p.2.next h.next && Nat.beq p.2.low h.next with
        | true => M.pure (putT s o.dst p.1, h, 0)
        | false => M.fail 56
      | none => do
        let p ← stepX E run s { h with low := h.next } o
        match wOk q s o || !(Nat.blt p.2.low h.next) with
        | true => M.pure (putT s o.dst p.1, { p.2 with low := Nat.min h.low p.2.low }, match Nat.blt p.2.low h.next with | true => 2 | false => 1)
        | false => M.fail 57
  | false => M.pure (putT s o.dst none, h, 0)

def drawX (run : XRun) (ops : List Oper) (fl : Bool) (q : List Nat) : List Oper → T Value → AHeap → List Nat → M (T Value × AHeap × List Nat)
  | [], s, h, ks => M.pure (s, h, ks)
  | o :: rest, s, h, ks => do
    let p ← stepDX E run ops fl q o s h
    drawX run ops fl q rest p.1 p.2.1 (ks ++ [p.2.2])

def floatAtX (run : XRun) (L : List Oper) (q : List Nat) (s : T Value) (h : AHeap) (i j : Nat) (o : Oper) : M Bool := do
  let p ← drawX E run L true q (L.take i) s h []
  let r ← drawX E run L true q (L.take (j + 1)) s h []
  let a ← stepX E run p.1 { p.2.1 with low := p.2.1.next } o
  let b ← stepX E run p.1 { r.2.1 with low := r.2.1.next } o
  let t ← askB (sameO a.1 b.1)
  M.pure (t && (Nat.beq r.2.1.next p.2.1.next && (Nat.beq b.2.next p.2.1.next && Nat.beq b.2.low p.2.1.next)))
def floatAllX (run : XRun) (L : List Oper) (q : List Nat) (s : T Value) (h : AHeap) : List (Nat × Nat × Oper) → M Bool
  | [] => M.pure true
  | (i, j, o) :: r => do
    let t ← floatAtX E run L q s h i j o
    match t with
    | true => floatAllX run L q s h r
    | false => M.pure false

def regionX (run : XRun) (ops : Array Oper) (draw : Bool) (s : ASt) : M ASt :=
  match draw with
  | false => do
    let p ← seqX E run ops.toList ops.toList s.tmps s.heap
    M.pure { s with tmps := p.1, heap := p.2 }
  | true => do
    let p ← drawX E run ops.toList false [] ops.toList s.tmps s.heap []
    match noWriter p.2.2 || drawOk (befL ops.toList []) p.2.2 with
    | true => M.pure { s with tmps := p.1, heap := p.2.1 }
    | false => do
      let r ← drawX E run ops.toList true (quietQ p.1 s.heap ops.toList) ops.toList s.tmps s.heap []
      match (noWriter r.2.2 || drawOk (befL ops.toList []) r.2.2) && floatSt ops.toList (befL ops.toList []) r.2.2 with
      | true => do
        let t ← floatAllX E run ops.toList (quietQ p.1 s.heap ops.toList) s.tmps s.heap (floatPairs ops.toList (befL ops.toList []) r.2.2)
        match t with
        | true => M.pure { s with tmps := r.1, heap := r.2.1 }
        | false => M.fail 54
      | false => M.fail 60

def rangeFuncX (go : XRun) (rd : Option Nat) (g : Operand) (ps : Array Tmp) (assign body : Code) (s : ASt) : M (AExit × ASt) :=
  match evalO s.tmps g, enterA rd s.heap s.marks with
  | some gv, some (d, h, marks) =>
    match calleeA gv [.func (.yield h.next) #[] #[]] with
    | some (.fn f args) => match E.intr.get f with
      | none => do
        let p ← callX E go f args (h.alloc (.loop .ready none s.tmps ps.toList assign body d))
        match p.2.get h.next with
        | some (.loop st pending t1 q1 a1 b1 d1) => match st with
          | .busy => M.fail 61
          | _ => match exitA pending with
            | some x => M.pure (x, { tmps := s.tmps, heap := p.2.set h.next (.loop .exhausted pending t1 q1 a1 b1 d1), marks })
            | none => M.fail 62
        | _ => M.fail 63
      | _ => M.fail 64
    | _ => M.fail 65
  | _, _ => M.fail 66

def xStep (go : XRun) (rd : Option Nat) (c : Code) (s : ASt) : M (AExit × ASt) :=
  match c with
  | .skip | .label _ => M.pure (.normal, s)
  | .ret => M.pure (.ret, s)
  | .exit id => M.pure (.exit id, s)
  | .seq x y => do
    let r ← go rd x s
    match r with
    | (.normal, s') => go rd y s'
    | r => M.pure r
  | .cond q x y => match evalO s.tmps q with
    | some (.bool b) => do
      let t ← askB b
      match t with
      | true => go rd x s
      | false => go rd y s
    | _ => M.fail 67
  | .block id b => do
    let r ← go rd b s
    match r with
    | (.exit i, s') => match Nat.beq i id with
      | true => M.pure (.normal, s')
      | false => M.pure (.exit i, s')
    | r => M.pure r
  | .scope b => go rd b s
  | .loop b => do
    let r ← go rd b s
    match r with
    | (.normal, s') => go rd (.loop b) s'
    | r => M.pure r
  | .rangeFunc g ps assign body => rangeFuncX E go rd g ps assign body s
  | .region _ ops draw => do
    let s' ← regionX E go ops draw s
    M.pure (.normal, s')
  | _ => M.fail 68

/-- The code's run along one way, to a depth. -/
def xE (n : Nat) : XRun := Nat.rec (motive := fun _ => XRun) (fun _ _ _ => M.fail 69) (fun _ go => xStep E go) n
end ops
end Go.Proofs.YtlkhpgocbojdgaaGreatDoor.Ai

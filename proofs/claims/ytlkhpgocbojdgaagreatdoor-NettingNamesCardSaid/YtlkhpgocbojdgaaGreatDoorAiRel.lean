/-
  The tables of a program, built out of the program itself.
-/
import Derived.Test.YtlkhpgocbojdgaaGreatDoorAiDefs
import Derived.Laws.AppendOwn
import Derived.Laws.Cells
import Derived.Laws.Entries
namespace Go.Proofs.YtlkhpgocbojdgaaGreatDoor.Ai
open Go

noncomputable def buildT {α β : Type} (f : Nat → β → Option α) : List β → Nat → T α → T α
  | [], _, t => t
  | x :: xs, i, t => buildT f xs (i + 1) (match f i x with | some y => t.put i y | none => t)

def tyI (P : Program) (k : Nat) (i : TypeInfo) : Option TyI :=
  match P.underlying k, i.zero with
  | some d, some z => match flat z && Nat.beq z.cells.toList.length i.size with
    | true => some { desc := d, zero := z, size := i.size, bytes := i.bytes }
    | false => none
  | _, _ => none

noncomputable def tyT (P : Program) : T TyI := buildT (tyI P) P.types.toList 0 .nil
/-- A function that the evaluator may run. -/
def fnI (f : Func) : Option Func :=
  match f.body with
  | some c => match codeOk f.ntmps c && !(f.name == "runtime.NumGoroutine") with
    | true => some f
    | false => none
  | none => none
noncomputable def fnT (P : Program) : T Func := buildT (fun _ f => fnI f) P.funcs.toList 0 .nil
end Go.Proofs.YtlkhpgocbojdgaaGreatDoor.Ai
/-
  HOW THE EVALUATOR's MEMORY STANDS TO THE MACHINE's: a renaming of blocks; values, objects, memories that correspond.
-/
namespace Go.Proofs.YtlkhpgocbojdgaaGreatDoor.Ai
open Go

/-! ### The finite map -/
section T
variable {α : Type}
theorem T.get_nil (k : Nat) : (T.nil : T α).get k = none := rfl
theorem T.get_zero (v : Option α) (l r : T α) : (T.node v l r).get 0 = v := rfl
theorem T.get_succ (v : Option α) (l r : T α) (k : Nat) : (T.node v l r).get (k + 1) = if k % 2 = 0 then l.get (k / 2) else r.get (k / 2) := by
  show Bool.rec (motive := fun _ => Option α) (r.get (k / 2)) (l.get (k / 2)) (Nat.beq (k % 2) 0) = _
  cases hk : Nat.beq (k % 2) 0 with
  | true => rw [if_pos (Nat.eq_of_beq_eq_true hk)]
  | false => rw [if_neg (Nat.ne_of_beq_eq_false hk)]
theorem T.one_zero (x : Option α) (f : Nat) : T.one x (f + 1) 0 = .node x .nil .nil := rfl
theorem T.one_succ (x : Option α) (f k : Nat) : T.one x (f + 1) (k + 1) = if k % 2 = 0 then .node none (T.one x f (k / 2)) .nil else .node none .nil (T.one x f (k / 2)) := by
  show Bool.rec (motive := fun _ => T α) (.node none .nil (T.one x f (k / 2))) (.node none (T.one x f (k / 2)) .nil) (Nat.beq (k % 2) 0) = _
  cases hk : Nat.beq (k % 2) 0 with
  | true => rw [if_pos (Nat.eq_of_beq_eq_true hk)]
  | false => rw [if_neg (Nat.ne_of_beq_eq_false hk)]
theorem T.set_nil (x : Option α) (k : Nat) : T.set x .nil k = T.one x (k + 1) k := rfl
theorem T.set_zero (x v : Option α) (l r : T α) : T.set x (.node v l r) 0 = .node x l r := rfl
theorem T.set_succ (x v : Option α) (l r : T α) (k : Nat) : T.set x (.node v l r) (k + 1) = if k % 2 = 0 then .node v (T.set x l (k / 2)) r else .node v l (T.set x r (k / 2)) := by
  show Bool.rec (motive := fun _ => T α) (.node v l (T.set x r (k / 2))) (.node v (T.set x l (k / 2)) r) (Nat.beq (k % 2) 0) = _
  cases hk : Nat.beq (k % 2) 0 with
  | true => rw [if_pos (Nat.eq_of_beq_eq_true hk)]
  | false => rw [if_neg (Nat.ne_of_beq_eq_false hk)]

theorem T.get_one (x : Option α) : ∀ (f k j : Nat), k < f → (T.one x f k).get j = if j = k then x else none := by
  intro f
  induction f with
  | zero => intro k j h; omega
  | succ f ih =>
    intro k j h
    cases k with
    | zero =>
      rw [T.one_zero]
      cases j with
      | zero => rw [T.get_zero, if_pos rfl]
      | succ j => simp [T.get_succ, T.get_nil]
    | succ k =>
      rw [T.one_succ]
      cases j with
      | zero => split <;> rw [T.get_zero] <;> simp
      | succ j =>
        by_cases hk : k % 2 = 0 <;> by_cases hj : j % 2 = 0 <;> simp only [hk, hj, if_true, if_false, T.get_succ, T.get_nil]
        · rw [ih _ _ (by omega)]
          by_cases e : j / 2 = k / 2
          · rw [if_pos e, if_pos (by omega)]
          · rw [if_neg e, if_neg (by omega)]
        · rw [if_neg (by omega)]
        · rw [if_neg (by omega)]
        · rw [ih _ _ (by omega)]
          by_cases e : j / 2 = k / 2
          · rw [if_pos e, if_pos (by omega)]
          · rw [if_neg e, if_neg (by omega)]

theorem T.get_set (x : Option α) (t : T α) : ∀ k j, (T.set x t k).get j = if j = k then x else t.get j := by
  induction t with
  | nil => intro k j; rw [T.set_nil, T.get_one _ _ _ _ (by omega), T.get_nil]
  | node v l r ihl ihr =>
    intro k j
    cases k with
    | zero =>
      rw [T.set_zero]
      cases j with
      | zero => rw [T.get_zero, if_pos rfl]
      | succ j => rw [T.get_succ, T.get_succ, if_neg (show ¬ (j + 1 = 0) by omega)]
    | succ k =>
      rw [T.set_succ]
      cases j with
      | zero => split <;> rw [T.get_zero, T.get_zero, if_neg (by omega)]
      | succ j =>
        by_cases hk : k % 2 = 0 <;> by_cases hj : j % 2 = 0 <;> simp only [hk, hj, if_true, if_false, T.get_succ]
        · rw [ihl]
          by_cases e : j / 2 = k / 2
          · rw [if_pos e, if_pos (by omega)]
          · rw [if_neg e, if_neg (by omega)]
        · rw [if_neg (by omega)]
        · rw [if_neg (by omega)]
        · rw [ihr]
          by_cases e : j / 2 = k / 2
          · rw [if_pos e, if_pos (by omega)]
          · rw [if_neg e, if_neg (by omega)]

theorem T.get_put (t : T α) (k : Nat) (x : α) (j : Nat) : (t.put k x).get j = if j = k then some x else t.get j := T.get_set _ _ _ _
theorem T.get_del (t : T α) (k : Nat) (j : Nat) : (t.del k).get j = if j = k then none else t.get j := T.get_set _ _ _ _
end T

/-! ### The evaluator's memory -/
theorem AHeap.get_def (h : AHeap) (b : Nat) : h.get b = if b < h.next then h.m.get b else none := by
  unfold AHeap.get
  cases hb : Nat.blt b h.next with
  | true => rw [if_pos (by simpa [Nat.blt_eq] using hb)]
  | false => rw [if_neg (by simpa [← Nat.blt_eq] using hb)]
theorem AHeap.lt_of_get {h : AHeap} {b : Nat} {o : AObj} (e : h.get b = some o) : b < h.next := by
  rw [AHeap.get_def] at e
  split at e
  · assumption
  · cases e
theorem AHeap.get_alloc (h : AHeap) (o : AObj) (b : Nat) : (h.alloc o).get b = if b = h.next then some o else h.get b := by
  rw [AHeap.get_def, AHeap.get_def]
  show (if b < h.next + 1 then (h.m.put h.next o).get b else none) = _
  rw [T.get_put]
  by_cases e : b = h.next
  · subst e; simp
  · simp only [e, if_false]
    by_cases hb : b < h.next
    · rw [if_pos hb, if_pos (by omega)]
    · rw [if_neg hb, if_neg (by omega)]
theorem AHeap.get_set (h : AHeap) (b0 : Nat) (o : AObj) (hb : b0 < h.next) (b : Nat) : (h.set b0 o).get b = if b = b0 then some o else h.get b := by
  rw [AHeap.get_def, AHeap.get_def]
  show (if b < h.next then (h.m.put b0 o).get b else none) = _
  rw [T.get_put]
  by_cases e : b = b0
  · subst e; simp [hb]
  · simp [e]
theorem AHeap.get_kill (h : AHeap) (b0 b : Nat) : (h.kill b0).get b = if b = b0 then none else h.get b := by
  rw [AHeap.get_def, AHeap.get_def]
  show (if b < h.next then (h.m.del b0).get b else none) = _
  rw [T.get_del]
  by_cases e : b = b0
  · subst e; simp
  · simp [e]
theorem AHeap.next_alloc (h : AHeap) (o : AObj) : (h.alloc o).next = h.next + 1 := rfl
theorem AHeap.next_set (h : AHeap) (b : Nat) (o : AObj) : (h.set b o).next = h.next := rfl
theorem AHeap.next_kill (h : AHeap) (b : Nat) : (h.kill b).next = h.next := rfl
theorem AHeap.low_alloc (h : AHeap) (o : AObj) : (h.alloc o).low = h.low := rfl
theorem AHeap.low_set (h : AHeap) (b : Nat) (o : AObj) : (h.set b o).low = min h.low b := rfl
theorem AHeap.low_kill (h : AHeap) (b : Nat) : (h.kill b).low = min h.low b := rfl
theorem AHeap.get_low (h : AHeap) (l : Nat) (b : Nat) : ({ h with low := l } : AHeap).get b = h.get b := rfl

/-! ### What corresponds -/
/-- A block of the machine's, and how many cells it has. -/
abbrev Ren := Nat → Option (Nat × Nat)

inductive FnR (ρ : Ren) : Fn → Fn → Prop
  | same {f : Fn} : (∀ l, f ≠ .yield l) → FnR ρ f f
  | yield {l l' N : Nat} : ρ l = some (l', N) → FnR ρ (.yield l) (.yield l')

inductive VR (ρ : Ren) : Value → Value → Prop
  | bool (b : Bool) : VR ρ (.bool b) (.bool b)
  | int (k : IntKind) (n : Int) : VR ρ (.int k n) (.int k n)
  | float (k : FloatKind) (n : Nat) : VR ρ (.float k n) (.float k n)
  | string (s : ByteArray) : VR ρ (.string s) (.string s)
  | nilIface : VR ρ .nilIface .nilIface
  | nilFunc : VR ρ .nilFunc .nilFunc
  | ptrNil : VR ρ (.pointer none) (.pointer none)
  | mapNil : VR ρ (.map none) (.map none)
  | sliceNil (n c : Nat) : VR ρ (.slice none n c) (.slice none n c)
  | ptr {b c N off : Nat} : ρ b = some (c, N) → VR ρ (.pointer (some ⟨b, off, none⟩)) (.pointer (some ⟨c, off, none⟩))
  | slice {b c N off n cap : Nat} : cap < SL → ρ b = some (c, N) → VR ρ (.slice (some ⟨b, off, none⟩) n cap) (.slice (some ⟨c, off, none⟩) n cap)
  | sliceUp {b c N off n z k cap' : Nat} : k < SL → z < 1099511627776 → k ≤ cap' → off + cap' * z ≤ N → ρ b = some (c, N) → VR ρ (.slice (some ⟨b, off, none⟩) n (upCap z k)) (.slice (some ⟨c, off, none⟩) n cap')
  | sliceUn {a a' : Addr} {cap' : Nat} : VR ρ (.slice (some a) 0 UN) (.slice (some a') 0 cap')
  | sliceG {b c N n z cap' : Nat} : 0 < n → n < SL → z < 1099511627776 → n ≤ cap' → cap' * z ≤ N → ρ b = some (c, N) → VR ρ (.slice (some ⟨b, 0, none⟩) n (GC z)) (.slice (some ⟨c, 0, none⟩) n cap')
  | sliceG0 {a : Addr} {q : Option Addr} {z : Nat} : VR ρ (.slice (some a) 0 (GC z)) (.slice q 0 0)
  | map {b c N : Nat} : ρ b = some (c, N) → VR ρ (.map (some b)) (.map (some c))
  | func {f f' : Fn} {fs gs cs ds : List Value} : FnR ρ f f' → fs.length = gs.length → (∀ (i : Nat) v v', fs[i]? = some v → gs[i]? = some v' → VR ρ v v') →
      cs.length = ds.length → (∀ (i : Nat) v v', cs[i]? = some v → ds[i]? = some v' → VR ρ v v') → VR ρ (.func f ⟨fs⟩ ⟨cs⟩) (.func f' ⟨gs⟩ ⟨ds⟩)
  | iface {t : TypeId} {v v' : Value} : VR ρ v v' → VR ρ (.iface t v) (.iface t v')
  | agg {xs ys : List Value} : xs.length = ys.length → (∀ (i : Nat) v v', xs[i]? = some v → ys[i]? = some v' → VR ρ v v') → VR ρ (.agg ⟨xs⟩) (.agg ⟨ys⟩)
  | tuple {xs ys : List Value} : xs.length = ys.length → (∀ (i : Nat) v v', xs[i]? = some v → ys[i]? = some v' → VR ρ v v') → VR ρ (.tuple ⟨xs⟩) (.tuple ⟨ys⟩)

/-- Two lists of values that correspond. -/
def LR (ρ : Ren) (xs ys : List Value) : Prop := xs.length = ys.length ∧ ∀ (i : Nat) v v', xs[i]? = some v → ys[i]? = some v' → VR ρ v v'

def Ext (ρ ρ' : Ren) : Prop := ∀ b c, ρ b = some c → ρ' b = some c
theorem Ext.refl (ρ : Ren) : Ext ρ ρ := fun _ _ h => h
theorem Ext.trans {ρ ρ' ρ'' : Ren} (h : Ext ρ ρ') (k : Ext ρ' ρ'') : Ext ρ ρ'' := fun b c e => k b c (h b c e)

theorem FnR.mono {ρ ρ' : Ren} (h : Ext ρ ρ') {f f' : Fn} (k : FnR ρ f f') : FnR ρ' f f' := by
  cases k with
  | same e => exact .same e
  | yield e => exact .yield (h _ _ e)

theorem VR.mono {ρ ρ' : Ren} (h : Ext ρ ρ') {v v' : Value} (k : VR ρ v v') : VR ρ' v v' := by
  induction k with
  | bool => exact .bool _
  | int => exact .int _ _
  | float => exact .float _ _
  | string => exact .string _
  | nilIface => exact .nilIface
  | nilFunc => exact .nilFunc
  | ptrNil => exact .ptrNil
  | mapNil => exact .mapNil
  | sliceNil => exact .sliceNil _ _
  | ptr e => exact .ptr (h _ _ e)
  | slice e1 e => exact .slice e1 (h _ _ e)
  | sliceUp e1 e2 e3 e4 e => exact .sliceUp e1 e2 e3 e4 (h _ _ e)
  | sliceUn => exact .sliceUn
  | sliceG a0 a1 a2 a3 a4 e => exact .sliceG a0 a1 a2 a3 a4 (h _ _ e)
  | sliceG0 => exact .sliceG0
  | map e => exact .map (h _ _ e)
  | func e1 e2 _ e4 _ i1 i2 => exact .func (e1.mono h) e2 i1 e4 i2
  | iface _ i => exact .iface i
  | agg e1 _ i => exact .agg e1 i
  | tuple e1 _ i => exact .tuple e1 i

theorem LR.mono {ρ ρ' : Ren} (h : Ext ρ ρ') {xs ys : List Value} (k : LR ρ xs ys) : LR ρ' xs ys := ⟨k.1, fun i v v' a b => (k.2 i v v' a b).mono h⟩

/-- Temporaries that are known correspond. -/
def TR (ρ : Ren) (s : T Value) (tmps : Array Value) : Prop := ∀ t v, s.get t = some v → ∃ v', tmps[t]? = some v' ∧ VR ρ v v'
theorem TR.mono {ρ ρ' : Ren} (h : Ext ρ ρ') {s : T Value} {tmps : Array Value} (k : TR ρ s tmps) : TR ρ' s tmps := fun t v e =>
  let ⟨v', e', r⟩ := k t v e; ⟨v', e', r.mono h⟩

/-- A temporary that is not known is no bool. -/
def TN (_ : T Value) (_ : Array Value) : Prop := True

structure ER (ρ : Ren) (e e' : MapEntry) : Prop where
  key : e'.key = e.key
  flat : flat e.key = true
  val : VR ρ e.val e'.val
  born : e'.born = e.born
theorem ER.mono {ρ ρ' : Ren} (h : Ext ρ ρ') {e e' : MapEntry} (k : ER ρ e e') : ER ρ' e e' := ⟨k.key, k.flat, k.val.mono h, k.born⟩

inductive OR (ρ : Ren) (N : Nat) : AObj → Obj → Prop
  | ro {c : List Value} {cs : Array Value} {e : TypeId} {fz : Nat × Nat} : (∀ (i : Nat) v, c[i]? = some v → isDead v = false → ∃ v', cs[i]? = some v' ∧ VR ρ v v') → OR ρ N (.ro c) (.cells cs e fz)
  | cells {c : List Value} {cs : Array Value} {e : TypeId} {fz : Nat × Nat} : (∀ (i : Nat) v, c[i]? = some v → ∃ v', cs[i]? = some v' ∧ VR ρ v v') →
      cs.size = N → (∀ i, i < N → (decide (fz.1 ≤ i) && decide (i < fz.2)) = false) → OR ρ N (.cells c e) (.cells cs e fz)
  | map {es : List MapEntry} {fs : Array MapEntry} {clock : Nat} : es.length = fs.size → (∀ (i : Nat) e e', es[i]? = some e → fs[i]? = some e' → ER ρ e e') → OR ρ N (.map es clock) (.map fs clock)
  | loop {st : LoopState} {p : Option Code} {fn : FuncId} {tm : T Value} {tmps : Array Value} {ps : List Tmp} {as bd : Code} {d d' M : Nat} : TR ρ tm tmps → TN tm tmps → (∃ n, n ≤ tmps.size ∧ codeOk n as = true ∧ codeOk n bd = true ∧ ∀ p ∈ ps, p < n) → ρ d = some (d', M) →
      OR ρ N (.loop st p tm ps as bd d) (.loop { state := st, pending := p, fn := fn, tmps := tmps, params := ⟨ps⟩, assign := as, body := bd, defers := d' })
  | defers : OR ρ N .defers (.deferred (some []))
  | closed : OR ρ N .closed (.deferred none)
  | strIter {s : ByteArray} {pos : Nat} : OR ρ N (.strIter s pos) (.stringIter s pos)
  | mapIter0 {a b : Nat} {l : List Nat} : OR ρ N (.mapIter none a l b) (.mapIter none a ⟨l⟩ b)
  | mapIter {m c M a b : Nat} {l : List Nat} : ρ m = some (c, M) → OR ρ N (.mapIter (some m) a l b) (.mapIter (some c) a ⟨l⟩ b)

theorem OR.mono {ρ ρ' : Ren} (h : Ext ρ ρ') {N : Nat} {o : AObj} {o' : Obj} (k : OR ρ N o o') : OR ρ' N o o' := by
  cases k with
  | ro a => exact .ro (fun i v e hd => let ⟨v', e', r⟩ := a i v e hd; ⟨v', e', r.mono h⟩)
  | cells a b c => exact .cells (fun i v e => let ⟨v', e', r⟩ := a i v e; ⟨v', e', r.mono h⟩) b c
  | map a b => exact .map a fun i e e' x y => (b i e e' x y).mono h
  | loop a n c b => exact .loop (a.mono h) n c (h _ _ b)
  | closed => exact .closed
  | defers => exact .defers
  | strIter => exact .strIter
  | mapIter0 => exact .mapIter0
  | mapIter e => exact .mapIter (h _ _ e)

def live (h : AHeap) (b : Nat) : Prop := h.next ≤ b ∨ (h.get b).isSome = true

/-- May the block be written? What may only be read may stand for a block for which another one stands too. -/
def isW : Option AObj → Bool
  | some (.ro _) => false
  | some _ => true
  | none => false
def wr (h : AHeap) (b : Nat) : Prop := h.next ≤ b ∨ isW (h.get b) = true
theorem wr.live {h : AHeap} {b : Nat} (k : wr h b) : live h b := by
  rcases k with k | k
  · exact .inl k
  · refine .inr ?_
    cases e : h.get b with
    | none => rw [e] at k; cases k
    | some o => rfl

/-- The evaluator's memory, and the machine's: what is mapped and lives, corresponds. -/
structure Rel (ρ : Ren) (h : AHeap) (w : World) : Prop where
  obj : ∀ b o, h.get b = some o → ∀ c N, ρ b = some (c, N) → ∃ o', w.heap[c]? = some o' ∧ OR ρ N o o'
  inj : ∀ b b' c N N', live h b → wr h b' → ρ b = some (c, N) → ρ b' = some (c, N') → b = b'
  lt : ∀ b c N, ρ b = some (c, N) → c < w.heap.size

/-- From one memory to a later one. -/
structure Adv (ρ ρ' : Ren) (h h' : AHeap) (w w' : World) : Prop where
  ext : Ext ρ ρ'
  new : ∀ b c N, ρ' b = some (c, N) → ρ b = some (c, N) ∨ (h.next ≤ b ∧ b < h'.next ∧ (w.heap.size ≤ c ∨ ∃ b0 M, h'.low ≤ b0 ∧ b0 < h.next ∧ ρ b0 = some (c, M)))
  next : h.next ≤ h'.next
  low : h'.low ≤ h.low
  rel : Rel ρ' h' w'
  os : w'.os = w.os
  tape : w'.tape = w.tape
  output : w'.output = w.output
  size : w.heap.size ≤ w'.heap.size
  fresh : ∀ b, h.next ≤ b → b < h'.next → ρ b = none
  frame : ∀ c, c < w.heap.size → (∀ b N, h'.low ≤ b → b < h.next → ρ b ≠ some (c, N)) → w'.heap[c]? = w.heap[c]?
  keep : ∀ b, b < h.next → b < h'.low → h'.get b = h.get b

/-- What will be made is not yet mapped. -/
def Fr (ρ : Ren) (h h' : AHeap) : Prop := ∀ b, h.next ≤ b → b < h'.next → ρ b = none

theorem Adv.refl {ρ : Ren} {h : AHeap} {w : World} (r : Rel ρ h w) : Adv ρ ρ h h w w :=
  ⟨.refl _, fun _ _ _ e => .inl e, Nat.le_refl _, Nat.le_refl _, r, rfl, rfl, rfl, Nat.le_refl _, fun _ a b => by omega, fun _ _ _ => rfl, fun _ _ _ => rfl⟩

theorem Adv.trans {ρ ρ1 ρ2 : Ren} {h h1 h2 : AHeap} {w w1 w2 : World} (a : Adv ρ ρ1 h h1 w w1) (b : Adv ρ1 ρ2 h1 h2 w1 w2) : Adv ρ ρ2 h h2 w w2 := by
  have na := a.next
  have nb := b.next
  have la := a.low
  have lb := b.low
  have sa := a.size
  have sb := b.size
  refine ⟨a.ext.trans b.ext, ?_, by omega, by omega, b.rel, b.os.trans a.os, b.tape.trans a.tape, b.output.trans a.output, by omega, ?_, ?_, ?_⟩
  · intro x c N e
    rcases b.new x c N e with e1 | ⟨g1, g2, g3⟩
    · rcases a.new x c N e1 with e0 | ⟨f1, f2, f3⟩
      · exact .inl e0
      · refine .inr ⟨f1, by omega, ?_⟩
        rcases f3 with f3 | ⟨b0, M, p, q, r⟩
        · exact .inl f3
        · exact .inr ⟨b0, M, by omega, q, r⟩
    · refine .inr ⟨by omega, g2, ?_⟩
      rcases g3 with g3 | ⟨b0, M, p, q, r⟩
      · exact .inl (by omega)
      · rcases a.new b0 c M r with e0 | ⟨f1, f2, f3⟩
        · by_cases hb : b0 < h.next
          · exact .inr ⟨b0, M, p, hb, e0⟩
          · have := a.fresh b0 (by omega) q
            rw [this] at e0
            cases e0
        · rcases f3 with f3 | ⟨b1, M1, p1, q1, r1⟩
          · exact .inl f3
          · exact .inr ⟨b1, M1, by omega, q1, r1⟩
  · intro x hx hx2
    by_cases hx1 : x < h1.next
    · exact a.fresh x hx hx1
    · have := b.fresh x (by omega) hx2
      cases hr : ρ x with
      | none => rfl
      | some c => rw [a.ext x c hr] at this; cases this
  · intro c hc hn
    have e1 : w1.heap[c]? = w.heap[c]? := a.frame c hc fun x N hx1 hx2 => hn x N (by omega) hx2
    rw [← e1]
    refine b.frame c (by omega) fun x N hx1 hx2 e => ?_
    rcases a.new x c N e with e0 | ⟨f1, f2, f3⟩
    · by_cases hx : x < h.next
      · exact hn x N hx1 hx e0
      · rw [a.fresh x (by omega) hx2] at e0
        cases e0
    · rcases f3 with f3 | ⟨b0, M, p, q, r⟩
      · omega
      · exact hn b0 M (by omega) q r
  · intro x hx hl
    rw [b.keep x (by omega) hl]
    exact a.keep x hx (by omega)
end Go.Proofs.YtlkhpgocbojdgaaGreatDoor.Ai
/-
  WHAT STANDS IN MEMORY FROM THE START AND IS NEVER WRITTEN: the library's variables that this program asks, by their places.
-/
namespace Go.Proofs.YtlkhpgocbojdgaaGreatDoor.Ai
open Go
set_option linter.unusedSimpArgs false
set_option linter.unusedVariables false

/-- internal/bytealg.MaxLen (variable 1) holds some integer. -/
def glInit (w0 : World) (S : Nat → Prop) : Prop := ∃ m, w0.cell? ⟨1, 0, none⟩ = some (.int .i64 m) ∧ S 1
/-- The places S are as they were, and nothing stands for them. -/
def GlS (w0 : World) (S : Nat → Prop) (ρ : Ren) (w : World) : Prop := (∀ c, S c → c < w.heap.size ∧ w.heap[c]? = w0.heap[c]?) ∧ ∀ b c N, ρ b = some (c, N) → ¬ S c
def Gl (ρ : Ren) (w : World) : Prop := ∃ w0 S, glInit w0 S ∧ GlS w0 S ρ w

theorem GlS.sub {w0 : World} {S : Nat → Prop} {ρ ρ' : Ren} {w : World} (h : ∀ b x, ρ' b = some x → ρ b = some x) (g : GlS w0 S ρ w) : GlS w0 S ρ' w := ⟨g.1, fun b c N e => g.2 b c N (h b _ e)⟩
theorem Gl.sub {ρ ρ' : Ren} {w : World} (h : ∀ b x, ρ' b = some x → ρ b = some x) : Gl ρ w → Gl ρ' w := fun ⟨w0, S, a, b⟩ => ⟨w0, S, a, b.sub h⟩
theorem Gl.img {ρ ρ' : Ren} {w : World} (g : Gl ρ w) (h : ∀ b c N, ρ' b = some (c, N) → ∃ b0 M, ρ b0 = some (c, M)) : Gl ρ' w :=
  let ⟨w0, S, a, g1, g2⟩ := g
  ⟨w0, S, a, g1, fun b c N e => let ⟨b0, M, q⟩ := h b c N e; g2 b0 c M q⟩
theorem GlS.adv {w0 : World} {S : Nat → Prop} {ρ ρ' : Ren} {h h' : AHeap} {w w' : World} (g : GlS w0 S ρ w) (A : Adv ρ ρ' h h' w w') : GlS w0 S ρ' w' := by
  refine ⟨fun c hc => ?_, fun b c N e hs => ?_⟩
  · obtain ⟨h1, h2⟩ := g.1 c hc
    refine ⟨Nat.lt_of_lt_of_le h1 A.size, ?_⟩
    rw [A.frame c h1 (fun b N _ _ e => g.2 b c N e hc)]
    exact h2
  · rcases A.new b c N e with f | ⟨_, _, f | ⟨b0, M, _, _, f⟩⟩
    · exact g.2 b c N f hs
    · have := (g.1 c hs).1; omega
    · exact g.2 b0 c M f hs
theorem Gl.adv {ρ ρ' : Ren} {h h' : AHeap} {w w' : World} (g : Gl ρ w) (A : Adv ρ ρ' h h' w w') : Gl ρ' w' := let ⟨w0, S, a, b⟩ := g; ⟨w0, S, a, b.adv A⟩
/-- The integer is there. -/
theorem Gl.maxLen {ρ : Ren} {w : World} : Gl ρ w → ∃ m, w.cell? ⟨1, 0, none⟩ = some (.int .i64 m) := fun ⟨w0, S, ⟨m, h1, h2⟩, g⟩ => by
  refine ⟨m, ?_⟩
  have := (g.1 1 h2).2
  simp only [World.cell?] at h1 ⊢
  rw [this]
  exact h1
end Go.Proofs.YtlkhpgocbojdgaaGreatDoor.Ai

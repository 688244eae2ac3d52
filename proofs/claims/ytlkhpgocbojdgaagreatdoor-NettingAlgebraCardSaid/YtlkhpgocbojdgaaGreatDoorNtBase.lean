/-
  THE FORMS IN WHICH WALKS OVER THIS PROGRAM END; bars, knots and their cells.
-/
import Derived.Test.YtlkhpgocbojdgaaGreatDoorAiCon
import Derived.Test.YtlkhpgocbojdgaaGreatDoorAiTab
namespace Go.Proofs.YtlkhpgocbojdgaaGreatDoor.Ai
open Go
set_option linter.unusedSimpArgs false
set_option linter.unusedVariables false

def bodyOf (f : Func) : Code := match f.body with
  | some c => c
  | none => .skip
/-- A part of the code: 0 the first, 1 the second. -/
def sub : List Nat → Code → Code
  | [], c => c
  | 0 :: r, .seq a _ => sub r a
  | _ :: r, .seq _ b => sub r b
  | 0 :: r, .cond _ a _ => sub r a
  | _ :: r, .cond _ _ b => sub r b
  | _ :: r, .block _ b => sub r b
  | _ :: r, .scope b => sub r b
  | _ :: r, .loop b => sub r b
  | _, c => c

def rowObj : Row → AObj
  | .flat c el => .cells c el
  | .nest c el => .cells c el
  | .map es k => .map es k
noncomputable def rowT : List Row → Nat → T AObj → T AObj
  | [], _, t => t
  | r :: rs, i, t => rowT rs (i + 1) (t.put i (rowObj r))
/-- The state in which a walk ends: the arguments' rows, the results' rows, some temporaries. -/
noncomputable def finSt (cs : List (List Value)) (rows : List Row) (tm : List (Nat × Value)) : ASt :=
  { tmps := mkT tm .nil, heap := { m := rowT rows cs.length (roT cs 0 .nil), next := cs.length + rows.length, low := cs.length }, marks := [] }
/-- How it is named. -/
def rowB : Nat → List Nat → List (Nat × CanB)
  | _, [] => []
  | i, o :: r => (i, .flat o) :: rowB (i + 1) r
def finC (k : Nat) (rows : List (Nat × CanB)) (tm : List Nat) : Can :=
  { next := k + rows.length, blocks := ((List.range k).map fun i => (i, .flat i)) ++ rows, tmps := tm.map fun t => (t, .same) }

def Row.fits : Row → Prop
  | .flat c _ => c.all flatCell = true
  | .nest _ _ => True
  | .map es _ => (es.all fun e => Ai.flat e.val) = true

theorem rowT_get : ∀ (rs : List Row) (i : Nat) (t : T AObj) (k : Nat), (rowT rs i t).get k = if i ≤ k ∧ k < i + rs.length then (rs[k - i]?).map rowObj else t.get k
  | [], i, t, k => by
    unfold rowT
    rw [if_neg (by rintro ⟨_, hh⟩; simp at hh; omega)]
  | c :: r, i, t, k => by
    unfold rowT
    rw [rowT_get r, T.get_put]
    by_cases h1 : i + 1 ≤ k ∧ k < i + 1 + r.length
    · rw [if_pos h1, if_pos (by simp; omega), show k - i = (k - (i + 1)) + 1 by omega, List.getElem?_cons_succ]
    · rw [if_neg h1]
      by_cases h2 : k = i
      · subst h2
        rw [if_pos rfl, if_pos (by simp)]
        simp
      · rw [if_neg h2, if_neg (by simp; omega)]

theorem rowsAre_of {h : AHeap} : ∀ (rs : List Row) (b : Nat), (∀ i r, rs[i]? = some r → h.get (b + i) = some (rowObj r) ∧ r.fits) → RowsAre h b rs
  | [], b, _ => trivial
  | r :: rs, b, hh => by
    refine ⟨?_, rowsAre_of rs (b + 1) fun i x e => by
      have := hh (i + 1) x (by simpa using e)
      rwa [show b + (i + 1) = b + 1 + i by omega] at this⟩
    have := hh 0 r rfl
    rw [Nat.add_zero] at this
    cases r with
    | flat c el => exact this
    | nest c el => exact this.1
    | map es k => exact this

theorem Shows.of {E : Env} {fn : Func} {ts : List Value} {cs : List (List Value)} {c : Code} {x : AExit} {rows : List Row} {tm : List (Nat × Value)} {v : Value} (hb : fn.body = some c) (d : Den E none (roH cs) c (st0 ts (roH cs)) x (finSt cs rows tm))
    (hx : ∀ i, x ≠ .exit i) (hr : resA E fn (finSt cs rows tm) = some v) (hf : ∀ r ∈ rows, r.fits) : Shows E fn ts cs v rows := by
  refine ⟨c, x, _, hb, d, hx, rfl, hr, Nat.le_refl _, rfl, rowsAre_of rows _ fun i r e => ⟨?_, hf r (List.mem_of_getElem? e)⟩⟩
  have hi := (List.getElem?_eq_some_iff.1 e).1
  rw [AHeap.get_def]
  show (if cs.length + i < cs.length + rows.length then (rowT rows cs.length (roT cs 0 .nil)).get (cs.length + i) else none) = _
  rw [if_pos (by omega), rowT_get, if_pos ⟨by omega, by omega⟩, show cs.length + i - cs.length = i by omega, e]
  rfl

theorem Shows.ret {E : Env} {fn : Func} {ts : List Value} {cs : List (List Value)} {c : Code} {rows : List Row} {v : Value} (tm : List (Nat × Value)) (hb : fn.body = some c) (d : Den E none (roH cs) c (st0 ts (roH cs)) .ret (finSt cs rows tm))
    (hr : resA E fn (finSt cs rows tm) = some v) (hf : ∀ r ∈ rows, r.fits) : Shows E fn ts cs v rows := Shows.of hb d nofun hr hf
theorem Shows.end {E : Env} {fn : Func} {ts : List Value} {cs : List (List Value)} {c : Code} {rows : List Row} {v : Value} (tm : List (Nat × Value)) (hb : fn.body = some c) (d : Den E none (roH cs) c (st0 ts (roH cs)) .normal (finSt cs rows tm))
    (hr : resA E fn (finSt cs rows tm) = some v) (hf : ∀ r ∈ rows, r.fits) : Shows E fn ts cs v rows := Shows.of hb d nofun hr hf

theorem Shows.cast {E : Env} {fn : Func} {ts : List Value} {cs : List (List Value)} {rows : List Row} {v v' : Value} (a : Shows E fn ts cs v' rows) (e : v = v') : Shows E fn ts cs v rows := by subst e; exact a

abbrev iv (a : Int) : Value := .int .i64 a
abbrev bv (a : Bool) : Value := .bool a
/-- A knot, a bar as values. -/
abbrev kn (x y : Int) : Value := .agg #[.int .i64 x, .int .i64 y]
abbrev br (x y s : Int) : Value := .agg #[.int .i64 x, .int .i64 y, .int .i64 s]

/-- A slice that came in: of row i, from off on. -/
abbrev sv (i off n cap : Nat) : Value := .slice (some ⟨i, off, none⟩) n cap
theorem noRow : ∀ r ∈ ([] : List Row), r.fits := fun r h => by simp at h
def ivs (l : List Int) : List Value := l.map fun a => .int .i64 a
def unIvs : List Value → Option (List Int)
  | [] => some []
  | .int .i64 a :: r => match unIvs r with
    | some l => some (a :: l)
    | none => none
  | _ => none
theorem unIvs_ivs : ∀ (l : List Int), unIvs (ivs l) = some l
  | [] => rfl
  | a :: l => by
    show (match unIvs (ivs l) with | some r => some (a :: r) | none => none) = some (a :: l)
    rw [unIvs_ivs l]
theorem unIvs_some : ∀ {c : List Value} {l : List Int}, unIvs c = some l → c = ivs l
  | [], l, h => by cases h; rfl
  | v :: r, l, h => by
    unfold unIvs at h
    split at h
    · rename_i heq; cases heq
    · rename_i heq
      cases heq
      split at h
      · rename_i l' hl
        cases h
        rw [unIvs_some hl]
        rfl
      · cases h
    · cases h
theorem slice_get {c r : List Value} {off n : Nat} (h : slice? c off n = some r) (k m : Nat) (hk : k + m ≤ n) : slice? c (off + k) m = some ((r.drop k).take m) := by
  obtain ⟨h1, h2⟩ := slice?_some h
  have hl : n ≤ c.length - off := by
    have := congrArg List.length h1
    rw [List.length_take, List.length_drop, h2] at this
    omega
  have e : (r.drop k).take m = (c.drop (off + k)).take m := by
    rw [h1, List.drop_take, List.take_take, List.drop_drop, Nat.min_eq_left (by omega)]
  rw [e]
  unfold slice?
  dsimp only
  rw [show Nat.beq ((c.drop (off + k)).take m).length m = true from by
    rw [List.length_take, List.length_drop, Nat.min_eq_left (by omega)]; exact Nat.beq_refl _]
/-- Reading one integer of a row. -/
theorem rd_iv {c : List Value} {off : Nat} {l : List Int} {k : Nat} {x : Int} (h : slice? c off l.length = some (ivs l)) (hx : l[k]? = some x) : slice? c (off + k) 1 = some [.int .i64 x] := by
  have hk := (List.getElem?_eq_some_iff.1 hx).1
  rw [slice_get h k 1 (by omega)]
  have : (ivs l).drop k = .int .i64 x :: (ivs l).drop (k + 1) := by
    unfold ivs
    rw [← List.map_drop, ← List.map_drop, List.drop_eq_getElem_cons hk, (List.getElem?_eq_some_iff.1 hx).2]
    rfl
  rw [this]
  rfl

noncomputable def E0 : Env := { P := Tryz.prog, fn := fnTab, ty := tyTab, intr := .nil }
theorem K0 : E0.Runs := runs_tab fnAll tyAll mixed
theorem gen0 {E : Env} (K : E.Runs) (hp : E.P = E0.P) {f : FuncId} {fn : Func} (hfn : E.fn.get f = some fn) {ks : List Ak} {F : List Value → List (List Value) → Option (Value × List Row)}
    (H : ∀ ts cs v rows, (∀ c ∈ cs, c.all flatCell = true) → F ts cs = some (v, rows) → Shows E fn ts cs v rows) : IntrOk E0 f (gen ks F) := IntrOk.env hp (gen_ok K hfn H)
end Go.Proofs.YtlkhpgocbojdgaaGreatDoor.Ai

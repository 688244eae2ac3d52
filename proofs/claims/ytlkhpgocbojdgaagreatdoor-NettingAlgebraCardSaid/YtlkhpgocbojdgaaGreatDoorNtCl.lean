/-
  CALLS ON FIXED ARGUMENTS: run by the evaluator itself.
-/
import Derived.Test.YtlkhpgocbojdgaaGreatDoorNtD
namespace Go.Proofs.YtlkhpgocbojdgaaGreatDoor.Ai
open Go
set_option linter.unusedSimpArgs false
set_option linter.unusedVariables false

/-! ### Values that are the same -/
def eqV : Value → Value → Bool
  | .agg ⟨a⟩, .agg ⟨b⟩ => eqL eqC a b
  | a, b => eqC a b
theorem eqV_eq (a b : Value) (h : eqV a b = true) : a = b := by
  unfold eqV at h
  split at h
  · rw [eqL_eq eqC_eq h]
  · exact eqC_eq _ _ h

/-! ### Contracts at fixed arguments -/
structure Ent where
  ts : List Value
  cs : List (List Value)
  v : Value
  rows : List Row
def exF : List Ent → List Value → List (List Value) → Option (Value × List Row)
  | [], _, _ => none
  | e :: r, ts, cs => match eqL eqV ts e.ts with
    | true => match eqL (eqL eqC) cs e.cs with
      | true => some (e.v, e.rows)
      | false => exF r ts cs
    | false => exF r ts cs
theorem exF_some : ∀ {es : List Ent} {ts : List Value} {cs : List (List Value)} {v : Value} {rows : List Row}, exF es ts cs = some (v, rows) → ∃ e ∈ es, ts = e.ts ∧ cs = e.cs ∧ v = e.v ∧ rows = e.rows
  | [], _, _, _, _, h => by cases h
  | e :: r, ts, cs, v, rows, h => by
    have more : exF r ts cs = some (v, rows) → _ := fun h' => exF_some h'
    unfold exF at h
    split at h
    · rename_i h1
      split at h
      · rename_i h2
        cases h
        exact ⟨e, List.mem_cons_self, eqL_eq eqV_eq h1, eqL_eq (fun a b => eqL_eq eqC_eq) h2, rfl, rfl⟩
      · obtain ⟨e', q, hh⟩ := exF_some h
        exact ⟨e', List.mem_cons_of_mem _ q, hh⟩
    · obtain ⟨e', q, hh⟩ := exF_some h
      exact ⟨e', List.mem_cons_of_mem _ q, hh⟩

def Ent.ok (E : Env) (fn : Func) (e : Ent) : Prop := Shows E fn e.ts e.cs e.v e.rows
theorem ex_intr {E : Env} (K : E.Runs) (hp : E.P = E0.P) {f : FuncId} {fn : Func} (hfn : E.fn.get f = some fn) {ks : List Ak} {es : List Ent} (H : ∀ e ∈ es, e.ok E fn) : IntrOk E0 f (gen ks (exF es)) := by
  refine gen0 K hp hfn ?_
  intro ts cs v rows hf h
  obtain ⟨e, hm, rfl, rfl, rfl, rfl⟩ := exF_some h
  exact H e hm

/-- The run, and its end named anew. -/
noncomputable def clX (E : Env) (n : Nat) (sp : Can) (c : Code) (ts : List Value) (cs : List (List Value)) : Out (AExit × ASt) :=
  match ex E n none c (st0 ts (roH cs)) with
  | some (x, s) => match canX cs.length sp s [.go 1000000000] with
    | .ok s' _ [] => .ok (x, s') [] []
    | .ok _ _ _ => .bad 1000
    | .bad k => .bad k
    | .need f => .need f
  | none => .bad 1001
theorem cl_ok {E : Env} (K : E.Runs) {n : Nat} {sp : Can} {c : Code} {ts : List Value} {cs : List (List Value)} {x : AExit} {s' : ASt} (h : clX E n sp c ts cs = .ok (x, s') [] []) : Den E none (roH cs) c (st0 ts (roH cs)) x s' := by
  unfold clX at h
  split at h
  · rename_i x1 s1 he
    split at h
    · rename_i s2 rest hc
      cases h
      exact (Den.of_run (ex_sound K n) he).post (canX_sound (D := LoopR E none (roH cs)) ⟨_, _, _, hc, trivial⟩ rfl)
    · cases h
    · cases h
    · cases h
  · cases h
def Row.fitsB : Row → Bool
  | .flat c _ => c.all flatCell
  | .nest _ _ => true
  | .map es _ => es.all fun e => Ai.flat e.val
theorem fits_of {rows : List Row} (h : rows.all Row.fitsB = true) : ∀ r ∈ rows, r.fits := fun r hr => by
  have := List.all_eq_true.1 h r hr
  cases r with
  | flat c el => exact this
  | nest c el => trivial
  | map es k => exact this
theorem cl_shows {E : Env} (K : E.Runs) (n : Nat) (sp : Can) (tm : List (Nat × Value)) {fn : Func} {e : Ent} (hb : fn.body.isSome = true) (h : clX E n sp (bodyOf fn) e.ts e.cs = .ok (.ret, finSt e.cs e.rows tm) [] [])
    (hr : resA E fn (finSt e.cs e.rows tm) = some e.v) (hf : e.rows.all Row.fitsB = true) : e.ok E fn := by
  have hb' : fn.body = some (bodyOf fn) := by
    unfold bodyOf
    cases hq : fn.body with
    | some c => rfl
    | none => rw [hq] at hb; cases hb
  exact Shows.ret tm hb' (cl_ok K h) hr (fits_of hf)
end Go.Proofs.YtlkhpgocbojdgaaGreatDoor.Ai

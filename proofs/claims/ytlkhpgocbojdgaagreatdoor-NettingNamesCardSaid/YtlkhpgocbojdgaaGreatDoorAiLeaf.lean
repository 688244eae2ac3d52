/-
  THE TABLES AS THEY ARE PRINTED: what is asked of each leaf, and what follows for the evaluator.
-/
import Derived.Test.YtlkhpgocbojdgaaGreatDoorAiProg
namespace Go.Proofs.YtlkhpgocbojdgaaGreatDoor.Ai
open Go
set_option linter.unusedSimpArgs false
set_option linter.unusedVariables false

/-- Something of each thing in a map. -/
def T.All {α : Type} (p : Nat → α → Prop) : T α → (Nat → Nat) → Prop
  | .nil, _ => True
  | .node v l r, key => (∀ x, v = some x → p (key 0) x) ∧ T.All p l (fun j => key (2 * j + 1)) ∧ T.All p r (fun j => key (2 * j + 2))
theorem all_some {α : Type} {p : α → Prop} {x : α} (h : p x) : ∀ y, some x = some y → p y := fun y e => by cases e; exact h
theorem T.all_get {α : Type} {p : Nat → α → Prop} : ∀ (t : T α) (key : Nat → Nat), T.All p t key → ∀ k x, t.get k = some x → p (key k) x
  | .nil, _, _, k, x, e => by cases e
  | .node v l r, key, h, 0, x, e => h.1 x e
  | .node v l r, key, h, k + 1, x, e => by
    rw [T.get_succ] at e
    split at e
    · have := T.all_get l _ h.2.1 (k / 2) x e
      rwa [show 2 * (k / 2) + 1 = k + 1 by omega] at this
    · have := T.all_get r _ h.2.2 (k / 2) x e
      rwa [show 2 * (k / 2) + 2 = k + 1 by omega] at this

def tyOk (t : TypeInfo) : Bool := match t.zero with
  | some z => flat z && Nat.beq z.cells.toList.length t.size
  | none => false
def mkTy (u t : TypeInfo) : TyI := { desc := u.desc, zero := match t.zero with | some z => z | none => .nilIface, size := t.size, bytes := t.bytes }
def TyFact (P : Program) (k : Nat) (i : TyI) : Prop := P.underlying k = some i.desc ∧ Ai.flat i.zero = true ∧ i.zero.cells.size = i.size ∧ ∃ ti, P.info? k = some ti ∧ ti.zero = some i.zero ∧ ti.size = i.size ∧ ti.bytes = i.bytes
def FnFact (P : Program) (k : Nat) (f : Func) : Prop := P.funcs[k]? = some f ∧ fnI f = some f

theorem ty_fact {P : Program} {k : Nat} {u t : TypeInfo} (h : P.types[k]? = some t) (hu : P.underlying k = some u.desc) (ok : tyOk t = true) : TyFact P k (mkTy u t) := by
  have hlt : k < P.types.size := (Array.getElem?_eq_some_iff.1 h).1
  have hinfo : P.info? k = some t := by unfold Tables.info?; rw [if_pos hlt]; exact h
  unfold tyOk at ok
  split at ok
  · rename_i z hz
    simp only [Bool.and_eq_true] at ok
    refine ⟨hu, ?_, ?_, t, hinfo, ?_, rfl, rfl⟩
    · unfold mkTy; rw [hz]; exact ok.1
    · unfold mkTy; rw [hz]; dsimp only; rw [← Array.length_toList]; exact Nat.eq_of_beq_eq_true ok.2
    · unfold mkTy; rw [hz]
  · cases ok

theorem ok_tab {P : Program} {fn : T Func} {ty : T TyI} (intr : T (List Value → AHeap → Option (Value × AHeap))) (hf : T.All (FnFact P) fn (fun j => j)) (hy : T.All (TyFact P) ty (fun j => j)) (hm : P.follows .mixedOrders = true) :
    Env.Ok { P := P, fn := fn, ty := ty, intr := intr } :=
  ⟨fun f x h => (T.all_get _ _ hf f x h).1, fun t i h => T.all_get _ _ hy t i h, hm⟩

theorem body_tab {P : Program} {fn : T Func} (hf : T.All (FnFact P) fn (fun j => j)) {f : FuncId} {x : Func} {c : Code} (h : fn.get f = some x) (hc : x.body = some c) : codeOk x.ntmps c = true ∧ x.name ≠ "runtime.NumGoroutine" := by
  have h3 := (T.all_get _ _ hf f x h).2
  unfold fnI at h3
  split at h3
  · rename_i c' hb
    split at h3
    · rename_i hh
      rw [hb] at hc
      cases hc
      simpa using hh
    · cases h3
  · cases h3

theorem runs_tab {P : Program} {fn : T Func} {ty : T TyI} (hf : T.All (FnFact P) fn (fun j => j)) (hy : T.All (TyFact P) ty (fun j => j)) (hm : P.follows .mixedOrders = true) :
    Env.Runs { P := P, fn := fn, ty := ty, intr := .nil } :=
  { toOk := ok_tab _ hf hy hm, body := fun _ _ _ => body_tab hf, up := fun _ _ h => (by cases h), intr := fun _ _ h => (by cases h) }
end Go.Proofs.YtlkhpgocbojdgaaGreatDoor.Ai

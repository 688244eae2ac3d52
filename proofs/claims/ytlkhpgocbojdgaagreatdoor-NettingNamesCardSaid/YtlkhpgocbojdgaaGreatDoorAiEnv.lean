/-
  The tables of a program, built out of the program itself.
-/
import Derived.Test.YtlkhpgocbojdgaaGreatDoorAiDefs
namespace Go.Proofs.YtlkhpgocbojdgaaGreatDoor.Ai
open Go

noncomputable def buildT {α β : Type} (f : Nat → β → Option α) : List β → Nat → T α → T α
  | [], _, t => t
  | x :: xs, i, t => buildT f xs (i + 1) (match f i x with | some y => t.put i y | none => t)

def tyI (P : Program) (k : Nat) (i : TypeInfo) : Option TyI :=
  match P.underlying k, i.zero with
  | some d, some z => match flat z && Nat.beq z.cells.toList.length i.size with
    | true => some { desc := d, zero := z, size := i.size, bytes := i.bytes }
    | false => none
  | _, _ => none

noncomputable def tyT (P : Program) : T TyI := buildT (tyI P) P.types.toList 0 .nil
/-- A function that the evaluator may run. -/
def fnI (f : Func) : Option Func :=
  match f.body with
  | some c => match codeOk f.ntmps c && !(f.name == "runtime.NumGoroutine") with
    | true => some f
    | false => none
  | none => none
noncomputable def fnT (P : Program) : T Func := buildT (fun _ f => fnI f) P.funcs.toList 0 .nil
end Go.Proofs.YtlkhpgocbojdgaaGreatDoor.Ai

/-
  FUNCTIONS WITHOUT A BODY as contracts of the evaluator: what they compute out of values without addresses.
-/
import Derived.Test.YtlkhpgocbojdgaaGreatDoorAiLocal
import Derived.Laws.Externs
namespace Go.Proofs.YtlkhpgocbojdgaaGreatDoor.Ai
open Go
set_option linter.unusedSimpArgs false
set_option linter.unusedVariables false

def extA (P : Program) (e : Array Value → Sem Value) (args : List Value) (h : AHeap) : Option (Value × AHeap) :=
  match args.all flat with
  | true => match okFlat (runP P (e ⟨args⟩)) with
    | some v => some (v, h)
    | none => none
  | false => none

theorem extA_ok {E : Env} {f : FuncId} {fn : Func} {e : Array Value → Sem Value} (hf : E.P.funcs[f]? = some fn) (hname : (fn.name == "runtime.NumGoroutine") = false) (hb : fn.body.isNone = true) (hn : Extern.findNext fn = none) (he : Extern.find fn = some e) :
    ∀ (ρ : Ren) (h h' : AHeap) (w : World) args args' v, Tight ρ h w → Rel ρ h w → LR ρ args args' → extA E.P e args h = some (v, h') → CallOk E f args' w fun v' w' => ∃ ρ', VR ρ' v v' ∧ Adv ρ ρ' h h' w w' := by
  intro ρ h h' w args args' v ht R hL hx
  unfold extA at hx
  split at hx
  · rename_i hfl
    split at hx
    · rename_i u hu
      cases hx
      have := flats_eq hfl hL
      subst this
      obtain ⟨h1, h2⟩ := okFlat_some hu
      refine .inr ⟨v, w, ?_, ρ, flat_VR ρ h2, .refl R⟩
      rw [run_callFunc_extern hf hname hb hn he, runP_run E.P _ h1 w]
      rfl
    · cases hx
  · cases hx

theorem extA_up {P : Program} {e : Array Value → Sem Value} {args : List Value} {h h' : AHeap} {v : Value} (hx : extA P e args h = some (v, h')) : Up h h' := by
  unfold extA at hx
  split at hx
  · split at hx
    · cases hx; exact .refl _
    · cases hx
  · cases hx

/-- What hands its argument back. -/
def sameA (args : List Value) (h : AHeap) : Option (Value × AHeap) := match args with
  | [v] => some (v, h)
  | _ => none
theorem sameA_ok {E : Env} {f : FuncId} {fn : Func} (hf : E.P.funcs[f]? = some fn) (hname : (fn.name == "runtime.NumGoroutine") = false) (hb : fn.body.isNone = true) (hn : Extern.findNext fn = none) (he : Extern.find fn = some Extern.AbiNoEscape.same) :
    ∀ (ρ : Ren) (h h' : AHeap) (w : World) args args' v, Tight ρ h w → Rel ρ h w → LR ρ args args' → sameA args h = some (v, h') → CallOk E f args' w fun v' w' => ∃ ρ', VR ρ' v v' ∧ Adv ρ ρ' h h' w w' := by
  intro ρ h h' w args args' v ht R hL hx
  unfold sameA at hx
  split at hx
  · cases hx
    obtain ⟨x', rfl, r⟩ := hL.one
    refine .inr ⟨x', w, ?_, ρ, r, .refl R⟩
    rw [run_callFunc_extern hf hname hb hn he]
    rfl
  · cases hx
theorem sameA_up {args : List Value} {h h' : AHeap} {v : Value} (hx : sameA args h = some (v, h')) : Up h h' := by
  unfold sameA at hx
  split at hx
  · cases hx; exact .refl _
  · cases hx
end Go.Proofs.YtlkhpgocbojdgaaGreatDoor.Ai

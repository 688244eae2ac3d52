/-
  FROM A CONTRACT OF THE EVALUATOR TO A CALL OF THE MACHINE's.
-/
import Derived.Test.YtlkhpgocbojdgaaGreatDoorNtAwake
import Derived.Below
namespace Go.Proofs.YtlkhpgocbojdgaaGreatDoor.Ai
open Go Go.RowKit
set_option linter.unusedSimpArgs false
set_option linter.unusedVariables false

/-- A call on arguments without addresses, its result without one. -/
theorem calls_flat {f : FuncId} {fn : Func} {g : List Value → AHeap → Option (Value × AHeap)} (c : IntrOk E0 f g) (hfn : E0.P.funcs[f]? = some fn) (hn : ∀ w args, (callFunc f args).run E0.P w = .ok (.enter f args) w) {args : List Value} (ha : args.all flat = true) {v : Value} {h' : AHeap}
    (e : g args ⟨.nil, 0, 0⟩ = some (v, h')) (hv : flat v = true) {W : World} (hg : Gl (fun _ => none) W) : Calls E0.P f ⟨args⟩ W fun x W' => x = .returned v ∧ Below W.heap.size W W' := by
  have R : Rel (fun _ => none) ⟨.nil, 0, 0⟩ W := ⟨fun b o h => by (cases h), fun b b' c N N' _ _ h => by (cases h), fun b c N h => by (cases h)⟩
  have hL : LR (fun _ => none) args args := by
    refine ⟨rfl, fun i a b ha' hb' => ?_⟩
    rw [ha'] at hb'
    cases hb'
    exact flat_VR _ (List.all_eq_true.1 ha _ (List.mem_of_getElem? ha'))
  rcases c.ok (fun _ => none) ⟨.nil, 0, 0⟩ h' W args args v ⟨fun _ _ => rfl, hg⟩ R hL e with ⟨_, h2⟩ | ⟨v', w', h1, _⟩
  · refine (callsIn_wide.1 h2).mono ?_
    rintro x W' ⟨v', rfl, ρ', r, A⟩
    rw [flat_eq hv r]
    exact ⟨rfl, A.os, A.tape, A.output, A.size, fun c hc => A.frame c hc (fun b N h1 h2 => by cases h2)⟩
  · rw [hn] at h1
    cases h1
end Go.Proofs.YtlkhpgocbojdgaaGreatDoor.Ai

/-
  awake: the program gives the document's examples.
-/
import Derived.Test.YtlkhpgocbojdgaaGreatDoorNtAw
namespace Go.Proofs.YtlkhpgocbojdgaaGreatDoor.Ai
open Go
set_option linter.unusedSimpArgs false
set_option linter.unusedVariables false

theorem ok1 {E : Env} {fn : Func} {e : Ent} (h : e.ok E fn) : ∀ x ∈ [e], x.ok E fn := fun x hx => by
  rw [List.mem_singleton] at hx
  subst hx
  exact h
theorem ok2 {E : Env} {fn : Func} {e e' : Ent} (h : e.ok E fn) (h' : e'.ok E fn) : ∀ x ∈ [e, e'], x.ok E fn := fun x hx => by
  rcases List.mem_cons.1 hx with q | q
  · subst q; exact h
  · rw [List.mem_singleton] at q; subst q; exact h'
theorem w18 : IntrOk E0 18 (gen [.fl, .fl, .fl] (exF [eSheet22, eSheet24])) := ex_intr K4 rfl (fn := Tryz.f18) (by kernel_rfl) (ok2 eSheet22_ok eSheet24_ok)
theorem w33 : IntrOk E0 33 (gen [.sl] (exF [eKnots])) := ex_intr K4 rfl (fn := Tryz.f33) (by kernel_rfl) (ok1 eKnots_ok)
theorem w41 : IntrOk E0 41 (gen [.sl] (exF [eMeshes])) := ex_intr K4 rfl (fn := Tryz.f41) (by kernel_rfl) (ok1 eMeshes_ok)
theorem w38 : IntrOk E0 38 (gen [.sl] (exF [ePrint])) := ex_intr K6 rfl (fn := Tryz.f38) (by kernel_rfl) (ok1 ePrint_ok)
theorem w24 : IntrOk E0 24 (gen [.sl] (exF [eCount, eCountR])) := ex_intr K4 rfl (fn := Tryz.f24) (by kernel_rfl) (ok2 eCount_ok eCountR_ok)
theorem w68 : IntrOk E0 68 (gen [.fl] (exF [eAround])) := ex_intr K4 rfl (fn := Tryz.f68) (by kernel_rfl) (ok1 eAround_ok)
theorem w37 : IntrOk E0 37 (gen [.sl, .sl] (exF [eMinus])) := ex_intr K4 rfl (fn := Tryz.f37) (by kernel_rfl) (ok1 eMinus_ok)
theorem w58 : IntrOk E0 58 (gen [.sl, .fl] (exF [eTurn])) := ex_intr K4 rfl (fn := Tryz.f58) (by kernel_rfl) (ok1 eTurn_ok)
theorem w57 : IntrOk E0 57 (gen [.sl] (exF [eMirror])) := ex_intr K4 rfl (fn := Tryz.f57) (by kernel_rfl) (ok1 eMirror_ok)
theorem w29 : IntrOk E0 29 (gen [.sl] (exF [eCanon])) := ex_intr K4 rfl (fn := Tryz.f29) (by kernel_rfl) (ok1 eCanon_ok)
theorem w22 : IntrOk E0 22 (gen [.sl] (exF [eParts])) := ex_intr K4 rfl (fn := Tryz.f22) (by kernel_rfl) (ok1 eParts_ok)
theorem w73 : IntrOk E0 73 (gen [.fl, .fl] (exF [eDraw])) := ex_intr K4 rfl (fn := Tryz.f73) (by kernel_rfl) (ok1 eDraw_ok)
noncomputable def tw : T (List Value → AHeap → Option (Value × AHeap)) := (((((((((((t7.put 18 (gen [.fl, .fl, .fl] (exF [eSheet22, eSheet24]))).put 33 (gen [.sl] (exF [eKnots]))).put 41 (gen [.sl] (exF [eMeshes]))).put 38 (gen [.sl] (exF [ePrint]))).put 24 (gen [.sl] (exF [eCount, eCountR]))).put 68 (gen [.fl] (exF [eAround]))).put 37 (gen [.sl, .sl] (exF [eMinus]))).put 58 (gen [.sl, .fl] (exF [eTurn]))).put 57 (gen [.sl] (exF [eMirror]))).put 29 (gen [.sl] (exF [eCanon]))).put 22 (gen [.sl] (exF [eParts]))).put 73 (gen [.fl, .fl] (exF [eDraw]))
theorem tw_ok : T.All (fun f g => IntrOk E0 f g) tw (fun j => j) := allT_put (allT_put (allT_put (allT_put (allT_put (allT_put (allT_put (allT_put (allT_put (allT_put (allT_put (allT_put t7_ok w18) w33) w41) w38) w24) w68) w37) w58) w57) w29) w22) w73
noncomputable def Ew : Env := { P := Tryz.prog, fn := fnTab, ty := tyTab, intr := tw }
theorem Kw : Ew.Runs := runs_intr fnAll tyAll mixed tw_ok

def eAwake : Ent := ⟨[], [], .bool true, []⟩
set_option maxRecDepth 100000 in
theorem eAwake_ok : eAwake.ok Ew Tryz.f17 :=
  cl_shows Kw 500 (finC 0 [] [0]) [(0, .bool true)] rfl (by kernel_rfl) (by kernel_rfl) (by kernel_rfl)
/-- awake returns true, in every memory. -/
noncomputable def gAwake := gen [] (exF [eAwake])
theorem c17 : IntrOk E0 17 gAwake := ex_intr Kw rfl (fn := Tryz.f17) (by kernel_rfl) (ok1 eAwake_ok)
noncomputable def t8 : T (List Value → AHeap → Option (Value × AHeap)) := t7.put 17 gAwake
theorem t8_ok : T.All (fun f g => IntrOk E0 f g) t8 (fun j => j) := allT_put t7_ok c17
noncomputable def E8 : Env := { P := Tryz.prog, fn := fnTab, ty := tyTab, intr := t8 }
theorem K8 : E8.Runs := runs_intr fnAll tyAll mixed t8_ok
end Go.Proofs.YtlkhpgocbojdgaaGreatDoor.Ai

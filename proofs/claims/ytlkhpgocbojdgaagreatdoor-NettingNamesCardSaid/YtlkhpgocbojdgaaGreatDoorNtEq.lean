/-
  EQUALITY OF KNOTS AND OF BARS in this program.
-/
import Derived.Test.YtlkhpgocbojdgaaGreatDoorAiCon
import Derived.Test.YtlkhpgocbojdgaaGreatDoorNtBase
namespace Go.Proofs.YtlkhpgocbojdgaaGreatDoor.Ai
open Go
set_option linter.unusedSimpArgs false
set_option linter.unusedVariables false

theorem eqKn (a b c e : Int) : runP Tryz.prog (Op.equal 23 (kn a b) (kn c e)) = some (decide (a = c ∧ b = e)) := by
  show runP _ (Op.equalIn (9998 + 1 + 1) 23 _ _) = _
  rw [runP_eqStruct (fs := Tryz.prog.fieldsOf 23) _ _ _ (by kernel_rfl) (by kernel_rfl)]
  have hl : (Tryz.prog.fieldsOf 23).toList = [(Tryz.prog.fieldsOf 23).toList[0]?.getD default, (Tryz.prog.fieldsOf 23).toList[1]?.getD default] := by kernel_rfl
  rw [hl, runP_fieldInt (k := .i64) (k' := .i64) (a := a) (b := c) _ (by kernel_rfl) (by kernel_rfl) (by kernel_rfl) (by kernel_rfl)]
  rw [runP_fieldInt (k := .i64) (k' := .i64) (a := b) (b := e) _ (by kernel_rfl) (by kernel_rfl) (by kernel_rfl) (by kernel_rfl)]
  by_cases h1 : a = c <;> by_cases h2 : b = e <;> simp [h1, h2] <;> rfl
theorem eqBr (a b c d e f : Int) : runP Tryz.prog (Op.equal 60 (br a b c) (br d e f)) = some (decide (a = d ∧ b = e ∧ c = f)) := by
  show runP _ (Op.equalIn (9998 + 1 + 1) 60 _ _) = _
  rw [runP_eqStruct (fs := Tryz.prog.fieldsOf 60) _ _ _ (by kernel_rfl) (by kernel_rfl)]
  have hl : (Tryz.prog.fieldsOf 60).toList = [(Tryz.prog.fieldsOf 60).toList[0]?.getD default, (Tryz.prog.fieldsOf 60).toList[1]?.getD default, (Tryz.prog.fieldsOf 60).toList[2]?.getD default] := by kernel_rfl
  rw [hl, runP_fieldInt (k := .i64) (k' := .i64) (a := a) (b := d) _ (by kernel_rfl) (by kernel_rfl) (by kernel_rfl) (by kernel_rfl)]
  rw [runP_fieldInt (k := .i64) (k' := .i64) (a := b) (b := e) _ (by kernel_rfl) (by kernel_rfl) (by kernel_rfl) (by kernel_rfl)]
  rw [runP_fieldInt (k := .i64) (k' := .i64) (a := c) (b := f) _ (by kernel_rfl) (by kernel_rfl) (by kernel_rfl) (by kernel_rfl)]
  by_cases h1 : a = d <;> by_cases h2 : b = e <;> by_cases h3 : c = f <;> simp [h1, h2, h3] <;> rfl
end Go.Proofs.YtlkhpgocbojdgaaGreatDoor.Ai

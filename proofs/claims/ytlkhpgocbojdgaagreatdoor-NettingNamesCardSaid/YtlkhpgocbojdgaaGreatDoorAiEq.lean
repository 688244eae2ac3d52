/-
  EQUALITY OF STRUCTS OF INTEGERS, and a key found among a map's entries, as the evaluator reckons them.
-/
import Derived.Test.YtlkhpgocbojdgaaGreatDoorAiCon
import Derived.Laws.StructEq
namespace Go.Proofs.YtlkhpgocbojdgaaGreatDoor.Ai
open Go
set_option linter.unusedSimpArgs false
set_option linter.unusedVariables false

section
variable {P : Program}
theorem runP_bindE {α β : Type} : ∀ (s : Sem α) (f : α → Sem β), runP P (s >>= f) = (runP P s).bind fun a => runP P (f a) := by
  intro s
  induction s with
  | pure a => intro f; rfl
  | program k ih => intro f; exact ih P f
  | mark m k ih => intro f; exact ih f
  | _ => intro f; rfl
theorem runP_pure {α : Type} (a : α) : runP P (pure a : Sem α) = some a := rfl
theorem runP_program : runP P program = some P := rfl
theorem runP_underlying {t : TypeId} {d : TypeDesc} (h : P.underlying t = some d) : runP P (underlying t) = some d := by
  unfold underlying
  rw [runP_bindE, runP_program]
  simp [h]
  rfl
theorem runP_eqInt (d : Nat) {t : TypeId} {k k' : IntKind} (a b : Int) (h : P.underlying t = some (.int k')) : runP P (Op.equalIn (d + 1) t (.int k a) (.int k b)) = some (a == b) := by
  simp only [Op.equalIn, runP_bindE, runP_underlying h, Option.bind_some, if_true]
  rfl
theorem runP_ite {α : Type} {c : Prop} [Decidable c] (x y : Sem α) : runP P (if c then x else y) = if c then runP P x else runP P y := by split <;> rfl
theorem runP_eqStruct (d : Nat) {t : TypeId} {fs : Array Field} (xs ys : Array Value) (ht : P.underlying t = some (.struct fs)) (hp : P.stoodInHeld t = false) :
    runP P (Op.equalIn (d + 1) t (.agg xs) (.agg ys)) = runP P (Op.eqFields d xs ys fs.toList) := by
  simp only [Op.equalIn, runP_bindE, runP_underlying ht, Option.bind_some, runP_program, hp, Bool.false_eq_true, if_false]
  rw [← Array.forIn_toList]
  generalize fs.toList = l
  induction l with
  | nil => rfl
  | cons f l ih =>
    simp only [List.forIn_cons, Op.eqFields, runP_bindE, runP_ite]
    split
    · cases runP P (part f.type xs f.offset) with
      | none => rfl
      | some a =>
        simp only [Option.bind_some]
        cases runP P (part f.type ys f.offset) with
        | none => rfl
        | some b =>
          simp only [Option.bind_some]
          cases runP P (Op.equalIn d f.type a b) with
          | none => rfl
          | some r =>
            cases r
            · rfl
            · simp only [Option.bind_some, Bool.not_true, Bool.false_eq_true, if_false, runP_pure]
              exact ih
    · simp only [runP_pure, Option.bind_some]
      exact ih
theorem runP_fieldInt (d : Nat) {xs ys : Array Value} {f : Field} {fs : List Field} {k k' : IntKind} {a b : Int} (hn : (f.name == "_") = false) (hx : runP P (part f.type xs f.offset) = some (.int k a)) (hy : runP P (part f.type ys f.offset) = some (.int k b)) (h : P.underlying f.type = some (.int k')) :
    runP P (Op.eqFields (d + 1) xs ys (f :: fs)) = if a = b then runP P (Op.eqFields (d + 1) xs ys fs) else some false := by
  have hn' : f.name ≠ "_" := by simpa using hn
  simp only [Op.eqFields]
  rw [if_pos hn', runP_bindE, hx, Option.bind_some, runP_bindE, hy, Option.bind_some, runP_bindE, runP_eqInt d a b h, Option.bind_some, runP_ite]
  by_cases e : a = b
  · simp [e]
  · simp [e]; rfl
end
end Go.Proofs.YtlkhpgocbojdgaaGreatDoor.Ai

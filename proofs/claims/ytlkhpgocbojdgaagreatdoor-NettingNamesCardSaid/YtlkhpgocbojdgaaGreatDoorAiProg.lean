/-
  THE EVALUATOR's TABLES FIT THE PROGRAM THEY ARE BUILT OF.
-/
import Derived.Test.YtlkhpgocbojdgaaGreatDoorAiRun
namespace Go.Proofs.YtlkhpgocbojdgaaGreatDoor.Ai
open Go
set_option linter.unusedSimpArgs false
set_option linter.unusedVariables false

theorem buildT_get {α β : Type} (f : Nat → β → Option α) : ∀ (l : List β) (i : Nat) (t : T α) (k : Nat) (y : α), (buildT f l i t).get k = some y → (∃ x, i ≤ k ∧ l[k - i]? = some x ∧ f k x = some y) ∨ t.get k = some y
  | [], i, t, k, y, h => .inr h
  | x :: l, i, t, k, y, h => by
    unfold buildT at h
    rcases buildT_get f l (i + 1) _ k y h with ⟨z, h1, h2, h3⟩ | h1
    · exact .inl ⟨z, by omega, by rw [show k - i = (k - (i + 1)) + 1 by omega, List.getElem?_cons_succ]; exact h2, h3⟩
    · split at h1
      · rename_i y' hy
        rw [T.get_put] at h1
        split at h1
        · rename_i hk
          cases h1
          exact .inl ⟨x, by omega, by simp [hk], by rw [hk]; exact hy⟩
        · exact .inr h1
      · exact .inr h1

theorem ok_of (P : Program) (intr : T (List Value → AHeap → Option (Value × AHeap))) (hm : P.follows .mixedOrders = true) : Env.Ok { P := P, fn := fnT P, ty := tyT P, intr := intr } := by
  refine ⟨?_, ?_, hm⟩
  · intro f fn h
    rcases buildT_get _ _ _ _ _ _ h with ⟨x, _, h2, h3⟩ | h2
    · have : x = fn := by
        unfold fnI at h3
        split at h3
        · split at h3
          · cases h3; rfl
          · cases h3
        · cases h3
      subst this
      simpa using h2
    · cases h2
  · intro t i h
    rcases buildT_get _ _ _ _ _ _ h with ⟨x, _, h2, h3⟩ | h2
    · rw [Nat.sub_zero, Array.getElem?_toList] at h2
      have hlt : t < P.types.size := (Array.getElem?_eq_some_iff.1 h2).1
      have hinfo : P.info? t = some x := by unfold Tables.info?; rw [if_pos hlt]; exact h2
      unfold tyI at h3
      split at h3
      · rename_i d z hd hz
        split at h3
        · rename_i hb
          simp only [Bool.and_eq_true] at hb
          cases h3
          refine ⟨hd, hb.1, ?_, x, hinfo, hz, rfl, rfl⟩
          rw [← Array.length_toList]
          exact Nat.eq_of_beq_eq_true hb.2
        · cases h3
      · cases h3
    · cases h2

theorem body_of (P : Program) {f : FuncId} {fn : Func} {c : Code} (h : (fnT P).get f = some fn) (hc : fn.body = some c) : codeOk fn.ntmps c = true ∧ fn.name ≠ "runtime.NumGoroutine" := by
  rcases buildT_get _ _ _ _ _ _ h with ⟨x, _, _, h3⟩ | h2
  · unfold fnI at h3
    split at h3
    · rename_i c' hb
      split at h3
      · rename_i hh
        cases h3
        rw [hb] at hc
        cases hc
        simpa using hh
      · cases h3
    · cases h3
  · cases h2

/-- No contract is plugged in. -/
theorem runs_bare (P : Program) (hm : P.follows .mixedOrders = true) : Env.Runs { P := P, fn := fnT P, ty := tyT P, intr := .nil } :=
  { toOk := ok_of P _ hm, body := fun _ _ _ => body_of P, up := fun _ _ h => (by cases h), intr := fun _ _ h => (by cases h) }

/-- A call that the evaluator answers without an address. -/
theorem calls_of {E : Env} (K : E.Runs) {n : Nat} {f : FuncId} {args : List Value} {v : Value} {h' : AHeap} (ha : args.all flat = true) (e : callA E (ex E n) f args ⟨.nil, 0, 0⟩ = some (v, h')) (hv : flat v = true) (w : World) (hg : Gl (fun _ => none) w) :
    CallOk E f args w fun v' w' => v' = v ∧ w.heap.size ≤ w'.heap.size ∧ (∀ c, c < w.heap.size → w'.heap[c]? = w.heap[c]?) ∧ w'.os = w.os ∧ w'.tape = w.tape ∧ w'.output = w.output := by
  have R : Rel (fun _ => none) ⟨.nil, 0, 0⟩ w := ⟨fun b o h => by (cases h), fun b b' c N N' _ _ h => by (cases h), fun b c N h => by (cases h)⟩
  have hL : LR (fun _ => none) args args := by
    refine ⟨rfl, fun i a b ha' hb' => ?_⟩
    rw [ha'] at hb'
    cases hb'
    exact flat_VR _ (List.all_eq_true.1 ha _ (List.mem_of_getElem? ha'))
  have := callA_sound K (ex_sound K n) (ρ := fun _ => none) (w := w) ⟨fun b _ => rfl, hg⟩ R hL e
  have conv : ∀ v' w', (∃ ρ', VR ρ' v v' ∧ Adv (fun _ => none) ρ' ⟨.nil, 0, 0⟩ h' w w') → v' = v ∧ w.heap.size ≤ w'.heap.size ∧ (∀ c, c < w.heap.size → w'.heap[c]? = w.heap[c]?) ∧ w'.os = w.os ∧ w'.tape = w.tape ∧ w'.output = w.output := by
    rintro v' w' ⟨ρ', h1, A⟩
    exact ⟨flat_eq hv h1, A.size, fun c hc => A.frame c hc (fun b N h1 h2 => by cases h2), A.os, A.tape, A.output⟩
  rcases this with ⟨h1, h2⟩ | ⟨v', w', h1, h2⟩
  · refine .inl ⟨h1, h2.mono ?_⟩
    rintro x w' ⟨v', rfl, h3⟩
    exact ⟨v', rfl, conv v' w' h3⟩
  · exact .inr ⟨v', w', h1, conv v' w' h2⟩
end Go.Proofs.YtlkhpgocbojdgaaGreatDoor.Ai

/-
  WHAT AN OPERATION ASKS ITS TEMPORARIES; what must come before what; the trace of a region that draws its order.
-/
import Derived.Test.YtlkhpgocbojdgaaGreatDoorAiStep
namespace Go.Proofs.YtlkhpgocbojdgaaGreatDoor.Ai
open Go
set_option linter.unusedSimpArgs false
set_option linter.unusedVariables false
variable {E : Env}

/-! ### Operands -/
theorem evalO_congr {s s' : T Value} {x : Operand} (h : ∀ t, x = .tmp t → s'.get t = s.get t) : evalO s' x = evalO s x := by
  cases x with
  | tmp t => exact h t rfl
  | _ => rfl

theorem evalL_congr {s s' : T Value} : ∀ {xs : List Operand}, (∀ x ∈ xs, evalO s' x = evalO s x) → evalL s' xs = evalL s xs
  | [], _ => rfl
  | x :: xs, h => by
    unfold evalL
    rw [h x (by simp), evalL_congr (fun y hy => h y (by simp [hy]))]

theorem evalParts_congr {s s' : T Value} : ∀ {xs : List (Nat × Operand)}, (∀ x ∈ xs.map (·.2), evalO s' x = evalO s x) → evalParts s' xs = evalParts s xs
  | [], _ => rfl
  | (i, x) :: xs, h => by
    unfold evalParts
    rw [h x (by simp), evalParts_congr (fun y hy => h y (by simp at hy ⊢; exact .inr hy))]

theorem optO_congr {s s' : T Value} {x : Option Operand} (h : ∀ y ∈ optL x, evalO s' y = evalO s y) : optO s' x = optO s x := by
  cases x with
  | none => rfl
  | some y => simp only [optO]; rw [h y (by simp [optL])]

theorem aop_congr {s s' : T Value} {h : AHeap} {o : Oper} (H : ∀ x ∈ operands o.op, evalO s' x = evalO s x) : aop E s' h o = aop E s h o := by
  obtain ⟨dst, op, ty, ps, af, gd⟩ := o
  cases op <;> simp only [operands, List.mem_cons, List.not_mem_nil, or_false, forall_eq_or_imp, forall_eq] at H <;> simp only [aop]
  case move => rw [H]
  case assign => rw [H]
  case pick c a b =>
    rw [H.1]
    cases evalO s c with
    | none => rfl
    | some v => cases v <;> first | rfl | (rename_i q; cases q <;> simp [pickA, H.2.1, H.2.2])
  case box => rw [H]
  case build => rw [evalParts_congr H]
  case buildSlice => rw [evalParts_congr H]
  case load => rw [H]
  case store => rw [H.1, H.2]
  case nilCheck => rw [H]
  case binOp => rw [H.1, H.2]
  case unOp => rw [H]
  case convert => rw [H]
  case makeFunc f c => rw [evalL_congr (fun x hx => H x (by simp [hx])), evalL_congr (fun x hx => H x (by simp [hx]))]
  case makeSlice => rw [H.1, H.2]
  case makeMap t q => cases q <;> rfl
  case slice t x lo hi mx => cases mx <;> simp only [] <;> rw [H.1, optO_congr (fun y hy => H.2 y (by simp [hy])), optO_congr (fun y hy => H.2 y (by simp [hy]))]
  case fieldAddr => rw [H]
  case field => rw [H]
  case indexAddr => rw [H.1, H.2]
  case index => rw [H.1, H.2]
  case lookup => rw [H.1, H.2]
  case mapUpdate => rw [H.1, H.2.1, H.2.2]
  case range => rw [H]
  case entry => rw [H]
  case mapEntry => rw [H.1, H.2]
  case entryStore => rw [H.1, H.2.1, H.2.2]
  case next x b => cases b <;> simp only [H]
  case makeInterface => rw [H]
  case extract => rw [H]

theorem stepA_congr {run : CodeRun} {s s' : T Value} {h : AHeap} {o : Oper} (H : ∀ x ∈ operands o.op, evalO s' x = evalO s x) : stepA E run s' h o = stepA E run s h o := by
  unfold stepA
  split
  · rename_i c hc
    rw [hc] at H
    simp only [operands] at H
    unfold callOp
    rw [evalL_congr (fun x hx => H x (by simp; exact .inr (by simpa using hx)))]
    cases hcal : c.callee with
    | value f => simp only []; rw [H f (by simp [hcal])]
    | builtin b => rfl
    | invoke r n => rfl
  · exact aop_congr H

/-- The temporaries asked, alone. -/
noncomputable def pickT (s : T Value) : List Operand → T Value
  | [] => .nil
  | .tmp t :: xs => match s.get t with
    | some v => (pickT s xs).put t v
    | none => pickT s xs
  | _ :: xs => pickT s xs
theorem pickT_get (s : T Value) : ∀ (xs : List Operand) (t : Tmp), (pickT s xs).get t = if readsL xs t then s.get t else none
  | [], t => rfl
  | x :: xs, t => by
    have ih := pickT_get s xs t
    cases x with
    | tmp u =>
      unfold pickT
      have hr : readsL (.tmp u :: xs) t = (Nat.beq u t || readsL xs t) := rfl
      rw [hr]
      by_cases hut : u = t
      · subst hut
        have : Nat.beq u u = true := Nat.beq_refl u
        rw [this, Bool.true_or, if_pos rfl]
        split
        · rename_i v hv; rw [T.get_put, if_pos rfl, hv]
        · rename_i hv; rw [ih, hv]; split <;> rfl
      · have : Nat.beq u t = false := by cases h : Nat.beq u t with | false => rfl | true => exact absurd (Nat.eq_of_beq_eq_true h) hut
        rw [this, Bool.false_or]
        split
        · rw [T.get_put, if_neg (Ne.symm hut), ih]
        · exact ih
    | const v => exact ih
    | func f => exact ih
    | global g => exact ih

theorem pickT_congr (s : T Value) {xs : List Operand} {x : Operand} (hx : x ∈ xs) : evalO (pickT s xs) x = evalO s x := by
  refine evalO_congr (fun t e => ?_)
  subst e
  rw [pickT_get, if_pos]
  unfold readsL
  exact List.any_eq_true.2 ⟨_, hx, Nat.beq_refl t⟩

/-! ### Before -/
theorem befOne_bit {acc : List Nat} {o : Oper} {i : Nat} (h : Nat.testBit (befOne acc o) i = true) : ∃ e ∈ o.after.toList, Region.binds .any e = true ∧ (i = e.on ∨ Nat.testBit (acc.getD e.on 0) i = true) := by
  unfold befOne at h
  generalize o.after.toList = l at h
  induction l with
  | nil => simp at h
  | cons e l ih =>
    rw [List.foldr_cons] at h
    split at h
    · rename_i hb
      rw [show ∀ a b, Nat.lor a b = a ||| b from fun _ _ => rfl, show ∀ a b, Nat.lor a b = a ||| b from fun _ _ => rfl, Nat.testBit_or, Nat.testBit_or, Nat.testBit_two_pow] at h
      simp only [Bool.or_eq_true, decide_eq_true_eq] at h
      rcases h with (h | h) | h
      · obtain ⟨e', h1, h2⟩ := ih h
        exact ⟨e', by simp [h1], h2⟩
      · exact ⟨e, by simp, hb, .inl h.symm⟩
      · exact ⟨e, by simp, hb, .inr h⟩
    · obtain ⟨e', h1, h2⟩ := ih h
      exact ⟨e', by simp [h1], h2⟩

theorem befL_get : ∀ (L : List Oper) (acc : List Nat) (j : Nat), (j < acc.length → (befL L acc)[j]? = acc[j]?) ∧
    ∀ k o, L[k]? = some o → ∃ m, (befL L acc)[acc.length + k]? = some (befOne m o) ∧ ∀ q, m.getD q 0 = if q < acc.length + k then (befL L acc).getD q 0 else 0
  | [], acc, j => ⟨fun _ => rfl, fun k o h => by simp at h⟩
  | o :: L, acc, j => by
    have ih := fun j => befL_get L (acc ++ [befOne acc o]) j
    have low : ∀ q, q < acc.length → (befL (o :: L) acc)[q]? = acc[q]? := fun q hq => by
      have := (ih q).1 (by simp; omega)
      unfold befL
      rw [this, List.getElem?_append_left hq]
    refine ⟨low j, ?_⟩
    intro k o' hk
    cases k with
    | zero =>
      simp only [List.getElem?_cons_zero, Option.some.injEq] at hk
      subst hk
      refine ⟨acc, ?_, fun q => ?_⟩
      · have := (ih acc.length).1 (by simp)
        unfold befL
        rw [Nat.add_zero, this]
        simp
      · by_cases hq : q < acc.length + 0
        · rw [if_pos hq, List.getD_eq_getElem?_getD, List.getD_eq_getElem?_getD, low q hq]
        · rw [if_neg hq, List.getD_eq_getElem?_getD, List.getElem?_eq_none (by omega)]
          rfl
    | succ k =>
      rw [List.getElem?_cons_succ] at hk
      obtain ⟨m, h1, h2⟩ := (ih 0).2 k o' hk
      refine ⟨m, ?_, ?_⟩
      · unfold befL
        rw [List.length_append, List.length_singleton] at h1
        rw [show acc.length + (k + 1) = acc.length + 1 + k by omega]
        exact h1
      · intro q
        have := h2 q
        rw [List.length_append, List.length_singleton] at this
        rw [show acc.length + (k + 1) = acc.length + 1 + k by omega]
        exact this

/-- What has come up is closed under 'before'. -/
theorem bef_closed {L : List Oper} {X : Nat → Prop} {j : Nat} {o : Oper} (hj : L[j]? = some o) (hX : ∀ k o, L[k]? = some o → X k → ∀ e ∈ o.after.toList, Region.binds .any e = true → X e.on)
    (ho : ∀ e ∈ o.after.toList, Region.binds .any e = true → X e.on) {i : Nat} (hb : isBef (befL L []) i j = true) : X i := by
  induction j using Nat.strongRecOn generalizing o with
  | ind j ih =>
    obtain ⟨m, h1, h2⟩ := (befL_get L [] 0).2 j o hj
    simp only [List.length_nil, Nat.zero_add] at h1 h2
    unfold isBef at hb
    rw [List.getD_eq_getElem?_getD, h1, Option.getD_some] at hb
    obtain ⟨e, he1, he2, he3⟩ := befOne_bit hb
    have hXe := ho e he1 he2
    rcases he3 with he3 | he3
    · rw [he3]; exact hXe
    · rw [h2] at he3
      split at he3
      · rename_i hlt
        have hlen : e.on < L.length := by
          have := (List.getElem?_eq_some_iff.1 hj).1
          omega
        exact ih e.on hlt (List.getElem?_eq_getElem hlen) (hX _ _ (List.getElem?_eq_getElem hlen) hXe) he3
      · simp at he3

theorem depOk_spec {L : List Oper} (h : depOk L = true) {i j : Nat} {p q : Oper} (hij : i < j) (hp : L[i]? = some p) (hq : L[j]? = some q) {t : Tmp}
    (hh : (p.dst = some t ∧ (q.dst = some t ∨ reads L q t = true)) ∨ (q.dst = some t ∧ reads L p t = true)) : isBef (befL L []) i j = true := by
  have hj := (List.getElem?_eq_some_iff.1 hq).1
  simp only [depOk, List.all_eq_true, List.mem_range] at h
  have := h j hj i hij
  rw [hp, hq] at this
  simp only [Bool.or_eq_true, Bool.and_eq_true] at this
  rcases this with h1 | ⟨h1, h2⟩
  · exact h1
  · exfalso
    rcases hh with ⟨a, b⟩ | ⟨a, b⟩
    · rw [a] at h1
      simp only [Bool.not_eq_true', Bool.or_eq_false_iff] at h1
      rcases b with b | b
      · have : dstIs q t = true := by unfold dstIs; rw [b]; exact Nat.beq_refl t
        rw [h1.1] at this; cases this
      · rw [h1.2] at b; cases b
    · rw [a] at h2
      simp only [Bool.not_eq_true'] at h2
      rw [h2] at b; cases b

theorem edgesOk_spec {L : List Oper} (h : edgesOk L = true) {j : Nat} {o : Oper} (hj : L[j]? = some o) {e : Edge} (he : e ∈ o.after.toList) (hb : Region.binds .any e = true) : e.on < j := by
  simp only [edgesOk, List.all_eq_true, List.mem_range] at h
  have := h j (List.getElem?_eq_some_iff.1 hj).1
  rw [hj] at this
  simp only [List.all_eq_true] at this
  have := this e he
  rw [hb] at this
  simpa [Nat.blt_eq] using this

theorem drawOk_spec {b ks : List Nat} (h : (noWriter ks || drawOk b ks) = true) {i j : Nat} (hij : i < j) (hj : j < ks.length) (h1 : ks.getD i 0 ≠ 0) (h2 : ks.getD j 0 ≠ 0) (h3 : ks.getD i 0 = 2 ∨ ks.getD j 0 = 2) : isBef b i j = true := by
  rw [Bool.or_eq_true] at h
  rcases h with h | h
  · exfalso
    simp only [noWriter, List.all_eq_true] at h
    have key : ∀ k, k < ks.length → ks.getD k 0 ≠ 2 := fun k hk e => by
      have hm : ks[k] ∈ ks := List.getElem_mem hk
      have := h _ hm
      rw [List.getD_eq_getElem?_getD, List.getElem?_eq_getElem hk, Option.getD_some] at e
      rw [e] at this
      simp at this
    rcases h3 with h3 | h3
    · exact key i (by omega) h3
    · exact key j hj h3
  · simp only [drawOk, List.all_eq_true, List.mem_range] at h
    have := h j hj i hij
    split at this
    · rename_i e1 e2; exact absurd e2 h2
    · rename_i e1; exact absurd e1 h1
    · exact this
    · exact this
    · rename_i n1 n2 n3 n4
      rcases h3 with h3 | h3
      · exact absurd h3 (by assumption)
      · exact absurd h3 (by assumption)

/-! ### The trace -/
structure Trace (E : Env) (run : CodeRun) (L : List Oper) (fl : Bool) (ql : List Nat) (rest : List Oper) (S : Nat → T Value) (H : Nat → AHeap) (kd : Nat → Nat) : Prop where
  step : ∀ i o, rest[i]? = some o → stepD E run L fl ql o (S i) (H i) = some (S (i + 1), H (i + 1), kd i)

theorem trace_of {run : CodeRun} {L : List Oper} {fl : Bool} {ql : List Nat} : ∀ (rest : List Oper) {s s' : T Value} {h h' : AHeap} {ks ks' : List Nat}, drawOps E run L fl ql rest s h ks = some (s', h', ks') →
    ∃ S H kd, S 0 = s ∧ H 0 = h ∧ S rest.length = s' ∧ H rest.length = h' ∧ ks' = ks ++ (List.range rest.length).map kd ∧ Trace E run L fl ql rest S H kd
  | [], s, s', h, h', ks, ks', e => by
    cases e
    exact ⟨fun _ => s, fun _ => h, fun _ => 0, rfl, rfl, rfl, rfl, by simp, ⟨fun i o h => by simp at h⟩⟩
  | o :: rest, s, s', h, h', ks, ks', e => by
    unfold drawOps at e
    split at e
    · rename_i s1 h1 k hs
      obtain ⟨S, H, kd, a1, a2, a3, a4, a5, a6⟩ := trace_of rest e
      refine ⟨fun i => match i with | 0 => s | i + 1 => S i, fun i => match i with | 0 => h | i + 1 => H i, fun i => match i with | 0 => k | i + 1 => kd i, rfl, rfl, a3, a4, ?_, ⟨?_⟩⟩
      · rw [a5, List.length_cons, List.range_succ_eq_map, List.map_cons, List.append_assoc]
        simp [Function.comp_def]
      · intro i q hq
        cases i with
        | zero =>
          simp only [List.getElem?_cons_zero, Option.some.injEq] at hq
          subst hq
          simp only [a1, a2]
          exact hs
        | succ i => exact a6.step i q (by simpa using hq)
    · cases e

/-- What has come up to a place. -/
theorem Trace.take {run : CodeRun} {L : List Oper} {fl : Bool} {ql : List Nat} : ∀ {rest : List Oper} {S : Nat → T Value} {H : Nat → AHeap} {kd : Nat → Nat}, Trace E run L fl ql rest S H kd → ∀ (n : Nat) (ks : List Nat), n ≤ rest.length →
    ∃ ks', drawOps E run L fl ql (rest.take n) (S 0) (H 0) ks = some (S n, H n, ks')
  | [], S, H, kd, t, n, ks, hn => by
    have : n = 0 := by simpa using hn
    subst this
    exact ⟨ks, rfl⟩
  | o :: rest, S, H, kd, t, 0, ks, hn => ⟨ks, rfl⟩
  | o :: rest, S, H, kd, t, n + 1, ks, hn => by
    have h0 := t.step 0 o rfl
    have t' : Trace E run L fl ql rest (fun i => S (i + 1)) (fun i => H (i + 1)) (fun i => kd (i + 1)) := ⟨fun i o' hi => t.step (i + 1) o' (by simpa using hi)⟩
    obtain ⟨ks', hk⟩ := t'.take n (ks ++ [kd 0]) (by simpa using hn)
    refine ⟨ks', ?_⟩
    rw [List.take_succ_cons]
    unfold drawOps
    rw [h0]
    exact hk

/-! ### Values that are the same -/
theorem eqI_eq {a b : Int} (h : eqI a b = true) : a = b := by
  cases a <;> cases b
  · exact congrArg _ (Nat.eq_of_beq_eq_true h)
  · cases h
  · cases h
  · exact congrArg _ (Nat.eq_of_beq_eq_true h)
theorem eqL_eq {α : Type} {f : α → α → Bool} (hf : ∀ a b, f a b = true → a = b) : ∀ {l m : List α}, eqL f l m = true → l = m
  | [], [], _ => rfl
  | [], b :: q, h => by cases h
  | a :: r, [], h => by cases h
  | a :: r, b :: q, h => by
    unfold eqL at h
    split at h
    · rename_i hab
      rw [hf a b hab, eqL_eq hf h]
    · cases h
theorem eqB8_eq (a b : UInt8) (h : eqB8 a b = true) : a = b := UInt8.toNat_inj.1 (Nat.eq_of_beq_eq_true h)
theorem eqC_eq (a b : Value) (h : eqC a b = true) : a = b := by
  unfold eqC at h
  split at h
  · rw [eqI_eq h]
  · rfl
  · rfl
  · rw [eqL_eq eqB8_eq h]
  · split at h
    · rename_i h1 h2 h3 h4
      rw [Nat.eq_of_beq_eq_true h1, Nat.eq_of_beq_eq_true h2, Nat.eq_of_beq_eq_true h3, Nat.eq_of_beq_eq_true h4]
    · cases h
  · cases h
theorem sameO_eq {a b : Option Value} (h : sameO a b = true) : a = b := by
  unfold sameO at h
  split at h
  · rw [eqC_eq _ _ h]
  · rfl
  · cases h

/-- What is known of lookups. -/
theorem float_spec {run : CodeRun} {L : List Oper} {ql : List Nat} {s : T Value} {h : AHeap} {b ks : List Nat} {S : Nat → T Value} {H : Nat → AHeap} {kd : Nat → Nat} (tr : Trace E run L true ql L S H kd) (hS : S 0 = s) (hH : H 0 = h)
    (h1 : floatSt L b ks = true) (h2 : floatAll E run L ql s h (floatPairs L b ks) = true) {i : Nat} {o : Oper} (ho : L[i]? = some o) (hl : isLook o = true) :
    (∀ j, j < i → ks.getD j 0 = 2 → isBef b j i = true) ∧ ∀ j, i < j → j < L.length → ks.getD j 0 = 2 → isBef b i j = true ∨
      ∃ v h1 h2, stepA E run (S i) { H i with low := (H i).next } o = some (v, h1) ∧ stepA E run (S i) { H (j + 1) with low := (H (j + 1)).next } o = some (v, h2) ∧ (H (j + 1)).next = (H i).next ∧ h2.next = (H i).next ∧ h2.low = (H i).next := by
  have hi := (List.getElem?_eq_some_iff.1 ho).1
  constructor
  · intro j hj hk
    unfold floatSt at h1
    have := List.all_eq_true.1 h1 i (List.mem_range.2 hi)
    rw [ho] at this
    dsimp only at this
    rw [hl] at this
    have := List.all_eq_true.1 this j (List.mem_range.2 hj)
    rw [hk] at this
    exact this
  · intro j hij hj hk
    cases hb : isBef b i j with
    | true => exact .inl rfl
    | false =>
      refine .inr ?_
      have hmem : (i, j, o) ∈ floatPairs L b ks := by
        unfold floatPairs
        rw [List.mem_flatMap]
        refine ⟨i, List.mem_range.2 hi, ?_⟩
        rw [ho]
        dsimp only
        rw [hl]
        refine List.mem_map.2 ⟨j, List.mem_filter.2 ⟨List.mem_range.2 hj, ?_⟩, rfl⟩
        rw [hk, hb]
        simp [Nat.blt_eq, hij]
      have all : ∀ l : List (Nat × Nat × Oper), floatAll E run L ql s h l = true → ∀ p ∈ l, floatAt E run L ql s h p.1 p.2.1 p.2.2 = true := by
        intro l
        induction l with
        | nil => intro _ p hp; cases hp
        | cons p l ih =>
          intro hh q hq
          obtain ⟨pi, pj, po⟩ := p
          unfold floatAll at hh
          split at hh
          · rename_i hf
            rcases List.mem_cons.1 hq with e | e
            · rw [e]; exact hf
            · exact ih hh q e
          · cases hh
      have := all _ h2 _ hmem
      dsimp only at this
      unfold floatAt at this
      obtain ⟨k1, t1⟩ := tr.take i [] (by omega)
      obtain ⟨k2, t2⟩ := tr.take (j + 1) [] (by omega)
      rw [hS, hH] at t1 t2
      rw [t1, t2] at this
      dsimp only at this
      split at this
      · rename_i v h1' v2 h2' e1 e2
        simp only [Bool.and_eq_true] at this
        obtain ⟨a1, a2, a3, a4⟩ := this
        have := sameO_eq a1
        subst this
        exact ⟨_, _, _, e1, e2, Nat.eq_of_beq_eq_true a2, Nat.eq_of_beq_eq_true a3, Nat.eq_of_beq_eq_true a4⟩
      · cases this
end Go.Proofs.YtlkhpgocbojdgaaGreatDoor.Ai

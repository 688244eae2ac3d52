/-
  A REGION THAT DRAWS ITS ORDER: whatever the order, what the evaluator finds in the text's order.
-/
import Derived.Test.YtlkhpgocbojdgaaGreatDoorAiDep
namespace Go.Proofs.YtlkhpgocbojdgaaGreatDoor.Ai
open Go
set_option linter.unusedSimpArgs false
set_option linter.unusedVariables false
variable {E : Env}

def cut (ρ : Ren) (m : Nat) : Ren := fun b => if b < m then ρ b else none
theorem cut_some {ρ : Ren} {m b : Nat} {x : Nat × Nat} (h : cut ρ m b = some x) : b < m ∧ ρ b = some x := by
  unfold cut at h
  split at h
  · exact ⟨by assumption, h⟩
  · cases h
theorem cut_of {ρ : Ren} {m b : Nat} {x : Nat × Nat} (h1 : b < m) (h : ρ b = some x) : cut ρ m b = some x := by
  unfold cut
  rw [if_pos h1, h]
theorem cut_ext {ρ ρ' : Ren} {m m' : Nat} (h : Ext ρ ρ') (hm : m ≤ m') : Ext (cut ρ m) (cut ρ' m') := fun b c e =>
  let ⟨a, k⟩ := cut_some e
  cut_of (by omega) (h _ _ k)
theorem cut_tight {ρ : Ren} {h : AHeap} : Tight0 (cut ρ h.next) h := fun b hb => by unfold cut; rw [if_neg (by omega)]

/-- What one operation of the trace does to the evaluator's own state. -/
structure Facts (ql : List Nat) (o : Oper) (s s' : T Value) (h h' : AHeap) (k : Nat) : Prop where
  next : h.next ≤ h'.next
  low : h'.low ≤ h.low
  keep : k ≠ 2 → ∀ b, b < h.next → h'.get b = h.get b
  zero : k = 0 → h' = h
  put : ∃ r, s' = putT s o.dst r
  quiet : ∀ b, b < h.next → ql.any (Nat.beq b) = true → h'.get b = h.get b

theorem stepD_cases {run : CodeRun} {L : List Oper} {fl : Bool} {ql : List Nat} {o : Oper} {s s' : T Value} {h h' : AHeap} {k : Nat} (e : stepD E run L fl ql o s h = some (s', h', k)) :
    (∃ r, s' = putT s o.dst r ∧ h' = h ∧ k = 0) ∨
    ∃ v h2, stepA E run s { h with low := h.next } o = some (v, h2) ∧ (wOk ql s o || !(Nat.blt h2.low h.next)) = true ∧ s' = putT s o.dst v ∧ h' = { h2 with low := Nat.min h.low h2.low } ∧ k = (match Nat.blt h2.low h.next with | true => 2 | false => 1) := by
  unfold stepD at e
  split at e
  · split at e
    · split at e
      · split at e
        · cases e; exact .inl ⟨_, rfl, rfl, rfl⟩
        · cases e
      · cases e
    · split at e
      · split at e
        · split at e
          · cases e; exact .inl ⟨_, rfl, rfl, rfl⟩
          · cases e
        · cases e
      · split at e
        · split at e
          · split at e
            · cases e; exact .inl ⟨_, rfl, rfl, rfl⟩
            · cases e
          · cases e
        · split at e
          · rename_i hs
            split at e
            · rename_i hb
              cases e
              exact .inr ⟨_, _, hs, hb, rfl, rfl, rfl⟩
            · cases e
          · cases e
  · cases e; exact .inl ⟨_, rfl, rfl, rfl⟩
  · cases e

theorem ptrB_some {v : Option Value} {b : Nat} (h : ptrB v = some b) : ∃ off, v = some (.pointer (some ⟨b, off, none⟩)) := by
  unfold ptrB at h
  split at h
  · cases h; exact ⟨_, rfl⟩
  · cases h

theorem mapB_some {v : Option Value} {b : Nat} (h : mapB v = some b) : v = some (.map (some b)) := by
  unfold mapB at h
  split at h
  · cases h; rfl
  · cases h
theorem mapA_some {h : AHeap} {b r c : Nat} {es : List MapEntry} (e : mapA h (some (.map (some b))) = some (r, es, c)) : r = b ∧ b < h.next := by
  unfold mapA at e
  dsimp only at e
  split at e
  · rename_i hg
    cases e
    refine ⟨rfl, ?_⟩
    rw [AHeap.get_def] at hg
    split at hg
    · assumption
    · cases hg
  · cases e

/-- A store to one block leaves the others. -/
theorem wOk_keep {run : CodeRun} {ql : List Nat} {o : Oper} {s : T Value} {h h2 : AHeap} {v : Option Value} (hw : wOk ql s o = true) (e : stepA E run s h o = some (v, h2)) {b : Nat} (hq : ql.any (Nat.beq b) = true) : h2.get b = h.get b := by
  unfold wOk at hw
  split at hw
  · cases hq
  · split at hw
    · rename_i t p x ho
      split at hw
      · rename_i b' hp
        obtain ⟨off, hp⟩ := ptrB_some hp
        have hne : b ≠ b' := by
          rintro rfl
          rw [hq] at hw
          cases hw
        have e2 : aop E s h o = some (v, h2) := by
          unfold stepA at e
          rw [ho] at e
          exact e
        unfold aop at e2
        rw [ho] at e2
        dsimp only at e2
        rw [hp] at e2
        unfold storeA at e2
        split at e2
        · rename_i p' z i h1 h3 h4
          cases h1
          split at e2
          · unfold stored at e2
            split at e2
            · rename_i hw2
              cases e2
              unfold writeCells at hw2
              split at hw2
              · rename_i c el hg
                split at hw2
                · cases hw2
                  have hb' : b' < h.next := by
                    rw [AHeap.get_def] at hg
                    split at hg
                    · assumption
                    · cases hg
                  rw [AHeap.get_set _ _ _ hb', if_neg hne]
                · cases hw2
              · cases hw2
            · cases e2
          · cases e2
        · cases e2
      · cases hw
    · rename_i t m k ho
      split at hw
      · rename_i b' hp
        have hp := mapB_some hp
        have hne : b ≠ b' := by
          rintro rfl
          rw [hq] at hw
          cases hw
        have e2 : aop E s h o = some (v, h2) := by
          unfold stepA at e
          rw [ho] at e
          exact e
        unfold aop at e2
        rw [ho] at e2
        dsimp only at e2
        rw [hp] at e2
        unfold mapEntryA at e2
        split at e2
        · rename_i h4 _
          obtain ⟨rfl, hb'⟩ := mapA_some h4
          split at e2
          · split at e2
            · split at e2
              · cases e2
                rw [AHeap.get_set _ _ _ hb', if_neg hne]
              · cases e2
            · cases e2
          · cases e2
            rw [AHeap.get_set _ _ _ hb', if_neg hne]
          · cases e2
        · cases e2
      · cases hw
    · rename_i t m st x ho
      split at hw
      · rename_i b' hp
        have hp := mapB_some hp
        have hne : b ≠ b' := by
          rintro rfl
          rw [hq] at hw
          cases hw
        have e2 : aop E s h o = some (v, h2) := by
          unfold stepA at e
          rw [ho] at e
          exact e
        unfold aop at e2
        rw [ho] at e2
        dsimp only at e2
        rw [hp] at e2
        unfold entryStoreA at e2
        split at e2
        · rename_i h3 _ _
          obtain ⟨rfl, hb'⟩ := mapA_some h3
          split at e2
          · cases e2
            rw [AHeap.get_set _ _ _ hb', if_neg hne]
          · cases e2
        · cases e2
      · cases hw
    · cases hw

theorem facts_of (hi : IntrUp E) {run : CodeRun} (hu : RunUp run) {L : List Oper} {fl : Bool} {ql : List Nat} {o : Oper} {s s' : T Value} {h h' : AHeap} {k : Nat} (e : stepD E run L fl ql o s h = some (s', h', k)) : Facts ql o s s' h h' k := by
  have up := Up.stepD hi hu e
  rcases stepD_cases e with ⟨r, rfl, rfl, rfl⟩ | ⟨v, h2, hs, hb, rfl, rfl, rfl⟩
  · exact ⟨up.next, up.low, fun _ _ _ => rfl, fun _ => rfl, ⟨_, rfl⟩, fun _ _ _ => rfl⟩
  · have us := Up.step hi hu hs
    have keep : Nat.blt h2.low h.next = false → ∀ b, b < h.next → h2.get b = h.get b := fun hw b hb => by
      have : ¬ (h2.low < h.next) := by simpa [← Nat.blt_eq] using hw
      exact us.keep b hb (by omega)
    refine ⟨up.next, up.low, ?_, ?_, ⟨_, rfl⟩, ?_⟩
    · intro hk b hb'
      cases hw : Nat.blt h2.low h.next with
      | true => rw [hw] at hk; exact absurd rfl hk
      | false => exact keep hw b hb'
    · intro hk
      cases hw : Nat.blt h2.low h.next with
      | true => rw [hw] at hk; cases hk
      | false => rw [hw] at hk; cases hk
    · intro b hb' hq
      cases hw : Nat.blt h2.low h.next with
      | true =>
        rw [hw] at hb
        have hb : wOk ql s o = true := by simpa using hb
        exact wOk_keep hb hs hq
      | false => exact keep hw b hb'

section
variable {ops : Array Oper} {ql : List Nat} {S : Nat → T Value} {H : Nat → AHeap} {kd : Nat → Nat} (hF : ∀ i o, ops.toList[i]? = some o → Facts ql o (S i) (S (i + 1)) (H i) (H (i + 1)) (kd i))
  include hF

theorem next_mono {q p : Nat} (hqp : q ≤ p) (hp : p ≤ ops.size) : (H q).next ≤ (H p).next := by
  induction p with
  | zero => have : q = 0 := by omega
            subst this; exact Nat.le_refl _
  | succ p ih =>
    by_cases hq : q = p + 1
    · subst hq; exact Nat.le_refl _
    · have hlt : p < ops.toList.length := by rw [Array.length_toList]; omega
      exact Nat.le_trans (ih (by omega) (by omega)) (hF p _ (List.getElem?_eq_getElem hlt)).next

theorem low_mono {q p : Nat} (hqp : q ≤ p) (hp : p ≤ ops.size) : (H p).low ≤ (H q).low := by
  induction p with
  | zero => have : q = 0 := by omega
            subst this; exact Nat.le_refl _
  | succ p ih =>
    by_cases hq : q = p + 1
    · subst hq; exact Nat.le_refl _
    · have hlt : p < ops.toList.length := by rw [Array.length_toList]; omega
      exact Nat.le_trans (hF p _ (List.getElem?_eq_getElem hlt)).low (ih (by omega) (by omega))

theorem keep_get {q p : Nat} (hqp : q ≤ p) (hp : p ≤ ops.size) (hw : ∀ j, q ≤ j → j < p → kd j ≠ 2) {b : Nat} (hb : b < (H q).next) : (H p).get b = (H q).get b := by
  induction p with
  | zero => have : q = 0 := by omega
            subst this; rfl
  | succ p ih =>
    by_cases hq : q = p + 1
    · subst hq; rfl
    · have hlt : p < ops.toList.length := by rw [Array.length_toList]; omega
      rw [(hF p _ (List.getElem?_eq_getElem hlt)).keep (hw p (by omega) (by omega)) b (Nat.lt_of_lt_of_le hb (next_mono hF (by omega) (by omega)))]
      exact ih (by omega) (by omega) (fun j h1 h2 => hw j h1 (by omega))

theorem quiet_get {p : Nat} (hp : p ≤ ops.size) {b : Nat} (hb : b < (H 0).next) (hq : ql.any (Nat.beq b) = true) : (H p).get b = (H 0).get b := by
  induction p with
  | zero => rfl
  | succ p ih =>
    have hlt : p < ops.toList.length := by rw [Array.length_toList]; omega
    rw [(hF p _ (List.getElem?_eq_getElem hlt)).quiet b (Nat.lt_of_lt_of_le hb (next_mono hF (Nat.zero_le p) (by omega))) hq]
    exact ih (by omega)

theorem keep_tmp {q p : Nat} (hqp : q ≤ p) (hp : p ≤ ops.size) {t : Tmp} (hw : ∀ j o, q ≤ j → j < p → ops.toList[j]? = some o → o.dst ≠ some t) : (S p).get t = (S q).get t := by
  induction p with
  | zero => have : q = 0 := by omega
            subst this; rfl
  | succ p ih =>
    by_cases hq : q = p + 1
    · subst hq; rfl
    · have hlt : p < ops.toList.length := by rw [Array.length_toList]; omega
      have hg := List.getElem?_eq_getElem hlt
      obtain ⟨r, hr⟩ := (hF p _ hg).put
      have hne := hw p _ (by omega) (by omega) hg
      rw [hr, ← ih (by omega) (by omega) (fun j o h1 h2 => hw j o h1 (by omega))]
      cases hd : ops.toList[p].dst with
      | none => cases r <;> rfl
      | some d =>
        rw [hd] at hne
        have hdt : t ≠ d := fun e => hne (by rw [e])
        cases r with
        | none => simp only [putT]; rw [T.get_put, if_neg hdt]
        | some v => simp only [putT]; rw [T.get_put, if_neg hdt]
end

/-- What stands while a region's operations come up in some order. -/
structure Inv (ops : Array Oper) (ql : List Nat) (S : Nat → T Value) (H : Nat → AHeap) (kd : Nat → Nat) (ρ0 : Ren) (a0 : Act) (w0 : World) (listed : Array Bool) (ρ : Ren) (a : Act) (w : World) : Prop where
  size : listed.size = ops.size
  closed : ∀ j o, ops.toList[j]? = some o → listed.getD j false = true → ∀ e ∈ o.after.toList, Region.binds .any e = true → listed.getD e.on false = true
  ext : Ext ρ0 ρ
  dom : ∀ b c N, ρ b = some (c, N) → ρ0 b = some (c, N) ∨ ((H 0).next ≤ b ∧ (w0.heap.size ≤ c ∨ ∃ b0 M, (H ops.size).low ≤ b0 ∧ b0 < (H 0).next ∧ ρ0 b0 = some (c, M)) ∧
    ∃ j, j < ops.size ∧ listed.getD j false = true ∧ kd j ≠ 0 ∧ (H j).next ≤ b ∧ b < (H (j + 1)).next)
  lt : ∀ b c N, ρ b = some (c, N) → c < w.heap.size
  heap : ∀ p, p ≤ ops.size → (∀ j, j < ops.size → kd j = 2 → (listed.getD j false = true ↔ j < p)) → Rel (cut ρ (H p).next) (H p) w
  tmps : ∀ p, p ≤ ops.size → ∀ t, (∀ j o, ops.toList[j]? = some o → o.dst = some t → (listed.getD j false = true ↔ j < p)) →
    (∀ v, (S p).get t = some v → ∃ v', a.tmps[t]? = some v' ∧ VR (cut ρ (H p).next) v v') ∧ True
  sz : a.tmps.size = a0.tmps.size
  df : a.defers = a0.defers
  os : w.os = w0.os
  tape : w.tape = w0.tape
  output : w.output = w0.output
  wsz : w0.heap.size ≤ w.heap.size
  frame : ∀ c, c < w0.heap.size → (∀ b N, (H ops.size).low ≤ b → b < (H 0).next → ρ0 b ≠ some (c, N)) → w.heap[c]? = w0.heap[c]?
  quiet : ∀ b, b < (H 0).next → ql.any (Nat.beq b) = true → ∀ c el, (H 0).get b = some (.cells c el) → c.all flatCell = true → ∀ cc N, ρ0 b = some (cc, N) → ∃ o', w.heap[cc]? = some o' ∧ ∀ ρ', OR ρ' N (.cells c el) o'
  gl : Gl ρ w

/-- A block of flat cells is the same in every memory. -/
theorem OR.flat {ρ ρ' : Ren} {N : Nat} {c : List Value} {el : TypeId} {o' : Obj} (hf : c.all flatCell = true) (h : OR ρ N (.cells c el) o') : OR ρ' N (.cells c el) o' := by
  cases h with
  | cells a b d =>
    refine .cells (fun i v hv => ?_) b d
    obtain ⟨v', e, r⟩ := a i v hv
    have hfc : flatCell v = true := List.all_eq_true.1 hf v (List.mem_of_getElem? hv)
    rw [flatCell_eq hfc r] at e
    exact ⟨v, e, flatCell_VR _ hfc⟩

def merge (ρ ρ1 : Ren) (lo hi : Nat) : Ren := fun b => if lo ≤ b ∧ b < hi then ρ1 b else ρ b

theorem Inv.step {ops : Array Oper} {ql : List Nat} {S : Nat → T Value} {H : Nat → AHeap} {kd : Nat → Nat} {ρ0 : Ren} {a0 : Act} {w0 : World} {listed : Array Bool} {ρ : Ren} {a : Act} {w : World}
    (hF : ∀ i o, ops.toList[i]? = some o → Facts ql o (S i) (S (i + 1)) (H i) (H (i + 1)) (kd i))
    (hW : ∀ i j, i < j → j < ops.size → kd i ≠ 0 → kd j ≠ 0 → (kd i = 2 ∨ kd j = 2) → isBef (befL ops.toList []) i j = true)
    (hD : ∀ i j p q, i < j → ops.toList[i]? = some p → ops.toList[j]? = some q → ∀ t, ((p.dst = some t ∧ (q.dst = some t ∨ reads ops.toList q t = true)) ∨ (q.dst = some t ∧ reads ops.toList p t = true)) → isBef (befL ops.toList []) i j = true)
    (t0 : Tight0 ρ0 (H 0)) (I : Inv ops ql S H kd ρ0 a0 w0 listed ρ a w) {i : Nat} {o : Oper} (ho : ops.toList[i]? = some o) (hX : listed.getD i false = false)
    (hE : ∀ e ∈ o.after.toList, Region.binds .any e = true → listed.getD e.on false = true)
    {hh h1 : AHeap} {ρ1 : Ren} {r : Option Value} {v' : Value} {w1 : World} (A : Adv (cut ρ (H i).next) ρ1 hh h1 w w1) (hn : hh.next = (H i).next) (hn1 : h1.next = (H (i + 1)).next)
    (hl : kd i ≠ 2 → (H i).next ≤ h1.low) (hl2 : kd i = 2 → (H ops.size).low ≤ h1.low) (hget : kd i ≠ 0 → ∀ b, (H (i + 1)).get b = h1.get b) (hk0 : kd i = 0 → (H (i + 1)).next = (H i).next)
    (hS : S (i + 1) = putT (S i) o.dst r) (hv : RV ρ1 r v') (hdst : ∀ d, o.dst = some d → d < a.tmps.size) :
    Inv ops ql S H kd ρ0 a0 w0 (listed.setIfInBounds i true) (merge ρ ρ1 (H i).next (H (i + 1)).next) (a.put o.dst v') w1 := by
  have hi : i < ops.size := by have := (List.getElem?_eq_some_iff.1 ho).1; rwa [Array.length_toList] at this
  have hX' : ∀ j, (listed.setIfInBounds i true).getD j false = true ↔ (listed.getD j false = true ∨ j = i) := by
    intro j
    by_cases hji : j = i
    · subst hji
      have : j < listed.size := by rw [I.size]; exact hi
      simp [Array.getD_eq_getD_getElem?, this]
    · rw [getD_set_ne false (Ne.symm hji)]
      simp [hji]
  -- who comes after i has not come up
  have later : ∀ j, i < j → listed.getD j false = true → isBef (befL ops.toList []) i j = true → False := by
    intro j hij hj hb
    have hjs : j < ops.toList.length := by
      rcases Nat.lt_or_ge j listed.size with h' | h'
      · rw [I.size] at h'; rwa [Array.length_toList]
      · simp [Array.getD_eq_getD_getElem?, Array.getElem?_eq_none h'] at hj
    have hg := List.getElem?_eq_getElem hjs
    have := bef_closed (X := fun k => listed.getD k false = true) hg (fun k q hk hk' => I.closed k q hk hk') (I.closed j _ hg hj) hb
    rw [hX] at this
    cases this
  have nm := fun {q p : Nat} (h1 : q ≤ p) (h2 : p ≤ ops.size) => next_mono hF h1 h2
  have nI := (hF i o ho).next
  -- below and within
  have r1lt : ∀ b x, ρ1 b = some x → b < (H (i + 1)).next := by
    intro b x hb
    rcases A.new b x.1 x.2 hb with e | ⟨_, e, _⟩
    · have := (cut_some e).1; omega
    · omega
  have r1old : ∀ b x, b < (H i).next → ρ1 b = some x → ρ b = some x := by
    intro b x hlt hb
    rcases A.new b x.1 x.2 hb with e | ⟨e, _, _⟩
    · exact (cut_some e).2
    · omega
  have fresh : ∀ b x, (H i).next ≤ b → b < (H (i + 1)).next → ρ b ≠ some x := by
    intro b x h1 h2 hb
    rcases I.dom b x.1 x.2 hb with e | ⟨_, _, j, hj, hjX, hjk, hj1, hj2⟩
    · have := t0 b (Nat.le_trans (nm (Nat.zero_le i) (by omega)) h1)
      rw [this] at e; cases e
    · rcases Nat.lt_trichotomy j i with h3 | h3 | h3
      · have := nm (show j + 1 ≤ i by omega) (by omega)
        omega
      · subst h3; rw [hX] at hjX; cases hjX
      · have := nm (show i + 1 ≤ j by omega) (by omega)
        omega
  have mext : Ext ρ (merge ρ ρ1 (H i).next (H (i + 1)).next) := by
    intro b x hb
    unfold merge
    split
    · rename_i hc; exact absurd hb (fresh b x hc.1 hc.2)
    · exact hb
  have m1ext : Ext ρ1 (merge ρ ρ1 (H i).next (H (i + 1)).next) := by
    intro b x hb
    unfold merge
    split
    · exact hb
    · rename_i hc
      have := r1lt b x hb
      exact r1old b x (by omega) hb
  have mcase : ∀ b x, merge ρ ρ1 (H i).next (H (i + 1)).next b = some x → ρ b = some x ∨ ((H i).next ≤ b ∧ b < (H (i + 1)).next ∧ ρ1 b = some x ∧ kd i ≠ 0) := by
    intro b x hb
    unfold merge at hb
    split at hb
    · rename_i hc
      refine .inr ⟨hc.1, hc.2, hb, fun hk => ?_⟩
      have := hk0 hk
      omega
    · exact .inl hb
  have m1c : ∀ m, (H (i + 1)).next ≤ m → Ext ρ1 (cut (merge ρ ρ1 (H i).next (H (i + 1)).next) m) := fun m hm b x hb =>
    cut_of (by have := r1lt b x hb; omega) (m1ext b x hb)
  have noW : ∀ p, p ≤ ops.size → kd i ≠ 0 → (∀ j, j < ops.size → kd j = 2 → ((listed.setIfInBounds i true).getD j false = true ↔ j < p)) → ∀ j, i + 1 ≤ j → j < p → kd j ≠ 2 := by
    intro p hp hk hc j h1 h2 hj2
    have := (hc j (by omega) hj2).2 h2
    rw [hX'] at this
    rcases this with h3 | h3
    · exact later j (by omega) h3 (hW i j (by omega) (by omega) hk (by omega) (.inr hj2))
    · omega
  refine ⟨by simp [I.size], ?_, fun b c hb => mext b c (I.ext b c hb), ?_, ?_, ?_, ?_, by rw [← I.sz]; cases o.dst <;> simp [Act.put], by rw [← I.df]; cases o.dst <;> rfl, A.os.trans I.os, A.tape.trans I.tape, A.output.trans I.output, Nat.le_trans I.wsz A.size, ?_, ?_, ?_⟩
  · intro j q hj hjX e he hb
    rw [hX'] at hjX ⊢
    rcases hjX with h1 | h1
    · exact .inl (I.closed j q hj h1 e he hb)
    · subst h1
      rw [ho] at hj
      cases hj
      exact .inl (hE e he hb)
  · intro b c N hb
    rcases mcase b _ hb with h1 | ⟨h1, h2, h3, h4⟩
    · rcases I.dom b c N h1 with e | ⟨e1, e2, j, a1, a2, a3⟩
      · exact .inl e
      · exact .inr ⟨e1, e2, j, a1, (hX' j).2 (.inl a2), a3⟩
    · refine .inr ⟨Nat.le_trans (nm (Nat.zero_le i) (by omega)) h1, ?_, i, hi, (hX' i).2 (.inr rfl), h4, h1, h2⟩
      rcases A.new b c N h3 with e | ⟨_, _, e⟩
      · have := (cut_some e).1; omega
      · rcases e with e | ⟨b0, M, e1, e2, e3⟩
        · exact .inl (Nat.le_trans I.wsz e)
        · have hk2 : kd i = 2 := by
            by_cases hk : kd i = 2
            · exact hk
            · have := hl hk; omega
          rcases I.dom b0 c M (cut_some e3).2 with f | ⟨_, f, _⟩
          · refine .inr ⟨b0, M, by have := hl2 hk2; omega, ?_, f⟩
            rcases Nat.lt_or_ge b0 (H 0).next with g | g
            · exact g
            · rw [t0 b0 g] at f; cases f
          · exact f
  · intro b c N hb
    rcases mcase b _ hb with h1 | ⟨_, _, h3, _⟩
    · exact Nat.lt_of_lt_of_le (I.lt b c N h1) A.size
    · exact A.rel.lt b c N h3
  · -- memory
    intro p hp hc
    by_cases hk2 : kd i = 2
    · -- a writer
      have hip : i < p := (hc i hi hk2).1 ((hX' i).2 (.inr rfl))
      have hkeep : ∀ b, b < (H (i + 1)).next → (H p).get b = h1.get b := fun b hb => by
        rw [keep_get hF (show i + 1 ≤ p by omega) hp (noW p hp (by omega) hc) hb, hget (by omega)]
      have hin : ∀ b x, merge ρ ρ1 (H i).next (H (i + 1)).next b = some x → ρ1 b = some x := by
        intro b x hb
        rcases mcase b _ hb with g1 | ⟨_, _, g3, _⟩
        · rcases Nat.lt_or_ge b (H i).next with g | g
          · exact A.ext b x (cut_of g g1)
          · exfalso
            rcases I.dom b x.1 x.2 g1 with f | ⟨_, _, j, f1, f2, f3, f4, f5⟩
            · rw [t0 b (Nat.le_trans (nm (Nat.zero_le i) (by omega)) g)] at f; cases f
            · rcases Nat.lt_trichotomy j i with q1 | q1 | q1
              · have := nm (show j + 1 ≤ i by omega) (by omega); omega
              · subst q1; rw [hX] at f2; cases f2
              · exact later j q1 f2 (hW i j q1 f1 (by omega) f3 (.inl hk2))
        · exact g3
      refine ⟨?_, ?_, ?_⟩
      · intro b ob hb c N hcb
        obtain ⟨hb1, hb2⟩ := cut_some hcb
        have g := hin b _ hb2
        have hb3 := r1lt b _ g
        rw [hkeep b hb3] at hb
        obtain ⟨o', q1, q2⟩ := A.rel.obj b ob hb c N g
        exact ⟨o', q1, q2.mono (m1c _ (nm (by omega) hp))⟩
      · intro b b' c N N' lb lb' hcb hcb'
        obtain ⟨hb1, hb2⟩ := cut_some hcb
        obtain ⟨hb1', hb2'⟩ := cut_some hcb'
        have g := hin b _ hb2
        have g' := hin b' _ hb2'
        refine A.rel.inj b b' c N N' ?_ ?_ g g'
        · rcases lb with l | l
          · omega
          · rw [hkeep b (r1lt b _ g)] at l; exact .inr l
        · rcases lb' with l | l
          · omega
          · rw [hkeep b' (r1lt b' _ g')] at l; exact .inr l
      · intro b c N hcb
        exact A.rel.lt b c N (hin b _ (cut_some hcb).2)
    · -- no writer
      have hc0 : ∀ j, j < ops.size → kd j = 2 → (listed.getD j false = true ↔ j < p) := by
        intro j hj hj2
        rw [← hc j hj hj2, hX']
        constructor
        · exact .inl
        · rintro (h | h)
          · exact h
          · subst h; exact absurd hj2 hk2
      have R0 := I.heap p hp hc0
      have hlow := hl hk2
      have fr : ∀ c, c < w.heap.size → w1.heap[c]? = w.heap[c]? := fun c hcw => A.frame c hcw (fun b N q1 q2 => by omega)
      have hnew : ∀ b x, (H i).next ≤ b → b < (H (i + 1)).next → ρ1 b = some x → kd i ≠ 0 → b < (H p).next → i < p ∧ (H p).get b = h1.get b := by
        intro b x q1 q2 q3 q4 q5
        have hip : i < p := by
          rcases Nat.lt_or_ge i p with g | g
          · exact g
          · have := nm (show p ≤ i by omega) (by omega); omega
        refine ⟨hip, ?_⟩
        rw [keep_get hF (show i + 1 ≤ p by omega) hp (noW p hp q4 hc) q2, hget q4]
      have newc : ∀ b c N, (H i).next ≤ b → ρ1 b = some (c, N) → w.heap.size ≤ c := by
        intro b c N q1 q2
        rcases A.new b c N q2 with f | ⟨_, _, f⟩
        · have := (cut_some f).1; omega
        · rcases f with f | ⟨b0, M, f1, f2, _⟩
          · exact f
          · omega
      refine ⟨?_, ?_, ?_⟩
      · intro b ob hb c N hcb
        obtain ⟨hb1, hb2⟩ := cut_some hcb
        rcases mcase b _ hb2 with g | ⟨g1, g2, g3, g4⟩
        · obtain ⟨o', q1, q2⟩ := R0.obj b ob hb c N (cut_of hb1 g)
          exact ⟨o', by rw [fr c (R0.lt b c N (cut_of hb1 g))]; exact q1, q2.mono (cut_ext mext (Nat.le_refl _))⟩
        · obtain ⟨hip, hg⟩ := hnew b _ g1 g2 g3 g4 hb1
          rw [hg] at hb
          obtain ⟨o', q1, q2⟩ := A.rel.obj b ob hb c N g3
          exact ⟨o', q1, q2.mono (m1c _ (nm (by omega) hp))⟩
      · intro b b' c N N' lb lb' hcb hcb'
        obtain ⟨hb1, hb2⟩ := cut_some hcb
        obtain ⟨hb1', hb2'⟩ := cut_some hcb'
        rcases mcase b _ hb2 with g | ⟨g1, g2, g3, g4⟩ <;> rcases mcase b' _ hb2' with g' | ⟨g1', g2', g3', g4'⟩
        · exact R0.inj b b' c N N' lb lb' (cut_of hb1 g) (cut_of hb1' g')
        · have := newc b' c N' g1' g3'
          have := I.lt b c N g
          omega
        · have := newc b c N g1 g3
          have := I.lt b' c N' g'
          omega
        · obtain ⟨_, hg⟩ := hnew b _ g1 g2 g3 g4 hb1
          obtain ⟨_, hg'⟩ := hnew b' _ g1' g2' g3' g4' hb1'
          refine A.rel.inj b b' c N N' ?_ ?_ g3 g3'
          · rcases lb with l | l
            · omega
            · rw [hg] at l; exact .inr l
          · rcases lb' with l | l
            · omega
            · rw [hg'] at l; exact .inr l
      · intro b c N hcb
        rcases mcase b _ (cut_some hcb).2 with g | ⟨_, _, g3, _⟩
        · exact Nat.lt_of_lt_of_le (I.lt b c N g) A.size
        · exact A.rel.lt b c N g3
  · -- temporaries
    intro p hp t hc
    by_cases hdt : o.dst = some t
    · have hip : i < p := (hc i o ho hdt).1 ((hX' i).2 (.inr rfl))
      have hSt : (S p).get t = (S (i + 1)).get t := by
        refine keep_tmp hF (show i + 1 ≤ p by omega) hp (fun j q h1 h2 hj hjd => ?_)
        have := (hc j q hj hjd).2 h2
        rw [hX'] at this
        rcases this with g | g
        · exact later j (by omega) g (hD i j o q (by omega) ho hj t (.inl ⟨hdt, .inl hjd⟩))
        · omega
      have hlt := hdst t hdt
      rw [hSt, hS, hdt]
      cases r with
      | none =>
        simp only [putT]
        rw [T.get_put, if_pos rfl]
        refine ⟨fun v h => ?_, trivial⟩
        cases h
        have : v' = undef := hv
        subst this
        exact ⟨undef, by simp [Act.put, hlt], flat_VR _ rfl⟩
      | some x =>
        simp only [putT]
        rw [T.get_put, if_pos rfl]
        refine ⟨fun v h => ?_, trivial⟩
        cases h
        exact ⟨v', by simp [Act.put, hlt], VR.mono (m1c _ (nm (by omega) hp)) hv⟩
    · have hc0 : ∀ j q, ops.toList[j]? = some q → q.dst = some t → (listed.getD j false = true ↔ j < p) := by
        intro j q hj hjd
        rw [← hc j q hj hjd, hX']
        constructor
        · exact .inl
        · rintro (h | h)
          · exact h
          · subst h; rw [ho] at hj; cases hj; exact absurd hjd hdt
      obtain ⟨T1, T2⟩ := I.tmps p hp t hc0
      have hsame : (a.put o.dst v').tmps[t]? = a.tmps[t]? := by
        cases hd : o.dst with
        | none => rfl
        | some d =>
          have : d ≠ t := fun e => hdt (by rw [hd, e])
          simp [Act.put, Array.getElem?_setIfInBounds_ne this]
      rw [hsame]
      refine ⟨fun v h => ?_, T2⟩
      obtain ⟨u, q1, q2⟩ := T1 v h
      exact ⟨u, q1, q2.mono (cut_ext mext (Nat.le_refl _))⟩
  · -- the rest of memory
    intro c hcw hno
    have hwc : c < w.heap.size := Nat.lt_of_lt_of_le hcw I.wsz
    rw [A.frame c hwc ?_, I.frame c hcw hno]
    intro b N q1 q2 q3
    have hk2 : kd i = 2 := by
      by_cases hk : kd i = 2
      · exact hk
      · have := hl hk; omega
    have q4 := (cut_some q3).2
    rcases I.dom b c N q4 with f | ⟨_, f, _⟩
    · refine hno b N (by have := hl2 hk2; omega) ?_ f
      rcases Nat.lt_or_ge b (H 0).next with g | g
      · exact g
      · rw [t0 b g] at f; cases f
    · rcases f with f | ⟨b0, M, f1, f2, f3⟩
      · omega
      · exact hno b0 M f1 f2 f3
  · -- what is only read
    intro b hb hq c el hg hf cc N hr
    obtain ⟨o', q1, q2⟩ := I.quiet b hb hq c el hg hf cc N hr
    by_cases hk2 : kd i = 2
    · have g1 : h1.get b = some (.cells c el) := by rw [← hget (by omega), quiet_get hF (by omega) hb hq, hg]
      have g2 : ρ1 b = some (cc, N) := A.ext b _ (cut_of (Nat.lt_of_lt_of_le hb (nm (Nat.zero_le i) (by omega))) (I.ext b _ hr))
      obtain ⟨o2, r1, r2⟩ := A.rel.obj b _ g1 cc N g2
      exact ⟨o2, r1, fun ρ' => OR.flat hf r2⟩
    · have hlow := hl hk2
      exact ⟨o', by rw [A.frame cc (I.lt b cc N (I.ext b _ hr)) (fun b N q1 q2 => by omega)]; exact q1, q2⟩
  · -- what stands from the start
    obtain ⟨w00, Sg, g1, g2⟩ := I.gl
    have g3 : GlS w00 Sg ρ1 w1 := (g2.sub (fun b x hb => (cut_some hb).2)).adv A
    refine ⟨w00, Sg, g1, g3.1, fun b c N hb => ?_⟩
    rcases mcase b _ hb with q | ⟨_, _, q, _⟩
    · exact g2.2 b c N q
    · exact g3.2 b c N q

theorem qLoad_some {ql : List Nat} {s : T Value} {h hb : AHeap} {o : Oper} (e : qLoad ql s h o = some hb) : ∃ b c el, ql.any (Nat.beq b) = true ∧ h.get b = some (.cells c el) ∧ c.all flatCell = true ∧ hb = { m := T.put .nil b (.cells c el), next := h.next, low := h.next } := by
  unfold qLoad at e
  split at e
  · split at e
    · split at e
      · rename_i hq
        split at e
        · rename_i hg
          split at e
          · rename_i hf
            cases e
            exact ⟨_, _, _, hq, hg, hf, rfl⟩
          · cases e
        · cases e
      · cases e
    · cases e
  · cases e

theorem quietQ_lt {s : T Value} {h : AHeap} {ops : List Oper} {b : Nat} (hb : (quietQ s h ops).any (Nat.beq b) = true) : b < h.next := by
  obtain ⟨x, hx, e⟩ := List.any_eq_true.1 hb
  unfold quietQ at hx
  have := (List.mem_filter.1 hx).2
  simp only [Bool.and_eq_true] at this
  rw [Nat.eq_of_beq_eq_true e]
  simpa [Nat.blt_eq] using this.1

theorem draw_sound (K : E.Runs) {run : CodeRun} (hu : RunUp run) (hr : RunOk E run) {ops : Array Oper} {Q : Exit → Act → World → Prop} {N id : Nat}
    (hd : ∀ o ∈ ops.toList, ∀ d, o.dst = some d → d < N) (hdep : depOk ops.toList = true) (hed : edgesOk ops.toList = true) {fl : Bool} {ql : List Nat} {s s' : T Value} {h h' : AHeap} (hql : ∀ b, ql.any (Nat.beq b) = true → b < h.next) {ks : List Nat}
    (e : drawOps E run ops.toList fl ql ops.toList s h [] = some (s', h', ks)) (hfl : fl = true → floatSt ops.toList (befL ops.toList []) ks = true ∧ floatAll E run ops.toList ql s h (floatPairs ops.toList (befL ops.toList []) ks) = true) (hok : (noWriter ks || drawOk (befL ops.toList []) ks) = true)
    {ρ : Ren} {a : Act} {w : World} (ht : Tight ρ h w) (R : Rel ρ h w) (hT : TR ρ s a.tmps) (hN : TN s a.tmps) (hsz : N ≤ a.tmps.size)
    (hQ : ∀ ρ' a' w', TR ρ' s' a'.tmps → TN s' a'.tmps → a'.tmps.size = a.tmps.size → a'.defers = a.defers → Adv ρ ρ' h h' w w' → Q .normal a' w') (rc : Option Nat) :
    (Code.region id ops true).wpIn (fence rc) 0 E.P Q a w := by
  obtain ⟨S, H, kd, hS0, hH0, hSn, hHn, hks, tr⟩ := trace_of _ e
  rw [Array.length_toList] at hSn hHn hks
  have hF : ∀ i o, ops.toList[i]? = some o → Facts ql o (S i) (S (i + 1)) (H i) (H (i + 1)) (kd i) := fun i o hi => facts_of K.up hu (tr.step i o hi)
  -- the order of those that ask memory
  have hW : ∀ i j, i < j → j < ops.size → kd i ≠ 0 → kd j ≠ 0 → (kd i = 2 ∨ kd j = 2) → isBef (befL ops.toList []) i j = true := by
    intro i j hij hj h1 h2 h3
    have hg : ∀ k, k < ops.size → ks.getD k 0 = kd k := fun k hk => by
      rw [hks, List.nil_append, List.getD_eq_getElem?_getD, List.getElem?_map, List.getElem?_range hk]
      rfl
    refine drawOk_spec hok hij (by rw [hks]; simpa using hj) ?_ ?_ ?_
    · rw [hg i (by omega)]; exact h1
    · rw [hg j hj]; exact h2
    · rw [hg i (by omega), hg j hj]; exact h3
  have hD : ∀ i j p q, i < j → ops.toList[i]? = some p → ops.toList[j]? = some q → ∀ t, ((p.dst = some t ∧ (q.dst = some t ∨ reads ops.toList q t = true)) ∨ (q.dst = some t ∧ reads ops.toList p t = true)) → isBef (befL ops.toList []) i j = true :=
    fun i j p q hij hp hq t hh => depOk_spec hdep hij hp hq hh
  have hat : ∀ i, i < ops.size → ∃ o, ops.toList[i]? = some o := fun i hi => ⟨_, List.getElem?_eq_getElem (by rw [Array.length_toList]; exact hi)⟩
  have hlt' : ∀ i o, ops.toList[i]? = some o → i < ops.size := fun i o hi => by have := (List.getElem?_eq_some_iff.1 hi).1; rwa [Array.length_toList] at this
  have t0 : Tight0 ρ (H 0) := by rw [hH0]; exact ht.t
  have fin : ∀ (listed : Array Bool) (ρ1 : Ren) (a1 : Act) (w1 : World), Inv ops ql S H kd ρ a w listed ρ1 a1 w1 → (∀ j, j < ops.size → listed.getD j false = true) → Q .normal a1 w1 := by
    intro listed ρ1 a1 w1 I hall
    have hmono := next_mono hF (Nat.zero_le ops.size) (Nat.le_refl _)
    have hin : ∀ b x, ρ1 b = some x → b < h'.next := by
      intro b x hb
      rcases I.dom b x.1 x.2 hb with f | ⟨_, _, j, f1, _, _, _, f2⟩
      · rw [← hHn]
        rcases Nat.lt_or_ge b (H 0).next with g | g
        · omega
        · rw [t0 b g] at f; cases f
      · have := next_mono hF (show j + 1 ≤ ops.size by omega) (Nat.le_refl _)
        rw [← hHn]; omega
    have R1 := I.heap ops.size (Nat.le_refl _) (fun j hj _ => ⟨fun _ => hj, fun _ => hall j hj⟩)
    rw [hHn] at R1
    have hTm := fun t => I.tmps ops.size (Nat.le_refl _) t (fun j o hj _ => ⟨fun _ => hlt' j o hj, fun h => hall j h⟩)
    rw [hSn, hHn] at hTm
    refine hQ ρ1 a1 w1 (fun t v hv => ?_) trivial I.sz I.df ⟨I.ext, ?_, ?_, ?_, ⟨?_, ?_, I.lt⟩, I.os, I.tape, I.output, I.wsz, fun b h1 _ => ht.t b h1, ?_, ?_⟩
    · obtain ⟨v', q1, q2⟩ := (hTm t).1 v hv
      exact ⟨v', q1, q2.mono (fun b x hb => (cut_some hb).2)⟩
    · intro b c N hb
      rcases I.dom b c N hb with f | ⟨f1, f2, _⟩
      · exact .inl f
      · rw [hH0] at f1 f2
        rw [hHn] at f2
        exact .inr ⟨f1, hin b _ hb, f2⟩
    · rw [← hH0, ← hHn]; exact hmono
    · rw [← hH0, ← hHn]; exact low_mono hF (Nat.zero_le _) (Nat.le_refl _)
    · intro b o hb c N hc
      obtain ⟨o', q1, q2⟩ := R1.obj b o hb c N (cut_of (hin b _ hc) hc)
      exact ⟨o', q1, q2.mono (fun b x hb => (cut_some hb).2)⟩
    · intro b b' c N N' lb lb' hb hb'
      exact R1.inj b b' c N N' lb lb' (cut_of (hin b _ hb) hb) (cut_of (hin b' _ hb') hb')
    · intro c hc hno
      refine I.frame c hc ?_
      rw [hHn, hH0]
      exact hno
    · exact (Up.drawOps K.up hu _ e).keep
  have all : ∀ (listed : Array Bool), listed.size = ops.size → Region.ready .any ops listed = [] → ∀ j, j < ops.size → listed.getD j false = true := by
    intro listed hs hr j
    induction j using Nat.strongRecOn with
    | ind j ih =>
      intro hj
      cases hx : listed.getD j false with
      | true => rfl
      | false =>
        exfalso
        obtain ⟨o, ho⟩ := hat j hj
        have : j ∈ Region.ready .any ops listed := by
          rw [mem_ready]
          refine ⟨?_, o, by rw [← Array.getElem?_toList]; exact ho, ?_⟩
          · have hjs : j < listed.size := by omega
            simpa [Array.getD_eq_getD_getElem?, hjs] using hx
          · intro e he hb
            have := edgesOk_spec hed ho (by simpa using he) hb
            exact ih e.on this (by omega)
        rw [hr] at this
        cases this
  -- the step
  have main : ∀ fuel (listed : Array Bool) (ρ1 : Ren) (a1 : Act) (w1 : World), Inv ops ql S H kd ρ a w listed ρ1 a1 w1 → listed.toList.count false ≤ fuel →
      wpAnyIn (fence rc) 0 E.P .any ops Q fuel listed a1 w1 := by
    intro fuel
    induction fuel with
    | zero =>
      intro listed ρ1 a1 w1 I hc
      have h0 : listed.toList.count false = 0 := by omega
      rw [List.count_eq_zero] at h0
      have hall : ∀ j, j < ops.size → listed.getD j false = true := by
        intro j hj
        have hjs : j < listed.size := by rw [I.size]; exact hj
        cases hx : listed.getD j false with
        | true => rfl
        | false =>
          exfalso
          rw [Array.getD_eq_getD_getElem?, Array.getElem?_eq_getElem hjs, Option.getD_some] at hx
          apply h0
          rw [← hx]
          exact Array.mem_toList_iff.2 (Array.getElem_mem hjs)
      refine ⟨?_, fin listed ρ1 a1 w1 I hall⟩
      rw [List.eq_nil_iff_forall_not_mem]
      intro j hj
      rw [mem_ready] at hj
      obtain ⟨h1, o, ho, _⟩ := hj
      have hjs : j < ops.size := (Array.getElem?_eq_some_iff.1 ho).1
      have := hall j hjs
      have hjs' : j < listed.size := by rw [I.size]; exact hjs
      simp [Array.getD_eq_getD_getElem?, hjs'] at this h1
      rw [this] at h1; cases h1
    | succ fuel ih =>
      intro listed ρ1 a1 w1 I hc
      refine ⟨fun hr => fin listed ρ1 a1 w1 I (all listed I.size hr), ?_⟩
      intro i hi
      rw [mem_ready] at hi
      obtain ⟨h1, o, ho, hE⟩ := hi
      have ho' : ops.toList[i]? = some o := by rw [Array.getElem?_toList]; exact ho
      have his : i < ops.size := hlt' i o ho'
      have hil : i < listed.size := by rw [I.size]; exact his
      have hX : listed.getD i false = false := by simpa [Array.getD_eq_getD_getElem?, hil] using h1
      have hE' : ∀ e ∈ o.after.toList, Region.binds .any e = true → listed.getD e.on false = true := fun e he hb => hE e (by simpa using he) hb
      have hcount : (listed.setIfInBounds i true).toList.count false ≤ fuel := by
        have hli : listed[i] = false := by simpa [Array.getD_eq_getD_getElem?, hil] using h1
        rw [Array.toList_setIfInBounds, List.count_set (by simpa using hil)]
        have : (listed.toList[i]'(by simpa using hil) == false) = true := by simp [hli]
        rw [if_pos this]
        have hpos : 0 < listed.toList.count false := List.count_pos_iff.2 (by rw [← hli]; exact Array.mem_toList_iff.2 (Array.getElem_mem hil))
        rw [if_neg (by simp)]
        omega
      have done := fun {hh h2 : AHeap} {ρ2 : Ren} {r : Option Value} {v' : Value} {w2 : World} => Inv.step (hh := hh) (h1 := h2) (ρ1 := ρ2) (r := r) (v' := v') (w1 := w2) hF hW hD t0 I ho' hX hE'
      have hdst : ∀ d, o.dst = some d → d < a1.tmps.size := fun d hdd => by
        rw [I.sz]
        exact Nat.lt_of_lt_of_le (hd o (List.mem_of_getElem? ho') d hdd) hsz
      have later : ∀ j, i < j → listed.getD j false = true → isBef (befL ops.toList []) i j = true → False := by
        intro j hij hj hb
        have hjs : j < ops.toList.length := by
          rcases Nat.lt_or_ge j listed.size with h' | h'
          · rw [I.size] at h'; rwa [Array.length_toList]
          · simp [Array.getD_eq_getD_getElem?, Array.getElem?_eq_none h'] at hj
        have hg := List.getElem?_eq_getElem hjs
        have := bef_closed (X := fun k => listed.getD k false = true) hg (fun k q hk hk' => I.closed k q hk hk') (I.closed j _ hg hj) hb
        rw [hX] at this
        cases this
      have earlier : ∀ j, isBef (befL ops.toList []) j i = true → listed.getD j false = true := fun j hb =>
        bef_closed (X := fun k => listed.getD k false = true) ho' (fun k q hk hk' => I.closed k q hk hk') hE' hb
      have obs : ∀ t, reads ops.toList o t = true → (∀ v, (S i).get t = some v → ∃ v', a1.tmps[t]? = some v' ∧ VR (cut ρ1 (H i).next) v v') ∧ True := by
        intro t hrt
        refine I.tmps i (by omega) t (fun j q hj hjd => ?_)
        rcases Nat.lt_trichotomy j i with g | g | g
        · exact ⟨fun _ => g, fun _ => earlier j (hD j i q o g hj ho' t (.inl ⟨hjd, .inr hrt⟩))⟩
        · subst g
          rw [hX]
          simp
        · refine ⟨fun hj' => (later j g hj' (hD i j o q g ho' hj t (.inr ⟨hjd, hrt⟩))).elim, fun h => by omega⟩
      have obsG : ∀ t, (∃ g, o.guard = some g ∧ (ops[g.1]?).bind (·.dst) = some t) → reads ops.toList o t = true := by
        rintro t ⟨g, hg1, hg2⟩
        unfold reads
        rw [hg1]
        obtain ⟨g1, g2⟩ := g
        dsimp only at hg2 ⊢
        rw [Array.getElem?_toList, hg2]
        simp [Nat.beq_refl]
      have Rn : Rel (cut ρ1 (H i).next) { m := .nil, next := (H i).next, low := (H i).next } w1 := by
        refine ⟨fun b o hb => ?_, fun b b' c N N' lb lb' hb hb' => ?_, fun b c N hb => I.lt b c N (cut_some hb).2⟩
        · rw [AHeap.get_def] at hb
          split at hb
          · cases hb
          · cases hb
        · rcases lb with l | l
          · have := (cut_some hb).1
            have : (H i).next ≤ b := l
            omega
          · rw [AHeap.get_def] at l
            split at l <;> cases l
      have hst := tr.step i o ho'
      unfold wpOpIn
      rw [ho]
      dsimp only
      unfold stepD at hst
      split at hst
      · rename_i hw
        have hw' := wanted_sound (ρ := cut ρ1 (H i).next) (a := a1) (fun t ht => (obs t (obsG t ht)).1) hw
        rw [if_pos hw']
        -- the temporaries that are asked, alone
        have hTp : TR (cut ρ1 (H i).next) (pickT (S i) (operands o.op)) a1.tmps := by
          intro t v hv
          rw [pickT_get] at hv
          split at hv
          · rename_i hrd
            exact (obs t (by unfold reads; rw [hrd, Bool.true_or])).1 v hv
          · cases hv
        have hcg := fun {hh : AHeap} => stepA_congr (E := E) (run := run) (s := S i) (s' := pickT (S i) (operands o.op)) (h := hh) (o := o) (fun x hx => pickT_congr (S i) hx)
        split at hst
        · -- pure
          split at hst
          · rename_i v h2 hs
            split at hst
            · rename_i hb
              simp only [Bool.and_eq_true] at hb
              have hb1 := Nat.eq_of_beq_eq_true hb.1
              have hb2 := Nat.eq_of_beq_eq_true hb.2
              simp only [Option.some.injEq, Prod.mk.injEq] at hst
              obtain ⟨e1, e2, e3⟩ := hst
              rw [← hcg] at hs
              refine step_sound K hr (h := { m := .nil, next := (H i).next, low := (H i).next }) ⟨fun b hb => cut_tight b hb, I.gl.sub (fun b x hb => (cut_some hb).2)⟩ Rn hTp hs ?_ rc
              intro ρ2 v' w2 hv A
              refine ih _ _ _ _ (done A rfl (by rw [hb1, e2]) (fun _ => by rw [hb2]; exact Nat.le_refl _) (fun hk => by omega) (fun hk => by omega) (fun _ => by rw [← e2]) e1.symm hv hdst) hcount
            · cases hst
          · cases hst
        split at hst
        · -- a lookup
          rename_i hlk
          simp only [Bool.and_eq_true] at hlk
          obtain ⟨hfl1, hlk⟩ := hlk
          subst hfl1
          obtain ⟨fw1, fw2⟩ := hfl rfl
          split at hst
          · rename_i v h2 hs
            split at hst
            · rename_i hbb
              simp only [Bool.and_eq_true] at hbb
              have hb1 := Nat.eq_of_beq_eq_true hbb.1
              have hb2 := Nat.eq_of_beq_eq_true hbb.2
              simp only [Option.some.injEq, Prod.mk.injEq] at hst
              obtain ⟨e1, e2, e3⟩ := hst
              obtain ⟨f1, f2⟩ := float_spec tr hS0 hH0 fw1 fw2 ho' hlk
              have hkd : ∀ k, k < ops.size → ks.getD k 0 = kd k := fun k hk => by
                rw [hks, List.nil_append, List.getD_eq_getElem?_getD, List.getElem?_map, List.getElem?_range hk]
                rfl
              -- a memory that fits
              obtain ⟨p, h3, hp, hpW, hpn, hps, hp3, hp4⟩ : ∃ p h3, p ≤ ops.size ∧ (∀ j, j < ops.size → kd j = 2 → (listed.getD j false = true ↔ j < p)) ∧ (H p).next = (H i).next ∧ stepA E run (S i) { H p with low := (H p).next } o = some (v, h3) ∧ h3.next = (H i).next ∧ h3.low = (H i).next := by
                by_cases hex : ∃ j, i < j ∧ j < ops.size ∧ kd j = 2 ∧ listed.getD j false = true
                · -- the last writer that has come up
                  obtain ⟨j, hj1, hj2, hj3, hj4, hj5⟩ : ∃ j, i < j ∧ j < ops.size ∧ kd j = 2 ∧ listed.getD j false = true ∧ ∀ j', j < j' → j' < ops.size → kd j' = 2 → listed.getD j' false = true → False := by
                    have : ∀ n, (∃ j, i < j ∧ j < ops.size ∧ ops.size ≤ j + n ∧ kd j = 2 ∧ listed.getD j false = true) → ∃ j, i < j ∧ j < ops.size ∧ kd j = 2 ∧ listed.getD j false = true ∧ ∀ j', j < j' → j' < ops.size → kd j' = 2 → listed.getD j' false = true → False := by
                      intro n
                      induction n with
                      | zero => rintro ⟨j, _, h1, h2, _⟩; omega
                      | succ n ihn =>
                        rintro ⟨j, h1, h2, h3, h4, h5⟩
                        by_cases hm : ∃ j', j < j' ∧ j' < ops.size ∧ kd j' = 2 ∧ listed.getD j' false = true
                        · obtain ⟨j', m1, m2, m3, m4⟩ := hm
                          exact ihn ⟨j', by omega, m2, by omega, m3, m4⟩
                        · exact ⟨j, h1, h2, h4, h5, fun j' m1 m2 m3 m4 => hm ⟨j', m1, m2, m3, m4⟩⟩
                    obtain ⟨j, h1, h2, h3, h4⟩ := hex
                    exact this ops.size ⟨j, h1, h2, by omega, h3, h4⟩
                  have hjo := hat j hj2
                  obtain ⟨oj, hjo⟩ := hjo
                  rcases f2 j hj1 (by rw [Array.length_toList]; exact hj2) (by rw [hkd j hj2]; exact hj3) with g | ⟨v', h1', h2', g1, g2, g3, g4, g5⟩
                  · exact (later j hj1 hj4 g).elim
                  · have : v' = v ∧ h1' = h2 := by
                      rw [hs] at g1
                      cases g1
                      exact ⟨rfl, rfl⟩
                    obtain ⟨rfl, rfl⟩ := this
                    refine ⟨j + 1, h2', by omega, ?_, g3, g2, g4, g5⟩
                    intro j' hj' hk'
                    constructor
                    · intro hl'
                      rcases Nat.lt_or_ge j j' with g | g
                      · exact (hj5 j' g hj' hk' hl').elim
                      · omega
                    · intro hlt
                      by_cases he : j' = j
                      · rw [he]; exact hj4
                      · exact bef_closed (X := fun k => listed.getD k false = true) hjo (fun k q hk hk' => I.closed k q hk hk') (I.closed j oj hjo hj4) (hW j' j (by omega) hj2 (by omega) (by omega) (.inl hk'))
                · refine ⟨i, h2, by omega, ?_, rfl, hs, hb1, hb2⟩
                  intro j hj hk
                  constructor
                  · intro hl'
                    rcases Nat.lt_trichotomy j i with g | g | g
                    · exact g
                    · subst g; rw [hX] at hl'; cases hl'
                    · exact (hex ⟨j, g, hj, hk, hl'⟩).elim
                  · intro hlt
                    exact earlier j (f1 j hlt (by rw [hkd j hj]; exact hk))
              have hR : Rel (cut ρ1 (H p).next) (H p) w1 := I.heap p hp hpW
              rw [← hcg] at hps
              refine step_sound K hr (h := { H p with low := (H p).next }) ⟨fun b hb => cut_tight b hb, I.gl.sub (fun b x hb => (cut_some hb).2)⟩ (hR.low _) (by rw [hpn]; exact hTp) hps ?_ rc
              intro ρ2 v' w2 hv A
              rw [hpn] at A
              refine ih _ _ _ _ (done A hpn (by rw [hp3, e2]) (fun _ => by rw [hp4]; exact Nat.le_refl _) (fun hk => by omega) (fun hk => by omega) (fun _ => by rw [← e2]) e1.symm hv hdst) hcount
            · cases hst
          · cases hst
        · split at hst
          · -- read of a block that nobody writes
            rename_i hb hqb
            split at hst
            · rename_i v h2 hs
              split at hst
              · rename_i hbb
                simp only [Bool.and_eq_true] at hbb
                have hb1 := Nat.eq_of_beq_eq_true hbb.1
                have hb2 := Nat.eq_of_beq_eq_true hbb.2
                simp only [Option.some.injEq, Prod.mk.injEq] at hst
                obtain ⟨e1, e2, e3⟩ := hst
                rw [← hcg] at hs
                obtain ⟨b, c, el, k1, k2, k3, k4⟩ := qLoad_some hqb
                subst k4
                have kb := hql b k1
                have kg : (H 0).get b = some (.cells c el) := by rw [← quiet_get hF (show i ≤ ops.size by omega) (by rw [hH0]; exact kb) k1]; exact k2
                have get1 : ∀ b', (({ m := T.put .nil b (.cells c el), next := (H i).next, low := (H i).next } : AHeap).get b') = if b' = b ∧ b' < (H i).next then some (.cells c el) else none := by
                  intro b'
                  rw [AHeap.get_def]
                  show (if b' < (H i).next then (T.put .nil b (AObj.cells c el)).get b' else none) = _
                  rw [T.get_put]
                  by_cases g1 : b' < (H i).next <;> by_cases g2 : b' = b
                  · rw [if_pos g1, if_pos g2, if_pos ⟨g2, g1⟩]
                  · rw [if_pos g1, if_neg g2, if_neg (fun x => g2 x.1)]; rfl
                  · rw [if_neg g1, if_neg (fun x => g1 x.2)]
                  · rw [if_neg g1, if_neg (fun x => g1 x.2)]
                have Rq : Rel (cut ρ1 (H i).next) { m := T.put .nil b (.cells c el), next := (H i).next, low := (H i).next } w1 := by
                  refine ⟨fun b' o' hb' cc M hcc => ?_, fun b1 b2 cc M M' lb lb' hb1' hb2' => ?_, fun b c N hb => I.lt b c N (cut_some hb).2⟩
                  · rw [get1] at hb'
                    split at hb'
                    · rename_i hh
                      obtain ⟨rfl, _⟩ := hh
                      cases hb'
                      have hρ : ρ b' = some (cc, M) := by
                        rcases I.dom b' cc M (cut_some hcc).2 with f | ⟨f, _⟩
                        · exact f
                        · rw [hH0] at f; omega
                      obtain ⟨o2, r1, r2⟩ := I.quiet b' (by rw [hH0]; exact kb) k1 c el kg k3 cc M hρ
                      exact ⟨o2, r1, r2 _⟩
                    · cases hb'
                  · have only : ∀ b', live { m := T.put .nil b (.cells c el), next := (H i).next, low := (H i).next } b' → ∀ x, cut ρ1 (H i).next b' = some x → b' = b := by
                      intro b' l x hx
                      rcases l with l | l
                      · have := (cut_some hx).1
                        have : (H i).next ≤ b' := l
                        omega
                      · rw [get1] at l
                        split at l
                        · rename_i hh; exact hh.1
                        · cases l
                    rw [only b1 lb _ hb1', only b2 (lb'.imp (fun q => q) fun q => by revert q; cases (AHeap.get _ b2) <;> simp [isW]) _ hb2']
                refine step_sound K hr (h := { m := T.put .nil b (.cells c el), next := (H i).next, low := (H i).next }) ⟨fun b hb => cut_tight b hb, I.gl.sub (fun b x hb => (cut_some hb).2)⟩ Rq hTp hs ?_ rc
                intro ρ2 v' w2 hv A
                refine ih _ _ _ _ (done A rfl (by rw [hb1, e2]) (fun _ => by rw [hb2]; exact Nat.le_refl _) (fun hk => by omega) (fun hk => by omega) (fun _ => by rw [← e2]) e1.symm hv hdst) hcount
              · cases hst
            · cases hst
          split at hst
          · rename_i v h2 hs
            split at hst
            case h_2 => cases hst
            simp only [Option.some.injEq, Prod.mk.injEq] at hst
            obtain ⟨e1, e2, e3⟩ := hst
            rw [← hcg] at hs
            have hk0 : kd i ≠ 0 := by rw [← e3]; split <;> simp
            have hR : Rel (cut ρ1 (H i).next) (H i) w1 := by
              refine I.heap i (by omega) (fun j hj hj2 => ?_)
              rcases Nat.lt_trichotomy j i with g | g | g
              · exact ⟨fun _ => g, fun _ => earlier j (hW j i g his (by omega) hk0 (.inl hj2))⟩
              · subst g
                rw [hX]
                simp
              · exact ⟨fun hj' => (later j g hj' (hW i j g hj hk0 (by omega) (.inr hj2))).elim, fun h => by omega⟩
            refine step_sound K hr (h := { H i with low := (H i).next }) ⟨fun b hb => cut_tight b hb, I.gl.sub (fun b x hb => (cut_some hb).2)⟩ (hR.low _) hTp hs ?_ rc
            intro ρ2 v' w2 hv A
            refine ih _ _ _ _ (done A rfl (by rw [← e2]) ?_ ?_ (fun _ b => by rw [← e2]; rfl) (fun hk => absurd hk hk0) e1.symm hv hdst) hcount
            · intro hk2
              cases hbl : Nat.blt h2.low (H i).next with
              | true => rw [hbl] at e3; exact absurd e3.symm hk2
              | false => have : ¬ (h2.low < (H i).next) := by simpa [← Nat.blt_eq] using hbl
                         omega
            · intro _
              have := low_mono hF (show i + 1 ≤ ops.size by omega) (Nat.le_refl _)
              rw [← e2] at this
              exact Nat.le_trans this (Nat.min_le_right _ _)
          · cases hst
      · rename_i hw
        have hw' := wanted_sound (ρ := cut ρ1 (H i).next) (a := a1) (fun t ht => (obs t (obsG t ht)).1) hw
        rw [if_neg (by rw [hw']; simp)]
        simp only [Option.some.injEq, Prod.mk.injEq] at hst
        obtain ⟨e1, e2, e3⟩ := hst
        refine ⟨fun f _ => fence_fn rc f, ih _ _ _ _ (done (r := none) (v' := undef) (Adv.refl Rn) rfl (by rw [← e2]) (fun _ => Nat.le_refl _) (fun hk => by omega) (fun hk => by omega) (fun _ => by rw [← e2]) e1.symm rfl hdst) hcount⟩
      · cases hst
  have rep0 : ∀ j, (Array.replicate ops.size false).getD j false = false := by
    intro j
    rw [Array.getD_eq_getD_getElem?, Array.getElem?_replicate]
    split <;> rfl
  refine wpIn_region_any K.mixed (main _ _ ρ a _ ?_ ?_)
  · refine ⟨by simp, ?_, .refl _, fun b c N hb => .inl hb, R.lt, ?_, ?_, rfl, rfl, rfl, rfl, rfl, Nat.le_refl _, fun c _ _ => rfl, ?_, ht.gl⟩
    · intro j o hj hx
      rw [rep0] at hx; cases hx
    · intro p hp hc
      have hk : ∀ b, b < h.next → (H p).get b = h.get b := fun b hb => by
        rw [← hH0]
        refine keep_get hF (Nat.zero_le p) hp (fun j _ hj hj2 => ?_) (by rw [hH0]; exact hb)
        have := (hc j (by omega) hj2).2 hj
        rw [rep0] at this; cases this
      have hb0 : ∀ b x, ρ b = some x → b < h.next := fun b x hb => by
        rcases Nat.lt_or_ge b h.next with g | g
        · exact g
        · rw [ht.t b g] at hb; cases hb
      refine ⟨?_, ?_, fun b c N hb => R.lt b c N (cut_some hb).2⟩
      · intro b o hb c N hcb
        obtain ⟨_, q⟩ := cut_some hcb
        rw [hk b (hb0 b _ q)] at hb
        obtain ⟨o', q1, q2⟩ := R.obj b o hb c N q
        refine ⟨o', q1, q2.mono (fun b x hb => cut_of ?_ hb)⟩
        have := next_mono hF (Nat.zero_le p) hp
        rw [hH0] at this
        exact Nat.lt_of_lt_of_le (hb0 b x hb) this
      · intro b b' c N N' lb lb' hcb hcb'
        obtain ⟨g, q⟩ := cut_some hcb
        obtain ⟨g', q'⟩ := cut_some hcb'
        refine R.inj b b' c N N' ?_ ?_ q q'
        · rcases lb with l | l
          · omega
          · rw [hk b (hb0 b _ q)] at l; exact .inr l
        · rcases lb' with l | l
          · omega
          · rw [hk b' (hb0 b' _ q')] at l; exact .inr l
    · intro p hp t hc
      have hSt : (S p).get t = s.get t := by
        rw [← hS0]
        refine keep_tmp hF (Nat.zero_le p) hp (fun j q _ hj hjq hjd => ?_)
        have := (hc j q hjq hjd).2 hj
        rw [rep0] at this; cases this
      rw [hSt]
      refine ⟨fun v hv => ?_, trivial⟩
      obtain ⟨v', q1, q2⟩ := hT t v hv
      refine ⟨v', q1, q2.mono (fun b x hb => cut_of ?_ hb)⟩
      have := next_mono hF (Nat.zero_le p) hp
      rw [hH0] at this
      rcases Nat.lt_or_ge b h.next with g | g
      · omega
      · rw [ht.t b g] at hb; cases hb
    · intro b hb hq c el hg hf cc N hr
      rw [hH0] at hg
      obtain ⟨o', r1, r2⟩ := R.obj b _ hg cc N hr
      exact ⟨o', r1, fun ρ' => OR.flat hf r2⟩
  · simp
end Go.Proofs.YtlkhpgocbojdgaaGreatDoor.Ai

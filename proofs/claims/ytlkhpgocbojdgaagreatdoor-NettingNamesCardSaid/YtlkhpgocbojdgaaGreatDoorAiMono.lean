/-
  WHAT THE EVALUATOR NEVER DOES TO ITS OWN MEMORY: blocks are counted up, and what lies below the mark 'low' stays.
-/
import Derived.Test.YtlkhpgocbojdgaaGreatDoorAiOps5
namespace Go.Proofs.YtlkhpgocbojdgaaGreatDoor.Ai
open Go
set_option linter.unusedSimpArgs false
set_option linter.unusedVariables false
variable {E : Env} {ρ : Ren} {h h' h1 : AHeap} {w : World}

structure Up (h h' : AHeap) : Prop where
  next : h.next ≤ h'.next
  low : h'.low ≤ h.low
  keep : ∀ b, b < h.next → b < h'.low → h'.get b = h.get b

theorem Up.refl (h : AHeap) : Up h h := ⟨Nat.le_refl _, Nat.le_refl _, fun _ _ _ => rfl⟩
theorem Up.trans (a : Up h h1) (b : Up h1 h') : Up h h' :=
  ⟨Nat.le_trans a.next b.next, Nat.le_trans b.low a.low, fun x h1 h2 => by
    rw [b.keep x (Nat.lt_of_lt_of_le h1 a.next) h2, a.keep x h1 (Nat.lt_of_lt_of_le h2 b.low)]⟩
theorem Up.alloc (h : AHeap) (o : AObj) : Up h (h.alloc o) :=
  ⟨by rw [AHeap.next_alloc]; omega, Nat.le_refl _, fun x h1 h2 => by rw [AHeap.get_alloc, if_neg (by omega)]⟩
theorem Up.set {b : Nat} {o : AObj} (hg : h.get b = some o) (o' : AObj) : Up h (h.set b o') :=
  ⟨Nat.le_refl _, by rw [AHeap.low_set]; omega, fun x h1 h2 => by rw [AHeap.low_set] at h2; rw [AHeap.get_set _ _ _ (AHeap.lt_of_get hg), if_neg (by omega)]⟩
theorem Up.kill (h : AHeap) (b : Nat) : Up h (h.kill b) :=
  ⟨Nat.le_refl _, by rw [AHeap.low_kill]; omega, fun x h1 h2 => by rw [AHeap.low_kill] at h2; rw [AHeap.get_kill, if_neg (by omega)]⟩

theorem Up.write {a : Addr} {news : List Value} (e : writeCells h a news = some h') : Up h h' := by
  unfold writeCells at e
  split at e
  · rename_i c el hg
    split at e
    · cases e; exact .set hg _
    · cases e
  · cases e

theorem Up.grow {elem size bytes n : Nat} {cells : List Value} {v : Value} (e : growA h elem size bytes n cells = some (v, h')) : Up h h' := by
  obtain ⟨_, _, _, _, rfl⟩ := growA_some e
  exact .alloc _ _

theorem Up.appendG {elem size bytes len n : Nat} {a : Addr} {v : Value} {news : List Value} (e : appendG h elem size bytes a len n news = some (v, h')) : Up h h' := by
  unfold Ai.appendG at e
  split at e
  · split at e
    · obtain ⟨_, _, _, _, rfl⟩ := growG_some e
      exact (Up.kill _ _).trans (.alloc _ _)
    · cases e
  · cases e

theorem Up.append {elem size bytes n : Nat} {s v : Value} {news : List Value} (e : appendA h elem size bytes s n news = some (v, h')) : Up h h' := by
  unfold appendA at e
  split at e
  · split at e
    · cases e; exact .refl _
    · exact .grow e
  · split at e
    · split at e
      · split at e
        · rename_i h2 hw; cases e; exact .write hw
        · cases e
      · split at e
        · exact .grow e
        · cases e
    · split at e
      · exact .appendG e
      split at e
      · split at e
        · rename_i h2 hw; cases e; exact .write hw
        · cases e
      · split at e
        · split at e
          · exact (Up.kill _ _).trans (.grow e)
          · cases e
        · cases e
      · cases e
  · cases e

theorem Up.ret {x r : Option Value} (e : ret h x = some (r, h')) : Up h h' := by
  obtain ⟨rfl, _⟩ := ret_some e; exact .refl _

theorem Up.builtin {b : Builtin} {tys : List TypeId} {args : List Value} {v : Value} (e : builtinA E h b tys args = some (v, h')) : Up h h' := by
  unfold builtinA at e
  split at e
  · unfold lenBA at e
    split at e <;> first
      | (cases e; exact .refl _)
      | (split at e <;> first | (cases e; exact .refl _) | (cases e))
      | cases e
  · split at e
    · simp only [Option.map_eq_some_iff] at e
      obtain ⟨_, _, e⟩ := e
      cases e; exact .refl _
    · cases e
  · split at e
    · simp only [Option.map_eq_some_iff] at e
      obtain ⟨_, _, e⟩ := e
      cases e; exact .refl _
    · cases e
  · split at e
    · split at e
      · split at e
        · split at e
          · exact .append e
          · cases e
        · cases e
      · cases e
    · cases e
  · split at e
    · split at e
      · split at e
        · cases e; exact .refl _
        · split at e
          · rename_i hw; cases e; exact .write hw
          · cases e
        · cases e
      · cases e
    · cases e
  · split at e
    · cases e; exact .refl _
    · split at e
      · split at e
        · rename_i hw; cases e; exact .write hw
        · cases e
      · cases e
    · cases e
  · split at e
    · cases e; exact .refl _
    · cases e
  · split at e
    · rename_i hg
      split at e
      · split at e
        · cases e; exact .set hg _
        · cases e
      · cases e
    · cases e
  · cases e

theorem Up.aop {s : T Value} {o : Oper} {r : Option Value} (e : aop E s h o = some (r, h')) : Up h h' := by
  obtain ⟨dst, op, ty, ps, af, gd⟩ := o
  cases op <;> simp only [Ai.aop] at e
  case move => exact .ret e
  case assign => exact .ret e
  case pick =>
    exact .ret e
  case alloc => unfold allocA at e; split at e <;> first | (unfold made at e; cases e; exact .alloc _ _) | cases e
  case box => unfold allocA at e; split at e <;> first | (unfold made at e; cases e; exact .alloc _ _) | cases e
  case build =>
    unfold buildA at e
    repeat' split at e
    all_goals first | (cases e; exact .refl _) | cases e
  case buildSlice =>
    unfold buildSliceA made at e
    repeat' split at e
    all_goals first | (cases e; exact .alloc _ _) | cases e
  case load =>
    unfold loadA at e
    repeat' split at e
    all_goals first | exact .ret e | cases e
  case store =>
    unfold storeA stored at e
    repeat' split at e
    all_goals first | (rename_i hw; cases e; exact .write hw) | cases e
  case nilCheck =>
    unfold nilCheckA at e
    split at e <;> first | (cases e; exact .refl _) | cases e
  case binOp =>
    unfold binOA at e
    split at e <;> first | exact .ret e | cases e
  case unOp =>
    unfold unA at e
    repeat' split at e
    all_goals first | exact .ret e | cases e
  case convert =>
    unfold convA made at e
    repeat' split at e
    all_goals first | (cases e; first | exact .refl _ | exact .alloc _ _) | cases e
  case makeFunc =>
    unfold funcA at e
    repeat' split at e
    all_goals first | (cases e; exact .refl _) | cases e
  case makeMap t q =>
    cases q with
    | none => unfold made at e; cases e; exact .alloc _ _
    | some q => cases e
  case makeSlice =>
    unfold makeSliceA made at e
    repeat' split at e
    all_goals first | (cases e; exact .alloc _ _) | cases e
  case slice t x lo hi mx =>
    cases mx with
    | none =>
      simp only [] at e
      unfold sliceOA at e
      split at e <;> first | exact .ret e | cases e
    | some q => cases e
  case fieldAddr =>
    unfold fieldAddrA at e
    repeat' split at e
    all_goals first | (cases e; exact .refl _) | cases e
  case field =>
    unfold fieldA partA at e
    repeat' split at e
    all_goals first | exact .ret e | cases e
  case indexAddr =>
    unfold indexAddrA at e
    repeat' split at e
    all_goals first | (cases e; exact .refl _) | cases e
  case index =>
    unfold indexA partA at e
    repeat' split at e
    all_goals first | exact .ret e | (cases e; exact .refl _) | cases e
  case lookup =>
    unfold lookupA at e
    repeat' split at e
    all_goals first | (cases e; exact .refl _) | cases e
  case mapUpdate =>
    unfold mapUpdateA at e
    split at e
    · rename_i rb es0 cl0 _ _ _ hma _ _
      have hg : ∃ es c, h.get rb = some (.map es c) := by
        unfold mapA at hma
        split at hma
        · split at hma
          · rename_i hg; cases hma; exact ⟨_, _, hg⟩
          · cases hma
        · cases hma
      obtain ⟨es, c, hg⟩ := hg
      repeat' split at e
      all_goals first | (cases e; exact .set hg _) | cases e
    · cases e
  case range =>
    unfold rangeA made at e
    repeat' split at e
    all_goals first | (cases e; exact .alloc _ _) | cases e
  case entry =>
    unfold entryA at e
    repeat' split at e
    all_goals first | (cases e; exact .refl _) | cases e
  case mapEntry =>
    unfold mapEntryA at e
    split at e
    · rename_i rb es0 cl0 _ _ hma _
      have hg : ∃ es c, h.get rb = some (.map es c) := by
        unfold mapA at hma
        split at hma
        · split at hma
          · rename_i hg; cases hma; exact ⟨_, _, hg⟩
          · cases hma
        · cases hma
      obtain ⟨es, c, hg⟩ := hg
      repeat' split at e
      all_goals first | (cases e; exact .set hg _) | cases e
    · cases e
  case entryStore =>
    unfold entryStoreA at e
    split at e
    · rename_i rb es0 cl0 _ _ hma _ _
      have hg : ∃ es c, h.get rb = some (.map es c) := by
        unfold mapA at hma
        split at hma
        · split at hma
          · rename_i hg; cases hma; exact ⟨_, _, hg⟩
          · cases hma
        · cases hma
      obtain ⟨es, c, hg⟩ := hg
      repeat' split at e
      all_goals first | (cases e; exact .set hg _) | cases e
    · cases e
  case next x b =>
    cases b with
    | false => cases e
    | true =>
      simp only [] at e
      unfold nextA at e
      split at e
      · split at e
        · rename_i hg
          split at e <;> cases e
          · exact .set hg _
          · exact .refl _
        · cases e
      · cases e
  case makeInterface =>
    unfold ifaceA at e
    repeat' split at e
    all_goals first | (cases e; exact .refl _) | cases e
  case extract =>
    unfold extractA at e
    split at e <;> first | exact .ret e | cases e
  all_goals cases e

/-- What is asked of the runs of called bodies. -/
def RunUp (run : CodeRun) : Prop := ∀ rd c s x s', run rd c s = some (x, s') → Up s.heap s'.heap

/-- What is asked of the contracts that are plugged in. -/
def IntrUp (E : Env) : Prop := ∀ f g, E.intr.get f = some g → ∀ args h v h', g args h = some (v, h') → Up h h'

theorem Up.lower {l : Nat} (a : Up { h with low := h.next } h') : Up h { h' with low := Nat.min h.low h'.low } :=
  ⟨a.next, Nat.min_le_left _ _, fun b h1 h2 => a.keep b h1 (Nat.lt_of_lt_of_le h2 (Nat.min_le_right _ _))⟩

theorem Up.close : ∀ (ms : List Nat) {h h' : AHeap}, closeA ms h = some h' → Up h h'
  | [], h, h', e => by cases e; exact .refl _
  | m :: ms, h, h', e => by
    unfold closeA at e
    split at e
    · rename_i hg
      exact (Up.set hg _).trans (Up.close ms e)
    · cases e

theorem Up.call (hi : IntrUp E) {run : CodeRun} (hr : RunUp run) {f : FuncId} {args : List Value} {v : Value} (e : callA E run f args h = some (v, h')) : Up h h' := by
  unfold callA at e
  split at e
  · rename_i g hg
    exact hi f g hg _ _ _ _ e
  · split at e
    · cases e
    · split at e
      · cases e
      · split at e
        · cases e
        · rename_i x s' hrun
          split at e
          · cases e
          · rename_i hc hcl
            split at e
            · cases e
            · split at e
              · cases e; exact .refl _
              · cases e
                exact Up.lower (l := 0) ((hr _ _ _ _ _ hrun).trans (Up.close _ hcl))
        · cases e

theorem Up.round {run : CodeRun} (hr : RunUp run) {l : Nat} {args : List Value} {v : Value} (e : roundA run l args h = some (v, h')) : Up h h' := by
  unfold roundA at e
  split at e
  · split at e
    · cases e
    · split at e
      · rename_i s1 h1
        split at e
        · rename_i hg1
          split at e
          · rename_i s2 h2
            split at e
            · rename_i hg2
              cases e
              exact (hr _ _ _ _ _ h1).trans ((Up.set hg1 _).trans ((hr _ _ _ _ _ h2).trans (Up.set hg2 _)))
            · cases e
          · cases e
        · cases e
      · cases e
  · cases e

theorem Up.step (hi : IntrUp E) {run : CodeRun} (hr : RunUp run) {s : T Value} {o : Oper} {r : Option Value} (e : stepA E run s h o = some (r, h')) : Up h h' := by
  unfold stepA at e
  split at e
  · simp only [Option.map_eq_some_iff] at e
    obtain ⟨⟨v, h2⟩, e, e'⟩ := e
    cases e'
    unfold callOp at e
    split at e
    · cases e
    · split at e
      · exact .builtin e
      · split at e
        · exact .call hi hr e
        · exact .round hr e
        · cases e
      · cases e
  · exact .aop e

theorem Up.seqOps (hi : IntrUp E) {run : CodeRun} (hr : RunUp run) {ops : List Oper} : ∀ (rest : List Oper) {s s' : T Value} {h h' : AHeap}, seqOps E run ops rest s h = some (s', h') → Up h h'
  | [], s, s', h, h', e => by cases e; exact .refl _
  | o :: rest, s, s', h, h', e => by
    unfold Ai.seqOps at e
    split at e
    · split at e
      · rename_i hs
        exact (Up.step hi hr hs).trans (Up.seqOps hi hr rest e)
      · cases e
    · exact Up.seqOps hi hr rest e
    · cases e

theorem Up.stepD (hi : IntrUp E) {run : CodeRun} (hr : RunUp run) {ops : List Oper} {fl : Bool} {q : List Nat} {o : Oper} {s s' : T Value} {k : Nat} (e : stepD E run ops fl q o s h = some (s', h', k)) : Up h h' := by
  unfold Ai.stepD at e
  split at e
  · split at e
    · split at e
      · split at e
        · cases e; exact .refl _
        · cases e
      · cases e
    · split at e
      · split at e
        · split at e
          · cases e; exact .refl _
          · cases e
        · cases e
      · split at e
        · split at e
          · split at e
            · cases e; exact .refl _
            · cases e
          · cases e
        · split at e
          · rename_i hs
            split at e
            · cases e
              exact Up.lower (l := 0) (Up.step hi hr hs)
            · cases e
          · cases e
  · cases e; exact .refl _
  · cases e

theorem Up.drawOps (hi : IntrUp E) {run : CodeRun} (hr : RunUp run) {ops : List Oper} {fl : Bool} {q : List Nat} : ∀ (rest : List Oper) {s s' : T Value} {h h' : AHeap} {ks ks' : List Nat}, drawOps E run ops fl q rest s h ks = some (s', h', ks') → Up h h'
  | [], s, s', h, h', ks, ks', e => by cases e; exact .refl _
  | o :: rest, s, s', h, h', ks, ks', e => by
    unfold Ai.drawOps at e
    split at e
    · rename_i hs
      exact (Up.stepD hi hr hs).trans (Up.drawOps hi hr rest e)
    · cases e

theorem Up.enter {rd : Option Nat} {marks ms : List Nat} {d : Nat} (e : enterA rd h marks = some (d, h', ms)) : Up h h' := by
  unfold enterA at e
  split at e
  · cases e; exact .alloc _ _
  · split at e
    · cases e; exact .refl _
    · cases e

theorem Up.ex (hi : IntrUp E) : ∀ n, RunUp (ex E n)
  | 0 => fun rd c s x s' e => by cases e
  | n + 1 => fun rd c s x s' e => by
    have ih := Up.ex hi n
    change exStep E (Ai.ex E n) rd c s = some (x, s') at e
    unfold exStep at e
    split at e
    · cases e; exact .refl _
    · cases e; exact .refl _
    · cases e; exact .refl _
    · cases e; exact .refl _
    · split at e
      · rename_i hs
        exact (ih _ _ _ _ _ hs).trans (ih _ _ _ _ _ e)
      · exact ih _ _ _ _ _ e
    · split at e
      · exact ih _ _ _ _ _ e
      · exact ih _ _ _ _ _ e
      · cases e
    · split at e
      · rename_i hs
        split at e <;> cases e <;> exact ih _ _ _ _ _ hs
      · exact ih _ _ _ _ _ e
    · exact ih _ _ _ _ _ e
    · split at e
      · rename_i hs
        exact (ih _ _ _ _ _ hs).trans (ih _ _ _ _ _ e)
      · exact ih _ _ _ _ _ e
    · unfold rangeFuncA at e
      split at e
      · rename_i hen
        split at e
        · split at e
          · rename_i hcall
            split at e
            · rename_i hg
              split at e
              · cases e
              · split at e
                · cases e
                  exact (Up.enter hen).trans ((Up.alloc _ _).trans ((Up.call hi ih hcall).trans (Up.set hg _)))
                · cases e
            · cases e
          · cases e
        · cases e
      · cases e
    · simp only [Option.map_eq_some_iff] at e
      obtain ⟨s1, e, e'⟩ := e
      cases e'
      unfold regionA at e
      split at e
      · simp only [Option.map_eq_some_iff] at e
        obtain ⟨⟨t, h1⟩, e, e'⟩ := e
        cases e'
        exact Up.seqOps hi ih _ e
      · split at e
        · rename_i hd
          split at e
          · cases e; exact Up.drawOps hi ih _ hd
          · split at e
            · rename_i hd2
              split at e
              · split at e
                · cases e; exact Up.drawOps hi ih _ hd2
                · cases e
              · cases e
            · cases e
        · cases e
    · cases e
end Go.Proofs.YtlkhpgocbojdgaaGreatDoor.Ai

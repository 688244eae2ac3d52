/-
  ONE STEP OF THE EVALUATOR IS ONE OF THE MACHINE's: an operation with its calls.
-/
import Derived.Test.YtlkhpgocbojdgaaGreatDoorAiMono
import Derived.Test.YtlkhpgocbojdgaaGreatDoorAiRel
import Derived.RangeFuncRecord
namespace Go.Proofs.YtlkhpgocbojdgaaGreatDoor.Ai
open Go
set_option linter.unusedSimpArgs false
set_option linter.unusedVariables false
variable {E : Env} {ρ : Ren} {h h' h1 : AHeap} {w : World}

/-- Nothing is mapped that is not yet made. -/
def Tight0 (ρ : Ren) (h : AHeap) : Prop := ∀ b, h.next ≤ b → ρ b = none
/-- .. and what must stand from the start stands. -/
structure Tight (ρ : Ren) (h : AHeap) (w : World) : Prop where
  t : Tight0 ρ h
  gl : Gl ρ w
theorem Tight.fr (t : Tight ρ h w) : Fr ρ h h' := fun b h1 _ => t.t b h1
theorem Tight.low (t : Tight ρ h w) (l : Nat) : Tight ρ { h with low := l } w := ⟨t.t, t.gl⟩
theorem Tight.adv {ρ' : Ren} {w' : World} (t : Tight ρ h w) (A : Adv ρ ρ' h h' w w') : Tight ρ' h' w' := by
  refine ⟨fun b hb => ?_, t.gl.adv A⟩
  cases e : ρ' b with
  | none => rfl
  | some x =>
    obtain ⟨c, N⟩ := x
    rcases A.new b c N e with e' | ⟨_, e', _⟩
    · rw [t.t b (Nat.le_trans A.next hb)] at e'; cases e'
    · omega

/-- What an operation puts in its place. -/
def RV (ρ : Ren) : Option Value → Value → Prop
  | some v, v' => VR ρ v v'
  | none, v' => v' = undef

theorem put_sound {s : T Value} {a : Act} (hT : TR ρ s a.tmps) (hN : TN s a.tmps) {dst : Option Tmp} (hd : ∀ d, dst = some d → d < a.tmps.size) {r : Option Value} {v' : Value} (hv : RV ρ r v') :
    TR ρ (putT s dst r) (a.put dst v').tmps ∧ TN (putT s dst r) (a.put dst v').tmps ∧ (a.put dst v').tmps.size = a.tmps.size ∧ (a.put dst v').defers = a.defers := by
  cases dst with
  | none => exact ⟨by cases r <;> exact hT, by cases r <;> exact hN, rfl, rfl⟩
  | some d =>
    have hlt := hd d rfl
    refine ⟨?_, trivial, by simp [Act.put], rfl⟩
    · intro t v e
      cases r with
      | none =>
        simp only [putT, T.get_put] at e
        split at e
        · rename_i he
          subst he
          cases e
          have : v' = undef := hv
          subst this
          exact ⟨undef, by simp [Act.put, hlt], flat_VR ρ rfl⟩
        · rename_i hne
          obtain ⟨u, hu, hr⟩ := hT t v e
          exact ⟨u, by simpa [Act.put, Array.getElem?_setIfInBounds_ne (Ne.symm hne)] using hu, hr⟩
      | some x =>
        simp only [putT, T.get_put] at e
        split at e
        · rename_i he
          subst he
          cases e
          exact ⟨v', by simp [Act.put, hlt], hv⟩
        · rename_i hne
          obtain ⟨u, hu, hr⟩ := hT t v e
          exact ⟨u, by simpa [Act.put, Array.getElem?_setIfInBounds_ne (Ne.symm hne)] using hu, hr⟩

theorem wanted_sound {s : T Value} {a : Act} {ops : Array Oper} {o : Oper} {b : Bool} (hT : ∀ t, (∃ g, o.guard = some g ∧ (ops[g.1]?).bind (·.dst) = some t) → ∀ v, s.get t = some v → ∃ v', a.tmps[t]? = some v' ∧ VR ρ v v') (e : wantedA ops.toList s o = some b) : Region.wanted o (yielded ops a.tmps) = b := by
  unfold wantedA at e
  unfold Region.wanted
  split at e
  · rename_i hg
    rw [hg]
    cases e
    rfl
  · rename_i g want hg
    rw [hg]
    dsimp only
    rw [Array.getElem?_toList] at e
    split at e
    · rename_i d hd
      unfold yielded
      rw [hd]
      simp only [Option.bind_some]
      split at e
      · rename_i b' hb
        cases e
        obtain ⟨v', h1, h2⟩ := hT d ⟨_, hg, hd⟩ _ hb
        cases h2
        rw [h1]
        simp
      · rename_i v hb hs
        cases e
        obtain ⟨v', h1, h2⟩ := hT d ⟨_, hg, hd⟩ v hs
        rw [h1]
        split
        · rename_i b h3
          cases h3
          cases h2
          exact absurd rfl (hb _)
        · rfl
      · cases e
    · rename_i hd
      cases e
      have : yielded ops a.tmps g = none := by unfold yielded; rw [hd]; rfl
      rw [this]
      rfl

/-- A call's contract: its body is entered, or it answers at once. -/
def CallOk (E : Env) (f : FuncId) (args : List Value) (w : World) (Q : Value → World → Prop) : Prop :=
  ((callFunc f ⟨args⟩).run E.P w = .ok (.enter f ⟨args⟩) w ∧ CallsIn Fence.wide 0 E.P f ⟨args⟩ w (fun e w' => ∃ v, e = .returned v ∧ Q v w')) ∨ ∃ v w', (callFunc f ⟨args⟩).run E.P w = .ok (.value v) w' ∧ Q v w'

structure Env.Runs (E : Env) : Prop extends Env.Ok E where
  body : ∀ f fn c, E.fn.get f = some fn → fn.body = some c → codeOk fn.ntmps c = true ∧ fn.name ≠ "runtime.NumGoroutine"
  up : IntrUp E
  intr : ∀ f g, E.intr.get f = some g → ∀ (ρ : Ren) (h h' : AHeap) (w : World) args args' v, Tight ρ h w → Rel ρ h w → LR ρ args args' → g args h = some (v, h') →
    CallOk E f args' w fun v' w' => ∃ ρ', VR ρ' v v' ∧ Adv ρ ρ' h h' w w'

def exitOf : AExit → Exit
  | .normal => .normal
  | .exit i => .exit i
  | .ret => .ret

/-- The fence of a function's frame, or of a round's. -/
def fence : Option Nat → Fence
  | none => Fence.wide
  | some c => Fence.wide.inRound c
theorem fence_fn (rc : Option Nat) (f : FuncId) : (fence rc).fn f := by cases rc <;> trivial
theorem fence_round (rc : Option Nat) : (fence rc).round = rc := by cases rc <;> rfl
theorem fence_depth (rc : Option Nat) : (fence rc).depth = none := by cases rc <;> rfl
theorem fence_in (rc : Option Nat) (c : Nat) : (fence rc).inRound c = fence (some c) := by cases rc <;> rfl

def RD (ρ : Ren) : Option Nat → Option Nat → Prop
  | none, none => True
  | some l, some c => ∃ N, ρ l = some (c, N)
  | _, _ => False
theorem RD.mono {ρ ρ' : Ren} (h : Ext ρ ρ') : ∀ {rd rc : Option Nat}, RD ρ rd rc → RD ρ' rd rc
  | none, none, _ => trivial
  | some l, some c, ⟨N, k⟩ => ⟨N, h _ _ k⟩
  | none, some _, k => k.elim
  | some _, none, k => k.elim

/-- The marks among a frame's deferred calls. -/
def MR (ρ : Ren) : List Nat → List Deferred → Prop
  | [], ds => ds = []
  | m :: ms, ds => ∃ c N ds', ρ m = some (c, N) ∧ ds = { target := .collected c, args := #[] } :: ds' ∧ MR ρ ms ds'
theorem MR.mono {ρ ρ' : Ren} (h : Ext ρ ρ') : ∀ {ms : List Nat} {ds : List Deferred}, MR ρ ms ds → MR ρ' ms ds
  | [], _, k => k
  | m :: ms, ds, ⟨c, N, ds', k1, k2, k3⟩ => ⟨c, N, ds', h _ _ k1, k2, k3.mono h⟩

/-- What is asked of the run of a piece of code. -/
def RunOk (E : Env) (run : CodeRun) : Prop := ∀ (rd : Option Nat) (c : Code) (s : ASt) (x : AExit) (s' : ASt), run rd c s = some (x, s') → ∀ (ρ : Ren) (a : Act) (w : World) (N : Nat) (rc : Option Nat), RD ρ rd rc → Tight ρ s.heap w → Rel ρ s.heap w → TR ρ s.tmps a.tmps → TN s.tmps a.tmps → MR ρ s.marks a.defers →
  codeOk N c = true → N ≤ a.tmps.size → ∀ (Q : Exit → Act → World → Prop), (∀ ρ' a' w', TR ρ' s'.tmps a'.tmps → TN s'.tmps a'.tmps → a'.tmps.size = a.tmps.size → MR ρ' s'.marks a'.defers → Adv ρ ρ' s.heap s'.heap w w' → Q (exitOf x) a' w') →
  c.wpIn (fence rc) 0 E.P Q a w

/-- The blocks are shut, one after the other. -/
theorem close_sound {F : Fence} {n : Nat} {fn : Func} {tmps : Array Value} {Rr : Ending → World → Prop} : ∀ (ms : List Nat) {ds : List Deferred} {h hc : AHeap} {ρ : Ren} {w : World}, MR ρ ms ds → closeA ms h = some hc → Rel ρ h w →
    (∀ w', Adv ρ ρ h hc w w' → ∃ v, (results fn tmps).run E.P w' = .ok v w' ∧ Rr (.returned v) w') → LeavesInM F n E.P fn tmps Rr ds .returning w
  | [], ds, h, hc, ρ, w, hm, e, R, k => by
    cases hm
    cases e
    exact k w (.refl R)
  | m :: ms, ds, h, hc, ρ, w, hm, e, R, k => by
    obtain ⟨c, N, ds', h1, rfl, h3⟩ := hm
    unfold closeA at e
    split at e
    · rename_i hg
      obtain ⟨o', ho, hr⟩ := R.obj _ _ hg c N h1
      cases hr
      obtain ⟨_, A⟩ := setObj_sound (E := E) R hg h1 ho (by intro a e f; simp) (OR.closed (ρ := ρ) (N := N))
      refine ⟨by simp, .inl ⟨c, _, rfl, run_takeDeferred ho, ?_⟩⟩
      exact close_sound ms h3 e A.rel (fun w' B => k w' (A.trans B))
    · cases e

theorem Rel.low (R : Rel ρ h w) (l : Nat) : Rel ρ { h with low := l } w := ⟨R.obj, R.inj, R.lt⟩

/-- The results of a function. -/
theorem res1_sound (K : E.Ok) (R : Rel ρ h w) {s : ASt} (hs : s.heap = h) {tmps : Array Value} (hT : TR ρ s.tmps tmps) {r : ResultVar} {v : Value} (e : res1 E s r = some v) :
    ∃ v', ((match r with
        | ResultVar.tmp t => pure (tmps.getD t undef)
        | .cell a t => do loadVar t (← asAddr (tmps.getD a undef)) : Sem Value).run E.P w = .ok v' w ∧ VR ρ v v') := by
  subst hs
  cases r with
  | tmp t =>
    obtain ⟨v', h1, h2⟩ := hT t v e
    exact ⟨v', by simp [Array.getD_eq_getD_getElem?, h1], h2⟩
  | cell t ty =>
    dsimp only [res1] at e ⊢
    split at e
    · rename_i p i h1 h2
      obtain ⟨v1, h3, h4⟩ := hT t _ h1
      cases h4 with
      | ptr hρ =>
        rename_i b c N off
        cases hrd : readCells s.heap ⟨b, off, none⟩ i.size with
        | none => rw [hrd] at e; cases e
        | some l =>
          rw [hrd] at e
          obtain ⟨l', h5, h6, h7⟩ := readCells_sound R hρ hrd
          obtain ⟨v', h8, h9⟩ := wrapCells_sound h6 e
          refine ⟨v', ?_, h9⟩
          have : tmps.getD t undef = .pointer (some ⟨c, off, none⟩) := by simp [Array.getD_eq_getD_getElem?, h3]
          rw [this]
          simp only [asAddr, Sem.run_bind, Sem.run_pure, Result.andThen_ok]
          exact loadVar_run K h2 h5 h7 h8
    · cases e

theorem resL_sound (K : E.Ok) (R : Rel ρ h w) {s : ASt} (hs : s.heap = h) {tmps : Array Value} (hT : TR ρ s.tmps tmps) (f : ResultVar → Sem Value)
    (hf : ∀ r v, res1 E s r = some v → ∃ v', (f r).run E.P w = .ok v' w ∧ VR ρ v v') : ∀ (rs : List ResultVar) {l : List Value}, resL E s rs = some l →
    ∃ l', (rs.mapM f).run E.P w = .ok l' w ∧ LR ρ l l'
  | [], l, e => by cases e; exact ⟨[], by simp, .nil ρ⟩
  | r :: rs, l, e => by
    unfold resL at e
    split at e
    · rename_i v hv
      cases hr : resL E s rs with
      | none => rw [hr] at e; cases e
      | some l1 =>
        rw [hr] at e
        cases e
        obtain ⟨v', h1, h2⟩ := hf r v hv
        obtain ⟨l', h3, h4⟩ := resL_sound K R hs hT f hf rs hr
        exact ⟨v' :: l', by simp [h1, h3], .cons h2 h4⟩
    · cases e

theorem res_sound (K : E.Ok) (R : Rel ρ h w) {fn : Func} {s : ASt} (hs : s.heap = h) {tmps : Array Value} (hT : TR ρ s.tmps tmps) {v : Value} (e : resA E fn s = some v) :
    ∃ v', (results fn tmps).run E.P w = .ok v' w ∧ VR ρ v v' := by
  suffices H : ∀ f : ResultVar → Sem Value, (∀ r v, res1 E s r = some v → ∃ v', (f r).run E.P w = .ok v' w ∧ VR ρ v v') →
      ∃ v', (do let vs ← fn.results.mapM f; pure (if h : vs.size = 1 then vs[0] else .tuple vs) : Sem Value).run E.P w = .ok v' w ∧ VR ρ v v' from H _ (fun r v hv => res1_sound K R hs hT hv)
  intro f hf
  unfold resA at e
  have key := fun {l : List Value} (hl : resL E s fn.results.toList = some l) => resL_sound K R hs hT f hf fn.results.toList hl
  split at e
  · rename_i u hl
    cases e
    obtain ⟨l', h1, h2⟩ := key hl
    obtain ⟨v', rfl, h3⟩ := h2.one
    refine ⟨v', ?_, h3⟩
    rw [Array.mapM_eq_mapM_toList]
    simp only [Sem.run_bind, Sem.run_map, h1, Result.andThen_ok]
    rfl
  · rename_i l hne hl
    cases e
    obtain ⟨l', h1, h2⟩ := key hl
    refine ⟨.tuple ⟨l'⟩, ?_, .tuple h2.1 h2.2⟩
    rw [Array.mapM_eq_mapM_toList]
    simp only [Sem.run_bind, Sem.run_map, h1, Result.andThen_ok]
    have hn : ¬ l'.length = 1 := by
      rw [← h2.1]
      intro h1
      match l, h1 with
      | [u], _ => exact hne u rfl
    rw [dif_neg (by simpa using hn)]
    rfl
  · cases e

theorem loadArgs_get : ∀ (vs : List Value) (i : Nat) (t : T Value) (k : Nat), (loadArgs vs i t).get k = if i ≤ k ∧ k < i + vs.length then vs[k - i]? else t.get k
  | [], i, t, k => by rw [loadArgs, if_neg (by simp only [List.length_nil]; omega)]
  | v :: vs, i, t, k => by
    rw [loadArgs, loadArgs_get vs, T.get_put]
    simp only [List.length_cons]
    by_cases h1 : k = i
    · subst h1
      rw [if_neg (by omega), if_pos rfl, if_pos (by omega)]
      simp
    · by_cases h2 : i + 1 ≤ k ∧ k < i + 1 + vs.length
      · rw [if_pos h2, if_pos (by omega)]
        rw [show k - i = (k - (i + 1)) + 1 by omega, List.getElem?_cons_succ]
      · rw [if_neg h2, if_neg h1, if_neg (by omega)]

theorem args_TR {args args' : List Value} (hL : LR ρ args args') (n : Nat) :
    TR ρ (loadArgs args 0 .nil) ((⟨args'⟩ : Array Value) ++ Array.replicate n undef) ∧ TN (loadArgs args 0 .nil) ((⟨args'⟩ : Array Value) ++ Array.replicate n undef) := by
  refine ⟨fun t v e => ?_, trivial⟩
  rw [loadArgs_get] at e
  split at e
  · rw [Nat.sub_zero] at e
    obtain ⟨v', h1, h2⟩ := hL.get e
    refine ⟨v', ?_, h2⟩
    have hlt := (List.getElem?_eq_some_iff.1 h1).1
    rw [Array.getElem?_append_left (by simpa using hlt)]
    simpa using h1
  · cases e

/-- A call that changes nothing old and hands back no address: as if memory were as before. -/
theorem Adv.forget {ρ' : Ren} {w' : World} (R : Rel ρ h w) (A : Adv ρ ρ' { h with low := h.next } h' w w') (hl : h.next ≤ h'.low) : Adv ρ ρ h h w w' := by
  refine ⟨.refl _, fun _ _ _ e => .inl e, Nat.le_refl _, Nat.le_refl _, ⟨?_, R.inj, fun b c N e => Nat.lt_of_lt_of_le (R.lt b c N e) A.size⟩, A.os, A.tape, A.output, A.size, fun _ a b => by omega, ?_, fun _ _ _ => rfl⟩
  · intro b o hb c N hc
    obtain ⟨o', h1, h2⟩ := R.obj b o hb c N hc
    refine ⟨o', ?_, h2⟩
    rw [A.frame c (R.lt b c N hc) (fun b' N' h3 h4 => by have : b' < h.next := h4; omega)]
    exact h1
  · intro c hc _
    exact A.frame c hc (fun b' N' h3 h4 => by have : b' < h.next := h4; omega)

theorem Adv.lower {ρ' : Ren} {w' : World} (A : Adv ρ ρ' { h with low := h.next } h' w w') : Adv ρ ρ' h { h' with low := Nat.min h.low h'.low } w w' := by
  refine ⟨A.ext, ?_, A.next, Nat.min_le_left _ _, A.rel.low _, A.os, A.tape, A.output, A.size, A.fresh, ?_, ?_⟩
  · intro b c N e
    rcases A.new b c N e with e1 | ⟨g1, g2, g3⟩
    · exact .inl e1
    · refine .inr ⟨g1, g2, ?_⟩
      rcases g3 with g3 | ⟨b0, M, p, q, r⟩
      · exact .inl g3
      · exact .inr ⟨b0, M, Nat.le_trans (Nat.min_le_right _ _) p, q, r⟩
  · intro c hc hn
    exact A.frame c hc (fun b' N' h3 h4 => hn b' N' (Nat.le_trans (Nat.min_le_right _ _) h3) h4)
  · intro b h1 h2
    exact A.keep b h1 (Nat.lt_of_lt_of_le h2 (Nat.min_le_right _ _))

theorem callBody_sound (K : E.Runs) {run : CodeRun} (hr : RunOk E run) (ht : Tight ρ h w) (R : Rel ρ h w) {f : FuncId} {args args' : List Value} {v : Value} (hL : LR ρ args args') (hi : E.intr.get f = none) (e : callA E run f args h = some (v, h')) :
    (callFunc f ⟨args'⟩).run E.P w = .ok (.enter f ⟨args'⟩) w ∧ CallsIn Fence.wide 0 E.P f ⟨args'⟩ w (fun x w' => ∃ v', x = .returned v' ∧ ∃ ρ', VR ρ' v v' ∧ Adv ρ ρ' h h' w w') := by
  unfold callA at e
  rw [hi] at e
  dsimp only at e
  split at e
  · cases e
  · rename_i fn hfn
    split at e
    · cases e
    · rename_i c hc
      obtain ⟨hcode, hname⟩ := K.body f fn c hfn hc
      have hP := K.fn f fn hfn
      refine ⟨?_, ?_⟩
      · unfold callFunc
        have hn : (fn.name == "runtime.NumGoroutine") = false := by simpa using hname
        simp only [Sem.run_bind, program, Sem.run, Result.andThen_ok, hP, hn, hc, Bool.false_eq_true, if_false, Option.isNone_some]
        rfl
      · split at e
        · cases e
        · rename_i x s' hne hrun
          split at e
          · cases e
          · rename_i hcl hclose
            split at e
            · cases e
            · rename_i u hres
              refine callsIn_of_wp_marks hP hc trivial ?_
              refine hr none c _ x s' hrun ρ _ w fn.ntmps none trivial (ht.low _) (R.low _) ?_ ?_ ?_ hcode ?_ _ ?_
              · exact (args_TR hL _).1
              · exact (args_TR hL _).2
              · exact rfl
              · simp; omega
              · intro ρ' a' w' hT' hN' hsz hdf A
                have fin : LeavesInM Fence.wide 0 E.P fn a'.tmps (fun x w' => ∃ v', x = .returned v' ∧ ∃ ρ', VR ρ' v v' ∧ Adv ρ ρ' h h' w w') a'.defers .returning w' := by
                  refine close_sound s'.marks hdf hclose A.rel (fun w2 B => ?_)
                  have A2 := A.trans B
                  obtain ⟨v', h1, h2⟩ := res_sound (s := { s' with heap := hcl }) K.toOk A2.rel rfl hT' hres
                  refine ⟨v', h1, v', rfl, ?_⟩
                  split at e
                  · rename_i hfl
                    simp only [Bool.and_eq_true] at hfl
                    cases e
                    refine ⟨ρ, ?_, A2.forget R (Nat.le_of_ble_eq_true hfl.2)⟩
                    rw [flat_eq hfl.1 h2]
                    exact flat_VR ρ hfl.1
                  · cases e
                    exact ⟨ρ', h2, A2.lower⟩
                cases x with
                | exit i => exact (hne _ rfl).elim
                | normal => exact fin
                | ret => exact fin
        · cases e

theorem callA_sound (K : E.Runs) {run : CodeRun} (hr : RunOk E run) (ht : Tight ρ h w) (R : Rel ρ h w) {f : FuncId} {args args' : List Value} {v : Value} (hL : LR ρ args args') (e : callA E run f args h = some (v, h')) :
    CallOk E f args' w fun v' w' => ∃ ρ', VR ρ' v v' ∧ Adv ρ ρ' h h' w w' := by
  cases hg : E.intr.get f with
  | some g =>
    unfold callA at e
    rw [hg] at e
    exact K.intr f g hg ρ h h' w args args' v ht R hL e
  | none => exact .inl (callBody_sound K hr ht R hL hg e)

theorem loadParams_sound : ∀ (ps : List Tmp) {vs vs' : List Value} {t t' : T Value} {tmps : Array Value}, LR ρ vs vs' → loadParams ps vs t = some t' → TR ρ t tmps → TN t tmps → (∀ p ∈ ps, p < tmps.size) →
    TR ρ t' ((ps.zip vs').foldl (fun tmps (x : Tmp × Value) => tmps.setIfInBounds x.1 x.2) tmps) ∧ TN t' ((ps.zip vs').foldl (fun tmps (x : Tmp × Value) => tmps.setIfInBounds x.1 x.2) tmps) ∧
      ((ps.zip vs').foldl (fun tmps (x : Tmp × Value) => tmps.setIfInBounds x.1 x.2) tmps).size = tmps.size ∧ vs'.length = ps.length
  | [], [], vs', t, t', tmps, hL, e, hT, hN, hp => by
    cases e
    have := hL.1
    match vs', this with
    | [], _ => exact ⟨hT, hN, rfl, rfl⟩
  | p :: ps, v :: vs, vs', t, t', tmps, hL, e, hT, hN, hp => by
    have := hL.1
    match vs', this with
    | v' :: vs', _ =>
      have hv : VR ρ v v' := hL.2 0 _ _ rfl rfl
      have hL' : LR ρ vs vs' := ⟨by simpa using hL.1, fun i a b ha hb => hL.2 (i + 1) a b (by simpa using ha) (by simpa using hb)⟩
      have hlt := hp p (by simp)
      obtain ⟨p1, p2, p3, p4⟩ := put_sound (a := { tmps := tmps, defers := [] }) (dst := some p) (r := some v) (v' := v') hT hN (fun d hd => by cases hd; exact hlt) hv
      obtain ⟨q1, q2, q3, q4⟩ := loadParams_sound ps hL' (t := t.put p v) (tmps := tmps.setIfInBounds p v') e p1 p2 (fun q hq => by simpa using hp q (by simp [hq]))
      exact ⟨q1, q2, by simpa using q3, by simp [q4]⟩
  | [], v :: vs, vs', t, t', tmps, hL, e, hT, hN, hp => by cases e
  | p :: ps, [], vs', t, t', tmps, hL, e, hT, hN, hp => by cases e

/-- One round. -/
theorem roundA_sound (K : E.Runs) {run : CodeRun} (hr : RunOk E run) (ht : Tight ρ h w) (R : Rel ρ h w) {l c N : Nat} (hl : ρ l = some (c, N)) {args args' : List Value} {v : Value} (hL : LR ρ args args') (e : roundA run l args h = some (v, h')) (rc : Option Nat) :
    ∃ (f : FuncId) (tmps : Array Value) (as bd : Code), (Instr.yield c ⟨args'⟩).run E.P w = .ok (.round c f tmps as bd) w ∧
      RoundIn (fence rc) 0 E.P c f tmps as bd w (fun x w' => ∃ v', x = .returned v' ∧ ∃ ρ', VR ρ' v v' ∧ Adv ρ ρ' h h' w w') := by
  unfold roundA at e
  split at e
  · rename_i st0 pd0 tm ps as bd d0 hg
    obtain ⟨o', ho, hor⟩ := R.obj _ _ hg c N hl
    cases hor with
    | loop hT hN hcd hd =>
      rename_i fn tmps d' M
      obtain ⟨n0, c1, c2, c3, c4⟩ := hcd
      split at e
      · cases e
      · rename_i t hlp
        obtain ⟨q1, q2, q3, q4⟩ := loadParams_sound ps hL hlp hT hN (fun p hp => Nat.lt_of_lt_of_le (c4 p hp) c1)
        split at e
        · rename_i s1 hrun1
          split at e
          · rename_i p1 t1 pr1 as1 bd1 d1 hg1
            split at e
            · rename_i x2 s2 hrun2
              split at e
              · rename_i st2 pd2 t2 pr2 as2 bd2 d2 hg2
                cases e
                have hz : ((⟨ps⟩ : Array Tmp).zip (⟨args'⟩ : Array Value)).foldl (fun tmps (x : Tmp × Value) => tmps.setIfInBounds x.1 x.2) tmps = (ps.zip args').foldl (fun tmps (x : Tmp × Value) => tmps.setIfInBounds x.1 x.2) tmps := by simp
                refine ⟨fn, (ps.zip args').foldl (fun tmps (x : Tmp × Value) => tmps.setIfInBounds x.1 x.2) tmps, as, bd, ?_, roundIn_of_wpIn (fence_fn rc fn) ?_⟩
                · unfold Instr.yield
                  simp only [Sem.run_bind, run_getLoop ho, Result.andThen_ok]
                  rw [if_neg (by simp [q4])]
                  rw [← hz]
                  rfl
                · rw [fence_in]
                  refine hr (some l) as _ _ s1 hrun1 ρ _ w n0 (some c) ⟨N, hl⟩ ht R ?_ ?_ ?_ c2 ?_ _ ?_
                  · exact q1
                  · exact q2
                  · exact rfl
                  · show n0 ≤ Array.size _
                    rw [q3]
                    exact c1
                  · intro ρ1 a1 w1 b1 b2 b3 b4 A
                    have hl1 := A.ext _ _ hl
                    obtain ⟨o1, ho1, hor1⟩ := A.rel.obj _ _ hg1 c N hl1
                    cases hor1 with
                    | loop hT1 hN1 hcd1 hd1 =>
                      obtain ⟨_, B⟩ := setObj_sound (E := E) A.rel hg1 hl1 ho1 (by intro a e f; simp) (OR.loop (st := .busy) (p := p1) (fn := _) hT1 hN1 hcd1 hd1)
                      refine ⟨_, run_beginRound ho1 rfl, ?_⟩
                      have hsz1 : n0 ≤ a1.tmps.size := by
                        rw [b3]
                        show n0 ≤ Array.size _
                        rw [q3]
                        exact c1
                      refine hr (some l) bd _ x2 s2 hrun2 ρ1 a1 _ n0 (some c) ⟨N, hl1⟩ ((ht.adv A).adv B) B.rel b1 b2 b4 c3 hsz1 _ ?_
                      intro ρ2 a2 w2 e1 e2 e3 e4 C
                      have hl2 := C.ext _ _ hl1
                      obtain ⟨o2, ho2, hor2⟩ := C.rel.obj _ _ hg2 c N hl2
                      cases hor2 with
                      | loop hT2 hN2 hcd2 hd2 =>
                        have fin : ∀ j, j = jumpA x2 → ∃ v w', (Instr.endRound c j).run E.P w2 = .ok v w' ∧ ∃ v', Ending.returned v = .returned v' ∧ ∃ ρ', VR ρ' (.bool (jumpA x2).isNone) v' ∧
                            Adv ρ ρ' h (s2.heap.set l (.loop (if (jumpA x2).isNone then .ready else .done) (jumpA x2) t2 pr2 as2 bd2 d2)) w w' := by
                          intro j hj
                          subst hj
                          obtain ⟨_, D⟩ := setObj_sound (E := E) C.rel hg2 hl2 ho2 (by intro a e f; simp) (OR.loop (st := if (jumpA x2).isNone then .ready else .done) (p := jumpA x2) (fn := _) hT2 hN2 hcd2 hd2)
                          exact ⟨_, _, run_endRound (jumpA x2) ho2, _, rfl, ρ2, .bool _, A.trans (B.trans (C.trans D))⟩
                        cases x2 with
                        | normal => exact fin _ rfl
                        | ret => exact fin _ rfl
                        | exit i => exact fin _ rfl
              · cases e
            · cases e
          · cases e
        · cases e
  · cases e

theorem step_sound (K : E.Runs) {run : CodeRun} (hr : RunOk E run) (ht : Tight ρ h w) (R : Rel ρ h w) {s : T Value} {a : Act} (hT : TR ρ s a.tmps) {o : Oper} {r : Option Value} (e : stepA E run s h o = some (r, h'))
    {next : Act → World → Prop} {Q : Exit → Act → World → Prop} (hK : ∀ ρ' v' w', RV ρ' r v' → Adv ρ ρ' h h' w w' → next (a.put o.dst v') w') (rc : Option Nat) : o.wpIn (fence rc) 0 E.P a w next Q := by
  refine ⟨fun f _ => fence_fn rc f, ?_⟩
  have hnd : ∀ c, o.op ≠ .defer c := fun c hc => by
    unfold stepA at e
    rw [hc] at e
    simp only [aop, hc] at e
    cases e
  have hsem : o.semAt (fence rc).round a.eval = execOp a.eval o := Oper.semAt_eq _ _ _ hnd
  rw [hsem]
  have done : OpOk E ρ h h' w (execOp a.eval o) r → o.uponIn (fence rc) 0 E.P a next Q ((execOp a.eval o).run E.P w) := by
    intro ⟨ρ', n, w', h1, h2, A⟩
    rw [h1]
    cases r with
    | none =>
      have : n = .skip := h2
      subst this
      exact hK ρ' _ w' rfl A
    | some v =>
      obtain ⟨v', rfl, h3⟩ := h2
      exact hK ρ' v' w' h3 A
  unfold stepA at e
  split at e
  · rename_i c hc
    simp only [Option.map_eq_some_iff] at e
    obtain ⟨⟨v, hb2⟩, e, e'⟩ := e
    cases e'
    unfold callOp at e
    split at e
    · cases e
    · rename_i args hargs
      have hL := evalL_sound hT _ hargs
      have hm : c.args.map a.eval = ⟨c.args.toList.map a.eval⟩ := by apply Array.ext'; simp
      split at e
      · rename_i b hb
        refine done ?_
        unfold execOp
        simp only [hc, resolve, hb, Sem.run_bind, Sem.run_pure, invoke]
        have := builtinA_sound (ty := o.type) (cs := c.args.map fun | .const _ => true | _ => false) K.toOk R hL e ht.fr
        obtain ⟨ρ', n, w', h1, h2, A⟩ := this
        refine ⟨ρ', n, w', ?_, h2, A⟩
        simp only [Sem.run_bind, Sem.run_pure, Result.andThen_ok, hm]
        exact h1
      · rename_i f hf
        split at e
        · rename_i g as hg
          cases hfv : evalO s f with
          | none => rw [hfv] at hg; cases hg
          | some fv =>
            rw [hfv] at hg
            have hvr := evalO_sound hT hfv
            simp only [Option.bind_some] at hg
            unfold calleeA at hg
            split at hg
            · rename_i g0 first captured
              cases hg
              generalize hev : a.eval f = fv' at hvr
              cases hvr with
              | func hfn e1 e2 e3 e4 =>
                rename_i f' fs gs cs ds
                cases hfn with
                | same _ =>
                  have hLL : LR ρ (fs ++ args ++ cs) (gs ++ c.args.toList.map a.eval ++ ds) := (LR.append ⟨e1, e2⟩ hL).append ⟨e3, e4⟩
                  have hcall := callA_sound K hr ht R hLL e
                  have hex : (execOp a.eval o).run E.P w = (callFunc g ⟨gs ++ c.args.toList.map a.eval ++ ds⟩).run E.P w := by
                    unfold execOp
                    simp only [hc, resolve, hf, hev, Deferred.ofValue, Sem.run_bind, Sem.run_pure, Result.andThen_ok, invoke, hm]
                    simp
                  rw [hex]
                  rcases hcall with ⟨h1, h2⟩ | ⟨v', w', h1, ρ', h2, A⟩
                  · rw [h1, Oper.uponIn_enter]
                    refine ⟨fun hh => (by rw [fence_depth] at hh; cases hh), ?_⟩
                    have h3 : CallsIn (fence rc) 0 E.P g ⟨gs ++ c.args.toList.map a.eval ++ ds⟩ w (fun e w' => ∃ v', e = .returned v' ∧ ∃ ρ', VR ρ' v v' ∧ Adv ρ ρ' h hb2 w w') := by cases rc <;> exact h2
                    refine h3.mono ?_
                    rintro x w' ⟨v', rfl, ρ', h3, A⟩
                    exact hK ρ' v' w' h3 A
                  · rw [h1, Oper.uponIn_value]
                    exact hK ρ' v' w' h2 A
            · split at hg <;> cases hg
            · cases hg
        · rename_i l as hg
          cases hfv : evalO s f with
          | none => rw [hfv] at hg; cases hg
          | some fv =>
            rw [hfv] at hg
            have hvr := evalO_sound hT hfv
            simp only [Option.bind_some] at hg
            unfold calleeA at hg
            split at hg
            · cases hg
            · rename_i l0 first captured
              split at hg
              · rename_i hf0 hc0
                cases hg
                generalize hev : a.eval f = fv' at hvr
                cases hvr with
                | func hfn e1 e2 e3 e4 =>
                  rename_i f' fs gs cs ds
                  have hfs : fs = [] := hf0
                  have hcs : cs = [] := hc0
                  subst hfs
                  subst hcs
                  have hgs : gs = [] := List.eq_nil_of_length_eq_zero (by simpa using e1.symm)
                  have hds : ds = [] := List.eq_nil_of_length_eq_zero (by simpa using e3.symm)
                  subst hgs
                  subst hds
                  cases hfn with
                  | same hne => exact absurd rfl (hne _)
                  | yield hρ =>
                    rename_i lc Nc
                    obtain ⟨fr, tmps, as', bd', h1, h2⟩ := roundA_sound K hr ht R hρ hL e rc
                    have hex : (execOp a.eval o).run E.P w = .ok (.round lc fr tmps as' bd') w := by
                      rw [← h1]
                      unfold execOp
                      simp only [hc, resolve, hf, hev, Deferred.ofValue, Sem.run_bind, Sem.run_pure, Result.andThen_ok, invoke, hm]
                      simp
                    rw [hex, Oper.uponIn_round]
                    refine ⟨fun hh => (by rw [fence_depth] at hh; cases hh), h2.mono ?_⟩
                    rintro x w' ⟨v', rfl, ρ', h3, A⟩
                    exact hK ρ' v' w' h3 A
              · cases hg
            · cases hg
        · cases e
      · cases e
  · exact done (aop_sound K.toOk R hT e ht.fr)
end Go.Proofs.YtlkhpgocbojdgaaGreatDoor.Ai

/-
  A FUNCTION's CODE ALONG ONE WAY, its loops taken as facts; from the code to the call.
-/
import Derived.Test.YtlkhpgocbojdgaaGreatDoorAiCan
namespace Go.Proofs.YtlkhpgocbojdgaaGreatDoor.Ai
open Go
set_option linter.unusedSimpArgs false
set_option linter.unusedVariables false

noncomputable section
variable (E : Env) (base n : Nat)

/-- A loop: it is told what it does, or gone through round by round. -/
def takeLoop (b : Code) (s : ASt) (next : M (AExit × ASt)) : M (AExit × ASt)
  | [] => .need (.loop ⟨0, [], []⟩ b s .normal s)
  | .go 0 :: rest => takeLoop b s next rest
  | .loop sp _ _ x s' :: rest => match canX base sp s rest with
    | .ok s1 rest' tr => .ok (x, s') rest' (.loop sp b s1 x s' :: tr)
    | .need f => .need f
    | .bad k => .bad k
  | f :: rest => next (f :: rest)

def topStep (go : XRun) (rd : Option Nat) (c : Code) (s : ASt) : M (AExit × ASt) :=
  match c with
  | .skip | .label _ => M.pure (.normal, s)
  | .ret => M.pure (.ret, s)
  | .exit id => M.pure (.exit id, s)
  | .seq x y => do
    let r ← go rd x s
    match r with
    | (.normal, s') => go rd y s'
    | r => M.pure r
  | .cond q x y => match evalO s.tmps q with
    | some (.bool b) => do
      let t ← askB b
      match t with
      | true => go rd x s
      | false => go rd y s
    | _ => M.fail 67
  | .block id b => do
    let r ← go rd b s
    M.pure (leftBlock id r.1, r.2)
  | .scope b => go rd b s
  | .loop b => takeLoop base b s (do
    let r ← go rd b s
    match r with
    | (.normal, s') => go rd (.loop b) s'
    | r => M.pure r)
  | .rangeFunc g ps assign body => rangeFuncX E (xE E n) rd g ps assign body s
  | .region _ ops draw => do
    let s' ← regionX E (xE E n) ops draw s
    M.pure (.normal, s')
  | _ => M.fail 68

def xTop (m : Nat) : XRun := Nat.rec (motive := fun _ => XRun) (fun _ _ _ => M.fail 69) (fun _ go => topStep E base n go) m

/-- One way through a piece of code, its end named anew. -/
def pathX (m : Nat) (sp : Can) (rd : Option Nat) (c : Code) (s : ASt) : M (AExit × ASt) := do
  let r ← xTop E base n m rd c s
  let s1 ← canX base sp r.2
  M.pure (r.1, s1)
end

section
variable {E : Env} {base n : Nat} {rd : Option Nat} {h0 : AHeap}

/-- What a loop's fact says. -/
def LoopD (E : Env) (rd : Option Nat) (h0 : AHeap) : Code → ASt → AExit → ASt → Prop := fun b s x s' => Den E rd h0 (.loop b) s x s'

/-- Going through a loop once more. -/
theorem Den.loopNext {b : Code} {s s1 s' : ASt} {x : AExit} (d : ∃ m, DenL E rd h0 m b s x s') : Den E rd h0 (.loop b) s x s' := let ⟨_, h⟩ := d; DenL.loop h

/-- What the run at the top says: of a loop, in rounds. -/
def Den' (E : Env) (rd : Option Nat) (h0 : AHeap) (c : Code) (s : ASt) (x : AExit) (s' : ASt) : Prop :=
  Den E rd h0 c s x s' ∧ ∀ b, c = .loop b → ∃ m, DenL E rd h0 m b s x s'

def LoopR (E : Env) (rd : Option Nat) (h0 : AHeap) : Code → ASt → AExit → ASt → Prop := fun b s x s' => ∃ m, DenL E rd h0 m b s x s'

theorem DenL.pre {b : Code} {s s1 s' : ASt} {x : AExit} {m : Nat} (h : Le h0 s s1) (d : DenL E rd h0 m b s1 x s') : DenL E rd h0 m b s x s' :=
  fun ρ0 w0 rc N a w hrd ht R g hc hsz Q hQ => d ρ0 w0 rc N a w hrd ht R (h ρ0 w0 a w ht g) hc hsz Q hQ
theorem DenL.post {b : Code} {s s1 s' : ASt} {x : AExit} {m : Nat} (d : DenL E rd h0 m b s x s1) (h : Le h0 s1 s') : DenL E rd h0 m b s x s' :=
  fun ρ0 w0 rc N a w hrd ht R g hc hsz Q hQ => d ρ0 w0 rc N a w hrd ht R g hc hsz Q (fun a' w' g' hs => hQ a' w' (h ρ0 w0 a' w' ht g') hs)

/-- A loop whose states are numbered, in rounds. -/
theorem DenL.of {b : Code} {s' : ASt} {x : AExit} {st : Nat → ASt} (m : Nat) (hn : ∀ k, k < m → Den E rd h0 b (st k) .normal (st (k + 1))) (he : Den E rd h0 b (st m) x s') (hx : x ≠ .normal) : ∀ k, k ≤ m → LoopR E rd h0 b (st k) x s' := by
  have key : ∀ d k, k + d = m → DenL E rd h0 (d + 1) b (st k) x s' := by
    intro d
    induction d with
    | zero =>
      intro k hk
      obtain rfl : k = m := by omega
      exact .out he hx
    | succ d ih =>
      intro k hk
      exact .next (hn k (by omega)) (ih (k + 1) (by omega))
  intro k hk
  exact ⟨_, key (m - k) k (by omega)⟩
theorem LoopR.next {b : Code} {s s1 s' : ASt} {x : AExit} (d : Den E rd h0 b s .normal s1) (l : LoopR E rd h0 b s1 x s') : LoopR E rd h0 b s x s' := let ⟨m, h⟩ := l; ⟨m + 1, .next d h⟩
theorem LoopR.out {b : Code} {s s' : ASt} {x : AExit} (d : Den E rd h0 b s x s') (hx : x ≠ .normal) : LoopR E rd h0 b s x s' := ⟨1, .out d hx⟩
theorem LoopR.pre {b : Code} {s s1 s' : ASt} {x : AExit} (h : Le h0 s s1) (l : LoopR E rd h0 b s1 x s') : LoopR E rd h0 b s x s' := let ⟨m, d⟩ := l; ⟨m, d.pre h⟩
theorem LoopR.post {b : Code} {s s1 s' : ASt} {x : AExit} (l : LoopR E rd h0 b s x s1) (h : Le h0 s1 s') : LoopR E rd h0 b s x s' := let ⟨m, d⟩ := l; ⟨m, d.post h⟩

theorem got_takeLoop {b : Code} {s : ASt} {next : M (AExit × ASt)} {r : AExit × ASt} {D : Code → ASt → AExit → ASt → Prop} (g : Got D (takeLoop base b s next) r) :
    (∃ sp s1, Got D (canX base sp s) s1 ∧ D b s1 r.1 r.2) ∨ Got D next r := by
  obtain ⟨fs, rest, tr, h, hok⟩ := g
  induction fs with
  | nil => cases h
  | cons f fs ih =>
    unfold takeLoop at h
    split at h
    · rename_i heq; cases heq
    · rename_i heq; cases heq; exact ih h
    · rename_i heq
      cases heq
      split at h
      · rename_i s1 r1 t1 hc
        cases h
        exact .inl ⟨_, s1, ⟨_, _, _, hc, hok.2⟩, hok.1⟩
      · cases h
      · cases h
    · rename_i heq
      exact .inr ⟨_, _, _, h, hok⟩

theorem xTop_ok (K : E.Runs) (hb : h0.next = base) : ∀ (m : Nat) (c : Code) (s : ASt) (r : AExit × ASt), Got (LoopR E rd h0) (xTop E base n m rd c s) r → Den' E rd h0 c s r.1 r.2
  | 0, c, s, r, g => (got_fail g).elim
  | m + 1, c, s, r, g => by
    have ih := xTop_ok K hb m
    have g : Got (LoopR E rd h0) (topStep E base n (xTop E base n m) rd c s) r := g
    have hr := ex_sound K n
    have hu := Up.ex K.up n
    cases c with
    | skip =>
      have e := got_pure g
      subst e
      exact ⟨Den.of_run (ex_sound K 1) rfl, fun b h => by cases h⟩
    | label l =>
      have e := got_pure g
      subst e
      exact ⟨Den.of_run (ex_sound K 1) rfl, fun b h => by cases h⟩
    | ret =>
      have e := got_pure g
      subst e
      exact ⟨Den.of_run (ex_sound K 1) rfl, fun b h => by cases h⟩
    | exit id =>
      have e := got_pure g
      subst e
      exact ⟨Den.of_run (ex_sound K 1) rfl, fun b h => by cases h⟩
    | goto l => exact (got_fail g).elim
    | refuse y => exact (got_fail g).elim
    | seq c1 c2 =>
      refine ⟨?_, fun b h => by cases h⟩
      unfold topStep at g
      dsimp only at g
      obtain ⟨⟨x1, s1⟩, k1, g⟩ := got_bind g
      have d1 := (ih _ _ _ k1).1
      split at g
      · rename_i heq
        cases heq
        exact Den.seq d1 (ih _ _ _ g).1
      · rename_i hne
        have e := got_pure g
        subst e
        exact Den.seqExit d1 (fun h => hne _ (by rw [← h]))
    | cond q c1 c2 =>
      refine ⟨?_, fun b h => by cases h⟩
      unfold topStep at g
      dsimp only at g
      split at g
      · rename_i b hq
        obtain ⟨t, k1, g1⟩ := got_bind g
        clear g
        have e := got_askB k1
        subst e
        cases t with
        | true => exact Den.cond hq (ih _ _ _ g1).1
        | false => exact Den.cond hq (ih _ _ _ g1).1
      · exact (got_fail g).elim
    | block id b =>
      refine ⟨?_, fun b h => by cases h⟩
      unfold topStep at g
      dsimp only at g
      obtain ⟨⟨x1, s1⟩, k1, g⟩ := got_bind g
      have e := got_pure g
      subst e
      exact Den.block (ih _ _ _ k1).1
    | scope b =>
      refine ⟨?_, fun b h => by cases h⟩
      exact Den.scope (ih _ _ _ g).1
    | loop b =>
      have key : LoopR E rd h0 b s r.1 r.2 := by
        unfold topStep at g
        dsimp only at g
        rcases got_takeLoop g with ⟨sp, s1, k1, d⟩ | g
        · exact LoopR.pre (canX_sound k1 hb) d
        · obtain ⟨⟨x1, s1⟩, k1, g⟩ := got_bind g
          have d1 := (ih _ _ _ k1).1
          split at g
          · rename_i heq
            cases heq
            exact LoopR.next d1 ((ih _ _ _ g).2 b rfl)
          · rename_i hne
            have e := got_pure g
            subst e
            exact LoopR.out d1 (fun h => hne _ (by rw [← h]))
      refine ⟨let ⟨_, d⟩ := key; d.loop, fun b' h => ?_⟩
      cases h
      exact key
    | rangeFunc f p as b =>
      refine ⟨?_, fun b h => by cases h⟩
      have g := rangeFuncX_ok (xE_ok n) g
      exact Den.of_run (ex_sound K (n + 1)) g
    | region id ops draw =>
      refine ⟨?_, fun b h => by cases h⟩
      unfold topStep at g
      dsimp only at g
      obtain ⟨s1, k1, g⟩ := got_bind g
      have e := got_pure g
      subst e
      exact Den.region hr K hu (regionX_ok (xE_ok n) k1)

/-- What a way through a piece of code shows. -/
theorem path_ok (K : E.Runs) (hb : h0.next = base) {m : Nat} {sp : Can} {c : Code} {s s' : ASt} {x : AExit} {fs : List Fact} (e : pathX E base n m sp rd c s fs = .ok (x, s') [] (strip fs)) (hok : AllOk (LoopR E rd h0) fs) : Den E rd h0 c s x s' := by
  have g : Got (LoopR E rd h0) (pathX E base n m sp rd c s) (x, s') := ⟨fs, [], strip fs, e, hok.strip⟩
  unfold pathX at g
  obtain ⟨r, k1, g⟩ := got_bind g
  obtain ⟨s1, k2, g⟩ := got_bind g
  have e := got_pure g
  cases e
  exact Den.post (xTop_ok K hb _ _ _ _ k1).1 (canX_sound k2 hb)
theorem top_ok (K : E.Runs) (hb : h0.next = base) {m : Nat} {c : Code} {s s' : ASt} {x : AExit} {fs : List Fact} (e : xTop E base n m rd c s fs = .ok (x, s') [] (strip fs)) (hok : AllOk (LoopR E rd h0) fs) : Den E rd h0 c s x s' :=
  (xTop_ok K hb _ _ _ _ ⟨fs, [], strip fs, e, hok.strip⟩).1

/-- From a function's body to its call. -/
theorem call_of_den (K : E.Runs) {f : FuncId} {fn : Func} {c : Code} (hfn : E.fn.get f = some fn) (hbody : fn.body = some c) {args : List Value} {h : AHeap} {x : AExit} {s' : ASt} {hc : AHeap} {v : Value}
    (d : Den E none { h with low := h.next } c { tmps := loadArgs args 0 .nil, heap := { h with low := h.next }, marks := [] } x s') (hx : ∀ i, x ≠ .exit i) (hcl : closeA s'.marks s'.heap = some hc) (hres : resA E fn { s' with heap := hc } = some v)
    {ρ : Ren} {w : World} {args' : List Value} (ht : Tight ρ h w) (R : Rel ρ h w) (hL : LR ρ args args') :
    CallOk E f args' w fun v' w' => ∃ ρ', VR ρ' v v' ∧ Adv ρ ρ' { h with low := h.next } hc w w' := by
  obtain ⟨hcode, hname⟩ := K.body f fn c hfn hbody
  have hP := K.fn f fn hfn
  refine .inl ⟨?_, ?_⟩
  · unfold callFunc
    have hn : (fn.name == "runtime.NumGoroutine") = false := by simpa using hname
    simp only [Sem.run_bind, program, Sem.run, Result.andThen_ok, hP, hn, hbody, Bool.false_eq_true, if_false, Option.isNone_some]
    rfl
  · refine callsIn_of_wp_marks hP hbody trivial ?_
    refine d ρ w none fn.ntmps _ w trivial (ht.low _) (R.low _) ?_ hcode (by simp; omega) _ ?_
    · exact ⟨ρ, .refl (R.low _), (args_TR hL _).1, rfl⟩
    intro a' w' ⟨ρ', A, hT', hdf⟩ hsz
    have fin : LeavesInM Fence.wide 0 E.P fn a'.tmps (fun x w' => ∃ v', x = .returned v' ∧ ∃ ρ', VR ρ' v v' ∧ Adv ρ ρ' { h with low := h.next } hc w w') a'.defers .returning w' := by
      refine close_sound s'.marks hdf hcl A.rel (fun w2 B => ?_)
      have A2 := A.trans B
      obtain ⟨v', h1, h2⟩ := res_sound (s := { s' with heap := hc }) K.toOk A2.rel rfl hT' hres
      exact ⟨v', h1, v', rfl, ρ', h2, A2⟩
    cases x with
    | exit i => exact absurd rfl (hx i)
    | normal => exact fin
    | ret => exact fin
end
end Go.Proofs.YtlkhpgocbojdgaaGreatDoor.Ai

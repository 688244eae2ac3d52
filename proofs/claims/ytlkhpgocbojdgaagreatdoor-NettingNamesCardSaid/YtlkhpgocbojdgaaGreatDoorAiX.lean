/-
  A FUNCTION's CODE ALONG ONE WAY, its loops taken as facts; from the code to the call.
-/
import Derived.Test.YtlkhpgocbojdgaaGreatDoorAiCan
import Derived.KernelRfl
import Derived.Laws.BitsLemmas
namespace Go.Proofs.YtlkhpgocbojdgaaGreatDoor.Ai
open Go
set_option linter.unusedSimpArgs false
set_option linter.unusedVariables false

noncomputable section
variable (E : Env) (base n : Nat)

/-- A loop: it is told what it does, or gone through round by round. -/
def takeLoop (b : Code) (s : ASt) (next : M (AExit × ASt)) : M (AExit × ASt)
  | [] => .need (.loop ⟨0, [], []⟩ b s .normal s)
  | .go 0 :: rest => takeLoop b s next rest
  | .loop sp _ _ x s' :: rest => match canX base sp s rest with
    | .ok s1 rest' tr => .ok (x, s') rest' (.loop sp b s1 x s' :: tr)
    | .need f => .need f
    | .bad k => .bad k
  | f :: rest => next (f :: rest)

def topStep (go : XRun) (rd : Option Nat) (c : Code) (s : ASt) : M (AExit × ASt) :=
  match c with
  | .skip | .label _ => M.pure (.normal, s)
  | .ret => M.pure (.ret, s)
  | .exit id => M.pure (.exit id, s)
  | .seq x y => do
    let r ← go rd x s
    match r with
    | (.normal, s') => go rd y s'
    | r => M.pure r
  | .cond q x y => match evalO s.tmps q with
    | some (.bool b) => do
      let t ← askB b
      match t with
      | true => go rd x s
      | false => go rd y s
    | _ => M.fail 67
  | .block id b => do
    let r ← go rd b s
    M.pure (leftBlock id r.1, r.2)
  | .scope b => go rd b s
  | .loop b => takeLoop base b s (do
    let r ← go rd b s
    match r with
    | (.normal, s') => go rd (.loop b) s'
    | r => M.pure r)
  | .rangeFunc g ps assign body => rangeFuncX E (xE E n) rd g ps assign body s
  | .region _ ops draw => do
    let s' ← regionX E (xE E n) ops draw s
    M.pure (.normal, s')
  | _ => M.fail 68

def xTop (m : Nat) : XRun := Nat.rec (motive := fun _ => XRun) (fun _ _ _ => M.fail 69) (fun _ go => topStep E base n go) m

/-- One way through a piece of code, its end named anew. -/
def pathX (m : Nat) (sp : Can) (rd : Option Nat) (c : Code) (s : ASt) : M (AExit × ASt) := do
  let r ← xTop E base n m rd c s
  let s1 ← canX base sp r.2
  M.pure (r.1, s1)
end

section
variable {E : Env} {base n : Nat} {rd : Option Nat} {h0 : AHeap}

/-- What a loop's fact says. -/
def LoopD (E : Env) (rd : Option Nat) (h0 : AHeap) : Code → ASt → AExit → ASt → Prop := fun b s x s' => Den E rd h0 (.loop b) s x s'

/-- Going through a loop once more. -/
theorem Den.loopNext {b : Code} {s s1 s' : ASt} {x : AExit} (d : ∃ m, DenL E rd h0 m b s x s') : Den E rd h0 (.loop b) s x s' := let ⟨_, h⟩ := d; DenL.loop h

/-- What the run at the top says: of a loop, in rounds. -/
def Den' (E : Env) (rd : Option Nat) (h0 : AHeap) (c : Code) (s : ASt) (x : AExit) (s' : ASt) : Prop :=
  Den E rd h0 c s x s' ∧ ∀ b, c = .loop b → ∃ m, DenL E rd h0 m b s x s'

def LoopR (E : Env) (rd : Option Nat) (h0 : AHeap) : Code → ASt → AExit → ASt → Prop := fun b s x s' => ∃ m, DenL E rd h0 m b s x s'

theorem DenL.pre {b : Code} {s s1 s' : ASt} {x : AExit} {m : Nat} (h : Le h0 s s1) (d : DenL E rd h0 m b s1 x s') : DenL E rd h0 m b s x s' :=
  fun ρ0 w0 rc N a w hrd ht R g hc hsz Q hQ => d ρ0 w0 rc N a w hrd ht R (h ρ0 w0 a w ht g) hc hsz Q hQ
theorem DenL.post {b : Code} {s s1 s' : ASt} {x : AExit} {m : Nat} (d : DenL E rd h0 m b s x s1) (h : Le h0 s1 s') : DenL E rd h0 m b s x s' :=
  fun ρ0 w0 rc N a w hrd ht R g hc hsz Q hQ => d ρ0 w0 rc N a w hrd ht R g hc hsz Q (fun a' w' g' hs => hQ a' w' (h ρ0 w0 a' w' ht g') hs)

/-- A loop whose states are numbered, in rounds. -/
theorem DenL.of {b : Code} {s' : ASt} {x : AExit} {st : Nat → ASt} (m : Nat) (hn : ∀ k, k < m → Den E rd h0 b (st k) .normal (st (k + 1))) (he : Den E rd h0 b (st m) x s') (hx : x ≠ .normal) : ∀ k, k ≤ m → LoopR E rd h0 b (st k) x s' := by
  have key : ∀ d k, k + d = m → DenL E rd h0 (d + 1) b (st k) x s' := by
    intro d
    induction d with
    | zero =>
      intro k hk
      obtain rfl : k = m := by omega
      exact .out he hx
    | succ d ih =>
      intro k hk
      exact .next (hn k (by omega)) (ih (k + 1) (by omega))
  intro k hk
  exact ⟨_, key (m - k) k (by omega)⟩
theorem LoopR.next {b : Code} {s s1 s' : ASt} {x : AExit} (d : Den E rd h0 b s .normal s1) (l : LoopR E rd h0 b s1 x s') : LoopR E rd h0 b s x s' := let ⟨m, h⟩ := l; ⟨m + 1, .next d h⟩
theorem LoopR.out {b : Code} {s s' : ASt} {x : AExit} (d : Den E rd h0 b s x s') (hx : x ≠ .normal) : LoopR E rd h0 b s x s' := ⟨1, .out d hx⟩
theorem LoopR.pre {b : Code} {s s1 s' : ASt} {x : AExit} (h : Le h0 s s1) (l : LoopR E rd h0 b s1 x s') : LoopR E rd h0 b s x s' := let ⟨m, d⟩ := l; ⟨m, d.pre h⟩
theorem LoopR.post {b : Code} {s s1 s' : ASt} {x : AExit} (l : LoopR E rd h0 b s x s1) (h : Le h0 s1 s') : LoopR E rd h0 b s x s' := let ⟨m, d⟩ := l; ⟨m, d.post h⟩

theorem got_takeLoop {b : Code} {s : ASt} {next : M (AExit × ASt)} {r : AExit × ASt} {D : Code → ASt → AExit → ASt → Prop} (g : Got D (takeLoop base b s next) r) :
    (∃ sp s1, Got D (canX base sp s) s1 ∧ D b s1 r.1 r.2) ∨ Got D next r := by
  obtain ⟨fs, rest, tr, h, hok⟩ := g
  induction fs with
  | nil => cases h
  | cons f fs ih =>
    unfold takeLoop at h
    split at h
    · rename_i heq; cases heq
    · rename_i heq; cases heq; exact ih h
    · rename_i heq
      cases heq
      split at h
      · rename_i s1 r1 t1 hc
        cases h
        exact .inl ⟨_, s1, ⟨_, _, _, hc, hok.2⟩, hok.1⟩
      · cases h
      · cases h
    · rename_i heq
      exact .inr ⟨_, _, _, h, hok⟩

theorem xTop_ok (K : E.Runs) (hb : h0.next = base) : ∀ (m : Nat) (c : Code) (s : ASt) (r : AExit × ASt), Got (LoopR E rd h0) (xTop E base n m rd c s) r → Den' E rd h0 c s r.1 r.2
  | 0, c, s, r, g => (got_fail g).elim
  | m + 1, c, s, r, g => by
    have ih := xTop_ok K hb m
    have g : Got (LoopR E rd h0) (topStep E base n (xTop E base n m) rd c s) r := g
    have hr := ex_sound K n
    have hu := Up.ex K.up n
    cases c with
    | skip =>
      have e := got_pure g
      subst e
      exact ⟨Den.of_run (ex_sound K 1) rfl, fun b h => by cases h⟩
    | label l =>
      have e := got_pure g
      subst e
      exact ⟨Den.of_run (ex_sound K 1) rfl, fun b h => by cases h⟩
    | ret =>
      have e := got_pure g
      subst e
      exact ⟨Den.of_run (ex_sound K 1) rfl, fun b h => by cases h⟩
    | exit id =>
      have e := got_pure g
      subst e
      exact ⟨Den.of_run (ex_sound K 1) rfl, fun b h => by cases h⟩
    | goto l => exact (got_fail g).elim
    | refuse y => exact (got_fail g).elim
    | seq c1 c2 =>
      refine ⟨?_, fun b h => by cases h⟩
      unfold topStep at g
      dsimp only at g
      obtain ⟨⟨x1, s1⟩, k1, g⟩ := got_bind g
      have d1 := (ih _ _ _ k1).1
      split at g
      · rename_i heq
        cases heq
        exact Den.seq d1 (ih _ _ _ g).1
      · rename_i hne
        have e := got_pure g
        subst e
        exact Den.seqExit d1 (fun h => hne _ (by rw [← h]))
    | cond q c1 c2 =>
      refine ⟨?_, fun b h => by cases h⟩
      unfold topStep at g
      dsimp only at g
      split at g
      · rename_i b hq
        obtain ⟨t, k1, g1⟩ := got_bind g
        clear g
        have e := got_askB k1
        subst e
        cases t with
        | true => exact Den.cond hq (ih _ _ _ g1).1
        | false => exact Den.cond hq (ih _ _ _ g1).1
      · exact (got_fail g).elim
    | block id b =>
      refine ⟨?_, fun b h => by cases h⟩
      unfold topStep at g
      dsimp only at g
      obtain ⟨⟨x1, s1⟩, k1, g⟩ := got_bind g
      have e := got_pure g
      subst e
      exact Den.block (ih _ _ _ k1).1
    | scope b =>
      refine ⟨?_, fun b h => by cases h⟩
      exact Den.scope (ih _ _ _ g).1
    | loop b =>
      have key : LoopR E rd h0 b s r.1 r.2 := by
        unfold topStep at g
        dsimp only at g
        rcases got_takeLoop g with ⟨sp, s1, k1, d⟩ | g
        · exact LoopR.pre (canX_sound k1 hb) d
        · obtain ⟨⟨x1, s1⟩, k1, g⟩ := got_bind g
          have d1 := (ih _ _ _ k1).1
          split at g
          · rename_i heq
            cases heq
            exact LoopR.next d1 ((ih _ _ _ g).2 b rfl)
          · rename_i hne
            have e := got_pure g
            subst e
            exact LoopR.out d1 (fun h => hne _ (by rw [← h]))
      refine ⟨let ⟨_, d⟩ := key; d.loop, fun b' h => ?_⟩
      cases h
      exact key
    | rangeFunc f p as b =>
      refine ⟨?_, fun b h => by cases h⟩
      have g := rangeFuncX_ok (xE_ok n) g
      exact Den.of_run (ex_sound K (n + 1)) g
    | region id ops draw =>
      refine ⟨?_, fun b h => by cases h⟩
      unfold topStep at g
      dsimp only at g
      obtain ⟨s1, k1, g⟩ := got_bind g
      have e := got_pure g
      subst e
      exact Den.region hr K hu (regionX_ok (xE_ok n) k1)

/-- What a way through a piece of code shows. -/
theorem path_ok (K : E.Runs) (hb : h0.next = base) {m : Nat} {sp : Can} {c : Code} {s s' : ASt} {x : AExit} {fs : List Fact} (e : pathX E base n m sp rd c s fs = .ok (x, s') [] (strip fs)) (hok : AllOk (LoopR E rd h0) fs) : Den E rd h0 c s x s' := by
  have g : Got (LoopR E rd h0) (pathX E base n m sp rd c s) (x, s') := ⟨fs, [], strip fs, e, hok.strip⟩
  unfold pathX at g
  obtain ⟨r, k1, g⟩ := got_bind g
  obtain ⟨s1, k2, g⟩ := got_bind g
  have e := got_pure g
  cases e
  exact Den.post (xTop_ok K hb _ _ _ _ k1).1 (canX_sound k2 hb)
theorem top_ok (K : E.Runs) (hb : h0.next = base) {m : Nat} {c : Code} {s s' : ASt} {x : AExit} {fs : List Fact} (e : xTop E base n m rd c s fs = .ok (x, s') [] (strip fs)) (hok : AllOk (LoopR E rd h0) fs) : Den E rd h0 c s x s' :=
  (xTop_ok K hb _ _ _ _ ⟨fs, [], strip fs, e, hok.strip⟩).1

/-- From a function's body to its call. -/
theorem call_of_den (K : E.Runs) {f : FuncId} {fn : Func} {c : Code} (hfn : E.fn.get f = some fn) (hbody : fn.body = some c) {args : List Value} {h : AHeap} {x : AExit} {s' : ASt} {hc : AHeap} {v : Value}
    (d : Den E none { h with low := h.next } c { tmps := loadArgs args 0 .nil, heap := { h with low := h.next }, marks := [] } x s') (hx : ∀ i, x ≠ .exit i) (hcl : closeA s'.marks s'.heap = some hc) (hres : resA E fn { s' with heap := hc } = some v)
    {ρ : Ren} {w : World} {args' : List Value} (ht : Tight ρ h w) (R : Rel ρ h w) (hL : LR ρ args args') :
    CallOk E f args' w fun v' w' => ∃ ρ', VR ρ' v v' ∧ Adv ρ ρ' { h with low := h.next } hc w w' := by
  obtain ⟨hcode, hname⟩ := K.body f fn c hfn hbody
  have hP := K.fn f fn hfn
  refine .inl ⟨?_, ?_⟩
  · unfold callFunc
    have hn : (fn.name == "runtime.NumGoroutine") = false := by simpa using hname
    simp only [Sem.run_bind, program, Sem.run, Result.andThen_ok, hP, hn, hbody, Bool.false_eq_true, if_false, Option.isNone_some]
    rfl
  · refine callsIn_of_wp_marks hP hbody trivial ?_
    refine d ρ w none fn.ntmps _ w trivial (ht.low _) (R.low _) ?_ hcode (by simp; omega) _ ?_
    · exact ⟨ρ, .refl (R.low _), (args_TR hL _).1, rfl⟩
    intro a' w' ⟨ρ', A, hT', hdf⟩ hsz
    have fin : LeavesInM Fence.wide 0 E.P fn a'.tmps (fun x w' => ∃ v', x = .returned v' ∧ ∃ ρ', VR ρ' v v' ∧ Adv ρ ρ' { h with low := h.next } hc w w') a'.defers .returning w' := by
      refine close_sound s'.marks hdf hcl A.rel (fun w2 B => ?_)
      have A2 := A.trans B
      obtain ⟨v', h1, h2⟩ := res_sound (s := { s' with heap := hc }) K.toOk A2.rel rfl hT' hres
      exact ⟨v', h1, v', rfl, ρ', h2, A2⟩
    cases x with
    | exit i => exact absurd rfl (hx i)
    | normal => exact fin
    | ret => exact fin
end
end Go.Proofs.YtlkhpgocbojdgaaGreatDoor.Ai
/-
  FACTS WITH THEIR PROOFS, and the small laws by which most of them are proved.
-/
namespace Go.Proofs.YtlkhpgocbojdgaaGreatDoor.Ai
open Go
set_option linter.unusedSimpArgs false
set_option linter.unusedVariables false

/-- A fact and its proof. -/
structure PF (D : Code → ASt → AExit → ASt → Prop) where
  f : Fact
  ok : f.ok D

section
variable {D : Code → ASt → AExit → ASt → Prop}
def PF.go (n : Nat) : PF D := ⟨.go n, trivial⟩
def PF.b {a r : Bool} (h : a = r) : PF D := ⟨.b a r, h⟩
def PF.n {a r : Nat} (h : a = r) : PF D := ⟨.n a r, h⟩
def PF.v {a r : Value} (h : a = r) : PF D := ⟨.v a r, h⟩
def PF.l {a r : List Value} (h : a = r) : PF D := ⟨.l a r, h⟩
def PF.ol {a : Option (List Value)} {r : List Value} (h : a = some r) : PF D := ⟨.ol a r, h⟩
def PF.ov {a : Option Value} {r : Value} (h : a = some r) : PF D := ⟨.ov a r, h⟩
def PF.on {a : Option Nat} {r : Nat} (h : a = some r) : PF D := ⟨.on a r, h⟩
def PF.om {a : Option (List MapEntry × Nat)} {r : List MapEntry × Nat} (h : a = some r) : PF D := ⟨.om a r, h⟩
def PF.oc {a : Option (Value × AHeap)} {r : Value × AHeap} (h : a = some r) : PF D := ⟨.oc a r, h⟩
def PF.loop (sp : Can) {c : Code} {s : ASt} {x : AExit} {s' : ASt} (h : D c s x s') : PF D := ⟨.loop sp c s x s', h⟩
def facts : List (PF D) → List Fact
  | [] => []
  | p :: l => p.f :: facts l
theorem facts_ok : ∀ (l : List (PF D)), AllOk D (facts l)
  | [] => trivial
  | p :: l => ⟨p.ok, facts_ok l⟩
end

section
variable {E : Env} {base : Nat} {rd : Option Nat} {h0 : AHeap}
theorem path_pf (K : E.Runs) (hb : h0.next = base) (sp : Can) {c : Code} {s s' : ASt} {x : AExit} (l : List (PF (LoopR E rd h0))) (e : pathX E base 60 60 sp rd c s (facts l) = .ok (x, s') [] (strip (facts l))) : Den E rd h0 c s x s' :=
  path_ok K hb e (facts_ok l)
theorem top_pf (K : E.Runs) (hb : h0.next = base) {c : Code} {s s' : ASt} {x : AExit} (l : List (PF (LoopR E rd h0))) (e : xTop E base 60 60 rd c s (facts l) = .ok (x, s') [] (strip (facts l))) : Den E rd h0 c s x s' :=
  top_ok K hb e (facts_ok l)
end

namespace Fa
variable {E : Env}
theorem wrap64 {n : Int} (h1 : -9223372036854775808 ≤ n) (h2 : n ≤ 9223372036854775807) : wrapF .i64 n = n := by
  unfold wrapF
  have : inI64 n = true := by
    unfold inI64
    split
    · rename_i m
      rw [Nat.blt_eq]
      have : (Int.ofNat m) = (m : Int) := rfl
      omega
    · rename_i m
      rw [Nat.blt_eq]
      have : Int.negSucc m = -((m : Int) + 1) := Int.negSucc_eq m
      omega
  simp only [this]
/-- What two integers give, by whatever program. -/
def intA0 (op : BinOp) (k : IntKind) (a b : Int) : Option Value :=
  match op with
  | .add => some (.int k (wrapF k (a + b)))
  | .sub => some (.int k (wrapF k (a - b)))
  | .mul => some (.int k (wrapF k (a * b)))
  | .eql => some (.bool (decide (a = b)))
  | .neq => some (.bool (!decide (a = b)))
  | .lss => some (.bool (decide (a < b)))
  | .leq => some (.bool (decide (a ≤ b)))
  | .gtr => some (.bool (decide (b < a)))
  | .geq => some (.bool (decide (b ≤ a)))
  | .rem => if b = 0 then none else some (.int k (a.tmod b))
  | .quo => if b = 0 then none else some (.int k (k.wrap (a.tdiv b)))
  | .xor => some (.int k (k.wrap (BitVec.ofInt k.bits a ^^^ BitVec.ofInt k.bits b).toNat))
  | .and => some (.int k (k.wrap (BitVec.ofInt k.bits a &&& BitVec.ofInt k.bits b).toNat))
  | _ => none
theorem iadd (a b : Int) (h1 : -9223372036854775808 ≤ a + b) (h2 : a + b ≤ 9223372036854775807) : intA0 .add .i64 a b = some (.int .i64 (a + b)) := by simp only [intA0, wrap64 h1 h2]
theorem isub (a b : Int) (h1 : -9223372036854775808 ≤ a - b) (h2 : a - b ≤ 9223372036854775807) : intA0 .sub .i64 a b = some (.int .i64 (a - b)) := by simp only [intA0, wrap64 h1 h2]
theorem imul (a b : Int) (h1 : -9223372036854775808 ≤ a * b) (h2 : a * b ≤ 9223372036854775807) : intA0 .mul .i64 a b = some (.int .i64 (a * b)) := by simp only [intA0, wrap64 h1 h2]
theorem iaddr (a b r : Int) (h : a + b = r) (h1 : -9223372036854775808 ≤ r) (h2 : r ≤ 9223372036854775807) : intA0 .add .i64 a b = some (.int .i64 r) := by subst h; exact iadd a b h1 h2
theorem isubr (a b r : Int) (h : a - b = r) (h1 : -9223372036854775808 ≤ r) (h2 : r ≤ 9223372036854775807) : intA0 .sub .i64 a b = some (.int .i64 r) := by subst h; exact isub a b h1 h2
theorem ilt1 (k : IntKind) (a b : Int) (h : a < b) : intA0 .lss k a b = some (.bool true) := by simp [intA0, h]
theorem ilt0 (k : IntKind) (a b : Int) (h : b ≤ a) : intA0 .lss k a b = some (.bool false) := by simp [intA0]; omega
theorem ile1 (k : IntKind) (a b : Int) (h : a ≤ b) : intA0 .leq k a b = some (.bool true) := by simp [intA0, h]
theorem ile0 (k : IntKind) (a b : Int) (h : b < a) : intA0 .leq k a b = some (.bool false) := by simp [intA0]; omega
theorem igt1 (k : IntKind) (a b : Int) (h : b < a) : intA0 .gtr k a b = some (.bool true) := by simp [intA0, h]
theorem igt0 (k : IntKind) (a b : Int) (h : a ≤ b) : intA0 .gtr k a b = some (.bool false) := by simp [intA0]; omega
theorem ige1 (k : IntKind) (a b : Int) (h : b ≤ a) : intA0 .geq k a b = some (.bool true) := by simp [intA0, h]
theorem ige0 (k : IntKind) (a b : Int) (h : a < b) : intA0 .geq k a b = some (.bool false) := by simp [intA0]; omega
theorem ieq1 (k : IntKind) (a b : Int) (h : a = b) : intA0 .eql k a b = some (.bool true) := by simp [intA0, h]
theorem ieq0 (k : IntKind) (a b : Int) (h : ¬ a = b) : intA0 .eql k a b = some (.bool false) := by simp [intA0, h]
theorem ine1 (k : IntKind) (a b : Int) (h : ¬ a = b) : intA0 .neq k a b = some (.bool true) := by simp [intA0, h]
theorem ine0 (k : IntKind) (a b : Int) (h : a = b) : intA0 .neq k a b = some (.bool false) := by simp [intA0, h]
theorem iltb (k : IntKind) (a b : Int) (p : Bool) (h : decide (a < b) = p) : intA0 .lss k a b = some (.bool p) := by simp [intA0, h]
theorem ineb (k : IntKind) (a b : Int) (p : Bool) (h : (!decide (a = b)) = p) : intA0 .neq k a b = some (.bool p) := by simp only [intA0, h]
theorem ieqb (k : IntKind) (a b : Int) (p : Bool) (h : decide (a = b) = p) : intA0 .eql k a b = some (.bool p) := by simp only [intA0, h]
/-- x ^ y, of which the last bit matters. -/
def xorZ (x y : Int) : Int := IntKind.i64.wrap (BitVec.ofInt 64 x ^^^ BitVec.ofInt 64 y).toNat
theorem ixor (x y : Int) : intA0 .xor .i64 x y = some (.int .i64 (xorZ x y)) := rfl
theorem xor_par (a b : Nat) : (a ^^^ b) % 2 = (a + b) % 2 := by
  have h := Nat.xor_mod_two_pow (a := a) (b := b) (n := 1)
  rw [show (2 : Nat) ^ 1 = 2 from rfl] at h
  rw [h]
  rcases Nat.mod_two_eq_zero_or_one a with h1 | h1 <;> rcases Nat.mod_two_eq_zero_or_one b with h2 | h2 <;> rw [h1, h2] <;> simp <;> omega
def andZ (x y : Int) : Int := IntKind.i64.wrap (BitVec.ofInt 64 x &&& BitVec.ofInt 64 y).toNat
theorem iand (x y : Int) : intA0 .and .i64 x y = some (.int .i64 (andZ x y)) := rfl
theorem toNat_par (z : Int) : (z % ((2 ^ 64 : Nat) : Int)).toNat % 2 = (z % 2).toNat := by omega
theorem wrap_par (n : Nat) : (IntKind.i64.wrap (n : Int)) % 2 = (n : Int) % 2 := by rw [IntKind.wrap_i64]; omega
theorem wrap_bit (n : Int) (h0 : 0 ≤ n) (h1 : n < 2) : IntKind.i64.wrap n = n := by rw [IntKind.wrap_i64]; omega
theorem and_xor (x y : Int) : andZ (xorZ x y) 1 = (x + y) % 2 := by
  unfold andZ
  rw [BitVec.toNat_and, BitVec.toNat_ofInt, BitVec.toNat_ofInt, show ((1 : Int) % ((2 ^ 64 : Nat) : Int)).toNat = 1 from by decide, Nat.and_one_is_mod, toNat_par]
  have e : xorZ x y % 2 = (x + y) % 2 := by
    unfold xorZ
    rw [wrap_par, BitVec.toNat_xor, BitVec.toNat_ofInt, BitVec.toNat_ofInt]
    have h2 := xor_par (x % ((2 ^ 64 : Nat) : Int)).toNat (y % ((2 ^ 64 : Nat) : Int)).toNat
    have h3 := toNat_par x
    have h4 := toNat_par y
    generalize (x % ((2 ^ 64 : Nat) : Int)).toNat = a at *
    generalize (y % ((2 ^ 64 : Nat) : Int)).toNat = b at *
    generalize a ^^^ b = c at *
    omega
  rw [e, wrap_bit _ (by omega) (by omega)]
  omega
theorem iand1 (x y : Int) : intA0 .and .i64 (xorZ x y) 1 = some (.int .i64 ((x + y) % 2)) := by rw [iand, and_xor]
theorem irem (k : IntKind) (a b : Int) (h : ¬ b = 0) : intA0 .rem k a b = some (.int k (a.tmod b)) := by simp [intA0, h]
theorem irem2 (k : IntKind) (a b : Int) (h : ¬ b = 0) (h0 : 0 ≤ a) (h1 : 0 ≤ b) : intA0 .rem k a b = some (.int k (a % b)) := by rw [irem k a b h, Int.tmod_eq_emod_of_nonneg h0]
theorem iremE {E : Env} (k : IntKind) (a b : Int) (h : ¬ b = 0) : intA E .rem k a b = some (.int k (a.tmod b)) := by
  have e : binOp .rem 0 (.int k a) (.int k b) = Sem.pure (.int k (a.tmod b)) := by simp [binOp, Op.intDiv, h]; rfl
  show okFlat (runP E.P (binOp .rem 0 (.int k a) (.int k b))) = _
  rw [e]
  rfl
/-- max, min, a sign turned: as they come out. -/
theorem imax1 (a b : Int) (h : b ≤ a) : some (Value.int .i64 (if b > a then b else a)) = some (.int .i64 a) := by rw [if_neg (by omega)]
theorem imax2 (a b : Int) (h : a ≤ b) : some (Value.int .i64 (if b > a then b else a)) = some (.int .i64 b) := by
  by_cases e : b > a
  · rw [if_pos e]
  · rw [if_neg e]; congr 2; omega
theorem imin1 (a b : Int) (h : a ≤ b) : some (Value.int .i64 (if b < a then b else a)) = some (.int .i64 a) := by rw [if_neg (by omega)]
theorem imin2 (a b : Int) (h : b ≤ a) : some (Value.int .i64 (if b < a then b else a)) = some (.int .i64 b) := by
  by_cases e : b < a
  · rw [if_pos e]
  · rw [if_neg e]; congr 2; omega
theorem ineg (n : Int) (h1 : -9223372036854775807 ≤ n) (h2 : n ≤ 9223372036854775807) : some (Value.int .i64 (IntKind.i64.wrap (0 - n))) = some (.int .i64 (-n)) := by
  rw [IntKind.wrap_i64]
  have : (0 - n + 9223372036854775808) % 18446744073709551616 - 9223372036854775808 = -n := by omega
  rw [this]
theorem nat (k : IntKind) (n : Nat) : natV (.int k (n : Int)) = some n := rfl
theorem natOf (k : IntKind) (i : Int) (n : Nat) (h : i = n) : natV (.int k i) = some n := by subst h; rfl
theorem blt1 (a b : Nat) (h : a < b) : Nat.blt a b = true := by simpa [Nat.blt_eq] using h
theorem blt0 (a b : Nat) (h : b ≤ a) : Nat.blt a b = false := by cases e : Nat.blt a b with | false => rfl | true => exact absurd (by simpa [Nat.blt_eq] using e) (Nat.not_lt.2 h)
theorem ble1 (a b : Nat) (h : a ≤ b) : Nat.ble a b = true := Nat.ble_eq_true_of_le h
theorem ble0 (a b : Nat) (h : b < a) : Nat.ble a b = false := by cases e : Nat.ble a b with | false => rfl | true => exact absurd (Nat.le_of_ble_eq_true e) (Nat.not_le.2 h)
theorem beq1 (a b : Nat) (h : a = b) : Nat.beq a b = true := by subst h; exact Nat.beq_refl _
theorem beq0 (a b : Nat) (h : ¬ a = b) : Nat.beq a b = false := by cases e : Nat.beq a b with | false => rfl | true => exact absurd (Nat.eq_of_beq_eq_true e) h
theorem nott {a : Bool} (h : a = true) : (!a) = false := by subst h; rfl
theorem notf {a : Bool} (h : a = false) : (!a) = true := by subst h; rfl
theorem and1 {a b : Bool} (h : a = true) (k : b = true) : (a && b) = true := by subst h; exact k
theorem and01 {a b : Bool} (h : a = false) : (a && b) = false := by subst h; rfl
end Fa
theorem Fa.eqI_refl (a : Int) : eqI a a = true := by cases a <;> exact Nat.beq_refl _
end Go.Proofs.YtlkhpgocbojdgaaGreatDoor.Ai

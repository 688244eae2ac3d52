/-
  THE EVALUATOR's TABLES FIT THE PROGRAM THEY ARE BUILT OF.
-/
import Derived.Test.YtlkhpgocbojdgaaGreatDoorAiRun
import Derived.Laws.Externs
namespace Go.Proofs.YtlkhpgocbojdgaaGreatDoor.Ai
open Go
set_option linter.unusedSimpArgs false
set_option linter.unusedVariables false

theorem buildT_get {α β : Type} (f : Nat → β → Option α) : ∀ (l : List β) (i : Nat) (t : T α) (k : Nat) (y : α), (buildT f l i t).get k = some y → (∃ x, i ≤ k ∧ l[k - i]? = some x ∧ f k x = some y) ∨ t.get k = some y
  | [], i, t, k, y, h => .inr h
  | x :: l, i, t, k, y, h => by
    unfold buildT at h
    rcases buildT_get f l (i + 1) _ k y h with ⟨z, h1, h2, h3⟩ | h1
    · exact .inl ⟨z, by omega, by rw [show k - i = (k - (i + 1)) + 1 by omega, List.getElem?_cons_succ]; exact h2, h3⟩
    · split at h1
      · rename_i y' hy
        rw [T.get_put] at h1
        split at h1
        · rename_i hk
          cases h1
          exact .inl ⟨x, by omega, by simp [hk], by rw [hk]; exact hy⟩
        · exact .inr h1
      · exact .inr h1

theorem ok_of (P : Program) (intr : T (List Value → AHeap → Option (Value × AHeap))) (hm : P.follows .mixedOrders = true) : Env.Ok { P := P, fn := fnT P, ty := tyT P, intr := intr } := by
  refine ⟨?_, ?_, hm⟩
  · intro f fn h
    rcases buildT_get _ _ _ _ _ _ h with ⟨x, _, h2, h3⟩ | h2
    · have : x = fn := by
        unfold fnI at h3
        split at h3
        · split at h3
          · cases h3; rfl
          · cases h3
        · cases h3
      subst this
      simpa using h2
    · cases h2
  · intro t i h
    rcases buildT_get _ _ _ _ _ _ h with ⟨x, _, h2, h3⟩ | h2
    · rw [Nat.sub_zero, Array.getElem?_toList] at h2
      have hlt : t < P.types.size := (Array.getElem?_eq_some_iff.1 h2).1
      have hinfo : P.info? t = some x := by unfold Tables.info?; rw [if_pos hlt]; exact h2
      unfold tyI at h3
      split at h3
      · rename_i d z hd hz
        split at h3
        · rename_i hb
          simp only [Bool.and_eq_true] at hb
          cases h3
          refine ⟨hd, hb.1, ?_, x, hinfo, hz, rfl, rfl⟩
          rw [← Array.length_toList]
          exact Nat.eq_of_beq_eq_true hb.2
        · cases h3
      · cases h3
    · cases h2

theorem body_of (P : Program) {f : FuncId} {fn : Func} {c : Code} (h : (fnT P).get f = some fn) (hc : fn.body = some c) : codeOk fn.ntmps c = true ∧ fn.name ≠ "runtime.NumGoroutine" := by
  rcases buildT_get _ _ _ _ _ _ h with ⟨x, _, _, h3⟩ | h2
  · unfold fnI at h3
    split at h3
    · rename_i c' hb
      split at h3
      · rename_i hh
        cases h3
        rw [hb] at hc
        cases hc
        simpa using hh
      · cases h3
    · cases h3
  · cases h2

/-- No contract is plugged in. -/
theorem runs_bare (P : Program) (hm : P.follows .mixedOrders = true) : Env.Runs { P := P, fn := fnT P, ty := tyT P, intr := .nil } :=
  { toOk := ok_of P _ hm, body := fun _ _ _ => body_of P, up := fun _ _ h => (by cases h), intr := fun _ _ h => (by cases h) }

/-- A call that the evaluator answers without an address. -/
theorem calls_of {E : Env} (K : E.Runs) {n : Nat} {f : FuncId} {args : List Value} {v : Value} {h' : AHeap} (ha : args.all flat = true) (e : callA E (ex E n) f args ⟨.nil, 0, 0⟩ = some (v, h')) (hv : flat v = true) (w : World) (hg : Gl (fun _ => none) w) :
    CallOk E f args w fun v' w' => v' = v ∧ w.heap.size ≤ w'.heap.size ∧ (∀ c, c < w.heap.size → w'.heap[c]? = w.heap[c]?) ∧ w'.os = w.os ∧ w'.tape = w.tape ∧ w'.output = w.output := by
  have R : Rel (fun _ => none) ⟨.nil, 0, 0⟩ w := ⟨fun b o h => by (cases h), fun b b' c N N' _ _ h => by (cases h), fun b c N h => by (cases h)⟩
  have hL : LR (fun _ => none) args args := by
    refine ⟨rfl, fun i a b ha' hb' => ?_⟩
    rw [ha'] at hb'
    cases hb'
    exact flat_VR _ (List.all_eq_true.1 ha _ (List.mem_of_getElem? ha'))
  have := callA_sound K (ex_sound K n) (ρ := fun _ => none) (w := w) ⟨fun b _ => rfl, hg⟩ R hL e
  have conv : ∀ v' w', (∃ ρ', VR ρ' v v' ∧ Adv (fun _ => none) ρ' ⟨.nil, 0, 0⟩ h' w w') → v' = v ∧ w.heap.size ≤ w'.heap.size ∧ (∀ c, c < w.heap.size → w'.heap[c]? = w.heap[c]?) ∧ w'.os = w.os ∧ w'.tape = w.tape ∧ w'.output = w.output := by
    rintro v' w' ⟨ρ', h1, A⟩
    exact ⟨flat_eq hv h1, A.size, fun c hc => A.frame c hc (fun b N h1 h2 => by cases h2), A.os, A.tape, A.output⟩
  rcases this with ⟨h1, h2⟩ | ⟨v', w', h1, h2⟩
  · refine .inl ⟨h1, h2.mono ?_⟩
    rintro x w' ⟨v', rfl, h3⟩
    exact ⟨v', rfl, conv v' w' h3⟩
  · exact .inr ⟨v', w', h1, conv v' w' h2⟩
end Go.Proofs.YtlkhpgocbojdgaaGreatDoor.Ai
/-
  THE TABLES AS THEY ARE PRINTED: what is asked of each leaf, and what follows for the evaluator.
-/
namespace Go.Proofs.YtlkhpgocbojdgaaGreatDoor.Ai
open Go
set_option linter.unusedSimpArgs false
set_option linter.unusedVariables false

/-- Something of each thing in a map. -/
def T.All {α : Type} (p : Nat → α → Prop) : T α → (Nat → Nat) → Prop
  | .nil, _ => True
  | .node v l r, key => (∀ x, v = some x → p (key 0) x) ∧ T.All p l (fun j => key (2 * j + 1)) ∧ T.All p r (fun j => key (2 * j + 2))
theorem all_some {α : Type} {p : α → Prop} {x : α} (h : p x) : ∀ y, some x = some y → p y := fun y e => by cases e; exact h
theorem T.all_get {α : Type} {p : Nat → α → Prop} : ∀ (t : T α) (key : Nat → Nat), T.All p t key → ∀ k x, t.get k = some x → p (key k) x
  | .nil, _, _, k, x, e => by cases e
  | .node v l r, key, h, 0, x, e => h.1 x e
  | .node v l r, key, h, k + 1, x, e => by
    rw [T.get_succ] at e
    split at e
    · have := T.all_get l _ h.2.1 (k / 2) x e
      rwa [show 2 * (k / 2) + 1 = k + 1 by omega] at this
    · have := T.all_get r _ h.2.2 (k / 2) x e
      rwa [show 2 * (k / 2) + 2 = k + 1 by omega] at this

def tyOk (t : TypeInfo) : Bool := match t.zero with
  | some z => flat z && Nat.beq z.cells.toList.length t.size
  | none => false
def mkTy (u t : TypeInfo) : TyI := { desc := u.desc, zero := match t.zero with | some z => z | none => .nilIface, size := t.size, bytes := t.bytes }
def TyFact (P : Program) (k : Nat) (i : TyI) : Prop := P.underlying k = some i.desc ∧ Ai.flat i.zero = true ∧ i.zero.cells.size = i.size ∧ ∃ ti, P.info? k = some ti ∧ ti.zero = some i.zero ∧ ti.size = i.size ∧ ti.bytes = i.bytes
def FnFact (P : Program) (k : Nat) (f : Func) : Prop := P.funcs[k]? = some f ∧ fnI f = some f

theorem ty_fact {P : Program} {k : Nat} {u t : TypeInfo} (h : P.types[k]? = some t) (hu : P.underlying k = some u.desc) (ok : tyOk t = true) : TyFact P k (mkTy u t) := by
  have hlt : k < P.types.size := (Array.getElem?_eq_some_iff.1 h).1
  have hinfo : P.info? k = some t := by unfold Tables.info?; rw [if_pos hlt]; exact h
  unfold tyOk at ok
  split at ok
  · rename_i z hz
    simp only [Bool.and_eq_true] at ok
    refine ⟨hu, ?_, ?_, t, hinfo, ?_, rfl, rfl⟩
    · unfold mkTy; rw [hz]; exact ok.1
    · unfold mkTy; rw [hz]; dsimp only; rw [← Array.length_toList]; exact Nat.eq_of_beq_eq_true ok.2
    · unfold mkTy; rw [hz]
  · cases ok

theorem ok_tab {P : Program} {fn : T Func} {ty : T TyI} (intr : T (List Value → AHeap → Option (Value × AHeap))) (hf : T.All (FnFact P) fn (fun j => j)) (hy : T.All (TyFact P) ty (fun j => j)) (hm : P.follows .mixedOrders = true) :
    Env.Ok { P := P, fn := fn, ty := ty, intr := intr } :=
  ⟨fun f x h => (T.all_get _ _ hf f x h).1, fun t i h => T.all_get _ _ hy t i h, hm⟩

theorem body_tab {P : Program} {fn : T Func} (hf : T.All (FnFact P) fn (fun j => j)) {f : FuncId} {x : Func} {c : Code} (h : fn.get f = some x) (hc : x.body = some c) : codeOk x.ntmps c = true ∧ x.name ≠ "runtime.NumGoroutine" := by
  have h3 := (T.all_get _ _ hf f x h).2
  unfold fnI at h3
  split at h3
  · rename_i c' hb
    split at h3
    · rename_i hh
      rw [hb] at hc
      cases hc
      simpa using hh
    · cases h3
  · cases h3

theorem runs_tab {P : Program} {fn : T Func} {ty : T TyI} (hf : T.All (FnFact P) fn (fun j => j)) (hy : T.All (TyFact P) ty (fun j => j)) (hm : P.follows .mixedOrders = true) :
    Env.Runs { P := P, fn := fn, ty := ty, intr := .nil } :=
  { toOk := ok_tab _ hf hy hm, body := fun _ _ _ => body_tab hf, up := fun _ _ h => (by cases h), intr := fun _ _ h => (by cases h) }
end Go.Proofs.YtlkhpgocbojdgaaGreatDoor.Ai
/-
  A CALL EVALUATED IN A SMALL MEMORY OF ITS OWN is a contract in every memory.
-/
namespace Go.Proofs.YtlkhpgocbojdgaaGreatDoor.Ai
open Go
set_option linter.unusedSimpArgs false
set_option linter.unusedVariables false
variable {E : Env} {ρ : Ren} {h h' : AHeap} {w : World}

/-- What was done in another memory that stands to the same world, without touching what was there. -/
theorem Adv.other {ρ0 ρ' : Ren} {h0 h1 : AHeap} {w' : World} (R : Rel ρ h w) (A : Adv ρ0 ρ' h0 h1 w w') (hl : h0.next ≤ h1.low) : Adv ρ ρ h h w w' := by
  refine ⟨.refl _, fun _ _ _ e => .inl e, Nat.le_refl _, Nat.le_refl _, ⟨?_, R.inj, fun b c N e => Nat.lt_of_lt_of_le (R.lt b c N e) A.size⟩, A.os, A.tape, A.output, A.size, fun _ a b => by omega, ?_, fun _ _ _ => rfl⟩
  · intro b o hb c N hc
    obtain ⟨o', h1, h2⟩ := R.obj b o hb c N hc
    refine ⟨o', ?_, h2⟩
    rw [A.frame c (R.lt b c N hc) (fun b' N' h3 h4 => by omega)]
    exact h1
  · intro c hc _
    exact A.frame c hc (fun b' N' h3 h4 => by omega)

/-- And one new row that it has made is taken over. -/
theorem Adv.taken {ρ0 ρ' : Ren} {h0 h1 : AHeap} {w' : World} (ht : Tight ρ h w) (R : Rel ρ h w) (A : Adv ρ0 ρ' h0 h1 w w') (hl : h0.next ≤ h1.low) {b c N : Nat} (hb : ρ' b = some (c, N)) (hb0 : h0.next ≤ b) (t0 : Tight0 ρ0 h0)
    {cs : List Value} {el : TypeId} (hg : h1.get b = some (.cells cs el)) (hf : cs.all flatCell = true) : Adv ρ (upd ρ h.next (c, N)) h (h.alloc (.cells cs el)) w w' := by
  have hf0 : ρ h.next = none := ht.t _ (Nat.le_refl _)
  have hc : w.heap.size ≤ c := by
    rcases A.new b c N hb with e | ⟨_, _, e⟩
    · rw [t0 b hb0] at e; cases e
    · rcases e with e | ⟨b0, M, e1, e2, _⟩
      · exact e
      · omega
  have B := A.other R hl
  obtain ⟨o', ho, hor⟩ := A.rel.obj b _ hg c N hb
  refine ⟨Ext.upd hf0, ?_, by rw [AHeap.next_alloc]; omega, Nat.le_refl _, ⟨?_, ?_, ?_⟩, A.os, A.tape, A.output, A.size, ?_, fun d hd _ => B.frame d hd (fun b' N' h3 h4 => ?_), ?_⟩
  · intro x d M e
    rcases upd_cases e with ⟨e1, e2⟩ | ⟨_, e2⟩
    · cases e2
      subst e1
      exact .inr ⟨Nat.le_refl _, by rw [AHeap.next_alloc]; omega, .inl hc⟩
    · exact .inl e2
  · intro x o hx d M e
    rcases upd_cases e with ⟨e1, e2⟩ | ⟨e1, e2⟩
    · cases e2
      subst e1
      rw [AHeap.get_alloc, if_pos rfl] at hx
      cases hx
      refine ⟨o', ho, ?_⟩
      cases hor with
      | cells q1 q2 q3 =>
        refine .cells (fun i v hv => ?_) q2 q3
        obtain ⟨v', r1, r2⟩ := q1 i v hv
        have hfc : flatCell v = true := List.all_eq_true.1 hf v (List.mem_of_getElem? hv)
        rw [flatCell_eq hfc r2] at r1
        exact ⟨v, r1, flatCell_VR _ hfc⟩
    · rw [AHeap.get_alloc, if_neg e1] at hx
      obtain ⟨o2, q1, q2⟩ := B.rel.obj x o hx d M e2
      exact ⟨o2, q1, q2.mono (Ext.upd hf0)⟩
  · intro x y d M M' lx ly ex ey
    rcases upd_cases ex with ⟨e1, e2⟩ | ⟨e1, e2⟩ <;> rcases upd_cases ey with ⟨g1, g2⟩ | ⟨g1, g2⟩
    · rw [e1, g1]
    · cases e2
      have := R.lt y c M' g2
      omega
    · cases g2
      have := R.lt x c M e2
      omega
    · refine R.inj x y d M M' ?_ ?_ e2 g2
      · rcases lx with l | l
        · rw [AHeap.next_alloc] at l; exact .inl (by omega)
        · rw [AHeap.get_alloc, if_neg e1] at l; exact .inr l
      · rcases ly with l | l
        · rw [AHeap.next_alloc] at l; exact .inl (by omega)
        · rw [AHeap.get_alloc, if_neg g1] at l; exact .inr l
  · intro x d M e
    rcases upd_cases e with ⟨_, e2⟩ | ⟨_, e2⟩
    · cases e2
      exact A.rel.lt b c N hb
    · exact B.rel.lt x d M e2
  · intro x h1 h2
    exact ht.t x h1
  · rename_i hno
    exact hno b' N' h3 h4
  · intro x h1 h2
    rw [AHeap.get_alloc, if_neg (by omega)]

/-- A memory of one block. -/
noncomputable def tiny (cs : List Value) (el : TypeId) : AHeap := { m := T.put .nil 0 (AObj.cells cs el), next := 1, low := 1 }
theorem tiny_get (cs : List Value) (el : TypeId) (b : Nat) : (tiny cs el).get b = if b = 0 then some (.cells cs el) else none := by
  rw [AHeap.get_def]
  show (if b < 1 then (T.put .nil 0 (AObj.cells cs el)).get b else none) = _
  rw [T.get_put]
  by_cases hb : b = 0
  · subst hb; simp
  · rw [if_neg (by omega), if_neg hb]

/-- The small memory stands to the world as the block does. -/
theorem tiny_rel (R : Rel ρ h w) {b c N : Nat} (hb : ρ b = some (c, N)) {cs : List Value} {el : TypeId} (hg : h.get b = some (.cells cs el)) (hf : cs.all flatCell = true) :
    Rel (fun x => if x = 0 then some (c, N) else none) (tiny cs el) w := by
  obtain ⟨o', ho, hor⟩ := R.obj b _ hg c N hb
  refine ⟨?_, ?_, ?_⟩
  · intro x o hx d M e
    rw [tiny_get] at hx
    split at hx
    · rename_i hx0
      cases hx
      rw [if_pos hx0] at e
      cases e
      refine ⟨o', ho, ?_⟩
      cases hor with
      | cells q1 q2 q3 =>
        refine .cells (fun i v hv => ?_) q2 q3
        obtain ⟨v', r1, r2⟩ := q1 i v hv
        have hfc : flatCell v = true := List.all_eq_true.1 hf v (List.mem_of_getElem? hv)
        rw [flatCell_eq hfc r2] at r1
        exact ⟨v, r1, flatCell_VR _ hfc⟩
    · cases hx
  · intro x y d M M' _ _ ex ey
    by_cases hx : x = 0 <;> by_cases hy : y = 0
    · rw [hx, hy]
    · rw [if_neg hy] at ey; cases ey
    · rw [if_neg hx] at ex; cases ex
    · rw [if_neg hx] at ex; cases ex
  · intro x d M e
    split at e
    · cases e; exact R.lt b c N hb
    · cases e
theorem tiny_tight {x : Nat × Nat} {cs : List Value} {el : TypeId} : Tight0 (fun y => if y = 0 then some x else none) (tiny cs el) := fun b hb => by
  have : 1 ≤ b := hb
  show (if b = 0 then some x else none) = none
  rw [if_neg (by omega)]

theorem CallOk.mono {f : FuncId} {args : List Value} {Q Q' : Value → World → Prop} (a : CallOk E f args w Q) (hq : ∀ v w', Q v w' → Q' v w') : CallOk E f args w Q' := by
  rcases a with ⟨h1, h2⟩ | ⟨v, w', h1, h2⟩
  · refine .inl ⟨h1, h2.mono ?_⟩
    rintro x w' ⟨v, rfl, q⟩
    exact ⟨v, rfl, hq v w' q⟩
  · exact .inr ⟨v, w', h1, hq v w' h2⟩

/-- One argument, a slice of flat cells, evaluated in a memory of its own. -/
theorem local_one (K : E.Runs) {n : Nat} {f : FuncId} {cs : List Value} {el : TypeId} {len cap : Nat} {v : Value} {h1 : AHeap} (hcap : cap < SL) (hf : cs.all flatCell = true)
    (e : callA E (ex E n) f [.slice (some ⟨0, 0, none⟩) len cap] (tiny cs el) = some (v, h1)) {b : Nat} (ht : Tight ρ h w) (R : Rel ρ h w) (hg : h.get b = some (.cells cs el))
    {args' : List Value} (hL : LR ρ [.slice (some ⟨b, 0, none⟩) len cap] args') :
    ∃ ρ0 : Ren, Tight0 ρ0 (tiny cs el) ∧ CallOk E f args' w fun v' w' => ∃ ρ', VR ρ' v v' ∧ Adv ρ0 ρ' (tiny cs el) h1 w w' := by
  obtain ⟨x', rfl, hx⟩ := hL.one
  cases hx with
  | slice _ hρ =>
    rename_i c N
    refine ⟨_, tiny_tight, callA_sound K (ex_sound K n) ⟨tiny_tight, ht.gl.img (fun b' c' N' h => by split at h; cases h; exact ⟨_, _, hρ⟩; cases h)⟩ (tiny_rel R hρ hg hf) ((LR.nil _).cons (.slice hcap (by rw [if_pos rfl]))) e⟩
  | sliceUp g1 g2 _ _ _ => exact absurd hcap (Nat.not_lt.2 (up_ge _ _))
  | sliceUn => exact absurd hcap (by unfold SL UN; omega)
  | sliceG => exact absurd hcap (by unfold GC SL UN; omega)
  | sliceG0 => exact absurd hcap (by unfold GC SL UN; omega)

theorem local_flat (K : E.Runs) {n : Nat} {f : FuncId} {cs : List Value} {el : TypeId} {len cap : Nat} {v : Value} {h1 : AHeap} (hcap : cap < SL) (hf : cs.all flatCell = true)
    (e : callA E (ex E n) f [.slice (some ⟨0, 0, none⟩) len cap] (tiny cs el) = some (v, h1)) (hlow : 1 ≤ h1.low) (hv : flat v = true) {b : Nat} (ht : Tight ρ h w) (R : Rel ρ h w) (hg : h.get b = some (.cells cs el))
    {args' : List Value} (hL : LR ρ [.slice (some ⟨b, 0, none⟩) len cap] args') : CallOk E f args' w fun v' w' => ∃ ρ', VR ρ' v v' ∧ Adv ρ ρ' h h w w' := by
  obtain ⟨ρ0, t0, hc⟩ := local_one K hcap hf e ht R hg hL
  refine hc.mono ?_
  rintro v' w' ⟨ρ', h2, A⟩
  refine ⟨ρ, ?_, A.other R hlow⟩
  rw [flat_eq hv h2]
  exact flat_VR ρ hv

theorem tuple_two {ρ : Ren} {a b x : Value} (h : VR ρ (.tuple #[a, b]) x) : ∃ a' b', x = .tuple #[a', b'] ∧ VR ρ a a' ∧ VR ρ b b' := by
  generalize hv : (Value.tuple #[a, b]) = v at h
  cases h <;> cases hv
  rename_i ys h1 h2
  match ys, h1 with
  | [a', b'], _ => exact ⟨a', b', rfl, h2 0 _ _ rfl rfl, h2 1 _ _ rfl rfl⟩

/-- The result: a slice of flat cells, and something flat. -/
theorem local_row (K : E.Runs) {n : Nat} {f : FuncId} {cs cs2 : List Value} {el el2 : TypeId} {len cap id m cap2 : Nat} {u : Value} {h1 : AHeap} (hcap : cap < SL) (hf : cs.all flatCell = true)
    (e : callA E (ex E n) f [.slice (some ⟨0, 0, none⟩) len cap] (tiny cs el) = some (.tuple #[.slice (some ⟨id, 0, none⟩) (m + 1) cap2, u], h1)) (hlow : 1 ≤ h1.low) (hu : flat u = true) (hid : 1 ≤ id) (hg1 : h1.get id = some (.cells cs2 el2)) (hf2 : cs2.all flatCell = true)
    {b : Nat} (ht : Tight ρ h w) (R : Rel ρ h w) (hg : h.get b = some (.cells cs el))
    {args' : List Value} (hL : LR ρ [.slice (some ⟨b, 0, none⟩) len cap] args') :
    CallOk E f args' w fun v' w' => ∃ ρ', VR ρ' (.tuple #[.slice (some ⟨h.next, 0, none⟩) (m + 1) cap2, u]) v' ∧ Adv ρ ρ' h (h.alloc (.cells cs2 el2)) w w' := by
  obtain ⟨ρ0, t0, hc⟩ := local_one K hcap hf e ht R hg hL
  refine hc.mono ?_
  rintro v' w' ⟨ρ', h2, A⟩
  obtain ⟨s', u', rfl, h3, h4⟩ := tuple_two h2
  have hu' := flat_eq hu h4
  subst hu'
  have two : ∀ {ρ2 : Ren} {a a' : Value}, VR ρ2 a a' → VR ρ2 (.tuple #[a, u']) (.tuple #[a', u']) := fun ha => .tuple rfl (fun i x y hx hy => by
    match i with
    | 0 => simp at hx hy; subst hx; subst hy; exact ha
    | 1 => simp at hx hy; subst hx; subst hy; exact flat_VR _ hu
    | i + 2 => simp at hx)
  cases h3 with
  | slice g1 hρ => exact ⟨_, two (.slice g1 (upd_self _ _ _)), A.taken ht R hlow hρ hid t0 hg1 hf2⟩
  | sliceUp g1 g2 g3 g4 hρ => exact ⟨_, two (.sliceUp g1 g2 g3 g4 (upd_self _ _ _)), A.taken ht R hlow hρ hid t0 hg1 hf2⟩
  | sliceG g0 g1 g2 g3 g4 hρ => exact ⟨_, two (.sliceG g0 g1 g2 g3 g4 (upd_self _ _ _)), A.taken ht R hlow hρ hid t0 hg1 hf2⟩
end Go.Proofs.YtlkhpgocbojdgaaGreatDoor.Ai
/-
  FUNCTIONS WITHOUT A BODY as contracts of the evaluator: what they compute out of values without addresses.
-/
namespace Go.Proofs.YtlkhpgocbojdgaaGreatDoor.Ai
open Go
set_option linter.unusedSimpArgs false
set_option linter.unusedVariables false

def extA (P : Program) (e : Array Value → Sem Value) (args : List Value) (h : AHeap) : Option (Value × AHeap) :=
  match args.all flat with
  | true => match okFlat (runP P (e ⟨args⟩)) with
    | some v => some (v, h)
    | none => none
  | false => none

theorem extA_ok {E : Env} {f : FuncId} {fn : Func} {e : Array Value → Sem Value} (hf : E.P.funcs[f]? = some fn) (hname : (fn.name == "runtime.NumGoroutine") = false) (hb : fn.body.isNone = true) (hn : Extern.findNext fn = none) (he : Extern.find fn = some e) :
    ∀ (ρ : Ren) (h h' : AHeap) (w : World) args args' v, Tight ρ h w → Rel ρ h w → LR ρ args args' → extA E.P e args h = some (v, h') → CallOk E f args' w fun v' w' => ∃ ρ', VR ρ' v v' ∧ Adv ρ ρ' h h' w w' := by
  intro ρ h h' w args args' v ht R hL hx
  unfold extA at hx
  split at hx
  · rename_i hfl
    split at hx
    · rename_i u hu
      cases hx
      have := flats_eq hfl hL
      subst this
      obtain ⟨h1, h2⟩ := okFlat_some hu
      refine .inr ⟨v, w, ?_, ρ, flat_VR ρ h2, .refl R⟩
      rw [run_callFunc_extern hf hname hb hn he, runP_run E.P _ h1 w]
      rfl
    · cases hx
  · cases hx

theorem extA_up {P : Program} {e : Array Value → Sem Value} {args : List Value} {h h' : AHeap} {v : Value} (hx : extA P e args h = some (v, h')) : Up h h' := by
  unfold extA at hx
  split at hx
  · split at hx
    · cases hx; exact .refl _
    · cases hx
  · cases hx

/-- What hands its argument back. -/
def sameA (args : List Value) (h : AHeap) : Option (Value × AHeap) := match args with
  | [v] => some (v, h)
  | _ => none
theorem sameA_ok {E : Env} {f : FuncId} {fn : Func} (hf : E.P.funcs[f]? = some fn) (hname : (fn.name == "runtime.NumGoroutine") = false) (hb : fn.body.isNone = true) (hn : Extern.findNext fn = none) (he : Extern.find fn = some Extern.AbiNoEscape.same) :
    ∀ (ρ : Ren) (h h' : AHeap) (w : World) args args' v, Tight ρ h w → Rel ρ h w → LR ρ args args' → sameA args h = some (v, h') → CallOk E f args' w fun v' w' => ∃ ρ', VR ρ' v v' ∧ Adv ρ ρ' h h' w w' := by
  intro ρ h h' w args args' v ht R hL hx
  unfold sameA at hx
  split at hx
  · cases hx
    obtain ⟨x', rfl, r⟩ := hL.one
    refine .inr ⟨x', w, ?_, ρ, r, .refl R⟩
    rw [run_callFunc_extern hf hname hb hn he]
    rfl
  · cases hx
theorem sameA_up {args : List Value} {h h' : AHeap} {v : Value} (hx : sameA args h = some (v, h')) : Up h h' := by
  unfold sameA at hx
  split at hx
  · cases hx; exact .refl _
  · cases hx
end Go.Proofs.YtlkhpgocbojdgaaGreatDoor.Ai

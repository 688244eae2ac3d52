/-
  THE EVALUATOR's RUN OF A PIECE OF CODE IS THE MACHINE's.
-/
import Derived.Test.YtlkhpgocbojdgaaGreatDoorAiDraw
import Derived.Scope
namespace Go.Proofs.YtlkhpgocbojdgaaGreatDoor.Ai
open Go
set_option linter.unusedSimpArgs false
set_option linter.unusedVariables false
variable {E : Env}

theorem seq_sound (K : E.Runs) {run : CodeRun} (hr : RunOk E run) (rc : Option Nat) {ops : Array Oper} {Q : Exit → Act → World → Prop} {N : Nat}
    (hd : ∀ o ∈ ops.toList, ∀ d, o.dst = some d → d < N) : ∀ (rest : List Oper) (i : Nat), ops.toList.drop i = rest → ∀ {s s' : T Value} {h h' : AHeap}, seqOps E run ops.toList rest s h = some (s', h') →
    ∀ {ρ : Ren} {a : Act} {w : World}, Tight ρ h w → Rel ρ h w → TR ρ s a.tmps → TN s a.tmps → N ≤ a.tmps.size →
    (∀ ρ' a' w', TR ρ' s' a'.tmps → TN s' a'.tmps → a'.tmps.size = a.tmps.size → a'.defers = a.defers → Adv ρ ρ' h h' w w' → Q .normal a' w') →
    wpOpsIn (fence rc) 0 E.P ops Q (List.range' i rest.length) a w
  | [], i, hdrop, s, s', h, h', e, ρ, a, w, ht, R, hT, hN, hsz, hQ => by
    cases e
    exact hQ ρ a w hT hN rfl rfl (.refl R)
  | o :: rest, i, hdrop, s, s', h, h', e, ρ, a, w, ht, R, hT, hN, hsz, hQ => by
    have hlt : i < ops.toList.length := by
      have := congrArg List.length hdrop
      simp only [List.length_drop, List.length_cons] at this
      omega
    have hget : ops[i]? = some o := by
      rw [← Array.getElem?_toList]
      have := congrArg (·[0]?) hdrop
      simp only [List.getElem?_drop, Nat.add_zero, List.getElem?_cons_zero] at this
      exact this
    have hrest : ops.toList.drop (i + 1) = rest := by
      have := congrArg List.tail hdrop
      simpa [List.tail_drop] using this
    have hmem : o ∈ ops.toList := by
      rw [← Array.getElem?_toList] at hget
      exact List.mem_of_getElem? hget
    rw [List.length_cons, List.range'_succ]
    unfold wpOpsIn
    rw [hget]
    dsimp only
    unfold seqOps at e
    split at e
    · rename_i hw
      have hw' := wanted_sound (ρ := ρ) (a := a) (fun t _ => hT t) hw
      rw [if_pos hw']
      split at e
      · rename_i v h1 hs
        refine step_sound K hr ht R hT hs ?_ rc
        intro ρ1 v' w1 hv A
        obtain ⟨hT1, hN1, hs1, hd1⟩ := put_sound (dst := o.dst) (hT.mono A.ext) hN (fun d hdd => Nat.lt_of_lt_of_le (hd o hmem d hdd) hsz) hv
        refine seq_sound K hr rc hd rest (i + 1) hrest e (ht.adv A) A.rel hT1 hN1 (by omega) ?_
        intro ρ2 a2 w2 b1 b2 b3 b4 B
        exact hQ ρ2 a2 w2 b1 b2 (by omega) (by rw [b4, hd1]) (A.trans B)
      · cases e
    · rename_i hw
      have hw' := wanted_sound (ρ := ρ) (a := a) (fun t _ => hT t) hw
      rw [if_neg (by rw [hw']; simp)]
      refine ⟨fun f _ => fence_fn rc f, ?_⟩
      obtain ⟨hT1, hN1, hs1, hd1⟩ := put_sound (ρ := ρ) (dst := o.dst) (r := none) (v' := undef) hT hN (fun d hdd => Nat.lt_of_lt_of_le (hd o hmem d hdd) hsz) rfl
      refine seq_sound K hr rc hd rest (i + 1) hrest e ht R hT1 hN1 (by omega) ?_
      intro ρ2 a2 w2 b1 b2 b3 b4 B
      exact hQ ρ2 a2 w2 b1 b2 (by omega) (by rw [b4, hd1]) B
    · cases e

theorem loop_rounds (K : E.Runs) {Q : Exit → Act → World → Prop} {b : Code} {rd rc : Option Nat} : ∀ (n : Nat), (∀ m, m < n → RunOk E (ex E m)) → ∀ (s : ASt) (x : AExit) (s' : ASt), ex E n rd (.loop b) s = some (x, s') → ∀ (ρ : Ren) (a : Act) (w : World) (N : Nat), RD ρ rd rc → Tight ρ s.heap w → Rel ρ s.heap w → TR ρ s.tmps a.tmps → TN s.tmps a.tmps → MR ρ s.marks a.defers →
    codeOk N b = true → N ≤ a.tmps.size → (∀ ρ' a' w', TR ρ' s'.tmps a'.tmps → TN s'.tmps a'.tmps → a'.tmps.size = a.tmps.size → MR ρ' s'.marks a'.defers → Adv ρ ρ' s.heap s'.heap w w' → Q (exitOf x) a' w') →
    Code.roundsIn (fence rc) 0 E.P b Q n a w
  | 0, _, s, x, s', e, ρ, a, w, N, hrd, ht, R, hT, hN, hM, hc, hsz, hQ => by cases e
  | n + 1, ih, s, x, s', e, ρ, a, w, N, hrd, ht, R, hT, hN, hM, hc, hsz, hQ => by
    change exStep E (ex E n) rd (.loop b) s = some (x, s') at e
    simp only [exStep] at e
    rw [roundsIn_succ]
    split at e
    · rename_i s1 hs
      refine ih n (by omega) rd b s _ s1 hs ρ a w N rc hrd ht R hT hN hM hc hsz _ ?_
      intro ρ1 a1 w1 b1 b2 b3 b4 A
      refine loop_rounds K n (fun m hm => ih m (by omega)) s1 x s' e ρ1 a1 w1 N (hrd.mono A.ext) (ht.adv A) A.rel b1 b2 b4 hc (by omega) ?_
      intro ρ2 a2 w2 c1 c2 c3 c4 B
      exact hQ ρ2 a2 w2 c1 c2 (by omega) c4 (A.trans B)
    · rename_i hne
      refine ih n (by omega) rd b s x s' e ρ a w N rc hrd ht R hT hN hM hc hsz _ ?_
      intro ρ1 a1 w1 b1 b2 b3 b4 A
      have := hQ ρ1 a1 w1 b1 b2 b3 b4 A
      cases x with
      | normal => exact (hne s' e).elim
      | exit i => exact this
      | ret => exact this

/-- Where the rounds' deferred calls go. -/
theorem enter_sound {ρ : Ren} {h h' : AHeap} {w : World} {rd rc : Option Nat} {ms ms' : List Nat} {ds : List Deferred} {d : Nat} (hrd : RD ρ rd rc) (ht : Tight ρ h w) (R : Rel ρ h w) (hM : MR ρ ms ds) (e : enterA rd h ms = some (d, h', ms'))
    {s : T Value} {tmps : Array Value} (hT : TR ρ s tmps) (hN : TN s tmps) {ps : Array Tmp} {as bd : Code} (hc : ∃ n, n ≤ tmps.size ∧ codeOk n as = true ∧ codeOk n bd = true ∧ ∀ p ∈ ps.toList, p < n) (fn : FuncId) :
    ∃ (c : Nat) (mark : List Deferred) (w' : World) (ρ' : Ren) (N : Nat), (Instr.enterLoop fn tmps ps as bd rc).run E.P w = .ok (c, mark) w' ∧ MR ρ' ms' (mark ++ ds) ∧ ρ' h'.next = some (c, N) ∧ Adv ρ ρ' h (h'.alloc (.loop .ready none s ps.toList as bd d)) w w' := by
  unfold enterA at e
  split at e
  · cases e
    cases rc with
    | some c => exact hrd.elim
    | none =>
      have A := Adv.alloc R (ht.t _ (Nat.le_refl _)) 0 .defers (.deferred (some [])) .defers
      have t1 := ht.adv A
      have B := Adv.alloc (ρ := upd ρ h.next (w.heap.size, 0)) A.rel (t1.t _ (Nat.le_refl _)) 0 (.loop .ready none s ps.toList as bd h.next)
        (.loop { state := .ready, pending := none, fn := fn, tmps := tmps, params := ps, assign := as, body := bd, defers := w.heap.size })
        (OR.loop (hT.mono (A.ext.trans (Ext.upd (t1.t _ (Nat.le_refl _))))) hN hc (Ext.upd (t1.t _ (Nat.le_refl _)) _ _ (upd_self ρ h.next _)))
      have hsz : (w.alloc (.deferred (some []))).heap.size = w.heap.size + 1 := World.size_alloc _ _
      rw [hsz] at B
      refine ⟨_, _, _, _, 0, run_enterLoop_outer fn tmps ps as bd, ?_, upd_self _ _ _, A.trans B⟩
      refine ⟨w.heap.size, 0, ds, Ext.upd (t1.t _ (Nat.le_refl _)) _ _ (upd_self ρ h.next _), rfl, ?_⟩
      exact hM.mono (A.ext.trans (Ext.upd (t1.t _ (Nat.le_refl _))))
  · split at e
    · rename_i l _ _ _ _ _ _ dd hg
      cases e
      cases rc with
      | none => exact hrd.elim
      | some c =>
        obtain ⟨N, hl⟩ := hrd
        obtain ⟨o', ho, hor⟩ := R.obj _ _ hg c N hl
        cases hor with
        | loop hT1 hN1 hc1 hd1 =>
          rename_i fn1 tmps1 d' M
          have B := Adv.alloc R (ht.t _ (Nat.le_refl _)) 0 (.loop .ready none s ps.toList as bd d)
            (.loop { state := .ready, pending := none, fn := fn, tmps := tmps, params := ps, assign := as, body := bd, defers := d' })
            (OR.loop (hT.mono (Ext.upd (ht.t _ (Nat.le_refl _)))) hN hc (Ext.upd (ht.t _ (Nat.le_refl _)) _ _ hd1))
          refine ⟨_, [], _, _, 0, ?_, ?_, upd_self _ _ _, B⟩
          · unfold Instr.enterLoop
            simp only [Sem.run_bind, run_getLoop ho, Result.andThen_ok, Sem.run_pure, run_newObj]
            rfl
          · exact hM.mono (Ext.upd (ht.t _ (Nat.le_refl _)))
    · cases e

theorem range_sound (K : E.Runs) {run : CodeRun} (hr : RunOk E run) {rd rc : Option Nat} {g : Operand} {ps : Array Tmp} {as bd : Code} {s : ASt} {x : AExit} {s' : ASt} (e : rangeFuncA E run rd g ps as bd s = some (x, s'))
    {ρ : Ren} {a : Act} {w : World} {N : Nat} (hrd : RD ρ rd rc) (ht : Tight ρ s.heap w) (R : Rel ρ s.heap w) (hT : TR ρ s.tmps a.tmps) (hN : TN s.tmps a.tmps) (hM : MR ρ s.marks a.defers)
    (hc : codeOk N (.rangeFunc g ps as bd) = true) (hsz : N ≤ a.tmps.size) {Q : Exit → Act → World → Prop}
    (hQ : ∀ ρ' a' w', TR ρ' s'.tmps a'.tmps → TN s'.tmps a'.tmps → a'.tmps.size = a.tmps.size → MR ρ' s'.marks a'.defers → Adv ρ ρ' s.heap s'.heap w w' → Q (exitOf x) a' w') :
    (Code.rangeFunc g ps as bd).wpIn (fence rc) 0 E.P Q a w := by
  simp only [codeOk, Bool.and_eq_true, List.all_eq_true] at hc
  unfold rangeFuncA at e
  split at e
  · rename_i gv d hp ms hgv hen
    split at e
    · rename_i f args hcal
      split at e
      · rename_i v h1 hintr hcall
        split at e
        · rename_i st pending t1 q1 a1 b1 d1 hg1
          have hst : st ≠ .busy := fun hb => by rw [hb] at e; cases e
          have e' : ∃ y, exitA pending = some y ∧ x = y ∧ s' = { tmps := s.tmps, heap := h1.set hp.next (.loop .exhausted pending t1 q1 a1 b1 d1), marks := ms } := by
            cases hy : exitA pending with
            | none => rw [hy] at e; cases st <;> cases e
            | some y => rw [hy] at e; cases st <;> first | (cases e; exact ⟨_, rfl, rfl, rfl⟩) | exact absurd rfl hst
          obtain ⟨y, hy, rfl, rfl⟩ := e'
          refine wpIn_rangeFunc (fun fn _ => ?_)
          rw [fence_round]
          obtain ⟨c, mark, w1, ρ1, M, hrun, hM1, hl1, A⟩ := enter_sound (E := E) hrd ht R hM hen hT hN (ps := ps) (as := as) (bd := bd) ⟨N, hsz, hc.1.2, hc.2, fun p hp' => by simpa [Nat.blt_eq] using hc.1.1 p hp'⟩ fn
          have hvr := evalO_sound hT hgv
          unfold calleeA at hcal
          split at hcal
          · rename_i g0 first captured
            cases hcal
            generalize hev : a.eval g = fv' at hvr
            cases hvr with
            | func hfn e1 e2 e3 e4 =>
              rename_i f' fs gs cs ds
              cases hfn with
              | same _ =>
                have hyv : VR ρ1 (.func (.yield hp.next) #[] #[]) (.func (.yield c) #[] #[]) := .func (.yield hl1) rfl (fun i v v' h => by simp at h) rfl (fun i v v' h => by simp at h)
                have hLL : LR ρ1 (fs ++ [.func (.yield hp.next) #[] #[]] ++ cs) (gs ++ [.func (.yield c) #[] #[]] ++ ds) :=
                  (LR.append (LR.mono A.ext ⟨e1, e2⟩) ((LR.nil ρ1).cons hyv)).append (LR.mono A.ext ⟨e3, e4⟩)
                obtain ⟨k1, k2⟩ := callBody_sound K hr (ht.adv A) A.rel hLL hintr hcall
                refine ⟨c, mark, w1, { target := .fn (.func f) ⟨ds⟩, args := (⟨gs⟩ : Array Value) ++ #[.func (.yield c) #[] #[]] }, w1, f, ⟨gs ++ [.func (.yield c) #[] #[]] ++ ds⟩, w1, hrun, ?_, fun f' _ => fence_fn rc f', ?_, fun hh => (by rw [fence_depth] at hh; cases hh), ?_⟩
                · have hm : (#[Operand.const (.func (.yield c) #[] #[])] : Array Operand).map a.eval = #[.func (.yield c) #[] #[]] := by simp [Act.eval]
                  unfold resolve
                  simp only [hev, Deferred.ofValue, hm]
                  rfl
                · simp only [invoke]
                  rw [← k1]
                  simp
                · have k3 : CallsIn (fence rc) (0 - 1) E.P f ⟨gs ++ [.func (.yield c) #[] #[]] ++ ds⟩ w1 (fun x w' => ∃ v', x = .returned v' ∧ ∃ ρ', VR ρ' v v' ∧ Adv ρ1 ρ' (hp.alloc (.loop .ready none s.tmps ps.toList as bd d)) h1 w1 w') := by cases rc <;> exact k2
                  refine k3.mono ?_
                  rintro z w2 ⟨v', rfl, ρ2, hv2, B⟩
                  have hl2 := B.ext _ _ hl1
                  obtain ⟨o2, ho2, hor2⟩ := B.rel.obj _ _ hg1 c M hl2
                  cases hor2 with
                  | loop hT2 hN2 hc2 hd2 =>
                    obtain ⟨_, C⟩ := setObj_sound (E := E) B.rel hg1 hl2 ho2 (by intro a e f; simp) (OR.loop (st := .exhausted) (p := pending) (fn := _) hT2 hN2 hc2 hd2)
                    have all := A.trans (B.trans C)
                    have fin := hQ ρ2 { a with defers := mark ++ a.defers } _ (hT.mono all.ext) hN rfl (hM1.mono (B.trans C).ext) all
                    refine ⟨pending, _, run_endLoop ho2 hst, ?_⟩
                    unfold exitA at hy
                    split at hy
                    · cases hy; exact fin
                    · cases hy; exact wpIn_ret fin
                    · cases hy; exact wpIn_exit fin
                    · cases hy
          · split at hcal <;> cases hcal
          · cases hcal
        · cases e
      · cases e
    · cases e
  · cases e

section
variable {P : Program} {b : Frame} {a : Act} {k : List Item} {cs : List Frame} {w : World} {Q : Exit → Act → World → Prop} {F : Fence} {n : Nat}
theorem stepR_scope {c : Code} : step P (lone (b.atR a (.code (.scope c) :: k)) cs w) = .next (lone (b.atR a (.code c :: .inScope c :: k)) cs w) :=
  step_lone_go (by simp [stepG, stepG.exec, Frame.atR])
theorem stepR_inScope {c : Code} : step P (lone (b.atR a (.inScope c :: k)) cs w) = .next (lone (b.atR a k) cs w) :=
  step_lone_go (by simp [stepG, stepG.exec, Frame.atR])
/-- A block that jumps may lead into: no jump does. -/
theorem wpIn_scope {c : Code} (h : c.wpIn F n P (Exit.noGoto Q) a w) : (Code.scope c).wpIn F n P Q a w := by
  intro b k cs hro hb hr
  have h0 : (lone (b.atR a (.code (.scope c) :: k)) cs w).fenced P F := fenced_calm hb hr rfl
  obtain ⟨e, a₁, w₁, hq, harr⟩ := h b (.inScope c :: k) cs hro hb hr
  cases e with
  | normal => exact ⟨.normal, a₁, w₁, hq, .head h0 stepR_scope (StepsIn.trans harr (.one (fenced_calm hb hr rfl) stepR_inScope))⟩
  | exit id =>
    have hx : exitTo id (.inScope c :: k) = exitTo id k := by simp [exitTo]
    exact ⟨.exit id, a₁, w₁, hq, fun k' hk => .head h0 stepR_scope (harr.1 k' (by rw [hx]; exact hk)),
      fun hr' hk => let ⟨k₁, h1, h2⟩ := harr.2 hr' (by rw [hx]; exact hk); ⟨k₁, h1, .head h0 stepR_scope h2⟩⟩
  | goto l => exact hq.elim
  | ret => exact ⟨_, a₁, w₁, hq, .of_steps (.one h0 stepR_scope) harr⟩
  | panic ch => exact ⟨_, a₁, w₁, hq, .of_steps (.one h0 stepR_scope) harr⟩
  | outgrown => exact ⟨_, a₁, w₁, hq, .of_steps (.one h0 stepR_scope) harr⟩
end

theorem ex_sound (K : E.Runs) : ∀ n, RunOk E (ex E n)
  | 0 => fun rd c s x s' e => by cases e
  | n + 1 => by
    have all : ∀ m, m < n + 1 → RunOk E (ex E m) := fun m hm => ex_sound K m
    have ih := all n (by omega)
    have hu := Up.ex K.up n
    intro rd c s x s' e ρ a w N rc hrd ht R hT hN hM hc hsz Q hQ
    cases c with
    | loop b =>
      exact wpIn_loop_rounds (n + 1) (loop_rounds K (n + 1) all s x s' e ρ a w N hrd ht R hT hN hM hc hsz hQ)
    | skip =>
      cases e
      exact wpIn_skip (hQ ρ a w hT hN rfl hM (.refl R))
    | label l =>
      cases e
      exact wpIn_label (hQ ρ a w hT hN rfl hM (.refl R))
    | ret =>
      cases e
      exact wpIn_ret (hQ ρ a w hT hN rfl hM (.refl R))
    | exit id =>
      cases e
      exact wpIn_exit (hQ ρ a w hT hN rfl hM (.refl R))
    | seq c1 c2 =>
      change exStep E (ex E n) rd (.seq c1 c2) s = some (x, s') at e
      simp only [exStep] at e
      simp only [codeOk, Bool.and_eq_true] at hc
      refine wpIn_seq ?_
      split at e
      · rename_i s1 hs
        refine ih rd c1 s _ s1 hs ρ a w N rc hrd ht R hT hN hM hc.1 hsz _ ?_
        intro ρ1 a1 w1 b1 b2 b3 b4 A
        refine ih rd c2 s1 x s' e ρ1 a1 w1 N rc (hrd.mono A.ext) (ht.adv A) A.rel b1 b2 b4 hc.2 (by omega) _ ?_
        intro ρ2 a2 w2 d1 d2 d3 d4 B
        exact hQ ρ2 a2 w2 d1 d2 (by omega) d4 (A.trans B)
      · rename_i hne
        refine ih rd c1 s x s' e ρ a w N rc hrd ht R hT hN hM hc.1 hsz _ ?_
        intro ρ1 a1 w1 b1 b2 b3 b4 A
        have := hQ ρ1 a1 w1 b1 b2 b3 b4 A
        cases x with
        | normal => exact (hne s' e).elim
        | exit i => exact this
        | ret => exact this
    | cond q c1 c2 =>
      change exStep E (ex E n) rd (.cond q c1 c2) s = some (x, s') at e
      simp only [exStep] at e
      simp only [codeOk, Bool.and_eq_true] at hc
      split at e
      · rename_i hq
        have hv := evalO_sound hT hq
        generalize hev : a.eval q = q' at hv
        cases hv
        exact wpIn_cond_true hev (ih rd c1 s x s' e ρ a w N rc hrd ht R hT hN hM hc.1 hsz _ hQ)
      · rename_i hq
        have hv := evalO_sound hT hq
        generalize hev : a.eval q = q' at hv
        cases hv
        exact wpIn_cond_false hev (ih rd c2 s x s' e ρ a w N rc hrd ht R hT hN hM hc.2 hsz _ hQ)
      · cases e
    | block id b =>
      change exStep E (ex E n) rd (.block id b) s = some (x, s') at e
      simp only [exStep] at e
      refine wpIn_block ?_
      split at e
      · rename_i i s1 hs
        split at e
        · rename_i hi
          cases e
          refine ih rd b s _ _ hs ρ a w N rc hrd ht R hT hN hM hc hsz _ ?_
          intro ρ1 a1 w1 b1 b2 b3 b4 A
          have hi' := Nat.eq_of_beq_eq_true hi
          show (if i = id then Q .normal a1 w1 else Q (.exit i) a1 w1)
          rw [if_pos hi']
          exact hQ ρ1 a1 w1 b1 b2 b3 b4 A
        · rename_i hi
          cases e
          refine ih rd b s _ _ hs ρ a w N rc hrd ht R hT hN hM hc hsz _ ?_
          intro ρ1 a1 w1 b1 b2 b3 b4 A
          have hi' := Nat.ne_of_beq_eq_false hi
          show (if i = id then Q .normal a1 w1 else Q (.exit i) a1 w1)
          rw [if_neg hi']
          exact hQ ρ1 a1 w1 b1 b2 b3 b4 A
      · rename_i hne
        refine ih rd b s x s' e ρ a w N rc hrd ht R hT hN hM hc hsz _ ?_
        intro ρ1 a1 w1 b1 b2 b3 b4 A
        have := hQ ρ1 a1 w1 b1 b2 b3 b4 A
        cases x with
        | normal => exact this
        | exit i => exact (hne i s' e).elim
        | ret => exact this
    | scope b =>
      change ex E n rd b s = some (x, s') at e
      refine wpIn_scope (ih rd b s x s' e ρ a w N rc hrd ht R hT hN hM hc hsz _ ?_)
      intro ρ1 a1 w1 b1 b2 b3 b4 A
      have := hQ ρ1 a1 w1 b1 b2 b3 b4 A
      cases x with
      | normal => exact this
      | exit i => exact this
      | ret => exact this
    | region id ops draw =>
      change (regionA E (ex E n) ops draw s).map (fun s' => (AExit.normal, s')) = some (x, s') at e
      simp only [Option.map_eq_some_iff] at e
      obtain ⟨s1, e, e'⟩ := e
      cases e'
      simp only [codeOk, Bool.and_eq_true, List.all_eq_true] at hc
      have hd : ∀ o ∈ ops.toList, ∀ d, o.dst = some d → d < N := fun o ho d hdd => by
        have := hc.1 o ho
        rw [hdd] at this
        simpa [Nat.blt_eq] using this
      unfold regionA at e
      cases draw with
      | false =>
        simp only [Option.map_eq_some_iff] at e
        obtain ⟨⟨t, h1⟩, e, e'⟩ := e
        cases e'
        refine wpIn_region ?_
        have := seq_sound K ih rc (Q := Q) hd ops.toList 0 rfl e ht R hT hN hsz (fun ρ' a' w' b1 b2 b3 b4 A => hQ ρ' a' w' b1 b2 b3 (by rw [b4]; exact hM.mono A.ext) A)
        rw [List.range_eq_range']
        simpa using this
      | true =>
        dsimp only at e
        split at e
        · rename_i t h1 ks hdr
          split at e
          · rename_i hok
            cases e
            have h2 := hc.2
            simp only [Bool.not_true, Bool.false_or, Bool.and_eq_true] at h2
            exact draw_sound K hu ih hd h2.1 h2.2 (ql := []) (fun b hb => by cases hb) hdr (fun h => by cases h) hok ht R hT hN hsz (fun ρ' a' w' b1 b2 b3 b4 A => hQ ρ' a' w' b1 b2 b3 (by rw [b4]; exact hM.mono A.ext) A) rc
          · split at e
            · rename_i hdr2
              split at e
              · rename_i hok'
                rw [Bool.and_eq_true] at hok'
                obtain ⟨hok, hst⟩ := hok'
                split at e
                · rename_i hfa
                  cases e
                  have h2 := hc.2
                  simp only [Bool.not_true, Bool.false_or, Bool.and_eq_true] at h2
                  exact draw_sound K hu ih hd h2.1 h2.2 (fun b hb => quietQ_lt hb) hdr2 (fun _ => ⟨hst, hfa⟩) hok ht R hT hN hsz (fun ρ' a' w' b1 b2 b3 b4 A => hQ ρ' a' w' b1 b2 b3 (by rw [b4]; exact hM.mono A.ext) A) rc
                · cases e
              · cases e
            · cases e
        · cases e
    | goto l => cases e
    | rangeFunc f p as b =>
      change rangeFuncA E (ex E n) rd f p as b s = some (x, s') at e
      exact range_sound K ih e hrd ht R hT hN hM hc hsz hQ
    | refuse y => cases e
end Go.Proofs.YtlkhpgocbojdgaaGreatDoor.Ai

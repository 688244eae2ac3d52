/-
  EACH OPERATION OF THE EVALUATOR IS ONE OF THE MACHINE's, part 7: all of them in one.
-/
import Derived.Test.YtlkhpgocbojdgaaGreatDoorAiMap
namespace Go.Proofs.YtlkhpgocbojdgaaGreatDoor.Ai
open Go
set_option linter.unusedSimpArgs false
set_option linter.unusedVariables false
variable {E : Env} {ρ : Ren} {h h' : AHeap} {w : World}

/-- What an operation leaves, as the machine says it. -/
def NR (ρ : Ren) : Option Value → Next → Prop
  | some v, n => ∃ v', n = .value v' ∧ VR ρ v v'
  | none, n => n = .skip

def OpOk (E : Env) (ρ : Ren) (h h' : AHeap) (w : World) (s : Sem Next) (r : Option Value) : Prop :=
  ∃ ρ' n w', s.run E.P w = .ok n w' ∧ NR ρ' r n ∧ Adv ρ ρ' h h' w w'

theorem OpOk.v {s : Sem Value} {v : Value} (a : VOk E ρ h h' w s v) : OpOk E ρ h h' w (do pure (.value (← s))) (some v) := by
  obtain ⟨ρ', v', w', e, r, A⟩ := a
  exact ⟨ρ', .value v', w', by simp only [Sem.run_bind, e, Result.andThen_ok, Sem.run_pure], ⟨v', rfl, r⟩, A⟩

theorem OpOk.ex {s : Sem Value} {r : Option Value} (a : ∃ v, r = some v ∧ VOk E ρ h h' w s v) : OpOk E ρ h h' w (do pure (.value (← s))) r := by
  obtain ⟨v, rfl, a⟩ := a
  exact .v a

theorem OpOk.same (R : Rel ρ h w) {s : Sem Value} {r : Option Value} (a : h' = h ∧ ∃ v v', r = some v ∧ s.run E.P w = .ok v' w ∧ VR ρ v v') : OpOk E ρ h h' w (do pure (.value (← s))) r := by
  obtain ⟨rfl, v, v', rfl, e, r⟩ := a
  exact .v (VOk.same R e r)

theorem OpOk.u {s : Sem Unit} {r : Option Value} (a : r = none ∧ ∃ w', s.run E.P w = .ok () w' ∧ Adv ρ ρ h h' w w') : OpOk E ρ h h' w (do s; pure .skip) r := by
  obtain ⟨rfl, w', e, A⟩ := a
  exact ⟨ρ, .skip, w', by simp only [Sem.run_bind, e, Result.andThen_ok, Sem.run_pure], rfl, A⟩

theorem optO_sound {s : T Value} {a : Act} (hT : TR ρ s a.tmps) {x : Option Operand} {q : Option Value} (e : optO s x = some q) :
    (∀ v, q = some v → ∃ v', x.map a.eval = some v' ∧ VR ρ v v') ∧ (q = none → x.map a.eval = none) := by
  unfold optO at e
  split at e
  · cases e
    exact ⟨fun v hv => (by cases hv), fun _ => rfl⟩
  · split at e
    · rename_i v hv
      cases e
      exact ⟨fun u hu => by cases hu; exact ⟨_, rfl, evalO_sound hT hv⟩, fun hu => by cases hu⟩
    · cases e

theorem unBytes_some : ∀ {r : List Value} {l : List UInt8}, unBytes r = some l → r.length = l.length ∧ ∀ (j : Nat) x, l[j]? = some x → r[j]? = some (.int .u8 x.toNat)
  | [], l, h => by cases h; exact ⟨rfl, fun j x h => by simp at h⟩
  | v :: r, l, h => by
    unfold unBytes at h
    split at h
    · rename_i heq; cases heq
    · rename_i n r' heq
      cases heq
      split at h
      · rename_i l' hb hl
        cases h
        obtain ⟨h1, h2⟩ := unBytes_some hl
        refine ⟨by simp [h1], fun j x hx => ?_⟩
        cases j with
        | zero =>
          simp at hx
          subst hx
          have hlt : n < 256 := by simpa [Nat.blt_eq] using hb
          simp [Nat.mod_eq_of_lt hlt]
        | succ j => simpa using h2 j x (by simpa using hx)
      · cases h
    · cases h

theorem builtinA_sound (K : E.Ok) (R : Rel ρ h w) {b : Builtin} {tys : Array TypeId} {ty : TypeId} {cs : Array Bool} {args args' : List Value} {v : Value} (hL : LR ρ args args')
    (e : builtinA E h b tys.toList args = some (v, h')) (hf : Fr ρ h h') : OpOk E ρ h h' w (builtin b tys ty cs ⟨args'⟩) (some v) := by
  obtain ⟨tys⟩ := tys
  dsimp only at e
  unfold builtinA at e
  split at e
  · rename_i t x
    obtain ⟨x', rfl, hx⟩ := hL.one
    obtain ⟨rfl, h1, h2⟩ := lenBA_sound (E := E) (ty := ty) K R hx e
    exact OpOk.v (s := Builtin.len_ #[t] ty #[x']) (VOk.same R h1 h2)
  · split at e
    · rename_i hfl
      have := flats_eq hfl hL
      subst this
      cases hm : okFlat (runP E.P (Builtin.max_ #[] 0 ⟨args'⟩)) with
      | none => rw [hm] at e; cases e
      | some u =>
        rw [hm] at e
        cases e
        obtain ⟨h1, h2⟩ := okFlat_some hm
        exact OpOk.v (s := Builtin.max_ _ ty _) (VOk.same R (runP_run E.P _ h1 w) (flat_VR ρ h2))
    · cases e
  · split at e
    · rename_i hfl
      have := flats_eq hfl hL
      subst this
      cases hm : okFlat (runP E.P (Builtin.min_ #[] 0 ⟨args'⟩)) with
      | none => rw [hm] at e; cases e
      | some u =>
        rw [hm] at e
        cases e
        obtain ⟨h1, h2⟩ := okFlat_some hm
        exact OpOk.v (s := Builtin.min_ _ ty _) (VOk.same R (runP_run E.P _ h1 w) (flat_VR ρ h2))
    · cases e
  · rename_i t u s x
    split at e
    · rename_i elem hel hu
      split at e
      · rename_i i n hi hn
        split at e
        · rename_i news hnews
          split at e
          · rename_i hlen
            obtain ⟨it, ht, hd⟩ := elemD_some hel
            obtain ⟨k, hk, hk'⟩ := isInt_false hu
            have hl := hL.1
            match args', hl with
            | [s', x'], _ =>
              have hs : VR ρ s s' := hL.2 0 _ _ rfl rfl
              have hx : VR ρ x x' := hL.2 1 _ _ rfl rfl
              exact OpOk.v (s := Builtin.append_ #[t, u] ty #[s', x']) (appendA_sound K R ht hd hi hk hk' hs hx hn hnews (Nat.eq_of_beq_eq_true hlen) e hf)
          · cases e
        · cases e
      · cases e
    · cases e
  · -- copy
    rename_i t u base dl cap sb n sc
    split at e
    · rename_i elem hel
      split at e
      · rename_i size hsz
        obtain ⟨it, ht, hd⟩ := elemD_some hel
        obtain ⟨j, hj, hjs⟩ := sizeT_some hsz
        subst hjs
        have hl := hL.1
        match args', hl with
        | [d', x'], _ =>
          have hdd : VR ρ (.slice base dl cap) d' := hL.2 0 _ _ rfl rfl
          have hx : VR ρ (.slice sb n sc) x' := hL.2 1 _ _ rfl rfl
          have hlen := lenA_run (E := E) (w := w) hx (n := n) rfl
          have hsrc := fun {news : List Value} (hs : srcCells h j.size (Nat.min n dl) (.slice sb n sc) = some news) => srcCells_run (E := E) R hx (n := n) rfl (Nat.min_le_left n dl) (fun _ s hs => by cases hs) hs
          have hdst : ∃ base' cap', d' = .slice base' dl cap' := by cases hdd <;> exact ⟨_, _, rfl⟩
          obtain ⟨base', cap', rfl⟩ := hdst
          have hrun : ∀ (news' : List Value) w', (Builtin.firstCells j.size (Nat.min n dl) x').run E.P w = .ok ⟨news'⟩ w → (∀ a, base' = some a → (storeCells a news').run E.P w = .ok () w') → (base' = none → w' = w) →
              (Builtin.copy_ #[t, u] ty #[.slice base' dl cap', x']).run E.P w = .ok (.int .i64 (Nat.min n dl : Nat)) w' := by
            intro news' w' h1 h2 h3
            unfold Builtin.copy_
            simp only [List.getElem?_toArray, List.getElem?_cons_zero, List.getElem?_cons_succ, Sem.run_bind, run_und K ht, hd, Result.andThen_ok, hlen, run_size K hj, h1]
            cases base' with
            | none => rw [h3 rfl]; simp only [Sem.run_pure, Result.andThen_ok, goInt]
            | some a => simp only [Sem.run_bind, h2 a rfl, Result.andThen_ok, Sem.run_pure, goInt]
          cases hs : srcCells h j.size (Nat.min n dl) (.slice sb n sc) with
          | none => rw [hs] at e; cases e
          | some news =>
            rw [hs] at e
            obtain ⟨news', a1, a2, a3⟩ := hsrc hs
            cases hm : Nat.min n dl with
            | zero =>
              rw [hm] at e
              cases e
              have hnil : news' = [] := by
                have : news = [] := by
                  rw [hm] at hs
                  unfold srcCells at hs
                  cases sb <;> (dsimp only at hs; cases hs; rfl)
                have h5 := a2.1
                rw [this] at h5
                exact List.eq_nil_of_length_eq_zero h5.symm
              have := hrun news' w (a1 w rfl) (fun a _ => by rw [hnil]; rfl) (fun _ => rfl)
              rw [hm] at this
              exact OpOk.v (s := Builtin.copy_ #[t, u] ty #[.slice base' dl cap', x']) (VOk.same R this (.int _ _))
            | succ m =>
              rw [hm] at e
              cases base with
              | none => cases e
              | some a =>
                have e2 : (match writeCells h a news with | some h' => some (Value.int .i64 (m + 1 : Nat), h') | none => none) = some (v, h') := e
                split at e2
                · rename_i h2 hw
                  cases e2
                  cases hdd with
                  | slice g1 hρ =>
                    obtain ⟨w', b1, b2⟩ := writeCells_sound (E := E) R hρ a2 hw
                    have := hrun news' w' (a1 w rfl) (fun a ha => by cases ha; exact b1) (fun h => by cases h)
                    rw [hm] at this
                    exact OpOk.v (s := Builtin.copy_ _ ty _) ⟨ρ, _, w', this, .int _ _, b2⟩
                  | sliceUp g1 g2 g3 g4 hρ =>
                    obtain ⟨w', b1, b2⟩ := writeCells_sound (E := E) R hρ a2 hw
                    have := hrun news' w' (a1 w rfl) (fun a ha => by cases ha; exact b1) (fun h => by cases h)
                    rw [hm] at this
                    exact OpOk.v (s := Builtin.copy_ _ ty _) ⟨ρ, _, w', this, .int _ _, b2⟩
                  | sliceG q0 g1 g2 g3 g4 hρ =>
                    obtain ⟨w', b1, b2⟩ := writeCells_sound (E := E) R hρ a2 hw
                    have := hrun news' w' (a1 w rfl) (fun a ha => by cases ha; exact b1) (fun h => by cases h)
                    rw [hm] at this
                    exact OpOk.v (s := Builtin.copy_ _ ty _) ⟨ρ, _, w', this, .int _ _, b2⟩
                  | sliceG0 => have : Nat.min n 0 = 0 := Nat.min_eq_right (Nat.zero_le n)
                               omega
                  | sliceUn => have : Nat.min n 0 = 0 := Nat.min_eq_right (Nat.zero_le n)
                               omega
                · cases e2
      · cases e
    · cases e
  · -- clear
    rename_i t base n cap
    obtain ⟨x', rfl, hx⟩ := hL.one
    cases hel : elemD (E.ty.get t) with
    | none => rw [hel] at e; cases n <;> cases base <;> cases e
    | some elem =>
      rw [hel] at e
      obtain ⟨it, ht, hd⟩ := elemD_some hel
      cases n with
      | zero =>
        cases e
        refine OpOk.v (s := Builtin.clear_ #[t] ty #[x']) (VOk.same R (v' := .tuple #[]) ?_ (flat_VR ρ rfl))
        unfold Builtin.clear_
        cases hx <;> first | (simp [run_und K ht, hd]; done) | (rename_i q z; cases q <;> simp [run_und K ht, hd])
      | succ n =>
        cases base with
        | none => cases e
        | some a =>
          have e2 : (match zeroOf E elem with
            | some z => match writeCells h a (rep z.cells.toList (n + 1)) with
              | some h' => some (Value.tuple #[], h')
              | none => none
            | none => none) = some (v, h') := e
          clear e
          have e := e2
          clear e2
          cases hj : E.ty.get elem with
          | none => simp [zeroOf, hj] at e
          | some j =>
            have hz : zeroOf E elem = some j.zero := by simp [zeroOf, hj]
            rw [hz] at e
            dsimp only at e
            split at e
            · rename_i h2 hw
              cases e
              have hLr : LR ρ (rep j.zero.cells.toList (n + 1)) (rep j.zero.cells.toList (n + 1)) := (flat_LR (K.ty elem j hj).2.1).rep (n + 1)
              have go : ∀ (b c off N : Nat) cap', ρ b = some (c, N) → a = ⟨b, off, none⟩ → x' = .slice (some ⟨c, off, none⟩) (n + 1) cap' → OpOk E ρ h h' w (builtin .clear #[t] ty cs #[x']) (some (.tuple #[])) := by
                intro b c off N cap' hρ ha hx'
                subst hx'
                subst ha
                obtain ⟨w', b1, b2⟩ := writeCells_sound (E := E) R hρ hLr hw
                refine OpOk.v (s := Builtin.clear_ #[t] ty #[_]) ⟨ρ, .tuple #[], w', ?_, flat_VR ρ rfl, b2⟩
                unfold Builtin.clear_
                have hz : Builtin.zeroCells j.zero.cells (n + 1) = ⟨rep j.zero.cells.toList (n + 1)⟩ := rep_range _ _
                simp only [List.getElem?_toArray, List.getElem?_cons_zero, Sem.run_bind, run_und K ht, hd, Result.andThen_ok, run_zero K hj, hz, b1, Sem.run_pure]
              cases hx with
              | slice g1 hρ => exact go _ _ _ _ _ hρ rfl rfl
              | sliceUp g1 g2 g3 g4 hρ => exact go _ _ _ _ _ hρ rfl rfl
              | sliceG q0 g1 g2 g3 g4 hρ => exact go _ _ _ _ _ hρ rfl rfl
            · cases e
  · -- unsafe.SliceData
    rename_i a n cap
    split at e
    · rename_i hb
      cases e
      simp only [Bool.and_eq_true, Nat.blt_eq] at hb
      obtain ⟨hn, hc⟩ := hb
      obtain ⟨x', rfl, hx⟩ := hL.one
      have key : ∀ (a' : Addr) (c' : Nat), x' = .slice (some a') n c' → c' ≠ 0 → VR ρ (.pointer (some a)) (.pointer (some a')) → OpOk E ρ h h w (builtin .unsafeSliceData ⟨tys⟩ ty cs ⟨[x']⟩) (some (.pointer (some a))) := by
        intro a' c' hx' hc' hv
        subst hx'
        exact OpOk.v (s := Builtin.unsafeSliceData_ ⟨tys⟩ ty #[_]) (VOk.same R (Lib.run_unsafeSliceData_row w _ _ _ _ _ hc') hv)
      cases hx with
      | slice g1 hρ =>
        refine key _ _ rfl ?_ (.ptr hρ)
        rintro rfl
        rw [show Nat.mod 0 SL = 0 from Nat.zero_mod _] at hc
        omega
      | sliceUp g1 g2 g3 g4 hρ =>
        rename_i z k cap'
        refine key _ _ rfl ?_ (.ptr hρ)
        have : Nat.mod (upCap z k) SL = k := by
          show (SL * (z + 1) + k) % SL = k
          rw [Nat.mul_add_mod, Nat.mod_eq_of_lt g1]
        omega
      | sliceUn => omega
      | sliceG q0 g1 g2 g3 g4 hρ => exact key _ _ rfl (by omega) (.ptr hρ)
      | sliceG0 => omega
    · cases e
  · -- unsafe.String
    rename_i pt it b n
    split at e
    · rename_i u c el hp hg
      split at e
      · rename_i r0 hb hs hr
        split at e
        · rename_i l hl
          cases e
          simp only [Bool.and_eq_true, Nat.blt_eq] at hb
          obtain ⟨he, hn, hmx⟩ := hb
          have he := Nat.eq_of_beq_eq_true he
          have hmx := Nat.le_of_ble_eq_true hmx
          subst he
          obtain ⟨hc1, _⟩ := cellsOf_size K hs
          have hpu : E.P.underlying pt = some (.pointer el) := by
            unfold ptrD at hp
            split at hp
            · rename_i t z s0 b0 hi
              cases hp
              exact (K.ty pt _ hi).1
            · cases hp
          have hl2 := hL.1
          match args', hl2 with
          | [p', n'], _ =>
            have hpv : VR ρ (.pointer (some ⟨b, 0, none⟩)) p' := hL.2 0 _ _ rfl rfl
            have hnv : VR ρ (.int .i64 (.ofNat n)) n' := hL.2 1 _ _ rfl rfl
            cases hnv
            cases hpv with
            | ptr hρ =>
              rename_i cc N _
              obtain ⟨o', r1, r2⟩ := R.obj _ _ hg cc N hρ
              cases r2 with
              | cells a1 a2 a3 =>
                rename_i csr fz
                obtain ⟨hr1, hr2⟩ := slice?_some hr
                obtain ⟨hu1, hu2⟩ := unBytes_some hl
                have hll : l.length = n := by rw [← hr2, hu1]
                have hcell : ∀ (j : Nat) (x : UInt8), l[j]? = some x → csr[j]? = some (Value.int .u8 x.toNat) := by
                  intro j x hx
                  have hj := (List.getElem?_eq_some_iff.1 hx).1
                  have h1 := hu2 j x hx
                  have h2 : c[j]? = some (Value.int .u8 x.toNat) := by
                    rw [hr1, List.drop_zero, List.getElem?_take, if_pos (by omega)] at h1
                    exact h1
                  obtain ⟨v', q1, q2⟩ := a1 j _ h2
                  cases q2
                  exact q1
                have hsz : l.length ≤ csr.size := by
                  rcases Nat.eq_zero_or_pos l.length with q | q
                  · omega
                  · have := hcell (l.length - 1) _ (List.getElem?_eq_getElem (by omega))
                    have := (Array.getElem?_eq_some_iff.1 this).1
                    omega
                have hsh : w.shape? cc = some (el, csr.size) := by simp [World.shape?, r1]
                have hrun := Lib.run_unsafeString_row (P := E.P) w pt it ty el hpu hc1 cc csr.size hsh l (by rintro rfl; simp at hll; omega) hsz (by omega) (fun j x hx => by
                  have ha : (⟨cc, 0, none⟩ : Addr).add j = ⟨cc, j, none⟩ := by
                    unfold Addr.add
                    by_cases hj : j = 0
                    · subst hj; rfl
                    · simp [hj]
                  rw [ha, Lib.cell_of_heap r1]
                  exact hcell j x hx)
                rw [hll] at hrun
                have hcl := (Array.getElem?_eq_some_iff.1 r1).1
                have hfz : ∃ fz', (w.freeze ⟨cc, 0, none⟩ n).heap[cc]? = some (.cells csr el fz') ∧ (∀ d, d ≠ cc → (w.freeze ⟨cc, 0, none⟩ n).heap[d]? = w.heap[d]?) ∧ (w.freeze ⟨cc, 0, none⟩ n).heap.size = w.heap.size ∧ (w.freeze ⟨cc, 0, none⟩ n).os = w.os ∧ (w.freeze ⟨cc, 0, none⟩ n).tape = w.tape ∧ (w.freeze ⟨cc, 0, none⟩ n).output = w.output := by
                  unfold World.freeze
                  rw [if_neg (by omega)]
                  obtain ⟨f1, f2⟩ := fz
                  refine ⟨if f1 == f2 then (0, 0 + n) else (min f1 0, max f2 (0 + n)), ?_, ?_, ?_, rfl, rfl, rfl⟩
                  · simp only [Array.getElem?_modify, if_pos, r1, Option.map_some]
                  · intro d hd
                    simp only [Array.getElem?_modify]
                    rw [if_neg (Ne.symm hd)]
                  · simp
                obtain ⟨fz', z1, z2, z3, z4, z5, z6⟩ := hfz
                exact OpOk.v (s := Builtin.unsafeString_ #[pt, it] ty #[.pointer (some ⟨cc, 0, none⟩), .int .i64 n]) ⟨ρ, _, _, hrun, .string _, Adv.set R hg rfl hρ _ _ (.ro (fun i v e _ => a1 i v e)) z4 z5 z6 z3 z1 z2⟩
        · cases e
      · cases e
    · cases e
  · cases e

theorem aop_sound (K : E.Ok) (R : Rel ρ h w) {s : T Value} {a : Act} (hT : TR ρ s a.tmps) {o : Oper} {r : Option Value} (e : aop E s h o = some (r, h')) (hf : Fr ρ h h') : OpOk E ρ h h' w (execOp a.eval o) r := by
  obtain ⟨dst, op, ty, ps, af, gd⟩ := o
  have ev := fun {x : Operand} {v : Value} (hx : evalO s x = some v) => evalO_sound hT hx
  have mv : ∀ x, ret h (evalO s x) = some (r, h') → OpOk E ρ h h' w (pure (.value (a.eval x))) r := fun x e => by
    obtain ⟨rfl, v, hv, rfl⟩ := ret_some e
    exact ⟨ρ, _, w, rfl, ⟨_, rfl, ev hv⟩, .refl R⟩
  cases op <;> simp only [aop] at e <;> unfold execOp <;> dsimp only
  case move x => exact mv x e
  case assign x => exact mv x e
  case pick c x y =>
    cases hc : evalO s c with
    | none => rw [hc] at e; cases e
    | some cv =>
      rw [hc] at e
      have hr := ev hc
      generalize hce : a.eval c = c' at hr
      cases hr <;> try (cases e; done)
      rename_i b
      cases b with
      | true =>
        obtain ⟨rfl, v, hv, rfl⟩ := ret_some e
        exact ⟨ρ, .value (a.eval x), w, by simp [hce, asBool], ⟨_, rfl, ev hv⟩, .refl R⟩
      | false =>
        obtain ⟨rfl, v, hv, rfl⟩ := ret_some e
        exact ⟨ρ, .value (a.eval y), w, by simp [hce, asBool], ⟨_, rfl, ev hv⟩, .refl R⟩
  case alloc el =>
    cases hz : E.ty.get el with
    | none => simp [zeroOf, hz, allocA] at e
    | some i =>
      have hz' : zeroOf E el = some i.zero := by simp [zeroOf, hz]
      rw [hz'] at e
      obtain ⟨v, hv, ρ', v', w', h1, h2⟩ := allocA_sound (E := E) R (flat_VR ρ (K.ty el i hz).2.1) e hf
      refine OpOk.ex ⟨v, hv, ρ', v', w', ?_, h2⟩
      unfold Instr.alloc
      simp only [Sem.run_bind, run_zero K hz, Result.andThen_ok]
      exact h1
  case box el x =>
    cases hx : evalO s x with
    | none => rw [hx] at e; cases e
    | some v =>
      rw [hx] at e
      exact OpOk.ex (allocA_sound (E := E) R (ev hx) e hf)
  case build t parts =>
    cases hp : evalParts s parts.toList with
    | none => rw [hp] at e; unfold buildA at e; split at e <;> first | (cases e; done) | (rename_i hh; cases hh)
    | some ps =>
      rw [hp] at e
      have := buildA_sound K R (evalParts_sound hT _ hp) e
      refine OpOk.same R ?_
      have hm : (parts.map fun (i, x) => (i, a.eval x)) = ⟨parts.toList.map fun (i, x) => (i, a.eval x)⟩ := by apply Array.ext'; simp
      rw [hm]
      exact this
  case buildSlice t len parts =>
    cases hp : evalParts s parts.toList with
    | none => rw [hp] at e; unfold buildSliceA at e; split at e <;> first | (cases e; done) | (rename_i hh; cases hh)
    | some ps =>
      rw [hp] at e
      have := buildSliceA_sound K R (evalParts_sound hT _ hp) e hf
      refine OpOk.ex ?_
      have hm : (parts.map fun (i, x) => (i, a.eval x)) = ⟨parts.toList.map fun (i, x) => (i, a.eval x)⟩ := by apply Array.ext'; simp
      rw [hm]
      exact this
  case load t x =>
    cases hx : evalO s x with
    | none => rw [hx] at e; cases e
    | some v =>
      rw [hx] at e
      exact OpOk.same R (loadA_sound K R (ev hx) e)
  case store t x y =>
    cases hx : evalO s x with
    | none => rw [hx] at e; cases e
    | some v =>
      rw [hx] at e
      cases hy : evalO s y with
      | none => rw [hy] at e; unfold storeA at e; split at e <;> first | (cases e; done) | (rename_i hh _; cases hh)
      | some u =>
        rw [hy] at e
        exact OpOk.u (storeA_sound K R (ev hx) (ev hy) e)
  case nilCheck x =>
    cases hx : evalO s x with
    | none => rw [hx] at e; cases e
    | some v =>
      rw [hx] at e
      have hr := ev hx
      unfold nilCheckA at e
      split at e
      · rename_i p hp
        cases hp
        generalize a.eval x = x' at hr
        cases hr
        rename_i hρ
        cases e
        exact ⟨ρ, _, w, rfl, ⟨_, rfl, .ptr hρ⟩, .refl R⟩
      · cases e
  case binOp op t x y b =>
    cases hx : evalO s x with
    | none => rw [hx] at e; cases e
    | some v =>
      rw [hx] at e
      cases hy : evalO s y with
      | none => rw [hy] at e; cases e
      | some u =>
        rw [hy] at e
        obtain ⟨rfl, q, hq, rfl⟩ := ret_some e
        obtain ⟨h1, h2⟩ := binA_sound (w := w) K (ev hx) (ev hy) hq
        exact OpOk.v (VOk.same R h1 h2)
  case unOp op t x =>
    cases hx : evalO s x with
    | none => rw [hx] at e; cases e
    | some v =>
      rw [hx] at e
      obtain ⟨h1, q, h2, h3, h4⟩ := unA_sound (w := w) (ev hx) e
      exact OpOk.same R ⟨h1, q, q, h2, h3, h4⟩
  case convert src dst x =>
    cases hx : evalO s x with
    | none => rw [hx] at e; unfold convA at e; split at e <;> first | (cases e; done) | (rename_i hh _; cases hh)
    | some v =>
      rw [hx] at e
      exact OpOk.ex (convA_sound K R (ev hx) e hf)
  case makeFunc fn first captured =>
    unfold funcA at e
    split at e
    · rename_i f c hf1 hc1
      have h1 := evalL_sound hT _ hf1
      have h2 := evalL_sound hT _ hc1
      split at e
      · cases e
      rename_i hny
      cases e
      refine ⟨ρ, _, w, rfl, ⟨_, rfl, ?_⟩, .refl R⟩
      have m1 : first.map a.eval = ⟨first.toList.map a.eval⟩ := by apply Array.ext'; simp
      have m2 : captured.map a.eval = ⟨captured.toList.map a.eval⟩ := by apply Array.ext'; simp
      rw [m1, m2]
      exact .func (.same hny) h1.1 h1.2 h2.1 h2.2
    · cases e
  case makeMap t q =>
    cases q with
    | some q => cases e
    | none =>
      unfold made at e
      cases e
      exact OpOk.v (made_map R hf)
  case makeSlice t l c =>
    cases hl : evalO s l with
    | none => rw [hl] at e; unfold makeSliceA at e; split at e <;> first | (cases e; done) | (rename_i hh _; cases hh)
    | some lv =>
      rw [hl] at e
      cases hc : evalO s c with
      | none => rw [hc] at e; unfold makeSliceA at e; split at e <;> first | (cases e; done) | (rename_i hh; cases hh)
      | some cv =>
        rw [hc] at e
        exact OpOk.ex (makeSliceA_sound K R (ev hl) (ev hc) e hf)
  case slice t x lo hi mx =>
    cases mx with
    | some q => cases e
    | none =>
      simp only [] at e
      cases ht : E.ty.get t with
      | none => rw [ht] at e; cases e
      | some i =>
        rw [ht] at e
        cases hx : evalO s x with
        | none => rw [hx] at e; cases e
        | some v =>
          rw [hx] at e
          cases h1 : optO s lo with
          | none => rw [h1] at e; cases e
          | some lv =>
            rw [h1] at e
            cases h2 : optO s hi with
            | none => rw [h2] at e; cases e
            | some hv =>
              rw [h2] at e
              obtain ⟨rfl, q, hq, rfl⟩ := ret_some e
              obtain ⟨a1, a2⟩ := optO_sound hT h1
              obtain ⟨b1, b2⟩ := optO_sound hT h2
              obtain ⟨v', c1, c2⟩ := sliceA_sound (w := w) K ht (ev hx) a1 a2 b1 b2 hq
              exact OpOk.v (VOk.same R c1 c2)
  case fieldAddr t x f =>
    cases hx : evalO s x with
    | none => rw [hx] at e; cases e
    | some v =>
      rw [hx] at e
      exact OpOk.same R (fieldAddrA_sound K (ev hx) e)
  case field t x f =>
    cases hx : evalO s x with
    | none => rw [hx] at e; cases e
    | some v =>
      rw [hx] at e
      exact OpOk.same R (fieldA_sound K (ev hx) e)
  case indexAddr t x ix =>
    cases hx : evalO s x with
    | none => rw [hx] at e; unfold indexAddrA at e; split at e <;> first | (cases e; done) | (rename_i hh _; cases hh)
    | some v =>
      rw [hx] at e
      cases hy : evalO s ix with
      | none => rw [hy] at e; unfold indexAddrA at e; split at e <;> first | (cases e; done) | (rename_i hh; cases hh)
      | some u =>
        rw [hy] at e
        exact OpOk.same R (indexAddrA_sound K (ev hx) (ev hy) e)
  case index t x ix =>
    cases hx : evalO s x with
    | none => rw [hx] at e; unfold indexA at e; split at e <;> first | (cases e; done) | (rename_i hh _; cases hh)
    | some v =>
      rw [hx] at e
      cases hy : evalO s ix with
      | none => rw [hy] at e; unfold indexA at e; split at e <;> first | (cases e; done) | (rename_i hh; cases hh)
      | some u =>
        rw [hy] at e
        exact OpOk.same R (indexA_sound K (ev hx) (ev hy) e)
  case makeInterface t x =>
    unfold ifaceA at e
    split at e
    · rename_i v i hx hi
      split at e
      · cases e
      · rename_i hd
        cases e
        refine OpOk.v (VOk.same R (v' := .iface t (a.eval x)) ?_ (.iface (ev hx)))
        unfold Instr.makeInterface
        simp only [Sem.run_bind, run_und K hi, Result.andThen_ok]
        cases hk : i.desc <;> first | rfl | exact absurd hk (hd _)
    · cases e
  case extract x i =>
    unfold extractA at e
    split at e
    · rename_i vs hx
      obtain ⟨rfl, q, hq, rfl⟩ := ret_some e
      have hr := ev hx
      generalize a.eval x = x' at hr
      cases hr with
      | tuple h1 h2 =>
        rename_i xs ys
        obtain ⟨v', hv, hr⟩ := LR.get ⟨h1, h2⟩ hq
        refine OpOk.v (VOk.same R (v' := v') ?_ hr)
        unfold Instr.extract
        simp only [List.getElem?_toArray, hv]
        rfl
    · cases e
  case lookup t x ix ok =>
    cases hx : evalO s x with
    | none => rw [hx] at e; unfold lookupA entriesA at e; split at e <;> first | (cases e; done) | (rename_i hh _; cases hh)
    | some v =>
      rw [hx] at e
      cases hy : evalO s ix with
      | none => rw [hy] at e; unfold lookupA flatKey at e; split at e <;> first | (cases e; done) | (rename_i hh; cases hh)
      | some u =>
        rw [hy] at e
        exact OpOk.same R (lookupA_sound K R (ev hx) (ev hy) e)
  case mapUpdate t m k x =>
    cases hm : evalO s m with
    | none => rw [hm] at e; unfold mapUpdateA mapA at e; split at e <;> first | (cases e; done) | (rename_i hh _ _; cases hh)
    | some v =>
      rw [hm] at e
      cases hk : evalO s k with
      | none => rw [hk] at e; unfold mapUpdateA flatKey at e; split at e <;> first | (cases e; done) | (rename_i hh _; cases hh)
      | some u =>
        rw [hk] at e
        cases hx : evalO s x with
        | none => rw [hx] at e; unfold mapUpdateA at e; split at e <;> first | (cases e; done) | (rename_i hh; cases hh)
        | some y =>
          rw [hx] at e
          exact OpOk.u (mapUpdateA_sound K R (ev hm) (ev hk) (ev hx) e)
  case range t x =>
    cases hx : evalO s x with
    | none => rw [hx] at e; unfold rangeA at e; split at e <;> first | (cases e; done) | (rename_i hh; cases hh)
    | some v =>
      rw [hx] at e
      exact OpOk.ex (rangeA_sound R K (ev hx) e hf)
  case entry x =>
    cases hx : evalO s x with
    | none => rw [hx] at e; cases e
    | some v =>
      rw [hx] at e
      exact OpOk.same R (entryA_sound R (ev hx) e)
  case mapEntry t m k =>
    cases hm : evalO s m with
    | none => rw [hm] at e; unfold mapEntryA mapA at e; split at e <;> first | (cases e; done) | (rename_i hh _; cases hh)
    | some v =>
      rw [hm] at e
      cases hk : evalO s k with
      | none => rw [hk] at e; unfold mapEntryA flatKey at e; split at e <;> first | (cases e; done) | (rename_i hh; cases hh)
      | some u =>
        rw [hk] at e
        obtain ⟨v1, v', w', h1, h2, h3, h4⟩ := mapEntryA_sound K R (ev hm) (ev hk) e
        exact OpOk.ex ⟨v1, h1, ρ, v', w', h2, h3, h4⟩
  case entryStore t m st x =>
    cases hm : evalO s m with
    | none => rw [hm] at e; unfold entryStoreA mapA at e; split at e <;> first | (cases e; done) | (rename_i hh _ _; cases hh)
    | some v =>
      rw [hm] at e
      cases hk : evalO s st with
      | none => rw [hk] at e; unfold entryStoreA at e; split at e <;> first | (cases e; done) | (rename_i hh _; cases hh)
      | some u =>
        rw [hk] at e
        cases hx : evalO s x with
        | none => rw [hx] at e; unfold entryStoreA at e; split at e <;> first | (cases e; done) | (rename_i hh; cases hh)
        | some y =>
          rw [hx] at e
          exact OpOk.u (entryStoreA_sound R (ev hm) (ev hk) (ev hx) e)
  case next x b =>
    cases b with
    | false => cases e
    | true =>
      simp only [] at e
      cases hx : evalO s x with
      | none => rw [hx] at e; cases e
      | some v =>
        rw [hx] at e
        exact OpOk.ex (nextA_sound R (ev hx) e)
  all_goals (cases e; done)
end Go.Proofs.YtlkhpgocbojdgaaGreatDoor.Ai

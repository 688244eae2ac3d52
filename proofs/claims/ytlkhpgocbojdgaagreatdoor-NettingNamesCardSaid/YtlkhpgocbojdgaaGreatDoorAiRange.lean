/-
  A RANGE OVER A MAP: whichever entry comes next.
-/
import Derived.Test.YtlkhpgocbojdgaaGreatDoorAiX
import Derived.Maps.RangeRun
namespace Go.Proofs.YtlkhpgocbojdgaaGreatDoor.Ai
open Go
set_option linter.unusedSimpArgs false
set_option linter.unusedVariables false
variable {E : Env}

/-- The state behind a step that found an entry, and behind the last. -/
noncomputable def nextSt (s : ASt) (d1 d2 r m since : Nat) (seen : List Nat) (e : MapEntry) : ASt :=
  { s with tmps := (s.tmps.put d1 (.tuple #[.bool true, e.key, e.val])).put d2 (.bool true), heap := s.heap.set r (.mapIter (some m) since (seen ++ [e.born]) since) }
noncomputable def overSt (s : ASt) (d1 d2 : Nat) : ASt :=
  { s with tmps := (s.tmps.put d1 (.tuple #[.bool false])).put d2 (.bool false) }

theorem next_run {ρ0 : Ren} {h0 : AHeap} {w0 : World} {s : ASt} {a : Act} {w : World} (g : Good ρ0 h0 w0 s a w) {it r m since : Nat} {seen : List Nat} {es : List MapEntry} (h1 : s.tmps.get it = some (.pointer (some ⟨r, 0, none⟩)))
    (h2 : s.heap.get r = some (.mapIter (some m) since seen since)) (h3 : s.heap.get m = some (.map es since)) (hold : ∀ e ∈ es, e.born < since) (ty : TypeId) :
    ((∀ e ∈ es, e.born ∈ seen) ∧ (Instr.next (a.eval (.tmp it)) false ty).run E.P w = .ok (.tuple #[.bool false]) w) ∨
    ∃ e v w', e ∈ es ∧ e.born ∉ seen ∧ (Instr.next (a.eval (.tmp it)) false ty).run E.P w = .ok v w' ∧
      ∃ ρ', Adv ρ0 ρ' h0 (s.heap.set r (.mapIter (some m) since (seen ++ [e.born]) since)) w0 w' ∧ VR ρ' (.tuple #[.bool true, e.key, e.val]) v ∧ TR ρ' s.tmps a.tmps ∧ MR ρ' s.marks a.defers := by
  obtain ⟨ρ, A, hT, hM⟩ := g
  have hv := evalO_sound hT (x := .tmp it) h1
  generalize hev : a.eval (.tmp it) = p at hv
  cases hv with
  | ptr hρ =>
    rename_i c N
    obtain ⟨o', ho, hor⟩ := A.rel.obj _ _ h2 c N hρ
    cases hor with
    | mapIter hρm =>
      rename_i cm M
      obtain ⟨om, hom, horm⟩ := A.rel.obj _ _ h3 cm M hρm
      cases horm with
      | map hl he =>
        rename_i fs
        have hold' : ∀ x ∈ fs.toList, x.born < since := by
          intro x hx
          obtain ⟨i, hi⟩ := List.mem_iff_getElem?.1 hx
          have hlt : i < es.length := by
            have := (List.getElem?_eq_some_iff.1 hi).1
            rw [Array.length_toList] at this
            omega
          have := he i _ x (List.getElem?_eq_getElem hlt) (by rw [← Array.getElem?_toList]; exact hi)
          rw [this.born]
          exact hold _ (List.getElem_mem hlt)
        rcases run_next_at (P := E.P) w ty c cm since since ⟨seen⟩ fs since ho hom hold' (Nat.le_refl _) with ⟨k1, k2⟩ | ⟨e', k1, w1, k2, k3⟩
        · refine .inl ⟨fun e hm => ?_, k2⟩
          obtain ⟨i, hi⟩ := List.mem_iff_getElem?.1 hm
          have hlt : i < fs.size := by
            have := (List.getElem?_eq_some_iff.1 hi).1
            omega
          have her := he i e _ hi (Array.getElem?_eq_getElem hlt)
          by_cases hs : e.born ∈ seen
          · exact hs
          · exfalso
            have : fs[i] ∈ leftOf fs ⟨seen⟩ := by
              unfold leftOf
              rw [Array.mem_filter]
              refine ⟨Array.getElem_mem hlt, ?_⟩
              rw [her.born]
              simpa using hs
            have h0 : leftOf fs ⟨seen⟩ = #[] := Array.eq_empty_of_size_eq_zero k1
            rw [h0] at this
            simp at this
        · unfold leftOf at k1
          simp only [Array.toList_filter, List.mem_filter] at k1
          obtain ⟨q1, q2⟩ := k1
          obtain ⟨i, hi⟩ := List.mem_iff_getElem?.1 q1
          have hlt : i < es.length := by
            have := (List.getElem?_eq_some_iff.1 hi).1
            rw [Array.length_toList] at this
            omega
          have her := he i _ e' (List.getElem?_eq_getElem hlt) (by rw [← Array.getElem?_toList]; exact hi)
          refine .inr ⟨es[i], .tuple #[.bool true, e'.key, e'.val], _, List.getElem_mem hlt, ?_, k3, ?_⟩
          · rw [← her.born]
            simpa using q2
          · have hw1 : w1.heap = w.heap ∧ w1.os = w.os ∧ w1.tape = w.tape ∧ w1.output = w.output := by
              rcases k2 with e | e <;> subst e <;> exact ⟨rfl, rfl, rfl, rfl⟩
            have hclt := (Array.getElem?_eq_some_iff.1 ho).1
            have B : Adv ρ ρ s.heap (s.heap.set r (.mapIter (some m) since (seen ++ [es[i].born]) since)) w (ChangeMaps.setBlock w1 c (.mapIter (some cm) since ((⟨seen⟩ : Array Nat).push e'.born) since)) := by
              have hpush : (⟨seen⟩ : Array Nat).push e'.born = ⟨seen ++ [es[i].born]⟩ := by rw [her.born]; simp
              rw [hpush]
              refine Adv.set A.rel h2 rfl hρ _ _ (.mapIter hρm) hw1.2.1 hw1.2.2.1 hw1.2.2.2 ?_ ?_ ?_
              · simp [ChangeMaps.setBlock, hw1.1]
              · simp [ChangeMaps.setBlock, hw1.1, hclt]
              · intro d hd
                simp [ChangeMaps.setBlock, hw1.1, Array.getElem?_setIfInBounds_ne (Ne.symm hd)]
            refine ⟨ρ, A.trans B, .tuple rfl (fun j x y hx hy => ?_), hT, hM⟩
            match j with
            | 0 => simp at hx hy; subst hx; subst hy; exact .bool _
            | 1 => simp at hx hy; subst hx; subst hy; rw [her.key]; exact flat_VR _ her.flat
            | 2 => simp at hx hy; subst hx; subst hy; exact her.val
            | j + 3 => simp at hx

theorem nodup_le : ∀ {l m : List Nat}, l.Nodup → (∀ b ∈ l, b ∈ m) → l.length ≤ m.length
  | [], m, _, _ => Nat.zero_le _
  | x :: l, m, hn, hs => by
    obtain ⟨h1, h2⟩ := List.nodup_cons.1 hn
    have hx := hs x List.mem_cons_self
    have := nodup_le (l := l) (m := m.erase x) h2 (fun b hb => by
      have hb' := hs b (List.mem_cons_of_mem _ hb)
      have hne : b ≠ x := by rintro rfl; exact h1 hb
      exact (List.mem_erase_of_ne hne).2 hb')
    rw [List.length_erase_of_mem hx] at this
    have : 0 < m.length := List.length_pos_of_mem hx
    rw [List.length_cons]
    omega

/-- A loop over a map's entries: the same end, in whatever order they come. -/
theorem LoopR.mapRange {rd : Option Nat} {h0 : AHeap} (K : E.Runs) {id : Nat} {o0 o1 : Oper} {rest : Code} {it d1 d2 r m since : Nat} {es : List MapEntry} {st : List Nat → ASt} {x : AExit} {fin : ASt}
    (q0 : o0.op = .next (.tmp it) false) (g0 : o0.guard = none) (e0 : o0.dst = some d1) (q1 : o1.op = .extract (.tmp d1) 0) (g1 : o1.guard = none) (e1 : o1.dst = some d2)
    (hit : ∀ seen, (st seen).tmps.get it = some (.pointer (some ⟨r, 0, none⟩))) (hr : ∀ seen, (st seen).heap.get r = some (.mapIter (some m) since seen since)) (hm : ∀ seen, (st seen).heap.get m = some (.map es since))
    (hold : ∀ e ∈ es, e.born < since) (hnd : (es.map (·.born)).Nodup)
    (round : ∀ seen e, e ∈ es → e.born ∉ seen → seen.Nodup → (∀ b ∈ seen, b ∈ es.map (·.born)) → Den E rd h0 rest (nextSt (st seen) d1 d2 r m since seen e) .normal (st (seen ++ [e.born])))
    (over : ∀ seen, seen.Nodup → (∀ b, b ∈ seen ↔ b ∈ es.map (·.born)) → Den E rd h0 rest (overSt (st seen) d1 d2) x fin) (hx : x ≠ .normal) :
    LoopR E rd h0 (.seq (.region id #[o0, o1] false) rest) (st []) x fin := by
  -- one step, whatever comes behind it
  have step : ∀ (seen : List Nat) (ρ0 : Ren) (w0 : World) (rc : Option Nat) (N : Nat) (a : Act) (w : World), RD ρ0 rd rc → Tight ρ0 h0 w0 → Rel ρ0 h0 w0 → Good ρ0 h0 w0 (st seen) a w → codeOk N (.seq (.region id #[o0, o1] false) rest) = true → N ≤ a.tmps.size →
      ∀ (Q : Exit → Act → World → Prop), ((∀ e ∈ es, e.born ∈ seen) → ∀ a1 w1, Good ρ0 h0 w0 (overSt (st seen) d1 d2) a1 w1 → a1.tmps.size = a.tmps.size → rest.wpIn (fence rc) 0 E.P Q a1 w1) →
      (∀ e ∈ es, e.born ∉ seen → ∀ a1 w1, Good ρ0 h0 w0 (nextSt (st seen) d1 d2 r m since seen e) a1 w1 → a1.tmps.size = a.tmps.size → rest.wpIn (fence rc) 0 E.P Q a1 w1) →
      (Code.seq (.region id #[o0, o1] false) rest).wpIn (fence rc) 0 E.P Q a w := by
    intro seen ρ0 w0 rc N a w hrd ht R g hc hsz Q hover hnext
    simp only [codeOk, Bool.and_eq_true] at hc
    have hd : ∀ o ∈ (#[o0, o1] : Array Oper).toList, ∀ d, o.dst = some d → d < N := fun o ho d hdd => by
      have := List.all_eq_true.1 hc.1.1 o ho
      rw [hdd] at this
      simpa [Nat.blt_eq] using this
    have hd1 : d1 < a.tmps.size := Nat.lt_of_lt_of_le (hd o0 (by simp) d1 e0) hsz
    refine wpIn_seq (wpIn_region ?_)
    show wpOpsIn (fence rc) 0 E.P #[o0, o1] _ [0, 1] a w
    have hget : (#[o0, o1] : Array Oper)[0]? = some o0 := rfl
    unfold wpOpsIn
    rw [hget]
    dsimp only
    have hw0 : Region.wanted o0 (yielded #[o0, o1] a.tmps) = true := by unfold Region.wanted; rw [g0]
    rw [if_pos hw0]
    refine ⟨fun f _ => fence_fn rc f, ?_⟩
    rw [Oper.semAt_eq _ _ _ (fun c hcc => by rw [q0] at hcc; cases hcc)]
    have hex : ∀ v w', (Instr.next (a.eval (.tmp it)) false o0.type).run E.P w = .ok v w' → (execOp a.eval o0).run E.P w = .ok (.value v) w' := by
      intro v w' hh
      unfold execOp
      rw [q0]
      simp only [Sem.run_bind, hh, Result.andThen_ok, Sem.run_pure]
    -- the second operation
    have second : ∀ (b : Bool) (vs : List Value) (h1 : AHeap) (v : Value) (w' : World) (ρ' : Ren), Adv ρ0 ρ' h0 h1 w0 w' → VR ρ' (.tuple ⟨.bool b :: vs⟩) v → TR ρ' (st seen).tmps a.tmps → MR ρ' (st seen).marks a.defers →
        (∀ a1 w1, Good ρ0 h0 w0 { st seen with tmps := ((st seen).tmps.put d1 (.tuple ⟨.bool b :: vs⟩)).put d2 (.bool b), heap := h1 } a1 w1 → a1.tmps.size = a.tmps.size → rest.wpIn (fence rc) 0 E.P Q a1 w1) →
        wpOpsIn (fence rc) 0 E.P #[o0, o1] (Exit.then (rest.wpIn (fence rc) 0 E.P Q) Q) [1] (a.put o0.dst v) w' := by
      intro b vs h1 v w' ρ' A hv hT hM hk
      rw [e0]
      obtain ⟨hT1, _, hs1, hdf1⟩ := put_sound (a := a) (dst := some d1) (r := some (.tuple ⟨.bool b :: vs⟩)) (v' := v) hT trivial (fun d hdd => by cases hdd; exact hd1) hv
      have hseq : seqOps E (ex E 0) (#[o0, o1] : Array Oper).toList [o1] (putT (st seen).tmps (some d1) (some (.tuple ⟨.bool b :: vs⟩))) h1 = some (((st seen).tmps.put d1 (.tuple ⟨.bool b :: vs⟩)).put d2 (.bool b), h1) := by
        have hwa : wantedA (#[o0, o1] : Array Oper).toList ((st seen).tmps.put d1 (.tuple ⟨.bool b :: vs⟩)) o1 = some true := by unfold wantedA; rw [g1]
        have hst : stepA E (ex E 0) ((st seen).tmps.put d1 (.tuple ⟨.bool b :: vs⟩)) h1 o1 = some (some (.bool b), h1) := by
          unfold stepA
          rw [q1]
          unfold aop
          rw [q1]
          simp only [evalO, T.get_put, if_true, extractA, List.getElem?_cons_zero, ret]
        simp only [putT, seqOps, hwa, hst, e1]
      have := seq_sound K (ex_sound K 0) rc (Q := Exit.then (rest.wpIn (fence rc) 0 E.P Q) Q) hd [o1] 1 rfl hseq (ht.adv A) A.rel hT1 trivial (by rw [hs1]; exact hsz) (fun ρ2 a2 w2 b1 b2 b3 b4 B => ?_)
      · exact this
      · exact hk a2 w2 ⟨ρ2, A.trans B, b1, by rw [b4, hdf1]; exact hM.mono B.ext⟩ (by omega)
    rcases next_run (E := E) g (hit seen) (hr seen) (hm seen) hold o0.type with ⟨k1, k2⟩ | ⟨e, v, w', k1, k2, k3, ρ', A, hv, hT, hM⟩
    · rw [hex _ _ k2, Oper.uponIn_value]
      obtain ⟨ρ, A, hT, hM⟩ := g
      exact second false [] (st seen).heap _ w ρ A (flat_VR _ rfl) hT hM (hover k1)
    · rw [hex _ _ k3, Oper.uponIn_value]
      exact second true [e.key, e.val] _ v w' ρ' A hv hT hM (hnext e k1 k2)
  have key : ∀ (d : Nat) (seen : List Nat), seen.length + d = es.length → seen.Nodup → (∀ b ∈ seen, b ∈ es.map (·.born)) → DenL E rd h0 (d + 1) (.seq (.region id #[o0, o1] false) rest) (st seen) x fin := by
    intro d
    induction d with
    | zero =>
      intro seen hl hs hsub ρ0 w0 rc N a w hrd ht R g hc hsz Q hQ
      have hc' := hc
      simp only [codeOk, Bool.and_eq_true] at hc'
      rw [roundsIn_succ]
      refine step seen ρ0 w0 rc N a w hrd ht R g hc hsz _ ?_ ?_
      · intro hall a1 w1 g1 hs1
        refine over seen hs (fun b => ⟨hsub b, fun hb => ?_⟩) ρ0 w0 rc N a1 w1 hrd ht R g1 hc'.2 (by omega) _ (fun a2 w2 g2 hs2 => ?_)
        · obtain ⟨e, h1, rfl⟩ := List.mem_map.1 hb
          exact hall e h1
        · have := hQ a2 w2 g2 (by omega)
          cases x with
          | normal => exact absurd rfl hx
          | exit i => exact this
          | ret => exact this
      · intro e he hne
        exfalso
        have := nodup_le (l := e.born :: seen) (m := es.map (·.born)) (List.nodup_cons.2 ⟨hne, hs⟩) (fun b hb => by
          rcases List.mem_cons.1 hb with q | q
          · rw [q]; exact List.mem_map.2 ⟨e, he, rfl⟩
          · exact hsub b q)
        simp at this
        omega
    | succ d ih =>
      intro seen hl hs hsub ρ0 w0 rc N a w hrd ht R g hc hsz Q hQ
      have hc' := hc
      simp only [codeOk, Bool.and_eq_true] at hc'
      rw [roundsIn_succ]
      refine step seen ρ0 w0 rc N a w hrd ht R g hc hsz _ ?_ ?_
      · intro hall a1 w1 g1 hs1
        refine over seen hs (fun b => ⟨hsub b, fun hb => ?_⟩) ρ0 w0 rc N a1 w1 hrd ht R g1 hc'.2 (by omega) _ (fun a2 w2 g2 hs2 => ?_)
        · obtain ⟨e, h1, rfl⟩ := List.mem_map.1 hb
          exact hall e h1
        · have := hQ a2 w2 g2 (by omega)
          cases x with
          | normal => exact absurd rfl hx
          | exit i => exact this
          | ret => exact this
      · intro e he hne a1 w1 g1 hs1
        refine round seen e he hne hs hsub ρ0 w0 rc N a1 w1 hrd ht R g1 hc'.2 (by omega) _ (fun a2 w2 g2 hs2 => ?_)
        refine ih (seen ++ [e.born]) (by simp; omega) ?_ ?_ ρ0 w0 rc N a2 w2 hrd ht R g2 hc (by omega) Q (fun a3 w3 g3 hs3 => hQ a3 w3 g3 (by omega))
        · rw [List.nodup_append]
          refine ⟨hs, by simp, fun b hb c hcm => ?_⟩
          simp at hcm
          subst hcm
          rintro rfl
          exact hne hb
        · intro b hb
          rcases List.mem_append.1 hb with q | q
          · exact hsub b q
          · simp at q
            rw [q]
            exact List.mem_map.2 ⟨e, he, rfl⟩
  exact ⟨_, key es.length [] (by simp) List.nodup_nil (by simp)⟩
end Go.Proofs.YtlkhpgocbojdgaaGreatDoor.Ai

/-
  EACH OPERATION OF THE EVALUATOR IS ONE OF THE MACHINE's: maps with keys without addresses; copy; clear.
-/
import Derived.Test.YtlkhpgocbojdgaaGreatDoorAiOps6
namespace Go.Proofs.YtlkhpgocbojdgaaGreatDoor.Ai
open Go
set_option linter.unusedSimpArgs false
set_option linter.unusedVariables false
variable {E : Env} {ρ : Ren} {h h' : AHeap} {w : World}

theorem runP_bind {α β : Type} (P : Program) : ∀ (s : Sem α) {f : α → Sem β} {b : β}, runP P (s >>= f) = some b → ∃ a, runP P s = some a ∧ runP P (f a) = some b := by
  intro s
  induction s with
  | pure a => intro f b e; exact ⟨a, rfl, e⟩
  | program k ih => intro f b e; exact ih P e
  | mark m k ih => intro f b e; exact ih e
  | _ => intro f b e; cases e

/-- Entries that correspond, as lists. -/
def EL (ρ : Ren) (es fs : List MapEntry) : Prop := es.length = fs.length ∧ ∀ (i : Nat) e e', es[i]? = some e → fs[i]? = some e' → ER ρ e e'
theorem EL.cons {e f : MapEntry} {es fs : List MapEntry} (h : EL ρ (e :: es) (f :: fs)) : ER ρ e f ∧ EL ρ es fs :=
  ⟨h.2 0 _ _ rfl rfl, by simpa using h.1, fun i a b ha hb => h.2 (i + 1) a b (by simpa using ha) (by simpa using hb)⟩

/-- What is found corresponds. -/
def FR (ρ : Ren) : Option (Nat × Value) → Option (Nat × Value) → Prop
  | none, none => True
  | some (i, v), some (j, v') => i = j ∧ VR ρ v v'
  | _, _ => False

theorem findNow_sound {d : TypeDesc} {k : Value} : ∀ (es fs : List MapEntry) (i : Nat), EL ρ es fs → (Instr.findNow d k es i = none ∧ Instr.findNow d k fs i = none) ∨
    ∃ r r', Instr.findNow d k es i = some r ∧ Instr.findNow d k fs i = some r' ∧ FR ρ r r'
  | [], [], i, hE => .inr ⟨none, none, rfl, rfl, trivial⟩
  | e :: es, f :: fs, i, hE => by
    obtain ⟨h1, h2⟩ := hE.cons
    unfold Instr.findNow
    rw [h1.key]
    split
    · rename_i hs
      exact .inr ⟨_, _, rfl, rfl, rfl, h1.val⟩
    · rename_i hs
      exact findNow_sound es fs (i + 1) h2
    · exact .inl ⟨rfl, rfl⟩
  | [], f :: fs, i, hE => by have := hE.1; simp at this
  | e :: es, [], i, hE => by have := hE.1; simp at this

theorem findAsking_sound {P : Program} {kt : TypeId} {k : Value} : ∀ (es fs : List MapEntry) (i : Nat) {r : Option (Nat × Value)}, EL ρ es fs → runP P (Instr.findAsking kt k es i) = some r →
    ∃ r', (Instr.findAsking kt k fs i).run P w = .ok r' w ∧ FR ρ r r'
  | [], [], i, r, hE, e => by cases e; exact ⟨none, rfl, trivial⟩
  | e :: es, f :: fs, i, r, hE, he => by
    obtain ⟨h1, h2⟩ := hE.cons
    unfold Instr.findAsking at he ⊢
    obtain ⟨b, hb, he⟩ := runP_bind P _ he
    have hr := runP_run P _ hb w
    rw [h1.key]
    simp only [Sem.run_bind, hr, Result.andThen_ok]
    cases b with
    | true => cases he; exact ⟨_, rfl, rfl, h1.val⟩
    | false => exact findAsking_sound es fs (i + 1) h2 he
  | [], f :: fs, i, r, hE, e => by have := hE.1; simp at this
  | e :: es, [], i, r, hE, e' => by have := hE.1; simp at this

theorem findKey_sound {P : Program} {kt : TypeId} {k : Value} {es fs : List MapEntry} {r : Option (Nat × Value)} (hE : EL ρ es fs) (e : runP P (Instr.findKey kt k es) = some r) :
    ∃ r', (Instr.findKey kt k fs).run P w = .ok r' w ∧ FR ρ r r' := by
  unfold Instr.findKey at e ⊢
  obtain ⟨d, hd, e⟩ := runP_bind P _ e
  have hr := runP_run P _ hd w
  simp only [Sem.run_bind, hr, Result.andThen_ok]
  rcases findNow_sound (d := d) (k := k) es fs 0 hE with ⟨h1, h2⟩ | ⟨q, q', h1, h2, h3⟩
  · rw [h1] at e
    rw [h2]
    exact findAsking_sound es fs 0 hE e
  · rw [h1] at e
    rw [h2]
    cases e
    exact ⟨q', rfl, h3⟩

theorem mapD_some {t kt et : TypeId} (e : mapD (E.ty.get t) = some (kt, et)) : ∃ i, E.ty.get t = some i ∧ i.desc = .map kt et := by
  unfold mapD at e
  split at e
  · rename_i k e0 z s b he
    cases e
    exact ⟨_, he, rfl⟩
  · cases e

theorem flatKey_some {x : Option Value} {k : Value} (e : flatKey x = some k) : x = some k ∧ flat k = true := by
  unfold flatKey at e
  split at e
  · split at e
    · rename_i hf; cases e; exact ⟨rfl, hf⟩
    · cases e
  · cases e

theorem lookupA_sound (K : E.Ok) (R : Rel ρ h w) {t : TypeId} {ok : Bool} {x x' k k' : Value} {r : Option Value} (hx : VR ρ x x') (hk : VR ρ k k')
    (e : lookupA E h ok (mapD (E.ty.get t)) (entriesA h (some x)) (flatKey (some k)) = some (r, h')) :
    h' = h ∧ ∃ v v', r = some v ∧ (Instr.lookup t x' k' ok).run E.P w = .ok v' w ∧ VR ρ v v' := by
  unfold lookupA at e
  split at e
  · rename_i kt et es k0 hd hes hk0
    obtain ⟨i, ht, hdesc⟩ := mapD_some hd
    obtain ⟨hk1, hkf⟩ := flatKey_some hk0
    cases hk1
    have hkk := flat_eq hkf hk
    subst hkk
    have hes' : ∃ fs : Array MapEntry, EL ρ es fs.toList ∧ (Instr.lookup t x' k' ok).run E.P w =
        ((do
          Instr.checkKey fs.isEmpty 10000 kt k'
          let (v, ok') ← match ← Instr.findKey kt k' fs.toList with
            | some (_, v) => pure (v, true)
            | none => pure (← zeroValue et, false)
          pure (if ok then .tuple #[v, .bool ok'] else v)) : Sem Value).run E.P w := by
      unfold entriesA at hes
      split at hes
      · rename_i hx0
        cases hx0
        cases hx
        cases hes
        refine ⟨#[], ⟨rfl, fun i a b h => by simp at h⟩, ?_⟩
        unfold Instr.lookup
        simp only [Sem.run_bind, run_und K ht, hdesc, Result.andThen_ok, Sem.run_pure]
        rfl
      · rename_i b hx0
        cases hx0
        cases hx with
        | map hρ =>
          rename_i c N
          split at hes
          · rename_i es0 cl hg
            cases hes
            obtain ⟨o', ho, hor⟩ := R.obj _ _ hg c N hρ
            cases hor with
            | map hl he =>
              rename_i fs
              refine ⟨fs, ⟨by simpa using hl, fun i a b ha hb => he i a b ha (by simpa using hb)⟩, ?_⟩
              unfold Instr.lookup
              have hget : (getObj c).run E.P w = .ok (.map fs cl) w := by simp [getObj, Sem.run, ho]
              simp only [Sem.run_bind, run_und K ht, hdesc, Result.andThen_ok, hget, Sem.run_pure]
              rfl
          · cases hes
      · cases hes
    obtain ⟨fs, hEL, hrun⟩ := hes'
    have hemp : fs.isEmpty = es.isEmpty := by
      have hl : es.length = fs.size := by simpa using hEL.1
      unfold Array.isEmpty
      rw [← hl]
      cases es <;> rfl
    rw [hrun, hemp]
    split at e
    · rename_i z0 i0 v z hck hfk hz
      cases e
      obtain ⟨r', h1, h2⟩ := findKey_sound (w := w) hEL hfk
      match r', h2 with
      | some (j, v'), ⟨_, hv⟩ =>
        simp only [Sem.run_bind, runP_run E.P _ hck w, Result.andThen_ok, h1, Sem.run_pure]
        cases ok with
        | true => exact ⟨by trivial, _, _, rfl, rfl, .tuple rfl (fun i a b ha hb => by
            match i with
            | 0 => simp at ha hb; subst ha; subst hb; exact hv
            | 1 => simp at ha hb; subst ha; subst hb; exact .bool _
            | i + 2 => simp at ha)⟩
        | false => exact ⟨by trivial, _, _, rfl, rfl, hv⟩
    · rename_i z0 z hck hfk hz
      cases e
      obtain ⟨r', h1, h2⟩ := findKey_sound (w := w) hEL hfk
      match r', h2 with
      | none, _ =>
        unfold zeroOf at hz
        cases hie : E.ty.get et with
        | none => rw [hie] at hz; cases hz
        | some ie =>
          rw [hie] at hz
          cases hz
          have hzv := flat_VR ρ (K.ty et ie hie).2.1
          simp only [Sem.run_bind, runP_run E.P _ hck w, Result.andThen_ok, h1, run_zero K hie, Sem.run_pure]
          cases ok with
          | true => exact ⟨by trivial, _, _, rfl, rfl, .tuple rfl (fun i a b ha hb => by
              match i with
              | 0 => simp at ha hb; subst ha; subst hb; exact hzv
              | 1 => simp at ha hb; subst ha; subst hb; exact .bool _
              | i + 2 => simp at ha)⟩
          | false => exact ⟨by trivial, _, _, rfl, rfl, hzv⟩
    · cases e
  · cases e

theorem mapUpdateA_sound (K : E.Ok) (R : Rel ρ h w) {t : TypeId} {m m' k k' x x' : Value} {r : Option Value} (hm : VR ρ m m') (hk : VR ρ k k') (hx : VR ρ x x')
    (e : mapUpdateA E h (mapD (E.ty.get t)) (mapA h (some m)) (flatKey (some k)) (some x) = some (r, h')) :
    r = none ∧ ∃ w', (Instr.mapUpdate t m' k' x').run E.P w = .ok () w' ∧ Adv ρ ρ h h' w w' := by
  unfold mapUpdateA at e
  split at e
  · rename_i kt et b es clock k0 x0 hd hma hk0 hx0
    cases hx0
    obtain ⟨i, ht, hdesc⟩ := mapD_some hd
    obtain ⟨hk1, hkf⟩ := flatKey_some hk0
    cases hk1
    have hkk := flat_eq hkf hk
    subst hkk
    unfold mapA at hma
    split at hma
    · rename_i b0 hm0
      cases hm0
      split at hma
      · rename_i es0 cl hg
        cases hma
        cases hm with
        | map hρ =>
          rename_i c N
          obtain ⟨o', ho, hor⟩ := R.obj _ _ hg c N hρ
          cases hor with
          | map hl he =>
            rename_i fs
            have hEL : EL ρ es fs.toList := ⟨by simpa using hl, fun i a b ha hb => he i a b ha (by simpa using hb)⟩
            have hget : (getObj c).run E.P w = .ok (.map fs clock) w := by simp [getObj, Sem.run, ho]
            split at e
            · rename_i z0 i0 v0 hck hfk
              split at e
              · rename_i e0 he0
                split at e
                · rename_i hsb
                  cases e
                  obtain ⟨r', h1, h2⟩ := findKey_sound (w := w) hEL hfk
                  match r', h2 with
                  | some (j, v'), ⟨hij, _⟩ =>
                    subst hij
                    have hjl : i0 < fs.size := by have := (List.getElem?_eq_some_iff.1 he0).1; omega
                    have hkey : fs[i0].key = e0.key := (he i0 e0 _ he0 (Array.getElem?_eq_getElem hjl)).key
                    obtain ⟨hs, A⟩ := setObj_sound (E := E) R hg hρ ho (by intro a e f; simp) (OR.map (ρ := ρ) (N := N) (es := es.modify i0 fun e => { e with key := k', val := x }) (fs := fs.modify i0 fun e => { e with key := k', val := x' }) (clock := clock) (by simp [hl]) (fun j a b ha hb => by
                      rw [List.getElem?_modify] at ha
                      rw [Array.getElem?_modify] at hb
                      by_cases hji : i0 = j
                      · subst hji
                        rw [he0] at ha
                        rw [if_pos rfl, Array.getElem?_eq_getElem hjl] at hb
                        simp at ha hb
                        subst ha
                        subst hb
                        have := he i0 e0 _ he0 (Array.getElem?_eq_getElem hjl)
                        exact ⟨rfl, hkf, hx, this.born⟩
                      · rw [if_neg hji] at hb
                        simp [hji] at ha
                        exact he j a b ha hb))
                    refine ⟨rfl, _, ?_, A⟩
                    unfold Instr.mapUpdate
                    simp only [Sem.run_bind, run_und K ht, hdesc, Result.andThen_ok, hget, runP_run E.P _ hck w, h1, Instr.keyThatStays]
                    rw [show ((fs[i0]?).map (·.key)).getD k' = e0.key by rw [Array.getElem?_eq_getElem hjl]; exact hkey]
                    rw [if_pos hsb]
                    simp only [Sem.run_pure, Result.andThen_ok]
                    exact hs
                · cases e
              · cases e
            · rename_i z0 hck hfk
              cases e
              obtain ⟨r', h1, h2⟩ := findKey_sound (w := w) hEL hfk
              match r', h2 with
              | none, _ =>
                obtain ⟨hs, A⟩ := setObj_sound (E := E) R hg hρ ho (by intro a e f; simp) (OR.map (ρ := ρ) (N := N) (es := es ++ [{ key := k', val := x, born := clock }]) (fs := fs.push { key := k', val := x', born := clock }) (clock := clock + 1) (by simp [hl]) (fun j a b ha hb => by
                  rw [List.getElem?_append] at ha
                  rw [Array.getElem?_push] at hb
                  by_cases hj : j < es.length
                  · rw [if_pos hj] at ha
                    rw [if_neg (by omega)] at hb
                    exact he j a b ha hb
                  · rw [if_neg hj] at ha
                    have hj0 : j - es.length = 0 := by
                      have := (List.getElem?_eq_some_iff.1 ha).1
                      simp at this
                      omega
                    rw [hj0] at ha
                    rw [if_pos (by omega)] at hb
                    simp at ha hb
                    subst ha
                    subst hb
                    exact ⟨rfl, hkf, hx, rfl⟩))
                refine ⟨rfl, _, ?_, A⟩
                unfold Instr.mapUpdate
                simp only [Sem.run_bind, run_und K ht, hdesc, Result.andThen_ok, hget, runP_run E.P _ hck w, h1]
                exact hs
            · cases e
      · cases hma
    · cases hma
  · cases e

theorem find_sound : ∀ {es fs : List MapEntry} {e : MapEntry} {s : Nat}, EL ρ es fs → es.find? (fun e => e.born == s) = some e → ∃ e', fs.find? (fun e => e.born == s) = some e' ∧ ER ρ e e'
  | [], fs, e, s, _, h => by cases h
  | x :: es, [], e, s, hE, h => by have := hE.1; simp at this
  | x :: es, y :: fs, e, s, hE, h => by
    have hxy : ER ρ x y := hE.2 0 x y rfl rfl
    have hE' : EL ρ es fs := ⟨by simpa using hE.1, fun i a b ha hb => hE.2 (i + 1) a b (by simpa using ha) (by simpa using hb)⟩
    rw [List.find?_cons] at h ⊢
    rw [hxy.born]
    split at h
    · cases h
      exact ⟨y, rfl, hxy⟩
    · exact find_sound hE' h
theorem findIdx_sound : ∀ {es fs : List MapEntry} {b : Int}, EL ρ es fs → fs.findIdx? (fun e => (e.born : Int) == b) = es.findIdx? (fun e => (e.born : Int) == b)
  | [], [], b, _ => rfl
  | [], y :: fs, b, hE => by have := hE.1; simp at this
  | x :: es, [], b, hE => by have := hE.1; simp at this
  | x :: es, y :: fs, b, hE => by
    have hxy : ER ρ x y := hE.2 0 x y rfl rfl
    have hE' : EL ρ es fs := ⟨by simpa using hE.1, fun i a b ha hb => hE.2 (i + 1) a b (by simpa using ha) (by simpa using hb)⟩
    rw [List.findIdx?_cons, List.findIdx?_cons, hxy.born, findIdx_sound hE']

theorem entryA_sound (R : Rel ρ h w) {x x' : Value} {r : Option Value} (hx : VR ρ x x') (e : entryA h (some x) = some (r, h')) :
    h' = h ∧ ∃ v v', r = some v ∧ (Instr.entry x').run E.P w = .ok v' w ∧ VR ρ v v' := by
  unfold entryA at e
  split at e
  · rename_i b hxx
    cases hxx
    cases hx with
    | ptr hρ =>
      rename_i c N
      split at e
      · rename_i m since seen stepped hg
        split at e
        · rename_i stamp es clock hl hm
          split at e
          · rename_i en hcl hfi
            cases e
            obtain ⟨o', ho, hor⟩ := R.obj _ _ hg c N hρ
            cases hor with
            | mapIter hρm =>
              rename_i cm M
              obtain ⟨om, hom, horm⟩ := R.obj _ _ hm cm M hρm
              cases horm with
              | map hll he =>
                rename_i fs
                have hEL : EL ρ es fs.toList := ⟨by simpa using hll, fun i a b ha hb => he i a b ha (by simpa using hb)⟩
                obtain ⟨e', h1, h2⟩ := find_sound hEL hfi
                rw [Array.find?_toList] at h1
                have hget : (getObj c).run E.P w = .ok (.mapIter (some cm) since ⟨seen⟩ stepped) w := by simp [getObj, Sem.run, ho]
                have hget2 : (getObj cm).run E.P w = .ok (.map fs clock) w := by simp [getObj, Sem.run, hom]
                have hcl' := Nat.eq_of_beq_eq_true hcl
                have hback : (⟨seen⟩ : Array Nat).back? = some stamp := by rw [← hl]; simp
                refine ⟨rfl, _, .tuple #[e'.key, e'.val], rfl, ?_, .tuple rfl (fun i a b ha hb => ?_)⟩
                · unfold Instr.entry
                  simp only [Sem.run_bind, hget, Result.andThen_ok, hback, hget2, hcl', bne_self_eq_false, Bool.false_eq_true, if_false, h1]
                  simp [h1]
                · match i with
                  | 0 => simp at ha hb; subst ha; subst hb; rw [h2.key]; exact flat_VR _ h2.flat
                  | 1 => simp at ha hb; subst ha; subst hb; exact h2.val
                  | i + 2 => simp at ha
          · cases e
        · cases e
      · cases e
  · cases e

theorem mapEntryA_sound (K : E.Ok) (R : Rel ρ h w) {t : TypeId} {m m' k k' : Value} {r : Option Value} (hm : VR ρ m m') (hk : VR ρ k k')
    (e : mapEntryA E h (mapD (E.ty.get t)) (mapA h (some m)) (flatKey (some k)) = some (r, h')) :
    ∃ v v' w', r = some v ∧ (Instr.mapEntry t m' k').run E.P w = .ok v' w' ∧ VR ρ v v' ∧ Adv ρ ρ h h' w w' := by
  unfold mapEntryA at e
  split at e
  · rename_i kt et b es clock k0 hd hma hk0
    obtain ⟨i, ht, hdesc⟩ := mapD_some hd
    obtain ⟨hk1, hkf⟩ := flatKey_some hk0
    cases hk1
    have hkk := flat_eq hkf hk
    subst hkk
    unfold mapA at hma
    split at hma
    · rename_i b0 hm0
      cases hm0
      split at hma
      · rename_i es0 cl hg
        cases hma
        cases hm with
        | map hρ =>
          rename_i c N
          obtain ⟨o', ho, hor⟩ := R.obj _ _ hg c N hρ
          cases hor with
          | map hl he =>
            rename_i fs
            have hEL : EL ρ es fs.toList := ⟨by simpa using hl, fun i a b ha hb => he i a b ha (by simpa using hb)⟩
            have hget : (getObj c).run E.P w = .ok (.map fs clock) w := by simp [getObj, Sem.run, ho]
            split at e
            · rename_i z0 i0 v0 hck hfk
              split at e
              · rename_i e0 he0
                split at e
                · rename_i hsb
                  cases e
                  obtain ⟨r', h1, h2⟩ := findKey_sound (w := w) hEL hfk
                  match r', h2 with
                  | some (j, v'), ⟨hij, hv⟩ =>
                    subst hij
                    have hjl : i0 < fs.size := by have := (List.getElem?_eq_some_iff.1 he0).1; omega
                    have her := he i0 e0 _ he0 (Array.getElem?_eq_getElem hjl)
                    obtain ⟨hs, A⟩ := setObj_sound (E := E) R hg hρ ho (by intro a e f; simp) (OR.map (ρ := ρ) (N := N) (es := es.modify i0 fun e => { e with key := k' }) (fs := fs.modify i0 fun e => { e with key := k' }) (clock := clock) (by simp [hl]) (fun j a b ha hb => by
                      rw [List.getElem?_modify] at ha
                      rw [Array.getElem?_modify] at hb
                      by_cases hji : i0 = j
                      · subst hji
                        rw [he0] at ha
                        rw [if_pos rfl, Array.getElem?_eq_getElem hjl] at hb
                        simp at ha hb
                        subst ha
                        subst hb
                        exact ⟨rfl, hkf, her.val, her.born⟩
                      · rw [if_neg hji] at hb
                        simp [hji] at ha
                        exact he j a b ha hb))
                    refine ⟨_, .tuple #[v', .int .i64 e0.born], _, rfl, ?_, .tuple rfl (fun i a b ha hb => ?_), A⟩
                    · unfold Instr.mapEntry
                      simp only [Sem.run_bind, run_und K ht, hdesc, Result.andThen_ok, hget, runP_run E.P _ hck w, h1, Instr.keyThatStays]
                      rw [show ((fs[i0]?).map (·.key)).getD k' = e0.key by rw [Array.getElem?_eq_getElem hjl]; exact her.key]
                      rw [if_pos hsb]
                      simp only [Sem.run_pure, Result.andThen_ok]
                      rw [show ((fs[i0]?).map (fun x => (x.born : Int))).getD 0 = (e0.born : Int) by rw [Array.getElem?_eq_getElem hjl]; exact congrArg Int.ofNat her.born]
                      simp only [Sem.run_bind, hs, Result.andThen_ok, Sem.run_pure]
                      rfl
                    · match i with
                      | 0 => simp at ha hb; subst ha; subst hb; exact hv
                      | 1 => simp at ha hb; subst ha; subst hb; exact .int _ _
                      | i + 2 => simp at ha
                · cases e
              · cases e
            · rename_i z0 z hck hfk hz
              cases e
              obtain ⟨r', h1, h2⟩ := findKey_sound (w := w) hEL hfk
              match r', h2 with
              | none, _ =>
                unfold zeroOf at hz
                cases hie : E.ty.get et with
                | none => rw [hie] at hz; cases hz
                | some ie =>
                  rw [hie] at hz
                  cases hz
                  have hzv := flat_VR ρ (K.ty et ie hie).2.1
                  obtain ⟨hs, A⟩ := setObj_sound (E := E) R hg hρ ho (by intro a e f; simp) (OR.map (ρ := ρ) (N := N) (es := es ++ [{ key := k', val := ie.zero, born := clock }]) (fs := fs.push { key := k', val := ie.zero, born := clock }) (clock := clock + 1) (by simp [hl]) (fun j a b ha hb => by
                    rw [List.getElem?_append] at ha
                    rw [Array.getElem?_push] at hb
                    by_cases hj : j < es.length
                    · rw [if_pos hj] at ha
                      rw [if_neg (by omega)] at hb
                      exact he j a b ha hb
                    · rw [if_neg hj] at ha
                      have hj0 : j - es.length = 0 := by
                        have := (List.getElem?_eq_some_iff.1 ha).1
                        simp at this
                        omega
                      rw [hj0] at ha
                      rw [if_pos (by omega)] at hb
                      simp at ha hb
                      subst ha
                      subst hb
                      exact ⟨rfl, hkf, hzv, rfl⟩))
                  refine ⟨_, .tuple #[ie.zero, .int .i64 clock], _, rfl, ?_, .tuple rfl (fun i a b ha hb => ?_), A⟩
                  · unfold Instr.mapEntry
                    simp only [Sem.run_bind, run_und K ht, hdesc, Result.andThen_ok, hget, runP_run E.P _ hck w, h1, run_zero K hie, hs, Sem.run_pure]
                    rfl
                  · match i with
                    | 0 => simp at ha hb; subst ha; subst hb; exact hzv
                    | 1 => simp at ha hb; subst ha; subst hb; exact .int _ _
                    | i + 2 => simp at ha
            · cases e
      · cases hma
    · cases hma
  · cases e

theorem entryStoreA_sound (R : Rel ρ h w) {t : TypeId} {m m' s s' x x' : Value} {r : Option Value} (hm : VR ρ m m') (hst : VR ρ s s') (hx : VR ρ x x')
    (e : entryStoreA h (mapA h (some m)) (some s) (some x) = some (r, h')) : r = none ∧ ∃ w', (Instr.entryStore t m' s' x').run E.P w = .ok () w' ∧ Adv ρ ρ h h' w w' := by
  unfold entryStoreA at e
  split at e
  · rename_i b es clock bb x0 hma hb hx0
    cases hx0
    cases hst <;> simp [intV] at hb
    subst hb
    unfold mapA at hma
    split at hma
    · rename_i b0 hm0
      cases hm0
      split at hma
      · rename_i es0 cl hg
        cases hma
        cases hm with
        | map hρ =>
          rename_i c N
          obtain ⟨o', ho, hor⟩ := R.obj _ _ hg c N hρ
          cases hor with
          | map hl he =>
            rename_i fs
            have hEL : EL ρ es fs.toList := ⟨by simpa using hl, fun i a b ha hb => he i a b ha (by simpa using hb)⟩
            have hget : (getObj c).run E.P w = .ok (.map fs clock) w := by simp [getObj, Sem.run, ho]
            split at e
            · rename_i i0 hi
              cases e
              have hfi := hi
              rw [← findIdx_sound hEL, ← List.findIdx?_toArray, Array.toArray_toList] at hfi
              obtain ⟨hs, A⟩ := setObj_sound (E := E) R hg hρ ho (by intro a e f; simp) (OR.map (ρ := ρ) (N := N) (es := es.modify i0 fun e => { e with val := x }) (fs := fs.modify i0 fun e => { e with val := x' }) (clock := clock) (by simp [hl]) (fun j a b ha hb => by
                rw [List.getElem?_modify] at ha
                rw [Array.getElem?_modify] at hb
                by_cases hji : i0 = j
                · subst hji
                  rw [if_pos rfl] at hb
                  cases hea : es[i0]? with
                  | none => rw [hea] at ha; simp at ha
                  | some ea =>
                    cases heb : fs[i0]? with
                    | none => rw [heb] at hb; simp at hb
                    | some eb =>
                      rw [hea] at ha
                      rw [heb] at hb
                      simp at ha hb
                      subst ha
                      subst hb
                      have := he i0 ea eb hea heb
                      exact ⟨this.key, this.flat, hx, this.born⟩
                · rw [if_neg hji] at hb
                  simp [hji] at ha
                  exact he j a b ha hb))
              refine ⟨rfl, _, ?_, A⟩
              unfold Instr.entryStore
              simp only [Sem.run_bind, hget, Result.andThen_ok, asInt, asIntOf, Sem.run_pure, hfi]
              exact hs
            · cases e
      · cases hma
    · cases hma
  · cases e
end Go.Proofs.YtlkhpgocbojdgaaGreatDoor.Ai

/-
  EACH OPERATION OF THE EVALUATOR IS ONE OF THE MACHINE's.
-/
import Derived.Test.YtlkhpgocbojdgaaGreatDoorAiCore
namespace Go.Proofs.YtlkhpgocbojdgaaGreatDoor.Ai
open Go
set_option linter.unusedSimpArgs false
set_option linter.unusedVariables false
variable {E : Env} {ρ : Ren} {h h' : AHeap} {w : World}

/-- A computation of the machine's gives what the evaluator has. -/
def VOk (E : Env) (ρ : Ren) (h h' : AHeap) (w : World) (s : Sem Value) (v : Value) : Prop :=
  ∃ ρ' v' w', s.run E.P w = .ok v' w' ∧ VR ρ' v v' ∧ Adv ρ ρ' h h' w w'
def UOk (E : Env) (ρ : Ren) (h h' : AHeap) (w : World) (s : Sem Unit) : Prop :=
  ∃ ρ' w', s.run E.P w = .ok () w' ∧ Adv ρ ρ' h h' w w'

theorem VOk.same {s : Sem Value} {v v' : Value} (R : Rel ρ h w) (e : s.run E.P w = .ok v' w) (r : VR ρ v v') : VOk E ρ h h w s v := ⟨ρ, v', w, e, r, .refl R⟩

section types
variable (K : E.Ok)
include K
theorem run_und {t : TypeId} {i : TyI} (e : E.ty.get t = some i) : (underlying t).run E.P w = .ok i.desc w := run_underlying (K.ty t i e).1 w
theorem run_size {t : TypeId} {i : TyI} (e : E.ty.get t = some i) : (sizeOf t).run E.P w = .ok i.size w := by
  obtain ⟨_, _, _, ti, h1, h2, h3, h4⟩ := K.ty t i e
  simp [sizeOf, typeInfo, h1, h3]
theorem run_zero {t : TypeId} {i : TyI} (e : E.ty.get t = some i) : (zeroValue t).run E.P w = .ok i.zero w := by
  obtain ⟨_, _, _, ti, h1, h2, h3, h4⟩ := K.ty t i e
  simp [zeroValue, typeInfo, h1, h2]
theorem run_isAgg {t : TypeId} {i : TyI} (e : E.ty.get t = some i) : (isAgg t).run E.P w = .ok (isAggD i.desc) w := by
  unfold isAgg isAggD
  simp only [Sem.run_bind, run_und K e, Result.andThen_ok]
  cases i.desc <;> rfl
end types

theorem runP_run {α : Type} (P : Program) : ∀ (s : Sem α) {a : α}, runP P s = some a → ∀ w, s.run P w = .ok a w := by
  intro s
  induction s with
  | pure b => intro a e w; simp only [runP, Option.some.injEq] at e; subst e; rfl
  | program k ih => intro a e w; simp only [runP] at e; exact ih P e w
  | mark m k ih => intro a e w; simp only [runP] at e; exact ih e w
  | _ => intro a e w; simp [runP] at e

theorem wrapCells_sound {agg : Bool} {l l' : List Value} {v : Value} (hL : LR ρ l l') (e : wrapCells agg l = some v) :
    ∃ v', wrapCells agg l' = some v' ∧ VR ρ v v' := by
  unfold wrapCells at e
  split at e
  · cases e
    exact ⟨.agg ⟨l'⟩, rfl, .agg hL.1 hL.2⟩
  · cases e
    obtain ⟨v', rfl, r⟩ := hL.one
    exact ⟨v', rfl, r⟩
  · cases e

theorem loadVar_run (K : E.Ok) {t : TypeId} {i : TyI} (e : E.ty.get t = some i) {c off : Nat} {l' : List Value} {v' : Value} (hl : l'.length = i.size) (hA : At w c off l')
    (hw : wrapCells (isAggD i.desc) l' = some v') : (loadVar t ⟨c, off, none⟩).run E.P w = .ok v' w := by
  unfold loadVar
  simp only [Sem.run_bind, run_isAgg K e, Result.andThen_ok]
  cases ha : isAggD i.desc with
  | true =>
    rw [ha] at hw
    cases hw
    simp only [if_true, Sem.run_bind, run_size K e, Result.andThen_ok, ← hl]
    rw [run_loadCells_list w ⟨c, off, none⟩ l' (fun j v hj => by rw [addr_add]; exact hA j v hj)]
    rfl
  | false =>
    rw [ha] at hw
    match l', hw with
    | [v], hw =>
      cases hw
      have := hA 0 _ rfl
      simp only [Nat.add_zero] at this
      simp [this]

theorem loadA_sound (K : E.Ok) (R : Rel ρ h w) {x x' : Value} {t : TypeId} {r : Option Value} (hx : VR ρ x x') (e : loadA h (some x) (E.ty.get t) = some (r, h')) :
    h' = h ∧ ∃ v v', r = some v ∧ (Instr.loadAt t x').run E.P w = .ok v' w ∧ VR ρ v v' := by
  cases ht : E.ty.get t with
  | none => rw [ht] at e; simp [loadA] at e
  | some i =>
    rw [ht] at e
    cases hx with
    | ptr hρ =>
      rename_i b c N off
      simp only [loadA] at e
      cases hr : readCells h ⟨b, off, none⟩ i.size with
      | none => rw [hr] at e; cases e
      | some l =>
        rw [hr] at e
        obtain ⟨l', hl, hL, hA⟩ := readCells_sound R hρ hr
        simp only [ret] at e
        cases hwc : wrapCells (isAggD i.desc) l with
        | none => rw [hwc] at e; cases e
        | some v =>
          rw [hwc] at e
          cases e
          obtain ⟨v', hw', r'⟩ := wrapCells_sound hL hwc
          refine ⟨rfl, v, v', rfl, ?_, r'⟩
          simp only [Instr.loadAt, Instr.sureAddr, Sem.run_bind, Sem.run_pure, Result.andThen_ok]
          exact loadVar_run K ht hl hA hw'
    | _ => simp [loadA] at e

/-! ### Cells written -/
def writeList : Array Value → Nat → List Value → Array Value
  | cs, _, [] => cs
  | cs, o, v :: r => writeList (cs.setIfInBounds o v) (o + 1) r
theorem size_writeList : ∀ (vs : List Value) (cs : Array Value) (o : Nat), (writeList cs o vs).size = cs.size
  | [], _, _ => rfl
  | v :: r, cs, o => by rw [writeList, size_writeList r]; simp
theorem get_writeList : ∀ (vs : List Value) (cs : Array Value) (o : Nat), o + vs.length ≤ cs.size → ∀ i, (writeList cs o vs)[i]? = if o ≤ i ∧ i < o + vs.length then vs[i - o]? else cs[i]?
  | [], cs, o, _, i => by rw [if_neg (by simp only [List.length_nil]; omega)]; rfl
  | v :: r, cs, o, hl, i => by
    simp only [List.length_cons] at hl ⊢
    rw [writeList, get_writeList r _ (o + 1) (by simp; omega)]
    by_cases h1 : o + 1 ≤ i ∧ i < o + 1 + r.length
    · rw [if_pos h1, if_pos (by omega), show i - o = (i - (o + 1)) + 1 by omega]; simp
    · rw [if_neg h1]
      by_cases h2 : i = o
      · subst h2
        rw [if_pos (by omega)]
        simp [Array.getElem?_setIfInBounds, show i < cs.size by omega]
      · rw [if_neg (by omega), Array.getElem?_setIfInBounds_ne (Ne.symm h2)]

theorem setCell_heap {c : Nat} {cs : Array Value} {e : TypeId} {fz : Nat × Nat} (hg : w.heap[c]? = some (.cells cs e fz)) (o : Nat) (v : Value) (d : Nat) :
    (w.setCell ⟨c, o, none⟩ v).heap[d]? = if d = c then some (.cells (cs.setIfInBounds o v) e fz) else w.heap[d]? := by
  simp only [World.setCell, Array.getElem?_modify]
  by_cases hd : d = c
  · subst hd; simp [hg]
  · rw [if_neg (by omega), if_neg hd]

theorem setCells_heap {c : Nat} {e : TypeId} {fz : Nat × Nat} : ∀ (vs : List Value) (o : Nat) (cs : Array Value) (w : World), w.heap[c]? = some (.cells cs e fz) → ∀ d,
    (w.setCells c o vs).heap[d]? = if d = c then some (.cells (writeList cs o vs) e fz) else w.heap[d]?
  | [], o, cs, w, hg, d => by
    rw [World.setCells]
    by_cases hd : d = c
    · subst hd; rw [if_pos rfl]; exact hg
    · rw [if_neg hd]
  | v :: r, o, cs, w, hg, d => by
    rw [World.setCells, setCells_heap r (o + 1) (cs.setIfInBounds o v) _ (by rw [setCell_heap hg, if_pos rfl])]
    by_cases hd : d = c
    · rw [if_pos hd, if_pos hd, writeList]
    · rw [if_neg hd, if_neg hd, setCell_heap hg, if_neg hd]

theorem setCells_rest : ∀ (vs : List Value) (o c : Nat) (w : World), (w.setCells c o vs).os = w.os ∧ (w.setCells c o vs).tape = w.tape ∧ (w.setCells c o vs).output = w.output ∧ (w.setCells c o vs).heap.size = w.heap.size
  | [], _, _, _ => ⟨rfl, rfl, rfl, rfl⟩
  | v :: r, o, c, w => by
    obtain ⟨h1, h2, h3, h4⟩ := setCells_rest r (o + 1) c (w.setCell ⟨c, o, none⟩ v)
    rw [World.setCells]
    exact ⟨h1, h2, h3, by rw [h4]; simp [World.setCell]⟩

theorem writeCells_sound {b off c N : Nat} {news news' : List Value} (R : Rel ρ h w) (hρ : ρ b = some (c, N)) (hL : LR ρ news news') (e : writeCells h ⟨b, off, none⟩ news = some h') :
    ∃ w', (storeCells ⟨c, off, none⟩ news').run E.P w = .ok () w' ∧ Adv ρ ρ h h' w w' := by
  unfold writeCells at e
  dsimp only at e
  split at e
  · rename_i cs el hg
    split at e
    · rename_i cs2 h1 hs
      cases e
      obtain ⟨o', ho, hr⟩ := R.obj b _ hg c N hρ
      cases hr with
      | cells hc hN hf =>
        rename_i cs' fz
        obtain ⟨hlen, rfl⟩ := splice_some hs
        have hin : ∀ i, i < cs.length → i < cs'.size := fun i hi => by
          obtain ⟨v', e', _⟩ := hc i _ (List.getElem?_eq_getElem hi)
          exact (Array.getElem?_eq_some_iff.1 e').1
        have h1' : ∀ v ∈ news', v.oneCell' = true := fun v hv => by
          obtain ⟨i, hi⟩ := List.mem_iff_getElem?.1 hv
          have hin : i < news.length := by have := (List.getElem?_eq_some_iff.1 hi).1; rw [hL.1]; exact this
          rw [oneCell_eq (hL.2 i _ _ (List.getElem?_eq_getElem hin) hi)]
          exact List.all_eq_true.1 h1 _ (List.getElem_mem hin)
        have hrun := run_storeCells_cells (P := E.P) c off news' 0 w (fun j hj => by
            rw [← hL.1] at hj
            simp [World.cell?, ho, show off + j < cs'.size from hin _ (by omega)]) (fun j hj => by
            rw [← hL.1] at hj
            simp only [World.frozen?, ho, Nat.add_zero]
            exact hf (off + j) (by have := hin (off + j) (by omega); omega)) h1'
        rw [Nat.add_zero] at hrun
        obtain ⟨q1, q2, q3, q4⟩ := setCells_rest news' off c w
        refine ⟨_, hrun, Adv.set R hg rfl hρ _ (.cells (writeList cs' off news') el fz) (.cells ?_ (by rw [size_writeList]; exact hN) hf) q1 q2 q3 q4 (by rw [setCells_heap _ _ _ _ ho, if_pos rfl]) (fun d hd => by rw [setCells_heap _ _ _ _ ho, if_neg hd])⟩
        · intro i v hv
          have hsz : off + news'.length ≤ cs'.size := by
            rw [← hL.1]
            by_cases hz : news.length = 0
            · by_cases h0 : off = 0
              · omega
              · have := hin (off - 1) (by omega); omega
            · have := hin (off + news.length - 1) (by omega); omega
          rw [get_writeList _ _ _ hsz, ← hL.1]
          rw [List.append_assoc, List.getElem?_append] at hv
          simp only [List.length_take] at hv
          by_cases h2 : i < off
          · rw [if_pos (by omega)] at hv
            rw [if_neg (by omega)]
            rw [List.getElem?_take, if_pos h2] at hv
            exact hc i v hv
          · rw [if_neg (by omega)] at hv
            rw [List.getElem?_append] at hv
            by_cases h3 : i < off + news.length
            · rw [if_pos (by omega)] at hv
              rw [if_pos (by omega)]
              rw [show min off cs.length = off by omega] at hv
              exact hL.get hv
            · rw [if_neg (by omega)] at hv
              rw [if_neg (by omega)]
              rw [List.getElem?_drop] at hv
              refine hc i v ?_
              rw [← hv]
              congr 1
              omega
    · cases e
  · cases e

theorem storeA_sound (K : E.Ok) (R : Rel ρ h w) {x x' z z' : Value} {t : TypeId} {r : Option Value} (hx : VR ρ x x') (hz : VR ρ z z') (e : storeA h (some x) (some z) (E.ty.get t) = some (r, h')) :
    r = none ∧ ∃ w', (Instr.storeAt t x' z').run E.P w = .ok () w' ∧ Adv ρ ρ h h' w w' := by
  cases ht : E.ty.get t with
  | none => rw [ht] at e; simp [storeA] at e
  | some i =>
    rw [ht] at e
    cases hx with
    | ptr hρ =>
      rename_i b c N off
      simp only [storeA] at e
      split at e
      · rename_i hb
        cases hw : writeCells h ⟨b, off, none⟩ z.cells.toList with
        | none => rw [hw] at e; cases e
        | some h2 =>
          rw [hw] at e
          cases e
          obtain ⟨w', hr, hA⟩ := writeCells_sound (E := E) R hρ hz.cells hw
          refine ⟨rfl, w', ?_, hA⟩
          have hs : z'.cells.size = i.size := by
            rw [← Nat.eq_of_beq_eq_true hb, hz.cells.1, Array.length_toList]
          simp only [Instr.storeAt, Instr.sureAddr, Sem.run_bind, Sem.run_pure, Result.andThen_ok, storeVar, run_size K ht, hs]
          simp only [ne_eq, not_true_eq_false, if_false, Sem.run_pure, Result.andThen_ok]
          exact hr
      · cases e
    | _ => simp [storeA] at e

/-! ### New blocks -/
theorem cellsOR {c : List Value} {cs : List Value} {e : TypeId} (hL : LR ρ c cs) : OR ρ cs.length (.cells c e) (.cells ⟨cs⟩ e) :=
  .cells (fun i v hv => by
    obtain ⟨v', e', r⟩ := hL.get hv
    exact ⟨v', by simpa using e', r⟩) (by simp) (fun i _ => by simp)

theorem alloc_cells {c cs : List Value} {e : TypeId} (R : Rel ρ h w) (hf : Fr ρ h (h.alloc (.cells c e))) (hL : LR ρ c cs) :
    Adv ρ (upd ρ h.next (w.heap.size, cs.length)) h (h.alloc (.cells c e)) w (w.alloc (.cells ⟨cs⟩ e)) :=
  Adv.alloc R (hf _ (Nat.le_refl _) (by rw [AHeap.next_alloc]; omega)) _ _ _
    ((cellsOR hL).mono (Ext.upd (hf _ (Nat.le_refl _) (by rw [AHeap.next_alloc]; omega))))

end Go.Proofs.YtlkhpgocbojdgaaGreatDoor.Ai

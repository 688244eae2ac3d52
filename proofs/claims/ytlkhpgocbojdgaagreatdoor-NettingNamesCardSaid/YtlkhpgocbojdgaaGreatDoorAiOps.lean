/-
  EACH OPERATION OF THE EVALUATOR IS ONE OF THE MACHINE's.
-/
import Derived.Test.YtlkhpgocbojdgaaGreatDoorAiCore
import Derived.IntWalk
import Derived.Lib.Strings
import Derived.Lib.SmallJoins
namespace Go.Proofs.YtlkhpgocbojdgaaGreatDoor.Ai
open Go
set_option linter.unusedSimpArgs false
set_option linter.unusedVariables false
variable {E : Env} {ρ : Ren} {h h' : AHeap} {w : World}

/-- A computation of the machine's gives what the evaluator has. -/
def VOk (E : Env) (ρ : Ren) (h h' : AHeap) (w : World) (s : Sem Value) (v : Value) : Prop :=
  ∃ ρ' v' w', s.run E.P w = .ok v' w' ∧ VR ρ' v v' ∧ Adv ρ ρ' h h' w w'
def UOk (E : Env) (ρ : Ren) (h h' : AHeap) (w : World) (s : Sem Unit) : Prop :=
  ∃ ρ' w', s.run E.P w = .ok () w' ∧ Adv ρ ρ' h h' w w'

theorem VOk.same {s : Sem Value} {v v' : Value} (R : Rel ρ h w) (e : s.run E.P w = .ok v' w) (r : VR ρ v v') : VOk E ρ h h w s v := ⟨ρ, v', w, e, r, .refl R⟩

section types
variable (K : E.Ok)
  include K
theorem run_und {t : TypeId} {i : TyI} (e : E.ty.get t = some i) : (underlying t).run E.P w = .ok i.desc w := run_underlying (K.ty t i e).1 w
theorem run_size {t : TypeId} {i : TyI} (e : E.ty.get t = some i) : (sizeOf t).run E.P w = .ok i.size w := by
  obtain ⟨_, _, _, ti, h1, h2, h3, h4⟩ := K.ty t i e
  simp [sizeOf, typeInfo, h1, h3]
theorem run_zero {t : TypeId} {i : TyI} (e : E.ty.get t = some i) : (zeroValue t).run E.P w = .ok i.zero w := by
  obtain ⟨_, _, _, ti, h1, h2, h3, h4⟩ := K.ty t i e
  simp [zeroValue, typeInfo, h1, h2]
theorem run_isAgg {t : TypeId} {i : TyI} (e : E.ty.get t = some i) : (isAgg t).run E.P w = .ok (isAggD i.desc) w := by
  unfold isAgg isAggD
  simp only [Sem.run_bind, run_und K e, Result.andThen_ok]
  cases i.desc <;> rfl
end types

theorem runP_run {α : Type} (P : Program) : ∀ (s : Sem α) {a : α}, runP P s = some a → ∀ w, s.run P w = .ok a w := by
  intro s
  induction s with
  | pure b => intro a e w; simp only [runP, Option.some.injEq] at e; subst e; rfl
  | program k ih => intro a e w; simp only [runP] at e; exact ih P e w
  | mark m k ih => intro a e w; simp only [runP] at e; exact ih e w
  | _ => intro a e w; simp [runP] at e

theorem wrapCells_sound {agg : Bool} {l l' : List Value} {v : Value} (hL : LR ρ l l') (e : wrapCells agg l = some v) :
    ∃ v', wrapCells agg l' = some v' ∧ VR ρ v v' := by
  unfold wrapCells at e
  split at e
  · cases e
    exact ⟨.agg ⟨l'⟩, rfl, .agg hL.1 hL.2⟩
  · cases e
    obtain ⟨v', rfl, r⟩ := hL.one
    exact ⟨v', rfl, r⟩
  · cases e

theorem loadVar_run (K : E.Ok) {t : TypeId} {i : TyI} (e : E.ty.get t = some i) {c off : Nat} {l' : List Value} {v' : Value} (hl : l'.length = i.size) (hA : At w c off l')
    (hw : wrapCells (isAggD i.desc) l' = some v') : (loadVar t ⟨c, off, none⟩).run E.P w = .ok v' w := by
  unfold loadVar
  simp only [Sem.run_bind, run_isAgg K e, Result.andThen_ok]
  cases ha : isAggD i.desc with
  | true =>
    rw [ha] at hw
    cases hw
    simp only [if_true, Sem.run_bind, run_size K e, Result.andThen_ok, ← hl]
    rw [run_loadCells_list w ⟨c, off, none⟩ l' (fun j v hj => by rw [addr_add]; exact hA j v hj)]
    rfl
  | false =>
    rw [ha] at hw
    match l', hw with
    | [v], hw =>
      cases hw
      have := hA 0 _ rfl
      simp only [Nat.add_zero] at this
      simp [this]

theorem loadA_sound (K : E.Ok) (R : Rel ρ h w) {x x' : Value} {t : TypeId} {r : Option Value} (hx : VR ρ x x') (e : loadA h (some x) (E.ty.get t) = some (r, h')) :
    h' = h ∧ ∃ v v', r = some v ∧ (Instr.loadAt t x').run E.P w = .ok v' w ∧ VR ρ v v' := by
  cases ht : E.ty.get t with
  | none => rw [ht] at e; simp [loadA] at e
  | some i =>
    rw [ht] at e
    cases hx with
    | ptr hρ =>
      rename_i b c N off
      simp only [loadA] at e
      cases hr : readCells h ⟨b, off, none⟩ i.size with
      | none => rw [hr] at e; cases e
      | some l =>
        rw [hr] at e
        obtain ⟨l', hl, hL, hA⟩ := readCells_sound R hρ hr
        simp only [ret] at e
        cases hwc : wrapCells (isAggD i.desc) l with
        | none => rw [hwc] at e; cases e
        | some v =>
          rw [hwc] at e
          cases e
          obtain ⟨v', hw', r'⟩ := wrapCells_sound hL hwc
          refine ⟨rfl, v, v', rfl, ?_, r'⟩
          simp only [Instr.loadAt, Instr.sureAddr, Sem.run_bind, Sem.run_pure, Result.andThen_ok]
          exact loadVar_run K ht hl hA hw'
    | _ => simp [loadA] at e

/-! ### Cells written -/
def writeList : Array Value → Nat → List Value → Array Value
  | cs, _, [] => cs
  | cs, o, v :: r => writeList (cs.setIfInBounds o v) (o + 1) r
theorem size_writeList : ∀ (vs : List Value) (cs : Array Value) (o : Nat), (writeList cs o vs).size = cs.size
  | [], _, _ => rfl
  | v :: r, cs, o => by rw [writeList, size_writeList r]; simp
theorem get_writeList : ∀ (vs : List Value) (cs : Array Value) (o : Nat), o + vs.length ≤ cs.size → ∀ i, (writeList cs o vs)[i]? = if o ≤ i ∧ i < o + vs.length then vs[i - o]? else cs[i]?
  | [], cs, o, _, i => by rw [if_neg (by simp only [List.length_nil]; omega)]; rfl
  | v :: r, cs, o, hl, i => by
    simp only [List.length_cons] at hl ⊢
    rw [writeList, get_writeList r _ (o + 1) (by simp; omega)]
    by_cases h1 : o + 1 ≤ i ∧ i < o + 1 + r.length
    · rw [if_pos h1, if_pos (by omega), show i - o = (i - (o + 1)) + 1 by omega]; simp
    · rw [if_neg h1]
      by_cases h2 : i = o
      · subst h2
        rw [if_pos (by omega)]
        simp [Array.getElem?_setIfInBounds, show i < cs.size by omega]
      · rw [if_neg (by omega), Array.getElem?_setIfInBounds_ne (Ne.symm h2)]

theorem setCell_heap {c : Nat} {cs : Array Value} {e : TypeId} {fz : Nat × Nat} (hg : w.heap[c]? = some (.cells cs e fz)) (o : Nat) (v : Value) (d : Nat) :
    (w.setCell ⟨c, o, none⟩ v).heap[d]? = if d = c then some (.cells (cs.setIfInBounds o v) e fz) else w.heap[d]? := by
  simp only [World.setCell, Array.getElem?_modify]
  by_cases hd : d = c
  · subst hd; simp [hg]
  · rw [if_neg (by omega), if_neg hd]

theorem setCells_heap {c : Nat} {e : TypeId} {fz : Nat × Nat} : ∀ (vs : List Value) (o : Nat) (cs : Array Value) (w : World), w.heap[c]? = some (.cells cs e fz) → ∀ d,
    (w.setCells c o vs).heap[d]? = if d = c then some (.cells (writeList cs o vs) e fz) else w.heap[d]?
  | [], o, cs, w, hg, d => by
    rw [World.setCells]
    by_cases hd : d = c
    · subst hd; rw [if_pos rfl]; exact hg
    · rw [if_neg hd]
  | v :: r, o, cs, w, hg, d => by
    rw [World.setCells, setCells_heap r (o + 1) (cs.setIfInBounds o v) _ (by rw [setCell_heap hg, if_pos rfl])]
    by_cases hd : d = c
    · rw [if_pos hd, if_pos hd, writeList]
    · rw [if_neg hd, if_neg hd, setCell_heap hg, if_neg hd]

theorem setCells_rest : ∀ (vs : List Value) (o c : Nat) (w : World), (w.setCells c o vs).os = w.os ∧ (w.setCells c o vs).tape = w.tape ∧ (w.setCells c o vs).output = w.output ∧ (w.setCells c o vs).heap.size = w.heap.size
  | [], _, _, _ => ⟨rfl, rfl, rfl, rfl⟩
  | v :: r, o, c, w => by
    obtain ⟨h1, h2, h3, h4⟩ := setCells_rest r (o + 1) c (w.setCell ⟨c, o, none⟩ v)
    rw [World.setCells]
    exact ⟨h1, h2, h3, by rw [h4]; simp [World.setCell]⟩

theorem writeCells_sound {b off c N : Nat} {news news' : List Value} (R : Rel ρ h w) (hρ : ρ b = some (c, N)) (hL : LR ρ news news') (e : writeCells h ⟨b, off, none⟩ news = some h') :
    ∃ w', (storeCells ⟨c, off, none⟩ news').run E.P w = .ok () w' ∧ Adv ρ ρ h h' w w' := by
  unfold writeCells at e
  dsimp only at e
  split at e
  · rename_i cs el hg
    split at e
    · rename_i cs2 h1 hs
      cases e
      obtain ⟨o', ho, hr⟩ := R.obj b _ hg c N hρ
      cases hr with
      | cells hc hN hf =>
        rename_i cs' fz
        obtain ⟨hlen, rfl⟩ := splice_some hs
        have hin : ∀ i, i < cs.length → i < cs'.size := fun i hi => by
          obtain ⟨v', e', _⟩ := hc i _ (List.getElem?_eq_getElem hi)
          exact (Array.getElem?_eq_some_iff.1 e').1
        have h1' : ∀ v ∈ news', v.oneCell' = true := fun v hv => by
          obtain ⟨i, hi⟩ := List.mem_iff_getElem?.1 hv
          have hin : i < news.length := by have := (List.getElem?_eq_some_iff.1 hi).1; rw [hL.1]; exact this
          rw [oneCell_eq (hL.2 i _ _ (List.getElem?_eq_getElem hin) hi)]
          exact List.all_eq_true.1 h1 _ (List.getElem_mem hin)
        have hrun := run_storeCells_cells (P := E.P) c off news' 0 w (fun j hj => by
            rw [← hL.1] at hj
            simp [World.cell?, ho, show off + j < cs'.size from hin _ (by omega)]) (fun j hj => by
            rw [← hL.1] at hj
            simp only [World.frozen?, ho, Nat.add_zero]
            exact hf (off + j) (by have := hin (off + j) (by omega); omega)) h1'
        rw [Nat.add_zero] at hrun
        obtain ⟨q1, q2, q3, q4⟩ := setCells_rest news' off c w
        refine ⟨_, hrun, Adv.set R hg rfl hρ _ (.cells (writeList cs' off news') el fz) (.cells ?_ (by rw [size_writeList]; exact hN) hf) q1 q2 q3 q4 (by rw [setCells_heap _ _ _ _ ho, if_pos rfl]) (fun d hd => by rw [setCells_heap _ _ _ _ ho, if_neg hd])⟩
        · intro i v hv
          have hsz : off + news'.length ≤ cs'.size := by
            rw [← hL.1]
            by_cases hz : news.length = 0
            · by_cases h0 : off = 0
              · omega
              · have := hin (off - 1) (by omega); omega
            · have := hin (off + news.length - 1) (by omega); omega
          rw [get_writeList _ _ _ hsz, ← hL.1]
          rw [List.append_assoc, List.getElem?_append] at hv
          simp only [List.length_take] at hv
          by_cases h2 : i < off
          · rw [if_pos (by omega)] at hv
            rw [if_neg (by omega)]
            rw [List.getElem?_take, if_pos h2] at hv
            exact hc i v hv
          · rw [if_neg (by omega)] at hv
            rw [List.getElem?_append] at hv
            by_cases h3 : i < off + news.length
            · rw [if_pos (by omega)] at hv
              rw [if_pos (by omega)]
              rw [show min off cs.length = off by omega] at hv
              exact hL.get hv
            · rw [if_neg (by omega)] at hv
              rw [if_neg (by omega)]
              rw [List.getElem?_drop] at hv
              refine hc i v ?_
              rw [← hv]
              congr 1
              omega
    · cases e
  · cases e

theorem storeA_sound (K : E.Ok) (R : Rel ρ h w) {x x' z z' : Value} {t : TypeId} {r : Option Value} (hx : VR ρ x x') (hz : VR ρ z z') (e : storeA h (some x) (some z) (E.ty.get t) = some (r, h')) :
    r = none ∧ ∃ w', (Instr.storeAt t x' z').run E.P w = .ok () w' ∧ Adv ρ ρ h h' w w' := by
  cases ht : E.ty.get t with
  | none => rw [ht] at e; simp [storeA] at e
  | some i =>
    rw [ht] at e
    cases hx with
    | ptr hρ =>
      rename_i b c N off
      simp only [storeA] at e
      split at e
      · rename_i hb
        cases hw : writeCells h ⟨b, off, none⟩ z.cells.toList with
        | none => rw [hw] at e; cases e
        | some h2 =>
          rw [hw] at e
          cases e
          obtain ⟨w', hr, hA⟩ := writeCells_sound (E := E) R hρ hz.cells hw
          refine ⟨rfl, w', ?_, hA⟩
          have hs : z'.cells.size = i.size := by
            rw [← Nat.eq_of_beq_eq_true hb, hz.cells.1, Array.length_toList]
          simp only [Instr.storeAt, Instr.sureAddr, Sem.run_bind, Sem.run_pure, Result.andThen_ok, storeVar, run_size K ht, hs]
          simp only [ne_eq, not_true_eq_false, if_false, Sem.run_pure, Result.andThen_ok]
          exact hr
      · cases e
    | _ => simp [storeA] at e

/-! ### New blocks -/
theorem cellsOR {c : List Value} {cs : List Value} {e : TypeId} (hL : LR ρ c cs) : OR ρ cs.length (.cells c e) (.cells ⟨cs⟩ e) :=
  .cells (fun i v hv => by
    obtain ⟨v', e', r⟩ := hL.get hv
    exact ⟨v', by simpa using e', r⟩) (by simp) (fun i _ => by simp)

theorem alloc_cells {c cs : List Value} {e : TypeId} (R : Rel ρ h w) (hf : Fr ρ h (h.alloc (.cells c e))) (hL : LR ρ c cs) :
    Adv ρ (upd ρ h.next (w.heap.size, cs.length)) h (h.alloc (.cells c e)) w (w.alloc (.cells ⟨cs⟩ e)) :=
  Adv.alloc R (hf _ (Nat.le_refl _) (by rw [AHeap.next_alloc]; omega)) _ _ _
    ((cellsOR hL).mono (Ext.upd (hf _ (Nat.le_refl _) (by rw [AHeap.next_alloc]; omega))))

end Go.Proofs.YtlkhpgocbojdgaaGreatDoor.Ai
/-
  EACH OPERATION OF THE EVALUATOR IS ONE OF THE MACHINE's, part 2: values made of others; arithmetic; addresses.
-/
namespace Go.Proofs.YtlkhpgocbojdgaaGreatDoor.Ai
open Go
set_option linter.unusedSimpArgs false
set_option linter.unusedVariables false
variable {E : Env} {ρ : Ren} {h h' : AHeap} {w : World}

/-! ### Literals -/
theorem foldl_writeList (off : Nat) : ∀ (l : List Value) (k : Nat) (cs : Array Value),
    (l.zipIdx k).foldl (fun cs (x : Value × Nat) => cs.setIfInBounds (off + x.2) x.1) cs = writeList cs (off + k) l
  | [], k, cs => rfl
  | v :: r, k, cs => by
    rw [List.zipIdx_cons, List.foldl_cons, foldl_writeList off r (k + 1)]
    rfl
theorem writeList_splice {cells vs : List Value} {off : Nat} (hl : off + vs.length ≤ cells.length) :
    writeList ⟨cells⟩ off vs = ⟨cells.take off ++ vs ++ cells.drop (off + vs.length)⟩ := by
  apply Array.ext_getElem?
  intro i
  rw [get_writeList _ _ _ (by simpa using hl)]
  simp only [List.getElem?_toArray]
  rw [List.append_assoc, List.getElem?_append, List.length_take]
  by_cases h1 : i < off
  · rw [if_neg (by omega), if_pos (by omega), List.getElem?_take, if_pos h1]
  · rw [if_neg (show ¬ i < min off cells.length by omega), List.getElem?_append]
    by_cases h2 : i < off + vs.length
    · rw [if_pos (by omega), if_pos (by omega)]
      congr 1
      omega
    · rw [if_neg (by omega), if_neg (by omega), List.getElem?_drop]
      congr 1
      omega

theorem fill_sound {place : Nat → Option (Nat × Nat)} : ∀ (ps qs : List (Nat × Value)) (cells cells' r : List Value), LR ρ cells cells' → PR ρ ps qs → fillL place cells ps = some r →
    ∃ r', Instr.fill place ⟨cells'⟩ qs = some ⟨r'⟩ ∧ LR ρ r r'
  | [], qs, cells, cells', r, hL, hP, e => by
    have : qs = [] := List.eq_nil_of_length_eq_zero hP.1.symm
    subst this
    cases e
    exact ⟨cells', rfl, hL⟩
  | (i, v) :: ps, [], cells, cells', r, hL, hP, e => by have := hP.1; simp at this
  | (i, v) :: ps, (i', v') :: qs, cells, cells', r, hL, hP, e => by
    obtain ⟨h1, h2⟩ := hP.2 0 _ _ rfl rfl
    dsimp only at h1 h2
    subst h1
    unfold fillL at e
    unfold Instr.fill
    cases hp : place i with
    | none => rw [hp] at e; cases e
    | some x =>
      obtain ⟨off, size⟩ := x
      rw [hp] at e
      dsimp only at e ⊢
      split at e
      · rename_i hb
        have hsz := Nat.eq_of_beq_eq_true hb
        split at e
        · rename_i c2 hs
          obtain ⟨hlen, rfl⟩ := splice_some hs
          have hc := h2.cells
          have hsz' : v'.cells.size = size := by rw [← hsz, hc.1, Array.length_toList]
          have hfit : off + v'.cells.toList.length ≤ cells'.length := by rw [← hc.1, ← hL.1]; exact hlen
          rw [if_neg (by
            simp only [hsz', ne_eq, not_true_eq_false, decide_false, Bool.false_or, decide_eq_true_eq]
            rw [← hsz', ← Array.length_toList]
            simp only [gt_iff_lt, List.size_toArray]
            omega)]
          have hfold : v'.cells.zipIdx.foldl (fun (cs : Array Value) (x : Value × Nat) => cs.setIfInBounds (off + x.2) x.1) ⟨cells'⟩ = (⟨cells'.take off ++ v'.cells.toList ++ cells'.drop (off + v'.cells.toList.length)⟩ : Array Value) := by
            rw [← Array.foldl_toList, Array.toList_zipIdx, foldl_writeList, Nat.add_zero, writeList_splice hfit]
          rw [hfold]
          refine fill_sound ps qs _ _ r ?_ ⟨by have := hP.1; simpa using this, fun j p q ep eq => hP.2 (j + 1) p q (by simpa using ep) (by simpa using eq)⟩ e
          rw [← hc.1]
          exact ((hL.take off).append hc).append (hL.drop _)
        · cases e
      · cases e

theorem mapM_places (K : E.Ok) : ∀ (fs : List Field) {l : List (Nat × Nat)}, fs.mapM (fun f => (sizeT E f.type).map fun z => (f.offset, z)) = some l →
    (fs.mapM (m := Sem) fun f => do pure (f.offset, ← sizeOf f.type)).run E.P w = .ok l w
  | [], l, e => by simp at e; subst e; simp
  | f :: fs, l, e => by
    rw [List.mapM_cons] at e
    cases hs : sizeT E f.type with
    | none => rw [hs] at e; simp at e
    | some z =>
      cases hr : fs.mapM (fun f => (sizeT E f.type).map fun z => (f.offset, z)) with
      | none => rw [hs, hr] at e; simp at e
      | some r =>
        rw [hs, hr] at e
        simp at e
        subst e
        unfold sizeT at hs
        cases ht : E.ty.get f.type with
        | none => rw [ht] at hs; cases hs
        | some i =>
          rw [ht] at hs
          cases hs
          rw [List.mapM_cons]
          simp only [Sem.run_bind, run_size K ht, Result.andThen_ok, Sem.run_pure, mapM_places K fs hr]

theorem places_run (K : E.Ok) {fields : Array Field} {l : List (Nat × Nat)} (e : fields.toList.mapM (fun f => (sizeT E f.type).map fun z => (f.offset, z)) = some l) :
    (fields.mapM (m := Sem) fun f => do pure (f.offset, ← sizeOf f.type)).run E.P w = .ok ⟨l⟩ w := by
  rw [Array.mapM_eq_mapM_toList]
  simp only [Sem.run_map, mapM_places K _ e, Result.andThen_ok]

theorem flat_LR {v : Value} (hf : flat v = true) : LR ρ v.cells.toList v.cells.toList := (flat_VR ρ hf).cells

theorem buildA_sound (K : E.Ok) (R : Rel ρ h w) {t : TypeId} {ps qs : List (Nat × Value)} {r : Option Value} (hP : PR ρ ps qs) (e : buildA E h (E.ty.get t) (some ps) = some (r, h')) :
    h' = h ∧ ∃ v v', r = some v ∧ (Instr.build t ⟨qs⟩).run E.P w = .ok v' w ∧ VR ρ v v' := by
  cases ht : E.ty.get t with
  | none => rw [ht] at e; cases e
  | some i =>
    rw [ht] at e
    simp only [buildA] at e
    cases hp : places E i with
    | none => rw [hp] at e; cases e
    | some pl =>
      rw [hp] at e
      dsimp only at e
      cases hfl : fillL pl i.zero.cells.toList ps with
      | none => rw [hfl] at e; cases e
      | some c =>
        rw [hfl] at e
        cases e
        obtain ⟨c', hc', hL⟩ := fill_sound (ρ := ρ) ps qs _ _ c (flat_LR (K.ty t i ht).2.1) hP hfl
        refine ⟨rfl, .agg ⟨c⟩, .agg ⟨c'⟩, rfl, ?_, .agg hL.1 hL.2⟩
        unfold Instr.build
        simp only [Sem.run_bind, run_zero K ht, Result.andThen_ok, run_und K ht]
        unfold places at hp
        split at hp
        · rename_i fields hd
          rw [hd]
          cases hm : fields.toList.mapM (fun f => (sizeT E f.type).map fun z => (f.offset, z)) with
          | none => rw [hm] at hp; cases hp
          | some l =>
            rw [hm] at hp
            simp only [Option.map_some, Option.some.injEq] at hp
            simp only [Sem.run_bind, places_run K hm, Result.andThen_ok]
            have : (fun x => (⟨l⟩ : Array (Nat × Nat))[x]?) = pl := by rw [← hp]; funext x; simp
            rw [this, show Instr.fill pl i.zero.cells qs = some ⟨c'⟩ from hc']
            rfl
        · rename_i len elem hd
          rw [hd]
          unfold sizeT at hp
          cases hte : E.ty.get elem with
          | none => rw [hte] at hp; cases hp
          | some j =>
            rw [hte] at hp
            simp only [Option.map_some, Option.some.injEq] at hp
            simp only [Sem.run_bind, run_size K hte, Result.andThen_ok]
            rw [hp, show Instr.fill pl i.zero.cells qs = some ⟨c'⟩ from hc']
            rfl
        · cases hp

theorem rep_get (z : List Value) : ∀ (n i : Nat), i < n * z.length → (rep z n)[i]? = z[i % z.length]?
  | 0, i, hi => by simp at hi
  | n + 1, i, hi => by
    rw [rep, List.getElem?_append]
    by_cases h1 : i < z.length
    · rw [if_pos h1, Nat.mod_eq_of_lt h1]
    · rw [if_neg h1, rep_get z n (i - z.length) (by rw [Nat.add_mul] at hi; omega)]
      congr 1
      rw [← Nat.mod_eq_sub_mod (by omega)]
theorem rep_length (z : List Value) : ∀ n, (rep z n).length = n * z.length
  | 0 => by simp [rep]
  | n + 1 => by rw [rep, List.length_append, rep_length z n, Nat.add_mul]; omega
theorem rep_range (z : Array Value) (n : Nat) : (Array.range (n * z.size)).map (fun i => z[i % z.size]!) = ⟨rep z.toList n⟩ := by
  apply Array.ext_getElem?
  intro i
  simp only [Array.getElem?_map, Array.getElem?_range, List.getElem?_toArray]
  by_cases hi : i < n * z.size
  · rw [if_pos hi, rep_get _ _ _ (by simpa using hi)]
    have hz : 0 < z.size := by
      rcases Nat.eq_zero_or_pos z.size with e | e
      · rw [e] at hi; simp at hi
      · exact e
    simp only [Option.map_some, Array.length_toList, Array.getElem?_toList]
    have hm := Nat.mod_lt i hz
    rw [Array.getElem?_eq_getElem hm, getElem!_pos z (i % z.size) hm]
  · rw [if_neg hi, List.getElem?_eq_none (by rw [rep_length]; simpa using hi)]
    rfl
theorem all_rep {z : List Value} {p : Value → Bool} (hz : z.all p = true) : ∀ n, (rep z n).all p = true
  | 0 => rfl
  | n + 1 => by rw [rep, List.all_append, hz, all_rep hz n]; rfl

theorem LR.rep {z : List Value} (hz : LR ρ z z) : ∀ n, LR ρ (rep z n) (Ai.rep z n)
  | 0 => LR.nil ρ
  | n + 1 => by rw [Ai.rep]; exact hz.append (LR.rep hz n)

theorem elemD_some {t : TypeId} {elem : TypeId} (e : elemD (E.ty.get t) = some elem) : ∃ i, E.ty.get t = some i ∧ i.desc = .slice elem := by
  unfold elemD at e
  split at e
  · rename_i el z s b he
    cases e
    exact ⟨_, he, rfl⟩
  · cases e

theorem buildSliceA_sound (K : E.Ok) (R : Rel ρ h w) {t : TypeId} {len : Nat} {ps qs : List (Nat × Value)} {r : Option Value} (hP : PR ρ ps qs)
    (e : buildSliceA E h len (elemD (E.ty.get t)) (some ps) = some (r, h')) (hf : Fr ρ h h') : ∃ v, r = some v ∧ VOk E ρ h h' w (Instr.buildSlice t len ⟨qs⟩) v := by
  cases hel : elemD (E.ty.get t) with
  | none => rw [hel] at e; cases e
  | some elem =>
    obtain ⟨i, ht, hd⟩ := elemD_some hel
    rw [hel] at e
    unfold buildSliceA at e
    dsimp only at e
    cases hte : E.ty.get elem with
    | none => rw [hte] at e; cases e
    | some j =>
      rw [hte] at e
      dsimp only at e
      split at e
      · rename_i hb
        rw [Bool.and_eq_true] at hb
        have hb1 := Nat.le_of_ble_eq_true hb.1
        have hb2 := Nat.le_of_ble_eq_true hb.2
        split at e
        · rename_i c hfl
          cases e
          have hflat := (K.ty elem j hte).2.1
          have hzs := (K.ty elem j hte).2.2.1
          obtain ⟨c', hc', hL⟩ := fill_sound (ρ := ρ) ps qs _ _ c ((flat_LR hflat).rep len) hP hfl
          refine ⟨_, rfl, upd ρ h.next (w.heap.size, c'.length), .slice (some ⟨w.heap.size, 0, none⟩) len len, w.alloc (.cells ⟨c'⟩ elem), ?_, .slice ?_ (upd_self _ _ _), alloc_cells R hf hL⟩
          · unfold Instr.buildSlice
            simp only [Sem.run_bind, run_und K ht, hd, Result.andThen_ok, run_size K hte]
            rw [if_neg (by omega)]
            by_cases h0 : len * j.size = 0
            · have : rep j.zero.cells.toList len = [] := List.eq_nil_of_length_eq_zero (by rw [rep_length, Array.length_toList, hzs, h0])
              rw [this] at hc'
              have hr : ∀ f : Nat → Value, (Array.range (len * j.size)).map f = ⟨[]⟩ := fun f => by rw [h0]; simp
              rw [if_pos h0]
              simp only [Sem.run_bind, Sem.run_pure, Result.andThen_ok, hr, hc', newRow, run_newObj]
              rfl
            · rw [if_neg h0]
              have hr : (Array.range (len * j.size)).map (fun i => j.zero.cells[i % j.zero.cells.size]!) = ⟨rep j.zero.cells.toList len⟩ := by rw [← hzs, rep_range]
              simp only [Sem.run_bind, run_zero K hte, Sem.run_pure, Result.andThen_ok, hr, hc', newRow, run_newObj]
              rfl
          · show len < SL
            unfold SL
            omega
        · cases e
      · cases e

end Go.Proofs.YtlkhpgocbojdgaaGreatDoor.Ai
/-
  EACH OPERATION OF THE EVALUATOR IS ONE OF THE MACHINE's, part 3: arithmetic, comparisons, slices, places.
-/
namespace Go.Proofs.YtlkhpgocbojdgaaGreatDoor.Ai
open Go
set_option linter.unusedSimpArgs false
set_option linter.unusedVariables false
variable {E : Env} {ρ : Ren} {h h' : AHeap} {w : World}

theorem wrapF_eq (k : IntKind) (n : Int) : wrapF k n = k.wrap n := by
  unfold wrapF
  split
  · split
    · rename_i hb
      unfold inI64 at hb
      refine (IntWalk.i64_in n ?_).symm
      split at hb
      · rename_i m
        have : m < 9223372036854775808 := by simpa [Nat.blt_eq] using hb
        simp only [Int.ofNat_eq_natCast]
        omega
      · rename_i m
        have : m < 9223372036854775808 := by simpa [Nat.blt_eq] using hb
        omega
    · rfl
  · rfl

theorem okFlat_some {x : Option Value} {v : Value} (e : okFlat x = some v) : x = some v ∧ flat v = true := by
  unfold okFlat at e
  split at e
  · split at e
    · rename_i hf; cases e; exact ⟨rfl, hf⟩
    · cases e
  · cases e

theorem eqGuard_int (op : BinOp) (t : TypeId) (x y : Operand) (k j : IntKind) (a b : Int) : (eqGuard op t x y (.int k a) (.int j b)).run E.P w = .ok () w := by
  cases op <;> rfl

theorem intA_sound {op : BinOp} {k : IntKind} {a b : Int} {v : Value} (e : intA E op k a b = some v) (t : TypeId) : (binOp op t (.int k a) (.int k b)).run E.P w = .ok v w ∧ flat v = true := by
  cases op <;> simp only [intA, Option.some.injEq] at e <;> (first | (subst e; refine ⟨?_, rfl⟩) | skip)
  case add => simp [binOp, Op.intArith, wrapF_eq]
  case sub => simp [binOp, Op.intArith, wrapF_eq]
  case mul => simp [binOp, Op.intArith, wrapF_eq]
  case eql => simp [binOp, Op.intCmp]; rfl
  case neq => simp [binOp, Op.intCmp]; rfl
  case lss => simp [binOp, Op.intCmp]
  case leq => simp [binOp, Op.intCmp]
  case gtr => simp [binOp, Op.intCmp]
  case geq => simp [binOp, Op.intCmp]
  all_goals exact ⟨runP_run E.P _ (okFlat_some e).1 w, (okFlat_some e).2⟩

theorem sameKind_eq {k j : IntKind} (e : sameKind k j = true) : k = j := by
  unfold sameKind at e
  split at e
  · rfl
  · exact of_decide_eq_true e

theorem ba_ext {a b : ByteArray} (e : a.data.toList = b.data.toList) : a = b := by
  obtain ⟨⟨a⟩⟩ := a
  obtain ⟨⟨b⟩⟩ := b
  simp at e
  rw [e]

theorem strOp_flat {op : BinOp} {x y : List UInt8} {v : Value} (e : strOp op x y = some v) : flat v = true := by
  unfold strOp at e
  split at e <;> first
    | (cases e; done)
    | (cases e; rfl)
    | (split at e <;> first | (cases e; done) | (cases e; rfl))
theorem strOp_sound {op : BinOp} {x y : ByteArray} {v : Value} (e : strOp op x.data.toList y.data.toList = some v) : (Op.stringOp op x y).run E.P w = .ok v w := by
  unfold strOp at e
  unfold Op.stringOp
  rw [ByteArray.toList_eq, ByteArray.toList_eq]
  split at e
  · split at e
    · rename_i hb
      cases e
      have hl := Nat.le_of_ble_eq_true hb
      have hx : x.data.toList.length = x.size := by rw [Array.length_toList]; rfl
      have hy : y.data.toList.length = y.size := by rw [Array.length_toList]; rfl
      rw [hx, hy] at hl
      dsimp only
      have hmax : IntKind.i64.max = 9223372036854775807 := by decide
      rw [if_neg (by rw [hmax]; omega)]
      have : x ++ y = ⟨⟨x.data.toList ++ y.data.toList⟩⟩ := ba_ext (by rw [Joins.data_append])
      rw [this]
      rfl
    · cases e
  · cases e; rfl
  · cases e; rfl
  · cases e; rfl
  · cases e; rfl
  · cases e; rfl
  · cases e; rfl
  · cases e

theorem eqGuard_other {op : BinOp} {t : TypeId} {x y : Operand} {a b : Value} (h1 : ¬ (a = .nilIface ∧ b = .nilIface)) (h2 : ∀ xs, a ≠ .agg xs) : (eqGuard op t x y a b).run E.P w = .ok () w := by
  cases op <;> first
    | rfl
    | (cases a <;> first
        | rfl
        | exact absurd rfl (h2 _)
        | (cases b <;> first
            | rfl
            | exact absurd ⟨rfl, rfl⟩ h1))

theorem slNil_some {a : Addr} {n cap : Nat} {v' : Value} {d : Bool} (r : VR ρ (.slice (some a) n cap) v') (e : slNil n cap = some d) : ∃ q m c', v' = .slice q m c' ∧ d = q.isNone := by
  unfold slNil at e
  cases r with
  | slice h1 _ =>
    rw [Nat.ble_eq_true_of_le (show cap ≤ UN by unfold SL UN at *; omega)] at e
    cases e
    exact ⟨_, _, _, rfl, rfl⟩
  | sliceUp h1 h2 _ _ _ =>
    rw [Nat.ble_eq_true_of_le (by unfold upCap SL UN at *; omega)] at e
    cases e
    exact ⟨_, _, _, rfl, rfl⟩
  | sliceUn =>
    rw [Nat.ble_self_eq_true] at e
    cases e
    exact ⟨_, _, _, rfl, rfl⟩
  | sliceG h1 h2 h3 h4 h5 h6 =>
    rename_i b c N z cap'
    have hb : Nat.ble (GC z) UN = false := by
      cases hb : Nat.ble (GC z) UN with
      | false => rfl
      | true => exact absurd (Nat.le_of_ble_eq_true hb) (by unfold GC; omega)
    rw [hb] at e
    have hz : Nat.beq n 0 = false := by
      cases hz : Nat.beq n 0 with
      | false => rfl
      | true => exact absurd (Nat.eq_of_beq_eq_true hz) (by omega)
    dsimp only at e
    rw [hz] at e
    cases e
    exact ⟨_, _, _, rfl, rfl⟩
  | sliceG0 =>
    rename_i q z
    have hb : Nat.ble (GC z) UN = false := by
      cases hb : Nat.ble (GC z) UN with
      | false => rfl
      | true => exact absurd (Nat.le_of_ble_eq_true hb) (by unfold GC; omega)
    rw [hb] at e
    cases e

theorem equal_run (K : E.Ok) {t : TypeId} {i : TyI} (ht : E.ty.get t = some i) {a b a' b' : Value} {d : Bool} (ha : VR ρ a a') (hb : VR ρ b b') (e : nilEq E i.desc a b = some d) :
    (Op.equal t a' b').run E.P w = .ok d w ∧ ¬ (a' = .nilIface ∧ b' = .nilIface) ∧ (∀ xs, a' ≠ .agg xs) ∧ (∀ k m, a' ≠ .int k m) ∧ (∀ s, a' ≠ .string s) ∧ (∀ k m, a' ≠ .float k m) ∧ (∀ k m l, a' ≠ .complex k m l) := by
  have key : ∀ r : Bool, (Op.equal t a' b').run E.P w = .ok r w ↔ (Op.equalIn (9999 + 1) t a' b').run E.P w = .ok r w := fun r => Iff.rfl
  rw [key]
  unfold Op.equalIn
  simp only [Sem.run_bind, run_und K ht, Result.andThen_ok]
  unfold nilEq at e
  split at e
  case h_1 => rename_i hd; rw [hd]; cases e; cases ha; cases hb; simp
  case h_2 => rename_i hd; rw [hd]; cases ha; obtain ⟨q, m, c', rfl, rfl⟩ := slNil_some hb e; cases q <;> simp
  case h_3 => rename_i hd; rw [hd]; cases hb; obtain ⟨q, m, c', rfl, rfl⟩ := slNil_some ha e; cases q <;> simp
  case h_4 => rename_i hd; rw [hd]; cases e; cases ha; cases hb <;> simp
  case h_5 => rename_i hd; rw [hd]; cases e; cases hb; cases ha <;> simp
  case h_6 =>
    rename_i el p q hd
    rw [hd]
    split at e
    · rename_i n hs hbq
      cases e
      cases ha with
      | ptr h1 =>
        cases hb with
        | ptr h2 =>
          have hbl := Nat.eq_of_beq_eq_true hbq
          dsimp only at hbl
          subst hbl
          rw [h1] at h2
          cases h2
          unfold sizeT at hs
          cases hte : E.ty.get el with
          | none => rw [hte] at hs; cases hs
          | some j =>
            rw [hte] at hs
            have hs' : j.size = n + 1 := by simpa using hs
            rename_i b c N off off'
            simp [run_size K hte, hs', sameAddr]
            rw [Bool.eq_iff_iff]
            simp
    · cases e
  case h_7 => rename_i hd; rw [hd]; cases e; cases ha; cases hb <;> simp
  case h_8 => rename_i hd; rw [hd]; cases e; cases hb; cases ha <;> simp
  case h_9 => rename_i hd; rw [hd]; cases e; cases ha; cases hb <;> simp
  case h_10 => rename_i hd; rw [hd]; cases e; cases hb; cases ha <;> simp
  case h_11 => rename_i hd; rw [hd]; cases e; cases ha; cases hb <;> simp
  case h_12 => rename_i hd; rw [hd]; cases e; cases hb; cases ha <;> simp
  case h_13 => cases e

theorem binOp_eql {t : TypeId} {a b : Value} (h1 : ∀ k m, a ≠ .int k m) (h2 : ∀ s, a ≠ .string s) (h3 : ∀ k m, a ≠ .float k m) (h4 : ∀ k m l, a ≠ .complex k m l) :
    binOp .eql t a b = (do pure (.bool (← Op.equal t a b))) ∧ binOp .neq t a b = (do pure (.bool (!(← Op.equal t a b)))) := by
  cases a <;> first
    | exact ⟨rfl, rfl⟩
    | exact absurd rfl (h1 _ _)
    | exact absurd rfl (h2 _)
    | exact absurd rfl (h3 _ _)
    | exact absurd rfl (h4 _ _ _)
    | (cases b <;> exact ⟨rfl, rfl⟩)

theorem binA_sound (K : E.Ok) {op : BinOp} {t : TypeId} {x y : Operand} {a b a' b' v : Value} (ha : VR ρ a a') (hb : VR ρ b b') (e : binA E op t x y a b = some v) :
    (do eqGuard op t x y a' b'; binOp op t a' b').run E.P w = .ok v w ∧ VR ρ v v := by
  unfold binA at e
  split at e
  · rename_i k m j n
    cases ha
    cases hb
    split at e
    · rename_i hk
      obtain rfl := sameKind_eq hk
      exact ⟨by simp only [Sem.run_bind, eqGuard_int, Result.andThen_ok, (intA_sound (w := w) e t).1], flat_VR ρ (intA_sound (E := E) (w := w) e t).2⟩
    · cases e
  · rename_i p q
    cases ha
    cases hb
    refine ⟨?_, ?_⟩
    · simp only [Sem.run_bind, eqGuard_other (a := .string p) (b := .string q) (by simp) (by simp), Result.andThen_ok]
      have : binOp op t (.string p) (.string q) = Op.stringOp op p q := by cases op <;> rfl
      rw [this]
      exact strOp_sound e
    · exact flat_VR ρ (strOp_flat e)
  · split at e
    · rename_i hf
      rw [Bool.and_eq_true] at hf
      obtain rfl := flat_eq hf.1 ha
      obtain rfl := flat_eq hf.2 hb
      exact ⟨runP_run E.P _ (okFlat_some e).1 w, flat_VR ρ (okFlat_some e).2⟩
    · split at e
      · rename_i i ht
        unfold eqlA at e
        split at e
        · rename_i d hd
          obtain ⟨hr, g1, g2, g3, g4, g5, g6⟩ := equal_run K (w := w) ht ha hb hd
          obtain ⟨f1, f2⟩ := binOp_eql (t := t) (b := b') g3 g4 g5 g6
          split at e
          · cases e
            exact ⟨by simp only [Sem.run_bind, eqGuard_other g1 g2, Result.andThen_ok, f1, hr, Sem.run_pure], .bool _⟩
          · cases e
            exact ⟨by simp only [Sem.run_bind, eqGuard_other g1 g2, Result.andThen_ok, f2, hr, Sem.run_pure], .bool _⟩
          · cases e
        · cases e
      · cases e
end Go.Proofs.YtlkhpgocbojdgaaGreatDoor.Ai
/-
  EACH OPERATION OF THE EVALUATOR IS ONE OF THE MACHINE's, part 4: slices, places, conversions.
-/
namespace Go.Proofs.YtlkhpgocbojdgaaGreatDoor.Ai
open Go
set_option linter.unusedSimpArgs false
set_option linter.unusedVariables false
variable {E : Env} {ρ : Ren} {h h' : AHeap} {w : World}

theorem ret_some {x : Option Value} {r : Option Value} (e : ret h x = some (r, h')) : h' = h ∧ ∃ v, x = some v ∧ r = some v := by
  unfold ret at e
  split at e
  · cases e; exact ⟨rfl, _, rfl, rfl⟩
  · cases e

theorem unA_sound {op : UnOp} {a a' : Value} {r : Option Value} (ha : VR ρ a a') (e : unA E h op (some a) = some (r, h')) :
    h' = h ∧ ∃ v, r = some v ∧ (Op.unary op a').run E.P w = .ok v w ∧ VR ρ v v := by
  unfold unA at e
  dsimp only at e
  split at e
  · rename_i hf
    obtain ⟨h1, v, h2, h3⟩ := ret_some e
    obtain rfl := flat_eq hf ha
    obtain ⟨h4, h5⟩ := okFlat_some h2
    exact ⟨h1, v, h3, runP_run E.P _ h4 w, flat_VR ρ h5⟩
  · cases e

theorem bytesCells_LR (s : ByteArray) : LR ρ (bytesCells s) (bytesCells s) := by
  refine LR.flat ?_
  unfold bytesCells
  rw [List.all_map]
  exact List.all_eq_true.2 fun _ _ => rfl

theorem asIntOf_nat {v v' : Value} {n : Nat} (hv : VR ρ v v') (e : natV v = some n) : ∃ k, v' = .int k n := by
  cases hv <;> simp [natV, intV, asNat] at e
  rename_i k i
  split at e
  · cases e; exact ⟨k, rfl⟩
  · cases e

theorem fieldsD_some {t : TypeId} {fs : List Field} (e : fieldsD (E.ty.get t) = some fs) : ∃ i a, E.ty.get t = some i ∧ i.desc = .struct a ∧ fs = a.toList := by
  unfold fieldsD at e
  split at e
  · rename_i a z s b he
    cases e
    exact ⟨_, a, he, rfl, rfl⟩
  · cases e

theorem sizeT_some {t : TypeId} {n : Nat} (e : sizeT E t = some n) : ∃ i, E.ty.get t = some i ∧ i.size = n := by
  unfold sizeT at e
  cases h : E.ty.get t with
  | none => rw [h] at e; cases e
  | some i => rw [h] at e; cases e; exact ⟨i, rfl, rfl⟩

theorem fieldAddrA_sound (K : E.Ok) {t : TypeId} {f : Nat} {x x' : Value} {r : Option Value} (hx : VR ρ x x') (e : fieldAddrA E h f (some x) (fieldsD (E.ty.get t)) = some (r, h')) :
    h' = h ∧ ∃ v v', r = some v ∧ (Instr.fieldAt t x' f).run E.P w = .ok v' w ∧ VR ρ v v' := by
  cases hfd : fieldsD (E.ty.get t) with
  | none => rw [hfd] at e; unfold fieldAddrA at e; split at e <;> first | (cases e; done) | (rename_i hh; cases hh)
  | some fs =>
    obtain ⟨i, a, ht, hd, rfl⟩ := fieldsD_some hfd
    rw [hfd] at e
    cases hx with
    | ptr hρ =>
      rename_i b c N off
      simp only [fieldAddrA] at e
      cases hf : a.toList[f]? with
      | none => rw [hf] at e; cases e
      | some fl =>
        rw [hf] at e
        dsimp only at e
        split at e
        · rename_i n hs
          cases e
          obtain ⟨j, hj, hsz⟩ := sizeT_some hs
          refine ⟨rfl, _, .pointer (some ⟨c, off + fl.offset, none⟩), rfl, ?_, .ptr hρ⟩
          unfold Instr.fieldAt
          rw [Array.getElem?_toList] at hf
          simp [run_und K ht, hd, hf, Instr.sureAddr, fieldPlace, run_size K hj, hsz, addr_add]
        · cases e
    | _ => simp [fieldAddrA] at e

theorem part_run (K : E.Ok) {t : TypeId} {i : TyI} (ht : E.ty.get t = some i) {cs cs' : List Value} {off : Nat} {r : Option Value} (hL : LR ρ cs cs') (e : partA h cs off (some i) = some (r, h')) :
    h' = h ∧ ∃ v v', r = some v ∧ (part t ⟨cs'⟩ off).run E.P w = .ok v' w ∧ VR ρ v v' := by
  simp only [partA] at e
  cases hs : slice? cs off i.size with
  | none => rw [hs] at e; cases e
  | some l =>
    rw [hs] at e
    obtain ⟨h1, v, h2, h3⟩ := ret_some e
    obtain ⟨hs', hL'⟩ := hL.slice? hs
    obtain ⟨v', hw', r'⟩ := wrapCells_sound hL' h2
    refine ⟨h1, v, v', h3, ?_, r'⟩
    unfold part
    simp only [Sem.run_bind, run_isAgg K ht, Result.andThen_ok]
    have hlen := (slice?_some hs').2
    cases hag : isAggD i.desc with
    | true =>
      rw [hag] at hw'
      cases hw'
      simp only [if_true, Sem.run_bind, run_size K ht, Result.andThen_ok]
      have : (⟨cs'⟩ : Array Value).extract off (off + i.size) = ⟨(cs'.drop off).take i.size⟩ := by
        apply Array.ext'
        rw [Array.toList_extract]
        simp [List.extract_eq_take_drop]
      rw [this]
      rfl
    | false =>
      rw [hag] at hw'
      cases hq : (cs'.drop off).take i.size with
      | nil => rw [hq] at hw'; cases hw'
      | cons q rest =>
        rw [hq] at hw'
        cases rest with
        | cons _ _ => cases hw'
        | nil =>
          cases hw'
          have h0 : ((cs'.drop off).take i.size)[0]? = some v' := by rw [hq]; rfl
          rw [List.getElem?_take] at h0
          split at h0
          · rw [List.getElem?_drop, Nat.add_zero] at h0
            simp [h0]
          · cases h0

theorem fieldA_sound (K : E.Ok) {t : TypeId} {f : Nat} {x x' : Value} {r : Option Value} (hx : VR ρ x x') (e : fieldA E h f (some x) (fieldsD (E.ty.get t)) = some (r, h')) :
    h' = h ∧ ∃ v v', r = some v ∧ (Instr.field t x' f).run E.P w = .ok v' w ∧ VR ρ v v' := by
  cases hfd : fieldsD (E.ty.get t) with
  | none => rw [hfd] at e; unfold fieldA at e; split at e <;> first | (cases e; done) | (rename_i hh; cases hh)
  | some fs =>
    obtain ⟨i, a, ht, hd, rfl⟩ := fieldsD_some hfd
    rw [hfd] at e
    cases hx with
    | agg hl hr =>
      rename_i xs ys
      simp only [fieldA] at e
      cases hf : a.toList[f]? with
      | none => rw [hf] at e; cases e
      | some fl =>
        rw [hf] at e
        dsimp only at e
        cases hj : E.ty.get fl.type with
        | none => rw [hj] at e; cases e
        | some j =>
          rw [hj] at e
          obtain ⟨h1, v, v', h2, h3, h4⟩ := part_run (w := w) K hj ⟨hl, hr⟩ e
          refine ⟨h1, v, v', h2, ?_, h4⟩
          unfold Instr.field
          rw [Array.getElem?_toList] at hf
          simp only [Sem.run_bind, run_und K ht, hd, Result.andThen_ok, hf, asAgg, Sem.run_pure]
          exact h3
    | _ => simp [fieldA] at e

theorem indexAddrA_sound (K : E.Ok) {t : TypeId} {x x' ix ix' : Value} {r : Option Value} (hx : VR ρ x x') (hi : VR ρ ix ix') (e : indexAddrA E h (E.ty.get t) (some x) (natV ix) = some (r, h')) :
    h' = h ∧ ∃ v v', r = some v ∧ (Instr.indexAt t x' ix').run E.P w = .ok v' w ∧ VR ρ v v' := by
  cases hn : natV ix with
  | none => rw [hn] at e; unfold indexAddrA at e; split at e <;> first | (cases e; done) | (rename_i hh; cases hh)
  | some n =>
    obtain ⟨k, rfl⟩ := asIntOf_nat hi hn
    rw [hn] at e
    unfold indexAddrA at e
    split at e
    · rename_i elem z0 s0 b0 a len cp i' ht hxx hnn
      cases hxx
      cases hnn
      split at e
      · rename_i z hlt hz
        cases e
        have hlt' : n < len := by simpa [Nat.blt_eq] using hlt
        obtain ⟨j, hj, rfl⟩ := sizeT_some hz
        have key : ∀ (c off cap' : Nat), (Instr.indexAt t (.slice (some ⟨c, off, none⟩) len cap') (.int k n)).run E.P w = .ok (.pointer (some ⟨c, off + n * j.size, none⟩)) w := by
          intro c off cap'
          unfold Instr.indexAt
          simp [asIntOf, run_und K ht, run_size K hj, hlt', addr_add]
        cases hx with
        | slice h1 hρ =>
          exact ⟨rfl, _, _, rfl, key _ _ _, .ptr hρ⟩
        | sliceUp h1 h2 h3 h4 hρ =>
          exact ⟨rfl, _, _, rfl, key _ _ _, .ptr hρ⟩
        | sliceG _ _ _ _ _ hρ =>
          exact ⟨rfl, _, _, rfl, key _ _ _, .ptr hρ⟩
        | sliceG0 => omega
        | sliceUn => omega
      · cases e
    · rename_i len elem z0 s0 b0 a i' ht hxx hnn
      cases hxx
      cases hnn
      split at e
      · rename_i z hlt hz
        cases e
        have hlt' : n < len := by simpa [Nat.blt_eq] using hlt
        obtain ⟨j, hj, rfl⟩ := sizeT_some hz
        cases hx with
        | ptr hρ =>
          refine ⟨rfl, _, _, rfl, ?_, .ptr hρ⟩
          unfold Instr.indexAt
          simp [asIntOf, run_und K ht, run_size K hj, hlt', addr_add, Instr.sureAddr]
      · cases e
    · cases e

theorem indexA_sound (K : E.Ok) {t : TypeId} {x x' ix ix' : Value} {r : Option Value} (hx : VR ρ x x') (hi : VR ρ ix ix') (e : indexA E h (E.ty.get t) (some x) (natV ix) = some (r, h')) :
    h' = h ∧ ∃ v v', r = some v ∧ (Instr.index t x' ix').run E.P w = .ok v' w ∧ VR ρ v v' := by
  cases hn : natV ix with
  | none => rw [hn] at e; unfold indexA at e; split at e <;> first | (cases e; done) | (rename_i hh; cases hh)
  | some n =>
    obtain ⟨k, rfl⟩ := asIntOf_nat hi hn
    rw [hn] at e
    unfold indexA at e
    split at e
    · rename_i len elem z0 s0 b0 cs i' ht hxx hnn
      cases hxx
      cases hnn
      cases hx with
      | agg hl hr =>
        rename_i xs ys
        split at e
        · rename_i z hlt hz
          have hlt' : n < len := by simpa [Nat.blt_eq] using hlt
          obtain ⟨h1, v, v', h2, h3, h4⟩ := part_run (w := w) K hz ⟨hl, hr⟩ e
          refine ⟨h1, v, v', h2, ?_, h4⟩
          unfold Instr.index
          simp only [asIntOf, Sem.run_bind, Sem.run_pure, Result.andThen_ok, run_und K ht]
          rw [if_pos ⟨by omega, by omega⟩]
          simp only [Sem.run_bind, run_size K hz, Result.andThen_ok, Int.toNat_natCast]
          exact h3
        · cases e
    · rename_i z0 s0 b0 b i' ht hxx hnn
      cases hxx
      cases hnn
      cases hx
      split at e
      · rename_i c hc
        cases e
        refine ⟨rfl, _, _, rfl, ?_, .int _ _⟩
        have hlt : n < b.size := by
          have := (List.getElem?_eq_some_iff.1 hc).1
          rwa [Array.length_toList] at this
        have hget : b[n]? = some c := by
          rw [Array.getElem?_toList] at hc
          exact hc
        unfold Instr.index
        simp [asIntOf, run_und K ht, hget]
      · cases e
    · cases e

/-! ### Slices -/
theorem bound_run {y n : Nat} {k : IntKind} {code : BoundsCode} (hn : n ≤ y) : (Instr.sliceBound (.int k n) y code).run E.P w = .ok n w := by
  unfold Instr.sliceBound
  simp [asIntOf, hn]

theorem bounds_run {len cap cap' l hh : Nat} {lo hi lo' hi' : Option Value} {isS : Bool} (hlo : ∀ v, lo = some v → ∃ v', lo' = some v' ∧ VR ρ v v') (hlo0 : lo = none → lo' = none)
    (hhi : ∀ v, hi = some v → ∃ v', hi' = some v' ∧ VR ρ v v') (hhi0 : hi = none → hi' = none) (hcap : cap ≤ cap') (e : bounds len cap lo hi = some (l, hh)) :
    (Instr.sliceBounds isS len cap' lo' hi' none).run E.P w = .ok (l, hh, cap') w ∧ l ≤ hh ∧ hh ≤ cap := by
  unfold bounds at e
  split at e
  · rename_i x y hx hy
    split at e
    · rename_i hb
      cases e
      rw [Bool.and_eq_true] at hb
      have h1 := Nat.le_of_ble_eq_true hb.1
      have h2 := Nat.le_of_ble_eq_true hb.2
      refine ⟨?_, h1, h2⟩
      unfold Instr.sliceBounds
      have key : ∀ isS : Bool, (match hi', (none : Option Value) with
          | some v, some _ => Instr.sliceBound v cap' .slice3B
          | some v, none => Instr.sliceBound v cap' (if isS then .sliceAcap else .sliceAlen)
          | none, none => (pure len : Sem Nat)
          | none, some _ => stuck "Slice: max without high").run E.P w = .ok hh w := by
        intro isS
        cases hi with
        | none => rw [hhi0 rfl]; simp at hx; subst hx; rfl
        | some v =>
          obtain ⟨v', rfl, r⟩ := hhi v rfl
          obtain ⟨k, rfl⟩ := asIntOf_nat r hx
          exact bound_run (by omega)
      simp only [Sem.run_bind, Sem.run_pure, Result.andThen_ok]
      cases hi with
      | none =>
        rw [hhi0 rfl]
        simp at hx
        subst hx
        simp only [Sem.run_bind, Sem.run_pure, Result.andThen_ok]
        cases lo with
        | none => rw [hlo0 rfl]; simp at hy; subst hy; simp
        | some v =>
          obtain ⟨v', rfl, r⟩ := hlo v rfl
          obtain ⟨k, rfl⟩ := asIntOf_nat r hy
          simp [bound_run (E := E) (w := w) h1]
      | some v =>
        obtain ⟨v', rfl, r⟩ := hhi v rfl
        obtain ⟨k, rfl⟩ := asIntOf_nat r hx
        simp only [Sem.run_bind, bound_run (E := E) (w := w) (show hh ≤ cap' by omega), Result.andThen_ok]
        cases lo with
        | none => rw [hlo0 rfl]; simp at hy; subst hy; simp
        | some v =>
          obtain ⟨v', rfl, r⟩ := hlo v rfl
          obtain ⟨k, rfl⟩ := asIntOf_nat r hy
          simp [bound_run (E := E) (w := w) h1]
    · cases e
  · cases e

theorem up_ge (z k : Nat) : SL ≤ upCap z k := by
  unfold upCap
  have := Nat.le_mul_of_pos_right SL (show 0 < z + 1 by omega)
  omega
theorem up_lt {z k : Nat} (hk : k < SL) (hz : z < 1099511627776) : upCap z k < UN := by
  unfold upCap SL UN at *
  omega
theorem up_mod {z k : Nat} (hk : k < SL) : upCap z k % SL = k := by
  unfold upCap
  rw [Nat.mul_add_mod, Nat.mod_eq_of_lt hk]
theorem up_div {z k : Nat} (hk : k < SL) : upCap z k / SL = z + 1 := by
  unfold upCap
  rw [Nat.mul_add_div (by unfold SL; omega), Nat.div_eq_of_lt hk, Nat.add_zero]
theorem up_sub {z k l : Nat} (hl : l ≤ k) : upCap z k - l = upCap z (k - l) := by unfold upCap; omega

theorem VR.un_ite {c : Prop} [Decidable c] {a a1 a2 : Addr} {cp : Nat} : VR ρ (.slice (some a) 0 UN) (.slice (if c then some a1 else some a2) 0 cp) := by split <;> exact .sliceUn

theorem sliceA_sound (K : E.Ok) {t : TypeId} {i : TyI} (ht : E.ty.get t = some i) {x x' v : Value} {lo hi lo' hi' : Option Value} (hx : VR ρ x x') (hlo : ∀ v, lo = some v → ∃ v', lo' = some v' ∧ VR ρ v v') (hlo0 : lo = none → lo' = none)
    (hhi : ∀ v, hi = some v → ∃ v', hi' = some v' ∧ VR ρ v v') (hhi0 : hi = none → hi' = none) (e : sliceA E i.desc x lo hi = some v) :
    ∃ v', (Instr.sliceAt t x' lo' hi' none).run E.P w = .ok v' w ∧ VR ρ v v' := by
  have hb := fun {len cap cap' l hh : Nat} {isS : Bool} (hc : cap ≤ cap') (e : bounds len cap lo hi = some (l, hh)) => bounds_run (E := E) (w := w) (isS := isS) hlo hlo0 hhi hhi0 hc e
  unfold sliceA at e
  split at e
  · rename_i s hd
    cases hx
    cases hbb : bounds s.size s.size lo hi with
    | none => rw [hbb] at e; cases e
    | some p =>
      obtain ⟨l, hh⟩ := p
      rw [hbb] at e
      cases e
      obtain ⟨hr, h1, h2⟩ := hb (isS := false) (Nat.le_refl _) hbb
      refine ⟨.string (s.extract l hh), ?_, ?_⟩
      · unfold Instr.sliceAt Instr.slice
        simp [run_und K ht, hd, hr]
      · have : s.extract l hh = ⟨⟨(s.data.toList.drop l).take (hh - l)⟩⟩ := ba_ext (by rw [Lib.extract_data])
        rw [this]
        exact .string _
  · rename_i elem base len cap hd
    split at e
    · cases e
    · rename_i size hz
      obtain ⟨j, hj, rfl⟩ := sizeT_some hz
      have hsl : ∀ (base' : Option Addr) (cap' l hh : Nat), (Instr.sliceBounds true len cap' lo' hi' none).run E.P w = .ok (l, hh, cap') w →
          (Instr.sliceAt t (.slice base' len cap') lo' hi' none).run E.P w = .ok (.slice (if cap' = l then base' else base'.map (·.add (l * j.size))) (hh - l) (cap' - l)) w := by
        intro base' cap' l hh hr
        unfold Instr.sliceAt Instr.slice
        simp [run_und K ht, hd, hr, run_size K hj]
      split at e
      · cases hx
        cases hbb : bounds len cap lo hi with
        | none => rw [hbb] at e; cases e
        | some p =>
          obtain ⟨l, hh⟩ := p
          rw [hbb] at e
          cases e
          obtain ⟨hr, h1, h2⟩ := hb (isS := true) (Nat.le_refl _) hbb
          refine ⟨_, hsl none cap l hh hr, ?_⟩
          simp
          exact .sliceNil _ _
      · rename_i a
        split at e
        · rename_i hlt
          have hlt' : cap < SL := by simpa [Nat.blt_eq] using hlt
          cases hbb : bounds len cap lo hi with
          | none => rw [hbb] at e; cases e
          | some p =>
            obtain ⟨l, hh⟩ := p
            rw [hbb] at e
            cases e
            obtain ⟨hr, h1, h2⟩ := hb (isS := true) (Nat.le_refl _) hbb
            cases hx with
            | slice h3 hρ =>
              refine ⟨_, hsl _ cap l hh hr, ?_⟩
              dsimp only
              cases hbl : Nat.beq l cap with
              | true =>
                have := Nat.eq_of_beq_eq_true hbl
                rw [if_pos this.symm]
                exact .slice (by omega) hρ
              | false =>
                have := Nat.ne_of_beq_eq_false hbl
                rw [if_neg (Ne.symm this)]
                simp only [Option.map_some, addr_add]
                exact .slice (by omega) hρ
            | sliceUp h3 h4 h5 h6 h7 => exact absurd hlt' (Nat.not_lt.2 (up_ge _ _))
            | sliceUn => unfold SL UN at hlt'; omega
            | sliceG => exact absurd hlt' (by unfold GC SL UN; omega)
            | sliceG0 => exact absurd hlt' (by unfold GC SL UN; omega)
        · rename_i hlt
          have hlt' : ¬ cap < SL := by simpa [← Nat.blt_eq] using hlt
          split at e
          · rename_i hun
            have hun' : cap < UN := by simpa [Nat.blt_eq] using hun
            split at e
            · rename_i hsz
              have hsz' := Nat.eq_of_beq_eq_true hsz
              cases hbb : bounds len (cap % SL) lo hi with
              | none => rw [hbb] at e; cases e
              | some p =>
                obtain ⟨l, hh⟩ := p
                rw [hbb] at e
                cases e
                cases hx with
                | slice h3 => omega
                | sliceUn => omega
                | sliceG => exact absurd hun' (by unfold GC; omega)
                | sliceG0 => exact absurd hun' (by unfold GC; omega)
                | sliceUp h3 hz1 h4 h5 hρ =>
                  rename_i b c N off z k cap'
                  rw [up_div h3] at hsz'
                  obtain rfl : z = j.size := by omega
                  rw [up_mod h3] at hbb
                  obtain ⟨hr, h1, h2⟩ := hb (isS := true) h4 hbb
                  refine ⟨_, hsl _ _ l hh hr, ?_⟩
                  dsimp only
                  rw [up_mod h3]
                  cases hbl : Nat.beq l k with
                  | true =>
                    have := Nat.eq_of_beq_eq_true hbl
                    rw [show hh - l = 0 by omega]
                    exact VR.un_ite
                  | false =>
                    have := Nat.ne_of_beq_eq_false hbl
                    rw [if_neg (by omega)]
                    simp only [Option.map_some, addr_add]
                    rw [up_sub (by omega)]
                    refine .sliceUp (by omega) hz1 (by omega) ?_ hρ
                    have e1 : (cap' - l) * j.size = cap' * j.size - l * j.size := Nat.sub_mul _ _ _
                    have e2 : l * j.size ≤ cap' * j.size := Nat.mul_le_mul_right _ (by omega)
                    have e3 : off + cap' * j.size ≤ N := h5
                    show off + l * j.size + (cap' - l) * j.size ≤ N
                    rw [e1]
                    generalize l * j.size = A at *
                    generalize cap' * j.size = B at *
                    omega
            · cases e
          · rename_i hun
            have hun' : ¬ cap < UN := by simpa [← Nat.blt_eq] using hun
            split at e
            · rename_i hq
              have hq' := Nat.eq_of_beq_eq_true hq
              cases hbb : bounds 0 0 lo hi with
              | none => rw [hbb] at e; cases e
              | some p =>
                obtain ⟨l, hh⟩ := p
                rw [hbb] at e
                cases e
                cases hx with
                | slice h3 => omega
                | sliceUp h3 hz1 => exact absurd (up_lt h3 hz1) hun'
                | sliceG => exact absurd hq' (by unfold GC; omega)
                | sliceG0 => exact absurd hq' (by unfold GC; omega)
                | sliceUn =>
                  rename_i a' cap'
                  obtain ⟨hr, h1, h2⟩ := hb (isS := true) (cap' := cap') (Nat.zero_le _) hbb
                  refine ⟨_, hsl _ _ l hh hr, ?_⟩
                  rw [show hh - l = 0 by omega]
                  exact VR.un_ite
            · rename_i hq
              have hq' := Nat.ne_of_beq_eq_false hq
              split at e
              · rename_i hg
                rw [Bool.and_eq_true] at hg
                have hg1 : 0 < len := by simpa [Nat.blt_eq] using hg.1
                have hg2 := Nat.eq_of_beq_eq_true hg.2
                cases hbb : bounds len len lo hi with
                | none => rw [hbb] at e; cases e
                | some p =>
                  obtain ⟨l, hh⟩ := p
                  rw [hbb] at e
                  cases e
                  cases hx with
                  | slice h3 => omega
                  | sliceUp h3 hz1 => exact absurd (up_lt h3 hz1) hun'
                  | sliceUn => exact absurd rfl hq'
                  | sliceG0 => omega
                  | sliceG g1 g2 g3 g4 g5 hρ =>
                    rename_i b c N z cap'
                    obtain rfl : z = j.size := by unfold GC at hg2; omega
                    obtain ⟨hr, h1, h2⟩ := hb (isS := true) g4 hbb
                    refine ⟨_, hsl _ _ l hh hr, ?_⟩
                    dsimp only
                    cases hbl : Nat.beq l len with
                    | true =>
                      have := Nat.eq_of_beq_eq_true hbl
                      rw [show hh - l = 0 by omega]
                      exact VR.un_ite
                    | false =>
                      have := Nat.ne_of_beq_eq_false hbl
                      rw [if_neg (by omega)]
                      simp only [Option.map_some, addr_add]
                      refine .sliceUp (by omega) g3 (by omega) ?_ hρ
                      have e1 : (cap' - l) * j.size = cap' * j.size - l * j.size := Nat.sub_mul _ _ _
                      have e2 : l * j.size ≤ cap' * j.size := Nat.mul_le_mul_right _ (by omega)
                      show 0 + l * j.size + (cap' - l) * j.size ≤ N
                      rw [e1]
                      generalize l * j.size = A at *
                      generalize cap' * j.size = B at *
                      omega
              · cases e
  · rename_i n elem a hd
    split at e
    · cases e
    · rename_i size hz
      obtain ⟨j, hj, rfl⟩ := sizeT_some hz
      split at e
      · rename_i hlt
        have hlt' : n < SL := by simpa [Nat.blt_eq] using hlt
        cases hbb : bounds n n lo hi with
        | none => rw [hbb] at e; cases e
        | some p =>
          obtain ⟨l, hh⟩ := p
          rw [hbb] at e
          cases e
          obtain ⟨hr, h1, h2⟩ := hb (isS := false) (Nat.le_refl _) hbb
          cases hx with
          | ptr hρ =>
            rename_i b c N off
            refine ⟨.slice (some (if n = l then ⟨c, off, none⟩ else (⟨c, off, none⟩ : Addr).add (l * j.size))) (hh - l) (n - l), ?_, ?_⟩
            · unfold Instr.sliceAt
              simp [run_und K ht, hd, hr, run_size K hj, Instr.sureAddr]
            · dsimp only
              cases hbl : Nat.beq l n with
              | true =>
                have := Nat.eq_of_beq_eq_true hbl
                rw [if_pos this.symm]
                exact .slice (by omega) hρ
              | false =>
                have := Nat.ne_of_beq_eq_false hbl
                rw [if_neg (Ne.symm this), addr_add]
                exact .slice (by omega) hρ
      · cases e
  · cases e
end Go.Proofs.YtlkhpgocbojdgaaGreatDoor.Ai

/-
  EACH OPERATION OF THE EVALUATOR IS ONE OF THE MACHINE's, part 2: values made of others; arithmetic; addresses.
-/
import Derived.Test.YtlkhpgocbojdgaaGreatDoorAiOps
namespace Go.Proofs.YtlkhpgocbojdgaaGreatDoor.Ai
open Go
set_option linter.unusedSimpArgs false
set_option linter.unusedVariables false
variable {E : Env} {ρ : Ren} {h h' : AHeap} {w : World}

/-! ### Literals -/
theorem foldl_writeList (off : Nat) : ∀ (l : List Value) (k : Nat) (cs : Array Value),
    (l.zipIdx k).foldl (fun cs (x : Value × Nat) => cs.setIfInBounds (off + x.2) x.1) cs = writeList cs (off + k) l
  | [], k, cs => rfl
  | v :: r, k, cs => by
    rw [List.zipIdx_cons, List.foldl_cons, foldl_writeList off r (k + 1)]
    rfl
theorem writeList_splice {cells vs : List Value} {off : Nat} (hl : off + vs.length ≤ cells.length) :
    writeList ⟨cells⟩ off vs = ⟨cells.take off ++ vs ++ cells.drop (off + vs.length)⟩ := by
  apply Array.ext_getElem?
  intro i
  rw [get_writeList _ _ _ (by simpa using hl)]
  simp only [List.getElem?_toArray]
  rw [List.append_assoc, List.getElem?_append, List.length_take]
  by_cases h1 : i < off
  · rw [if_neg (by omega), if_pos (by omega), List.getElem?_take, if_pos h1]
  · rw [if_neg (show ¬ i < min off cells.length by omega), List.getElem?_append]
    by_cases h2 : i < off + vs.length
    · rw [if_pos (by omega), if_pos (by omega)]
      congr 1
      omega
    · rw [if_neg (by omega), if_neg (by omega), List.getElem?_drop]
      congr 1
      omega

theorem fill_sound {place : Nat → Option (Nat × Nat)} : ∀ (ps qs : List (Nat × Value)) (cells cells' r : List Value), LR ρ cells cells' → PR ρ ps qs → fillL place cells ps = some r →
    ∃ r', Instr.fill place ⟨cells'⟩ qs = some ⟨r'⟩ ∧ LR ρ r r'
  | [], qs, cells, cells', r, hL, hP, e => by
    have : qs = [] := List.eq_nil_of_length_eq_zero hP.1.symm
    subst this
    cases e
    exact ⟨cells', rfl, hL⟩
  | (i, v) :: ps, [], cells, cells', r, hL, hP, e => by have := hP.1; simp at this
  | (i, v) :: ps, (i', v') :: qs, cells, cells', r, hL, hP, e => by
    obtain ⟨h1, h2⟩ := hP.2 0 _ _ rfl rfl
    dsimp only at h1 h2
    subst h1
    unfold fillL at e
    unfold Instr.fill
    cases hp : place i with
    | none => rw [hp] at e; cases e
    | some x =>
      obtain ⟨off, size⟩ := x
      rw [hp] at e
      dsimp only at e ⊢
      split at e
      · rename_i hb
        have hsz := Nat.eq_of_beq_eq_true hb
        split at e
        · rename_i c2 hs
          obtain ⟨hlen, rfl⟩ := splice_some hs
          have hc := h2.cells
          have hsz' : v'.cells.size = size := by rw [← hsz, hc.1, Array.length_toList]
          have hfit : off + v'.cells.toList.length ≤ cells'.length := by rw [← hc.1, ← hL.1]; exact hlen
          rw [if_neg (by
            simp only [hsz', ne_eq, not_true_eq_false, decide_false, Bool.false_or, decide_eq_true_eq]
            rw [← hsz', ← Array.length_toList]
            simp only [gt_iff_lt, List.size_toArray]
            omega)]
          have hfold : v'.cells.zipIdx.foldl (fun (cs : Array Value) (x : Value × Nat) => cs.setIfInBounds (off + x.2) x.1) ⟨cells'⟩ = (⟨cells'.take off ++ v'.cells.toList ++ cells'.drop (off + v'.cells.toList.length)⟩ : Array Value) := by
            rw [← Array.foldl_toList, Array.toList_zipIdx, foldl_writeList, Nat.add_zero, writeList_splice hfit]
          rw [hfold]
          refine fill_sound ps qs _ _ r ?_ ⟨by have := hP.1; simpa using this, fun j p q ep eq => hP.2 (j + 1) p q (by simpa using ep) (by simpa using eq)⟩ e
          rw [← hc.1]
          exact ((hL.take off).append hc).append (hL.drop _)
        · cases e
      · cases e

theorem mapM_places (K : E.Ok) : ∀ (fs : List Field) {l : List (Nat × Nat)}, fs.mapM (fun f => (sizeT E f.type).map fun z => (f.offset, z)) = some l →
    (fs.mapM (m := Sem) fun f => do pure (f.offset, ← sizeOf f.type)).run E.P w = .ok l w
  | [], l, e => by simp at e; subst e; simp
  | f :: fs, l, e => by
    rw [List.mapM_cons] at e
    cases hs : sizeT E f.type with
    | none => rw [hs] at e; simp at e
    | some z =>
      cases hr : fs.mapM (fun f => (sizeT E f.type).map fun z => (f.offset, z)) with
      | none => rw [hs, hr] at e; simp at e
      | some r =>
        rw [hs, hr] at e
        simp at e
        subst e
        unfold sizeT at hs
        cases ht : E.ty.get f.type with
        | none => rw [ht] at hs; cases hs
        | some i =>
          rw [ht] at hs
          cases hs
          rw [List.mapM_cons]
          simp only [Sem.run_bind, run_size K ht, Result.andThen_ok, Sem.run_pure, mapM_places K fs hr]

theorem places_run (K : E.Ok) {fields : Array Field} {l : List (Nat × Nat)} (e : fields.toList.mapM (fun f => (sizeT E f.type).map fun z => (f.offset, z)) = some l) :
    (fields.mapM (m := Sem) fun f => do pure (f.offset, ← sizeOf f.type)).run E.P w = .ok ⟨l⟩ w := by
  rw [Array.mapM_eq_mapM_toList]
  simp only [Sem.run_map, mapM_places K _ e, Result.andThen_ok]

theorem flat_LR {v : Value} (hf : flat v = true) : LR ρ v.cells.toList v.cells.toList := (flat_VR ρ hf).cells

theorem buildA_sound (K : E.Ok) (R : Rel ρ h w) {t : TypeId} {ps qs : List (Nat × Value)} {r : Option Value} (hP : PR ρ ps qs) (e : buildA E h (E.ty.get t) (some ps) = some (r, h')) :
    h' = h ∧ ∃ v v', r = some v ∧ (Instr.build t ⟨qs⟩).run E.P w = .ok v' w ∧ VR ρ v v' := by
  cases ht : E.ty.get t with
  | none => rw [ht] at e; cases e
  | some i =>
    rw [ht] at e
    simp only [buildA] at e
    cases hp : places E i with
    | none => rw [hp] at e; cases e
    | some pl =>
      rw [hp] at e
      dsimp only at e
      cases hfl : fillL pl i.zero.cells.toList ps with
      | none => rw [hfl] at e; cases e
      | some c =>
        rw [hfl] at e
        cases e
        obtain ⟨c', hc', hL⟩ := fill_sound (ρ := ρ) ps qs _ _ c (flat_LR (K.ty t i ht).2.1) hP hfl
        refine ⟨rfl, .agg ⟨c⟩, .agg ⟨c'⟩, rfl, ?_, .agg hL.1 hL.2⟩
        unfold Instr.build
        simp only [Sem.run_bind, run_zero K ht, Result.andThen_ok, run_und K ht]
        unfold places at hp
        split at hp
        · rename_i fields hd
          rw [hd]
          cases hm : fields.toList.mapM (fun f => (sizeT E f.type).map fun z => (f.offset, z)) with
          | none => rw [hm] at hp; cases hp
          | some l =>
            rw [hm] at hp
            simp only [Option.map_some, Option.some.injEq] at hp
            simp only [Sem.run_bind, places_run K hm, Result.andThen_ok]
            have : (fun x => (⟨l⟩ : Array (Nat × Nat))[x]?) = pl := by rw [← hp]; funext x; simp
            rw [this, show Instr.fill pl i.zero.cells qs = some ⟨c'⟩ from hc']
            rfl
        · rename_i len elem hd
          rw [hd]
          unfold sizeT at hp
          cases hte : E.ty.get elem with
          | none => rw [hte] at hp; cases hp
          | some j =>
            rw [hte] at hp
            simp only [Option.map_some, Option.some.injEq] at hp
            simp only [Sem.run_bind, run_size K hte, Result.andThen_ok]
            rw [hp, show Instr.fill pl i.zero.cells qs = some ⟨c'⟩ from hc']
            rfl
        · cases hp

theorem rep_get (z : List Value) : ∀ (n i : Nat), i < n * z.length → (rep z n)[i]? = z[i % z.length]?
  | 0, i, hi => by simp at hi
  | n + 1, i, hi => by
    rw [rep, List.getElem?_append]
    by_cases h1 : i < z.length
    · rw [if_pos h1, Nat.mod_eq_of_lt h1]
    · rw [if_neg h1, rep_get z n (i - z.length) (by rw [Nat.add_mul] at hi; omega)]
      congr 1
      rw [← Nat.mod_eq_sub_mod (by omega)]
theorem rep_length (z : List Value) : ∀ n, (rep z n).length = n * z.length
  | 0 => by simp [rep]
  | n + 1 => by rw [rep, List.length_append, rep_length z n, Nat.add_mul]; omega
theorem rep_range (z : Array Value) (n : Nat) : (Array.range (n * z.size)).map (fun i => z[i % z.size]!) = ⟨rep z.toList n⟩ := by
  apply Array.ext_getElem?
  intro i
  simp only [Array.getElem?_map, Array.getElem?_range, List.getElem?_toArray]
  by_cases hi : i < n * z.size
  · rw [if_pos hi, rep_get _ _ _ (by simpa using hi)]
    have hz : 0 < z.size := by
      rcases Nat.eq_zero_or_pos z.size with e | e
      · rw [e] at hi; simp at hi
      · exact e
    simp only [Option.map_some, Array.length_toList, Array.getElem?_toList]
    have hm := Nat.mod_lt i hz
    rw [Array.getElem?_eq_getElem hm, getElem!_pos z (i % z.size) hm]
  · rw [if_neg hi, List.getElem?_eq_none (by rw [rep_length]; simpa using hi)]
    rfl
theorem all_rep {z : List Value} {p : Value → Bool} (hz : z.all p = true) : ∀ n, (rep z n).all p = true
  | 0 => rfl
  | n + 1 => by rw [rep, List.all_append, hz, all_rep hz n]; rfl

theorem LR.rep {z : List Value} (hz : LR ρ z z) : ∀ n, LR ρ (rep z n) (Ai.rep z n)
  | 0 => LR.nil ρ
  | n + 1 => by rw [Ai.rep]; exact hz.append (LR.rep hz n)

theorem elemD_some {t : TypeId} {elem : TypeId} (e : elemD (E.ty.get t) = some elem) : ∃ i, E.ty.get t = some i ∧ i.desc = .slice elem := by
  unfold elemD at e
  split at e
  · rename_i el z s b he
    cases e
    exact ⟨_, he, rfl⟩
  · cases e

theorem buildSliceA_sound (K : E.Ok) (R : Rel ρ h w) {t : TypeId} {len : Nat} {ps qs : List (Nat × Value)} {r : Option Value} (hP : PR ρ ps qs)
    (e : buildSliceA E h len (elemD (E.ty.get t)) (some ps) = some (r, h')) (hf : Fr ρ h h') : ∃ v, r = some v ∧ VOk E ρ h h' w (Instr.buildSlice t len ⟨qs⟩) v := by
  cases hel : elemD (E.ty.get t) with
  | none => rw [hel] at e; cases e
  | some elem =>
    obtain ⟨i, ht, hd⟩ := elemD_some hel
    rw [hel] at e
    unfold buildSliceA at e
    dsimp only at e
    cases hte : E.ty.get elem with
    | none => rw [hte] at e; cases e
    | some j =>
      rw [hte] at e
      dsimp only at e
      split at e
      · rename_i hb
        rw [Bool.and_eq_true] at hb
        have hb1 := Nat.le_of_ble_eq_true hb.1
        have hb2 := Nat.le_of_ble_eq_true hb.2
        split at e
        · rename_i c hfl
          cases e
          have hflat := (K.ty elem j hte).2.1
          have hzs := (K.ty elem j hte).2.2.1
          obtain ⟨c', hc', hL⟩ := fill_sound (ρ := ρ) ps qs _ _ c ((flat_LR hflat).rep len) hP hfl
          refine ⟨_, rfl, upd ρ h.next (w.heap.size, c'.length), .slice (some ⟨w.heap.size, 0, none⟩) len len, w.alloc (.cells ⟨c'⟩ elem), ?_, .slice ?_ (upd_self _ _ _), alloc_cells R hf hL⟩
          · unfold Instr.buildSlice
            simp only [Sem.run_bind, run_und K ht, hd, Result.andThen_ok, run_size K hte]
            rw [if_neg (by omega)]
            by_cases h0 : len * j.size = 0
            · have : rep j.zero.cells.toList len = [] := List.eq_nil_of_length_eq_zero (by rw [rep_length, Array.length_toList, hzs, h0])
              rw [this] at hc'
              have hr : ∀ f : Nat → Value, (Array.range (len * j.size)).map f = ⟨[]⟩ := fun f => by rw [h0]; simp
              rw [if_pos h0]
              simp only [Sem.run_bind, Sem.run_pure, Result.andThen_ok, hr, hc', newRow, run_newObj]
              rfl
            · rw [if_neg h0]
              have hr : (Array.range (len * j.size)).map (fun i => j.zero.cells[i % j.zero.cells.size]!) = ⟨rep j.zero.cells.toList len⟩ := by rw [← hzs, rep_range]
              simp only [Sem.run_bind, run_zero K hte, Sem.run_pure, Result.andThen_ok, hr, hc', newRow, run_newObj]
              rfl
          · show len < SL
            unfold SL
            omega
        · cases e
      · cases e

end Go.Proofs.YtlkhpgocbojdgaaGreatDoor.Ai

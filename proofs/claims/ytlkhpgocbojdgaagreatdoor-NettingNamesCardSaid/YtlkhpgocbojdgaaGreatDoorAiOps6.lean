/-
  EACH OPERATION OF THE EVALUATOR IS ONE OF THE MACHINE's, part 6: conversions, make, len, copy, clear, maps, strings ranged over.
-/
import Derived.Test.YtlkhpgocbojdgaaGreatDoorAiOps5
import Derived.Lib.Builder
import Derived.Lib.UnsafeStr
namespace Go.Proofs.YtlkhpgocbojdgaaGreatDoor.Ai
open Go
set_option linter.unusedSimpArgs false
set_option linter.unusedVariables false
variable {E : Env} {ρ : Ren} {h h' : AHeap} {w : World}

/-- A variable lies at the head of a row of its own kind. -/
theorem lies_head {P : Program} {e : TypeId} {s cells : Nat} (hs : P.cellsOf e = s + 1) (hn : s + 1 ≤ cells) : liesAt P P.depth e (cells / P.cellsOf e) 0 e 1 = true := by
  have hd : P.depth = (2 * (P.types.size + Made.depth) + 1) + 1 := rfl
  have h1 : 1 ≤ cells / (s + 1) := (Nat.le_div_iff_mul_le (by omega)).2 (by omega)
  rw [hd]
  simp only [liesAt, Bool.or_eq_true]
  left
  rw [hd]
  simp [rowAt, hs, h1, sameLayout]
theorem cellsOf_size (K : E.Ok) {t : TypeId} {n : Nat} (h : sizeT E t = some n) : E.P.cellsOf t = n ∧ ∃ j, E.P.info? t = some j ∧ j.size = n := by
  unfold sizeT at h
  obtain ⟨i, hi, e⟩ := Option.map_eq_some_iff.1 h
  obtain ⟨_, _, _, ti, h1, h2, h3, h4⟩ := K.ty t i hi
  refine ⟨?_, ti, h1, by rw [h3]; exact e⟩
  simp [Program.cellsOf, h1, h3, e]

theorem convA_sound (K : E.Ok) (R : Rel ρ h w) {src dst : TypeId} {x x' : Value} {r : Option Value} (hx : VR ρ x x') (e : convA E h (E.ty.get src) (some x) (E.ty.get dst) = some (r, h')) (hf : Fr ρ h h') :
    ∃ v, r = some v ∧ VOk E ρ h h' w (convert src dst x') v := by
  unfold convA at e
  split at e
  · rename_i i n z0 k s0 b0 hi hxx hd
    cases hxx
    cases hx
    cases e
    refine ⟨_, rfl, VOk.same R (v' := .int _ (wrapF _ _)) ?_ (.int _ _)⟩
    unfold convert
    simp only [Sem.run_bind, run_und K hi, run_und K hd, Result.andThen_ok, wrapF_eq]
    rfl
  · rename_i i z z0 s0 b0 hi hxx hd
    cases hxx
    cases hx
    cases e
    refine ⟨_, rfl, VOk.same R (v' := .string z) ?_ (.string _)⟩
    unfold convert
    simp only [Sem.run_bind, run_und K hi, run_und K hd, Result.andThen_ok]
    cases i.desc <;> rfl
  · rename_i i z el z0 s0 b0 hi hxx hd
    cases hxx
    cases hx
    split at e
    · rename_i ze be hel
      split at e
      · rename_i hlt
        have hlt' : z.size < SL := by simpa [Nat.blt_eq] using hlt
        unfold made at e
        cases e
        have hs := (K.ty src i hi).1
        have hd' := (K.ty dst _ hd).1
        have he' := (K.ty el _ hel).1
        have hrun := Lib.run_convert_string_bytes w src dst el z hs hd' he'
        have hf0 : ρ h.next = none := hf _ (Nat.le_refl _) (by rw [AHeap.next_alloc]; omega)
        have hge : z.size ≤ grownCap w z.size 0 el := grownCap_ge w _ _ _
        have hbs : (Lib.bytesCells w el z).size = grownCap w z.size 0 el := by
          unfold Lib.bytesCells
          simp only [Array.size_append, Array.size_map, Array.size_replicate]
          have : z.data.size = z.size := rfl
          omega
        have R' : Rel ρ h w.drew := ⟨R.obj, R.inj, R.lt⟩
        -- as if the row were laid plain; then it is marked behind its end
        have a := Adv.alloc R' hf0 (Lib.bytesCells w el z).size (.cells (bytesCells z) el) (.cells (Lib.bytesCells w el z) el ((Lib.bytesCells w el z).size, (Lib.bytesCells w el z).size + 1)) (.cells (fun i v hv => by
            refine ⟨v, ?_, ?_⟩
            · unfold Lib.bytesCells
              have hi := (List.getElem?_eq_some_iff.1 hv).1
              unfold bytesCells at hv hi
              rw [List.length_map, Array.length_toList] at hi
              rw [Array.getElem?_append, if_pos (by rw [Array.size_map]; exact hi), Array.getElem?_map]
              rw [List.getElem?_map, Array.getElem?_toList] at hv
              exact hv
            · exact (bytesCells_LR z).2 i v v hv hv) rfl (fun i hi => by simp; omega))
        refine ⟨_, rfl, upd ρ h.next (w.heap.size, (Lib.bytesCells w el z).size), _, _, hrun, .sliceUp hlt' (by omega) hge (show 0 + grownCap w z.size 0 el * 1 ≤ (Lib.bytesCells w el z).size from by rw [hbs]; omega) (upd_self _ _ _), ?_⟩
        have hheap : ∀ d : Nat, (Lib.bytesWorld w el z).heap[d]? = (w.drew.alloc (.cells (Lib.bytesCells w el z) el ((Lib.bytesCells w el z).size, (Lib.bytesCells w el z).size + 1))).heap[d]? := by
          intro d
          rcases Nat.lt_trichotomy d w.heap.size with hd | hd | hd
          · rw [Lib.bytesWorld_at_old w el z d hd, heap_alloc_old w.drew _ hd]
            rfl
          · subst hd
            rw [Lib.bytesWorld_at_new, show w.heap.size = w.drew.heap.size from rfl, heap_alloc_new w.drew]
          · rw [Array.getElem?_eq_none (by rw [Lib.bytesWorld_size]; omega), Array.getElem?_eq_none (by simp; omega)]
        have hsz : (Lib.bytesWorld w el z).heap.size = w.heap.size + 1 := Lib.bytesWorld_size w el z
        refine ⟨a.ext, a.new, a.next, a.low, ⟨fun b o eb c N er => ?_, a.rel.inj, fun b c N er => ?_⟩, ?_, ?_, ?_, by omega, a.fresh, fun c hc hn => ?_, a.keep⟩
        · rw [hheap]; exact a.rel.obj b o eb c N er
        · have := a.rel.lt b c N er
          rw [hsz]
          simpa using this
        · unfold Lib.bytesWorld World.freeze; split <;> rfl
        · unfold Lib.bytesWorld World.freeze; split <;> rfl
        · unfold Lib.bytesWorld World.freeze; split <;> rfl
        · rw [hheap]; exact a.frame c hc hn
      · cases e
    · cases e
  · rename_i t z0 s0 b0 b off z1 s1 b1 hi hxx hd
    cases hxx
    split at e
    · rename_i m c el hs hg
      split at e
      · rename_i hlt
        cases e
        have hlt : off < c.length := by simpa [Nat.blt_eq] using hlt
        obtain ⟨_, j, hj1, hj2⟩ := cellsOf_size K hs
        have q1 := (K.ty src _ hi).1
        have q2 := (K.ty dst _ hd).1
        cases hx with
        | ptr hρ =>
          obtain ⟨o', r1, r2⟩ := R.obj _ _ hg _ _ hρ
          cases r2 with
          | cells a1 a2 a3 =>
            rename_i cc N cs fz
            have hsh : w.shape? cc = some (el, cs.size) := by simp [World.shape?, r1]
            obtain ⟨v', hv', _⟩ := a1 off c[off] (List.getElem?_eq_getElem hlt)
            have hoff := (Array.getElem?_eq_some_iff.1 hv').1
            exact ⟨_, rfl, VOk.same R (Lib.run_to_unsafe w ⟨cc, off, none⟩ q1 q2 hj1 (by omega) hsh hoff) (.ptr hρ)⟩
      · cases e
    · cases e
  · rename_i z0 s0 b0 b u z1 s1 b1 hi hxx hd
    cases hxx
    split at e
    · rename_i m c el hs hg
      split at e
      · rename_i hlt
        cases e
        simp only [Bool.and_eq_true] at hlt
        have he := Nat.eq_of_beq_eq_true hlt.1
        have hle := Nat.le_of_ble_eq_true hlt.2
        subst he
        obtain ⟨hc, j, hj1, hj2⟩ := cellsOf_size K hs
        have q1 := (K.ty src _ hi).1
        have q2 := (K.ty dst _ hd).1
        cases hx with
        | ptr hρ =>
          obtain ⟨o', r1, r2⟩ := R.obj _ _ hg _ _ hρ
          cases r2 with
          | cells a1 a2 a3 =>
            rename_i cc N cs fz
            have hsh : w.shape? cc = some (el, cs.size) := by simp [World.shape?, r1]
            obtain ⟨v', hv', _⟩ := a1 m c[m] (List.getElem?_eq_getElem (by omega))
            have hoff := (Array.getElem?_eq_some_iff.1 hv').1
            exact ⟨_, rfl, VOk.same R (Lib.run_from_unsafe w ⟨cc, 0, none⟩ q1 q2 hj1 hsh (lies_head hc (by omega))) (.ptr hρ)⟩
      · cases e
    · cases e
  · cases e

theorem makeSliceA_sound (K : E.Ok) (R : Rel ρ h w) {t : TypeId} {l c l' c' : Value} {r : Option Value} (hl : VR ρ l l') (hc : VR ρ c c') (e : makeSliceA E h (elemD (E.ty.get t)) (natV l) (natV c) = some (r, h')) (hf : Fr ρ h h') :
    ∃ v, r = some v ∧ VOk E ρ h h' w (Instr.makeSlice t l' c') v := by
  unfold makeSliceA at e
  split at e
  · rename_i elem n m hel hn hm
    obtain ⟨kl, rfl⟩ := asIntOf_nat hl hn
    obtain ⟨kc, rfl⟩ := asIntOf_nat hc hm
    obtain ⟨i, ht, hd⟩ := elemD_some hel
    split at e
    · rename_i j hj
      split at e
      · rename_i hb
        simp only [Bool.and_eq_true] at hb
        have b1 := Nat.le_of_ble_eq_true hb.1.1
        have b2 := Nat.le_of_ble_eq_true hb.1.2
        have b3 := Nat.le_of_ble_eq_true hb.2
        unfold made at e
        cases e
        obtain ⟨_, hflat, hzs, ti, h1, h2, h3, h4⟩ := K.ty elem j hj
        have hL : LR ρ (rep j.zero.cells.toList m) (rep j.zero.cells.toList m) := (flat_LR hflat).rep m
        refine ⟨_, rfl, _, .slice (some ⟨w.heap.size, 0, none⟩) n m, _, ?_, .slice (by unfold SL; omega) (upd_self _ _ _), alloc_cells R hf hL⟩
        have w1 : IntKind.i64.wrap (n : Int) = n := IntWalk.i64_in _ (by omega)
        have w2 : IntKind.i64.wrap (m : Int) = m := IntWalk.i64_in _ (by omega)
        have hty : (typeInfo elem).run E.P w = .ok ti w := by simp [typeInfo, h1]
        have hbm : ¬ (281474976710656 < (j.bytes : Int) * (m : Int)) := by
          have : (j.bytes : Int) * (m : Int) = ((m * j.bytes : Nat) : Int) := by rw [Nat.mul_comm]; simp
          omega
        have hroom : ¬ (m * j.bytes > 140737488355328) := by omega
        unfold Instr.makeSlice
        simp only [Sem.run_bind, run_und K ht, hd, Result.andThen_ok, asInt, asIntOf, Sem.run_pure, hty, w1, w2, h4]
        have c1 : ((decide ((m : Int) < 0) || decide ((j.bytes : Int) * (m : Int) > 2 ^ 48)) || decide ((n : Int) < 0) || decide ((n : Int) > (m : Int))) = false := by
          simp only [Bool.or_eq_false_iff, decide_eq_false_iff_not]
          refine ⟨⟨⟨by omega, ?_⟩, by omega⟩, by omega⟩
          have : (2 : Int) ^ 48 = 281474976710656 := by decide
          rw [this]
          exact hbm
        have hask : (askRoom (m * j.bytes)).run E.P w = .ok () w := by
          unfold askRoom roomBytes
          rw [if_neg (show ¬ (m * j.bytes > 2 ^ 47) by
            have : (2 : Nat) ^ 47 = 140737488355328 := by decide
            omega)]
          rfl
        simp only [c1, Bool.false_eq_true, if_false, Int.toNat_natCast, Sem.run_bind, Sem.run_pure, Result.andThen_ok, hask, run_size K hj]
        by_cases h0 : m * j.size = 0
        · have : rep j.zero.cells.toList m = [] := List.eq_nil_of_length_eq_zero (by rw [rep_length, Array.length_toList, hzs, h0])
          have hr : ∀ f : Nat → Value, (Array.range (m * j.size)).map f = ⟨[]⟩ := fun f => by rw [h0]; simp
          rw [if_pos h0]
          simp only [Sem.run_bind, Sem.run_pure, Result.andThen_ok, hr, newRow, run_newObj, this]
          rfl
        · rw [if_neg h0]
          have hr : (Array.range (m * j.size)).map (fun i => j.zero.cells[i % j.zero.cells.size]!) = ⟨rep j.zero.cells.toList m⟩ := by rw [← hzs, rep_range]
          simp only [Sem.run_bind, run_zero K hj, Sem.run_pure, Result.andThen_ok, hr, newRow, run_newObj]
          rfl
      · cases e
    · cases e
  · cases e

/-! ### len -/
theorem lenBA_sound (K : E.Ok) (R : Rel ρ h w) {t ty : TypeId} {x x' v : Value} (hx : VR ρ x x') (e : lenBA h (E.ty.get t) x = some (v, h')) :
    h' = h ∧ (Builtin.len_ #[t] ty #[x']).run E.P w = .ok v w ∧ VR ρ v v := by
  unfold lenBA at e
  unfold Builtin.len_
  split at e
  · rename_i el z s b a n c ht
    cases e
    refine ⟨rfl, ?_, .int _ _⟩
    cases hx <;> simp [run_und K ht, goInt]
  · rename_i z s b q ht
    cases e
    cases hx
    exact ⟨rfl, by simp [run_und K ht, goInt], .int _ _⟩
  · rename_i k el z s b ht
    cases e
    cases hx
    exact ⟨rfl, by simp [run_und K ht, goInt], .int _ _⟩
  · rename_i k el z s b q ht
    cases hx with
    | map hρ =>
      rename_i c N
      split at e
      · rename_i es cl hg
        cases e
        obtain ⟨o', ho, hr⟩ := R.obj _ _ hg c N hρ
        cases hr with
        | map hl hes =>
          refine ⟨rfl, ?_, .int _ _⟩
          simp [run_und K ht, goInt, getObj, Sem.run, ho, hl]
      · cases e
  · cases e

theorem made_map (R : Rel ρ h w) (hf : Fr ρ h (h.alloc (.map [] 0))) {t : TypeId} : VOk E ρ h (h.alloc (.map [] 0)) w (Instr.makeMap t none) (.map (some h.next)) := by
  have hf0 : ρ h.next = none := hf _ (Nat.le_refl _) (by rw [AHeap.next_alloc]; omega)
  refine ⟨_, .map (some w.heap.size), _, ?_, .map (upd_self _ _ _), Adv.alloc R hf0 0 (.map [] 0) (.map #[] 0) (.map rfl (fun i e e' h => by simp at h))⟩
  unfold Instr.makeMap
  simp only [Sem.run_bind, run_newObj, Result.andThen_ok, Sem.run_pure]
  rfl

theorem allocA_sound (R : Rel ρ h w) {el : TypeId} {z z' : Value} {r : Option Value} (hz : VR ρ z z') (e : allocA h el (some z) = some (r, h')) (hf : Fr ρ h h') :
    ∃ v, r = some v ∧ VOk E ρ h h' w (do pure (.pointer (some (← newVar el z')))) v := by
  unfold allocA made at e
  cases e
  refine ⟨_, rfl, _, .pointer (some ⟨w.heap.size, 0, none⟩), _, ?_, .ptr (upd_self _ _ _), alloc_cells R hf hz.cells⟩
  simp only [newVar, newRow, Sem.run_bind, run_newObj, Result.andThen_ok, Sem.run_pure]
  rfl

theorem rangeA_sound (R : Rel ρ h w) {t : TypeId} (K : E.Ok) {x x' : Value} {r : Option Value} (hx : VR ρ x x') (e : rangeA h (E.ty.get t) (some x) = some (r, h')) (hf : Fr ρ h h') :
    ∃ v, r = some v ∧ VOk E ρ h h' w (Instr.range t x') v := by
  unfold rangeA at e
  split at e
  · rename_i z0 s0 b0 z ht hxx
    cases hxx
    cases hx
    unfold made at e
    cases e
    have hf0 : ρ h.next = none := hf _ (Nat.le_refl _) (by rw [AHeap.next_alloc]; omega)
    refine ⟨_, rfl, _, .pointer (some ⟨w.heap.size, 0, none⟩), _, ?_, .ptr (upd_self _ _ _), Adv.alloc R hf0 0 (.strIter z 0) (.stringIter z 0) .strIter⟩
    unfold Instr.range
    simp only [Sem.run_bind, run_und K ht, Result.andThen_ok, Sem.run_pure, run_newObj]
    rfl
  · rename_i ht hxx
    cases hxx
    cases hx
    unfold made at e
    cases e
    have hf0 : ρ h.next = none := hf _ (Nat.le_refl _) (by rw [AHeap.next_alloc]; omega)
    refine ⟨_, rfl, _, .pointer (some ⟨w.heap.size, 0, none⟩), _, ?_, .ptr (upd_self _ _ _), Adv.alloc R hf0 0 (.mapIter none 0 [] 0) (.mapIter none 0 #[] 0) .mapIter0⟩
    unfold Instr.range
    simp only [Sem.run_bind, run_und K ht, Result.andThen_ok, Sem.run_pure, run_newObj]
    rfl
  · rename_i m ht hxx
    cases hxx
    cases hx with
    | map hρ =>
      rename_i c N
      split at e
      · rename_i es clock hg
        unfold made at e
        cases e
        have hf0 : ρ h.next = none := hf _ (Nat.le_refl _) (by rw [AHeap.next_alloc]; omega)
        obtain ⟨o', ho, hor⟩ := R.obj _ _ hg c N hρ
        cases hor with
        | map hl he =>
          rename_i fs
          have hget : (getObj c).run E.P w = .ok (.map fs clock) w := by simp [getObj, Sem.run, ho]
          refine ⟨_, rfl, _, .pointer (some ⟨w.heap.size, 0, none⟩), _, ?_, .ptr (upd_self _ _ _), Adv.alloc R hf0 0 (.mapIter (some m) clock [] clock) (.mapIter (some c) clock #[] clock) (.mapIter (Ext.upd hf0 _ _ hρ))⟩
          unfold Instr.range
          simp only [Sem.run_bind, run_und K ht, Result.andThen_ok, hget, Sem.run_pure, run_newObj]
          rfl
      · cases e
  · cases e

/-- An object that is no row of cells is written over. -/
theorem setObj_sound (R : Rel ρ h w) {b c N : Nat} {x o : AObj} {y o' : Obj} (hg : h.get b = some x) (hρ : ρ b = some (c, N)) (hy : w.heap[c]? = some y) (hnc : ∀ a e f, y ≠ .cells a e f) (hr : OR ρ N o o') :
    (setObj c o').run E.P w = .ok () { w with heap := w.heap.setIfInBounds c o' } ∧ Adv ρ ρ h (h.set b o) w { w with heap := w.heap.setIfInBounds c o' } := by
  have hlt := (Array.getElem?_eq_some_iff.1 hy).1
  have hx : isW (some x) = true := by
    obtain ⟨o2, h1, h2⟩ := R.obj b x hg c N hρ
    rw [hy] at h1
    cases h1
    cases h2 <;> first | rfl | exact absurd rfl (hnc _ _ _)
  refine ⟨?_, Adv.set R hg hx hρ o o' hr rfl rfl rfl (by simp) (by simp [hlt]) (fun d hd => by simp [Array.getElem?_setIfInBounds_ne (Ne.symm hd)])⟩
  unfold setObj
  simp only [Sem.run, hy]

theorem nextA_sound (R : Rel ρ h w) {t : TypeId} {x x' : Value} {r : Option Value} (hx : VR ρ x x') (e : nextA h (some x) = some (r, h')) : ∃ v, r = some v ∧ VOk E ρ h h' w (Instr.next x' true t) v := by
  unfold nextA at e
  split at e
  · rename_i b hxx
    cases hxx
    cases hx with
    | ptr hρ =>
      rename_i c N
      split at e
      · rename_i z pos hg
        obtain ⟨o', ho, hr⟩ := R.obj _ _ hg c N hρ
        cases hr
        have hget : (getObj c).run E.P w = .ok (.stringIter z pos) w := by simp [getObj, Sem.run, ho]
        split at e
        · rename_i hlt
          have hlt' : pos < z.size := by simpa [Nat.blt_eq] using hlt
          cases e
          obtain ⟨hs, hA⟩ := setObj_sound (E := E) R hg hρ ho (by intro a e f; simp) (OR.strIter (ρ := ρ) (N := N) (s := z) (pos := pos + (Utf8.decode z pos).2))
          refine ⟨_, rfl, ρ, .tuple #[.bool true, .int .i64 pos, .int .i32 (Utf8.decode z pos).1], _, ?_, flat_VR ρ rfl, hA⟩
          unfold Instr.next
          simp only [Sem.run_bind, hget, Result.andThen_ok]
          rw [if_pos hlt']
          simp only [Sem.run_bind, hs, Result.andThen_ok, Sem.run_pure, goInt]
        · rename_i hlt
          have hlt' : ¬ pos < z.size := by simpa [← Nat.blt_eq] using hlt
          cases e
          refine ⟨_, rfl, VOk.same R (v' := .tuple #[.bool false]) ?_ (flat_VR ρ rfl)⟩
          unfold Instr.next
          simp only [Sem.run_bind, hget, Result.andThen_ok]
          rw [if_neg hlt']
          rfl
      · cases e
  · cases e
end Go.Proofs.YtlkhpgocbojdgaaGreatDoor.Ai

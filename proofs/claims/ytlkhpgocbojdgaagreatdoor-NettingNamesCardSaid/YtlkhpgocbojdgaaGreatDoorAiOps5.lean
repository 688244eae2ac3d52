/-
  EACH OPERATION OF THE EVALUATOR IS ONE OF THE MACHINE's, part 5: conversions, made slices, append, copy, clear, len.
-/
import Derived.Test.YtlkhpgocbojdgaaGreatDoorAiOps4
import Derived.Laws.Append
import Derived.Lib.ConvBytes
namespace Go.Proofs.YtlkhpgocbojdgaaGreatDoor.Ai
open Go
set_option linter.unusedSimpArgs false
set_option linter.unusedVariables false
variable {E : Env} {ρ : Ren} {h h' : AHeap} {w : World}

/-! ### append -/
theorem lenA_run {x x' : Value} {n : Nat} (hx : VR ρ x x') (e : lenA x = some n) : (Builtin.lenOf x').run E.P w = .ok n w := by
  cases hx <;> simp [lenA] at e <;> subst e <;> rfl

theorem bytesCells_eq (s : ByteArray) : (s.extract 0 s.size).data.map (fun b => Value.int .u8 b.toNat) = ⟨bytesCells s⟩ := by
  apply Array.ext'
  rw [Array.toList_map, Lib.extract_data]
  simp [bytesCells]
  rw [List.take_of_length_le (by simp)]

/-- The cells of what is appended, or copied. -/
theorem srcCells_run (R : Rel ρ h w) {x x' : Value} {size n m : Nat} {news : List Value} (hx : VR ρ x x') (hn : lenA x = some n) (hm : m ≤ n) (hs : x' = x' → (∀ s, x = .string s → m = n)) (e : srcCells h size m x = some news) :
    ∃ news', (∀ w', w'.heap = w.heap → (Builtin.firstCells size m x').run E.P w' = .ok ⟨news'⟩ w') ∧ LR ρ news news' ∧ ((∀ s, x ≠ .string s) → (∀ N, x ≠ .slice none n N) → news.length = m * size) := by
  cases hx with
  | string s =>
    have hmn := hs rfl s rfl
    subst hmn
    simp [lenA] at hn
    subst hn
    cases e
    refine ⟨bytesCells s, fun w' hw => ?_, ?_, fun h1 => absurd rfl (h1 s)⟩
    · unfold Builtin.firstCells
      dsimp only
      rw [bytesCells_eq]
      rfl
    · have : (bytesCells s).take s.size = bytesCells s := List.take_of_length_le (by unfold bytesCells; rw [List.length_map, Array.length_toList]; exact Nat.le_refl _)
      rw [this]
      exact bytesCells_LR s
  | sliceNil k c =>
    simp [lenA] at hn
    subst hn
    cases e
    exact ⟨[], fun w' hw => rfl, LR.nil ρ, fun _ h2 => absurd rfl (h2 c)⟩
  | slice h1 hρ =>
    rename_i b c N off k cap
    unfold srcCells at e
    dsimp only at e
    split at e
    · cases e
      exact ⟨[], fun w' hw => by simp [Builtin.firstCells, loadCells, loadCellsFrom], LR.nil ρ, fun _ _ => by simp⟩
    · rename_i m
      obtain ⟨l', h1, h2, h3⟩ := readCells_sound R hρ e
      refine ⟨l', fun w' hw => ?_, h2, fun _ _ => by rw [h2.1, h1]⟩
      unfold Builtin.firstCells
      dsimp only
      rw [← h1]
      exact run_loadCells_list w' ⟨c, off, none⟩ l' (fun j v hj => by rw [addr_add, World.cell?, hw]; exact h3 j v hj)
  | sliceUp h1 hz h4 h5 hρ =>
    rename_i b c N off k z kn cap'
    unfold srcCells at e
    dsimp only at e
    split at e
    · cases e
      exact ⟨[], fun w' hw => by simp [Builtin.firstCells, loadCells, loadCellsFrom], LR.nil ρ, fun _ _ => by simp⟩
    · rename_i m
      obtain ⟨l', h1, h2, h3⟩ := readCells_sound R hρ e
      refine ⟨l', fun w' hw => ?_, h2, fun _ _ => by rw [h2.1, h1]⟩
      unfold Builtin.firstCells
      dsimp only
      rw [← h1]
      exact run_loadCells_list w' ⟨c, off, none⟩ l' (fun j v hj => by rw [addr_add, World.cell?, hw]; exact h3 j v hj)
  | sliceG g0 g1 g2 g3 g4 hρ =>
    rename_i b c N k z cap'
    unfold srcCells at e
    dsimp only at e
    split at e
    · cases e
      exact ⟨[], fun w' hw => by simp [Builtin.firstCells, loadCells, loadCellsFrom], LR.nil ρ, fun _ _ => by simp⟩
    · rename_i m
      obtain ⟨l', h1, h2, h3⟩ := readCells_sound R hρ e
      refine ⟨l', fun w' hw => ?_, h2, fun _ _ => by rw [h2.1, h1]⟩
      unfold Builtin.firstCells
      dsimp only
      rw [← h1]
      exact run_loadCells_list w' ⟨c, 0, none⟩ l' (fun j v hj => by rw [addr_add, World.cell?, hw]; exact h3 j v hj)
  | sliceG0 =>
    simp [lenA] at hn
    subst hn
    have : m = 0 := by omega
    subst this
    cases e
    rename_i q z
    exact ⟨[], fun w' hw => by cases q <;> simp [Builtin.firstCells, loadCells, loadCellsFrom], LR.nil ρ, fun _ _ => by simp⟩
  | sliceUn =>
    simp [lenA] at hn
    subst hn
    have : m = 0 := by omega
    subst this
    cases e
    exact ⟨[], fun w' hw => by simp [Builtin.firstCells, loadCells, loadCellsFrom], LR.nil ρ, fun _ _ => by simp⟩
  | _ => simp [lenA] at hn

/-- append where there is room. -/
theorem append_room (K : E.Ok) {t u ty elem : TypeId} {i j k : TyI} (ht : E.ty.get t = some i) (hd : i.desc = .slice elem) (hj : E.ty.get elem = some j) (hu : E.ty.get u = some k) (hk : ∀ q, k.desc ≠ .int q)
    {base : Option Addr} {len cap n : Nat} {x' : Value} {news' : List Value} {w' : World} (hl : (Builtin.lenOf x').run E.P w = .ok n w) (hn : (Builtin.firstCells j.size n x').run E.P w = .ok ⟨news'⟩ w)
    (hroom : len + n ≤ cap) (hst : ∀ a, base = some a → (storeCells (a.add (len * j.size)) news').run E.P w = .ok () w') (hst0 : base = none → w' = w) :
    (Builtin.append_ #[t, u] ty #[.slice base len cap, x']).run E.P w = .ok (.slice base (len + n) cap) w' := by
  unfold Builtin.append_
  have hz : (match k.desc with | .int _ => true | _ => false) = false := by cases hkd : k.desc <;> first | rfl | exact absurd hkd (hk _)
  simp only [List.getElem?_toArray, List.getElem?_cons_zero, List.getElem?_cons_succ, Sem.run_bind, run_und K ht, hd, Result.andThen_ok, run_size K hj, run_und K hu, Sem.run_pure, hz, Bool.false_eq_true, if_false, hl, Bool.not_false, if_true]
  rw [if_pos hroom]
  simp only [Sem.run_bind, hn, Result.andThen_ok]
  cases base with
  | none => rw [hst0 rfl]; rfl
  | some a => simp only [Sem.run_bind, hst a rfl, Result.andThen_ok, Sem.run_pure]

/-- append where there is none. -/
theorem append_grow (K : E.Ok) {t u ty elem : TypeId} {i j k : TyI} (ht : E.ty.get t = some i) (hd : i.desc = .slice elem) (hj : E.ty.get elem = some j) (hu : E.ty.get u = some k) (hk : ∀ q, k.desc ≠ .int q)
    {base : Option Addr} {len cap n : Nat} {x' : Value} {olds' news' : List Value} (hl : (Builtin.lenOf x').run E.P w = .ok n w) (hn : ∀ w', w'.heap = w.heap → (Builtin.firstCells j.size n x').run E.P w' = .ok ⟨news'⟩ w')
    (ho : ∀ w', w'.heap = w.heap → (Builtin.firstCells j.size len (.slice base len cap)).run E.P w' = .ok ⟨olds'⟩ w')
    (hroom : cap < len + n) (hb : (len + n) * j.bytes ≤ 1099511627776) (hs : len + n < 4611686018427387904) (hol : olds'.length = len * j.size) (hnl : news'.length = n * j.size) :
    ∃ c cells, (Builtin.append_ #[t, u] ty #[.slice base len cap, x']).run E.P w = .ok (.slice (some ⟨w.heap.size, 0, none⟩) (len + n) c) (w.drew.alloc (.cells cells elem)) ∧ len + n ≤ c ∧ cells.size = c * j.size ∧ cells.toList.take ((len + n) * j.size) = olds' ++ news' := by
  obtain ⟨_, _, hzs, ti, h1, h2, h3, h4⟩ := K.ty elem j hj
  have hz : (match k.desc with | .int _ => true | _ => false) = false := by cases hkd : k.desc <;> first | rfl | exact absurd hkd (hk _)
  have hfit : Builtin.nextslicecap (len + n) cap * j.bytes ≤ 281474976710656 := growslice_fits (by omega) (by omega)
  have hmax : IntKind.i64.max = 9223372036854775807 := by decide
  have hn' : ¬ (len + n ≤ cap) := by omega
  have h63' : ¬ (9223372036854775807 < ((len : Int) + (n : Int))) := by omega
  have h48' : ¬ (281474976710656 < Builtin.nextslicecap (len + n) cap * j.bytes) := by omega
  have hge : len + n ≤ grownCap w (len + n) cap elem := grownCap_ge w _ _ _
  have hnd := hn w.drew rfl
  have hod := ho w.drew rfl
  have hl' : (Builtin.lenOf x').run E.P w = .ok n w := hl
  have hty : (typeInfo elem).run E.P w = .ok ti w := by simp [typeInfo, h1]
  have hty' : (typeInfo elem).run E.P w.drew = .ok ti w.drew := by simp [typeInfo, h1]
  refine ⟨grownCap w (len + n) cap elem, ⟨olds'⟩ ++ ⟨news'⟩ ++ Builtin.zeroCells j.zero.cells (grownCap w (len + n) cap elem - (len + n)), ?_, hge, ?_, ?_⟩
  · have hu' := (K.ty u k hu).1
    simp [Builtin.append_, run_und K ht, hd, run_size K hj, hl', hn', h63', h48', Question.forced, hty, hty', h4, hnd, hod, newRow, grownCap, zeroValue, h2, run_underlying hu']
    congr 2
    apply Array.ext'
    simp
  · simp only [Array.size_append, List.size_toArray, hol, hnl, size_zeroCells, hzs, ← Nat.add_mul]
    congr 1
    omega
  · have e1 : (len + n) * j.size = (olds' ++ news').length := by rw [List.length_append, hol, hnl, Nat.add_mul]
    rw [e1]
    simp only [Array.toList_append]
    exact List.take_left

theorem live_get {b : Nat} {o : AObj} (e : h.get b = some o) : live h b := .inr (by rw [e]; rfl)

/-- A new row whose first cells are known. -/
theorem new_row (R : Rel ρ h w) (hf : ρ h.next = none) {c : List Value} {cells : Array Value} {e : TypeId} (hL : ∀ (i : Nat) v, c[i]? = some v → ∃ v', cells[i]? = some v' ∧ VR ρ v v') :
    Adv ρ (upd ρ h.next (w.heap.size, cells.size)) h (h.alloc (.cells c e)) w (w.drew.alloc (.cells cells e)) := by
  have R' : Rel ρ h w.drew := ⟨R.obj, R.inj, R.lt⟩
  have a := Adv.alloc R' hf cells.size (.cells c e) (.cells cells e) (.cells (fun i v hv => by
    obtain ⟨v', e', r⟩ := hL i v hv
    exact ⟨v', e', r.mono (Ext.upd hf)⟩) rfl (fun i _ => by simp))
  exact ⟨a.ext, a.new, a.next, a.low, a.rel, a.os, a.tape, a.output, a.size, a.fresh, a.frame, a.keep⟩

theorem growA_some {elem size bytes n : Nat} {cells : List Value} {v : Value} (e : growA h elem size bytes n cells = some (v, h')) :
    n * bytes ≤ 1099511627776 ∧ n < 4611686018427387904 ∧ size < 1099511627776 ∧ v = .slice (some ⟨h.next, 0, none⟩) n (upCap size n) ∧ h' = h.alloc (.cells cells elem) := by
  unfold growA at e
  split at e
  · rename_i hb
    simp only [Bool.and_eq_true] at hb
    cases e
    refine ⟨Nat.le_of_ble_eq_true hb.1.1, ?_, ?_, rfl, rfl⟩
    · simpa [Nat.blt_eq] using hb.1.2
    · simpa [Nat.blt_eq] using hb.2
  · cases e

theorem take_get {l r : List Value} {n : Nat} (e : l.take n = r) {i : Nat} {v : Value} (h : r[i]? = some v) : l[i]? = some v := by
  subst e
  rw [List.getElem?_take] at h
  split at h
  · exact h
  · cases h

/-- The case of a new row. -/
theorem grow_case (K : E.Ok) (R : Rel ρ h w) {t u ty elem : TypeId} {i j k : TyI} (ht : E.ty.get t = some i) (hd : i.desc = .slice elem) (hj : E.ty.get elem = some j) (hu : E.ty.get u = some k) (hk : ∀ q, k.desc ≠ .int q)
    {base : Option Addr} {len cap n : Nat} {x' : Value} {olds olds' news news' : List Value} {v : Value} (hl : (Builtin.lenOf x').run E.P w = .ok n w) (hn : ∀ w', w'.heap = w.heap → (Builtin.firstCells j.size n x').run E.P w' = .ok ⟨news'⟩ w')
    (ho : ∀ w', w'.heap = w.heap → (Builtin.firstCells j.size len (.slice base len cap)).run E.P w' = .ok ⟨olds'⟩ w') (hLo : LR ρ olds olds') (hLn : LR ρ news news')
    (hroom : cap < len + n) (hol : olds'.length = len * j.size) (hnl : news'.length = n * j.size) (e : growA h elem j.size j.bytes (len + n) (olds ++ news) = some (v, h')) (hf : Fr ρ h h') :
    VOk E ρ h h' w (Builtin.append_ #[t, u] ty #[.slice base len cap, x']) v := by
  obtain ⟨g1, g2, g3, rfl, rfl⟩ := growA_some e
  obtain ⟨c, cells, hrun, hc, hcs, htk⟩ := append_grow K (ty := ty) ht hd hj hu hk hl hn ho hroom g1 g2 hol hnl
  have hf0 : ρ h.next = none := hf _ (Nat.le_refl _) (by rw [AHeap.next_alloc]; omega)
  refine ⟨_, _, _, hrun, .sliceUp (by unfold SL at *; omega) g3 hc ?_ (upd_self _ _ _), new_row R hf0 (fun i v hv => ?_)⟩
  · rw [hcs]; omega
  · obtain ⟨v', e', r⟩ := (hLo.append hLn).get hv
    exact ⟨v', by have := take_get htk e'; rwa [Array.getElem?_toList] at this, r⟩

theorem isInt_false {u : TypeId} (e : isInt (E.ty.get u) = some false) : ∃ k, E.ty.get u = some k ∧ ∀ q, k.desc ≠ .int q := by
  unfold isInt at e
  split at e
  · cases e
  · rename_i k hne hk
    refine ⟨k, hk, fun q hq => ?_⟩
    obtain ⟨d, z, s, b⟩ := k
    dsimp only at hq
    subst hq
    exact hne _ _ _ _ rfl
  · cases e

theorem At.firstCells {c off size n cap : Nat} {l : List Value} (hA : At w c off l) (hl : l.length = n * size) (w' : World) (hw : w'.heap = w.heap) :
    (Builtin.firstCells size n (.slice (some ⟨c, off, none⟩) n cap)).run E.P w' = .ok ⟨l⟩ w' := by
  unfold Builtin.firstCells
  dsimp only
  rw [← hl]
  exact run_loadCells_list w' ⟨c, off, none⟩ l (fun j v hj => by rw [addr_add, World.cell?, hw]; exact hA j v hj)

/-- Storing where the row has cells of which nothing is known. -/
theorem store_up {c N : Nat} {cs : Array Value} {e : TypeId} {fz : Nat × Nat} (ho : w.heap[c]? = some (.cells cs e fz)) (hN : cs.size = N) (hfz : ∀ i, i < N → (decide (fz.1 ≤ i) && decide (i < fz.2)) = false)
    {off : Nat} {news' : List Value} (hfit : off + news'.length ≤ N) (h1 : ∀ v ∈ news', v.oneCell' = true) :
    (storeCells ⟨c, off, none⟩ news').run E.P w = .ok () (w.setCells c off news') := by
  have := run_storeCells_cells (P := E.P) c off news' 0 w (fun j hj => by
    simp [World.cell?, ho, show off + j < cs.size by omega]) (fun j hj => by
    simp only [World.frozen?, ho, Nat.add_zero]
    exact hfz (off + j) (by omega)) h1
  rwa [Nat.add_zero] at this

theorem growG_some {elem size bytes n : Nat} {cells : List Value} {v : Value} (e : growG h elem size bytes n cells = some (v, h')) :
    n * bytes ≤ 1099511627776 ∧ n < 4611686018427387904 ∧ size < 1099511627776 ∧ v = .slice (some ⟨h.next, 0, none⟩) n (GC size) ∧ h' = h.alloc (.cells cells elem) := by
  unfold growG at e
  split at e
  · rename_i hb
    simp only [Bool.and_eq_true] at hb
    cases e
    refine ⟨Nat.le_of_ble_eq_true hb.1.1, ?_, ?_, rfl, rfl⟩
    · simpa [Nat.blt_eq] using hb.1.2
    · simpa [Nat.blt_eq] using hb.2
  · cases e

/-- The case of a new row, for a slice that grows. -/
theorem growG_case (K : E.Ok) (R : Rel ρ h w) {t u ty elem : TypeId} {i j k : TyI} (ht : E.ty.get t = some i) (hd : i.desc = .slice elem) (hj : E.ty.get elem = some j) (hu : E.ty.get u = some k) (hk : ∀ q, k.desc ≠ .int q)
    {base : Option Addr} {len cap n : Nat} {x' : Value} {olds olds' news news' : List Value} {v : Value} (hl : (Builtin.lenOf x').run E.P w = .ok n w) (hn : ∀ w', w'.heap = w.heap → (Builtin.firstCells j.size n x').run E.P w' = .ok ⟨news'⟩ w')
    (ho : ∀ w', w'.heap = w.heap → (Builtin.firstCells j.size len (.slice base len cap)).run E.P w' = .ok ⟨olds'⟩ w') (hLo : LR ρ olds olds') (hLn : LR ρ news news')
    (hroom : cap < len + n) (hol : olds'.length = len * j.size) (hnl : news'.length = n * j.size) (e : growG h elem j.size j.bytes (len + n) (olds ++ news) = some (v, h')) (hf : Fr ρ h h') :
    VOk E ρ h h' w (Builtin.append_ #[t, u] ty #[.slice base len cap, x']) v := by
  obtain ⟨g1, g2, g3, rfl, rfl⟩ := growG_some e
  obtain ⟨c, cells, hrun, hc, hcs, htk⟩ := append_grow K (ty := ty) ht hd hj hu hk hl hn ho hroom g1 g2 hol hnl
  have hf0 : ρ h.next = none := hf _ (Nat.le_refl _) (by rw [AHeap.next_alloc]; omega)
  refine ⟨_, _, _, hrun, .sliceG (by omega) (by unfold SL at *; omega) g3 hc ?_ (upd_self _ _ _), new_row R hf0 (fun i v hv => ?_)⟩
  · rw [hcs]; exact Nat.le_refl _
  · obtain ⟨v', e', r⟩ := (hLo.append hLn).get hv
    exact ⟨v', by have := take_get htk e'; rwa [Array.getElem?_toList] at this, r⟩

/-- append to a slice that grows. -/
theorem appendG_sound (K : E.Ok) (R : Rel ρ h w) {t u ty elem : TypeId} {s' x x' : Value} {a : Addr} {len cap n : Nat} {news news' : List Value} {i j k : TyI} {v : Value} (ht : E.ty.get t = some i) (hd : i.desc = .slice elem) (hj : E.ty.get elem = some j) (hu : E.ty.get u = some k) (hk : ∀ q, k.desc ≠ .int q)
    (hs : VR ρ (.slice (some a) len cap) s') (hx : VR ρ x x') (hl : (Builtin.lenOf x').run E.P w = .ok n w) (hnews : ∀ w', w'.heap = w.heap → (Builtin.firstCells j.size n x').run E.P w' = .ok ⟨news'⟩ w') (hL : LR ρ news news') (hnl : news'.length = n * j.size)
    (hcap : cap = GC j.size) (e : appendG h elem j.size j.bytes a len n news = some (v, h')) (hf : Fr ρ h h') :
    VOk E ρ h h' w (Builtin.append_ #[t, u] ty #[s', x']) v := by
  have hn0 := hnews w rfl
  unfold appendG at e
  split at e
  · rename_i cs el hg ha0
    split at e
    · rename_i hq
      simp only [Bool.and_eq_true] at hq
      have q1 := Nat.eq_of_beq_eq_true hq.1.1
      have q2 := Nat.eq_of_beq_eq_true hq.1.2
      have h1 := hq.2
      subst q1
      cases hs with
      | slice h3 => exact absurd hcap (by unfold GC SL UN at *; omega)
      | sliceUp h3 h4 => exact absurd hcap (by unfold GC upCap SL UN at *; omega)
      | sliceUn => exact absurd hcap (by unfold GC UN; omega)
      | sliceG0 =>
        rename_i q z
        obtain ⟨g1, g2, g3, hv, hh'⟩ := growG_some e
        have hcs : cs = [] := List.length_eq_zero_iff.1 (by simpa using q2)
        subst hcs
        rcases Nat.eq_zero_or_pos n with hz | hpos
        · subst hz
          subst hv
          subst hh'
          have hnews0 : news = [] := List.length_eq_zero_iff.1 (by rw [hL.1, hnl]; simp)
          subst hnews0
          have A := Adv.kill R a.block
          have hf0 : ρ h.next = none := hf _ (Nat.le_refl _) (by rw [AHeap.next_alloc, AHeap.next_kill]; omega)
          have hn00 : news' = [] := List.length_eq_zero_iff.1 (by simpa using hnl)
          refine ⟨ρ, _, w, append_room K (base := q) (cap := 0) ht hd hj hu hk hl hn0 (by omega) (fun a ha => by rw [hn00]; rfl) (fun _ => rfl), .sliceG0, A.trans ?_⟩
          exact Adv.dummy A.rel hf0 _
        · have A := Adv.kill R a.block
          have := growG_case (ty := ty) (E := E) (h := h.kill a.block) K A.rel ht hd hj hu hk (base := q) (len := 0) (cap := 0) (olds := []) (olds' := []) hl hnews (fun w' hw => by cases q <;> simp [Builtin.firstCells, loadCells, loadCellsFrom]) (LR.nil ρ) hL (by omega) (by simp) hnl e (by
            intro y hy1 hy2
            exact hf y hy1 hy2)
          obtain ⟨ρ', v', w', r1, r2, r3⟩ := this
          exact ⟨ρ', v', w', r1, r2, A.trans r3⟩
      | sliceG b0 b1 b2 h5 h6 hρ =>
        rename_i b c N z cap'
        obtain rfl : z = j.size := by unfold GC at hcap; omega
        obtain ⟨o', ho, hr⟩ := R.obj b _ hg c N hρ
        cases hr with
        | cells hcc hN hfz =>
          rename_i cs' fz
          obtain ⟨g1, g2, g3, rfl, rfl⟩ := growG_some e
          have hf0 : ρ h.next = none := hf _ (Nat.le_refl _) (by rw [AHeap.next_alloc, AHeap.next_kill]; omega)
          have hkc : len * j.size ≤ cap' * j.size := Nat.mul_le_mul_right _ h5
          by_cases hcap : len + n ≤ cap'
          · -- in place
            have hnn : (len + n) * j.size ≤ cap' * j.size := Nat.mul_le_mul_right _ hcap
            rw [Nat.add_mul] at hnn
            have h1' : ∀ v ∈ news', v.oneCell' = true := fun v hv => by
              obtain ⟨q, hq⟩ := List.mem_iff_getElem?.1 hv
              have hin : q < news.length := by have := (List.getElem?_eq_some_iff.1 hq).1; rw [hL.1]; exact this
              rw [oneCell_eq (hL.2 q _ _ (List.getElem?_eq_getElem hin) hq)]
              exact List.all_eq_true.1 h1 _ (List.getElem_mem hin)
            have hst := store_up (E := E) ho hN hfz (off := len * j.size) (news' := news') (by rw [hnl]; omega) h1'
            obtain ⟨p1, p2, p3, p4⟩ := setCells_rest news' (len * j.size) c w
            have hA := Adv.reuse R hf0 hg rfl hρ (.cells (cs ++ news) el) (.cells (writeList cs' (len * j.size) news') el fz)
              (.cells (fun i v hv => ?_) (by rw [size_writeList]; exact hN) hfz) p1 p2 p3 p4 (by rw [setCells_heap _ _ _ _ ho, if_pos rfl]) (fun d hd => by rw [setCells_heap _ _ _ _ ho, if_neg hd])
            · refine ⟨_, _, _, append_room K (base := some ⟨c, 0, none⟩) ht hd hj hu hk hl hn0 hcap (fun a ha => ?_) (fun ha => by cases ha), .sliceG (by omega) (by unfold SL at *; omega) g3 hcap (by omega) (upd_self _ _ _), hA⟩
              cases ha
              rw [addr_add, Nat.zero_add]
              exact hst
            · rw [get_writeList _ _ _ (by rw [hnl, hN]; omega)]
              rw [List.getElem?_append] at hv
              by_cases hi : i < len * j.size
              · rw [if_pos (by omega)] at hv
                rw [if_neg (by omega)]
                obtain ⟨v', e', r⟩ := hcc i v hv
                exact ⟨v', e', r.mono (Ext.upd hf0)⟩
              · rw [if_neg (by omega)] at hv
                rw [q2] at hv
                obtain ⟨v', e', r⟩ := hL.get hv
                have hlt := (List.getElem?_eq_some_iff.1 e').1
                rw [if_pos (by omega)]
                exact ⟨v', e', r.mono (Ext.upd hf0)⟩
          · -- a new row
            have hA := Adv.kill R b
            have hrd : readCells h ⟨b, 0, none⟩ (len * j.size) = some cs := by
              unfold readCells
              dsimp only
              rw [hg]
              dsimp only
              unfold slice?
              dsimp only
              rw [List.drop_zero, List.take_of_length_le (by omega), show Nat.beq cs.length (len * j.size) = true from by rw [q2]; exact Nat.beq_refl _]
            obtain ⟨old', k1, k2, k3⟩ := readCells_sound R hρ hrd
            obtain ⟨ρ', v', w', r1, r2, r3⟩ := growG_case (ty := ty) (E := E) (h := h.kill b) K hA.rel ht hd hj hu hk (base := some ⟨c, 0, none⟩) (cap := cap') hl hnews (fun w' hw => At.firstCells k3 k1 w' hw) k2 hL (by omega) k1 hnl e (by
              intro y hy1 hy2
              exact hf y hy1 hy2)
            exact ⟨ρ', v', w', r1, r2, hA.trans r3⟩
    · cases e
  · cases e

theorem appendA_sound (K : E.Ok) (R : Rel ρ h w) {t u ty elem : TypeId} {s s' x x' : Value} {n : Nat} {news : List Value} {i j k : TyI} {v : Value} (ht : E.ty.get t = some i) (hd : i.desc = .slice elem) (hj : E.ty.get elem = some j) (hu : E.ty.get u = some k) (hk : ∀ q, k.desc ≠ .int q)
    (hs : VR ρ s s') (hx : VR ρ x x') (hn : lenA x = some n) (hc : srcCells h j.size n x = some news) (hlen : news.length = n * j.size) (e : appendA h elem j.size j.bytes s n news = some (v, h')) (hf : Fr ρ h h') :
    VOk E ρ h h' w (Builtin.append_ #[t, u] ty #[s', x']) v := by
  have hl := lenA_run (E := E) (w := w) hx hn
  obtain ⟨news', hnews, hL, _⟩ := srcCells_run (E := E) R hx hn (Nat.le_refl n) (fun _ _ _ => rfl) hc
  have hnl : news'.length = n * j.size := by rw [← hL.1, hlen]
  have hn0 := hnews w rfl
  unfold appendA at e
  split at e
  · -- nil
    cases hs
    split at e
    · cases e
      exact ⟨ρ, _, w, append_room K (w' := w) ht hd hj hu hk hl hn0 (Nat.le_refl _) (fun a ha => by cases ha) (fun _ => rfl), .sliceNil _ _, .refl R⟩
    · rename_i n
      have := grow_case (ty := ty) K R ht hd hj hu hk (base := none) (len := 0) (cap := 0) (olds := []) (olds' := []) (news := news) (v := v) (h' := h') hl hnews (fun w' hw => by simp [Builtin.firstCells]) (LR.nil ρ) hL (by omega) (by simp) hnl
        (by simpa using e) hf
      exact this
  · rename_i a len cap
    split at e
    · -- the capacity is known
      rename_i hlt
      have hlt' : cap < SL := by simpa [Nat.blt_eq] using hlt
      cases hs with
      | sliceUp h3 h4 h5 h6 h7 => exact absurd hlt' (Nat.not_lt.2 (up_ge _ _))
      | sliceUn => unfold SL UN at hlt'; omega
      | sliceG => exact absurd hlt' (by unfold GC SL UN; omega)
      | sliceG0 => exact absurd hlt' (by unfold GC SL UN; omega)
      | slice h3 hρ =>
        rename_i b c N off
        split at e
        · rename_i hb
          have hroom := Nat.le_of_ble_eq_true hb
          split at e
          · rename_i h2 hw
            cases e
            obtain ⟨w', hst, hA⟩ := writeCells_sound (E := E) R hρ hL hw
            refine ⟨ρ, _, w', append_room K (base := some ⟨c, off, none⟩) ht hd hj hu hk hl hn0 hroom (fun a ha => ?_) (fun ha => by cases ha), .slice h3 hρ, hA⟩
            cases ha
            rw [addr_add]
            exact hst
          · cases e
        · rename_i hb
          have hroom : cap < len + n := Nat.lt_of_not_le fun hle => by rw [Nat.ble_eq_true_of_le hle] at hb; cases hb
          split at e
          · rename_i old hold
            have key : ∃ old', (∀ w', w'.heap = w.heap → (Builtin.firstCells j.size len (.slice (some ⟨c, off, none⟩) len cap)).run E.P w' = .ok ⟨old'⟩ w') ∧ LR ρ old old' ∧ old'.length = len * j.size := by
              unfold sliceCells at hold
              split at hold
              · rename_i he
                cases he
              · rename_i he
                cases hold
                simp only [Value.slice.injEq] at he
                obtain ⟨_, rfl, _⟩ := he
                exact ⟨[], fun w' hw => by simp [Builtin.firstCells, loadCells, loadCellsFrom], LR.nil ρ, by simp⟩
              · rename_i he
                cases he
                obtain ⟨l', h1, h2, h3⟩ := readCells_sound R hρ hold
                exact ⟨l', fun w' hw => At.firstCells h3 h1 w' hw, h2, h1⟩
              · cases hold
            obtain ⟨old', k1, k2, k3⟩ := key
            exact grow_case (ty := ty) K R ht hd hj hu hk hl hnews k1 k2 hL hroom k3 hnl e hf
          · cases e
    · rename_i hlt
      have hlt' : ¬ cap < SL := by simpa [← Nat.blt_eq] using hlt
      split at e
      · -- a slice that grows
        rename_i hgc
        exact appendG_sound (ty := ty) K R ht hd hj hu hk hs hx hl hnews hL hnl (Nat.eq_of_beq_eq_true hgc) e hf
      rename_i hgc
      have hgc' := Nat.ne_of_beq_eq_false hgc
      split at e
      · -- room that is known
        rename_i hun hb
        rw [Bool.and_eq_true] at hun
        have hsz := Nat.eq_of_beq_eq_true hun.2
        have hroom := Nat.le_of_ble_eq_true hb
        cases hs with
        | slice h3 => omega
        | sliceUn => have := hun.1; simp [Nat.blt_eq] at this
        | sliceG => have := hun.1; simp [Nat.blt_eq, GC] at this; omega
        | sliceG0 => have := hun.1; simp [Nat.blt_eq, GC] at this; omega
        | sliceUp h3 h4 h5 h6 hρ =>
          rename_i b c N off z kn cap'
          rw [up_mod h3] at hroom
          split at e
          · rename_i h2 hw
            cases e
            obtain ⟨w', hst, hA⟩ := writeCells_sound (E := E) R hρ hL hw
            refine ⟨ρ, _, w', append_room K (base := some ⟨c, off, none⟩) ht hd hj hu hk hl hn0 (by omega) (fun a ha => ?_) (fun ha => by cases ha), .sliceUp h3 h4 h5 h6 hρ, hA⟩
            cases ha
            rw [addr_add]
            exact hst
          · cases e
      · -- no room is known
        rename_i hun hb
        rw [Bool.and_eq_true] at hun
        have hsz := Nat.eq_of_beq_eq_true hun.2
        cases hs with
        | slice h3 => omega
        | sliceUn => have := hun.1; simp [Nat.blt_eq] at this
        | sliceG => have := hun.1; simp [Nat.blt_eq, GC] at this; omega
        | sliceG0 => have := hun.1; simp [Nat.blt_eq, GC] at this; omega
        | sliceUp h3 h4 h5 h6 hρ =>
          rename_i b c N off z kn cap'
          rw [up_div h3] at hsz
          obtain rfl : z = j.size := by omega
          rw [up_mod h3] at e
          have hroom : kn < len + n := Nat.lt_of_not_le fun hle => by rw [up_mod h3, Nat.ble_eq_true_of_le hle] at hb; cases hb
          dsimp only at e
          split at e
          · rename_i cs el hg
            split at e
            · rename_i hq h1
              simp only [Bool.and_eq_true] at hq
              have q1 := Nat.eq_of_beq_eq_true hq.1.1
              have q2 := Nat.eq_of_beq_eq_true hq.1.2
              have q3 := Nat.le_of_ble_eq_true hq.2
              subst q1
              obtain ⟨o', ho, hr⟩ := R.obj b _ hg c N hρ
              cases hr with
              | cells hcc hN hfz =>
                rename_i cs' fz
                obtain ⟨g1, g2, g3, rfl, rfl⟩ := growA_some e
                have hf0 : ρ h.next = none := hf _ (Nat.le_refl _) (by rw [AHeap.next_alloc, AHeap.next_kill]; omega)
                have hle : len * j.size ≤ kn * j.size := Nat.mul_le_mul_right _ q3
                have hkc : kn * j.size ≤ cap' * j.size := Nat.mul_le_mul_right _ h5
                by_cases hcap : len + n ≤ cap'
                · -- in place
                  have hnn : (len + n) * j.size ≤ cap' * j.size := Nat.mul_le_mul_right _ hcap
                  rw [Nat.add_mul] at hnn
                  have h1' : ∀ v ∈ news', v.oneCell' = true := fun v hv => by
                    obtain ⟨q, hq⟩ := List.mem_iff_getElem?.1 hv
                    have hin : q < news.length := by have := (List.getElem?_eq_some_iff.1 hq).1; rw [hL.1]; exact this
                    rw [oneCell_eq (hL.2 q _ _ (List.getElem?_eq_getElem hin) hq)]
                    exact List.all_eq_true.1 h1 _ (List.getElem_mem hin)
                  have hst := store_up (E := E) ho hN hfz (off := len * j.size) (news' := news') (by rw [hnl]; omega) h1'
                  obtain ⟨p1, p2, p3, p4⟩ := setCells_rest news' (len * j.size) c w
                  have hA := Adv.reuse R hf0 hg rfl hρ (.cells (cs.take (len * j.size) ++ news) el) (.cells (writeList cs' (len * j.size) news') el fz)
                    (.cells (fun i v hv => ?_) (by rw [size_writeList]; exact hN) hfz) p1 p2 p3 p4 (by rw [setCells_heap _ _ _ _ ho, if_pos rfl]) (fun d hd => by rw [setCells_heap _ _ _ _ ho, if_neg hd])
                  · refine ⟨_, _, _, append_room K (base := some ⟨c, 0, none⟩) ht hd hj hu hk hl hn0 hcap (fun a ha => ?_) (fun ha => by cases ha), .sliceUp (by unfold SL at *; omega) g3 hcap (by omega) (upd_self _ _ _), hA⟩
                    cases ha
                    rw [addr_add, Nat.zero_add]
                    exact hst
                  · rw [get_writeList _ _ _ (by rw [hnl, hN]; omega)]
                    rw [List.getElem?_append] at hv
                    simp only [List.length_take] at hv
                    by_cases hi : i < len * j.size
                    · rw [if_pos (by omega)] at hv
                      rw [if_neg (by omega)]
                      rw [List.getElem?_take, if_pos hi] at hv
                      obtain ⟨v', e', r⟩ := hcc i v hv
                      exact ⟨v', e', r.mono (Ext.upd hf0)⟩
                    · rw [if_neg (by omega)] at hv
                      rw [show min (len * j.size) cs.length = len * j.size by omega] at hv
                      obtain ⟨v', e', r⟩ := hL.get hv
                      have hlt := (List.getElem?_eq_some_iff.1 e').1
                      rw [if_pos (by omega)]
                      exact ⟨v', e', r.mono (Ext.upd hf0)⟩
                · -- a new row
                  have hA := Adv.kill R b
                  have hrd : readCells h ⟨b, 0, none⟩ (len * j.size) = some (cs.take (len * j.size)) := by
                    unfold readCells
                    dsimp only
                    rw [hg]
                    dsimp only
                    unfold slice?
                    dsimp only
                    rw [List.drop_zero, show Nat.beq (List.take (len * j.size) cs).length (len * j.size) = true from by rw [List.length_take, show min (len * j.size) cs.length = len * j.size by omega]; exact Nat.beq_refl _]
                  obtain ⟨old', k1, k2, k3⟩ := readCells_sound R hρ hrd
                  obtain ⟨ρ', v', w', r1, r2, r3⟩ := grow_case (ty := ty) (E := E) (h := h.kill b) K hA.rel ht hd hj hu hk (base := some ⟨c, 0, none⟩) (cap := cap') hl hnews (fun w' hw => At.firstCells k3 k1 w' hw) k2 hL (by omega) k1 hnl e (by
                    intro y hy1 hy2
                    exact hf y hy1 hy2)
                  exact ⟨ρ', v', w', r1, r2, hA.trans r3⟩
            · cases e
          · cases e
      · cases e
  · cases e
end Go.Proofs.YtlkhpgocbojdgaaGreatDoor.Ai

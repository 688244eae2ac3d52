/-
  EACH OPERATION OF THE EVALUATOR IS ONE OF THE MACHINE's, part 5: conversions, made slices, append, copy, clear, len.
-/
import Derived.Test.YtlkhpgocbojdgaaGreatDoorAiOps
import Derived.Laws.Append
import Derived.Lib.ConvBytes
import Derived.Lib.Builder
import Derived.Lib.UnsafeStr
namespace Go.Proofs.YtlkhpgocbojdgaaGreatDoor.Ai
open Go
set_option linter.unusedSimpArgs false
set_option linter.unusedVariables false
variable {E : Env} {ρ : Ren} {h h' : AHeap} {w : World}

/-! ### append -/
theorem lenA_run {x x' : Value} {n : Nat} (hx : VR ρ x x') (e : lenA x = some n) : (Builtin.lenOf x').run E.P w = .ok n w := by
  cases hx <;> simp [lenA] at e <;> subst e <;> rfl

theorem bytesCells_eq (s : ByteArray) : (s.extract 0 s.size).data.map (fun b => Value.int .u8 b.toNat) = ⟨bytesCells s⟩ := by
  apply Array.ext'
  rw [Array.toList_map, Lib.extract_data]
  simp [bytesCells]
  rw [List.take_of_length_le (by simp)]

/-- The cells of what is appended, or copied. -/
theorem srcCells_run (R : Rel ρ h w) {x x' : Value} {size n m : Nat} {news : List Value} (hx : VR ρ x x') (hn : lenA x = some n) (hm : m ≤ n) (hs : x' = x' → (∀ s, x = .string s → m = n)) (e : srcCells h size m x = some news) :
    ∃ news', (∀ w', w'.heap = w.heap → (Builtin.firstCells size m x').run E.P w' = .ok ⟨news'⟩ w') ∧ LR ρ news news' ∧ ((∀ s, x ≠ .string s) → (∀ N, x ≠ .slice none n N) → news.length = m * size) := by
  cases hx with
  | string s =>
    have hmn := hs rfl s rfl
    subst hmn
    simp [lenA] at hn
    subst hn
    cases e
    refine ⟨bytesCells s, fun w' hw => ?_, ?_, fun h1 => absurd rfl (h1 s)⟩
    · unfold Builtin.firstCells
      dsimp only
      rw [bytesCells_eq]
      rfl
    · have : (bytesCells s).take s.size = bytesCells s := List.take_of_length_le (by unfold bytesCells; rw [List.length_map, Array.length_toList]; exact Nat.le_refl _)
      rw [this]
      exact bytesCells_LR s
  | sliceNil k c =>
    simp [lenA] at hn
    subst hn
    cases e
    exact ⟨[], fun w' hw => rfl, LR.nil ρ, fun _ h2 => absurd rfl (h2 c)⟩
  | slice h1 hρ =>
    rename_i b c N off k cap
    unfold srcCells at e
    dsimp only at e
    split at e
    · cases e
      exact ⟨[], fun w' hw => by simp [Builtin.firstCells, loadCells, loadCellsFrom], LR.nil ρ, fun _ _ => by simp⟩
    · rename_i m
      obtain ⟨l', h1, h2, h3⟩ := readCells_sound R hρ e
      refine ⟨l', fun w' hw => ?_, h2, fun _ _ => by rw [h2.1, h1]⟩
      unfold Builtin.firstCells
      dsimp only
      rw [← h1]
      exact run_loadCells_list w' ⟨c, off, none⟩ l' (fun j v hj => by rw [addr_add, World.cell?, hw]; exact h3 j v hj)
  | sliceUp h1 hz h4 h5 hρ =>
    rename_i b c N off k z kn cap'
    unfold srcCells at e
    dsimp only at e
    split at e
    · cases e
      exact ⟨[], fun w' hw => by simp [Builtin.firstCells, loadCells, loadCellsFrom], LR.nil ρ, fun _ _ => by simp⟩
    · rename_i m
      obtain ⟨l', h1, h2, h3⟩ := readCells_sound R hρ e
      refine ⟨l', fun w' hw => ?_, h2, fun _ _ => by rw [h2.1, h1]⟩
      unfold Builtin.firstCells
      dsimp only
      rw [← h1]
      exact run_loadCells_list w' ⟨c, off, none⟩ l' (fun j v hj => by rw [addr_add, World.cell?, hw]; exact h3 j v hj)
  | sliceG g0 g1 g2 g3 g4 hρ =>
    rename_i b c N k z cap'
    unfold srcCells at e
    dsimp only at e
    split at e
    · cases e
      exact ⟨[], fun w' hw => by simp [Builtin.firstCells, loadCells, loadCellsFrom], LR.nil ρ, fun _ _ => by simp⟩
    · rename_i m
      obtain ⟨l', h1, h2, h3⟩ := readCells_sound R hρ e
      refine ⟨l', fun w' hw => ?_, h2, fun _ _ => by rw [h2.1, h1]⟩
      unfold Builtin.firstCells
      dsimp only
      rw [← h1]
      exact run_loadCells_list w' ⟨c, 0, none⟩ l' (fun j v hj => by rw [addr_add, World.cell?, hw]; exact h3 j v hj)
  | sliceG0 =>
    simp [lenA] at hn
    subst hn
    have : m = 0 := by omega
    subst this
    cases e
    rename_i q z
    exact ⟨[], fun w' hw => by cases q <;> simp [Builtin.firstCells, loadCells, loadCellsFrom], LR.nil ρ, fun _ _ => by simp⟩
  | sliceUn =>
    simp [lenA] at hn
    subst hn
    have : m = 0 := by omega
    subst this
    cases e
    exact ⟨[], fun w' hw => by simp [Builtin.firstCells, loadCells, loadCellsFrom], LR.nil ρ, fun _ _ => by simp⟩
  | _ => simp [lenA] at hn

/-- append where there is room. -/
theorem append_room (K : E.Ok) {t u ty elem : TypeId} {i j k : TyI} (ht : E.ty.get t = some i) (hd : i.desc = .slice elem) (hj : E.ty.get elem = some j) (hu : E.ty.get u = some k) (hk : ∀ q, k.desc ≠ .int q)
    {base : Option Addr} {len cap n : Nat} {x' : Value} {news' : List Value} {w' : World} (hl : (Builtin.lenOf x').run E.P w = .ok n w) (hn : (Builtin.firstCells j.size n x').run E.P w = .ok ⟨news'⟩ w)
    (hroom : len + n ≤ cap) (hst : ∀ a, base = some a → (storeCells (a.add (len * j.size)) news').run E.P w = .ok () w') (hst0 : base = none → w' = w) :
    (Builtin.append_ #[t, u] ty #[.slice base len cap, x']).run E.P w = .ok (.slice base (len + n) cap) w' := by
  unfold Builtin.append_
  have hz : (match k.desc with | .int _ => true | _ => false) = false := by cases hkd : k.desc <;> first | rfl | exact absurd hkd (hk _)
  simp only [List.getElem?_toArray, List.getElem?_cons_zero, List.getElem?_cons_succ, Sem.run_bind, run_und K ht, hd, Result.andThen_ok, run_size K hj, run_und K hu, Sem.run_pure, hz, Bool.false_eq_true, if_false, hl, Bool.not_false, if_true]
  rw [if_pos hroom]
  simp only [Sem.run_bind, hn, Result.andThen_ok]
  cases base with
  | none => rw [hst0 rfl]; rfl
  | some a => simp only [Sem.run_bind, hst a rfl, Result.andThen_ok, Sem.run_pure]

/-- append where there is none. -/
theorem append_grow (K : E.Ok) {t u ty elem : TypeId} {i j k : TyI} (ht : E.ty.get t = some i) (hd : i.desc = .slice elem) (hj : E.ty.get elem = some j) (hu : E.ty.get u = some k) (hk : ∀ q, k.desc ≠ .int q)
    {base : Option Addr} {len cap n : Nat} {x' : Value} {olds' news' : List Value} (hl : (Builtin.lenOf x').run E.P w = .ok n w) (hn : ∀ w', w'.heap = w.heap → (Builtin.firstCells j.size n x').run E.P w' = .ok ⟨news'⟩ w')
    (ho : ∀ w', w'.heap = w.heap → (Builtin.firstCells j.size len (.slice base len cap)).run E.P w' = .ok ⟨olds'⟩ w')
    (hroom : cap < len + n) (hb : (len + n) * j.bytes ≤ 1099511627776) (hs : len + n < 4611686018427387904) (hol : olds'.length = len * j.size) (hnl : news'.length = n * j.size) :
    ∃ c cells, (Builtin.append_ #[t, u] ty #[.slice base len cap, x']).run E.P w = .ok (.slice (some ⟨w.heap.size, 0, none⟩) (len + n) c) (w.drew.alloc (.cells cells elem)) ∧ len + n ≤ c ∧ cells.size = c * j.size ∧ cells.toList.take ((len + n) * j.size) = olds' ++ news' := by
  obtain ⟨_, _, hzs, ti, h1, h2, h3, h4⟩ := K.ty elem j hj
  have hz : (match k.desc with | .int _ => true | _ => false) = false := by cases hkd : k.desc <;> first | rfl | exact absurd hkd (hk _)
  have hfit : Builtin.nextslicecap (len + n) cap * j.bytes ≤ 281474976710656 := growslice_fits (by omega) (by omega)
  have hmax : IntKind.i64.max = 9223372036854775807 := by decide
  have hn' : ¬ (len + n ≤ cap) := by omega
  have h63' : ¬ (9223372036854775807 < ((len : Int) + (n : Int))) := by omega
  have h48' : ¬ (281474976710656 < Builtin.nextslicecap (len + n) cap * j.bytes) := by omega
  have hge : len + n ≤ grownCap w (len + n) cap elem := grownCap_ge w _ _ _
  have hnd := hn w.drew rfl
  have hod := ho w.drew rfl
  have hl' : (Builtin.lenOf x').run E.P w = .ok n w := hl
  have hty : (typeInfo elem).run E.P w = .ok ti w := by simp [typeInfo, h1]
  have hty' : (typeInfo elem).run E.P w.drew = .ok ti w.drew := by simp [typeInfo, h1]
  refine ⟨grownCap w (len + n) cap elem, ⟨olds'⟩ ++ ⟨news'⟩ ++ Builtin.zeroCells j.zero.cells (grownCap w (len + n) cap elem - (len + n)), ?_, hge, ?_, ?_⟩
  · have hu' := (K.ty u k hu).1
    simp [Builtin.append_, run_und K ht, hd, run_size K hj, hl', hn', h63', h48', Question.forced, hty, hty', h4, hnd, hod, newRow, grownCap, zeroValue, h2, run_underlying hu']
    congr 2
    apply Array.ext'
    simp
  · simp only [Array.size_append, List.size_toArray, hol, hnl, size_zeroCells, hzs, ← Nat.add_mul]
    congr 1
    omega
  · have e1 : (len + n) * j.size = (olds' ++ news').length := by rw [List.length_append, hol, hnl, Nat.add_mul]
    rw [e1]
    simp only [Array.toList_append]
    exact List.take_left

theorem live_get {b : Nat} {o : AObj} (e : h.get b = some o) : live h b := .inr (by rw [e]; rfl)

/-- A new row whose first cells are known. -/
theorem new_row (R : Rel ρ h w) (hf : ρ h.next = none) {c : List Value} {cells : Array Value} {e : TypeId} (hL : ∀ (i : Nat) v, c[i]? = some v → ∃ v', cells[i]? = some v' ∧ VR ρ v v') :
    Adv ρ (upd ρ h.next (w.heap.size, cells.size)) h (h.alloc (.cells c e)) w (w.drew.alloc (.cells cells e)) := by
  have R' : Rel ρ h w.drew := ⟨R.obj, R.inj, R.lt⟩
  have a := Adv.alloc R' hf cells.size (.cells c e) (.cells cells e) (.cells (fun i v hv => by
    obtain ⟨v', e', r⟩ := hL i v hv
    exact ⟨v', e', r.mono (Ext.upd hf)⟩) rfl (fun i _ => by simp))
  exact ⟨a.ext, a.new, a.next, a.low, a.rel, a.os, a.tape, a.output, a.size, a.fresh, a.frame, a.keep⟩

theorem growA_some {elem size bytes n : Nat} {cells : List Value} {v : Value} (e : growA h elem size bytes n cells = some (v, h')) :
    n * bytes ≤ 1099511627776 ∧ n < 4611686018427387904 ∧ size < 1099511627776 ∧ v = .slice (some ⟨h.next, 0, none⟩) n (upCap size n) ∧ h' = h.alloc (.cells cells elem) := by
  unfold growA at e
  split at e
  · rename_i hb
    simp only [Bool.and_eq_true] at hb
    cases e
    refine ⟨Nat.le_of_ble_eq_true hb.1.1, ?_, ?_, rfl, rfl⟩
    · simpa [Nat.blt_eq] using hb.1.2
    · simpa [Nat.blt_eq] using hb.2
  · cases e

theorem take_get {l r : List Value} {n : Nat} (e : l.take n = r) {i : Nat} {v : Value} (h : r[i]? = some v) : l[i]? = some v := by
  subst e
  rw [List.getElem?_take] at h
  split at h
  · exact h
  · cases h

/-- The case of a new row. -/
theorem grow_case (K : E.Ok) (R : Rel ρ h w) {t u ty elem : TypeId} {i j k : TyI} (ht : E.ty.get t = some i) (hd : i.desc = .slice elem) (hj : E.ty.get elem = some j) (hu : E.ty.get u = some k) (hk : ∀ q, k.desc ≠ .int q)
    {base : Option Addr} {len cap n : Nat} {x' : Value} {olds olds' news news' : List Value} {v : Value} (hl : (Builtin.lenOf x').run E.P w = .ok n w) (hn : ∀ w', w'.heap = w.heap → (Builtin.firstCells j.size n x').run E.P w' = .ok ⟨news'⟩ w')
    (ho : ∀ w', w'.heap = w.heap → (Builtin.firstCells j.size len (.slice base len cap)).run E.P w' = .ok ⟨olds'⟩ w') (hLo : LR ρ olds olds') (hLn : LR ρ news news')
    (hroom : cap < len + n) (hol : olds'.length = len * j.size) (hnl : news'.length = n * j.size) (e : growA h elem j.size j.bytes (len + n) (olds ++ news) = some (v, h')) (hf : Fr ρ h h') :
    VOk E ρ h h' w (Builtin.append_ #[t, u] ty #[.slice base len cap, x']) v := by
  obtain ⟨g1, g2, g3, rfl, rfl⟩ := growA_some e
  obtain ⟨c, cells, hrun, hc, hcs, htk⟩ := append_grow K (ty := ty) ht hd hj hu hk hl hn ho hroom g1 g2 hol hnl
  have hf0 : ρ h.next = none := hf _ (Nat.le_refl _) (by rw [AHeap.next_alloc]; omega)
  refine ⟨_, _, _, hrun, .sliceUp (by unfold SL at *; omega) g3 hc ?_ (upd_self _ _ _), new_row R hf0 (fun i v hv => ?_)⟩
  · rw [hcs]; omega
  · obtain ⟨v', e', r⟩ := (hLo.append hLn).get hv
    exact ⟨v', by have := take_get htk e'; rwa [Array.getElem?_toList] at this, r⟩

theorem isInt_false {u : TypeId} (e : isInt (E.ty.get u) = some false) : ∃ k, E.ty.get u = some k ∧ ∀ q, k.desc ≠ .int q := by
  unfold isInt at e
  split at e
  · cases e
  · rename_i k hne hk
    refine ⟨k, hk, fun q hq => ?_⟩
    obtain ⟨d, z, s, b⟩ := k
    dsimp only at hq
    subst hq
    exact hne _ _ _ _ rfl
  · cases e

theorem At.firstCells {c off size n cap : Nat} {l : List Value} (hA : At w c off l) (hl : l.length = n * size) (w' : World) (hw : w'.heap = w.heap) :
    (Builtin.firstCells size n (.slice (some ⟨c, off, none⟩) n cap)).run E.P w' = .ok ⟨l⟩ w' := by
  unfold Builtin.firstCells
  dsimp only
  rw [← hl]
  exact run_loadCells_list w' ⟨c, off, none⟩ l (fun j v hj => by rw [addr_add, World.cell?, hw]; exact hA j v hj)

/-- Storing where the row has cells of which nothing is known. -/
theorem store_up {c N : Nat} {cs : Array Value} {e : TypeId} {fz : Nat × Nat} (ho : w.heap[c]? = some (.cells cs e fz)) (hN : cs.size = N) (hfz : ∀ i, i < N → (decide (fz.1 ≤ i) && decide (i < fz.2)) = false)
    {off : Nat} {news' : List Value} (hfit : off + news'.length ≤ N) (h1 : ∀ v ∈ news', v.oneCell' = true) :
    (storeCells ⟨c, off, none⟩ news').run E.P w = .ok () (w.setCells c off news') := by
  have := run_storeCells_cells (P := E.P) c off news' 0 w (fun j hj => by
    simp [World.cell?, ho, show off + j < cs.size by omega]) (fun j hj => by
    simp only [World.frozen?, ho, Nat.add_zero]
    exact hfz (off + j) (by omega)) h1
  rwa [Nat.add_zero] at this

theorem growG_some {elem size bytes n : Nat} {cells : List Value} {v : Value} (e : growG h elem size bytes n cells = some (v, h')) :
    n * bytes ≤ 1099511627776 ∧ n < 4611686018427387904 ∧ size < 1099511627776 ∧ v = .slice (some ⟨h.next, 0, none⟩) n (GC size) ∧ h' = h.alloc (.cells cells elem) := by
  unfold growG at e
  split at e
  · rename_i hb
    simp only [Bool.and_eq_true] at hb
    cases e
    refine ⟨Nat.le_of_ble_eq_true hb.1.1, ?_, ?_, rfl, rfl⟩
    · simpa [Nat.blt_eq] using hb.1.2
    · simpa [Nat.blt_eq] using hb.2
  · cases e

/-- The case of a new row, for a slice that grows. -/
theorem growG_case (K : E.Ok) (R : Rel ρ h w) {t u ty elem : TypeId} {i j k : TyI} (ht : E.ty.get t = some i) (hd : i.desc = .slice elem) (hj : E.ty.get elem = some j) (hu : E.ty.get u = some k) (hk : ∀ q, k.desc ≠ .int q)
    {base : Option Addr} {len cap n : Nat} {x' : Value} {olds olds' news news' : List Value} {v : Value} (hl : (Builtin.lenOf x').run E.P w = .ok n w) (hn : ∀ w', w'.heap = w.heap → (Builtin.firstCells j.size n x').run E.P w' = .ok ⟨news'⟩ w')
    (ho : ∀ w', w'.heap = w.heap → (Builtin.firstCells j.size len (.slice base len cap)).run E.P w' = .ok ⟨olds'⟩ w') (hLo : LR ρ olds olds') (hLn : LR ρ news news')
    (hroom : cap < len + n) (hol : olds'.length = len * j.size) (hnl : news'.length = n * j.size) (e : growG h elem j.size j.bytes (len + n) (olds ++ news) = some (v, h')) (hf : Fr ρ h h') :
    VOk E ρ h h' w (Builtin.append_ #[t, u] ty #[.slice base len cap, x']) v := by
  obtain ⟨g1, g2, g3, rfl, rfl⟩ := growG_some e
  obtain ⟨c, cells, hrun, hc, hcs, htk⟩ := append_grow K (ty := ty) ht hd hj hu hk hl hn ho hroom g1 g2 hol hnl
  have hf0 : ρ h.next = none := hf _ (Nat.le_refl _) (by rw [AHeap.next_alloc]; omega)
  refine ⟨_, _, _, hrun, .sliceG (by omega) (by unfold SL at *; omega) g3 hc ?_ (upd_self _ _ _), new_row R hf0 (fun i v hv => ?_)⟩
  · rw [hcs]; exact Nat.le_refl _
  · obtain ⟨v', e', r⟩ := (hLo.append hLn).get hv
    exact ⟨v', by have := take_get htk e'; rwa [Array.getElem?_toList] at this, r⟩

/-- append to a slice that grows. -/
theorem appendG_sound (K : E.Ok) (R : Rel ρ h w) {t u ty elem : TypeId} {s' x x' : Value} {a : Addr} {len cap n : Nat} {news news' : List Value} {i j k : TyI} {v : Value} (ht : E.ty.get t = some i) (hd : i.desc = .slice elem) (hj : E.ty.get elem = some j) (hu : E.ty.get u = some k) (hk : ∀ q, k.desc ≠ .int q)
    (hs : VR ρ (.slice (some a) len cap) s') (hx : VR ρ x x') (hl : (Builtin.lenOf x').run E.P w = .ok n w) (hnews : ∀ w', w'.heap = w.heap → (Builtin.firstCells j.size n x').run E.P w' = .ok ⟨news'⟩ w') (hL : LR ρ news news') (hnl : news'.length = n * j.size)
    (hcap : cap = GC j.size) (e : appendG h elem j.size j.bytes a len n news = some (v, h')) (hf : Fr ρ h h') :
    VOk E ρ h h' w (Builtin.append_ #[t, u] ty #[s', x']) v := by
  have hn0 := hnews w rfl
  unfold appendG at e
  split at e
  · rename_i cs el hg ha0
    split at e
    · rename_i hq
      simp only [Bool.and_eq_true] at hq
      have q1 := Nat.eq_of_beq_eq_true hq.1.1
      have q2 := Nat.eq_of_beq_eq_true hq.1.2
      have h1 := hq.2
      subst q1
      cases hs with
      | slice h3 => exact absurd hcap (by unfold GC SL UN at *; omega)
      | sliceUp h3 h4 => exact absurd hcap (by unfold GC upCap SL UN at *; omega)
      | sliceUn => exact absurd hcap (by unfold GC UN; omega)
      | sliceG0 =>
        rename_i q z
        obtain ⟨g1, g2, g3, hv, hh'⟩ := growG_some e
        have hcs : cs = [] := List.length_eq_zero_iff.1 (by simpa using q2)
        subst hcs
        rcases Nat.eq_zero_or_pos n with hz | hpos
        · subst hz
          subst hv
          subst hh'
          have hnews0 : news = [] := List.length_eq_zero_iff.1 (by rw [hL.1, hnl]; simp)
          subst hnews0
          have A := Adv.kill R a.block
          have hf0 : ρ h.next = none := hf _ (Nat.le_refl _) (by rw [AHeap.next_alloc, AHeap.next_kill]; omega)
          have hn00 : news' = [] := List.length_eq_zero_iff.1 (by simpa using hnl)
          refine ⟨ρ, _, w, append_room K (base := q) (cap := 0) ht hd hj hu hk hl hn0 (by omega) (fun a ha => by rw [hn00]; rfl) (fun _ => rfl), .sliceG0, A.trans ?_⟩
          exact Adv.dummy A.rel hf0 _
        · have A := Adv.kill R a.block
          have := growG_case (ty := ty) (E := E) (h := h.kill a.block) K A.rel ht hd hj hu hk (base := q) (len := 0) (cap := 0) (olds := []) (olds' := []) hl hnews (fun w' hw => by cases q <;> simp [Builtin.firstCells, loadCells, loadCellsFrom]) (LR.nil ρ) hL (by omega) (by simp) hnl e (by
            intro y hy1 hy2
            exact hf y hy1 hy2)
          obtain ⟨ρ', v', w', r1, r2, r3⟩ := this
          exact ⟨ρ', v', w', r1, r2, A.trans r3⟩
      | sliceG b0 b1 b2 h5 h6 hρ =>
        rename_i b c N z cap'
        obtain rfl : z = j.size := by unfold GC at hcap; omega
        obtain ⟨o', ho, hr⟩ := R.obj b _ hg c N hρ
        cases hr with
        | cells hcc hN hfz =>
          rename_i cs' fz
          obtain ⟨g1, g2, g3, rfl, rfl⟩ := growG_some e
          have hf0 : ρ h.next = none := hf _ (Nat.le_refl _) (by rw [AHeap.next_alloc, AHeap.next_kill]; omega)
          have hkc : len * j.size ≤ cap' * j.size := Nat.mul_le_mul_right _ h5
          by_cases hcap : len + n ≤ cap'
          · -- in place
            have hnn : (len + n) * j.size ≤ cap' * j.size := Nat.mul_le_mul_right _ hcap
            rw [Nat.add_mul] at hnn
            have h1' : ∀ v ∈ news', v.oneCell' = true := fun v hv => by
              obtain ⟨q, hq⟩ := List.mem_iff_getElem?.1 hv
              have hin : q < news.length := by have := (List.getElem?_eq_some_iff.1 hq).1; rw [hL.1]; exact this
              rw [oneCell_eq (hL.2 q _ _ (List.getElem?_eq_getElem hin) hq)]
              exact List.all_eq_true.1 h1 _ (List.getElem_mem hin)
            have hst := store_up (E := E) ho hN hfz (off := len * j.size) (news' := news') (by rw [hnl]; omega) h1'
            obtain ⟨p1, p2, p3, p4⟩ := setCells_rest news' (len * j.size) c w
            have hA := Adv.reuse R hf0 hg rfl hρ (.cells (cs ++ news) el) (.cells (writeList cs' (len * j.size) news') el fz)
              (.cells (fun i v hv => ?_) (by rw [size_writeList]; exact hN) hfz) p1 p2 p3 p4 (by rw [setCells_heap _ _ _ _ ho, if_pos rfl]) (fun d hd => by rw [setCells_heap _ _ _ _ ho, if_neg hd])
            · refine ⟨_, _, _, append_room K (base := some ⟨c, 0, none⟩) ht hd hj hu hk hl hn0 hcap (fun a ha => ?_) (fun ha => by cases ha), .sliceG (by omega) (by unfold SL at *; omega) g3 hcap (by omega) (upd_self _ _ _), hA⟩
              cases ha
              rw [addr_add, Nat.zero_add]
              exact hst
            · rw [get_writeList _ _ _ (by rw [hnl, hN]; omega)]
              rw [List.getElem?_append] at hv
              by_cases hi : i < len * j.size
              · rw [if_pos (by omega)] at hv
                rw [if_neg (by omega)]
                obtain ⟨v', e', r⟩ := hcc i v hv
                exact ⟨v', e', r.mono (Ext.upd hf0)⟩
              · rw [if_neg (by omega)] at hv
                rw [q2] at hv
                obtain ⟨v', e', r⟩ := hL.get hv
                have hlt := (List.getElem?_eq_some_iff.1 e').1
                rw [if_pos (by omega)]
                exact ⟨v', e', r.mono (Ext.upd hf0)⟩
          · -- a new row
            have hA := Adv.kill R b
            have hrd : readCells h ⟨b, 0, none⟩ (len * j.size) = some cs := by
              unfold readCells
              dsimp only
              rw [hg]
              dsimp only
              unfold slice?
              dsimp only
              rw [List.drop_zero, List.take_of_length_le (by omega), show Nat.beq cs.length (len * j.size) = true from by rw [q2]; exact Nat.beq_refl _]
            obtain ⟨old', k1, k2, k3⟩ := readCells_sound R hρ hrd
            obtain ⟨ρ', v', w', r1, r2, r3⟩ := growG_case (ty := ty) (E := E) (h := h.kill b) K hA.rel ht hd hj hu hk (base := some ⟨c, 0, none⟩) (cap := cap') hl hnews (fun w' hw => At.firstCells k3 k1 w' hw) k2 hL (by omega) k1 hnl e (by
              intro y hy1 hy2
              exact hf y hy1 hy2)
            exact ⟨ρ', v', w', r1, r2, hA.trans r3⟩
    · cases e
  · cases e

theorem appendA_sound (K : E.Ok) (R : Rel ρ h w) {t u ty elem : TypeId} {s s' x x' : Value} {n : Nat} {news : List Value} {i j k : TyI} {v : Value} (ht : E.ty.get t = some i) (hd : i.desc = .slice elem) (hj : E.ty.get elem = some j) (hu : E.ty.get u = some k) (hk : ∀ q, k.desc ≠ .int q)
    (hs : VR ρ s s') (hx : VR ρ x x') (hn : lenA x = some n) (hc : srcCells h j.size n x = some news) (hlen : news.length = n * j.size) (e : appendA h elem j.size j.bytes s n news = some (v, h')) (hf : Fr ρ h h') :
    VOk E ρ h h' w (Builtin.append_ #[t, u] ty #[s', x']) v := by
  have hl := lenA_run (E := E) (w := w) hx hn
  obtain ⟨news', hnews, hL, _⟩ := srcCells_run (E := E) R hx hn (Nat.le_refl n) (fun _ _ _ => rfl) hc
  have hnl : news'.length = n * j.size := by rw [← hL.1, hlen]
  have hn0 := hnews w rfl
  unfold appendA at e
  split at e
  · -- nil
    cases hs
    split at e
    · cases e
      exact ⟨ρ, _, w, append_room K (w' := w) ht hd hj hu hk hl hn0 (Nat.le_refl _) (fun a ha => by cases ha) (fun _ => rfl), .sliceNil _ _, .refl R⟩
    · rename_i n
      have := grow_case (ty := ty) K R ht hd hj hu hk (base := none) (len := 0) (cap := 0) (olds := []) (olds' := []) (news := news) (v := v) (h' := h') hl hnews (fun w' hw => by simp [Builtin.firstCells]) (LR.nil ρ) hL (by omega) (by simp) hnl
        (by simpa using e) hf
      exact this
  · rename_i a len cap
    split at e
    · -- the capacity is known
      rename_i hlt
      have hlt' : cap < SL := by simpa [Nat.blt_eq] using hlt
      cases hs with
      | sliceUp h3 h4 h5 h6 h7 => exact absurd hlt' (Nat.not_lt.2 (up_ge _ _))
      | sliceUn => unfold SL UN at hlt'; omega
      | sliceG => exact absurd hlt' (by unfold GC SL UN; omega)
      | sliceG0 => exact absurd hlt' (by unfold GC SL UN; omega)
      | slice h3 hρ =>
        rename_i b c N off
        split at e
        · rename_i hb
          have hroom := Nat.le_of_ble_eq_true hb
          split at e
          · rename_i h2 hw
            cases e
            obtain ⟨w', hst, hA⟩ := writeCells_sound (E := E) R hρ hL hw
            refine ⟨ρ, _, w', append_room K (base := some ⟨c, off, none⟩) ht hd hj hu hk hl hn0 hroom (fun a ha => ?_) (fun ha => by cases ha), .slice h3 hρ, hA⟩
            cases ha
            rw [addr_add]
            exact hst
          · cases e
        · rename_i hb
          have hroom : cap < len + n := Nat.lt_of_not_le fun hle => by rw [Nat.ble_eq_true_of_le hle] at hb; cases hb
          split at e
          · rename_i old hold
            have key : ∃ old', (∀ w', w'.heap = w.heap → (Builtin.firstCells j.size len (.slice (some ⟨c, off, none⟩) len cap)).run E.P w' = .ok ⟨old'⟩ w') ∧ LR ρ old old' ∧ old'.length = len * j.size := by
              unfold sliceCells at hold
              split at hold
              · rename_i he
                cases he
              · rename_i he
                cases hold
                simp only [Value.slice.injEq] at he
                obtain ⟨_, rfl, _⟩ := he
                exact ⟨[], fun w' hw => by simp [Builtin.firstCells, loadCells, loadCellsFrom], LR.nil ρ, by simp⟩
              · rename_i he
                cases he
                obtain ⟨l', h1, h2, h3⟩ := readCells_sound R hρ hold
                exact ⟨l', fun w' hw => At.firstCells h3 h1 w' hw, h2, h1⟩
              · cases hold
            obtain ⟨old', k1, k2, k3⟩ := key
            exact grow_case (ty := ty) K R ht hd hj hu hk hl hnews k1 k2 hL hroom k3 hnl e hf
          · cases e
    · rename_i hlt
      have hlt' : ¬ cap < SL := by simpa [← Nat.blt_eq] using hlt
      split at e
      · -- a slice that grows
        rename_i hgc
        exact appendG_sound (ty := ty) K R ht hd hj hu hk hs hx hl hnews hL hnl (Nat.eq_of_beq_eq_true hgc) e hf
      rename_i hgc
      have hgc' := Nat.ne_of_beq_eq_false hgc
      split at e
      · -- room that is known
        rename_i hun hb
        rw [Bool.and_eq_true] at hun
        have hsz := Nat.eq_of_beq_eq_true hun.2
        have hroom := Nat.le_of_ble_eq_true hb
        cases hs with
        | slice h3 => omega
        | sliceUn => have := hun.1; simp [Nat.blt_eq] at this
        | sliceG => have := hun.1; simp [Nat.blt_eq, GC] at this; omega
        | sliceG0 => have := hun.1; simp [Nat.blt_eq, GC] at this; omega
        | sliceUp h3 h4 h5 h6 hρ =>
          rename_i b c N off z kn cap'
          rw [up_mod h3] at hroom
          split at e
          · rename_i h2 hw
            cases e
            obtain ⟨w', hst, hA⟩ := writeCells_sound (E := E) R hρ hL hw
            refine ⟨ρ, _, w', append_room K (base := some ⟨c, off, none⟩) ht hd hj hu hk hl hn0 (by omega) (fun a ha => ?_) (fun ha => by cases ha), .sliceUp h3 h4 h5 h6 hρ, hA⟩
            cases ha
            rw [addr_add]
            exact hst
          · cases e
      · -- no room is known
        rename_i hun hb
        rw [Bool.and_eq_true] at hun
        have hsz := Nat.eq_of_beq_eq_true hun.2
        cases hs with
        | slice h3 => omega
        | sliceUn => have := hun.1; simp [Nat.blt_eq] at this
        | sliceG => have := hun.1; simp [Nat.blt_eq, GC] at this; omega
        | sliceG0 => have := hun.1; simp [Nat.blt_eq, GC] at this; omega
        | sliceUp h3 h4 h5 h6 hρ =>
          rename_i b c N off z kn cap'
          rw [up_div h3] at hsz
          obtain rfl : z = j.size := by omega
          rw [up_mod h3] at e
          have hroom : kn < len + n := Nat.lt_of_not_le fun hle => by rw [up_mod h3, Nat.ble_eq_true_of_le hle] at hb; cases hb
          dsimp only at e
          split at e
          · rename_i cs el hg
            split at e
            · rename_i hq h1
              simp only [Bool.and_eq_true] at hq
              have q1 := Nat.eq_of_beq_eq_true hq.1.1
              have q2 := Nat.eq_of_beq_eq_true hq.1.2
              have q3 := Nat.le_of_ble_eq_true hq.2
              subst q1
              obtain ⟨o', ho, hr⟩ := R.obj b _ hg c N hρ
              cases hr with
              | cells hcc hN hfz =>
                rename_i cs' fz
                obtain ⟨g1, g2, g3, rfl, rfl⟩ := growA_some e
                have hf0 : ρ h.next = none := hf _ (Nat.le_refl _) (by rw [AHeap.next_alloc, AHeap.next_kill]; omega)
                have hle : len * j.size ≤ kn * j.size := Nat.mul_le_mul_right _ q3
                have hkc : kn * j.size ≤ cap' * j.size := Nat.mul_le_mul_right _ h5
                by_cases hcap : len + n ≤ cap'
                · -- in place
                  have hnn : (len + n) * j.size ≤ cap' * j.size := Nat.mul_le_mul_right _ hcap
                  rw [Nat.add_mul] at hnn
                  have h1' : ∀ v ∈ news', v.oneCell' = true := fun v hv => by
                    obtain ⟨q, hq⟩ := List.mem_iff_getElem?.1 hv
                    have hin : q < news.length := by have := (List.getElem?_eq_some_iff.1 hq).1; rw [hL.1]; exact this
                    rw [oneCell_eq (hL.2 q _ _ (List.getElem?_eq_getElem hin) hq)]
                    exact List.all_eq_true.1 h1 _ (List.getElem_mem hin)
                  have hst := store_up (E := E) ho hN hfz (off := len * j.size) (news' := news') (by rw [hnl]; omega) h1'
                  obtain ⟨p1, p2, p3, p4⟩ := setCells_rest news' (len * j.size) c w
                  have hA := Adv.reuse R hf0 hg rfl hρ (.cells (cs.take (len * j.size) ++ news) el) (.cells (writeList cs' (len * j.size) news') el fz)
                    (.cells (fun i v hv => ?_) (by rw [size_writeList]; exact hN) hfz) p1 p2 p3 p4 (by rw [setCells_heap _ _ _ _ ho, if_pos rfl]) (fun d hd => by rw [setCells_heap _ _ _ _ ho, if_neg hd])
                  · refine ⟨_, _, _, append_room K (base := some ⟨c, 0, none⟩) ht hd hj hu hk hl hn0 hcap (fun a ha => ?_) (fun ha => by cases ha), .sliceUp (by unfold SL at *; omega) g3 hcap (by omega) (upd_self _ _ _), hA⟩
                    cases ha
                    rw [addr_add, Nat.zero_add]
                    exact hst
                  · rw [get_writeList _ _ _ (by rw [hnl, hN]; omega)]
                    rw [List.getElem?_append] at hv
                    simp only [List.length_take] at hv
                    by_cases hi : i < len * j.size
                    · rw [if_pos (by omega)] at hv
                      rw [if_neg (by omega)]
                      rw [List.getElem?_take, if_pos hi] at hv
                      obtain ⟨v', e', r⟩ := hcc i v hv
                      exact ⟨v', e', r.mono (Ext.upd hf0)⟩
                    · rw [if_neg (by omega)] at hv
                      rw [show min (len * j.size) cs.length = len * j.size by omega] at hv
                      obtain ⟨v', e', r⟩ := hL.get hv
                      have hlt := (List.getElem?_eq_some_iff.1 e').1
                      rw [if_pos (by omega)]
                      exact ⟨v', e', r.mono (Ext.upd hf0)⟩
                · -- a new row
                  have hA := Adv.kill R b
                  have hrd : readCells h ⟨b, 0, none⟩ (len * j.size) = some (cs.take (len * j.size)) := by
                    unfold readCells
                    dsimp only
                    rw [hg]
                    dsimp only
                    unfold slice?
                    dsimp only
                    rw [List.drop_zero, show Nat.beq (List.take (len * j.size) cs).length (len * j.size) = true from by rw [List.length_take, show min (len * j.size) cs.length = len * j.size by omega]; exact Nat.beq_refl _]
                  obtain ⟨old', k1, k2, k3⟩ := readCells_sound R hρ hrd
                  obtain ⟨ρ', v', w', r1, r2, r3⟩ := grow_case (ty := ty) (E := E) (h := h.kill b) K hA.rel ht hd hj hu hk (base := some ⟨c, 0, none⟩) (cap := cap') hl hnews (fun w' hw => At.firstCells k3 k1 w' hw) k2 hL (by omega) k1 hnl e (by
                    intro y hy1 hy2
                    exact hf y hy1 hy2)
                  exact ⟨ρ', v', w', r1, r2, hA.trans r3⟩
            · cases e
          · cases e
      · cases e
  · cases e
end Go.Proofs.YtlkhpgocbojdgaaGreatDoor.Ai
/-
  EACH OPERATION OF THE EVALUATOR IS ONE OF THE MACHINE's, part 6: conversions, make, len, copy, clear, maps, strings ranged over.
-/
namespace Go.Proofs.YtlkhpgocbojdgaaGreatDoor.Ai
open Go
set_option linter.unusedSimpArgs false
set_option linter.unusedVariables false
variable {E : Env} {ρ : Ren} {h h' : AHeap} {w : World}

/-- A variable lies at the head of a row of its own kind. -/
theorem lies_head {P : Program} {e : TypeId} {s cells : Nat} (hs : P.cellsOf e = s + 1) (hn : s + 1 ≤ cells) : liesAt P P.depth e (cells / P.cellsOf e) 0 e 1 = true := by
  have hd : P.depth = (2 * (P.types.size + Made.depth) + 1) + 1 := rfl
  have h1 : 1 ≤ cells / (s + 1) := (Nat.le_div_iff_mul_le (by omega)).2 (by omega)
  rw [hd]
  simp only [liesAt, Bool.or_eq_true]
  left
  rw [hd]
  simp [rowAt, hs, h1, sameLayout]
theorem cellsOf_size (K : E.Ok) {t : TypeId} {n : Nat} (h : sizeT E t = some n) : E.P.cellsOf t = n ∧ ∃ j, E.P.info? t = some j ∧ j.size = n := by
  unfold sizeT at h
  obtain ⟨i, hi, e⟩ := Option.map_eq_some_iff.1 h
  obtain ⟨_, _, _, ti, h1, h2, h3, h4⟩ := K.ty t i hi
  refine ⟨?_, ti, h1, by rw [h3]; exact e⟩
  simp [Program.cellsOf, h1, h3, e]

theorem convA_sound (K : E.Ok) (R : Rel ρ h w) {src dst : TypeId} {x x' : Value} {r : Option Value} (hx : VR ρ x x') (e : convA E h (E.ty.get src) (some x) (E.ty.get dst) = some (r, h')) (hf : Fr ρ h h') :
    ∃ v, r = some v ∧ VOk E ρ h h' w (convert src dst x') v := by
  unfold convA at e
  split at e
  · rename_i i n z0 k s0 b0 hi hxx hd
    cases hxx
    cases hx
    cases e
    refine ⟨_, rfl, VOk.same R (v' := .int _ (wrapF _ _)) ?_ (.int _ _)⟩
    unfold convert
    simp only [Sem.run_bind, run_und K hi, run_und K hd, Result.andThen_ok, wrapF_eq]
    rfl
  · rename_i i z z0 s0 b0 hi hxx hd
    cases hxx
    cases hx
    cases e
    refine ⟨_, rfl, VOk.same R (v' := .string z) ?_ (.string _)⟩
    unfold convert
    simp only [Sem.run_bind, run_und K hi, run_und K hd, Result.andThen_ok]
    cases i.desc <;> rfl
  · rename_i i z el z0 s0 b0 hi hxx hd
    cases hxx
    cases hx
    split at e
    · rename_i ze be hel
      split at e
      · rename_i hlt
        have hlt' : z.size < SL := by simpa [Nat.blt_eq] using hlt
        unfold made at e
        cases e
        have hs := (K.ty src i hi).1
        have hd' := (K.ty dst _ hd).1
        have he' := (K.ty el _ hel).1
        have hrun := Lib.run_convert_string_bytes w src dst el z hs hd' he'
        have hf0 : ρ h.next = none := hf _ (Nat.le_refl _) (by rw [AHeap.next_alloc]; omega)
        have hge : z.size ≤ grownCap w z.size 0 el := grownCap_ge w _ _ _
        have hbs : (Lib.bytesCells w el z).size = grownCap w z.size 0 el := by
          unfold Lib.bytesCells
          simp only [Array.size_append, Array.size_map, Array.size_replicate]
          have : z.data.size = z.size := rfl
          omega
        have R' : Rel ρ h w.drew := ⟨R.obj, R.inj, R.lt⟩
        -- as if the row were laid plain; then it is marked behind its end
        have a := Adv.alloc R' hf0 (Lib.bytesCells w el z).size (.cells (bytesCells z) el) (.cells (Lib.bytesCells w el z) el ((Lib.bytesCells w el z).size, (Lib.bytesCells w el z).size + 1)) (.cells (fun i v hv => by
            refine ⟨v, ?_, ?_⟩
            · unfold Lib.bytesCells
              have hi := (List.getElem?_eq_some_iff.1 hv).1
              unfold bytesCells at hv hi
              rw [List.length_map, Array.length_toList] at hi
              rw [Array.getElem?_append, if_pos (by rw [Array.size_map]; exact hi), Array.getElem?_map]
              rw [List.getElem?_map, Array.getElem?_toList] at hv
              exact hv
            · exact (bytesCells_LR z).2 i v v hv hv) rfl (fun i hi => by simp; omega))
        refine ⟨_, rfl, upd ρ h.next (w.heap.size, (Lib.bytesCells w el z).size), _, _, hrun, .sliceUp hlt' (by omega) hge (show 0 + grownCap w z.size 0 el * 1 ≤ (Lib.bytesCells w el z).size from by rw [hbs]; omega) (upd_self _ _ _), ?_⟩
        have hheap : ∀ d : Nat, (Lib.bytesWorld w el z).heap[d]? = (w.drew.alloc (.cells (Lib.bytesCells w el z) el ((Lib.bytesCells w el z).size, (Lib.bytesCells w el z).size + 1))).heap[d]? := by
          intro d
          rcases Nat.lt_trichotomy d w.heap.size with hd | hd | hd
          · rw [Lib.bytesWorld_at_old w el z d hd, heap_alloc_old w.drew _ hd]
            rfl
          · subst hd
            rw [Lib.bytesWorld_at_new, show w.heap.size = w.drew.heap.size from rfl, heap_alloc_new w.drew]
          · rw [Array.getElem?_eq_none (by rw [Lib.bytesWorld_size]; omega), Array.getElem?_eq_none (by simp; omega)]
        have hsz : (Lib.bytesWorld w el z).heap.size = w.heap.size + 1 := Lib.bytesWorld_size w el z
        refine ⟨a.ext, a.new, a.next, a.low, ⟨fun b o eb c N er => ?_, a.rel.inj, fun b c N er => ?_⟩, ?_, ?_, ?_, by omega, a.fresh, fun c hc hn => ?_, a.keep⟩
        · rw [hheap]; exact a.rel.obj b o eb c N er
        · have := a.rel.lt b c N er
          rw [hsz]
          simpa using this
        · unfold Lib.bytesWorld World.freeze; split <;> rfl
        · unfold Lib.bytesWorld World.freeze; split <;> rfl
        · unfold Lib.bytesWorld World.freeze; split <;> rfl
        · rw [hheap]; exact a.frame c hc hn
      · cases e
    · cases e
  · rename_i t z0 s0 b0 b off z1 s1 b1 hi hxx hd
    cases hxx
    split at e
    · rename_i m c el hs hg
      split at e
      · rename_i hlt
        cases e
        have hlt : off < c.length := by simpa [Nat.blt_eq] using hlt
        obtain ⟨_, j, hj1, hj2⟩ := cellsOf_size K hs
        have q1 := (K.ty src _ hi).1
        have q2 := (K.ty dst _ hd).1
        cases hx with
        | ptr hρ =>
          obtain ⟨o', r1, r2⟩ := R.obj _ _ hg _ _ hρ
          cases r2 with
          | cells a1 a2 a3 =>
            rename_i cc N cs fz
            have hsh : w.shape? cc = some (el, cs.size) := by simp [World.shape?, r1]
            obtain ⟨v', hv', _⟩ := a1 off c[off] (List.getElem?_eq_getElem hlt)
            have hoff := (Array.getElem?_eq_some_iff.1 hv').1
            exact ⟨_, rfl, VOk.same R (Lib.run_to_unsafe w ⟨cc, off, none⟩ q1 q2 hj1 (by omega) hsh hoff) (.ptr hρ)⟩
      · cases e
    · cases e
  · rename_i z0 s0 b0 b u z1 s1 b1 hi hxx hd
    cases hxx
    split at e
    · rename_i m c el hs hg
      split at e
      · rename_i hlt
        cases e
        simp only [Bool.and_eq_true] at hlt
        have he := Nat.eq_of_beq_eq_true hlt.1
        have hle := Nat.le_of_ble_eq_true hlt.2
        subst he
        obtain ⟨hc, j, hj1, hj2⟩ := cellsOf_size K hs
        have q1 := (K.ty src _ hi).1
        have q2 := (K.ty dst _ hd).1
        cases hx with
        | ptr hρ =>
          obtain ⟨o', r1, r2⟩ := R.obj _ _ hg _ _ hρ
          cases r2 with
          | cells a1 a2 a3 =>
            rename_i cc N cs fz
            have hsh : w.shape? cc = some (el, cs.size) := by simp [World.shape?, r1]
            obtain ⟨v', hv', _⟩ := a1 m c[m] (List.getElem?_eq_getElem (by omega))
            have hoff := (Array.getElem?_eq_some_iff.1 hv').1
            exact ⟨_, rfl, VOk.same R (Lib.run_from_unsafe w ⟨cc, 0, none⟩ q1 q2 hj1 hsh (lies_head hc (by omega))) (.ptr hρ)⟩
      · cases e
    · cases e
  · cases e

theorem makeSliceA_sound (K : E.Ok) (R : Rel ρ h w) {t : TypeId} {l c l' c' : Value} {r : Option Value} (hl : VR ρ l l') (hc : VR ρ c c') (e : makeSliceA E h (elemD (E.ty.get t)) (natV l) (natV c) = some (r, h')) (hf : Fr ρ h h') :
    ∃ v, r = some v ∧ VOk E ρ h h' w (Instr.makeSlice t l' c') v := by
  unfold makeSliceA at e
  split at e
  · rename_i elem n m hel hn hm
    obtain ⟨kl, rfl⟩ := asIntOf_nat hl hn
    obtain ⟨kc, rfl⟩ := asIntOf_nat hc hm
    obtain ⟨i, ht, hd⟩ := elemD_some hel
    split at e
    · rename_i j hj
      split at e
      · rename_i hb
        simp only [Bool.and_eq_true] at hb
        have b1 := Nat.le_of_ble_eq_true hb.1.1
        have b2 := Nat.le_of_ble_eq_true hb.1.2
        have b3 := Nat.le_of_ble_eq_true hb.2
        unfold made at e
        cases e
        obtain ⟨_, hflat, hzs, ti, h1, h2, h3, h4⟩ := K.ty elem j hj
        have hL : LR ρ (rep j.zero.cells.toList m) (rep j.zero.cells.toList m) := (flat_LR hflat).rep m
        refine ⟨_, rfl, _, .slice (some ⟨w.heap.size, 0, none⟩) n m, _, ?_, .slice (by unfold SL; omega) (upd_self _ _ _), alloc_cells R hf hL⟩
        have w1 : IntKind.i64.wrap (n : Int) = n := IntWalk.i64_in _ (by omega)
        have w2 : IntKind.i64.wrap (m : Int) = m := IntWalk.i64_in _ (by omega)
        have hty : (typeInfo elem).run E.P w = .ok ti w := by simp [typeInfo, h1]
        have hbm : ¬ (281474976710656 < (j.bytes : Int) * (m : Int)) := by
          have : (j.bytes : Int) * (m : Int) = ((m * j.bytes : Nat) : Int) := by rw [Nat.mul_comm]; simp
          omega
        have hroom : ¬ (m * j.bytes > 140737488355328) := by omega
        unfold Instr.makeSlice
        simp only [Sem.run_bind, run_und K ht, hd, Result.andThen_ok, asInt, asIntOf, Sem.run_pure, hty, w1, w2, h4]
        have c1 : ((decide ((m : Int) < 0) || decide ((j.bytes : Int) * (m : Int) > 2 ^ 48)) || decide ((n : Int) < 0) || decide ((n : Int) > (m : Int))) = false := by
          simp only [Bool.or_eq_false_iff, decide_eq_false_iff_not]
          refine ⟨⟨⟨by omega, ?_⟩, by omega⟩, by omega⟩
          have : (2 : Int) ^ 48 = 281474976710656 := by decide
          rw [this]
          exact hbm
        have hask : (askRoom (m * j.bytes)).run E.P w = .ok () w := by
          unfold askRoom roomBytes
          rw [if_neg (show ¬ (m * j.bytes > 2 ^ 47) by
            have : (2 : Nat) ^ 47 = 140737488355328 := by decide
            omega)]
          rfl
        simp only [c1, Bool.false_eq_true, if_false, Int.toNat_natCast, Sem.run_bind, Sem.run_pure, Result.andThen_ok, hask, run_size K hj]
        by_cases h0 : m * j.size = 0
        · have : rep j.zero.cells.toList m = [] := List.eq_nil_of_length_eq_zero (by rw [rep_length, Array.length_toList, hzs, h0])
          have hr : ∀ f : Nat → Value, (Array.range (m * j.size)).map f = ⟨[]⟩ := fun f => by rw [h0]; simp
          rw [if_pos h0]
          simp only [Sem.run_bind, Sem.run_pure, Result.andThen_ok, hr, newRow, run_newObj, this]
          rfl
        · rw [if_neg h0]
          have hr : (Array.range (m * j.size)).map (fun i => j.zero.cells[i % j.zero.cells.size]!) = ⟨rep j.zero.cells.toList m⟩ := by rw [← hzs, rep_range]
          simp only [Sem.run_bind, run_zero K hj, Sem.run_pure, Result.andThen_ok, hr, newRow, run_newObj]
          rfl
      · cases e
    · cases e
  · cases e

/-! ### len -/
theorem lenBA_sound (K : E.Ok) (R : Rel ρ h w) {t ty : TypeId} {x x' v : Value} (hx : VR ρ x x') (e : lenBA h (E.ty.get t) x = some (v, h')) :
    h' = h ∧ (Builtin.len_ #[t] ty #[x']).run E.P w = .ok v w ∧ VR ρ v v := by
  unfold lenBA at e
  unfold Builtin.len_
  split at e
  · rename_i el z s b a n c ht
    cases e
    refine ⟨rfl, ?_, .int _ _⟩
    cases hx <;> simp [run_und K ht, goInt]
  · rename_i z s b q ht
    cases e
    cases hx
    exact ⟨rfl, by simp [run_und K ht, goInt], .int _ _⟩
  · rename_i k el z s b ht
    cases e
    cases hx
    exact ⟨rfl, by simp [run_und K ht, goInt], .int _ _⟩
  · rename_i k el z s b q ht
    cases hx with
    | map hρ =>
      rename_i c N
      split at e
      · rename_i es cl hg
        cases e
        obtain ⟨o', ho, hr⟩ := R.obj _ _ hg c N hρ
        cases hr with
        | map hl hes =>
          refine ⟨rfl, ?_, .int _ _⟩
          simp [run_und K ht, goInt, getObj, Sem.run, ho, hl]
      · cases e
  · cases e

theorem made_map (R : Rel ρ h w) (hf : Fr ρ h (h.alloc (.map [] 0))) {t : TypeId} : VOk E ρ h (h.alloc (.map [] 0)) w (Instr.makeMap t none) (.map (some h.next)) := by
  have hf0 : ρ h.next = none := hf _ (Nat.le_refl _) (by rw [AHeap.next_alloc]; omega)
  refine ⟨_, .map (some w.heap.size), _, ?_, .map (upd_self _ _ _), Adv.alloc R hf0 0 (.map [] 0) (.map #[] 0) (.map rfl (fun i e e' h => by simp at h))⟩
  unfold Instr.makeMap
  simp only [Sem.run_bind, run_newObj, Result.andThen_ok, Sem.run_pure]
  rfl

theorem allocA_sound (R : Rel ρ h w) {el : TypeId} {z z' : Value} {r : Option Value} (hz : VR ρ z z') (e : allocA h el (some z) = some (r, h')) (hf : Fr ρ h h') :
    ∃ v, r = some v ∧ VOk E ρ h h' w (do pure (.pointer (some (← newVar el z')))) v := by
  unfold allocA made at e
  cases e
  refine ⟨_, rfl, _, .pointer (some ⟨w.heap.size, 0, none⟩), _, ?_, .ptr (upd_self _ _ _), alloc_cells R hf hz.cells⟩
  simp only [newVar, newRow, Sem.run_bind, run_newObj, Result.andThen_ok, Sem.run_pure]
  rfl

theorem rangeA_sound (R : Rel ρ h w) {t : TypeId} (K : E.Ok) {x x' : Value} {r : Option Value} (hx : VR ρ x x') (e : rangeA h (E.ty.get t) (some x) = some (r, h')) (hf : Fr ρ h h') :
    ∃ v, r = some v ∧ VOk E ρ h h' w (Instr.range t x') v := by
  unfold rangeA at e
  split at e
  · rename_i z0 s0 b0 z ht hxx
    cases hxx
    cases hx
    unfold made at e
    cases e
    have hf0 : ρ h.next = none := hf _ (Nat.le_refl _) (by rw [AHeap.next_alloc]; omega)
    refine ⟨_, rfl, _, .pointer (some ⟨w.heap.size, 0, none⟩), _, ?_, .ptr (upd_self _ _ _), Adv.alloc R hf0 0 (.strIter z 0) (.stringIter z 0) .strIter⟩
    unfold Instr.range
    simp only [Sem.run_bind, run_und K ht, Result.andThen_ok, Sem.run_pure, run_newObj]
    rfl
  · rename_i ht hxx
    cases hxx
    cases hx
    unfold made at e
    cases e
    have hf0 : ρ h.next = none := hf _ (Nat.le_refl _) (by rw [AHeap.next_alloc]; omega)
    refine ⟨_, rfl, _, .pointer (some ⟨w.heap.size, 0, none⟩), _, ?_, .ptr (upd_self _ _ _), Adv.alloc R hf0 0 (.mapIter none 0 [] 0) (.mapIter none 0 #[] 0) .mapIter0⟩
    unfold Instr.range
    simp only [Sem.run_bind, run_und K ht, Result.andThen_ok, Sem.run_pure, run_newObj]
    rfl
  · rename_i m ht hxx
    cases hxx
    cases hx with
    | map hρ =>
      rename_i c N
      split at e
      · rename_i es clock hg
        unfold made at e
        cases e
        have hf0 : ρ h.next = none := hf _ (Nat.le_refl _) (by rw [AHeap.next_alloc]; omega)
        obtain ⟨o', ho, hor⟩ := R.obj _ _ hg c N hρ
        cases hor with
        | map hl he =>
          rename_i fs
          have hget : (getObj c).run E.P w = .ok (.map fs clock) w := by simp [getObj, Sem.run, ho]
          refine ⟨_, rfl, _, .pointer (some ⟨w.heap.size, 0, none⟩), _, ?_, .ptr (upd_self _ _ _), Adv.alloc R hf0 0 (.mapIter (some m) clock [] clock) (.mapIter (some c) clock #[] clock) (.mapIter (Ext.upd hf0 _ _ hρ))⟩
          unfold Instr.range
          simp only [Sem.run_bind, run_und K ht, Result.andThen_ok, hget, Sem.run_pure, run_newObj]
          rfl
      · cases e
  · cases e

/-- An object that is no row of cells is written over. -/
theorem setObj_sound (R : Rel ρ h w) {b c N : Nat} {x o : AObj} {y o' : Obj} (hg : h.get b = some x) (hρ : ρ b = some (c, N)) (hy : w.heap[c]? = some y) (hnc : ∀ a e f, y ≠ .cells a e f) (hr : OR ρ N o o') :
    (setObj c o').run E.P w = .ok () { w with heap := w.heap.setIfInBounds c o' } ∧ Adv ρ ρ h (h.set b o) w { w with heap := w.heap.setIfInBounds c o' } := by
  have hlt := (Array.getElem?_eq_some_iff.1 hy).1
  have hx : isW (some x) = true := by
    obtain ⟨o2, h1, h2⟩ := R.obj b x hg c N hρ
    rw [hy] at h1
    cases h1
    cases h2 <;> first | rfl | exact absurd rfl (hnc _ _ _)
  refine ⟨?_, Adv.set R hg hx hρ o o' hr rfl rfl rfl (by simp) (by simp [hlt]) (fun d hd => by simp [Array.getElem?_setIfInBounds_ne (Ne.symm hd)])⟩
  unfold setObj
  simp only [Sem.run, hy]

theorem nextA_sound (R : Rel ρ h w) {t : TypeId} {x x' : Value} {r : Option Value} (hx : VR ρ x x') (e : nextA h (some x) = some (r, h')) : ∃ v, r = some v ∧ VOk E ρ h h' w (Instr.next x' true t) v := by
  unfold nextA at e
  split at e
  · rename_i b hxx
    cases hxx
    cases hx with
    | ptr hρ =>
      rename_i c N
      split at e
      · rename_i z pos hg
        obtain ⟨o', ho, hr⟩ := R.obj _ _ hg c N hρ
        cases hr
        have hget : (getObj c).run E.P w = .ok (.stringIter z pos) w := by simp [getObj, Sem.run, ho]
        split at e
        · rename_i hlt
          have hlt' : pos < z.size := by simpa [Nat.blt_eq] using hlt
          cases e
          obtain ⟨hs, hA⟩ := setObj_sound (E := E) R hg hρ ho (by intro a e f; simp) (OR.strIter (ρ := ρ) (N := N) (s := z) (pos := pos + (Utf8.decode z pos).2))
          refine ⟨_, rfl, ρ, .tuple #[.bool true, .int .i64 pos, .int .i32 (Utf8.decode z pos).1], _, ?_, flat_VR ρ rfl, hA⟩
          unfold Instr.next
          simp only [Sem.run_bind, hget, Result.andThen_ok]
          rw [if_pos hlt']
          simp only [Sem.run_bind, hs, Result.andThen_ok, Sem.run_pure, goInt]
        · rename_i hlt
          have hlt' : ¬ pos < z.size := by simpa [← Nat.blt_eq] using hlt
          cases e
          refine ⟨_, rfl, VOk.same R (v' := .tuple #[.bool false]) ?_ (flat_VR ρ rfl)⟩
          unfold Instr.next
          simp only [Sem.run_bind, hget, Result.andThen_ok]
          rw [if_neg hlt']
          rfl
      · cases e
  · cases e
end Go.Proofs.YtlkhpgocbojdgaaGreatDoor.Ai
/-
  EACH OPERATION OF THE EVALUATOR IS ONE OF THE MACHINE's: maps with keys without addresses; copy; clear.
-/
namespace Go.Proofs.YtlkhpgocbojdgaaGreatDoor.Ai
open Go
set_option linter.unusedSimpArgs false
set_option linter.unusedVariables false
variable {E : Env} {ρ : Ren} {h h' : AHeap} {w : World}

theorem runP_bind {α β : Type} (P : Program) : ∀ (s : Sem α) {f : α → Sem β} {b : β}, runP P (s >>= f) = some b → ∃ a, runP P s = some a ∧ runP P (f a) = some b := by
  intro s
  induction s with
  | pure a => intro f b e; exact ⟨a, rfl, e⟩
  | program k ih => intro f b e; exact ih P e
  | mark m k ih => intro f b e; exact ih e
  | _ => intro f b e; cases e

/-- Entries that correspond, as lists. -/
def EL (ρ : Ren) (es fs : List MapEntry) : Prop := es.length = fs.length ∧ ∀ (i : Nat) e e', es[i]? = some e → fs[i]? = some e' → ER ρ e e'
theorem EL.cons {e f : MapEntry} {es fs : List MapEntry} (h : EL ρ (e :: es) (f :: fs)) : ER ρ e f ∧ EL ρ es fs :=
  ⟨h.2 0 _ _ rfl rfl, by simpa using h.1, fun i a b ha hb => h.2 (i + 1) a b (by simpa using ha) (by simpa using hb)⟩

/-- What is found corresponds. -/
def FR (ρ : Ren) : Option (Nat × Value) → Option (Nat × Value) → Prop
  | none, none => True
  | some (i, v), some (j, v') => i = j ∧ VR ρ v v'
  | _, _ => False

theorem findNow_sound {d : TypeDesc} {k : Value} : ∀ (es fs : List MapEntry) (i : Nat), EL ρ es fs → (Instr.findNow d k es i = none ∧ Instr.findNow d k fs i = none) ∨
    ∃ r r', Instr.findNow d k es i = some r ∧ Instr.findNow d k fs i = some r' ∧ FR ρ r r'
  | [], [], i, hE => .inr ⟨none, none, rfl, rfl, trivial⟩
  | e :: es, f :: fs, i, hE => by
    obtain ⟨h1, h2⟩ := hE.cons
    unfold Instr.findNow
    rw [h1.key]
    split
    · rename_i hs
      exact .inr ⟨_, _, rfl, rfl, rfl, h1.val⟩
    · rename_i hs
      exact findNow_sound es fs (i + 1) h2
    · exact .inl ⟨rfl, rfl⟩
  | [], f :: fs, i, hE => by have := hE.1; simp at this
  | e :: es, [], i, hE => by have := hE.1; simp at this

theorem findAsking_sound {P : Program} {kt : TypeId} {k : Value} : ∀ (es fs : List MapEntry) (i : Nat) {r : Option (Nat × Value)}, EL ρ es fs → runP P (Instr.findAsking kt k es i) = some r →
    ∃ r', (Instr.findAsking kt k fs i).run P w = .ok r' w ∧ FR ρ r r'
  | [], [], i, r, hE, e => by cases e; exact ⟨none, rfl, trivial⟩
  | e :: es, f :: fs, i, r, hE, he => by
    obtain ⟨h1, h2⟩ := hE.cons
    unfold Instr.findAsking at he ⊢
    obtain ⟨b, hb, he⟩ := runP_bind P _ he
    have hr := runP_run P _ hb w
    rw [h1.key]
    simp only [Sem.run_bind, hr, Result.andThen_ok]
    cases b with
    | true => cases he; exact ⟨_, rfl, rfl, h1.val⟩
    | false => exact findAsking_sound es fs (i + 1) h2 he
  | [], f :: fs, i, r, hE, e => by have := hE.1; simp at this
  | e :: es, [], i, r, hE, e' => by have := hE.1; simp at this

theorem findKey_sound {P : Program} {kt : TypeId} {k : Value} {es fs : List MapEntry} {r : Option (Nat × Value)} (hE : EL ρ es fs) (e : runP P (Instr.findKey kt k es) = some r) :
    ∃ r', (Instr.findKey kt k fs).run P w = .ok r' w ∧ FR ρ r r' := by
  unfold Instr.findKey at e ⊢
  obtain ⟨d, hd, e⟩ := runP_bind P _ e
  have hr := runP_run P _ hd w
  simp only [Sem.run_bind, hr, Result.andThen_ok]
  rcases findNow_sound (d := d) (k := k) es fs 0 hE with ⟨h1, h2⟩ | ⟨q, q', h1, h2, h3⟩
  · rw [h1] at e
    rw [h2]
    exact findAsking_sound es fs 0 hE e
  · rw [h1] at e
    rw [h2]
    cases e
    exact ⟨q', rfl, h3⟩

theorem mapD_some {t kt et : TypeId} (e : mapD (E.ty.get t) = some (kt, et)) : ∃ i, E.ty.get t = some i ∧ i.desc = .map kt et := by
  unfold mapD at e
  split at e
  · rename_i k e0 z s b he
    cases e
    exact ⟨_, he, rfl⟩
  · cases e

theorem flatKey_some {x : Option Value} {k : Value} (e : flatKey x = some k) : x = some k ∧ flat k = true := by
  unfold flatKey at e
  split at e
  · split at e
    · rename_i hf; cases e; exact ⟨rfl, hf⟩
    · cases e
  · cases e

theorem lookupA_sound (K : E.Ok) (R : Rel ρ h w) {t : TypeId} {ok : Bool} {x x' k k' : Value} {r : Option Value} (hx : VR ρ x x') (hk : VR ρ k k')
    (e : lookupA E h ok (mapD (E.ty.get t)) (entriesA h (some x)) (flatKey (some k)) = some (r, h')) :
    h' = h ∧ ∃ v v', r = some v ∧ (Instr.lookup t x' k' ok).run E.P w = .ok v' w ∧ VR ρ v v' := by
  unfold lookupA at e
  split at e
  · rename_i kt et es k0 hd hes hk0
    obtain ⟨i, ht, hdesc⟩ := mapD_some hd
    obtain ⟨hk1, hkf⟩ := flatKey_some hk0
    cases hk1
    have hkk := flat_eq hkf hk
    subst hkk
    have hes' : ∃ fs : Array MapEntry, EL ρ es fs.toList ∧ (Instr.lookup t x' k' ok).run E.P w =
        ((do
          Instr.checkKey fs.isEmpty 10000 kt k'
          let (v, ok') ← match ← Instr.findKey kt k' fs.toList with
            | some (_, v) => pure (v, true)
            | none => pure (← zeroValue et, false)
          pure (if ok then .tuple #[v, .bool ok'] else v)) : Sem Value).run E.P w := by
      unfold entriesA at hes
      split at hes
      · rename_i hx0
        cases hx0
        cases hx
        cases hes
        refine ⟨#[], ⟨rfl, fun i a b h => by simp at h⟩, ?_⟩
        unfold Instr.lookup
        simp only [Sem.run_bind, run_und K ht, hdesc, Result.andThen_ok, Sem.run_pure]
        rfl
      · rename_i b hx0
        cases hx0
        cases hx with
        | map hρ =>
          rename_i c N
          split at hes
          · rename_i es0 cl hg
            cases hes
            obtain ⟨o', ho, hor⟩ := R.obj _ _ hg c N hρ
            cases hor with
            | map hl he =>
              rename_i fs
              refine ⟨fs, ⟨by simpa using hl, fun i a b ha hb => he i a b ha (by simpa using hb)⟩, ?_⟩
              unfold Instr.lookup
              have hget : (getObj c).run E.P w = .ok (.map fs cl) w := by simp [getObj, Sem.run, ho]
              simp only [Sem.run_bind, run_und K ht, hdesc, Result.andThen_ok, hget, Sem.run_pure]
              rfl
          · cases hes
      · cases hes
    obtain ⟨fs, hEL, hrun⟩ := hes'
    have hemp : fs.isEmpty = es.isEmpty := by
      have hl : es.length = fs.size := by simpa using hEL.1
      unfold Array.isEmpty
      rw [← hl]
      cases es <;> rfl
    rw [hrun, hemp]
    split at e
    · rename_i z0 i0 v z hck hfk hz
      cases e
      obtain ⟨r', h1, h2⟩ := findKey_sound (w := w) hEL hfk
      match r', h2 with
      | some (j, v'), ⟨_, hv⟩ =>
        simp only [Sem.run_bind, runP_run E.P _ hck w, Result.andThen_ok, h1, Sem.run_pure]
        cases ok with
        | true => exact ⟨by trivial, _, _, rfl, rfl, .tuple rfl (fun i a b ha hb => by
            match i with
            | 0 => simp at ha hb; subst ha; subst hb; exact hv
            | 1 => simp at ha hb; subst ha; subst hb; exact .bool _
            | i + 2 => simp at ha)⟩
        | false => exact ⟨by trivial, _, _, rfl, rfl, hv⟩
    · rename_i z0 z hck hfk hz
      cases e
      obtain ⟨r', h1, h2⟩ := findKey_sound (w := w) hEL hfk
      match r', h2 with
      | none, _ =>
        unfold zeroOf at hz
        cases hie : E.ty.get et with
        | none => rw [hie] at hz; cases hz
        | some ie =>
          rw [hie] at hz
          cases hz
          have hzv := flat_VR ρ (K.ty et ie hie).2.1
          simp only [Sem.run_bind, runP_run E.P _ hck w, Result.andThen_ok, h1, run_zero K hie, Sem.run_pure]
          cases ok with
          | true => exact ⟨by trivial, _, _, rfl, rfl, .tuple rfl (fun i a b ha hb => by
              match i with
              | 0 => simp at ha hb; subst ha; subst hb; exact hzv
              | 1 => simp at ha hb; subst ha; subst hb; exact .bool _
              | i + 2 => simp at ha)⟩
          | false => exact ⟨by trivial, _, _, rfl, rfl, hzv⟩
    · cases e
  · cases e

theorem mapUpdateA_sound (K : E.Ok) (R : Rel ρ h w) {t : TypeId} {m m' k k' x x' : Value} {r : Option Value} (hm : VR ρ m m') (hk : VR ρ k k') (hx : VR ρ x x')
    (e : mapUpdateA E h (mapD (E.ty.get t)) (mapA h (some m)) (flatKey (some k)) (some x) = some (r, h')) :
    r = none ∧ ∃ w', (Instr.mapUpdate t m' k' x').run E.P w = .ok () w' ∧ Adv ρ ρ h h' w w' := by
  unfold mapUpdateA at e
  split at e
  · rename_i kt et b es clock k0 x0 hd hma hk0 hx0
    cases hx0
    obtain ⟨i, ht, hdesc⟩ := mapD_some hd
    obtain ⟨hk1, hkf⟩ := flatKey_some hk0
    cases hk1
    have hkk := flat_eq hkf hk
    subst hkk
    unfold mapA at hma
    split at hma
    · rename_i b0 hm0
      cases hm0
      split at hma
      · rename_i es0 cl hg
        cases hma
        cases hm with
        | map hρ =>
          rename_i c N
          obtain ⟨o', ho, hor⟩ := R.obj _ _ hg c N hρ
          cases hor with
          | map hl he =>
            rename_i fs
            have hEL : EL ρ es fs.toList := ⟨by simpa using hl, fun i a b ha hb => he i a b ha (by simpa using hb)⟩
            have hget : (getObj c).run E.P w = .ok (.map fs clock) w := by simp [getObj, Sem.run, ho]
            split at e
            · rename_i z0 i0 v0 hck hfk
              split at e
              · rename_i e0 he0
                split at e
                · rename_i hsb
                  cases e
                  obtain ⟨r', h1, h2⟩ := findKey_sound (w := w) hEL hfk
                  match r', h2 with
                  | some (j, v'), ⟨hij, _⟩ =>
                    subst hij
                    have hjl : i0 < fs.size := by have := (List.getElem?_eq_some_iff.1 he0).1; omega
                    have hkey : fs[i0].key = e0.key := (he i0 e0 _ he0 (Array.getElem?_eq_getElem hjl)).key
                    obtain ⟨hs, A⟩ := setObj_sound (E := E) R hg hρ ho (by intro a e f; simp) (OR.map (ρ := ρ) (N := N) (es := es.modify i0 fun e => { e with key := k', val := x }) (fs := fs.modify i0 fun e => { e with key := k', val := x' }) (clock := clock) (by simp [hl]) (fun j a b ha hb => by
                      rw [List.getElem?_modify] at ha
                      rw [Array.getElem?_modify] at hb
                      by_cases hji : i0 = j
                      · subst hji
                        rw [he0] at ha
                        rw [if_pos rfl, Array.getElem?_eq_getElem hjl] at hb
                        simp at ha hb
                        subst ha
                        subst hb
                        have := he i0 e0 _ he0 (Array.getElem?_eq_getElem hjl)
                        exact ⟨rfl, hkf, hx, this.born⟩
                      · rw [if_neg hji] at hb
                        simp [hji] at ha
                        exact he j a b ha hb))
                    refine ⟨rfl, _, ?_, A⟩
                    unfold Instr.mapUpdate
                    simp only [Sem.run_bind, run_und K ht, hdesc, Result.andThen_ok, hget, runP_run E.P _ hck w, h1, Instr.keyThatStays]
                    rw [show ((fs[i0]?).map (·.key)).getD k' = e0.key by rw [Array.getElem?_eq_getElem hjl]; exact hkey]
                    rw [if_pos hsb]
                    simp only [Sem.run_pure, Result.andThen_ok]
                    exact hs
                · cases e
              · cases e
            · rename_i z0 hck hfk
              cases e
              obtain ⟨r', h1, h2⟩ := findKey_sound (w := w) hEL hfk
              match r', h2 with
              | none, _ =>
                obtain ⟨hs, A⟩ := setObj_sound (E := E) R hg hρ ho (by intro a e f; simp) (OR.map (ρ := ρ) (N := N) (es := es ++ [{ key := k', val := x, born := clock }]) (fs := fs.push { key := k', val := x', born := clock }) (clock := clock + 1) (by simp [hl]) (fun j a b ha hb => by
                  rw [List.getElem?_append] at ha
                  rw [Array.getElem?_push] at hb
                  by_cases hj : j < es.length
                  · rw [if_pos hj] at ha
                    rw [if_neg (by omega)] at hb
                    exact he j a b ha hb
                  · rw [if_neg hj] at ha
                    have hj0 : j - es.length = 0 := by
                      have := (List.getElem?_eq_some_iff.1 ha).1
                      simp at this
                      omega
                    rw [hj0] at ha
                    rw [if_pos (by omega)] at hb
                    simp at ha hb
                    subst ha
                    subst hb
                    exact ⟨rfl, hkf, hx, rfl⟩))
                refine ⟨rfl, _, ?_, A⟩
                unfold Instr.mapUpdate
                simp only [Sem.run_bind, run_und K ht, hdesc, Result.andThen_ok, hget, runP_run E.P _ hck w, h1]
                exact hs
            · cases e
      · cases hma
    · cases hma
  · cases e

theorem find_sound : ∀ {es fs : List MapEntry} {e : MapEntry} {s : Nat}, EL ρ es fs → es.find? (fun e => e.born == s) = some e → ∃ e', fs.find? (fun e => e.born == s) = some e' ∧ ER ρ e e'
  | [], fs, e, s, _, h => by cases h
  | x :: es, [], e, s, hE, h => by have := hE.1; simp at this
  | x :: es, y :: fs, e, s, hE, h => by
    have hxy : ER ρ x y := hE.2 0 x y rfl rfl
    have hE' : EL ρ es fs := ⟨by simpa using hE.1, fun i a b ha hb => hE.2 (i + 1) a b (by simpa using ha) (by simpa using hb)⟩
    rw [List.find?_cons] at h ⊢
    rw [hxy.born]
    split at h
    · cases h
      exact ⟨y, rfl, hxy⟩
    · exact find_sound hE' h
theorem findIdx_sound : ∀ {es fs : List MapEntry} {b : Int}, EL ρ es fs → fs.findIdx? (fun e => (e.born : Int) == b) = es.findIdx? (fun e => (e.born : Int) == b)
  | [], [], b, _ => rfl
  | [], y :: fs, b, hE => by have := hE.1; simp at this
  | x :: es, [], b, hE => by have := hE.1; simp at this
  | x :: es, y :: fs, b, hE => by
    have hxy : ER ρ x y := hE.2 0 x y rfl rfl
    have hE' : EL ρ es fs := ⟨by simpa using hE.1, fun i a b ha hb => hE.2 (i + 1) a b (by simpa using ha) (by simpa using hb)⟩
    rw [List.findIdx?_cons, List.findIdx?_cons, hxy.born, findIdx_sound hE']

theorem entryA_sound (R : Rel ρ h w) {x x' : Value} {r : Option Value} (hx : VR ρ x x') (e : entryA h (some x) = some (r, h')) :
    h' = h ∧ ∃ v v', r = some v ∧ (Instr.entry x').run E.P w = .ok v' w ∧ VR ρ v v' := by
  unfold entryA at e
  split at e
  · rename_i b hxx
    cases hxx
    cases hx with
    | ptr hρ =>
      rename_i c N
      split at e
      · rename_i m since seen stepped hg
        split at e
        · rename_i stamp es clock hl hm
          split at e
          · rename_i en hcl hfi
            cases e
            obtain ⟨o', ho, hor⟩ := R.obj _ _ hg c N hρ
            cases hor with
            | mapIter hρm =>
              rename_i cm M
              obtain ⟨om, hom, horm⟩ := R.obj _ _ hm cm M hρm
              cases horm with
              | map hll he =>
                rename_i fs
                have hEL : EL ρ es fs.toList := ⟨by simpa using hll, fun i a b ha hb => he i a b ha (by simpa using hb)⟩
                obtain ⟨e', h1, h2⟩ := find_sound hEL hfi
                rw [Array.find?_toList] at h1
                have hget : (getObj c).run E.P w = .ok (.mapIter (some cm) since ⟨seen⟩ stepped) w := by simp [getObj, Sem.run, ho]
                have hget2 : (getObj cm).run E.P w = .ok (.map fs clock) w := by simp [getObj, Sem.run, hom]
                have hcl' := Nat.eq_of_beq_eq_true hcl
                have hback : (⟨seen⟩ : Array Nat).back? = some stamp := by rw [← hl]; simp
                refine ⟨rfl, _, .tuple #[e'.key, e'.val], rfl, ?_, .tuple rfl (fun i a b ha hb => ?_)⟩
                · unfold Instr.entry
                  simp only [Sem.run_bind, hget, Result.andThen_ok, hback, hget2, hcl', bne_self_eq_false, Bool.false_eq_true, if_false, h1]
                  simp [h1]
                · match i with
                  | 0 => simp at ha hb; subst ha; subst hb; rw [h2.key]; exact flat_VR _ h2.flat
                  | 1 => simp at ha hb; subst ha; subst hb; exact h2.val
                  | i + 2 => simp at ha
          · cases e
        · cases e
      · cases e
  · cases e

theorem mapEntryA_sound (K : E.Ok) (R : Rel ρ h w) {t : TypeId} {m m' k k' : Value} {r : Option Value} (hm : VR ρ m m') (hk : VR ρ k k')
    (e : mapEntryA E h (mapD (E.ty.get t)) (mapA h (some m)) (flatKey (some k)) = some (r, h')) :
    ∃ v v' w', r = some v ∧ (Instr.mapEntry t m' k').run E.P w = .ok v' w' ∧ VR ρ v v' ∧ Adv ρ ρ h h' w w' := by
  unfold mapEntryA at e
  split at e
  · rename_i kt et b es clock k0 hd hma hk0
    obtain ⟨i, ht, hdesc⟩ := mapD_some hd
    obtain ⟨hk1, hkf⟩ := flatKey_some hk0
    cases hk1
    have hkk := flat_eq hkf hk
    subst hkk
    unfold mapA at hma
    split at hma
    · rename_i b0 hm0
      cases hm0
      split at hma
      · rename_i es0 cl hg
        cases hma
        cases hm with
        | map hρ =>
          rename_i c N
          obtain ⟨o', ho, hor⟩ := R.obj _ _ hg c N hρ
          cases hor with
          | map hl he =>
            rename_i fs
            have hEL : EL ρ es fs.toList := ⟨by simpa using hl, fun i a b ha hb => he i a b ha (by simpa using hb)⟩
            have hget : (getObj c).run E.P w = .ok (.map fs clock) w := by simp [getObj, Sem.run, ho]
            split at e
            · rename_i z0 i0 v0 hck hfk
              split at e
              · rename_i e0 he0
                split at e
                · rename_i hsb
                  cases e
                  obtain ⟨r', h1, h2⟩ := findKey_sound (w := w) hEL hfk
                  match r', h2 with
                  | some (j, v'), ⟨hij, hv⟩ =>
                    subst hij
                    have hjl : i0 < fs.size := by have := (List.getElem?_eq_some_iff.1 he0).1; omega
                    have her := he i0 e0 _ he0 (Array.getElem?_eq_getElem hjl)
                    obtain ⟨hs, A⟩ := setObj_sound (E := E) R hg hρ ho (by intro a e f; simp) (OR.map (ρ := ρ) (N := N) (es := es.modify i0 fun e => { e with key := k' }) (fs := fs.modify i0 fun e => { e with key := k' }) (clock := clock) (by simp [hl]) (fun j a b ha hb => by
                      rw [List.getElem?_modify] at ha
                      rw [Array.getElem?_modify] at hb
                      by_cases hji : i0 = j
                      · subst hji
                        rw [he0] at ha
                        rw [if_pos rfl, Array.getElem?_eq_getElem hjl] at hb
                        simp at ha hb
                        subst ha
                        subst hb
                        exact ⟨rfl, hkf, her.val, her.born⟩
                      · rw [if_neg hji] at hb
                        simp [hji] at ha
                        exact he j a b ha hb))
                    refine ⟨_, .tuple #[v', .int .i64 e0.born], _, rfl, ?_, .tuple rfl (fun i a b ha hb => ?_), A⟩
                    · unfold Instr.mapEntry
                      simp only [Sem.run_bind, run_und K ht, hdesc, Result.andThen_ok, hget, runP_run E.P _ hck w, h1, Instr.keyThatStays]
                      rw [show ((fs[i0]?).map (·.key)).getD k' = e0.key by rw [Array.getElem?_eq_getElem hjl]; exact her.key]
                      rw [if_pos hsb]
                      simp only [Sem.run_pure, Result.andThen_ok]
                      rw [show ((fs[i0]?).map (fun x => (x.born : Int))).getD 0 = (e0.born : Int) by rw [Array.getElem?_eq_getElem hjl]; exact congrArg Int.ofNat her.born]
                      simp only [Sem.run_bind, hs, Result.andThen_ok, Sem.run_pure]
                      rfl
                    · match i with
                      | 0 => simp at ha hb; subst ha; subst hb; exact hv
                      | 1 => simp at ha hb; subst ha; subst hb; exact .int _ _
                      | i + 2 => simp at ha
                · cases e
              · cases e
            · rename_i z0 z hck hfk hz
              cases e
              obtain ⟨r', h1, h2⟩ := findKey_sound (w := w) hEL hfk
              match r', h2 with
              | none, _ =>
                unfold zeroOf at hz
                cases hie : E.ty.get et with
                | none => rw [hie] at hz; cases hz
                | some ie =>
                  rw [hie] at hz
                  cases hz
                  have hzv := flat_VR ρ (K.ty et ie hie).2.1
                  obtain ⟨hs, A⟩ := setObj_sound (E := E) R hg hρ ho (by intro a e f; simp) (OR.map (ρ := ρ) (N := N) (es := es ++ [{ key := k', val := ie.zero, born := clock }]) (fs := fs.push { key := k', val := ie.zero, born := clock }) (clock := clock + 1) (by simp [hl]) (fun j a b ha hb => by
                    rw [List.getElem?_append] at ha
                    rw [Array.getElem?_push] at hb
                    by_cases hj : j < es.length
                    · rw [if_pos hj] at ha
                      rw [if_neg (by omega)] at hb
                      exact he j a b ha hb
                    · rw [if_neg hj] at ha
                      have hj0 : j - es.length = 0 := by
                        have := (List.getElem?_eq_some_iff.1 ha).1
                        simp at this
                        omega
                      rw [hj0] at ha
                      rw [if_pos (by omega)] at hb
                      simp at ha hb
                      subst ha
                      subst hb
                      exact ⟨rfl, hkf, hzv, rfl⟩))
                  refine ⟨_, .tuple #[ie.zero, .int .i64 clock], _, rfl, ?_, .tuple rfl (fun i a b ha hb => ?_), A⟩
                  · unfold Instr.mapEntry
                    simp only [Sem.run_bind, run_und K ht, hdesc, Result.andThen_ok, hget, runP_run E.P _ hck w, h1, run_zero K hie, hs, Sem.run_pure]
                    rfl
                  · match i with
                    | 0 => simp at ha hb; subst ha; subst hb; exact hzv
                    | 1 => simp at ha hb; subst ha; subst hb; exact .int _ _
                    | i + 2 => simp at ha
            · cases e
      · cases hma
    · cases hma
  · cases e

theorem entryStoreA_sound (R : Rel ρ h w) {t : TypeId} {m m' s s' x x' : Value} {r : Option Value} (hm : VR ρ m m') (hst : VR ρ s s') (hx : VR ρ x x')
    (e : entryStoreA h (mapA h (some m)) (some s) (some x) = some (r, h')) : r = none ∧ ∃ w', (Instr.entryStore t m' s' x').run E.P w = .ok () w' ∧ Adv ρ ρ h h' w w' := by
  unfold entryStoreA at e
  split at e
  · rename_i b es clock bb x0 hma hb hx0
    cases hx0
    cases hst <;> simp [intV] at hb
    subst hb
    unfold mapA at hma
    split at hma
    · rename_i b0 hm0
      cases hm0
      split at hma
      · rename_i es0 cl hg
        cases hma
        cases hm with
        | map hρ =>
          rename_i c N
          obtain ⟨o', ho, hor⟩ := R.obj _ _ hg c N hρ
          cases hor with
          | map hl he =>
            rename_i fs
            have hEL : EL ρ es fs.toList := ⟨by simpa using hl, fun i a b ha hb => he i a b ha (by simpa using hb)⟩
            have hget : (getObj c).run E.P w = .ok (.map fs clock) w := by simp [getObj, Sem.run, ho]
            split at e
            · rename_i i0 hi
              cases e
              have hfi := hi
              rw [← findIdx_sound hEL, ← List.findIdx?_toArray, Array.toArray_toList] at hfi
              obtain ⟨hs, A⟩ := setObj_sound (E := E) R hg hρ ho (by intro a e f; simp) (OR.map (ρ := ρ) (N := N) (es := es.modify i0 fun e => { e with val := x }) (fs := fs.modify i0 fun e => { e with val := x' }) (clock := clock) (by simp [hl]) (fun j a b ha hb => by
                rw [List.getElem?_modify] at ha
                rw [Array.getElem?_modify] at hb
                by_cases hji : i0 = j
                · subst hji
                  rw [if_pos rfl] at hb
                  cases hea : es[i0]? with
                  | none => rw [hea] at ha; simp at ha
                  | some ea =>
                    cases heb : fs[i0]? with
                    | none => rw [heb] at hb; simp at hb
                    | some eb =>
                      rw [hea] at ha
                      rw [heb] at hb
                      simp at ha hb
                      subst ha
                      subst hb
                      have := he i0 ea eb hea heb
                      exact ⟨this.key, this.flat, hx, this.born⟩
                · rw [if_neg hji] at hb
                  simp [hji] at ha
                  exact he j a b ha hb))
              refine ⟨rfl, _, ?_, A⟩
              unfold Instr.entryStore
              simp only [Sem.run_bind, hget, Result.andThen_ok, asInt, asIntOf, Sem.run_pure, hfi]
              exact hs
            · cases e
      · cases hma
    · cases hma
  · cases e
end Go.Proofs.YtlkhpgocbojdgaaGreatDoor.Ai
/-
  EACH OPERATION OF THE EVALUATOR IS ONE OF THE MACHINE's, part 7: all of them in one.
-/
namespace Go.Proofs.YtlkhpgocbojdgaaGreatDoor.Ai
open Go
set_option linter.unusedSimpArgs false
set_option linter.unusedVariables false
variable {E : Env} {ρ : Ren} {h h' : AHeap} {w : World}

/-- What an operation leaves, as the machine says it. -/
def NR (ρ : Ren) : Option Value → Next → Prop
  | some v, n => ∃ v', n = .value v' ∧ VR ρ v v'
  | none, n => n = .skip

def OpOk (E : Env) (ρ : Ren) (h h' : AHeap) (w : World) (s : Sem Next) (r : Option Value) : Prop :=
  ∃ ρ' n w', s.run E.P w = .ok n w' ∧ NR ρ' r n ∧ Adv ρ ρ' h h' w w'

theorem OpOk.v {s : Sem Value} {v : Value} (a : VOk E ρ h h' w s v) : OpOk E ρ h h' w (do pure (.value (← s))) (some v) := by
  obtain ⟨ρ', v', w', e, r, A⟩ := a
  exact ⟨ρ', .value v', w', by simp only [Sem.run_bind, e, Result.andThen_ok, Sem.run_pure], ⟨v', rfl, r⟩, A⟩

theorem OpOk.ex {s : Sem Value} {r : Option Value} (a : ∃ v, r = some v ∧ VOk E ρ h h' w s v) : OpOk E ρ h h' w (do pure (.value (← s))) r := by
  obtain ⟨v, rfl, a⟩ := a
  exact .v a

theorem OpOk.same (R : Rel ρ h w) {s : Sem Value} {r : Option Value} (a : h' = h ∧ ∃ v v', r = some v ∧ s.run E.P w = .ok v' w ∧ VR ρ v v') : OpOk E ρ h h' w (do pure (.value (← s))) r := by
  obtain ⟨rfl, v, v', rfl, e, r⟩ := a
  exact .v (VOk.same R e r)

theorem OpOk.u {s : Sem Unit} {r : Option Value} (a : r = none ∧ ∃ w', s.run E.P w = .ok () w' ∧ Adv ρ ρ h h' w w') : OpOk E ρ h h' w (do s; pure .skip) r := by
  obtain ⟨rfl, w', e, A⟩ := a
  exact ⟨ρ, .skip, w', by simp only [Sem.run_bind, e, Result.andThen_ok, Sem.run_pure], rfl, A⟩

theorem optO_sound {s : T Value} {a : Act} (hT : TR ρ s a.tmps) {x : Option Operand} {q : Option Value} (e : optO s x = some q) :
    (∀ v, q = some v → ∃ v', x.map a.eval = some v' ∧ VR ρ v v') ∧ (q = none → x.map a.eval = none) := by
  unfold optO at e
  split at e
  · cases e
    exact ⟨fun v hv => (by cases hv), fun _ => rfl⟩
  · split at e
    · rename_i v hv
      cases e
      exact ⟨fun u hu => by cases hu; exact ⟨_, rfl, evalO_sound hT hv⟩, fun hu => by cases hu⟩
    · cases e

theorem unBytes_some : ∀ {r : List Value} {l : List UInt8}, unBytes r = some l → r.length = l.length ∧ ∀ (j : Nat) x, l[j]? = some x → r[j]? = some (.int .u8 x.toNat)
  | [], l, h => by cases h; exact ⟨rfl, fun j x h => by simp at h⟩
  | v :: r, l, h => by
    unfold unBytes at h
    split at h
    · rename_i heq; cases heq
    · rename_i n r' heq
      cases heq
      split at h
      · rename_i l' hb hl
        cases h
        obtain ⟨h1, h2⟩ := unBytes_some hl
        refine ⟨by simp [h1], fun j x hx => ?_⟩
        cases j with
        | zero =>
          simp at hx
          subst hx
          have hlt : n < 256 := by simpa [Nat.blt_eq] using hb
          simp [Nat.mod_eq_of_lt hlt]
        | succ j => simpa using h2 j x (by simpa using hx)
      · cases h
    · cases h

theorem builtinA_sound (K : E.Ok) (R : Rel ρ h w) {b : Builtin} {tys : Array TypeId} {ty : TypeId} {cs : Array Bool} {args args' : List Value} {v : Value} (hL : LR ρ args args')
    (e : builtinA E h b tys.toList args = some (v, h')) (hf : Fr ρ h h') : OpOk E ρ h h' w (builtin b tys ty cs ⟨args'⟩) (some v) := by
  obtain ⟨tys⟩ := tys
  dsimp only at e
  unfold builtinA at e
  split at e
  · rename_i t x
    obtain ⟨x', rfl, hx⟩ := hL.one
    obtain ⟨rfl, h1, h2⟩ := lenBA_sound (E := E) (ty := ty) K R hx e
    exact OpOk.v (s := Builtin.len_ #[t] ty #[x']) (VOk.same R h1 h2)
  · split at e
    · rename_i hfl
      have := flats_eq hfl hL
      subst this
      cases hm : okFlat (runP E.P (Builtin.max_ #[] 0 ⟨args'⟩)) with
      | none => rw [hm] at e; cases e
      | some u =>
        rw [hm] at e
        cases e
        obtain ⟨h1, h2⟩ := okFlat_some hm
        exact OpOk.v (s := Builtin.max_ _ ty _) (VOk.same R (runP_run E.P _ h1 w) (flat_VR ρ h2))
    · cases e
  · split at e
    · rename_i hfl
      have := flats_eq hfl hL
      subst this
      cases hm : okFlat (runP E.P (Builtin.min_ #[] 0 ⟨args'⟩)) with
      | none => rw [hm] at e; cases e
      | some u =>
        rw [hm] at e
        cases e
        obtain ⟨h1, h2⟩ := okFlat_some hm
        exact OpOk.v (s := Builtin.min_ _ ty _) (VOk.same R (runP_run E.P _ h1 w) (flat_VR ρ h2))
    · cases e
  · rename_i t u s x
    split at e
    · rename_i elem hel hu
      split at e
      · rename_i i n hi hn
        split at e
        · rename_i news hnews
          split at e
          · rename_i hlen
            obtain ⟨it, ht, hd⟩ := elemD_some hel
            obtain ⟨k, hk, hk'⟩ := isInt_false hu
            have hl := hL.1
            match args', hl with
            | [s', x'], _ =>
              have hs : VR ρ s s' := hL.2 0 _ _ rfl rfl
              have hx : VR ρ x x' := hL.2 1 _ _ rfl rfl
              exact OpOk.v (s := Builtin.append_ #[t, u] ty #[s', x']) (appendA_sound K R ht hd hi hk hk' hs hx hn hnews (Nat.eq_of_beq_eq_true hlen) e hf)
          · cases e
        · cases e
      · cases e
    · cases e
  · -- copy
    rename_i t u base dl cap sb n sc
    split at e
    · rename_i elem hel
      split at e
      · rename_i size hsz
        obtain ⟨it, ht, hd⟩ := elemD_some hel
        obtain ⟨j, hj, hjs⟩ := sizeT_some hsz
        subst hjs
        have hl := hL.1
        match args', hl with
        | [d', x'], _ =>
          have hdd : VR ρ (.slice base dl cap) d' := hL.2 0 _ _ rfl rfl
          have hx : VR ρ (.slice sb n sc) x' := hL.2 1 _ _ rfl rfl
          have hlen := lenA_run (E := E) (w := w) hx (n := n) rfl
          have hsrc := fun {news : List Value} (hs : srcCells h j.size (Nat.min n dl) (.slice sb n sc) = some news) => srcCells_run (E := E) R hx (n := n) rfl (Nat.min_le_left n dl) (fun _ s hs => by cases hs) hs
          have hdst : ∃ base' cap', d' = .slice base' dl cap' := by cases hdd <;> exact ⟨_, _, rfl⟩
          obtain ⟨base', cap', rfl⟩ := hdst
          have hrun : ∀ (news' : List Value) w', (Builtin.firstCells j.size (Nat.min n dl) x').run E.P w = .ok ⟨news'⟩ w → (∀ a, base' = some a → (storeCells a news').run E.P w = .ok () w') → (base' = none → w' = w) →
              (Builtin.copy_ #[t, u] ty #[.slice base' dl cap', x']).run E.P w = .ok (.int .i64 (Nat.min n dl : Nat)) w' := by
            intro news' w' h1 h2 h3
            unfold Builtin.copy_
            simp only [List.getElem?_toArray, List.getElem?_cons_zero, List.getElem?_cons_succ, Sem.run_bind, run_und K ht, hd, Result.andThen_ok, hlen, run_size K hj, h1]
            cases base' with
            | none => rw [h3 rfl]; simp only [Sem.run_pure, Result.andThen_ok, goInt]
            | some a => simp only [Sem.run_bind, h2 a rfl, Result.andThen_ok, Sem.run_pure, goInt]
          cases hs : srcCells h j.size (Nat.min n dl) (.slice sb n sc) with
          | none => rw [hs] at e; cases e
          | some news =>
            rw [hs] at e
            obtain ⟨news', a1, a2, a3⟩ := hsrc hs
            cases hm : Nat.min n dl with
            | zero =>
              rw [hm] at e
              cases e
              have hnil : news' = [] := by
                have : news = [] := by
                  rw [hm] at hs
                  unfold srcCells at hs
                  cases sb <;> (dsimp only at hs; cases hs; rfl)
                have h5 := a2.1
                rw [this] at h5
                exact List.eq_nil_of_length_eq_zero h5.symm
              have := hrun news' w (a1 w rfl) (fun a _ => by rw [hnil]; rfl) (fun _ => rfl)
              rw [hm] at this
              exact OpOk.v (s := Builtin.copy_ #[t, u] ty #[.slice base' dl cap', x']) (VOk.same R this (.int _ _))
            | succ m =>
              rw [hm] at e
              cases base with
              | none => cases e
              | some a =>
                have e2 : (match writeCells h a news with | some h' => some (Value.int .i64 (m + 1 : Nat), h') | none => none) = some (v, h') := e
                split at e2
                · rename_i h2 hw
                  cases e2
                  cases hdd with
                  | slice g1 hρ =>
                    obtain ⟨w', b1, b2⟩ := writeCells_sound (E := E) R hρ a2 hw
                    have := hrun news' w' (a1 w rfl) (fun a ha => by cases ha; exact b1) (fun h => by cases h)
                    rw [hm] at this
                    exact OpOk.v (s := Builtin.copy_ _ ty _) ⟨ρ, _, w', this, .int _ _, b2⟩
                  | sliceUp g1 g2 g3 g4 hρ =>
                    obtain ⟨w', b1, b2⟩ := writeCells_sound (E := E) R hρ a2 hw
                    have := hrun news' w' (a1 w rfl) (fun a ha => by cases ha; exact b1) (fun h => by cases h)
                    rw [hm] at this
                    exact OpOk.v (s := Builtin.copy_ _ ty _) ⟨ρ, _, w', this, .int _ _, b2⟩
                  | sliceG q0 g1 g2 g3 g4 hρ =>
                    obtain ⟨w', b1, b2⟩ := writeCells_sound (E := E) R hρ a2 hw
                    have := hrun news' w' (a1 w rfl) (fun a ha => by cases ha; exact b1) (fun h => by cases h)
                    rw [hm] at this
                    exact OpOk.v (s := Builtin.copy_ _ ty _) ⟨ρ, _, w', this, .int _ _, b2⟩
                  | sliceG0 => have : Nat.min n 0 = 0 := Nat.min_eq_right (Nat.zero_le n)
                               omega
                  | sliceUn => have : Nat.min n 0 = 0 := Nat.min_eq_right (Nat.zero_le n)
                               omega
                · cases e2
      · cases e
    · cases e
  · -- clear
    rename_i t base n cap
    obtain ⟨x', rfl, hx⟩ := hL.one
    cases hel : elemD (E.ty.get t) with
    | none => rw [hel] at e; cases n <;> cases base <;> cases e
    | some elem =>
      rw [hel] at e
      obtain ⟨it, ht, hd⟩ := elemD_some hel
      cases n with
      | zero =>
        cases e
        refine OpOk.v (s := Builtin.clear_ #[t] ty #[x']) (VOk.same R (v' := .tuple #[]) ?_ (flat_VR ρ rfl))
        unfold Builtin.clear_
        cases hx <;> first | (simp [run_und K ht, hd]; done) | (rename_i q z; cases q <;> simp [run_und K ht, hd])
      | succ n =>
        cases base with
        | none => cases e
        | some a =>
          have e2 : (match zeroOf E elem with
            | some z => match writeCells h a (rep z.cells.toList (n + 1)) with
              | some h' => some (Value.tuple #[], h')
              | none => none
            | none => none) = some (v, h') := e
          clear e
          have e := e2
          clear e2
          cases hj : E.ty.get elem with
          | none => simp [zeroOf, hj] at e
          | some j =>
            have hz : zeroOf E elem = some j.zero := by simp [zeroOf, hj]
            rw [hz] at e
            dsimp only at e
            split at e
            · rename_i h2 hw
              cases e
              have hLr : LR ρ (rep j.zero.cells.toList (n + 1)) (rep j.zero.cells.toList (n + 1)) := (flat_LR (K.ty elem j hj).2.1).rep (n + 1)
              have go : ∀ (b c off N : Nat) cap', ρ b = some (c, N) → a = ⟨b, off, none⟩ → x' = .slice (some ⟨c, off, none⟩) (n + 1) cap' → OpOk E ρ h h' w (builtin .clear #[t] ty cs #[x']) (some (.tuple #[])) := by
                intro b c off N cap' hρ ha hx'
                subst hx'
                subst ha
                obtain ⟨w', b1, b2⟩ := writeCells_sound (E := E) R hρ hLr hw
                refine OpOk.v (s := Builtin.clear_ #[t] ty #[_]) ⟨ρ, .tuple #[], w', ?_, flat_VR ρ rfl, b2⟩
                unfold Builtin.clear_
                have hz : Builtin.zeroCells j.zero.cells (n + 1) = ⟨rep j.zero.cells.toList (n + 1)⟩ := rep_range _ _
                simp only [List.getElem?_toArray, List.getElem?_cons_zero, Sem.run_bind, run_und K ht, hd, Result.andThen_ok, run_zero K hj, hz, b1, Sem.run_pure]
              cases hx with
              | slice g1 hρ => exact go _ _ _ _ _ hρ rfl rfl
              | sliceUp g1 g2 g3 g4 hρ => exact go _ _ _ _ _ hρ rfl rfl
              | sliceG q0 g1 g2 g3 g4 hρ => exact go _ _ _ _ _ hρ rfl rfl
            · cases e
  · -- the data of a slice
    rename_i a n cap
    split at e
    · rename_i hb
      cases e
      simp only [Bool.and_eq_true, Nat.blt_eq] at hb
      obtain ⟨hn, hc⟩ := hb
      obtain ⟨x', rfl, hx⟩ := hL.one
      have key : ∀ (a' : Addr) (c' : Nat), x' = .slice (some a') n c' → c' ≠ 0 → VR ρ (.pointer (some a)) (.pointer (some a')) → OpOk E ρ h h w (builtin .unsafeSliceData ⟨tys⟩ ty cs ⟨[x']⟩) (some (.pointer (some a))) := by
        intro a' c' hx' hc' hv
        subst hx'
        exact OpOk.v (s := Builtin.unsafeSliceData_ ⟨tys⟩ ty #[_]) (VOk.same R (Lib.run_unsafeSliceData_row w _ _ _ _ _ hc') hv)
      cases hx with
      | slice g1 hρ =>
        refine key _ _ rfl ?_ (.ptr hρ)
        rintro rfl
        rw [show Nat.mod 0 SL = 0 from Nat.zero_mod _] at hc
        omega
      | sliceUp g1 g2 g3 g4 hρ =>
        rename_i z k cap'
        refine key _ _ rfl ?_ (.ptr hρ)
        have : Nat.mod (upCap z k) SL = k := by
          show (SL * (z + 1) + k) % SL = k
          rw [Nat.mul_add_mod, Nat.mod_eq_of_lt g1]
        omega
      | sliceUn => omega
      | sliceG q0 g1 g2 g3 g4 hρ => exact key _ _ rfl (by omega) (.ptr hρ)
      | sliceG0 => omega
    · cases e
  · -- a string of bytes
    rename_i pt it b n
    split at e
    · rename_i u c el hp hg
      split at e
      · rename_i r0 hb hs hr
        split at e
        · rename_i l hl
          cases e
          simp only [Bool.and_eq_true, Nat.blt_eq] at hb
          obtain ⟨he, hn, hmx⟩ := hb
          have he := Nat.eq_of_beq_eq_true he
          have hmx := Nat.le_of_ble_eq_true hmx
          subst he
          obtain ⟨hc1, _⟩ := cellsOf_size K hs
          have hpu : E.P.underlying pt = some (.pointer el) := by
            unfold ptrD at hp
            split at hp
            · rename_i t z s0 b0 hi
              cases hp
              exact (K.ty pt _ hi).1
            · cases hp
          have hl2 := hL.1
          match args', hl2 with
          | [p', n'], _ =>
            have hpv : VR ρ (.pointer (some ⟨b, 0, none⟩)) p' := hL.2 0 _ _ rfl rfl
            have hnv : VR ρ (.int .i64 (.ofNat n)) n' := hL.2 1 _ _ rfl rfl
            cases hnv
            cases hpv with
            | ptr hρ =>
              rename_i cc N _
              obtain ⟨o', r1, r2⟩ := R.obj _ _ hg cc N hρ
              cases r2 with
              | cells a1 a2 a3 =>
                rename_i csr fz
                obtain ⟨hr1, hr2⟩ := slice?_some hr
                obtain ⟨hu1, hu2⟩ := unBytes_some hl
                have hll : l.length = n := by rw [← hr2, hu1]
                have hcell : ∀ (j : Nat) (x : UInt8), l[j]? = some x → csr[j]? = some (Value.int .u8 x.toNat) := by
                  intro j x hx
                  have hj := (List.getElem?_eq_some_iff.1 hx).1
                  have h1 := hu2 j x hx
                  have h2 : c[j]? = some (Value.int .u8 x.toNat) := by
                    rw [hr1, List.drop_zero, List.getElem?_take, if_pos (by omega)] at h1
                    exact h1
                  obtain ⟨v', q1, q2⟩ := a1 j _ h2
                  cases q2
                  exact q1
                have hsz : l.length ≤ csr.size := by
                  rcases Nat.eq_zero_or_pos l.length with q | q
                  · omega
                  · have := hcell (l.length - 1) _ (List.getElem?_eq_getElem (by omega))
                    have := (Array.getElem?_eq_some_iff.1 this).1
                    omega
                have hsh : w.shape? cc = some (el, csr.size) := by simp [World.shape?, r1]
                have hrun := Lib.run_unsafeString_row (P := E.P) w pt it ty el hpu hc1 cc csr.size hsh l (by rintro rfl; simp at hll; omega) hsz (by omega) (fun j x hx => by
                  have ha : (⟨cc, 0, none⟩ : Addr).add j = ⟨cc, j, none⟩ := by
                    unfold Addr.add
                    by_cases hj : j = 0
                    · subst hj; rfl
                    · simp [hj]
                  rw [ha, Lib.cell_of_heap r1]
                  exact hcell j x hx)
                rw [hll] at hrun
                have hcl := (Array.getElem?_eq_some_iff.1 r1).1
                have hfz : ∃ fz', (w.freeze ⟨cc, 0, none⟩ n).heap[cc]? = some (.cells csr el fz') ∧ (∀ d, d ≠ cc → (w.freeze ⟨cc, 0, none⟩ n).heap[d]? = w.heap[d]?) ∧ (w.freeze ⟨cc, 0, none⟩ n).heap.size = w.heap.size ∧ (w.freeze ⟨cc, 0, none⟩ n).os = w.os ∧ (w.freeze ⟨cc, 0, none⟩ n).tape = w.tape ∧ (w.freeze ⟨cc, 0, none⟩ n).output = w.output := by
                  unfold World.freeze
                  rw [if_neg (by omega)]
                  obtain ⟨f1, f2⟩ := fz
                  refine ⟨if f1 == f2 then (0, 0 + n) else (min f1 0, max f2 (0 + n)), ?_, ?_, ?_, rfl, rfl, rfl⟩
                  · simp only [Array.getElem?_modify, if_pos, r1, Option.map_some]
                  · intro d hd
                    simp only [Array.getElem?_modify]
                    rw [if_neg (Ne.symm hd)]
                  · simp
                obtain ⟨fz', z1, z2, z3, z4, z5, z6⟩ := hfz
                exact OpOk.v (s := Builtin.unsafeString_ #[pt, it] ty #[.pointer (some ⟨cc, 0, none⟩), .int .i64 n]) ⟨ρ, _, _, hrun, .string _, Adv.set R hg rfl hρ _ _ (.ro (fun i v e _ => a1 i v e)) z4 z5 z6 z3 z1 z2⟩
        · cases e
      · cases e
    · cases e
  · cases e

theorem aop_sound (K : E.Ok) (R : Rel ρ h w) {s : T Value} {a : Act} (hT : TR ρ s a.tmps) {o : Oper} {r : Option Value} (e : aop E s h o = some (r, h')) (hf : Fr ρ h h') : OpOk E ρ h h' w (execOp a.eval o) r := by
  obtain ⟨dst, op, ty, ps, af, gd⟩ := o
  have ev := fun {x : Operand} {v : Value} (hx : evalO s x = some v) => evalO_sound hT hx
  have mv : ∀ x, ret h (evalO s x) = some (r, h') → OpOk E ρ h h' w (pure (.value (a.eval x))) r := fun x e => by
    obtain ⟨rfl, v, hv, rfl⟩ := ret_some e
    exact ⟨ρ, _, w, rfl, ⟨_, rfl, ev hv⟩, .refl R⟩
  cases op <;> simp only [aop] at e <;> unfold execOp <;> dsimp only
  case move x => exact mv x e
  case assign x => exact mv x e
  case pick c x y =>
    cases hc : evalO s c with
    | none => rw [hc] at e; cases e
    | some cv =>
      rw [hc] at e
      have hr := ev hc
      generalize hce : a.eval c = c' at hr
      cases hr <;> try (cases e; done)
      rename_i b
      cases b with
      | true =>
        obtain ⟨rfl, v, hv, rfl⟩ := ret_some e
        exact ⟨ρ, .value (a.eval x), w, by simp [hce, asBool], ⟨_, rfl, ev hv⟩, .refl R⟩
      | false =>
        obtain ⟨rfl, v, hv, rfl⟩ := ret_some e
        exact ⟨ρ, .value (a.eval y), w, by simp [hce, asBool], ⟨_, rfl, ev hv⟩, .refl R⟩
  case alloc el =>
    cases hz : E.ty.get el with
    | none => simp [zeroOf, hz, allocA] at e
    | some i =>
      have hz' : zeroOf E el = some i.zero := by simp [zeroOf, hz]
      rw [hz'] at e
      obtain ⟨v, hv, ρ', v', w', h1, h2⟩ := allocA_sound (E := E) R (flat_VR ρ (K.ty el i hz).2.1) e hf
      refine OpOk.ex ⟨v, hv, ρ', v', w', ?_, h2⟩
      unfold Instr.alloc
      simp only [Sem.run_bind, run_zero K hz, Result.andThen_ok]
      exact h1
  case box el x =>
    cases hx : evalO s x with
    | none => rw [hx] at e; cases e
    | some v =>
      rw [hx] at e
      exact OpOk.ex (allocA_sound (E := E) R (ev hx) e hf)
  case build t parts =>
    cases hp : evalParts s parts.toList with
    | none => rw [hp] at e; unfold buildA at e; split at e <;> first | (cases e; done) | (rename_i hh; cases hh)
    | some ps =>
      rw [hp] at e
      have := buildA_sound K R (evalParts_sound hT _ hp) e
      refine OpOk.same R ?_
      have hm : (parts.map fun (i, x) => (i, a.eval x)) = ⟨parts.toList.map fun (i, x) => (i, a.eval x)⟩ := by apply Array.ext'; simp
      rw [hm]
      exact this
  case buildSlice t len parts =>
    cases hp : evalParts s parts.toList with
    | none => rw [hp] at e; unfold buildSliceA at e; split at e <;> first | (cases e; done) | (rename_i hh; cases hh)
    | some ps =>
      rw [hp] at e
      have := buildSliceA_sound K R (evalParts_sound hT _ hp) e hf
      refine OpOk.ex ?_
      have hm : (parts.map fun (i, x) => (i, a.eval x)) = ⟨parts.toList.map fun (i, x) => (i, a.eval x)⟩ := by apply Array.ext'; simp
      rw [hm]
      exact this
  case load t x =>
    cases hx : evalO s x with
    | none => rw [hx] at e; cases e
    | some v =>
      rw [hx] at e
      exact OpOk.same R (loadA_sound K R (ev hx) e)
  case store t x y =>
    cases hx : evalO s x with
    | none => rw [hx] at e; cases e
    | some v =>
      rw [hx] at e
      cases hy : evalO s y with
      | none => rw [hy] at e; unfold storeA at e; split at e <;> first | (cases e; done) | (rename_i hh _; cases hh)
      | some u =>
        rw [hy] at e
        exact OpOk.u (storeA_sound K R (ev hx) (ev hy) e)
  case nilCheck x =>
    cases hx : evalO s x with
    | none => rw [hx] at e; cases e
    | some v =>
      rw [hx] at e
      have hr := ev hx
      unfold nilCheckA at e
      split at e
      · rename_i p hp
        cases hp
        generalize a.eval x = x' at hr
        cases hr
        rename_i hρ
        cases e
        exact ⟨ρ, _, w, rfl, ⟨_, rfl, .ptr hρ⟩, .refl R⟩
      · cases e
  case binOp op t x y b =>
    cases hx : evalO s x with
    | none => rw [hx] at e; cases e
    | some v =>
      rw [hx] at e
      cases hy : evalO s y with
      | none => rw [hy] at e; cases e
      | some u =>
        rw [hy] at e
        obtain ⟨rfl, q, hq, rfl⟩ := ret_some e
        obtain ⟨h1, h2⟩ := binA_sound (w := w) K (ev hx) (ev hy) hq
        exact OpOk.v (VOk.same R h1 h2)
  case unOp op t x =>
    cases hx : evalO s x with
    | none => rw [hx] at e; cases e
    | some v =>
      rw [hx] at e
      obtain ⟨h1, q, h2, h3, h4⟩ := unA_sound (w := w) (ev hx) e
      exact OpOk.same R ⟨h1, q, q, h2, h3, h4⟩
  case convert src dst x =>
    cases hx : evalO s x with
    | none => rw [hx] at e; unfold convA at e; split at e <;> first | (cases e; done) | (rename_i hh _; cases hh)
    | some v =>
      rw [hx] at e
      exact OpOk.ex (convA_sound K R (ev hx) e hf)
  case makeFunc fn first captured =>
    unfold funcA at e
    split at e
    · rename_i f c hf1 hc1
      have h1 := evalL_sound hT _ hf1
      have h2 := evalL_sound hT _ hc1
      split at e
      · cases e
      rename_i hny
      cases e
      refine ⟨ρ, _, w, rfl, ⟨_, rfl, ?_⟩, .refl R⟩
      have m1 : first.map a.eval = ⟨first.toList.map a.eval⟩ := by apply Array.ext'; simp
      have m2 : captured.map a.eval = ⟨captured.toList.map a.eval⟩ := by apply Array.ext'; simp
      rw [m1, m2]
      exact .func (.same hny) h1.1 h1.2 h2.1 h2.2
    · cases e
  case makeMap t q =>
    cases q with
    | some q => cases e
    | none =>
      unfold made at e
      cases e
      exact OpOk.v (made_map R hf)
  case makeSlice t l c =>
    cases hl : evalO s l with
    | none => rw [hl] at e; unfold makeSliceA at e; split at e <;> first | (cases e; done) | (rename_i hh _; cases hh)
    | some lv =>
      rw [hl] at e
      cases hc : evalO s c with
      | none => rw [hc] at e; unfold makeSliceA at e; split at e <;> first | (cases e; done) | (rename_i hh; cases hh)
      | some cv =>
        rw [hc] at e
        exact OpOk.ex (makeSliceA_sound K R (ev hl) (ev hc) e hf)
  case slice t x lo hi mx =>
    cases mx with
    | some q => cases e
    | none =>
      simp only [] at e
      cases ht : E.ty.get t with
      | none => rw [ht] at e; cases e
      | some i =>
        rw [ht] at e
        cases hx : evalO s x with
        | none => rw [hx] at e; cases e
        | some v =>
          rw [hx] at e
          cases h1 : optO s lo with
          | none => rw [h1] at e; cases e
          | some lv =>
            rw [h1] at e
            cases h2 : optO s hi with
            | none => rw [h2] at e; cases e
            | some hv =>
              rw [h2] at e
              obtain ⟨rfl, q, hq, rfl⟩ := ret_some e
              obtain ⟨a1, a2⟩ := optO_sound hT h1
              obtain ⟨b1, b2⟩ := optO_sound hT h2
              obtain ⟨v', c1, c2⟩ := sliceA_sound (w := w) K ht (ev hx) a1 a2 b1 b2 hq
              exact OpOk.v (VOk.same R c1 c2)
  case fieldAddr t x f =>
    cases hx : evalO s x with
    | none => rw [hx] at e; cases e
    | some v =>
      rw [hx] at e
      exact OpOk.same R (fieldAddrA_sound K (ev hx) e)
  case field t x f =>
    cases hx : evalO s x with
    | none => rw [hx] at e; cases e
    | some v =>
      rw [hx] at e
      exact OpOk.same R (fieldA_sound K (ev hx) e)
  case indexAddr t x ix =>
    cases hx : evalO s x with
    | none => rw [hx] at e; unfold indexAddrA at e; split at e <;> first | (cases e; done) | (rename_i hh _; cases hh)
    | some v =>
      rw [hx] at e
      cases hy : evalO s ix with
      | none => rw [hy] at e; unfold indexAddrA at e; split at e <;> first | (cases e; done) | (rename_i hh; cases hh)
      | some u =>
        rw [hy] at e
        exact OpOk.same R (indexAddrA_sound K (ev hx) (ev hy) e)
  case index t x ix =>
    cases hx : evalO s x with
    | none => rw [hx] at e; unfold indexA at e; split at e <;> first | (cases e; done) | (rename_i hh _; cases hh)
    | some v =>
      rw [hx] at e
      cases hy : evalO s ix with
      | none => rw [hy] at e; unfold indexA at e; split at e <;> first | (cases e; done) | (rename_i hh; cases hh)
      | some u =>
        rw [hy] at e
        exact OpOk.same R (indexA_sound K (ev hx) (ev hy) e)
  case makeInterface t x =>
    unfold ifaceA at e
    split at e
    · rename_i v i hx hi
      split at e
      · cases e
      · rename_i hd
        cases e
        refine OpOk.v (VOk.same R (v' := .iface t (a.eval x)) ?_ (.iface (ev hx)))
        unfold Instr.makeInterface
        simp only [Sem.run_bind, run_und K hi, Result.andThen_ok]
        cases hk : i.desc <;> first | rfl | exact absurd hk (hd _)
    · cases e
  case extract x i =>
    unfold extractA at e
    split at e
    · rename_i vs hx
      obtain ⟨rfl, q, hq, rfl⟩ := ret_some e
      have hr := ev hx
      generalize a.eval x = x' at hr
      cases hr with
      | tuple h1 h2 =>
        rename_i xs ys
        obtain ⟨v', hv, hr⟩ := LR.get ⟨h1, h2⟩ hq
        refine OpOk.v (VOk.same R (v' := v') ?_ hr)
        unfold Instr.extract
        simp only [List.getElem?_toArray, hv]
        rfl
    · cases e
  case lookup t x ix ok =>
    cases hx : evalO s x with
    | none => rw [hx] at e; unfold lookupA entriesA at e; split at e <;> first | (cases e; done) | (rename_i hh _; cases hh)
    | some v =>
      rw [hx] at e
      cases hy : evalO s ix with
      | none => rw [hy] at e; unfold lookupA flatKey at e; split at e <;> first | (cases e; done) | (rename_i hh; cases hh)
      | some u =>
        rw [hy] at e
        exact OpOk.same R (lookupA_sound K R (ev hx) (ev hy) e)
  case mapUpdate t m k x =>
    cases hm : evalO s m with
    | none => rw [hm] at e; unfold mapUpdateA mapA at e; split at e <;> first | (cases e; done) | (rename_i hh _ _; cases hh)
    | some v =>
      rw [hm] at e
      cases hk : evalO s k with
      | none => rw [hk] at e; unfold mapUpdateA flatKey at e; split at e <;> first | (cases e; done) | (rename_i hh _; cases hh)
      | some u =>
        rw [hk] at e
        cases hx : evalO s x with
        | none => rw [hx] at e; unfold mapUpdateA at e; split at e <;> first | (cases e; done) | (rename_i hh; cases hh)
        | some y =>
          rw [hx] at e
          exact OpOk.u (mapUpdateA_sound K R (ev hm) (ev hk) (ev hx) e)
  case range t x =>
    cases hx : evalO s x with
    | none => rw [hx] at e; unfold rangeA at e; split at e <;> first | (cases e; done) | (rename_i hh; cases hh)
    | some v =>
      rw [hx] at e
      exact OpOk.ex (rangeA_sound R K (ev hx) e hf)
  case entry x =>
    cases hx : evalO s x with
    | none => rw [hx] at e; cases e
    | some v =>
      rw [hx] at e
      exact OpOk.same R (entryA_sound R (ev hx) e)
  case mapEntry t m k =>
    cases hm : evalO s m with
    | none => rw [hm] at e; unfold mapEntryA mapA at e; split at e <;> first | (cases e; done) | (rename_i hh _; cases hh)
    | some v =>
      rw [hm] at e
      cases hk : evalO s k with
      | none => rw [hk] at e; unfold mapEntryA flatKey at e; split at e <;> first | (cases e; done) | (rename_i hh; cases hh)
      | some u =>
        rw [hk] at e
        obtain ⟨v1, v', w', h1, h2, h3, h4⟩ := mapEntryA_sound K R (ev hm) (ev hk) e
        exact OpOk.ex ⟨v1, h1, ρ, v', w', h2, h3, h4⟩
  case entryStore t m st x =>
    cases hm : evalO s m with
    | none => rw [hm] at e; unfold entryStoreA mapA at e; split at e <;> first | (cases e; done) | (rename_i hh _ _; cases hh)
    | some v =>
      rw [hm] at e
      cases hk : evalO s st with
      | none => rw [hk] at e; unfold entryStoreA at e; split at e <;> first | (cases e; done) | (rename_i hh _; cases hh)
      | some u =>
        rw [hk] at e
        cases hx : evalO s x with
        | none => rw [hx] at e; unfold entryStoreA at e; split at e <;> first | (cases e; done) | (rename_i hh; cases hh)
        | some y =>
          rw [hx] at e
          exact OpOk.u (entryStoreA_sound R (ev hm) (ev hk) (ev hx) e)
  case next x b =>
    cases b with
    | false => cases e
    | true =>
      simp only [] at e
      cases hx : evalO s x with
      | none => rw [hx] at e; cases e
      | some v =>
        rw [hx] at e
        exact OpOk.ex (nextA_sound R (ev hx) e)
  all_goals (cases e; done)
end Go.Proofs.YtlkhpgocbojdgaaGreatDoor.Ai

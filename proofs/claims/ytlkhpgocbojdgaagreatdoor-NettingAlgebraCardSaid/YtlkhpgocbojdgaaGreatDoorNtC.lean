/-
  CONTRACTS: the check of a bar, in the program and in its reference; rows of bars.
-/
import Derived.Test.YtlkhpgocbojdgaaGreatDoorNtB
namespace Go.Proofs.YtlkhpgocbojdgaaGreatDoor.Ai
open Go
set_option linter.unusedSimpArgs false
set_option linter.unusedVariables false

theorem barE_in {x y s : Int} (h : knotE x y = 0) : barE x y s = if s = 1 ∨ s = -1 then firstE [withinE (x + s) (-100000) 100000, withinE (y + 1) (-100000) 100000] else 13 := by unfold barE reachE; rw [if_pos h]
theorem barE_out {x y s : Int} (h : ¬ knotE x y = 0) : barE x y s = knotE x y := by unfold barE; rw [if_neg h]
theorem barE_up {x y s : Int} (h : knotE x y = 0) (hs : s = 1 ∨ s = -1) : barE x y s = knotE (x + s) (y + 1) := by
  rw [barE_in h, if_pos hs]
  show reachE _ _ = _
  rw [reachE_eq]
  have hk := knotE_zero h
  unfold knotE
  by_cases q : x + s < -100000 ∨ 100000 < x + s ∨ y + 1 < -100000 ∨ 100000 < y + 1
  · rw [if_pos q, if_pos q]
  · rw [if_neg q, if_neg q, if_pos (by omega)]

/-! ### Rows of bars -/
def B3.cells (b : B3) : List Value := [.int .i64 b.x, .int .i64 b.y, .int .i64 b.s]
def barCells : List B3 → List Value
  | [] => []
  | b :: l => .int .i64 b.x :: .int .i64 b.y :: .int .i64 b.s :: barCells l
def unBars : List Value → Option (List B3)
  | [] => some []
  | .int .i64 x :: .int .i64 y :: .int .i64 s :: r => match unBars r with
    | some l => some (⟨x, y, s⟩ :: l)
    | none => none
  | _ => none
theorem unBars_of : ∀ (l : List B3), unBars (barCells l) = some l
  | [] => rfl
  | b :: l => by
    show (match unBars (barCells l) with | some r => some (⟨b.x, b.y, b.s⟩ :: r) | none => none) = some (b :: l)
    rw [unBars_of l]
theorem unBars_some : ∀ (l : List B3) (c : List Value), unBars c = some l → c = barCells l
  | l, [], h => by cases h; rfl
  | l, [v], h => by simp [unBars] at h
  | l, [v, u], h => by simp [unBars] at h
  | l, v :: u :: w :: r, h => by
    unfold unBars at h
    split at h
    · rename_i heq; cases heq
    · rename_i heq
      cases heq
      split at h
      · rename_i l' hl
        cases h
        rw [unBars_some l' _ hl]
        rfl
      · cases h
    · cases h
theorem barCells_length : ∀ (l : List B3), (barCells l).length = l.length * 3
  | [] => rfl
  | b :: l => by simp [barCells, barCells_length l]; omega
theorem barCells_append : ∀ (a b : List B3), barCells (a ++ b) = barCells a ++ barCells b
  | [], b => rfl
  | x :: a, b => by simp [barCells, barCells_append a b]
theorem barCells_flat : ∀ (l : List B3), (barCells l).all flatCell = true
  | [] => rfl
  | b :: l => by simp [barCells, flatCell]; exact List.all_eq_true.1 (barCells_flat l)
theorem barCells_one : ∀ (l : List B3), (barCells l).all (·.oneCell') = true
  | [] => rfl
  | b :: l => by simp [barCells, Value.oneCell']; exact List.all_eq_true.1 (barCells_one l)
theorem barCells_drop : ∀ (l : List B3) (k : Nat), (barCells l).drop (k * 3) = barCells (l.drop k)
  | l, 0 => by simp
  | [], k + 1 => by simp [barCells]
  | b :: l, k + 1 => by
    rw [show (k + 1) * 3 = k * 3 + 3 by omega]
    simp only [barCells, List.drop_succ_cons]
    exact barCells_drop l k
theorem barCells_take : ∀ (l : List B3) (k : Nat), (barCells l).take (k * 3) = barCells (l.take k)
  | l, 0 => by simp [barCells]
  | [], k + 1 => by simp [barCells]
  | b :: l, k + 1 => by
    rw [show (k + 1) * 3 = k * 3 + 3 by omega]
    simp only [barCells, List.take_succ_cons, barCells_take l k]
/-- Reading one bar of a row. -/
theorem rd_bar {c : List Value} {off : Nat} {l : List B3} {k : Nat} {b : B3} (h : slice? c off (l.length * 3) = some (barCells l)) (hb : l[k]? = some b) : slice? c (off + k * 3) 3 = some [.int .i64 b.x, .int .i64 b.y, .int .i64 b.s] := by
  obtain ⟨hk, e⟩ := List.getElem?_eq_some_iff.1 hb
  rw [slice_get h (k * 3) 3 (by omega), barCells_drop, List.drop_eq_getElem_cons hk, e]
  rfl

/-- A net that came in. -/
def netArg (F : List B3 → Value) (ts : List Value) (cs : List (List Value)) : Option (Value × List Row) :=
  match ts, cs with
  | [.slice (some ⟨0, off, none⟩) n _], [c] => match slice? c off (n * 3), Nat.blt n 1099511627776 with
    | some r, true => match unBars r with
      | some l => some (F l, [])
      | none => none
    | _, _ => none
  | _, _ => none
theorem netArg_some {F : List B3 → Value} {ts : List Value} {cs : List (List Value)} {v : Value} {rows : List Row} (h : netArg F ts cs = some (v, rows)) :
    ∃ off cap c l, ts = [sv 0 off l.length cap] ∧ cs = [c] ∧ slice? c off (l.length * 3) = some (barCells l) ∧ l.length < 1099511627776 ∧ v = F l ∧ rows = [] := by
  unfold netArg at h
  split at h
  · rename_i off n cap c
    split at h
    · rename_i r hs hb
      split at h
      · rename_i l hl
        cases h
        have e := unBars_some _ _ hl
        subst e
        have hn := (slice?_some hs).2
        rw [barCells_length] at hn
        have : n = l.length := by omega
        subst this
        exact ⟨off, cap, c, l, rfl, rfl, hs, by simpa [Nat.blt_eq] using hb, rfl, rfl⟩
      · cases h
    · cases h
  · cases h

noncomputable def gBar := gen [.fl] (bar1 fun b => iv (barE b.x b.y b.s))
theorem c65 : IntrOk E0 65 gBar := by
  refine gen0 K2 rfl (fn := Tryz.f65) (by kernel_rfl) ?_
  intro ts cs v rows hf h
  unfold bar1 at h
  split at h
  · rename_i x y s
    cases h
    have f0 : firstE [knotE x y, 0] = knotE x y := by rw [first2]; split <;> simp [*]
    have f13 : knotE x y = 0 → firstE [knotE x y, 13] = 13 := fun h => by rw [first2, if_pos h]
    have f14 : ¬ knotE x y = 0 → firstE [knotE x y, 13] = knotE x y := fun h => by rw [first2, if_neg h]
    by_cases hk : knotE x y = 0
    · obtain ⟨h1, h2, h3, h4, h5⟩ := knotE_zero hk
      have f13 := f13 hk
      by_cases b0 : ¬s = -1
      · by_cases b1 : ¬s = 1
        · exact (Shows.ret (v := (.int .i64 (firstE [knotE x y, 13]))) [(2, (.int .i64 (firstE [knotE x y, 13])))] rfl (path_pf K2 rfl (finC 0 [] [2]) [.go 4, .ov (Fa.ine1 .i64 s (-1) (by omega)), .go 4, .ov (Fa.ine1 .i64 s 1 (by omega)), .go 3, .ov (Fa.ine1 .i64 (firstE [knotE x y, 13]) 0 (by omega)), .go 1] (by kernel_rfl)) (by kernel_rfl) noRow).cast (by dsimp only; congr 1; rw [barE_in hk]; first | (rw [if_neg (by omega), f13]) | (rw [if_pos (by omega)]))
        · exact (Shows.ret (v := (.int .i64 (firstE [withinE (x + s) (-100000) 100000, withinE (y + 1) (-100000) 100000]))) [(2, (.int .i64 (firstE [withinE (x + s) (-100000) 100000, withinE (y + 1) (-100000) 100000])))] rfl (path_pf K2 rfl (finC 0 [] [2]) [.go 4, .ov (Fa.ine1 .i64 s (-1) (by omega)), .go 4, .ov (Fa.ine0 .i64 s 1 (by omega)), .go 3, .ov (Fa.ine0 .i64 (firstE [knotE x y, 0]) 0 (by omega)), .go 6, .ov (Fa.iadd x s (by omega) (by omega)), .go 1, .ov (Fa.iadd y 1 (by omega) (by omega)), .go 9] (by kernel_rfl)) (by kernel_rfl) noRow).cast (by dsimp only; congr 1; rw [barE_in hk]; first | (rw [if_neg (by omega), f13]) | (rw [if_pos (by omega)]))
      · exact (Shows.ret (v := (.int .i64 (firstE [withinE (x + s) (-100000) 100000, withinE (y + 1) (-100000) 100000]))) [(2, (.int .i64 (firstE [withinE (x + s) (-100000) 100000, withinE (y + 1) (-100000) 100000])))] rfl (path_pf K2 rfl (finC 0 [] [2]) [.go 4, .ov (Fa.ine0 .i64 s (-1) (by omega)), .go 6, .ov (Fa.ine0 .i64 (firstE [knotE x y, 0]) 0 (by omega)), .go 6, .ov (Fa.iadd x s (by omega) (by omega)), .go 1, .ov (Fa.iadd y 1 (by omega) (by omega)), .go 9] (by kernel_rfl)) (by kernel_rfl) noRow).cast (by dsimp only; congr 1; rw [barE_in hk]; first | (rw [if_neg (by omega), f13]) | (rw [if_pos (by omega)]))
    · have f13 := f14 hk
      by_cases b0 : ¬s = -1
      · by_cases b1 : ¬s = 1
        · exact (Shows.ret (v := (.int .i64 (firstE [knotE x y, 13]))) [(2, (.int .i64 (firstE [knotE x y, 13])))] rfl (path_pf K2 rfl (finC 0 [] [2]) [.go 4, .ov (Fa.ine1 .i64 s (-1) (by omega)), .go 4, .ov (Fa.ine1 .i64 s 1 (by omega)), .go 3, .ov (Fa.ine1 .i64 (firstE [knotE x y, 13]) 0 (by omega)), .go 1] (by kernel_rfl)) (by kernel_rfl) noRow).cast (by dsimp only; congr 1; rw [barE_out hk]; omega)
        · exact (Shows.ret (v := (.int .i64 (firstE [knotE x y, 0]))) [(2, (.int .i64 (firstE [knotE x y, 0])))] rfl (path_pf K2 rfl (finC 0 [] [2]) [.go 4, .ov (Fa.ine1 .i64 s (-1) (by omega)), .go 4, .ov (Fa.ine0 .i64 s 1 (by omega)), .go 3, .ov (Fa.ine1 .i64 (firstE [knotE x y, 0]) 0 (by omega)), .go 1] (by kernel_rfl)) (by kernel_rfl) noRow).cast (by dsimp only; congr 1; rw [barE_out hk]; omega)
      · exact (Shows.ret (v := (.int .i64 (firstE [knotE x y, 0]))) [(2, (.int .i64 (firstE [knotE x y, 0])))] rfl (path_pf K2 rfl (finC 0 [] [2]) [.go 4, .ov (Fa.ine0 .i64 s (-1) (by omega)), .go 6, .ov (Fa.ine1 .i64 (firstE [knotE x y, 0]) 0 (by omega)), .go 1] (by kernel_rfl)) (by kernel_rfl) noRow).cast (by dsimp only; congr 1; rw [barE_out hk]; omega)
  · cases h
theorem c63 : IntrOk E0 63 gBar := by
  refine gen0 K2 rfl (fn := Tryz.f63) (by kernel_rfl) ?_
  intro ts cs v rows hf h
  unfold bar1 at h
  split at h
  · rename_i x y s
    cases h
    by_cases hk : knotE x y = 0
    · obtain ⟨h1, h2, h3, h4, h5⟩ := knotE_zero hk
      by_cases b0 : ¬s = 1
      · by_cases b1 : ¬s = -1
        · exact (Shows.ret (v := (.int .i64 13)) [(2, (.int .i64 13))] rfl (path_pf K2 rfl (finC 0 [] [2]) [.go 5, .ov (Fa.ieq1 .i64 (knotE x y) 0 (by omega)), .go 4, .ov (Fa.ine1 .i64 s 1 (by omega)), .go 5, .ov (Fa.ine1 .i64 s (-1) (by omega)), .go 4] (by kernel_rfl)) (by kernel_rfl) noRow).cast (by dsimp only; congr 1; first | (rw [barE_up hk (by omega)]) | (rw [barE_in hk, if_neg (by omega)]))
        · exact (Shows.ret (v := (.int .i64 (knotE (x + s) (y + 1)))) [(2, (.int .i64 (knotE (x + s) (y + 1))))] rfl (path_pf K2 rfl (finC 0 [] [2]) [.go 5, .ov (Fa.ieq1 .i64 (knotE x y) 0 (by omega)), .go 4, .ov (Fa.ine1 .i64 s 1 (by omega)), .go 5, .ov (Fa.ine0 .i64 s (-1) (by omega)), .go 2, .ov (Fa.ieq1 .i64 (knotE x y) 0 (by omega)), .go 4, .ov (Fa.iadd x s (by omega) (by omega)), .go 1, .ov (Fa.iadd y 1 (by omega) (by omega)), .go 2] (by kernel_rfl)) (by kernel_rfl) noRow).cast (by dsimp only; congr 1; first | (rw [barE_up hk (by omega)]) | (rw [barE_in hk, if_neg (by omega)]))
      · exact (Shows.ret (v := (.int .i64 (knotE (x + s) (y + 1)))) [(2, (.int .i64 (knotE (x + s) (y + 1))))] rfl (path_pf K2 rfl (finC 0 [] [2]) [.go 5, .ov (Fa.ieq1 .i64 (knotE x y) 0 (by omega)), .go 4, .ov (Fa.ine0 .i64 s 1 (by omega)), .go 6, .ov (Fa.ieq1 .i64 (knotE x y) 0 (by omega)), .go 4, .ov (Fa.iadd x s (by omega) (by omega)), .go 1, .ov (Fa.iadd y 1 (by omega) (by omega)), .go 2] (by kernel_rfl)) (by kernel_rfl) noRow).cast (by dsimp only; congr 1; first | (rw [barE_up hk (by omega)]) | (rw [barE_in hk, if_neg (by omega)]))
    · skip
      exact (Shows.ret (v := (.int .i64 (knotE x y))) [(2, (.int .i64 (knotE x y)))] rfl (path_pf K2 rfl (finC 0 [] [2]) [.go 5, .ov (Fa.ieq0 .i64 (knotE x y) 0 (by omega)), .go 9, .ov (Fa.ieq0 .i64 (knotE x y) 0 (by omega)), .go 1] (by kernel_rfl)) (by kernel_rfl) noRow).cast (by dsimp only; congr 1; rw [barE_out hk])
  · cases h

noncomputable def t3 : T (List Value → AHeap → Option (Value × AHeap)) := (t2.put 65 gBar).put 63 gBar
theorem t3_ok : T.All (fun f g => IntrOk E0 f g) t3 (fun j => j) := allT_put (allT_put t2_ok c65) c63
noncomputable def E3 : Env := { P := Tryz.prog, fn := fnTab, ty := tyTab, intr := t3 }
theorem K3 : E3.Runs := runs_intr fnAll tyAll mixed t3_ok
end Go.Proofs.YtlkhpgocbojdgaaGreatDoor.Ai

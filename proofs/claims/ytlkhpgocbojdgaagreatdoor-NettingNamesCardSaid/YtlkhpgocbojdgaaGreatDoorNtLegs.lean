/-
  CONTRACTS: the degree of a knot; how many knots have each degree.
-/
import Derived.Test.YtlkhpgocbojdgaaGreatDoorNtDeg
import Derived.Test.YtlkhpgocbojdgaaGreatDoorAiCon
namespace Go.Proofs.YtlkhpgocbojdgaaGreatDoor.Ai
open Go
set_option linter.unusedSimpArgs false
set_option linter.unusedVariables false

/-- A call on a row that is only known as a net. -/
theorem resolve_ro {c : List Value} {off n cap : Nat} {h : AHeap} (hf : c.all flatCell = true) {b : Nat} (hg : h.get b = some (.ro c)) : resolve h [.sl] 0 [.slice (some ⟨b, off, none⟩) n cap] = some ([sv 0 off n cap], [(some b, c)]) := by
  simp only [resolve, slArg, hg, hf]
theorem net_ans {c : List Value} {l : List B3} {off cap b : Nat} (hc : slice? c off (l.length * 3) = some (barCells l)) (hn : l.length < 1099511627776) (hf : c.all flatCell = true) (h : AHeap) (hg : h.get b = some (.ro c)) :
    gNet [.slice (some ⟨b, off, none⟩) l.length cap] h = some (iv (netE l), h) := by
  have hb : Nat.blt l.length 1099511627776 = true := by simpa [Nat.blt_eq] using hn
  simp only [gNet, gen, resolve_ro hf hg, netArg, List.map, hc, hb, unBars_of, ren2, ren1, ren0, mapO, allocs]
theorem deg_ans {c : List Value} {l : List B3} {off cap b : Nat} (hc : slice? c off (l.length * 3) = some (barCells l)) (hn : l.length < 1099511627776) (hf : c.all flatCell = true) (hm : midB l = true) (h : AHeap) (hg : h.get b = some (.ro c)) :
    gDeg [.slice (some ⟨b, off, none⟩) l.length cap] h = some (.map (some h.next), h.alloc (.map (entsK 0 (degM [] l)) (degM [] l).length)) := by
  have hb : Nat.blt l.length 1099511627776 = true := by simpa [Nat.blt_eq] using hn
  have hs : shift 1 h.next 1 = some h.next := by unfold shift; simp [Nat.blt]
  simp only [gDeg, gen, resolve_ro hf hg, netArgO, List.map, hc, hb, unBars_of, fDeg, hm, List.length_cons, List.length_nil, Nat.zero_add, ren2, ren1, ren0, hs, mapO, renRow, allocs]
def netKnot (F : List B3 → Int → Int → Option (Value × List Row)) (ts : List Value) (cs : List (List Value)) : Option (Value × List Row) :=
  match ts, cs with
  | [.slice (some ⟨0, off, none⟩) n _, .agg ⟨[.int .i64 x, .int .i64 y]⟩], [c] => match slice? c off (n * 3), Nat.blt n 1099511627776 with
    | some r, true => match unBars r with
      | some l => F l x y
      | none => none
    | _, _ => none
  | _, _ => none
theorem netKnot_some {F : List B3 → Int → Int → Option (Value × List Row)} {ts : List Value} {cs : List (List Value)} {v : Value} {rows : List Row} (h : netKnot F ts cs = some (v, rows)) :
    ∃ off cap c l x y, ts = [sv 0 off l.length cap, kn x y] ∧ cs = [c] ∧ slice? c off (l.length * 3) = some (barCells l) ∧ l.length < 1099511627776 ∧ F l x y = some (v, rows) := by
  unfold netKnot at h
  split at h
  · rename_i off n cap x y c
    split at h
    · rename_i r hs hb
      split at h
      · rename_i l hl
        have e := unBars_some _ _ hl
        subst e
        have hn := (slice?_some hs).2
        rw [barCells_length] at hn
        have : n = l.length := by omega
        subst this
        exact ⟨off, cap, c, l, x, y, rfl, rfl, hs, by simpa [Nat.blt_eq] using hb, h⟩
      · cases h
    · cases h
  · cases h
theorem z5 : zeroOf E5 3 = some (iv 0) := by kernel_rfl
/-- Degree. -/
def degR (l : List B3) (x y : Int) : Value := if netE l = 0 then (if knotE x y = 0 then .tuple #[iv (getK (degM [] l) (x, y)), iv 0] else .tuple #[iv 0, iv (knotE x y)]) else .tuple #[iv 0, iv (netE l)]
def fDegree (l : List B3) (x y : Int) : Option (Value × List Row) := match midB l with
  | true => some (degR l x y, [])
  | false => none
/-- How often a number is in a list. -/
def cntZ : List Int → Int → Int
  | [], _ => 0
  | a :: r, d => (if a = d then 1 else 0) + cntZ r d
def valsAt (m : DM) : List Nat → List Int
  | [] => []
  | i :: r => match m[i]? with
    | some p => p.2 :: valsAt m r
    | none => valsAt m r
theorem cntZ_append (a b : List Int) (d : Int) : cntZ (a ++ b) d = cntZ a d + cntZ b d := by
  induction a with
  | nil => simp [cntZ]
  | cons x a ih => simp only [List.cons_append, cntZ, ih]; omega
theorem valsAt_append (m : DM) (a b : List Nat) : valsAt m (a ++ b) = valsAt m a ++ valsAt m b := by
  induction a with
  | nil => rfl
  | cons x a ih =>
    simp only [List.cons_append, valsAt, ih]
    split <;> rfl
theorem cntZ_perm {a b : List Int} (h : a.Perm b) (d : Int) : cntZ a d = cntZ b d := by
  induction h with
  | nil => rfl
  | cons x _ ih => simp only [cntZ, ih]
  | swap x y l => simp only [cntZ]; omega
  | trans _ _ i1 i2 => rw [i1, i2]
theorem valsAt_perm (m : DM) {a b : List Nat} (h : a.Perm b) : (valsAt m a).Perm (valsAt m b) := by
  induction h with
  | nil => exact .nil
  | cons x _ ih => simp only [valsAt]; split; exact ih.cons _; exact ih
  | swap x y l => simp only [valsAt]; split <;> split <;> first | exact .refl _ | exact .swap _ _ _
  | trans _ _ i1 i2 => exact i1.trans i2
theorem valsAt_range (m : DM) : ∀ (d k : Nat), k + d = m.length → valsAt m (List.range' k d) = (m.drop k).map (·.2)
  | 0, k, h => by rw [List.drop_eq_nil_of_le (by omega)]; rfl
  | d + 1, k, h => by
    rw [List.range'_succ]
    have hk : k < m.length := by omega
    rw [List.drop_eq_getElem_cons hk]
    simp only [valsAt, List.getElem?_eq_getElem hk, List.map_cons, valsAt_range m d (k + 1) (by omega)]
theorem valsAt_all (m : DM) : valsAt m (List.range m.length) = m.map (·.2) := by
  rw [List.range_eq_range', valsAt_range m m.length 0 (by omega), List.drop_zero]
theorem valsAt_length (m : DM) : ∀ (s : List Nat), (valsAt m s).length ≤ s.length
  | [] => Nat.le_refl _
  | i :: r => by
    have := valsAt_length m r
    simp only [valsAt]
    split <;> simp <;> omega
theorem cntZ_le : ∀ (v : List Int) (d : Int), 0 ≤ cntZ v d ∧ cntZ v d ≤ v.length
  | [], _ => by simp [cntZ]
  | a :: r, d => by
    have := cntZ_le r d
    simp only [cntZ, List.length_cons]
    split <;> omega
theorem touch_le (m : DM) (k : KI) : (touchK m k).length ≤ m.length + 1 := by
  cases h : hasK m k with
  | true => rw [touchK_has h]; omega
  | false => rw [touchK_none h]; simp
theorem degM_le : ∀ (l : List B3) (m : DM), (degM m l).length ≤ m.length + 2 * l.length
  | [], m => by simp [degM]
  | b :: l, m => by
    have := degM_le l (bumpK (bumpK m b.lo) b.up)
    have h1 := bump_length (bumpK m b.lo) b.up
    have h2 := touch_le (bumpK m b.lo) b.up
    have h3 := bump_length m b.lo
    have h4 := touch_le m b.lo
    simp only [degM, List.length_cons]
    omega

def legCells (v : List Int) : List Value := [iv (cntZ v 0), iv (cntZ v 1), iv (cntZ v 2), iv (cntZ v 3), iv (cntZ v 4)]
noncomputable def stL (c : List Value) (m : DM) (cells : List Value) (seen : List Nat) : ASt :=
  { tmps := mkT [(2, ptr 1), (5, ptr 2), (16, ptr 4)] .nil, heap := { m := mkT [(0, .ro c), (1, .cells [iv 0, iv 0, iv 0, iv 0, iv 0] 52), (2, .cells cells 52), (3, .map (entsK 0 m) m.length), (4, .mapIter (some 3) m.length seen m.length)] .nil, next := 5, low := 1 }, marks := [] }
def spL : Can := { next := 5, blocks := [(0, .flat 0), (1, .flat 1), (2, .flat 2), (3, .flat 3), (4, .old 4)], tmps := [(2, .same), (5, .same), (16, .same)] }
noncomputable def fnL (c : List Value) (cells : List Value) : ASt := finSt [c] [.flat [iv 0, iv 0, iv 0, iv 0, iv 0] 52, .flat cells 52] [(2, ptr 1), (5, ptr 2)]
def spF : Can := finC 1 [(1, .flat 1), (2, .flat 2)] [2, 5]
noncomputable def lp32 : Code := sub [1, 1, 1, 0, 1, 0, 0] (bodyOf Tryz.f32)
def opAt (c : Code) (i : Nat) : Oper := match c with
  | .seq (.region _ ops _) _ => ops.toList.getD i { op := .nilCheck (.tmp 0), type := 0, dst := none, pos := "", after := #[], guard := none }
  | _ => { op := .nilCheck (.tmp 0), type := 0, dst := none, pos := "", after := #[], guard := none }
noncomputable def rest32 : Code := sub [1] lp32
theorem lp32_eq : lp32 = .seq (.region 6 #[opAt lp32 0, opAt lp32 1] false) rest32 := by kernel_rfl
theorem find_born : ∀ (m : DM) (i k : Nat) (p : KI × Int), m[k]? = some p → (entsK i m).find? (fun e => e.born == i + k) = some { key := kn p.1.1 p.1.2, val := iv p.2, born := i + k }
  | [], _, _, _, h => by simp at h
  | (q, n) :: r, i, 0, p, h => by
    simp at h
    subst h
    simp [entsK]
  | (q, n) :: r, i, k + 1, p, h => by
    have := find_born r (i + 1) k p (by simpa using h)
    have hne : (i == i + (k + 1)) = false := by simp
    simp only [entsK, List.find?_cons, hne]
    rw [show i + (k + 1) = i + 1 + k by omega]
    exact this
theorem ent_ans {m : DM} {i : Nat} {kx ky n : Int} (h : m[i]? = some ((kx, ky), n)) (seen : List Nat) : entryV (seen ++ [i]) m.length (entsK 0 m) m.length = some (.tuple #[kn kx ky, iv n]) := by
  unfold entryV
  have := find_born m 0 i _ h
  rw [Nat.zero_add] at this
  have hl : (seen ++ [i]).getLast? = some i := by simp
  have hb : Nat.beq m.length m.length = true := Nat.beq_refl _
  rw [hl]
  simp only [hb, this]
/-- Legs. -/
def fLegs (l : List B3) : Option (Value × List Row) := match midB l && ((degM [] l).all fun p => decide (0 ≤ p.2 ∧ p.2 ≤ 4)) with
  | true => if netE l = 0 then some (.tuple #[.agg ⟨legCells ((degM [] l).map (·.2))⟩, iv 0], [.flat (legCells ((degM [] l).map (·.2))) 52]) else some (.tuple #[.agg ⟨[iv 0, iv 0, iv 0, iv 0, iv 0]⟩, iv (netE l)], [.flat [iv 0, iv 0, iv 0, iv 0, iv 0] 52])
  | false => none

noncomputable def gDegree := gen [.sl, .fl] (netKnot fDegree)
theorem c40 : IntrOk E0 40 gDegree := by
  refine gen0 K5 rfl (fn := Tryz.f40) (by kernel_rfl) ?_
  intro ts cs v rows hf h
  obtain ⟨off, cap, c, l, x, y, rfl, rfl, hc, hn, h⟩ := netKnot_some h
  have hf := hf c (by simp)
  unfold fDegree at h
  split at h
  · rename_i hm
    cases h
    have f0 : firstE [netE l, knotE x y] = if netE l = 0 then knotE x y else netE l := by rw [first2]
    by_cases h0 : netE l = 0
    · rw [if_pos h0] at f0
      by_cases h1 : knotE x y = 0
      · rw [show degR l x y = .tuple #[iv (getK (degM [] l) (x, y)), iv 0] by unfold degR; rw [if_pos h0, if_pos h1]]
        exact Shows.ret [(4, (.int .i64 (getK (degM [] l) (x, y)))), (5, (.int .i64 0))] rfl (path_pf K5 rfl (finC 1 [] [4, 5]) [.oc (net_ans (b := 0) (cap := cap) hc hn hf ({ m := mkT [(0, .ro c), (1, .cells [(.int .i64 x), (.int .i64 y)] 23)] .nil, next := 2, low := 2 } : AHeap) rfl), .go 3, .ov (Fa.ine0 .i64 (firstE [netE l, knotE x y]) 0 (by omega)), .go 1, .oc (deg_ans (b := 0) (cap := cap) hc hn hf hm ({ m := mkT [(0, .ro c), (1, .cells [(.int .i64 x), (.int .i64 y)] 23), (2, .cells [(.int .i64 (netE l)), (.int .i64 (knotE x y))] 27)] .nil, next := 3, low := 3 } : AHeap) rfl), .go 1, .ov (mk_look (E := E5) rfl z5 (degM [] l) x y), .b hf] (by kernel_rfl)) (by kernel_rfl) noRow
      · rw [show degR l x y = .tuple #[iv 0, iv (knotE x y)] by unfold degR; rw [if_pos h0, if_neg h1], ← f0]
        exact Shows.ret [(4, (.int .i64 0)), (5, (.int .i64 (firstE [netE l, knotE x y])))] rfl (path_pf K5 rfl (finC 1 [] [4, 5]) [.oc (net_ans (b := 0) (cap := cap) hc hn hf ({ m := mkT [(0, .ro c), (1, .cells [(.int .i64 x), (.int .i64 y)] 23)] .nil, next := 2, low := 2 } : AHeap) rfl), .go 3, .ov (Fa.ine1 .i64 (firstE [netE l, knotE x y]) 0 (by omega)), .go 1, .b hf] (by kernel_rfl)) (by kernel_rfl) noRow
    · rw [if_neg h0] at f0
      rw [show degR l x y = .tuple #[iv 0, iv (netE l)] by unfold degR; rw [if_neg h0], ← f0]
      exact Shows.ret [(4, (.int .i64 0)), (5, (.int .i64 (firstE [netE l, knotE x y])))] rfl (path_pf K5 rfl (finC 1 [] [4, 5]) [.oc (net_ans (b := 0) (cap := cap) hc hn hf ({ m := mkT [(0, .ro c), (1, .cells [(.int .i64 x), (.int .i64 y)] 23)] .nil, next := 2, low := 2 } : AHeap) rfl), .go 3, .ov (Fa.ine1 .i64 (firstE [netE l, knotE x y]) 0 (by omega)), .go 1, .b hf] (by kernel_rfl)) (by kernel_rfl) noRow
  · cases h
theorem legs0 (c : List Value) (m : DM) (kx ky a0 a1 a2 a3 a4 : Int) (i : Nat) (seen : List Nat) (he : m[i]? = some ((kx, ky), 0)) (hf : c.all flatCell = true) (hm : (entsK 0 m).all (fun e => flat e.val) = true) (g0 : 0 ≤ a0 ∧ a0 < 9999999999999) (g1 : 0 ≤ a1 ∧ a1 < 9999999999999) (g2 : 0 ≤ a2 ∧ a2 < 9999999999999) (g3 : 0 ≤ a3 ∧ a3 < 9999999999999) (g4 : 0 ≤ a4 ∧ a4 < 9999999999999) : Den E5 none (roH [c]) rest32 (nextSt (stL c m [iv a0, iv a1, iv a2, iv a3, iv a4] seen) 17 18 4 3 m.length seen ⟨kn kx ky, iv 0, i⟩) .normal (stL c m [iv (a0 + 1), iv a1, iv a2, iv a3, iv a4] (seen ++ [i])) := by
  exact path_pf K5 rfl spL [.go 1, .ov (ent_ans he seen), .go 4, .ov (Fa.iadd a0 1 (by omega) (by omega)), .go 4, .b hf, .go 2, .b hm] (by kernel_rfl)
theorem legs1 (c : List Value) (m : DM) (kx ky a0 a1 a2 a3 a4 : Int) (i : Nat) (seen : List Nat) (he : m[i]? = some ((kx, ky), 1)) (hf : c.all flatCell = true) (hm : (entsK 0 m).all (fun e => flat e.val) = true) (g0 : 0 ≤ a0 ∧ a0 < 9999999999999) (g1 : 0 ≤ a1 ∧ a1 < 9999999999999) (g2 : 0 ≤ a2 ∧ a2 < 9999999999999) (g3 : 0 ≤ a3 ∧ a3 < 9999999999999) (g4 : 0 ≤ a4 ∧ a4 < 9999999999999) : Den E5 none (roH [c]) rest32 (nextSt (stL c m [iv a0, iv a1, iv a2, iv a3, iv a4] seen) 17 18 4 3 m.length seen ⟨kn kx ky, iv 1, i⟩) .normal (stL c m [iv a0, iv (a1 + 1), iv a2, iv a3, iv a4] (seen ++ [i])) := by
  exact path_pf K5 rfl spL [.go 1, .ov (ent_ans he seen), .go 4, .ov (Fa.iadd a1 1 (by omega) (by omega)), .go 4, .b hf, .go 2, .b hm] (by kernel_rfl)
theorem legs2 (c : List Value) (m : DM) (kx ky a0 a1 a2 a3 a4 : Int) (i : Nat) (seen : List Nat) (he : m[i]? = some ((kx, ky), 2)) (hf : c.all flatCell = true) (hm : (entsK 0 m).all (fun e => flat e.val) = true) (g0 : 0 ≤ a0 ∧ a0 < 9999999999999) (g1 : 0 ≤ a1 ∧ a1 < 9999999999999) (g2 : 0 ≤ a2 ∧ a2 < 9999999999999) (g3 : 0 ≤ a3 ∧ a3 < 9999999999999) (g4 : 0 ≤ a4 ∧ a4 < 9999999999999) : Den E5 none (roH [c]) rest32 (nextSt (stL c m [iv a0, iv a1, iv a2, iv a3, iv a4] seen) 17 18 4 3 m.length seen ⟨kn kx ky, iv 2, i⟩) .normal (stL c m [iv a0, iv a1, iv (a2 + 1), iv a3, iv a4] (seen ++ [i])) := by
  exact path_pf K5 rfl spL [.go 1, .ov (ent_ans he seen), .go 4, .ov (Fa.iadd a2 1 (by omega) (by omega)), .go 4, .b hf, .go 2, .b hm] (by kernel_rfl)
theorem legs3 (c : List Value) (m : DM) (kx ky a0 a1 a2 a3 a4 : Int) (i : Nat) (seen : List Nat) (he : m[i]? = some ((kx, ky), 3)) (hf : c.all flatCell = true) (hm : (entsK 0 m).all (fun e => flat e.val) = true) (g0 : 0 ≤ a0 ∧ a0 < 9999999999999) (g1 : 0 ≤ a1 ∧ a1 < 9999999999999) (g2 : 0 ≤ a2 ∧ a2 < 9999999999999) (g3 : 0 ≤ a3 ∧ a3 < 9999999999999) (g4 : 0 ≤ a4 ∧ a4 < 9999999999999) : Den E5 none (roH [c]) rest32 (nextSt (stL c m [iv a0, iv a1, iv a2, iv a3, iv a4] seen) 17 18 4 3 m.length seen ⟨kn kx ky, iv 3, i⟩) .normal (stL c m [iv a0, iv a1, iv a2, iv (a3 + 1), iv a4] (seen ++ [i])) := by
  exact path_pf K5 rfl spL [.go 1, .ov (ent_ans he seen), .go 4, .ov (Fa.iadd a3 1 (by omega) (by omega)), .go 4, .b hf, .go 2, .b hm] (by kernel_rfl)
theorem legs4 (c : List Value) (m : DM) (kx ky a0 a1 a2 a3 a4 : Int) (i : Nat) (seen : List Nat) (he : m[i]? = some ((kx, ky), 4)) (hf : c.all flatCell = true) (hm : (entsK 0 m).all (fun e => flat e.val) = true) (g0 : 0 ≤ a0 ∧ a0 < 9999999999999) (g1 : 0 ≤ a1 ∧ a1 < 9999999999999) (g2 : 0 ≤ a2 ∧ a2 < 9999999999999) (g3 : 0 ≤ a3 ∧ a3 < 9999999999999) (g4 : 0 ≤ a4 ∧ a4 < 9999999999999) : Den E5 none (roH [c]) rest32 (nextSt (stL c m [iv a0, iv a1, iv a2, iv a3, iv a4] seen) 17 18 4 3 m.length seen ⟨kn kx ky, iv 4, i⟩) .normal (stL c m [iv a0, iv a1, iv a2, iv a3, iv (a4 + 1)] (seen ++ [i])) := by
  exact path_pf K5 rfl spL [.go 1, .ov (ent_ans he seen), .go 4, .ov (Fa.iadd a4 1 (by omega) (by omega)), .go 4, .b hf, .go 2, .b hm] (by kernel_rfl)
theorem legsEnd (c : List Value) (m : DM) (cells : List Value) (seen : List Nat) (hf : c.all flatCell = true) (hc : cells.all flatCell = true) : Den E5 none (roH [c]) rest32 (overSt (stL c m cells seen) 17 18) (.exit 0) (fnL c cells) := by
  exact path_pf K5 rfl spF [.go 1, .b hf, .go 1, .b hc] (by kernel_rfl)
theorem legs_step {c : List Value} {m : DM} {v : List Int} {i : Nat} {p : KI × Int} {seen : List Nat} (he : m[i]? = some p) (hf : c.all flatCell = true) (h0 : 0 ≤ p.2) (h4 : p.2 ≤ 4) (hv : v.length < 9999999999999) :
    Den E5 none (roH [c]) rest32 (nextSt (stL c m (legCells v) seen) 17 18 4 3 m.length seen ⟨kn p.1.1 p.1.2, iv p.2, i⟩) .normal (stL c m (legCells (v ++ [p.2])) (seen ++ [i])) := by
  obtain ⟨⟨kx, ky⟩, n⟩ := p
  have hm := entsK_flat m 0
  have g := fun d => (⟨(cntZ_le v d).1, by have := (cntZ_le v d).2; omega⟩ : 0 ≤ cntZ v d ∧ cntZ v d < 9999999999999)
  have e : ∀ (x : Int), legCells (v ++ [x]) = [iv (cntZ v 0 + if x = 0 then 1 else 0), iv (cntZ v 1 + if x = 1 then 1 else 0), iv (cntZ v 2 + if x = 2 then 1 else 0), iv (cntZ v 3 + if x = 3 then 1 else 0), iv (cntZ v 4 + if x = 4 then 1 else 0)] := by
    intro x
    simp [legCells, cntZ_append, cntZ]
  have hn : n = 0 ∨ n = 1 ∨ n = 2 ∨ n = 3 ∨ n = 4 := by dsimp only at h0 h4; omega
  dsimp only
  rw [e]
  rcases hn with rfl | rfl | rfl | rfl | rfl
  · have := legs0 c m kx ky _ _ _ _ _ i seen he hf hm (g 0) (g 1) (g 2) (g 3) (g 4)
    simpa [legCells] using this
  · have := legs1 c m kx ky _ _ _ _ _ i seen he hf hm (g 0) (g 1) (g 2) (g 3) (g 4)
    simpa [legCells] using this
  · have := legs2 c m kx ky _ _ _ _ _ i seen he hf hm (g 0) (g 1) (g 2) (g 3) (g 4)
    simpa [legCells] using this
  · have := legs3 c m kx ky _ _ _ _ _ i seen he hf hm (g 0) (g 1) (g 2) (g 3) (g 4)
    simpa [legCells] using this
  · have := legs4 c m kx ky _ _ _ _ _ i seen he hf hm (g 0) (g 1) (g 2) (g 3) (g 4)
    simpa [legCells] using this
theorem ents_born : ∀ (m : DM) (i : Nat), (entsK i m).map (·.born) = List.range' i m.length
  | [], _ => rfl
  | (k, n) :: r, i => by simp only [entsK, List.map_cons, ents_born r (i + 1), List.length_cons, List.range'_succ]
theorem legCells_flat (v : List Int) : (legCells v).all flatCell = true := rfl
theorem loop32 {c : List Value} {m : DM} (hf : c.all flatCell = true) (hm4 : ∀ p ∈ m, 0 ≤ p.2 ∧ p.2 ≤ 4) (hlen : m.length < 9999999999999) : LoopR E5 none (roH [c]) lp32 (stL c m (legCells []) []) (.exit 0) (fnL c (legCells (m.map (·.2)))) := by
  rw [lp32_eq]
  have hb := ents_born m 0
  rw [← List.range_eq_range'] at hb
  refine LoopR.mapRange (E := E5) (st := fun seen => stL c m (legCells (valsAt m seen)) seen) (it := 16) (d1 := 17) (d2 := 18) (r := 4) (m := 3) (since := m.length) (es := entsK 0 m) K5 (by kernel_rfl) (by kernel_rfl) (by kernel_rfl) (by kernel_rfl) (by kernel_rfl) (by kernel_rfl) (fun _ => rfl) (fun _ => rfl) (fun _ => rfl) ?_ ?_ ?_ ?_ nofun
  · intro e he
    have : e.born ∈ (entsK 0 m).map (·.born) := List.mem_map.2 ⟨e, he, rfl⟩
    rw [hb] at this
    exact List.mem_range.1 this
  · rw [hb]; exact List.nodup_range
  · intro seen e he hne hs hsub
    obtain ⟨i, hi⟩ := List.mem_iff_getElem?.1 he
    rw [entsK_get, Option.map_eq_some_iff] at hi
    obtain ⟨p, hp, rfl⟩ := hi
    have hlt : seen.length ≤ m.length := by
      have := nodup_le hs hsub
      rwa [hb, List.length_range] at this
    have hvl := valsAt_length m seen
    have hpm := hm4 p (List.mem_of_getElem? hp)
    have := legs_step (v := valsAt m seen) (seen := seen) hp hf hpm.1 hpm.2 (by omega)
    dsimp only
    rw [Nat.zero_add]
    rw [valsAt_append, show valsAt m [i] = [p.2] by simp only [valsAt, hp]]
    exact this
  · intro seen hs hall
    rw [hb] at hall
    have hp := (List.perm_ext_iff_of_nodup hs List.nodup_range).2 hall
    have he : legCells (m.map (·.2)) = legCells (valsAt m seen) := by
      rw [← valsAt_all]
      have := fun d => cntZ_perm (valsAt_perm m hp) d
      simp only [legCells, this]
    rw [he]
    exact legsEnd c m _ seen hf rfl

noncomputable def gLegs := gen [.sl] (netArgO fLegs)
theorem c32 : IntrOk E0 32 gLegs := by
  refine gen0 K5 rfl (fn := Tryz.f32) (by kernel_rfl) ?_
  intro ts cs v rows hf h
  obtain ⟨off, cap, c, l, rfl, rfl, hc, hn, h⟩ := netArgO_some h
  have hf := hf c (by simp)
  unfold fLegs at h
  split at h
  · rename_i hm
    rw [Bool.and_eq_true] at hm
    obtain ⟨hm, hd⟩ := hm
    have hd : ∀ p ∈ degM [] l, 0 ≤ p.2 ∧ p.2 ≤ 4 := fun p hp => by simpa using List.all_eq_true.1 hd p hp
    by_cases h0 : netE l = 0
    · rw [if_pos h0] at h
      cases h
      have hlen := degM_le l []
      rw [List.length_nil] at hlen
      have i1 := loop32 (c := c) hf hd (by omega)
      have hm2 := entsK_flat (degM [] l) 0
      generalize (degM [] l).map (·.2) = u at i1 ⊢
      exact Shows.ret [(2, (.pointer (some ⟨1, 0, none⟩))), (3, (.int .i64 0))] rfl (path_pf K5 rfl (finC 1 [(1, .flat 1)] [2, 3]) [.oc (net_ans (b := 0) (cap := cap) hc hn hf ({ m := mkT [(0, .ro c), (1, .cells [(.int .i64 0), (.int .i64 0), (.int .i64 0), (.int .i64 0), (.int .i64 0)] 52)] .nil, next := 2, low := 1 } : AHeap) rfl), .ov (Fa.ine0 .i64 (netE l) 0 (by omega)), .go 1, .oc (deg_ans (b := 0) (cap := cap) hc hn hf hm ({ m := mkT [(0, .ro c), (1, .cells [(.int .i64 0), (.int .i64 0), (.int .i64 0), (.int .i64 0), (.int .i64 0)] 52), (2, .cells [(.int .i64 0), (.int .i64 0), (.int .i64 0), (.int .i64 0), (.int .i64 0)] 52)] .nil, next := 3, low := 1 } : AHeap) rfl), .loop spL i1, .b hf, .go 2, .b hm2, .go 2, .b hf, .go 1] (by kernel_rfl)) (by kernel_rfl) (fits_of rfl)
    · rw [if_neg h0] at h
      cases h
      exact Shows.ret [(2, (.pointer (some ⟨1, 0, none⟩))), (3, (.int .i64 (netE l)))] rfl (path_pf K5 rfl (finC 1 [(1, .flat 1)] [2, 3]) [.oc (net_ans (b := 0) (cap := cap) hc hn hf ({ m := mkT [(0, .ro c), (1, .cells [(.int .i64 0), (.int .i64 0), (.int .i64 0), (.int .i64 0), (.int .i64 0)] 52)] .nil, next := 2, low := 1 } : AHeap) rfl), .ov (Fa.ine1 .i64 (netE l) 0 (by omega)), .go 2, .b hf, .go 1] (by kernel_rfl)) (by kernel_rfl) (fits_of rfl)
  · cases h
end Go.Proofs.YtlkhpgocbojdgaaGreatDoor.Ai

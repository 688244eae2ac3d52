/-
  CONTRACTS: the ends of a bar; the degrees of a net's knots.
-/
import Derived.Test.YtlkhpgocbojdgaaGreatDoorNtCl
import Derived.Test.YtlkhpgocbojdgaaGreatDoorNtMap
namespace Go.Proofs.YtlkhpgocbojdgaaGreatDoor.Ai
open Go
set_option linter.unusedSimpArgs false
set_option linter.unusedVariables false

/-- A number far from where an integer turns over. -/
abbrev Mid (a : Int) : Prop := -1099511627776 < a ∧ a < 1099511627776
abbrev B3.mid (b : B3) : Prop := Mid b.x ∧ Mid b.y ∧ Mid b.s
def B3.lo (b : B3) : KI := (b.x, b.y)
def B3.up (b : B3) : KI := (b.x + b.s, b.y + 1)
def endCells (b : B3) : List Value := [.int .i64 b.x, .int .i64 b.y, .int .i64 (b.x + b.s), .int .i64 (b.y + 1)]
def fEnds (ts : List Value) (cs : List (List Value)) : Option (Value × List Row) :=
  match ts, cs with
  | [.agg ⟨[.int .i64 x, .int .i64 y, .int .i64 s]⟩], [] => if (⟨x, y, s⟩ : B3).mid then some (.agg ⟨endCells ⟨x, y, s⟩⟩, [.flat (endCells ⟨x, y, s⟩) 97]) else none
  | _, _ => none
def degM : DM → List B3 → DM
  | m, [] => m
  | m, b :: l => degM (bumpK (bumpK m b.lo) b.up) l
theorem entsK_flat : ∀ (m : DM) (i : Nat), (entsK i m).all (fun e => flat e.val) = true
  | [], _ => rfl
  | (k, n) :: r, i => entsK_flat r (i + 1)
noncomputable def st102 (c : List Value) (off n cap k : Nat) (m : DM) : ASt := finSt [c] [.map (entsK 0 m) m.length] [(3, .map (some 1)), (9, sv 0 off n cap), (10, iv n), (11, iv k)]
noncomputable def lp102 : Code := sub [1, 1, 0, 1, 0, 0] (bodyOf Tryz.f102)
noncomputable def fn102 (c : List Value) (m : DM) : ASt := finSt [c] [.map (entsK 0 m) m.length] [(3, .map (some 1))]
theorem z4 : zeroOf E4 3 = some (iv 0) := by kernel_rfl

noncomputable def gEnds := gen [.fl] fEnds
theorem c121 : IntrOk E0 121 gEnds := by
  refine gen0 K4 rfl (fn := Tryz.f121) (by kernel_rfl) ?_
  intro ts cs v rows hf h
  unfold fEnds at h
  split at h
  · rename_i x y s
    split at h
    · rename_i hm
      cases h
      obtain ⟨⟨h1, h2⟩, ⟨h3, h4⟩, h5, h6⟩ := hm
      dsimp only at h1 h2 h3 h4 h5 h6
      exact Shows.ret [(2, (.pointer (some ⟨0, 0, none⟩)))] rfl (path_pf K4 rfl (finC 0 [(0, .flat 1)] [2]) [.go 4, .ov (Fa.iadd x s (by omega) (by omega)), .go 1, .ov (Fa.iadd y 1 (by omega) (by omega)), .go 2] (by kernel_rfl)) (by kernel_rfl) (fits_of rfl)
    · cases h
  · cases h

theorem getK_bump : ∀ (m : DM) (k q : KI), getK (bumpK m k) q = getK m q + if q = k then 1 else 0
  | [], k, q => by simp [bumpK, getK]
  | (k', n) :: r, k, q => by
    simp only [bumpK]
    by_cases h : k = k'
    · subst h
      simp only [if_true, getK]
      by_cases h2 : q = k
      · simp [h2]
      · simp [h2]
    · rw [if_neg h]
      simp only [getK]
      by_cases h2 : q = k'
      · subst h2
        have : ¬ q = k := fun e => h e.symm
        simp [this]
      · simp only [h2, if_false]
        exact getK_bump r k q
/-- All numbers of a map are from 0 to n. -/
def Upto (n : Int) (m : DM) : Prop := ∀ q, 0 ≤ getK m q ∧ getK m q ≤ n
theorem Upto.bump {n : Int} {m : DM} (h : Upto n m) (k : KI) : Upto (n + 1) (bumpK m k) := fun q => by
  have := h q
  rw [getK_bump]
  split <;> omega

section
variable {c : List Value} {l : List B3} {off cap : Nat}
theorem loop102 (hc : slice? c off (l.length * 3) = some (barCells l)) (hn : l.length < 1099511627776) (hf : c.all flatCell = true) (hmid : ∀ b ∈ l, b.mid) : ∀ (d k : Nat) (m : DM), k + d = l.length → Upto (2 * k) m →
    LoopR E4 none (roH [c]) lp102 (st102 c off l.length cap k m) (.exit 0) (fn102 c (degM m (l.drop k)))
  | 0, k, m, hk, hu => by
    rw [List.drop_eq_nil_of_le (by omega)]
    refine LoopR.out ?_ nofun
    show Den E4 none (roH [c]) lp102 (st102 c off l.length cap k m) (.exit 0) (fn102 c m)
    have hm : (entsK 0 m).all (fun e => flat e.val) = true := entsK_flat m 0
    exact path_pf K4 rfl (finC 1 [(1, .flat 1)] [3]) [.ov (Fa.ilt0 .i64 ↑k ↑l.length (by omega)), .go 1, .b hf, .b hm] (by kernel_rfl)
  | d + 1, k, m, hk, hu => by
    obtain ⟨b, hb⟩ : ∃ x, l[k]? = some x := ⟨_, List.getElem?_eq_getElem (show k < l.length by omega)⟩
    have hr := rd_bar hc hb
    obtain ⟨⟨h1, h2⟩, ⟨h3, h4⟩, h5, h6⟩ := hmid b (List.mem_of_getElem? hb)
    rw [drop_consB hb]
    have u1 := hu (b.x, b.y)
    have U1 := hu.bump (b.x, b.y)
    have u2 := U1 (b.x + b.s, b.y + 1)
    have U2 := U1.bump (b.x + b.s, b.y + 1)
    have hm : (entsK 0 (bumpK (bumpK m (b.x, b.y)) (b.x + b.s, b.y + 1))).all (fun e => flat e.val) = true := entsK_flat _ 0
    refine LoopR.next ?_ (loop102 hc hn hf hmid d (k + 1) (bumpK (bumpK m b.lo) b.up) (by omega) (by rw [show (2 * ((k + 1 : Nat) : Int)) = 2 * (k : Int) + 1 + 1 by omega]; exact U2))
    obtain ⟨u11, u12⟩ := u1
    obtain ⟨u21, u22⟩ := u2
    show Den E4 none (roH [c]) lp102 (st102 c off l.length cap k m) .normal (st102 c off l.length cap (k + 1) (bumpK (bumpK m (b.x, b.y)) (b.x + b.s, b.y + 1)))
    exact path_pf K4 rfl (finC 1 [(1, .flat 1)] [3, 9, 10, 11]) [.ov (Fa.ilt1 .i64 ↑k ↑l.length (by omega)), .go 2, .b (Fa.blt1 k l.length (by omega)), .n (show (off + k * 3) = (off + k * 3) from rfl), .ol hr, .go 6, .ov (Fa.iadd b.x b.s (by omega) (by omega)), .go 1, .ov (Fa.iadd b.y 1 (by omega) (by omega)), .go 8, .ov (mk_look (E := E4) rfl z4 m b.x b.y), .ov (Fa.iadd (getK m (b.x, b.y)) 1 (by omega) (by omega)), .om (mk_entM (E := E4) rfl z4 m b.x b.y), .ov (mk_entV (E := E4) rfl z4 m b.x b.y), .om (mk_store m b.x b.y), .go 1, .ov (mk_look (E := E4) rfl z4 m b.x b.y), .ov (Fa.iadd (getK m (b.x, b.y)) 1 (by omega) (by omega)), .om (mk_entM (E := E4) rfl z4 m b.x b.y), .ov (mk_entV (E := E4) rfl z4 m b.x b.y), .om (mk_store m b.x b.y), .go 2, .ov (mk_look (E := E4) rfl z4 m b.x b.y), .ov (Fa.iadd (getK m (b.x, b.y)) 1 (by omega) (by omega)), .om (mk_entM (E := E4) rfl z4 m b.x b.y), .ov (mk_entV (E := E4) rfl z4 m b.x b.y), .ov (mk_look (E := E4) rfl z4 m b.x b.y), .ov (mk_look2 (E := E4) rfl z4 m b.x b.y), .b (Fa.eqI_refl (getK m (b.x, b.y))), .go 8, .ov (mk_look (E := E4) rfl z4 (bumpK m (b.x, b.y)) (b.x + b.s) (b.y + 1)), .ov (Fa.iadd (getK (bumpK m (b.x, b.y)) (b.x + b.s, b.y + 1)) 1 (by omega) (by omega)), .om (mk_entM (E := E4) rfl z4 (bumpK m (b.x, b.y)) (b.x + b.s) (b.y + 1)), .ov (mk_entV (E := E4) rfl z4 (bumpK m (b.x, b.y)) (b.x + b.s) (b.y + 1)), .om (mk_store (bumpK m (b.x, b.y)) (b.x + b.s) (b.y + 1)), .go 1, .ov (mk_look (E := E4) rfl z4 (bumpK m (b.x, b.y)) (b.x + b.s) (b.y + 1)), .ov (Fa.iadd (getK (bumpK m (b.x, b.y)) (b.x + b.s, b.y + 1)) 1 (by omega) (by omega)), .om (mk_entM (E := E4) rfl z4 (bumpK m (b.x, b.y)) (b.x + b.s) (b.y + 1)), .ov (mk_entV (E := E4) rfl z4 (bumpK m (b.x, b.y)) (b.x + b.s) (b.y + 1)), .om (mk_store (bumpK m (b.x, b.y)) (b.x + b.s) (b.y + 1)), .go 2, .ov (mk_look (E := E4) rfl z4 (bumpK m (b.x, b.y)) (b.x + b.s) (b.y + 1)), .ov (Fa.iadd (getK (bumpK m (b.x, b.y)) (b.x + b.s, b.y + 1)) 1 (by omega) (by omega)), .om (mk_entM (E := E4) rfl z4 (bumpK m (b.x, b.y)) (b.x + b.s) (b.y + 1)), .ov (mk_entV (E := E4) rfl z4 (bumpK m (b.x, b.y)) (b.x + b.s) (b.y + 1)), .ov (mk_look (E := E4) rfl z4 (bumpK m (b.x, b.y)) (b.x + b.s) (b.y + 1)), .ov (mk_look2 (E := E4) rfl z4 (bumpK m (b.x, b.y)) (b.x + b.s) (b.y + 1)), .b (Fa.eqI_refl (getK (bumpK m (b.x, b.y)) (b.x + b.s, b.y + 1))), .go 3, .ov (Fa.iadd ↑k 1 (by omega) (by omega)), .b hf, .b hm] (by kernel_rfl)
end

/-- A net that came in, and what becomes of it. -/
def netArgO (F : List B3 → Option (Value × List Row)) (ts : List Value) (cs : List (List Value)) : Option (Value × List Row) :=
  match ts, cs with
  | [.slice (some ⟨0, off, none⟩) n _], [c] => match slice? c off (n * 3), Nat.blt n 1099511627776 with
    | some r, true => match unBars r with
      | some l => F l
      | none => none
    | _, _ => none
  | _, _ => none
theorem netArgO_some {F : List B3 → Option (Value × List Row)} {ts : List Value} {cs : List (List Value)} {v : Value} {rows : List Row} (h : netArgO F ts cs = some (v, rows)) :
    ∃ off cap c l, ts = [sv 0 off l.length cap] ∧ cs = [c] ∧ slice? c off (l.length * 3) = some (barCells l) ∧ l.length < 1099511627776 ∧ F l = some (v, rows) := by
  unfold netArgO at h
  split at h
  · rename_i off n cap c
    split at h
    · rename_i r hs hb
      split at h
      · rename_i l hl
        have e := unBars_some _ _ hl
        subst e
        have hn := (slice?_some hs).2
        rw [barCells_length] at hn
        have : n = l.length := by omega
        subst this
        exact ⟨off, cap, c, l, rfl, rfl, hs, by simpa [Nat.blt_eq] using hb, h⟩
      · cases h
    · cases h
  · cases h
def midB (l : List B3) : Bool := l.all fun b => decide b.mid
theorem midB_all {l : List B3} (h : midB l = true) : ∀ b ∈ l, b.mid := fun b hb => by simpa using List.all_eq_true.1 h b hb
def fDeg (l : List B3) : Option (Value × List Row) := match midB l with
  | true => some (.map (some 1), [.map (entsK 0 (degM [] l)) (degM [] l).length])
  | false => none
noncomputable def gDeg := gen [.sl] (netArgO fDeg)
theorem c102 : IntrOk E0 102 gDeg := by
  refine gen0 K4 rfl (fn := Tryz.f102) (by kernel_rfl) ?_
  intro ts cs v rows hf h
  obtain ⟨off, cap, c, l, rfl, rfl, hc, hn, h⟩ := netArgO_some h
  have hf := hf c (by simp)
  unfold fDeg at h
  split at h
  · rename_i hm
    cases h
    have i1 := loop102 (cap := cap) hc hn hf (midB_all hm) l.length 0 [] (by omega) (fun q => ⟨Int.le_refl _, by simp [getK]⟩)
    rw [List.drop_zero] at i1
    have hm2 : (entsK 0 (degM [] l)).all (fun e => flat e.val) = true := entsK_flat _ 0
    generalize degM [] l = m at i1 hm2 ⊢
    exact Shows.ret [(2, (.map (some 1)))] rfl (path_pf K4 rfl (finC 1 [(1, .flat 1)] [2]) [.loop (finC 1 [(1, .flat 1)] [3, 9, 10, 11]) i1, .b hf, .go 1, .b hf, .b hm2] (by kernel_rfl)) (by kernel_rfl) (fits_of (by simp only [List.all_cons, Row.fitsB, hm2, List.all_nil, Bool.and_true]))
  · cases h

noncomputable def t5 : T (List Value → AHeap → Option (Value × AHeap)) := t4.put 102 gDeg
theorem t5_ok : T.All (fun f g => IntrOk E0 f g) t5 (fun j => j) := allT_put t4_ok c102
noncomputable def E5 : Env := { P := Tryz.prog, fn := fnTab, ty := tyTab, intr := t5 }
theorem K5 : E5.Runs := runs_intr fnAll tyAll mixed t5_ok
end Go.Proofs.YtlkhpgocbojdgaaGreatDoor.Ai

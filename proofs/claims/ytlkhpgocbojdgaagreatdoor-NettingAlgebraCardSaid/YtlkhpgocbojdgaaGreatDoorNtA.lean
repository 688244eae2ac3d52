/-
  CONTRACTS of the small functions of netting and of its reference: the first error, a range.
-/
import Derived.Test.YtlkhpgocbojdgaaGreatDoorNtBase
namespace Go.Proofs.YtlkhpgocbojdgaaGreatDoor.Ai
open Go
set_option linter.unusedSimpArgs false
set_option linter.unusedVariables false

/-- The first number that is not 0. -/
def firstE : List Int → Int
  | [] => 0
  | e :: r => if e = 0 then firstE r else e
def withinE (n lo hi : Int) : Int := if n < lo ∨ hi < n then 3 else 0

/-- A list of integers that came in. -/
def intsArg (F : List Int → Value) (ts : List Value) (cs : List (List Value)) : Option (Value × List Row) :=
  match ts, cs with
  | [.slice (some ⟨0, off, none⟩) n _], [c] => match slice? c off n, Nat.blt n 1099511627776 with
    | some r, true => match unIvs r with
      | some l => some (F l, [])
      | none => none
    | _, _ => none
  | _, _ => none
theorem intsArg_some {F : List Int → Value} {ts : List Value} {cs : List (List Value)} {v : Value} {rows : List Row} (h : intsArg F ts cs = some (v, rows)) :
    ∃ off cap c l, ts = [sv 0 off l.length cap] ∧ cs = [c] ∧ slice? c off l.length = some (ivs l) ∧ l.length < 1099511627776 ∧ v = F l ∧ rows = [] := by
  unfold intsArg at h
  split at h
  · rename_i off n cap c
    split at h
    · rename_i r hs hb
      split at h
      · rename_i l hl
        cases h
        have e := unIvs_some hl
        subst e
        have hn : (ivs l).length = n := (slice?_some hs).2
        have : n = l.length := by rw [← hn]; simp [ivs]
        subst this
        exact ⟨off, cap, c, l, rfl, rfl, hs, by simpa [Nat.blt_eq] using hb, rfl, rfl⟩
      · cases h
    · cases h
  · cases h
def int3 (F : Int → Int → Int → Value) (ts : List Value) (cs : List (List Value)) : Option (Value × List Row) :=
  match ts, cs with
  | [.int .i64 a, .int .i64 b, .int .i64 c], [] => some (F a b c, [])
  | _, _ => none

theorem drop_cons {l : List Int} {k : Nat} {x : Int} (hx : l[k]? = some x) : l.drop k = x :: l.drop (k + 1) := by
  obtain ⟨hk, e⟩ := List.getElem?_eq_some_iff.1 hx
  rw [List.drop_eq_getElem_cons hk, e]

noncomputable def st83 (c : List Value) (off n cap k : Nat) : ASt := finSt [c] [] [(5, sv 0 off n cap), (6, iv n), (7, iv k)]
noncomputable def lp83 : Code := sub [1, 0, 1, 0, 0] (bodyOf Tryz.f83)
noncomputable def st79 (c : List Value) (off n cap k : Nat) : ASt := finSt [c] [] [(0, sv 0 off n cap), (3, iv k)]
noncomputable def lp79 : Code := sub [1, 0, 1, 0, 0] (bodyOf Tryz.f79)
noncomputable def st129 (c : List Value) (off n cap k : Nat) : ASt := finSt [c] [] [(3, iv 0), (6, sv 0 off n cap), (7, iv n), (8, iv k)]
noncomputable def lp129 : Code := sub [1, 1, 0, 1, 0, 0] (bodyOf Tryz.f129)

section
variable {c : List Value} {l : List Int} {off cap : Nat}
theorem loop83 (hc : slice? c off l.length = some (ivs l)) (hn : l.length < 1099511627776) (hf : c.all flatCell = true) : ∀ (d k : Nat), k + d = l.length →
    (firstE (l.drop k) = 0 → LoopR E0 none (roH [c]) lp83 (st83 c off l.length cap k) (.exit 0) (finSt [c] [] [])) ∧
    (¬ firstE (l.drop k) = 0 → LoopR E0 none (roH [c]) lp83 (st83 c off l.length cap k) .ret (finSt [c] [] [(2, iv (firstE (l.drop k)))]))
  | 0, k, hk => by
    rw [List.drop_eq_nil_of_le (by omega)]
    refine ⟨fun _ => LoopR.out ?_ nofun, fun h => absurd rfl h⟩
    exact path_pf K0 rfl (finC 1 [] []) [.ov (Fa.ilt0 .i64 ↑k ↑l.length (by omega)), .go 1, .b hf] (by kernel_rfl)
  | d + 1, k, hk => by
    obtain ⟨x, hx⟩ : ∃ x, l[k]? = some x := ⟨_, List.getElem?_eq_getElem (show k < l.length by omega)⟩
    have hr := rd_iv hc hx
    obtain ⟨i1, i2⟩ := loop83 hc hn hf d (k + 1) (by omega)
    rw [drop_cons hx]
    by_cases h0 : x = 0
    · have e : firstE (x :: l.drop (k + 1)) = firstE (l.drop (k + 1)) := by rw [firstE, if_pos h0]
      have p : Den E0 none (roH [c]) lp83 (st83 c off l.length cap k) .normal (st83 c off l.length cap (k + 1)) := by
        exact path_pf K0 rfl (finC 1 [] [5, 6, 7]) [.ov (Fa.ilt1 .i64 ↑k ↑l.length (by omega)), .go 2, .b (Fa.blt1 k l.length (by omega)), .n (show (off + k * 1) = (off + k) from by omega), .ol hr, .ov (Fa.ine0 .i64 x 0 (by omega)), .go 1, .ov (Fa.iadd ↑k 1 (by omega) (by omega)), .b hf] (by kernel_rfl)
      rw [e]
      exact ⟨fun h => LoopR.next p (i1 h), fun h => LoopR.next p (i2 h)⟩
    · have e : firstE (x :: l.drop (k + 1)) = x := by rw [firstE, if_neg h0]
      rw [e]
      refine ⟨fun h => absurd h h0, fun _ => LoopR.out ?_ nofun⟩
      exact path_pf K0 rfl (finC 1 [] [2]) [.ov (Fa.ilt1 .i64 ↑k ↑l.length (by omega)), .go 2, .b (Fa.blt1 k l.length (by omega)), .n (show (off + k * 1) = (off + k) from by omega), .ol hr, .ov (Fa.ine1 .i64 x 0 (by omega)), .go 1, .b hf] (by kernel_rfl)

theorem loop79 (hc : slice? c off l.length = some (ivs l)) (hn : l.length < 1099511627776) (hf : c.all flatCell = true) : ∀ (d k : Nat), k + d = l.length →
    (firstE (l.drop k) = 0 → LoopR E0 none (roH [c]) lp79 (st79 c off l.length cap k) (.exit 0) (finSt [c] [] [])) ∧
    (¬ firstE (l.drop k) = 0 → LoopR E0 none (roH [c]) lp79 (st79 c off l.length cap k) .ret (finSt [c] [] [(2, iv (firstE (l.drop k)))]))
  | 0, k, hk => by
    rw [List.drop_eq_nil_of_le (by omega)]
    refine ⟨fun _ => LoopR.out ?_ nofun, fun h => absurd rfl h⟩
    exact path_pf K0 rfl (finC 1 [] []) [.ov (Fa.ilt0 .i64 ↑k ↑l.length (by omega)), .go 1, .b hf] (by kernel_rfl)
  | d + 1, k, hk => by
    obtain ⟨x, hx⟩ : ∃ x, l[k]? = some x := ⟨_, List.getElem?_eq_getElem (show k < l.length by omega)⟩
    have hr := rd_iv hc hx
    obtain ⟨i1, i2⟩ := loop79 hc hn hf d (k + 1) (by omega)
    rw [drop_cons hx]
    by_cases h0 : x = 0
    · have e : firstE (x :: l.drop (k + 1)) = firstE (l.drop (k + 1)) := by rw [firstE, if_pos h0]
      have p : Den E0 none (roH [c]) lp79 (st79 c off l.length cap k) .normal (st79 c off l.length cap (k + 1)) := by
        exact path_pf K0 rfl (finC 1 [] [0, 3]) [.ov (Fa.ilt1 .i64 ↑k ↑l.length (by omega)), .go 2, .b (Fa.blt1 k l.length (by omega)), .n (show (off + k * 1) = (off + k) from by omega), .ol hr, .ov (Fa.ine0 .i64 x 0 (by omega)), .go 1, .ov (Fa.iadd ↑k 1 (by omega) (by omega)), .b hf] (by kernel_rfl)
      rw [e]
      exact ⟨fun h => LoopR.next p (i1 h), fun h => LoopR.next p (i2 h)⟩
    · have e : firstE (x :: l.drop (k + 1)) = x := by rw [firstE, if_neg h0]
      rw [e]
      refine ⟨fun h => absurd h h0, fun _ => LoopR.out ?_ nofun⟩
      exact path_pf K0 rfl (finC 1 [] [2]) [.ov (Fa.ilt1 .i64 ↑k ↑l.length (by omega)), .go 2, .b (Fa.blt1 k l.length (by omega)), .n (show (off + k * 1) = (off + k) from by omega), .ol hr, .ov (Fa.ine1 .i64 x 0 (by omega)), .go 2, .b (Fa.blt1 k l.length (by omega)), .n (show (off + k * 1) = (off + k) from by omega), .ol hr, .b hf] (by kernel_rfl)
theorem loop129 (hc : slice? c off l.length = some (ivs l)) (hn : l.length < 1099511627776) (hf : c.all flatCell = true) : ∀ (d k : Nat), k + d = l.length →
    (firstE (l.drop k) = 0 → LoopR E0 none (roH [c]) lp129 (st129 c off l.length cap k) (.exit 0) (finSt [c] [] [(3, iv 0)])) ∧
    (¬ firstE (l.drop k) = 0 → LoopR E0 none (roH [c]) lp129 (st129 c off l.length cap k) .ret (finSt [c] [] [(2, iv (firstE (l.drop k)))]))
  | 0, k, hk => by
    rw [List.drop_eq_nil_of_le (by omega)]
    refine ⟨fun _ => LoopR.out ?_ nofun, fun h => absurd rfl h⟩
    exact path_pf K0 rfl (finC 1 [] [3]) [.ov (Fa.ilt0 .i64 ↑k ↑l.length (by omega)), .go 1, .b hf] (by kernel_rfl)
  | d + 1, k, hk => by
    obtain ⟨x, hx⟩ : ∃ x, l[k]? = some x := ⟨_, List.getElem?_eq_getElem (show k < l.length by omega)⟩
    have hr := rd_iv hc hx
    obtain ⟨i1, i2⟩ := loop129 hc hn hf d (k + 1) (by omega)
    rw [drop_cons hx]
    by_cases h0 : x = 0
    · have e : firstE (x :: l.drop (k + 1)) = firstE (l.drop (k + 1)) := by rw [firstE, if_pos h0]
      have p : Den E0 none (roH [c]) lp129 (st129 c off l.length cap k) .normal (st129 c off l.length cap (k + 1)) := by
        exact path_pf K0 rfl (finC 1 [] [3, 6, 7, 8]) [.ov (Fa.ilt1 .i64 ↑k ↑l.length (by omega)), .go 2, .b (Fa.blt1 k l.length (by omega)), .n (show (off + k * 1) = (off + k) from by omega), .ol hr, .ov (Fa.ine0 .i64 x 0 (by omega)), .go 1, .ov (Fa.iadd ↑k 1 (by omega) (by omega)), .b hf] (by kernel_rfl)
      rw [e]
      exact ⟨fun h => LoopR.next p (i1 h), fun h => LoopR.next p (i2 h)⟩
    · have e : firstE (x :: l.drop (k + 1)) = x := by rw [firstE, if_neg h0]
      rw [e]
      refine ⟨fun h => absurd h h0, fun _ => LoopR.out ?_ nofun⟩
      exact path_pf K0 rfl (finC 1 [] [2]) [.ov (Fa.ilt1 .i64 ↑k ↑l.length (by omega)), .go 2, .b (Fa.blt1 k l.length (by omega)), .n (show (off + k * 1) = (off + k) from by omega), .ol hr, .ov (Fa.ine1 .i64 x 0 (by omega)), .go 1, .b hf] (by kernel_rfl)
end

noncomputable def gFirst := gen [.sl] (intsArg fun l => iv (firstE l))
theorem c83 : IntrOk E0 83 gFirst := by
  refine gen_ok K0 (fn := Tryz.f83) (by kernel_rfl) ?_
  intro ts cs v rows hf h
  obtain ⟨off, cap, c, l, rfl, rfl, hc, hn, rfl, rfl⟩ := intsArg_some h
  have hf := hf c (by simp)
  obtain ⟨i1, i2⟩ := loop83 (cap := cap) hc hn hf l.length 0 (by omega)
  rw [List.drop_zero] at i1 i2
  by_cases h0 : firstE l = 0
  · rw [h0]
    exact Shows.ret [(2, iv 0)] rfl (path_pf K0 rfl (finC 1 [] [2]) [.loop (finC 1 [] [5, 6, 7]) (i1 h0), .b hf, .b hf] (by kernel_rfl)) (by kernel_rfl) noRow
  · exact Shows.ret [(2, iv (firstE l))] rfl (path_pf K0 rfl (finC 1 [] [2]) [.loop (finC 1 [] [5, 6, 7]) (i2 h0), .b hf, .b hf] (by kernel_rfl)) (by kernel_rfl) noRow
theorem c79 : IntrOk E0 79 gFirst := by
  refine gen_ok K0 (fn := Tryz.f79) (by kernel_rfl) ?_
  intro ts cs v rows hf h
  obtain ⟨off, cap, c, l, rfl, rfl, hc, hn, rfl, rfl⟩ := intsArg_some h
  have hf := hf c (by simp)
  obtain ⟨i1, i2⟩ := loop79 (cap := cap) hc hn hf l.length 0 (by omega)
  rw [List.drop_zero] at i1 i2
  by_cases h0 : firstE l = 0
  · rw [h0]
    exact Shows.ret [(2, iv 0)] rfl (path_pf K0 rfl (finC 1 [] [2]) [.loop (finC 1 [] [0, 3]) (i1 h0), .b hf, .b hf] (by kernel_rfl)) (by kernel_rfl) noRow
  · exact Shows.ret [(2, iv (firstE l))] rfl (path_pf K0 rfl (finC 1 [] [2]) [.loop (finC 1 [] [0, 3]) (i2 h0), .b hf, .b hf] (by kernel_rfl)) (by kernel_rfl) noRow

theorem c129 : IntrOk E0 129 gFirst := by
  refine gen_ok K0 (fn := Tryz.f129) (by kernel_rfl) ?_
  intro ts cs v rows hf h
  obtain ⟨off, cap, c, l, rfl, rfl, hc, hn, rfl, rfl⟩ := intsArg_some h
  have hf := hf c (by simp)
  obtain ⟨i1, i2⟩ := loop129 (cap := cap) hc hn hf l.length 0 (by omega)
  rw [List.drop_zero] at i1 i2
  by_cases h0 : firstE l = 0
  · rw [h0]
    exact Shows.ret [(2, iv 0)] rfl (path_pf K0 rfl (finC 1 [] [2]) [.loop (finC 1 [] [3, 6, 7, 8]) (i1 h0), .b hf, .b hf] (by kernel_rfl)) (by kernel_rfl) noRow
  · exact Shows.ret [(2, iv (firstE l))] rfl (path_pf K0 rfl (finC 1 [] [2]) [.loop (finC 1 [] [3, 6, 7, 8]) (i2 h0), .b hf, .b hf] (by kernel_rfl)) (by kernel_rfl) noRow

noncomputable def gWithin := gen [.fl, .fl, .fl] (int3 fun n lo hi => iv (withinE n lo hi))
theorem c84 : IntrOk E0 84 gWithin := by
  refine gen_ok K0 (fn := Tryz.f84) (by kernel_rfl) ?_
  intro ts cs v rows hf h
  unfold int3 at h
  split at h
  · rename_i n lo hi
    cases h
    by_cases b0 : n < lo
    · exact (Shows.ret (v := (.int .i64 3)) [(6, (.int .i64 3))] rfl (path_pf K0 rfl (finC 0 [] [6]) [.ov (Fa.ilt1 .i64 n lo (by omega)), .go 5] (by kernel_rfl)) (by kernel_rfl) noRow).cast (by simp [withinE, *])
    · by_cases b1 : hi < n
      · exact (Shows.ret (v := (.int .i64 3)) [(6, (.int .i64 3))] rfl (path_pf K0 rfl (finC 0 [] [6]) [.ov (Fa.ilt0 .i64 n lo (by omega)), .go 3, .ov (Fa.igt1 .i64 n hi (by omega)), .go 2] (by kernel_rfl)) (by kernel_rfl) noRow).cast (by simp [withinE, *])
      · exact (Shows.ret (v := (.int .i64 0)) [(6, (.int .i64 0))] rfl (path_pf K0 rfl (finC 0 [] [6]) [.ov (Fa.ilt0 .i64 n lo (by omega)), .go 3, .ov (Fa.igt0 .i64 n hi (by omega)), .go 2] (by kernel_rfl)) (by kernel_rfl) noRow).cast (by simp [withinE, *])
  · cases h
theorem c62 : IntrOk E0 62 gWithin := by
  refine gen_ok K0 (fn := Tryz.f62) (by kernel_rfl) ?_
  intro ts cs v rows hf h
  unfold int3 at h
  split at h
  · rename_i n lo hi
    cases h
    by_cases b0 : n < lo
    · exact (Shows.ret (v := (.int .i64 3)) [(6, (.int .i64 3))] rfl (path_pf K0 rfl (finC 0 [] [6]) [.ov (Fa.ilt1 .i64 n lo (by omega)), .go 5] (by kernel_rfl)) (by kernel_rfl) noRow).cast (by simp [withinE, *])
    · by_cases b1 : hi < n
      · exact (Shows.ret (v := (.int .i64 3)) [(6, (.int .i64 3))] rfl (path_pf K0 rfl (finC 0 [] [6]) [.ov (Fa.ilt0 .i64 n lo (by omega)), .go 3, .ov (Fa.igt1 .i64 n hi (by omega)), .go 2] (by kernel_rfl)) (by kernel_rfl) noRow).cast (by simp [withinE, *])
      · exact (Shows.ret (v := (.int .i64 0)) [(6, (.int .i64 0))] rfl (path_pf K0 rfl (finC 0 [] [6]) [.ov (Fa.ilt0 .i64 n lo (by omega)), .go 3, .ov (Fa.igt0 .i64 n hi (by omega)), .go 2] (by kernel_rfl)) (by kernel_rfl) noRow).cast (by simp [withinE, *])
  · cases h

def cmpI (a b : Int) : Int := if a < b then -1 else if b < a then 1 else 0
def int2 (F : Int → Int → Value) (ts : List Value) (cs : List (List Value)) : Option (Value × List Row) :=
  match ts, cs with
  | [.int .i64 a, .int .i64 b], [] => some (F a b, [])
  | _, _ => none
noncomputable def gCmpI := gen [.fl, .fl] (int2 fun a b => iv (cmpI a b))
theorem c113 : IntrOk E0 113 gCmpI := by
  refine gen_ok K0 (fn := Tryz.f113) (by kernel_rfl) ?_
  intro ts cs v rows hf h
  unfold int2 at h
  split at h
  · rename_i a b
    cases h
    by_cases b0 : a < b
    · exact (Shows.ret (v := (.int .i64 (-1))) [(4, (.int .i64 (-1)))] rfl (path_pf K0 rfl (finC 0 [] [4]) [.ov (Fa.ine0 .i64 a a (by omega)), .ov (Fa.ine0 .i64 b b (by omega)), .go 2, .ov (Fa.ilt1 .i64 a b (by omega)), .go 1] (by kernel_rfl)) (by kernel_rfl) noRow).cast (by simp [cmpI, *])
    · by_cases b1 : b < a
      · exact (Shows.ret (v := (.int .i64 1)) [(4, (.int .i64 1))] rfl (path_pf K0 rfl (finC 0 [] [4]) [.ov (Fa.ine0 .i64 a a (by omega)), .ov (Fa.ine0 .i64 b b (by omega)), .go 2, .ov (Fa.ilt0 .i64 a b (by omega)), .go 1, .ov (Fa.igt1 .i64 a b (by omega)), .go 1] (by kernel_rfl)) (by kernel_rfl) noRow).cast (by simp [cmpI, *])
      · exact (Shows.ret (v := (.int .i64 0)) [(4, (.int .i64 0))] rfl (path_pf K0 rfl (finC 0 [] [4]) [.ov (Fa.ine0 .i64 a a (by omega)), .ov (Fa.ine0 .i64 b b (by omega)), .go 2, .ov (Fa.ilt0 .i64 a b (by omega)), .go 1, .ov (Fa.igt0 .i64 a b (by omega)), .go 1] (by kernel_rfl)) (by kernel_rfl) noRow).cast (by simp [cmpI, *])
  · cases h

/-- The contracts so far. -/
noncomputable def t1 : T (List Value → AHeap → Option (Value × AHeap)) := ((((((T.nil).put 83 gFirst).put 79 gFirst).put 84 gWithin).put 62 gWithin).put 129 gFirst).put 113 gCmpI
theorem t1_ok : T.All (fun f g => IntrOk E0 f g) t1 (fun j => j) := allT_put (allT_put (allT_put (allT_put (allT_put (allT_put allT_nil c83) c79) c84) c62) c129) c113
noncomputable def E1 : Env := { P := Tryz.prog, fn := fnTab, ty := tyTab, intr := t1 }
theorem K1 : E1.Runs := runs_intr fnAll tyAll mixed t1_ok
end Go.Proofs.YtlkhpgocbojdgaaGreatDoor.Ai

/-
  CONTRACTS: knots and bars: their checks and their order, in the program and in its reference.
-/
import Derived.Test.YtlkhpgocbojdgaaGreatDoorNtA
namespace Go.Proofs.YtlkhpgocbojdgaaGreatDoor.Ai
open Go
set_option linter.unusedSimpArgs false
set_option linter.unusedVariables false

def reachE (x y : Int) : Int := firstE [withinE x (-100000) 100000, withinE y (-100000) 100000]
def knotE (x y : Int) : Int := if x < -100000 ∨ 100000 < x ∨ y < -100000 ∨ 100000 < y then 3 else if (x + y) % 2 = 0 then 0 else 14
def barE (x y s : Int) : Int := if knotE x y = 0 then (if s = 1 ∨ s = -1 then reachE (x + s) (y + 1) else 13) else knotE x y
structure B3 where
  x : Int
  y : Int
  s : Int
  deriving DecidableEq
def cmpB (a b : B3) : Int := firstE [cmpI a.y b.y, cmpI a.x b.x, cmpI a.s b.s]
def lessB (a b : B3) : Bool := decide (a.y < b.y ∨ a.y = b.y ∧ (a.x < b.x ∨ a.x = b.x ∧ a.s < b.s))

theorem first2 (a b : Int) : firstE [a, b] = if a = 0 then b else a := by
  simp only [firstE]
  by_cases h : a = 0 <;> by_cases k : b = 0 <;> simp [h, k]
theorem reachE_eq (x y : Int) : reachE x y = if x < -100000 ∨ 100000 < x ∨ y < -100000 ∨ 100000 < y then 3 else 0 := by
  unfold reachE
  rw [first2]
  unfold withinE
  by_cases h : x < -100000 ∨ 100000 < x <;> by_cases k : y < -100000 ∨ 100000 < y <;> simp [h, k] <;> (try omega)
theorem knotE_zero {x y : Int} (h : knotE x y = 0) : -100000 ≤ x ∧ x ≤ 100000 ∧ -100000 ≤ y ∧ y ≤ 100000 ∧ (x + y) % 2 = 0 := by
  unfold knotE at h
  split at h
  · cases h
  · split at h
    · omega
    · cases h

theorem tmod2 (z : Int) : z.tmod 2 = 0 ↔ z % 2 = 0 := by
  rw [← Int.dvd_iff_tmod_eq_zero, ← Int.dvd_iff_emod_eq_zero]
def knot1 (F : Int → Int → Value) (ts : List Value) (cs : List (List Value)) : Option (Value × List Row) :=
  match ts, cs with
  | [.agg ⟨[.int .i64 a, .int .i64 b]⟩], [] => some (F a b, [])
  | _, _ => none
def bar1 (F : B3 → Value) (ts : List Value) (cs : List (List Value)) : Option (Value × List Row) :=
  match ts, cs with
  | [.agg ⟨[.int .i64 a, .int .i64 b, .int .i64 c]⟩], [] => some (F ⟨a, b, c⟩, [])
  | _, _ => none
def bar2 (F : B3 → B3 → Value) (ts : List Value) (cs : List (List Value)) : Option (Value × List Row) :=
  match ts, cs with
  | [.agg ⟨[.int .i64 a, .int .i64 b, .int .i64 c]⟩, .agg ⟨[.int .i64 d, .int .i64 e, .int .i64 f]⟩], [] => some (F ⟨a, b, c⟩ ⟨d, e, f⟩, [])
  | _, _ => none

noncomputable def gKnot := gen [.fl] (knot1 fun x y => iv (knotE x y))
theorem c66 : IntrOk E0 66 gKnot := by
  refine gen0 K1 rfl (fn := Tryz.f66) (by kernel_rfl) ?_
  intro ts cs v rows hf h
  unfold knot1 at h
  split at h
  · rename_i x y
    cases h
    have hw : firstE [withinE x (-100000) 100000, withinE y (-100000) 100000] = reachE x y := rfl
    have hr := reachE_eq x y
    by_cases b0 : ¬(x + y) % 2 = 0
    · exact (Shows.ret (v := (.int .i64 (firstE [firstE [withinE x (-100000) 100000, withinE y (-100000) 100000], 14]))) [(2, (.int .i64 (firstE [firstE [withinE x (-100000) 100000, withinE y (-100000) 100000], 14])))] rfl (path_pf K1 rfl (finC 0 [] [2]) [.go 8, .ov (Fa.ixor x y), .ov (Fa.iand1 x y), .ov (Fa.ine1 .i64 ((x + y) % 2) 0 (by omega)), .go 2] (by kernel_rfl)) (by kernel_rfl) noRow).cast (by dsimp only; congr 1; rw [hw, first2, hr]; unfold knotE; by_cases q : x < -100000 ∨ 100000 < x ∨ y < -100000 ∨ 100000 < y <;> simp [q, b0] <;> omega)
    · exact (Shows.ret (v := (.int .i64 (firstE [firstE [withinE x (-100000) 100000, withinE y (-100000) 100000], 0]))) [(2, (.int .i64 (firstE [firstE [withinE x (-100000) 100000, withinE y (-100000) 100000], 0])))] rfl (path_pf K1 rfl (finC 0 [] [2]) [.go 8, .ov (Fa.ixor x y), .ov (Fa.iand1 x y), .ov (Fa.ine0 .i64 ((x + y) % 2) 0 (by omega)), .go 2] (by kernel_rfl)) (by kernel_rfl) noRow).cast (by dsimp only; congr 1; rw [hw, first2, hr]; unfold knotE; by_cases q : x < -100000 ∨ 100000 < x ∨ y < -100000 ∨ 100000 < y <;> simp [q, b0] <;> omega)
  · cases h
theorem c42 : IntrOk E0 42 gKnot := by
  refine gen0 K1 rfl (fn := Tryz.f42) (by kernel_rfl) ?_
  intro ts cs v rows hf h
  unfold knot1 at h
  split at h
  · rename_i x y
    cases h
    have ht := tmod2 (x + y)
    by_cases b0 : x < -100000
    · exact (Shows.ret (v := (.int .i64 3)) [(2, (.int .i64 3))] rfl (path_pf K1 rfl (finC 0 [] [2]) [.go 1, .ov (Fa.ilt1 .i64 x (-100000) (by omega)), .go 8] (by kernel_rfl)) (by kernel_rfl) noRow).cast (by unfold knotE; dsimp only; congr 1; repeat (first | rw [if_pos (by omega)] | rw [if_neg (by omega)]))
    · by_cases b1 : 100000 < x
      · exact (Shows.ret (v := (.int .i64 3)) [(2, (.int .i64 3))] rfl (path_pf K1 rfl (finC 0 [] [2]) [.go 1, .ov (Fa.ilt0 .i64 x (-100000) (by omega)), .go 2, .ov (Fa.igt1 .i64 x 100000 (by omega)), .go 6] (by kernel_rfl)) (by kernel_rfl) noRow).cast (by unfold knotE; dsimp only; congr 1; repeat (first | rw [if_pos (by omega)] | rw [if_neg (by omega)]))
      · by_cases b2 : y < -100000
        · exact (Shows.ret (v := (.int .i64 3)) [(2, (.int .i64 3))] rfl (path_pf K1 rfl (finC 0 [] [2]) [.go 1, .ov (Fa.ilt0 .i64 x (-100000) (by omega)), .go 2, .ov (Fa.igt0 .i64 x 100000 (by omega)), .go 5, .ov (Fa.ilt1 .i64 y (-100000) (by omega)), .go 5] (by kernel_rfl)) (by kernel_rfl) noRow).cast (by unfold knotE; dsimp only; congr 1; repeat (first | rw [if_pos (by omega)] | rw [if_neg (by omega)]))
        · by_cases b3 : 100000 < y
          · exact (Shows.ret (v := (.int .i64 3)) [(2, (.int .i64 3))] rfl (path_pf K1 rfl (finC 0 [] [2]) [.go 1, .ov (Fa.ilt0 .i64 x (-100000) (by omega)), .go 2, .ov (Fa.igt0 .i64 x 100000 (by omega)), .go 5, .ov (Fa.ilt0 .i64 y (-100000) (by omega)), .go 2, .ov (Fa.igt1 .i64 y 100000 (by omega)), .go 3] (by kernel_rfl)) (by kernel_rfl) noRow).cast (by unfold knotE; dsimp only; congr 1; repeat (first | rw [if_pos (by omega)] | rw [if_neg (by omega)]))
          · by_cases b4 : (x + y).tmod 2 = 0
            · exact (Shows.ret (v := (.int .i64 0)) [(2, (.int .i64 0))] rfl (path_pf K1 rfl (finC 0 [] [2]) [.go 1, .ov (Fa.ilt0 .i64 x (-100000) (by omega)), .go 2, .ov (Fa.igt0 .i64 x 100000 (by omega)), .go 5, .ov (Fa.ilt0 .i64 y (-100000) (by omega)), .go 2, .ov (Fa.igt0 .i64 y 100000 (by omega)), .go 5, .ov (Fa.iadd x y (by omega) (by omega)), .ov (Fa.irem .i64 (x + y) 2 (by omega)), .ov (Fa.ieq1 .i64 ((x + y).tmod 2) 0 (by omega)), .go 2] (by kernel_rfl)) (by kernel_rfl) noRow).cast (by unfold knotE; dsimp only; congr 1; repeat (first | rw [if_pos (by omega)] | rw [if_neg (by omega)]))
            · exact (Shows.ret (v := (.int .i64 14)) [(2, (.int .i64 14))] rfl (path_pf K1 rfl (finC 0 [] [2]) [.go 1, .ov (Fa.ilt0 .i64 x (-100000) (by omega)), .go 2, .ov (Fa.igt0 .i64 x 100000 (by omega)), .go 5, .ov (Fa.ilt0 .i64 y (-100000) (by omega)), .go 2, .ov (Fa.igt0 .i64 y 100000 (by omega)), .go 5, .ov (Fa.iadd x y (by omega) (by omega)), .ov (Fa.irem .i64 (x + y) 2 (by omega)), .ov (Fa.ieq0 .i64 ((x + y).tmod 2) 0 (by omega)), .go 2] (by kernel_rfl)) (by kernel_rfl) noRow).cast (by unfold knotE; dsimp only; congr 1; repeat (first | rw [if_pos (by omega)] | rw [if_neg (by omega)]))
  · cases h

noncomputable def gCmpB := gen [.fl, .fl] (bar2 fun a b => iv (cmpB a b))
theorem c98 : IntrOk E0 98 gCmpB := by
  refine gen0 K1 rfl (fn := Tryz.f98) (by kernel_rfl) ?_
  intro ts cs v rows hf h
  unfold bar2 at h
  split at h
  · rename_i a b c d e f
    cases h
    exact (Shows.ret (v := (.int .i64 (firstE [cmpI b e, cmpI a d, cmpI c f]))) [(4, (.int .i64 (firstE [cmpI b e, cmpI a d, cmpI c f])))] rfl (path_pf K1 rfl (finC 0 [] [4]) [.go 10] (by kernel_rfl)) (by kernel_rfl) noRow).cast rfl
  · cases h

noncomputable def gLess := gen [.fl, .fl] (bar2 fun a b => bv (lessB a b))
theorem c34 : IntrOk E0 34 gLess := by
  refine gen0 K1 rfl (fn := Tryz.f34) (by kernel_rfl) ?_
  intro ts cs v rows hf h
  unfold bar2 at h
  split at h
  · rename_i a b c d e f
    cases h
    by_cases b0 : ¬b = e
    · by_cases b1 : b < e
      · exact (Shows.ret (v := (.bool true)) [(4, (.bool true))] rfl (path_pf K1 rfl (finC 0 [] [4]) [.go 2, .ov (Fa.ine1 .i64 b e (by omega)), .go 3, .ov (Fa.ilt1 .i64 b e (by omega))] (by kernel_rfl)) (by kernel_rfl) noRow).cast (by dsimp only; congr 1; simp [lessB]; omega)
      · exact (Shows.ret (v := (.bool false)) [(4, (.bool false))] rfl (path_pf K1 rfl (finC 0 [] [4]) [.go 2, .ov (Fa.ine1 .i64 b e (by omega)), .go 3, .ov (Fa.ilt0 .i64 b e (by omega))] (by kernel_rfl)) (by kernel_rfl) noRow).cast (by dsimp only; congr 1; simp [lessB]; omega)
    · by_cases b1 : ¬a = d
      · by_cases b2 : a < d
        · exact (Shows.ret (v := (.bool true)) [(4, (.bool true))] rfl (path_pf K1 rfl (finC 0 [] [4]) [.go 2, .ov (Fa.ine0 .i64 b e (by omega)), .go 3, .ov (Fa.ine1 .i64 a d (by omega)), .go 3, .ov (Fa.ilt1 .i64 a d (by omega))] (by kernel_rfl)) (by kernel_rfl) noRow).cast (by dsimp only; congr 1; simp [lessB]; omega)
        · exact (Shows.ret (v := (.bool false)) [(4, (.bool false))] rfl (path_pf K1 rfl (finC 0 [] [4]) [.go 2, .ov (Fa.ine0 .i64 b e (by omega)), .go 3, .ov (Fa.ine1 .i64 a d (by omega)), .go 3, .ov (Fa.ilt0 .i64 a d (by omega))] (by kernel_rfl)) (by kernel_rfl) noRow).cast (by dsimp only; congr 1; simp [lessB]; omega)
      · by_cases b2 : c < f
        · exact (Shows.ret (v := (.bool true)) [(4, (.bool true))] rfl (path_pf K1 rfl (finC 0 [] [4]) [.go 2, .ov (Fa.ine0 .i64 b e (by omega)), .go 3, .ov (Fa.ine0 .i64 a d (by omega)), .go 3, .ov (Fa.ilt1 .i64 c f (by omega))] (by kernel_rfl)) (by kernel_rfl) noRow).cast (by dsimp only; congr 1; simp [lessB]; omega)
        · exact (Shows.ret (v := (.bool false)) [(4, (.bool false))] rfl (path_pf K1 rfl (finC 0 [] [4]) [.go 2, .ov (Fa.ine0 .i64 b e (by omega)), .go 3, .ov (Fa.ine0 .i64 a d (by omega)), .go 3, .ov (Fa.ilt0 .i64 c f (by omega))] (by kernel_rfl)) (by kernel_rfl) noRow).cast (by dsimp only; congr 1; simp [lessB]; omega)
  · cases h

noncomputable def t2 : T (List Value → AHeap → Option (Value × AHeap)) := (((t1.put 66 gKnot).put 42 gKnot).put 98 gCmpB).put 34 gLess
theorem t2_ok : T.All (fun f g => IntrOk E0 f g) t2 (fun j => j) := allT_put (allT_put (allT_put (allT_put t1_ok c66) c42) c98) c34
noncomputable def E2 : Env := { P := Tryz.prog, fn := fnTab, ty := tyTab, intr := t2 }
theorem K2 : E2.Runs := runs_intr fnAll tyAll mixed t2_ok
end Go.Proofs.YtlkhpgocbojdgaaGreatDoor.Ai

/-
  CONTRACTS: Draw, whole.
-/
import Derived.Test.YtlkhpgocbojdgaaGreatDoorNtDraw
namespace Go.Proofs.YtlkhpgocbojdgaaGreatDoor.Ai
open Go
set_option linter.unusedSimpArgs false
set_option linter.unusedVariables false

/-- The permutation of n elements by a key. -/
def perm (key : Int) (n : Nat) : List Int := drawL (n - 1) key (idL n)
def fDraw75 (ts : List Value) (cs : List (List Value)) : Option (Value × List Row) :=
  match ts, cs with
  | [.int .i64 key, .int .i64 (.ofNat n)], [] => if 0 ≤ key ∧ key < 2147483647 ∧ n ≤ 256 then some (.slice (some ⟨0, 0, none⟩) n (GC 1), [.flat (ivs (perm key n)) 3]) else none
  | _, _ => none
abbrev DrawOk (key n : Int) : Prop := 1 ≤ key ∧ key ≤ 2147483646 ∧ 0 ≤ n ∧ n ≤ 256
def fDraw73 (ts : List Value) (cs : List (List Value)) : Option (Value × List Row) :=
  match ts, cs with
  | [.int .i64 key, .int .i64 n], [] => if DrawOk key n then some (.tuple #[.slice (some ⟨0, 0, none⟩) n.toNat n.toNat, iv 0], [.flat (ivs (perm key n.toNat)) 3]) else some (.tuple #[.slice none 0 0, iv 3], [])
  | _, _ => none
def drawE (key n : Int) : Int := if DrawOk key n then 0 else 3
def fCheckDraw (ts : List Value) (cs : List (List Value)) : Option (Value × List Row) :=
  match ts, cs with
  | [.int .i64 key, .int .i64 n], [] => some (iv (drawE key n), [])
  | _, _ => none
theorem draw_first (key n : Int) : firstE [withinE key 1 2147483646, withinE n 0 256] = if DrawOk key n then 0 else 3 := by
  simp only [firstE, withinE]
  repeat' split
  all_goals omega
theorem rep_wr {l : List Int} {n : Nat} (h : l.length = n) : splice (rep [iv 0] n) 0 (ivs l) = some (ivs l) := by
  have hr : (rep [iv 0] n).length = n := by
    rw [rep_length]; simp
  unfold splice
  have hb : Nat.ble (0 + (ivs l).length) (rep [iv 0] n).length = true := Nat.ble_eq_true_of_le (by rw [hr, ivs_length]; omega)
  rw [hb]
  simp only [List.take_zero, List.nil_append, Nat.zero_add]
  rw [List.drop_eq_nil_of_le (by rw [hr, ivs_length]; omega), List.append_nil]
theorem copy_ans {l : List Int} {n : Nat} {c : List Value} {el : TypeId} (hn : 0 < n) (hr : slice? (ivs l) 0 n = some (ivs l)) (hw : splice c 0 (ivs l) = some (ivs l)) (h : AHeap) (h1 : h.get 1 = some (.cells c el)) (h0 : h.get 0 = some (.cells (ivs l) 3)) :
    builtinA E8 h .copy [107, 107] [.slice (some ⟨1, 0, none⟩) n n, .slice (some ⟨0, 0, none⟩) n (GC 1)] = some (iv n, h.set 1 (.cells (ivs l) el)) := by
  have e1 : elemD (E8.ty.get 107) = some 3 := by kernel_rfl
  have e2 : sizeT E8 3 = some 1 := by kernel_rfl
  have e3 : Nat.min n n = n := Nat.min_self n
  have e4 : srcCells h 1 n (.slice (some ⟨0, 0, none⟩) n (GC 1)) = some (ivs l) := by
    cases n with
    | zero => omega
    | succ m => simp only [srcCells, sliceCells, readCells, h0, Nat.mul_one, hr]
  have e5 : writeCells h ⟨1, 0, none⟩ (ivs l) = some (h.set 1 (.cells (ivs l) el)) := by
    simp only [writeCells, h1, ivs_one, hw]
  unfold builtinA
  simp only [e1, e2, e3, e4]
  cases n with
  | zero => omega
  | succ m => simp only [e5]
def spA (tm : List (Nat × CanT)) : Can := { next := 1, blocks := [(0, .dummy 3)], tmps := tm }

noncomputable def gDraw75 := gen [.fl, .fl] fDraw75
theorem c75 : IntrOk E0 75 gDraw75 := by
  refine gen0 K8 rfl (fn := Tryz.f75) (by kernel_rfl) ?_
  intro ts cs v rows hf h
  unfold fDraw75 at h
  split at h
  · rename_i key n
    split at h
    · rename_i hc
      cases h
      obtain ⟨h0, h1, hn⟩ := hc
      cases n with
      | zero =>
        exact Shows.ret [(4, (.slice (some ⟨0, 0, none⟩) 0 (GC 1)))] rfl (path_pf K8 rfl (spA [(4, .nilG 0 1)]) [.go 5] (by kernel_rfl)) (by kernel_rfl) (fits_of rfl)
      | succ m =>
        have i1 := loop75 key (m + 1) hn (m + 1) 0 (by omega)
        have i2 := loop75b (m + 1) hn m key (idL (m + 1)) (idL_length _) (by omega) h0 h1
        rw [show ((m : Nat) : Int) = ((m + 1 : Nat) : Int) - 1 by omega] at i2
        rw [show perm key (m + 1) = drawL m key (idL (m + 1)) from rfl]
        have hf := ivs_flat (idL (m + 1))
        have hf2 := ivs_flat (drawL m key (idL (m + 1)))
        generalize drawL m key (idL (m + 1)) = l at i2 hf2 ⊢
        generalize hm : m + 1 = n at *
        have i1 : LoopR E8 none (roH []) lp75 (st75 key n 0) (.exit 0) (fn75 key n) := i1
        exact Shows.ret [(4, (.slice (some ⟨0, 0, none⟩) n (GC 1)))] rfl (path_pf K8 rfl (finC 0 [(0, .flat 0)] [4]) [.loop (spA [(0, .same), (1, .same), (5, .nilG 0 1), (6, .same)]) i1, .ov (Fa.isub ↑n 1 (by omega) (by omega)), .loop (finC 0 [(0, .flat 0)] [0, 5, 7]) i2, .b hf, .b hf2] (by kernel_rfl)) (by kernel_rfl) (fits_of (by simp only [List.all_cons, Row.fitsB, hf2, List.all_nil, Bool.and_true]))
    · cases h
  · cases h

noncomputable def gDraw73 := gen [.fl, .fl] fDraw73
theorem c73 : IntrOk E0 73 gDraw73 := by
  refine gen0 K8 rfl (fn := Tryz.f73) (by kernel_rfl) ?_
  intro ts cs v rows hf h
  unfold fDraw73 at h
  split at h
  · rename_i key n
    have f0 := draw_first key n
    split at h
    · rename_i hc
      rw [if_pos hc] at f0
      cases h
      obtain ⟨h0, h1, h2, hn⟩ := hc
      obtain ⟨m, rfl⟩ := Int.eq_ofNat_of_zero_le h2
      rw [Int.toNat_natCast]
      have hn : m ≤ 256 := by omega
      cases m with
      | zero =>
        exact Shows.ret [(4, (.slice (some ⟨0, 0, none⟩) 0 0)), (5, (.int .i64 0))] rfl (path_pf K8 rfl (finC 0 [(0, .flat 1)] [4, 5]) [.go 3, .ov (Fa.ine0 .i64 (firstE [withinE key 1 2147483646, withinE (↑0) 0 256]) 0 (by omega)), .go 12] (by kernel_rfl)) (by kernel_rfl) (fits_of rfl)
      | succ m =>
        have i1 := loop73 key (m + 1) hn (m + 1) 0 (by omega)
        have i2 := loop73b (m + 1) hn m key (idL (m + 1)) (idL_length _) (by omega) (by omega) (by omega)
        rw [show ((m : Nat) : Int) = ((m + 1 : Nat) : Int) - 1 by omega] at i2
        rw [show perm key (m + 1) = drawL m key (idL (m + 1)) from rfl]
        have hf := ivs_flat (idL (m + 1))
        have hf2 := ivs_flat (drawL m key (idL (m + 1)))
        have ho := ivs_one (idL (m + 1))
        have hr := ivs_all (l := idL (m + 1)) (n := m + 1) (idL_length _)
        have hw := rep_wr (l := idL (m + 1)) (n := m + 1) (idL_length _)
        have hll : Nat.beq (ivs (idL (m + 1))).length ((m + 1) * 1) = true := by rw [ivs_length, idL_length, Nat.mul_one]; exact Nat.beq_refl _
        have hb : Nat.ble ((m + 1) * 8) 1048576 = true := Nat.ble_eq_true_of_le (by omega)
        generalize drawL m key (idL (m + 1)) = l at i2 hf2 ⊢
        generalize hm : m + 1 = n at *
        have i1 : LoopR E8 none (roH []) lp73 (st73 key n 0) (.exit 0) (fn73 key n) := i1
        exact Shows.ret [(4, (.slice (some ⟨0, 0, none⟩) n n)), (5, (.int .i64 0))] rfl (path_pf K8 rfl (finC 0 [(0, .flat 0)] [4, 5]) [.go 3, .ov (Fa.ine0 .i64 (firstE [withinE key 1 2147483646, withinE (↑n) 0 256]) 0 (by omega)), .go 1, .loop (spA [(0, .same), (1, .same), (7, .nilG 0 1), (22, .same), (23, .same)]) i1, .go 2, .b (Fa.and1 (Fa.and1 (Fa.ble1 n n (by omega)) hb) (Fa.ble1 n 1048576 (by omega))), .go 1, .oc (copy_ans (n := n) (by omega) hr hw ({ m := mkT [(0, .cells (ivs (idL n)) 3), (1, .cells (rep (mkTy Tryz.t3 Tryz.t3).zero.cells.toList n) 3)] .nil, next := 2, low := 0 } : AHeap) rfl rfl), .ov (Fa.isub ↑n 1 (by omega) (by omega)), .loop (finC 0 [(0, .flat 1)] [9, 10, 11]) i2, .b hf, .b hf2] (by kernel_rfl)) (by kernel_rfl) (fits_of (by simp only [List.all_cons, Row.fitsB, hf2, List.all_nil, Bool.and_true]))
    · rename_i hc
      rw [if_neg hc] at f0
      cases h
      rw [← f0]
      exact Shows.ret [(4, (.slice none 0 0)), (5, (.int .i64 (firstE [withinE key 1 2147483646, withinE n 0 256])))] rfl (path_pf K8 rfl (finC 0 [] [4, 5]) [.go 3, .ov (Fa.ine1 .i64 (firstE [withinE key 1 2147483646, withinE n 0 256]) 0 (by omega)), .go 1] (by kernel_rfl)) (by kernel_rfl) noRow
  · cases h
noncomputable def gCheckDraw := gen [.fl, .fl] fCheckDraw
theorem c74 : IntrOk E0 74 gCheckDraw := by
  refine gen0 K8 rfl (fn := Tryz.f74) (by kernel_rfl) ?_
  intro ts cs v rows hf h
  unfold fCheckDraw at h
  split at h
  · rename_i key n
    cases h
    have e1 : withinE key 1 2147483646 = if key < 1 ∨ 2147483646 < key then 3 else 0 := rfl
    have e2 : withinE n 0 256 = if n < 0 ∨ 256 < n then 3 else 0 := rfl
    by_cases b0 : ¬withinE key 1 2147483646 = 0
    · exact (Shows.ret (v := (.int .i64 3)) [(4, (.int .i64 3))] rfl (path_pf K8 rfl (finC 0 [] [4]) [.go 1, .ov (Fa.ine1 .i64 (withinE key 1 2147483646) 0 (by omega)), .go 5] (by kernel_rfl)) (by kernel_rfl) noRow).cast (by congr 1; unfold drawE; split <;> (first | rfl | (exfalso; revert e1 e2; split <;> split <;> intros <;> omega)))
    · by_cases b1 : ¬withinE n 0 256 = 0
      · exact (Shows.ret (v := (.int .i64 3)) [(4, (.int .i64 3))] rfl (path_pf K8 rfl (finC 0 [] [4]) [.go 1, .ov (Fa.ine0 .i64 (withinE key 1 2147483646) 0 (by omega)), .go 4, .ov (Fa.ine1 .i64 (withinE n 0 256) 0 (by omega)), .go 2] (by kernel_rfl)) (by kernel_rfl) noRow).cast (by congr 1; unfold drawE; split <;> (first | rfl | (exfalso; revert e1 e2; split <;> split <;> intros <;> omega)))
      · exact (Shows.ret (v := (.int .i64 0)) [(4, (.int .i64 0))] rfl (path_pf K8 rfl (finC 0 [] [4]) [.go 1, .ov (Fa.ine0 .i64 (withinE key 1 2147483646) 0 (by omega)), .go 4, .ov (Fa.ine0 .i64 (withinE n 0 256) 0 (by omega)), .go 2] (by kernel_rfl)) (by kernel_rfl) noRow).cast (by congr 1; unfold drawE; split <;> (first | rfl | (exfalso; revert e1 e2; split <;> split <;> intros <;> omega)))
  · cases h
end Go.Proofs.YtlkhpgocbojdgaaGreatDoor.Ai

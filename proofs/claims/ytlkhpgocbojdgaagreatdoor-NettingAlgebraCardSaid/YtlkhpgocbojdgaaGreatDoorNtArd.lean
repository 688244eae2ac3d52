/-
  CONTRACTS: the bars around a knot, in the program and in its reference; has.
-/
import Derived.Test.YtlkhpgocbojdgaaGreatDoorNtHas
namespace Go.Proofs.YtlkhpgocbojdgaaGreatDoor.Ai
open Go
set_option linter.unusedSimpArgs false
set_option linter.unusedVariables false

def okB (b : B3) : Bool := decide (barE b.x b.y b.s = 0)
/-- The four bars of a knot, and those that are valid. -/
def ard4 (x y : Int) : List B3 := [⟨x - 1, y - 1, 1⟩, ⟨x + 1, y - 1, -1⟩, ⟨x, y, -1⟩, ⟨x, y, 1⟩]
def ardL (x y : Int) : List B3 := (ard4 x y).filter okB
def fArdR (ts : List Value) (cs : List (List Value)) : Option (Value × List Row) :=
  match ts, cs with
  | [.agg ⟨[.int .i64 x, .int .i64 y]⟩], [] => if Mid x ∧ Mid y then some (.slice (some ⟨0, 0, none⟩) (ardL x y).length (GC 3), [.flat (barCells (ardL x y)) 60]) else none
  | _, _ => none
def fArd (ts : List Value) (cs : List (List Value)) : Option (Value × List Row) :=
  match ts, cs with
  | [.agg ⟨[.int .i64 x, .int .i64 y]⟩], [] => if knotE x y = 0 then some (.tuple #[.slice (some ⟨0, 0, none⟩) (ardL x y).length (GC 3), iv 0], [.flat (barCells (ardL x y)) 60]) else some (.tuple #[.slice none 0 0, iv (knotE x y)], [])
  | _, _ => none
noncomputable def st68 (all out : List B3) (n k : Nat) : ASt := finSt [] [.flat (barCells out) 60] [(5, .slice (some ⟨0, 0, none⟩) n (GC 3)), (14, .agg ⟨barCells all⟩), (15, iv k)]
noncomputable def fn68 (out : List B3) : ASt := finSt [] [.flat (barCells out) 60] [(5, .slice (some ⟨0, 0, none⟩) out.length (GC 3))]
noncomputable def lp68 : Code := sub [1, 1, 1, 0, 1, 0, 0] (bodyOf Tryz.f68)
noncomputable def st71 (all out : List B3) (n k : Nat) : ASt := finSt [] [.flat (barCells out) 60, .flat (barCells all) 60] [(4, .slice (some ⟨0, 0, none⟩) n (GC 3)), (3, .slice (some ⟨1, 0, none⟩) 4 4), (5, iv k)]
noncomputable def fn71 (out : List B3) : ASt := finSt [] [.flat (barCells out) 60] [(4, .slice (some ⟨0, 0, none⟩) out.length (GC 3))]
noncomputable def lp71 : Code := sub [1, 1, 1, 0, 1, 0, 0] (bodyOf Tryz.f71)
theorem app_bar (out : List B3) (a : B3) : barCells out ++ [.int .i64 a.x, .int .i64 a.y, .int .i64 a.s] = barCells (out ++ [a]) := by rw [barCells_append]; rfl

noncomputable def gHas := gen [.sl, .fl] (netBar fHas)
theorem c123 : IntrOk E0 123 gHas := by
  refine gen0 KA rfl (fn := Tryz.f123) (by kernel_rfl) ?_
  intro ts cs v rows hf h
  obtain ⟨off, cap, c, l, b, rfl, rfl, hc, hn, h⟩ := netBar_some h
  unfold fHas at h
  split at h
  rotate_left
  · cases h
  rename_i ha
  cases h
  have hf := hf c (by simp)
  exact Shows.ret [(4, (.bool (decide (b ∈ l))))] rfl (path_pf KA rfl (finC 1 [] [4]) [.go 1, .oc (bs_ans (b := 0) (cap := cap) b hc hn hf ha ({ m := mkT [(0, .ro c), (1, .cells [(.int .i64 b.x), (.int .i64 b.y), (.int .i64 b.s)] 60)] .nil, next := 2, low := 1 } : AHeap) (.inl rfl)), .b hf] (by kernel_rfl)) (by kernel_rfl) noRow

section
variable {all : List B3}
theorem loop68 (x y : Int) (h4 : (ard4 x y).length = 4) : ∀ (d k n : Nat) (out : List B3), k + d = 4 → out.length = n → n ≤ k → LoopR EA none (roH []) lp68 (st68 (ard4 x y) out n k) (.exit 0) (fn68 (out ++ ((ard4 x y).drop k).filter okB))
  | 0, k, n, out, hk, ho, hnk => by
    rw [List.drop_eq_nil_of_le (by omega), List.filter_nil, List.append_nil]
    obtain rfl : k = 4 := by omega
    refine LoopR.out ?_ nofun
    subst ho
    have hf := barCells_flat out
    exact path_pf KA rfl (finC 0 [(0, .flat 0)] [5]) [.go 2, .b hf] (by kernel_rfl)
  | d + 1, k, n, out, hk, ho, hnk => by
    obtain ⟨a, ha⟩ : ∃ z, (ard4 x y)[k]? = some z := ⟨_, List.getElem?_eq_getElem (show k < (ard4 x y).length by omega)⟩
    have r1 := rd_bar (slice_self (ard4 x y)) ha
    rw [Nat.zero_add] at r1
    rw [drop_consB ha]
    by_cases hok : barE a.x a.y a.s = 0
    · have e : out ++ (a :: (ard4 x y).drop (k + 1)).filter okB = (out ++ [a]) ++ ((ard4 x y).drop (k + 1)).filter okB := by
        rw [List.filter_cons, show okB a = true from decide_eq_true hok]
        simp
      rw [e]
      have ih := loop68 x y h4 d (k + 1) (n + 1) (out ++ [a]) (by omega) (by rw [List.length_append, ho]; rfl) (by omega)
      refine LoopR.next ?_ ih
      have hw := app_bar out a
      have hl : Nat.beq (barCells out).length (n * 3) = true := by rw [barCells_length, ho]; exact Nat.beq_refl _
      have hf := barCells_flat (out ++ [a])
      exact path_pf KA rfl (finC 0 [(0, .flat 3)] [5, 14, 15]) [.ov (Fa.ilt1 .i64 ↑k 4 (by omega)), .go 2, .b (Fa.blt1 k 4 (by omega)), .ol r1, .go 3, .ov (Fa.ieq1 .i64 (barE a.x a.y a.s) 0 (by omega)), .go 7, .b (Fa.and1 (Fa.and1 rfl hl) rfl), .b (Fa.and1 (Fa.and1 (Fa.ble1 ((n + 1) * 24) 1099511627776 (by omega)) (Fa.blt1 (n + 1) 4611686018427387904 (by omega))) rfl), .n (show (n + 1) = (n + 1) from rfl), .l hw, .ov (Fa.iadd ↑k 1 (by omega) (by omega)), .b hf] (by kernel_rfl)
    · have e : out ++ (a :: (ard4 x y).drop (k + 1)).filter okB = out ++ ((ard4 x y).drop (k + 1)).filter okB := by
        rw [List.filter_cons, show okB a = false from decide_eq_false hok]
        rfl
      rw [e]
      have ih := loop68 x y h4 d (k + 1) n out (by omega) ho (by omega)
      refine LoopR.next ?_ ih
      have hf := barCells_flat out
      exact path_pf KA rfl (finC 0 [(0, .flat 0)] [5, 14, 15]) [.ov (Fa.ilt1 .i64 ↑k 4 (by omega)), .go 2, .b (Fa.blt1 k 4 (by omega)), .ol r1, .go 3, .ov (Fa.ieq0 .i64 (barE a.x a.y a.s) 0 (by omega)), .go 1, .ov (Fa.iadd ↑k 1 (by omega) (by omega)), .b hf] (by kernel_rfl)
theorem loop71 (h4 : all.length = 4) : ∀ (d k n : Nat) (out : List B3), k + d = 4 → out.length = n → n ≤ k → LoopR EA none (roH []) lp71 (st71 all out n k) (.exit 0) (fn71 (out ++ (all.drop k).filter okB))
  | 0, k, n, out, hk, ho, hnk => by
    rw [List.drop_eq_nil_of_le (by omega), List.filter_nil, List.append_nil]
    obtain rfl : k = 4 := by omega
    refine LoopR.out ?_ nofun
    subst ho
    have hf := barCells_flat out
    exact path_pf KA rfl (finC 0 [(0, .flat 0)] [4]) [.go 2, .b hf] (by kernel_rfl)
  | d + 1, k, n, out, hk, ho, hnk => by
    obtain ⟨a, ha⟩ : ∃ x, all[k]? = some x := ⟨_, List.getElem?_eq_getElem (show k < all.length by omega)⟩
    have r1 := rd_bar (slice_self all) ha
    rw [Nat.zero_add] at r1
    rw [drop_consB ha]
    have hg := barCells_flat all
    by_cases hok : barE a.x a.y a.s = 0
    · have e : out ++ (a :: all.drop (k + 1)).filter okB = (out ++ [a]) ++ (all.drop (k + 1)).filter okB := by
        rw [List.filter_cons, show okB a = true from decide_eq_true hok]
        simp
      rw [e]
      have ih := loop71 h4 d (k + 1) (n + 1) (out ++ [a]) (by omega) (by rw [List.length_append, ho]; rfl) (by omega)
      refine LoopR.next ?_ ih
      have hw := app_bar out a
      have hl : Nat.beq (barCells out).length (n * 3) = true := by rw [barCells_length, ho]; exact Nat.beq_refl _
      have hf := barCells_flat (out ++ [a])
      exact path_pf KA rfl (finC 0 [(0, .flat 3), (1, .flat 1)] [3, 4, 5]) [.ov (Fa.ilt1 .i64 ↑k 4 (by omega)), .go 2, .b (Fa.blt1 k 4 (by omega)), .n (show (0 + k * 3) = (k * 3) from by omega), .ol r1, .go 1, .ov (Fa.ieq1 .i64 (barE a.x a.y a.s) 0 (by omega)), .go 2, .b (Fa.blt1 k 4 (by omega)), .n (show (0 + k * 3) = (k * 3) from by omega), .ol r1, .go 5, .b (Fa.and1 (Fa.and1 rfl hl) rfl), .b (Fa.and1 (Fa.and1 (Fa.ble1 ((n + 1) * 24) 1099511627776 (by omega)) (Fa.blt1 (n + 1) 4611686018427387904 (by omega))) rfl), .n (show (n + 1) = (n + 1) from rfl), .l hw, .ov (Fa.iadd ↑k 1 (by omega) (by omega)), .b hf, .b hg] (by kernel_rfl)
    · have e : out ++ (a :: all.drop (k + 1)).filter okB = out ++ (all.drop (k + 1)).filter okB := by
        rw [List.filter_cons, show okB a = false from decide_eq_false hok]
        rfl
      rw [e]
      have ih := loop71 h4 d (k + 1) n out (by omega) ho (by omega)
      refine LoopR.next ?_ ih
      have hf := barCells_flat out
      exact path_pf KA rfl (finC 0 [(0, .flat 0), (1, .flat 1)] [3, 4, 5]) [.ov (Fa.ilt1 .i64 ↑k 4 (by omega)), .go 2, .b (Fa.blt1 k 4 (by omega)), .n (show (0 + k * 3) = (k * 3) from by omega), .ol r1, .go 1, .ov (Fa.ieq0 .i64 (barE a.x a.y a.s) 0 (by omega)), .go 1, .ov (Fa.iadd ↑k 1 (by omega) (by omega)), .b hf, .b hg] (by kernel_rfl)
end

noncomputable def gArdR := gen [.fl] fArdR
theorem c71 : IntrOk E0 71 gArdR := by
  refine gen0 KA rfl (fn := Tryz.f71) (by kernel_rfl) ?_
  intro ts cs v rows hf h
  unfold fArdR at h
  split at h
  · rename_i x y
    split at h
    · rename_i hm
      cases h
      obtain ⟨⟨h1, h2⟩, h3, h4⟩ := hm
      have i1 := loop71 (all := ard4 x y) rfl 4 0 0 [] (by omega) rfl (Nat.le_refl _)
      rw [List.drop_zero, List.nil_append] at i1
      have i1 : LoopR EA none (roH []) lp71 (st71 (ard4 x y) [] 0 0) (.exit 0) (fn71 (ardL x y)) := i1
      have hf := barCells_flat (ardL x y)
      generalize ardL x y = L at *
      exact Shows.ret [(2, (.slice (some ⟨0, 0, none⟩) L.length (GC 3)))] rfl (path_pf KA rfl (finC 0 [(0, .flat 0)] [2]) [.go 1, .ov (Fa.isub x 1 (by omega) (by omega)), .go 1, .ov (Fa.isub y 1 (by omega) (by omega)), .go 1, .ov (Fa.iadd x 1 (by omega) (by omega)), .go 1, .ov (Fa.isub y 1 (by omega) (by omega)), .go 4, .loop { next := 2, blocks := [(0, .dummy 60), (1, .flat 1)], tmps := [(4, .nilG 0 3), (3, .same), (5, .same)] } i1, .go 1, .b hf] (by kernel_rfl)) (by kernel_rfl) (fits_of (by simp only [List.all_cons, Row.fitsB, hf, List.all_nil, Bool.and_true]))
    · cases h
  · cases h
noncomputable def gArd := gen [.fl] fArd
theorem c68 : IntrOk E0 68 gArd := by
  refine gen0 KA rfl (fn := Tryz.f68) (by kernel_rfl) ?_
  intro ts cs v rows hf h
  unfold fArd at h
  split at h
  · rename_i x y
    split at h
    · rename_i hk
      cases h
      obtain ⟨h1, h2, h3, h4, _⟩ := knotE_zero hk
      have i1 := loop68 x y rfl 4 0 0 [] (by omega) rfl (Nat.le_refl _)
      rw [List.drop_zero, List.nil_append] at i1
      have i1 : LoopR EA none (roH []) lp68 (st68 (ard4 x y) [] 0 0) (.exit 0) (fn68 (ardL x y)) := i1
      have hf := barCells_flat (ardL x y)
      generalize ardL x y = L at *
      exact Shows.ret [(2, (.slice (some ⟨0, 0, none⟩) L.length (GC 3))), (3, (.int .i64 0))] rfl (path_pf KA rfl (finC 0 [(0, .flat 0)] [2, 3]) [.go 2, .ov (Fa.ine0 .i64 (knotE x y) 0 (by omega)), .go 3, .ov (Fa.isub x 1 (by omega) (by omega)), .go 1, .ov (Fa.isub y 1 (by omega) (by omega)), .go 1, .ov (Fa.iadd x 1 (by omega) (by omega)), .go 1, .ov (Fa.isub y 1 (by omega) (by omega)), .go 5, .loop { next := 1, blocks := [(0, .dummy 60)], tmps := [(5, .nilG 0 3), (14, .same), (15, .same)] } i1, .b hf] (by kernel_rfl)) (by kernel_rfl) (fits_of (by simp only [List.all_cons, Row.fitsB, hf, List.all_nil, Bool.and_true]))
    · rename_i hk
      cases h
      exact Shows.ret [(2, (.slice none 0 0)), (3, (.int .i64 (knotE x y)))] rfl (path_pf KA rfl (finC 0 [] [2, 3]) [.go 2, .ov (Fa.ine1 .i64 (knotE x y) 0 (by omega)), .go 1] (by kernel_rfl)) (by kernel_rfl) noRow
  · cases h
noncomputable def tB : T (List Value → AHeap → Option (Value × AHeap)) := ((tA.put 123 gHas).put 71 gArdR).put 68 gArd
theorem tB_ok : T.All (fun f g => IntrOk E0 f g) tB (fun j => j) := allT_put (allT_put (allT_put tA_ok c123) c71) c68
noncomputable def EB : Env := { P := Tryz.prog, fn := fnTab, ty := tyTab, intr := tB }
theorem KB : EB.Runs := runs_intr fnAll tyAll mixed tB_ok
end Go.Proofs.YtlkhpgocbojdgaaGreatDoor.Ai

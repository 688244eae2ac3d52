/-
  THE LAW NettingNames, as a contract: it returns true.
-/
import Derived.Test.YtlkhpgocbojdgaaGreatDoorNtInts
namespace Go.Proofs.YtlkhpgocbojdgaaGreatDoor.Ai
open Go
set_option linter.unusedSimpArgs false
set_option linter.unusedVariables false

theorem draw73_ans {key : Int} {m : Nat} (hk : DrawOk key m) (h : AHeap) : gDraw73 [.int .i64 key, iv m] h = some (.tuple #[.slice (some ⟨h.next, 0, none⟩) m m, iv 0], h.alloc (.cells (ivs (perm key m)) 3)) := by
  have hs : shift 0 h.next 0 = some h.next := by unfold shift; simp [Nat.blt]
  simp only [gDraw73, gen, resolve, flat, flatCell, fDraw73, List.map_nil, if_pos hk, Int.toNat_natCast, List.length_nil, ren2, ren1, ren0, mapO, hs, renRow, allocs]
theorem draw73_bad {key n : Int} (hk : ¬ DrawOk key n) (h : AHeap) : gDraw73 [.int .i64 key, iv n] h = some (.tuple #[.slice none 0 0, iv 3], h) := by
  simp only [gDraw73, gen, resolve, flat, flatCell, fDraw73, List.map_nil, if_neg hk, List.length_nil, ren2, ren1, ren0, mapO, renRow, allocs]
theorem draw75_ans {key : Int} {m : Nat} (hk : DrawOk key m) (h : AHeap) : gDraw75 [.int .i64 key, iv m] h = some (.slice (some ⟨h.next, 0, none⟩) m (GC 1), h.alloc (.cells (ivs (perm key m)) 3)) := by
  have hs : shift 0 h.next 0 = some h.next := by unfold shift; simp [Nat.blt]
  have hc : 0 ≤ key ∧ key < 2147483647 ∧ m ≤ 256 := by obtain ⟨a, b, c, d⟩ := hk; omega
  have e : iv (m : Int) = .int .i64 (.ofNat m) := rfl
  rw [e]
  simp only [gDraw75, gen, resolve, flat, flatCell, fDraw75, List.map_nil, if_pos hc, List.length_nil, ren2, ren1, ren0, mapO, hs, renRow, allocs]
theorem perm_length (key : Int) (m : Nat) : (perm key m).length = m := by unfold perm; rw [drawL_length, idL_length]
theorem same_ans {l : List Int} {m b1 b2 p1 p2 : Nat} (hl : l.length = m) (hn : m < 1099511627776) (h : AHeap) (h1 : h.get b1 = some (.cells (ivs l) 3)) (h2 : h.get b2 = some (.cells (ivs l) 3)) :
    gSame [.slice (some ⟨b1, 0, none⟩) m p1, .slice (some ⟨b2, 0, none⟩) m p2] h = some (.bool true, h) := by
  have hb : (Nat.blt m 1099511627776 && Nat.blt m 1099511627776) = true := by simp [Nat.blt_eq, hn]
  simp only [gSame, gen, resolve, slArg, h1, h2, ivs_flat, fSame, List.map_cons, List.map_nil, ivs_all hl, hb, unIvs_ivs, sameInts_refl, ren2, ren1, ren0, mapO, allocs]
theorem beq_b (b : Bool) : (b == b) = true := by cases b <;> rfl
def fNames (ts : List Value) (cs : List (List Value)) : Option (Value × List Row) :=
  match ts, cs with
  | [.string _, .int .i64 _, .int .i64 _], [] => some (.bool true, [])
  | _, _ => none

noncomputable def gNames := gen [.fl, .fl, .fl] fNames
theorem c13 : IntrOk E0 13 gNames := by
  refine gen0 K9 rfl (fn := Tryz.f13) (by kernel_rfl) ?_
  intro ts cs v rows hf h
  unfold fNames at h
  split at h
  · rename_i z key n
    cases h
    by_cases hz : 60 < z.size
    · skip
      exact Shows.ret [(6, (.bool true))] rfl (path_pf K9 rfl (finC 0 [] [6]) [.go 5, .ov (Fa.igt1 .i64 ↑z.size 60 (by omega)), .go 3] (by kernel_rfl)) (by kernel_rfl) noRow
    · by_cases hk : DrawOk key n
      · have hd : drawE key n = 0 := by unfold drawE; rw [if_pos hk]
        obtain ⟨m, rfl⟩ := Int.eq_ofNat_of_zero_le hk.2.2.1
        have hl := perm_length key m
        have hm : m < 1099511627776 := by obtain ⟨a, b, c, d⟩ := hk; omega
        exact Shows.ret [(6, (.bool true))] rfl (path_pf K9 rfl (finC 0 [] [6]) [.go 5, .ov (Fa.igt0 .i64 ↑z.size 60 (by omega)), .go 2, .oc (draw73_ans hk ({ m := mkT [] .nil, next := 0, low := 0 } : AHeap)), .go 1, .ov (Fa.ieq1 .i64 (drawE key ↑m) 0 (by omega)), .go 1, .oc (draw75_ans hk ({ m := mkT [(0, .cells (ivs (perm key m)) 3)] .nil, next := 1, low := 0 } : AHeap)), .go 3, .b (beq_b (isName z)), .b (beq_b (isName z)), .b (beq_b (isName z)), .b (beq_b (isName z)), .b (beq_b (isName z)), .ov (Fa.ine0 .i64 (drawE key ↑m) 0 (by omega)), .go 5, .oc (same_ans (b1 := 0) (b2 := 1) (p1 := m) (p2 := GC 1) hl hm ({ m := mkT [(0, .cells (ivs (perm key m)) 3), (1, .cells (ivs (perm key m)) 3)] .nil, next := 2, low := 2 } : AHeap) rfl rfl), .go 1, .b (beq_b (isName z))] (by kernel_rfl)) (by kernel_rfl) noRow
      · have hd : drawE key n = 3 := by unfold drawE; rw [if_neg hk]
        exact Shows.ret [(6, (.bool true))] rfl (path_pf K9 rfl (finC 0 [] [6]) [.go 5, .ov (Fa.igt0 .i64 ↑z.size 60 (by omega)), .go 2, .oc (draw73_bad hk ({ m := mkT [] .nil, next := 0, low := 0 } : AHeap)), .go 1, .ov (Fa.ieq0 .i64 (drawE key n) 0 (by omega)), .go 4, .b (beq_b (isName z)), .b (beq_b (isName z)), .b (beq_b (isName z)), .b (beq_b (isName z)), .b (beq_b (isName z)), .ov (Fa.ine1 .i64 (drawE key n) 0 (by omega)), .go 5, .ov (Fa.ieq1 .i64 3 (drawE key n) (by omega)), .go 1, .b (beq_b (isName z))] (by kernel_rfl)) (by kernel_rfl) noRow
  · cases h
end Go.Proofs.YtlkhpgocbojdgaaGreatDoor.Ai

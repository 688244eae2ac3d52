/-
  CONTRACTS: Union, Minus and Meet of the program.
-/
import Derived.Test.YtlkhpgocbojdgaaGreatDoorNtPut
namespace Go.Proofs.YtlkhpgocbojdgaaGreatDoor.Ai
open Go
set_option linter.unusedSimpArgs false
set_option linter.unusedVariables false

noncomputable def tC : T (List Value → AHeap → Option (Value × AHeap)) := tB.put 133 gMrg
theorem tC_ok : T.All (fun f g => IntrOk E0 f g) tC (fun j => j) := allT_put tB_ok c133
noncomputable def EC : Env := { P := Tryz.prog, fn := fnTab, ty := tyTab, intr := tC }
theorem KC : EC.Runs := runs_intr fnAll tyAll mixed tC_ok
theorem netE_nn2 (a b : List B3) : 0 ≤ firstE [netE a, netE b] := by
  rw [first2]
  have := netE_nn a
  have := netE_nn b
  split <;> omega
theorem c50 : IntrOk E0 50 (gPut kU) := by
  refine gen0 KC rfl (fn := Tryz.f50) (by kernel_rfl) ?_
  intro ts cs v rows hf h
  unfold netG at h
  split at h
  rotate_left
  · cases h
  rename_i n1 p1 n2 p2
  split at h
  rotate_left
  · cases h
  rename_i hg
  obtain ⟨rfl, rfl⟩ := hg
  obtain ⟨o1, o2, q1, q2, c1, c2, a, b, e1, rfl, h1, h2, hn1, hn2, h3⟩ := net2_some h
  clear h
  simp only [List.cons.injEq, Value.slice.injEq, Option.some.injEq, Addr.mk.injEq, and_true, true_and] at e1
  obtain ⟨⟨rfl, rfl, rfl⟩, rfl, rfl, rfl⟩ := e1
  unfold fPut at h3
  split at h3
  rotate_left
  · cases h3
  rename_i hl
  have f1 := hf c1 (by simp)
  have f2 := hf c2 (by simp)
  have hK : mrgG 117 a b = mrgR kU a b := by unfold mrgG; rw [if_pos hl]; rfl
  have hml := mergeB_length kU a b
  have hfl := barCells_flat (mergeB kU a b)
  show Shows EC Tryz.f50 [sv 0 0 a.length (GC 3), sv 1 0 b.length (GC 3)] [c1, c2] _ _
  split at h3
  · rename_i hz
    cases h3
    exact Shows.ret [(4, (.slice (some ⟨2, 0, none⟩) ((mergeB kU a b).length) (GC 3))), (5, (.int .i64 0))] rfl (path_pf KC rfl (finC 2 [(2, .flat 3)] [4, 5]) [.oc (netI_ans (F := netE) (b := 0) (off := 0) (cap := GC 3) h1 hn1 f1 ({ m := mkT [(0, .ro c1), (1, .ro c2)] .nil, next := 2, low := 2 } : AHeap) (.inl rfl)), .oc (netI_ans (F := netE) (b := 1) (off := 0) (cap := GC 3) h2 hn2 f2 ({ m := mkT [(0, .ro c1), (1, .ro c2)] .nil, next := 2, low := 2 } : AHeap) (.inl rfl)), .go 1, .ov (Fa.ine0 .i64 (firstE [netE a, netE b]) 0 (by omega)), .go 1, .oc (mrg_ans (b1 := 0) (b2 := 1) hK h1 h2 hl f1 f2 ({ m := mkT [(0, .ro c1), (1, .ro c2), (2, .cells [(.int .i64 (netE a)), (.int .i64 (netE b))] 27)] .nil, next := 3, low := 2 } : AHeap) (.inl rfl) (.inl rfl)), .ov (Fa.igt0 .i64 (↑(mergeB kU a b).length) 4096 (by omega)), .go 1, .b f1, .b f2, .b hfl] (by kernel_rfl)) (by kernel_rfl) (fits_of (by simp only [List.all_cons, Row.fitsB, hfl, List.all_nil, Bool.and_true]))
  · rename_i hz
    cases h3
    have hz : 0 < firstE [netE a, netE b] := by have := netE_nn2 a b; omega
    exact Shows.ret [(4, (.slice none 0 0)), (5, (.int .i64 (firstE [netE a, netE b])))] rfl (path_pf KC rfl (finC 2 [] [4, 5]) [.oc (netI_ans (F := netE) (b := 0) (off := 0) (cap := GC 3) h1 hn1 f1 ({ m := mkT [(0, .ro c1), (1, .ro c2)] .nil, next := 2, low := 2 } : AHeap) (.inl rfl)), .oc (netI_ans (F := netE) (b := 1) (off := 0) (cap := GC 3) h2 hn2 f2 ({ m := mkT [(0, .ro c1), (1, .ro c2)] .nil, next := 2, low := 2 } : AHeap) (.inl rfl)), .go 1, .ov (Fa.ine1 .i64 (firstE [netE a, netE b]) 0 (by omega)), .go 1, .b f1, .b f2] (by kernel_rfl)) (by kernel_rfl) noRow
theorem c37p : IntrOk E0 37 (gPut kD) := by
  refine gen0 KC rfl (fn := Tryz.f37) (by kernel_rfl) ?_
  intro ts cs v rows hf h
  unfold netG at h
  split at h
  rotate_left
  · cases h
  rename_i n1 p1 n2 p2
  split at h
  rotate_left
  · cases h
  rename_i hg
  obtain ⟨rfl, rfl⟩ := hg
  obtain ⟨o1, o2, q1, q2, c1, c2, a, b, e1, rfl, h1, h2, hn1, hn2, h3⟩ := net2_some h
  clear h
  simp only [List.cons.injEq, Value.slice.injEq, Option.some.injEq, Addr.mk.injEq, and_true, true_and] at e1
  obtain ⟨⟨rfl, rfl, rfl⟩, rfl, rfl, rfl⟩ := e1
  unfold fPut at h3
  split at h3
  rotate_left
  · cases h3
  rename_i hl
  have f1 := hf c1 (by simp)
  have f2 := hf c2 (by simp)
  have hK : mrgG 104 a b = mrgR kD a b := by unfold mrgG; rw [if_pos hl]; rfl
  have hml := mergeB_length kD a b
  have hfl := barCells_flat (mergeB kD a b)
  show Shows EC Tryz.f37 [sv 0 0 a.length (GC 3), sv 1 0 b.length (GC 3)] [c1, c2] _ _
  split at h3
  · rename_i hz
    cases h3
    exact Shows.ret [(4, (.slice (some ⟨2, 0, none⟩) ((mergeB kD a b).length) (GC 3))), (5, (.int .i64 0))] rfl (path_pf KC rfl (finC 2 [(2, .flat 3)] [4, 5]) [.oc (netI_ans (F := netE) (b := 0) (off := 0) (cap := GC 3) h1 hn1 f1 ({ m := mkT [(0, .ro c1), (1, .ro c2)] .nil, next := 2, low := 2 } : AHeap) (.inl rfl)), .oc (netI_ans (F := netE) (b := 1) (off := 0) (cap := GC 3) h2 hn2 f2 ({ m := mkT [(0, .ro c1), (1, .ro c2)] .nil, next := 2, low := 2 } : AHeap) (.inl rfl)), .go 1, .ov (Fa.ine0 .i64 (firstE [netE a, netE b]) 0 (by omega)), .go 1, .oc (mrg_ans (b1 := 0) (b2 := 1) hK h1 h2 hl f1 f2 ({ m := mkT [(0, .ro c1), (1, .ro c2), (2, .cells [(.int .i64 (netE a)), (.int .i64 (netE b))] 27)] .nil, next := 3, low := 2 } : AHeap) (.inl rfl) (.inl rfl)), .ov (Fa.igt0 .i64 (↑(mergeB kD a b).length) 4096 (by omega)), .go 1, .b f1, .b f2, .b hfl] (by kernel_rfl)) (by kernel_rfl) (fits_of (by simp only [List.all_cons, Row.fitsB, hfl, List.all_nil, Bool.and_true]))
  · rename_i hz
    cases h3
    have hz : 0 < firstE [netE a, netE b] := by have := netE_nn2 a b; omega
    exact Shows.ret [(4, (.slice none 0 0)), (5, (.int .i64 (firstE [netE a, netE b])))] rfl (path_pf KC rfl (finC 2 [] [4, 5]) [.oc (netI_ans (F := netE) (b := 0) (off := 0) (cap := GC 3) h1 hn1 f1 ({ m := mkT [(0, .ro c1), (1, .ro c2)] .nil, next := 2, low := 2 } : AHeap) (.inl rfl)), .oc (netI_ans (F := netE) (b := 1) (off := 0) (cap := GC 3) h2 hn2 f2 ({ m := mkT [(0, .ro c1), (1, .ro c2)] .nil, next := 2, low := 2 } : AHeap) (.inl rfl)), .go 1, .ov (Fa.ine1 .i64 (firstE [netE a, netE b]) 0 (by omega)), .go 1, .b f1, .b f2] (by kernel_rfl)) (by kernel_rfl) noRow
theorem c51 : IntrOk E0 51 (gPut kM) := by
  refine gen0 KC rfl (fn := Tryz.f51) (by kernel_rfl) ?_
  intro ts cs v rows hf h
  unfold netG at h
  split at h
  rotate_left
  · cases h
  rename_i n1 p1 n2 p2
  split at h
  rotate_left
  · cases h
  rename_i hg
  obtain ⟨rfl, rfl⟩ := hg
  obtain ⟨o1, o2, q1, q2, c1, c2, a, b, e1, rfl, h1, h2, hn1, hn2, h3⟩ := net2_some h
  clear h
  simp only [List.cons.injEq, Value.slice.injEq, Option.some.injEq, Addr.mk.injEq, and_true, true_and] at e1
  obtain ⟨⟨rfl, rfl, rfl⟩, rfl, rfl, rfl⟩ := e1
  unfold fPut at h3
  split at h3
  rotate_left
  · cases h3
  rename_i hl
  have f1 := hf c1 (by simp)
  have f2 := hf c2 (by simp)
  have hK : mrgG 118 a b = mrgR kM a b := by unfold mrgG; rw [if_pos hl]; rfl
  have hml := mergeB_length kM a b
  have hfl := barCells_flat (mergeB kM a b)
  show Shows EC Tryz.f51 [sv 0 0 a.length (GC 3), sv 1 0 b.length (GC 3)] [c1, c2] _ _
  split at h3
  · rename_i hz
    cases h3
    exact Shows.ret [(4, (.slice (some ⟨2, 0, none⟩) ((mergeB kM a b).length) (GC 3))), (5, (.int .i64 0))] rfl (path_pf KC rfl (finC 2 [(2, .flat 3)] [4, 5]) [.oc (netI_ans (F := netE) (b := 0) (off := 0) (cap := GC 3) h1 hn1 f1 ({ m := mkT [(0, .ro c1), (1, .ro c2)] .nil, next := 2, low := 2 } : AHeap) (.inl rfl)), .oc (netI_ans (F := netE) (b := 1) (off := 0) (cap := GC 3) h2 hn2 f2 ({ m := mkT [(0, .ro c1), (1, .ro c2)] .nil, next := 2, low := 2 } : AHeap) (.inl rfl)), .go 1, .ov (Fa.ine0 .i64 (firstE [netE a, netE b]) 0 (by omega)), .go 1, .oc (mrg_ans (b1 := 0) (b2 := 1) hK h1 h2 hl f1 f2 ({ m := mkT [(0, .ro c1), (1, .ro c2), (2, .cells [(.int .i64 (netE a)), (.int .i64 (netE b))] 27)] .nil, next := 3, low := 2 } : AHeap) (.inl rfl) (.inl rfl)), .ov (Fa.igt0 .i64 (↑(mergeB kM a b).length) 4096 (by omega)), .go 1, .b f1, .b f2, .b hfl] (by kernel_rfl)) (by kernel_rfl) (fits_of (by simp only [List.all_cons, Row.fitsB, hfl, List.all_nil, Bool.and_true]))
  · rename_i hz
    cases h3
    have hz : 0 < firstE [netE a, netE b] := by have := netE_nn2 a b; omega
    exact Shows.ret [(4, (.slice none 0 0)), (5, (.int .i64 (firstE [netE a, netE b])))] rfl (path_pf KC rfl (finC 2 [] [4, 5]) [.oc (netI_ans (F := netE) (b := 0) (off := 0) (cap := GC 3) h1 hn1 f1 ({ m := mkT [(0, .ro c1), (1, .ro c2)] .nil, next := 2, low := 2 } : AHeap) (.inl rfl)), .oc (netI_ans (F := netE) (b := 1) (off := 0) (cap := GC 3) h2 hn2 f2 ({ m := mkT [(0, .ro c1), (1, .ro c2)] .nil, next := 2, low := 2 } : AHeap) (.inl rfl)), .go 1, .ov (Fa.ine1 .i64 (firstE [netE a, netE b]) 0 (by omega)), .go 1, .b f1, .b f2] (by kernel_rfl)) (by kernel_rfl) noRow
noncomputable def tD : T (List Value → AHeap → Option (Value × AHeap)) := ((tC.put 50 (gPut kU)).put 37 (gPut kD)).put 51 (gPut kM)
theorem tD_ok : T.All (fun f g => IntrOk E0 f g) tD (fun j => j) := allT_put (allT_put (allT_put tC_ok c50) c37p) c51
noncomputable def ED : Env := { P := Tryz.prog, fn := fnTab, ty := tyTab, intr := tD }
theorem KD : ED.Runs := runs_intr fnAll tyAll mixed tD_ok
end Go.Proofs.YtlkhpgocbojdgaaGreatDoor.Ai

/-
  CONTRACTS: a permutation drawn by a key, in the program and in its reference.
-/
import Derived.Test.YtlkhpgocbojdgaaGreatDoorNtName
namespace Go.Proofs.YtlkhpgocbojdgaaGreatDoor.Ai
open Go
set_option linter.unusedSimpArgs false
set_option linter.unusedVariables false

def idL (k : Nat) : List Int := (List.range k).map Int.ofNat
theorem idL_succ (k : Nat) : idL (k + 1) = idL k ++ [(k : Int)] := by
  unfold idL
  rw [List.range_succ, List.map_append]
  rfl
theorem idL_length (k : Nat) : (idL k).length = k := by simp [idL]
theorem ivs_length (l : List Int) : (ivs l).length = l.length := by simp [ivs]
theorem ivs_append (a b : List Int) : ivs (a ++ b) = ivs a ++ ivs b := by simp [ivs]
theorem ivs_flat (l : List Int) : (ivs l).all flatCell = true := by
  rw [List.all_eq_true]
  intro v hv
  obtain ⟨a, _, rfl⟩ := List.mem_map.1 hv
  rfl
theorem ivs_one (l : List Int) : (ivs l).all (·.oneCell') = true := by
  rw [List.all_eq_true]
  intro v hv
  obtain ⟨a, _, rfl⟩ := List.mem_map.1 hv
  rfl
/-- The swaps from place k down. -/
def drawL : Nat → Int → List Int → List Int
  | 0, _, l => l
  | k + 1, key, l => drawL k ((39373 * key).tmod 2147483647) ((l.set (k + 1) (l.getD ((((39373 * key).tmod 2147483647).tmod ((k : Int) + 1 + 1)).toNat) 0)).set ((((39373 * key).tmod 2147483647).tmod ((k : Int) + 1 + 1)).toNat) (l.getD (k + 1) 0))
theorem drawL_length : ∀ (k : Nat) (key : Int) (l : List Int), (drawL k key l).length = l.length
  | 0, _, _ => rfl
  | k + 1, key, l => by
    unfold drawL
    rw [drawL_length k, List.length_set, List.length_set]
theorem ivs_rd {l : List Int} {q : Nat} (h : q < l.length) : slice? (ivs l) q 1 = some [iv (l.getD q 0)] := by
  have := rd_iv (c := ivs l) (off := 0) (l := l) (k := q) (x := l.getD q 0) (by
    unfold slice?
    dsimp only
    rw [List.drop_zero, List.take_of_length_le (by rw [ivs_length]; exact Nat.le_refl _), ivs_length, show Nat.beq l.length l.length = true from Nat.beq_refl _]) (by
    rw [List.getElem?_eq_getElem h, List.getD_eq_getElem?_getD, List.getElem?_eq_getElem h]; rfl)
  rwa [Nat.zero_add] at this
theorem ivs_wr {l : List Int} {q : Nat} {a : Int} (h : q < l.length) : splice (ivs l) q [iv a] = some (ivs (l.set q a)) := by
  unfold splice
  have hb : Nat.ble (q + [iv a].length) (ivs l).length = true := Nat.ble_eq_true_of_le (by rw [ivs_length]; exact h)
  rw [hb]
  congr 1
  unfold ivs
  rw [List.map_set, List.set_eq_take_append_cons_drop]
  simp [h]
theorem ivs_all {l : List Int} {n : Nat} (h : l.length = n) : slice? (ivs l) 0 n = some (ivs l) := by
  subst h
  unfold slice?
  dsimp only
  rw [List.drop_zero, List.take_of_length_le (by rw [ivs_length]; exact Nat.le_refl _), ivs_length, show Nat.beq l.length l.length = true from Nat.beq_refl _]

noncomputable def st75 (key : Int) (n k : Nat) : ASt := finSt [] [.flat (ivs (idL k)) 3] [(0, iv key), (1, iv n), (5, .slice (some ⟨0, 0, none⟩) k (GC 1)), (6, iv k)]
noncomputable def fn75 (key : Int) (n : Nat) : ASt := finSt [] [.flat (ivs (idL n)) 3] [(0, iv key), (1, iv n), (5, .slice (some ⟨0, 0, none⟩) n (GC 1))]
noncomputable def lp75 : Code := sub [1, 1, 0, 1, 0, 0] (bodyOf Tryz.f75)
noncomputable def st75b (key : Int) (l : List Int) (n : Nat) (k : Int) : ASt := finSt [] [.flat (ivs l) 3] [(0, iv key), (5, .slice (some ⟨0, 0, none⟩) n (GC 1)), (7, iv k)]
noncomputable def fn75b (l : List Int) (n : Nat) : ASt := finSt [] [.flat (ivs l) 3] [(5, .slice (some ⟨0, 0, none⟩) n (GC 1))]
noncomputable def lp75b : Code := sub [1, 1, 1, 0, 1, 0, 0] (bodyOf Tryz.f75)
noncomputable def st73 (key : Int) (n k : Nat) : ASt := finSt [] [.flat (ivs (idL k)) 3] [(0, iv key), (1, iv n), (7, .slice (some ⟨0, 0, none⟩) k (GC 1)), (22, iv n), (23, iv k)]
noncomputable def fn73 (key : Int) (n : Nat) : ASt := finSt [] [.flat (ivs (idL n)) 3] [(0, iv key), (1, iv n), (7, .slice (some ⟨0, 0, none⟩) n (GC 1))]
noncomputable def lp73 : Code := sub [1, 1, 1, 0, 1, 0, 0] (bodyOf Tryz.f73)
noncomputable def st73b (key : Int) (l : List Int) (n : Nat) (k : Int) : ASt := finSt [] [.flat (ivs l) 3] [(9, .slice (some ⟨0, 0, none⟩) n n), (10, iv key), (11, iv k)]
noncomputable def fn73b (l : List Int) (n : Nat) : ASt := finSt [] [.flat (ivs l) 3] [(9, .slice (some ⟨0, 0, none⟩) n n)]
noncomputable def lp73b : Code := sub [1, 1, 1, 1, 1, 1, 1, 0, 1, 0, 0] (bodyOf Tryz.f73)

theorem loop75 (key : Int) (n : Nat) (hn : n ≤ 256) : ∀ (d k : Nat), k + d = n → LoopR E8 none (roH []) lp75 (st75 key n k) (.exit 0) (fn75 key n)
  | 0, k, hk => by
    refine LoopR.out ?_ nofun
    obtain rfl : k = n := by omega
    have hf := ivs_flat (idL k)
    exact path_pf K8 rfl (finC 0 [(0, .flat 0)] [0, 1, 5]) [.ov (Fa.ilt0 .i64 ↑k ↑k (by omega)), .go 1, .b hf] (by kernel_rfl)
  | d + 1, k, hk => by
    refine LoopR.next ?_ (loop75 key n hn d (k + 1) (by omega))
    have hl : Nat.beq (ivs (idL k)).length (k * 1) = true := by rw [ivs_length, idL_length, Nat.mul_one]; exact Nat.beq_refl _
    have hb : Nat.ble ((k + 1) * 8) 1099511627776 = true := Nat.ble_eq_true_of_le (by omega)
    have hw : ivs (idL k) ++ [iv k] = ivs (idL (k + 1)) := by rw [idL_succ, ivs_append]; rfl
    have hf := ivs_flat (idL (k + 1))
    exact path_pf K8 rfl (finC 0 [(0, .flat 2)] [0, 1, 5, 6]) [.ov (Fa.ilt1 .i64 ↑k ↑n (by omega)), .go 6, .b (Fa.and1 (Fa.and1 rfl hl) rfl), .b (Fa.and1 (Fa.and1 hb (Fa.blt1 (k + 1) 4611686018427387904 (by omega))) rfl), .n (show (k + 1) = (k + 1) from rfl), .l hw, .ov (Fa.iadd ↑k 1 (by omega) (by omega)), .b hf] (by kernel_rfl)

theorem loop73 (key : Int) (n : Nat) (hn : n ≤ 256) : ∀ (d k : Nat), k + d = n → LoopR E8 none (roH []) lp73 (st73 key n k) (.exit 0) (fn73 key n)
  | 0, k, hk => by
    refine LoopR.out ?_ nofun
    obtain rfl : k = n := by omega
    have hf := ivs_flat (idL k)
    exact path_pf K8 rfl (finC 0 [(0, .flat 0)] [0, 1, 7]) [.ov (Fa.ilt0 .i64 ↑k ↑k (by omega)), .go 1, .b hf] (by kernel_rfl)
  | d + 1, k, hk => by
    refine LoopR.next ?_ (loop73 key n hn d (k + 1) (by omega))
    have hl : Nat.beq (ivs (idL k)).length (k * 1) = true := by rw [ivs_length, idL_length, Nat.mul_one]; exact Nat.beq_refl _
    have hb : Nat.ble ((k + 1) * 8) 1099511627776 = true := Nat.ble_eq_true_of_le (by omega)
    have hw : ivs (idL k) ++ [iv k] = ivs (idL (k + 1)) := by rw [idL_succ, ivs_append]; rfl
    have hf := ivs_flat (idL (k + 1))
    exact path_pf K8 rfl (finC 0 [(0, .flat 2)] [0, 1, 7, 22, 23]) [.ov (Fa.ilt1 .i64 ↑k ↑n (by omega)), .go 6, .b (Fa.and1 (Fa.and1 rfl hl) rfl), .b (Fa.and1 (Fa.and1 hb (Fa.blt1 (k + 1) 4611686018427387904 (by omega))) rfl), .n (show (k + 1) = (k + 1) from rfl), .l hw, .ov (Fa.iadd ↑k 1 (by omega) (by omega)), .b hf] (by kernel_rfl)

theorem loop75b (n : Nat) (hn : n ≤ 256) : ∀ (k : Nat) (key : Int) (l : List Int), l.length = n → (k = 0 ∨ k < n) → 0 ≤ key → key < 2147483647 → LoopR E8 none (roH []) lp75b (st75b key l n k) (.exit 2) (fn75b (drawL k key l) n)
  | 0, key, l, hl, hk, h0, h1 => by
    refine LoopR.out ?_ nofun
    have hf := ivs_flat l
    exact path_pf K8 rfl (finC 0 [(0, .flat 0)] [5]) [.go 2, .b hf] (by kernel_rfl)
  | k + 1, key, l, hl, hk, h0, h1 => by
    have hk2 : k + 1 < n := by omega
    have e : drawL (k + 1) key l = drawL k ((39373 * key).tmod 2147483647) ((l.set (k + 1) (l.getD ((((39373 * key).tmod 2147483647).tmod ((k : Int) + 1 + 1)).toNat) 0)).set ((((39373 * key).tmod 2147483647).tmod ((k : Int) + 1 + 1)).toNat) (l.getD (k + 1) 0)) := rfl
    have hx : Fa.intA0 .rem .i64 (39373 * key) 2147483647 = some (iv ((39373 * key).tmod 2147483647)) := Fa.irem .i64 _ _ (by omega)
    have hx0 : 0 ≤ (39373 * key).tmod 2147483647 := Int.tmod_nonneg _ (by omega)
    have hx1 : (39373 * key).tmod 2147483647 < 2147483647 := Int.tmod_lt_of_pos _ (by omega)
    generalize (39373 * key).tmod 2147483647 = x at e hx hx0 hx1
    have hq0 : 0 ≤ x.tmod ((k : Int) + 1 + 1) := Int.tmod_nonneg _ hx0
    have hq1 : x.tmod ((k : Int) + 1 + 1) < (k : Int) + 1 + 1 := Int.tmod_lt_of_pos _ (by omega)
    have hq : Fa.intA0 .rem .i64 x (((k + 1 : Nat) : Int) + 1) = some (iv (x.tmod ((k : Int) + 1 + 1)).toNat) := by
      rw [Fa.irem .i64 _ _ (by omega), Int.toNat_of_nonneg hq0]
      rfl
    have hqk : (x.tmod ((k : Int) + 1 + 1)).toNat ≤ k + 1 := by omega
    generalize (x.tmod ((k : Int) + 1 + 1)).toNat = q at e hq hqk
    have r1 := ivs_rd (l := l) (q := q) (by omega)
    have r2 := ivs_rd (l := l) (q := k + 1) (by omega)
    generalize l.getD q 0 = b at e r1
    generalize l.getD (k + 1) 0 = a at e r2
    have s1 := ivs_wr (l := l) (q := k + 1) (a := b) (by omega)
    have s2 := ivs_wr (l := l.set (k + 1) b) (q := q) (a := a) (by rw [List.length_set]; omega)
    have hf := ivs_flat ((l.set (k + 1) b).set q a)
    have ih := loop75b n hn k x ((l.set (k + 1) b).set q a) (by rw [List.length_set, List.length_set]; exact hl) (by omega) hx0 hx1
    rw [show ((k : Nat) : Int) = ((k + 1 : Nat) : Int) - 1 by omega] at ih
    rw [e]
    generalize hm : k + 1 = m at *
    refine LoopR.next ?_ ih
    exact path_pf K8 rfl (finC 0 [(0, .flat 0)] [0, 5, 7]) [.ov (Fa.igt1 .i64 ↑m 0 (by omega)), .go 1, .ov (Fa.imul 39373 key (by omega) (by omega)), .ov hx, .ov (Fa.iadd ↑m 1 (by omega) (by omega)), .ov hq, .go 1, .b (Fa.blt1 q n (by omega)), .n (show (0 + q * 1) = q from by omega), .ol r1, .go 1, .b (Fa.blt1 m n (by omega)), .n (show (0 + m * 1) = m from by omega), .ol r2, .go 1, .b (Fa.blt1 m n (by omega)), .n (show (0 + m * 1) = m from by omega), .ol s1, .go 1, .b (Fa.blt1 q n (by omega)), .n (show (0 + q * 1) = q from by omega), .ol s2, .ov (Fa.isub ↑m 1 (by omega) (by omega)), .b hf] (by kernel_rfl)

theorem loop73b (n : Nat) (hn : n ≤ 256) : ∀ (k : Nat) (key : Int) (l : List Int), l.length = n → (k = 0 ∨ k < n) → 0 ≤ key → key < 2147483647 → LoopR E8 none (roH []) lp73b (st73b key l n k) (.exit 2) (fn73b (drawL k key l) n)
  | 0, key, l, hl, hk, h0, h1 => by
    refine LoopR.out ?_ nofun
    have hf := ivs_flat l
    exact path_pf K8 rfl (finC 0 [(0, .flat 0)] [9]) [.go 2, .b hf] (by kernel_rfl)
  | k + 1, key, l, hl, hk, h0, h1 => by
    have hk2 : k + 1 < n := by omega
    have e : drawL (k + 1) key l = drawL k ((39373 * key).tmod 2147483647) ((l.set (k + 1) (l.getD ((((39373 * key).tmod 2147483647).tmod ((k : Int) + 1 + 1)).toNat) 0)).set ((((39373 * key).tmod 2147483647).tmod ((k : Int) + 1 + 1)).toNat) (l.getD (k + 1) 0)) := rfl
    have hx : Fa.intA0 .rem .i64 (39373 * key) 2147483647 = some (iv ((39373 * key).tmod 2147483647)) := Fa.irem .i64 _ _ (by omega)
    have hx0 : 0 ≤ (39373 * key).tmod 2147483647 := Int.tmod_nonneg _ (by omega)
    have hx1 : (39373 * key).tmod 2147483647 < 2147483647 := Int.tmod_lt_of_pos _ (by omega)
    generalize (39373 * key).tmod 2147483647 = x at e hx hx0 hx1
    have hq0 : 0 ≤ x.tmod ((k : Int) + 1 + 1) := Int.tmod_nonneg _ hx0
    have hq1 : x.tmod ((k : Int) + 1 + 1) < (k : Int) + 1 + 1 := Int.tmod_lt_of_pos _ (by omega)
    have hq : Fa.intA0 .rem .i64 x (((k + 1 : Nat) : Int) + 1) = some (iv (x.tmod ((k : Int) + 1 + 1)).toNat) := by
      rw [Fa.irem .i64 _ _ (by omega), Int.toNat_of_nonneg hq0]
      rfl
    have hqk : (x.tmod ((k : Int) + 1 + 1)).toNat ≤ k + 1 := by omega
    generalize (x.tmod ((k : Int) + 1 + 1)).toNat = q at e hq hqk
    have r1 := ivs_rd (l := l) (q := q) (by omega)
    have r2 := ivs_rd (l := l) (q := k + 1) (by omega)
    generalize l.getD q 0 = b at e r1
    generalize l.getD (k + 1) 0 = a at e r2
    have s1 := ivs_wr (l := l) (q := k + 1) (a := b) (by omega)
    have s2 := ivs_wr (l := l.set (k + 1) b) (q := q) (a := a) (by rw [List.length_set]; omega)
    have hf := ivs_flat ((l.set (k + 1) b).set q a)
    have ih := loop73b n hn k x ((l.set (k + 1) b).set q a) (by rw [List.length_set, List.length_set]; exact hl) (by omega) hx0 hx1
    rw [show ((k : Nat) : Int) = ((k + 1 : Nat) : Int) - 1 by omega] at ih
    rw [e]
    generalize hm : k + 1 = m at *
    refine LoopR.next ?_ ih
    exact path_pf K8 rfl (finC 0 [(0, .flat 0)] [9, 10, 11]) [.ov (Fa.igt1 .i64 ↑m 0 (by omega)), .go 1, .ov (Fa.imul 39373 key (by omega) (by omega)), .ov hx, .ov (Fa.iadd ↑m 1 (by omega) (by omega)), .ov hq, .go 1, .b (Fa.blt1 q n (by omega)), .n (show (0 + q * 1) = q from by omega), .ol r1, .go 1, .b (Fa.blt1 m n (by omega)), .n (show (0 + m * 1) = m from by omega), .ol r2, .go 1, .b (Fa.blt1 m n (by omega)), .n (show (0 + m * 1) = m from by omega), .ol s1, .go 1, .b (Fa.blt1 q n (by omega)), .n (show (0 + q * 1) = q from by omega), .ol s2, .ov (Fa.isub ↑m 1 (by omega) (by omega)), .b hf] (by kernel_rfl)
end Go.Proofs.YtlkhpgocbojdgaaGreatDoor.Ai

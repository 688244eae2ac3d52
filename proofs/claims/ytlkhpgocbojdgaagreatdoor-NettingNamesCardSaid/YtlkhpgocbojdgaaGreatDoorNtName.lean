/-
  CONTRACTS: names, in the program (by runes) and in its reference (by bytes).
-/
import Derived.Test.YtlkhpgocbojdgaaGreatDoorNtAwake
import Derived.Lib.OthersKept
namespace Go.Proofs.YtlkhpgocbojdgaaGreatDoor.Ai
open Go
set_option linter.unusedSimpArgs false
set_option linter.unusedVariables false

/-- A byte that a name cannot have, at its head or behind it. -/
abbrev badC (hd : Prop) (c : Int) : Prop := ¬ (65 ≤ c ∧ c ≤ 90 ∨ 97 ≤ c ∧ c ≤ 122) ∧ (hd ∨ ¬ c = 95 ∧ (c < 48 ∨ 57 < c))
/-- From byte i on: the number of bytes left. -/
def nameFrom (z : ByteArray) : Nat → Nat → Bool
  | 0, _ => true
  | d + 1, i => if badC (i = 0) (z.get! i).toNat then false else nameFrom z d (i + 1)
def isName (z : ByteArray) : Bool := if z.size = 0 ∨ 24 < z.size then false else nameFrom z z.size 0
def fName (ts : List Value) (cs : List (List Value)) : Option (Value × List Row) :=
  match ts, cs with
  | [.string z], [] => some (.bool (isName z), [])
  | _, _ => none

theorem high_rune {z : ByteArray} {i : Nat} (h : ¬ (z.get! i).toNat < 128) : 128 ≤ (Utf8.decode z i).1 := by
  have e : Utf8.runeError = 65533 := rfl
  unfold Utf8.decode
  dsimp only
  split
  · rename_i q; exact absurd q h
  · repeat' split
    all_goals (simp only [Bool.and_eq_true, decide_eq_true_eq] at *; first | omega | (rw [e]; omega))
theorem str_at {z : ByteArray} {k : Nat} (h : k < z.size) : strAt z k = some (.int .u8 ((z.get! k).toNat : Int)) := by
  have h' : k < z.data.size := h
  unfold strAt
  rw [Array.getElem?_toList, Array.getElem?_eq_getElem h']
  have e : z.get! k = z.data[k] := by
    show z.data.getD k default = _
    rw [Array.getD_eq_getD_getElem?, Array.getElem?_eq_getElem h']
    rfl
  rw [e]
noncomputable def st77 (z : ByteArray) (k : Nat) : ASt := finSt [] [] [(0, .string z), (3, iv k)]
noncomputable def lp77 : Code := sub [1, 1, 0, 1, 0, 0] (bodyOf Tryz.f77)
noncomputable def st76 (z : ByteArray) (k : Nat) : ASt := { tmps := mkT [(15, ptr 0)] .nil, heap := { m := mkT [(0, .strIter z k)] .nil, next := 1, low := 0 }, marks := [] }
noncomputable def lp76 : Code := sub [1, 1, 0, 1, 0, 0] (bodyOf Tryz.f76)
def sp76 : Can := { next := 1, blocks := [(0, .flat 0)], tmps := [(15, .same)] }

theorem loop77 (z : ByteArray) (hz : z.size < 100) : ∀ (d k : Nat), k + d = z.size →
    (nameFrom z d k = true → LoopR E8 none (roH []) lp77 (st77 z k) (.exit 0) (finSt [] [] [])) ∧
    (nameFrom z d k = false → LoopR E8 none (roH []) lp77 (st77 z k) .ret (finSt [] [] [(2, bv false)]))
  | 0, k, hk => by
    refine ⟨fun _ => LoopR.out ?_ nofun, fun h => (by cases h)⟩
    exact path_pf K8 rfl (finC 0 [] []) [.ov (Fa.ilt0 .i64 ↑k ↑z.size (by omega)), .go 1] (by kernel_rfl)
  | d + 1, k, hk => by
    obtain ⟨i1, i2⟩ := loop77 z hz d (k + 1) (by omega)
    have hs := str_at (z := z) (k := k) (by omega)
    have hc : (z.get! k).toNat < 256 := (z.get! k).toNat_lt
    by_cases hb : badC (k = 0) (z.get! k).toNat
    · have e : nameFrom z (d + 1) k = false := by rw [nameFrom, if_pos hb]
      rw [e]
      refine ⟨fun h => (by cases h), fun _ => LoopR.out ?_ nofun⟩
      by_cases b0 : 97 ≤ ↑(z.get! k).toNat
      · by_cases b1 : ↑k = 0
        · exact path_pf K8 rfl (finC 0 [] [2]) [.ov (Fa.ilt1 .i64 ↑k ↑z.size (by omega)), .go 2, .ov hs, .ov (Fa.ige1 .u8 (↑(z.get! k).toNat) 97 (by omega)), .go 2, .ov (Fa.ile0 .u8 (↑(z.get! k).toNat) 122 (by omega)), .go 3, .ov (Fa.ige1 .u8 (↑(z.get! k).toNat) 65 (by omega)), .go 3, .ov (Fa.ile0 .u8 (↑(z.get! k).toNat) 90 (by omega)), .go 6, .ov (Fa.ieq1 .i64 ↑k 0 (by omega)), .go 9] (by kernel_rfl)
        · exact path_pf K8 rfl (finC 0 [] [2]) [.ov (Fa.ilt1 .i64 ↑k ↑z.size (by omega)), .go 2, .ov hs, .ov (Fa.ige1 .u8 (↑(z.get! k).toNat) 97 (by omega)), .go 2, .ov (Fa.ile0 .u8 (↑(z.get! k).toNat) 122 (by omega)), .go 3, .ov (Fa.ige1 .u8 (↑(z.get! k).toNat) 65 (by omega)), .go 3, .ov (Fa.ile0 .u8 (↑(z.get! k).toNat) 90 (by omega)), .go 6, .ov (Fa.ieq0 .i64 ↑k 0 (by omega)), .go 3, .ov (Fa.ine1 .u8 (↑(z.get! k).toNat) 95 (by omega)), .go 3, .ov (Fa.ilt0 .u8 (↑(z.get! k).toNat) 48 (by omega)), .go 3, .ov (Fa.igt1 .u8 (↑(z.get! k).toNat) 57 (by omega)), .go 8] (by kernel_rfl)
      · by_cases b1 : 65 ≤ ↑(z.get! k).toNat
        · by_cases b2 : ↑k = 0
          · exact path_pf K8 rfl (finC 0 [] [2]) [.ov (Fa.ilt1 .i64 ↑k ↑z.size (by omega)), .go 2, .ov hs, .ov (Fa.ige0 .u8 (↑(z.get! k).toNat) 97 (by omega)), .go 5, .ov (Fa.ige1 .u8 (↑(z.get! k).toNat) 65 (by omega)), .go 3, .ov (Fa.ile0 .u8 (↑(z.get! k).toNat) 90 (by omega)), .go 6, .ov (Fa.ieq1 .i64 ↑k 0 (by omega)), .go 9] (by kernel_rfl)
          · exact path_pf K8 rfl (finC 0 [] [2]) [.ov (Fa.ilt1 .i64 ↑k ↑z.size (by omega)), .go 2, .ov hs, .ov (Fa.ige0 .u8 (↑(z.get! k).toNat) 97 (by omega)), .go 5, .ov (Fa.ige1 .u8 (↑(z.get! k).toNat) 65 (by omega)), .go 3, .ov (Fa.ile0 .u8 (↑(z.get! k).toNat) 90 (by omega)), .go 6, .ov (Fa.ieq0 .i64 ↑k 0 (by omega)), .go 3, .ov (Fa.ine1 .u8 (↑(z.get! k).toNat) 95 (by omega)), .go 3, .ov (Fa.ilt0 .u8 (↑(z.get! k).toNat) 48 (by omega)), .go 3, .ov (Fa.igt1 .u8 (↑(z.get! k).toNat) 57 (by omega)), .go 8] (by kernel_rfl)
        · by_cases b2 : ↑k = 0
          · exact path_pf K8 rfl (finC 0 [] [2]) [.ov (Fa.ilt1 .i64 ↑k ↑z.size (by omega)), .go 2, .ov hs, .ov (Fa.ige0 .u8 (↑(z.get! k).toNat) 97 (by omega)), .go 5, .ov (Fa.ige0 .u8 (↑(z.get! k).toNat) 65 (by omega)), .go 9, .ov (Fa.ieq1 .i64 ↑k 0 (by omega)), .go 9] (by kernel_rfl)
          · by_cases b3 : ↑(z.get! k).toNat < 48
            · exact path_pf K8 rfl (finC 0 [] [2]) [.ov (Fa.ilt1 .i64 ↑k ↑z.size (by omega)), .go 2, .ov hs, .ov (Fa.ige0 .u8 (↑(z.get! k).toNat) 97 (by omega)), .go 5, .ov (Fa.ige0 .u8 (↑(z.get! k).toNat) 65 (by omega)), .go 9, .ov (Fa.ieq0 .i64 ↑k 0 (by omega)), .go 3, .ov (Fa.ine1 .u8 (↑(z.get! k).toNat) 95 (by omega)), .go 3, .ov (Fa.ilt1 .u8 (↑(z.get! k).toNat) 48 (by omega)), .go 11] (by kernel_rfl)
            · exact path_pf K8 rfl (finC 0 [] [2]) [.ov (Fa.ilt1 .i64 ↑k ↑z.size (by omega)), .go 2, .ov hs, .ov (Fa.ige0 .u8 (↑(z.get! k).toNat) 97 (by omega)), .go 5, .ov (Fa.ige0 .u8 (↑(z.get! k).toNat) 65 (by omega)), .go 9, .ov (Fa.ieq0 .i64 ↑k 0 (by omega)), .go 3, .ov (Fa.ine1 .u8 (↑(z.get! k).toNat) 95 (by omega)), .go 3, .ov (Fa.ilt0 .u8 (↑(z.get! k).toNat) 48 (by omega)), .go 3, .ov (Fa.igt1 .u8 (↑(z.get! k).toNat) 57 (by omega)), .go 8] (by kernel_rfl)
    · have e : nameFrom z (d + 1) k = nameFrom z d (k + 1) := by rw [nameFrom, if_neg hb]
      rw [e]
      have q : Den E8 none (roH []) lp77 (st77 z k) .normal (st77 z (k + 1)) := by
        by_cases b0 : 97 ≤ ↑(z.get! k).toNat
        · exact path_pf K8 rfl (finC 0 [] [0, 3]) [.ov (Fa.ilt1 .i64 ↑k ↑z.size (by omega)), .go 2, .ov hs, .ov (Fa.ige1 .u8 (↑(z.get! k).toNat) 97 (by omega)), .go 2, .ov (Fa.ile1 .u8 (↑(z.get! k).toNat) 122 (by omega)), .go 13, .ov (Fa.iadd ↑k 1 (by omega) (by omega))] (by kernel_rfl)
        · by_cases b1 : 65 ≤ ↑(z.get! k).toNat
          · by_cases b2 : ↑(z.get! k).toNat ≤ 90
            · exact path_pf K8 rfl (finC 0 [] [0, 3]) [.ov (Fa.ilt1 .i64 ↑k ↑z.size (by omega)), .go 2, .ov hs, .ov (Fa.ige0 .u8 (↑(z.get! k).toNat) 97 (by omega)), .go 5, .ov (Fa.ige1 .u8 (↑(z.get! k).toNat) 65 (by omega)), .go 3, .ov (Fa.ile1 .u8 (↑(z.get! k).toNat) 90 (by omega)), .go 10, .ov (Fa.iadd ↑k 1 (by omega) (by omega))] (by kernel_rfl)
            · exact path_pf K8 rfl (finC 0 [] [0, 3]) [.ov (Fa.ilt1 .i64 ↑k ↑z.size (by omega)), .go 2, .ov hs, .ov (Fa.ige0 .u8 (↑(z.get! k).toNat) 97 (by omega)), .go 5, .ov (Fa.ige1 .u8 (↑(z.get! k).toNat) 65 (by omega)), .go 3, .ov (Fa.ile0 .u8 (↑(z.get! k).toNat) 90 (by omega)), .go 6, .ov (Fa.ieq0 .i64 ↑k 0 (by omega)), .go 3, .ov (Fa.ine0 .u8 (↑(z.get! k).toNat) 95 (by omega)), .go 11, .ov (Fa.iadd ↑k 1 (by omega) (by omega))] (by kernel_rfl)
          · exact path_pf K8 rfl (finC 0 [] [0, 3]) [.ov (Fa.ilt1 .i64 ↑k ↑z.size (by omega)), .go 2, .ov hs, .ov (Fa.ige0 .u8 (↑(z.get! k).toNat) 97 (by omega)), .go 5, .ov (Fa.ige0 .u8 (↑(z.get! k).toNat) 65 (by omega)), .go 9, .ov (Fa.ieq0 .i64 ↑k 0 (by omega)), .go 3, .ov (Fa.ine1 .u8 (↑(z.get! k).toNat) 95 (by omega)), .go 3, .ov (Fa.ilt0 .u8 (↑(z.get! k).toNat) 48 (by omega)), .go 3, .ov (Fa.igt0 .u8 (↑(z.get! k).toNat) 57 (by omega)), .go 8, .ov (Fa.iadd ↑k 1 (by omega) (by omega))] (by kernel_rfl)
      exact ⟨fun h => LoopR.next q (i1 h), fun h => LoopR.next q (i2 h)⟩

theorem loop76 (z : ByteArray) (hz : z.size < 100) : ∀ (d k : Nat), k + d = z.size →
    (nameFrom z d k = true → LoopR E8 none (roH []) lp76 (st76 z k) (.exit 0) (finSt [] [] [])) ∧
    (nameFrom z d k = false → LoopR E8 none (roH []) lp76 (st76 z k) .ret (finSt [] [] [(2, bv false)]))
  | 0, k, hk => by
    refine ⟨fun _ => LoopR.out ?_ nofun, fun h => (by cases h)⟩
    exact path_pf K8 rfl (finC 0 [] []) [.b (Fa.blt0 k z.size (by omega)), .go 1] (by kernel_rfl)
  | d + 1, k, hk => by
    obtain ⟨i1, i2⟩ := loop76 z hz d (k + 1) (by omega)
    have hc : (z.get! k).toNat < 256 := (z.get! k).toNat_lt
    by_cases ha : (z.get! k).toNat < 128
    · have hd : Utf8.decode z k = ((z.get! k).toNat, 1) := by
        unfold Utf8.decode
        dsimp only
        rw [if_pos (by exact ha)]
        rfl
      have hv : Value.int .i32 ((Utf8.decode z k).1 : Nat) = .int .i32 ((z.get! k).toNat : Nat) := by rw [hd]
      have hp : k + (Utf8.decode z k).2 = k + 1 := by rw [hd]
      by_cases hb : badC (k = 0) (z.get! k).toNat
      · have e : nameFrom z (d + 1) k = false := by rw [nameFrom, if_pos hb]
        rw [e]
        refine ⟨fun h => (by cases h), fun _ => LoopR.out ?_ nofun⟩
        by_cases b0 : 65 ≤ ↑(z.get! k).toNat
        · by_cases b1 : 97 ≤ ↑(z.get! k).toNat
          · by_cases b2 : ↑k = 0
            · exact path_pf K8 rfl (finC 0 [] [2]) [.b (Fa.blt1 k z.size (by omega)), .v hv, .n hp, .go 1, .ov (Fa.ige1 .i32 (↑(z.get! k).toNat) 65 (by omega)), .go 2, .ov (Fa.ile0 .i32 (↑(z.get! k).toNat) 90 (by omega)), .go 3, .ov (Fa.ige1 .i32 (↑(z.get! k).toNat) 97 (by omega)), .go 3, .ov (Fa.ile0 .i32 (↑(z.get! k).toNat) 122 (by omega)), .go 6, .ov (Fa.ieq1 .i64 ↑k 0 (by omega)), .go 9] (by kernel_rfl)
            · exact path_pf K8 rfl (finC 0 [] [2]) [.b (Fa.blt1 k z.size (by omega)), .v hv, .n hp, .go 1, .ov (Fa.ige1 .i32 (↑(z.get! k).toNat) 65 (by omega)), .go 2, .ov (Fa.ile0 .i32 (↑(z.get! k).toNat) 90 (by omega)), .go 3, .ov (Fa.ige1 .i32 (↑(z.get! k).toNat) 97 (by omega)), .go 3, .ov (Fa.ile0 .i32 (↑(z.get! k).toNat) 122 (by omega)), .go 6, .ov (Fa.ieq0 .i64 ↑k 0 (by omega)), .go 3, .ov (Fa.ine1 .i32 (↑(z.get! k).toNat) 95 (by omega)), .go 3, .ov (Fa.ilt0 .i32 (↑(z.get! k).toNat) 48 (by omega)), .go 3, .ov (Fa.igt1 .i32 (↑(z.get! k).toNat) 57 (by omega)), .go 8] (by kernel_rfl)
          · by_cases b2 : ↑k = 0
            · exact path_pf K8 rfl (finC 0 [] [2]) [.b (Fa.blt1 k z.size (by omega)), .v hv, .n hp, .go 1, .ov (Fa.ige1 .i32 (↑(z.get! k).toNat) 65 (by omega)), .go 2, .ov (Fa.ile0 .i32 (↑(z.get! k).toNat) 90 (by omega)), .go 3, .ov (Fa.ige0 .i32 (↑(z.get! k).toNat) 97 (by omega)), .go 9, .ov (Fa.ieq1 .i64 ↑k 0 (by omega)), .go 9] (by kernel_rfl)
            · exact path_pf K8 rfl (finC 0 [] [2]) [.b (Fa.blt1 k z.size (by omega)), .v hv, .n hp, .go 1, .ov (Fa.ige1 .i32 (↑(z.get! k).toNat) 65 (by omega)), .go 2, .ov (Fa.ile0 .i32 (↑(z.get! k).toNat) 90 (by omega)), .go 3, .ov (Fa.ige0 .i32 (↑(z.get! k).toNat) 97 (by omega)), .go 9, .ov (Fa.ieq0 .i64 ↑k 0 (by omega)), .go 3, .ov (Fa.ine1 .i32 (↑(z.get! k).toNat) 95 (by omega)), .go 3, .ov (Fa.ilt0 .i32 (↑(z.get! k).toNat) 48 (by omega)), .go 3, .ov (Fa.igt1 .i32 (↑(z.get! k).toNat) 57 (by omega)), .go 8] (by kernel_rfl)
        · by_cases b1 : ↑k = 0
          · exact path_pf K8 rfl (finC 0 [] [2]) [.b (Fa.blt1 k z.size (by omega)), .v hv, .n hp, .go 1, .ov (Fa.ige0 .i32 (↑(z.get! k).toNat) 65 (by omega)), .go 5, .ov (Fa.ige0 .i32 (↑(z.get! k).toNat) 97 (by omega)), .go 9, .ov (Fa.ieq1 .i64 ↑k 0 (by omega)), .go 9] (by kernel_rfl)
          · by_cases b2 : ↑(z.get! k).toNat < 48
            · exact path_pf K8 rfl (finC 0 [] [2]) [.b (Fa.blt1 k z.size (by omega)), .v hv, .n hp, .go 1, .ov (Fa.ige0 .i32 (↑(z.get! k).toNat) 65 (by omega)), .go 5, .ov (Fa.ige0 .i32 (↑(z.get! k).toNat) 97 (by omega)), .go 9, .ov (Fa.ieq0 .i64 ↑k 0 (by omega)), .go 3, .ov (Fa.ine1 .i32 (↑(z.get! k).toNat) 95 (by omega)), .go 3, .ov (Fa.ilt1 .i32 (↑(z.get! k).toNat) 48 (by omega)), .go 11] (by kernel_rfl)
            · exact path_pf K8 rfl (finC 0 [] [2]) [.b (Fa.blt1 k z.size (by omega)), .v hv, .n hp, .go 1, .ov (Fa.ige0 .i32 (↑(z.get! k).toNat) 65 (by omega)), .go 5, .ov (Fa.ige0 .i32 (↑(z.get! k).toNat) 97 (by omega)), .go 9, .ov (Fa.ieq0 .i64 ↑k 0 (by omega)), .go 3, .ov (Fa.ine1 .i32 (↑(z.get! k).toNat) 95 (by omega)), .go 3, .ov (Fa.ilt0 .i32 (↑(z.get! k).toNat) 48 (by omega)), .go 3, .ov (Fa.igt1 .i32 (↑(z.get! k).toNat) 57 (by omega)), .go 8] (by kernel_rfl)
      · have e : nameFrom z (d + 1) k = nameFrom z d (k + 1) := by rw [nameFrom, if_neg hb]
        rw [e]
        have q : Den E8 none (roH []) lp76 (st76 z k) .normal (st76 z (k + 1)) := by
          by_cases b0 : 65 ≤ ↑(z.get! k).toNat
          · by_cases b1 : ↑(z.get! k).toNat ≤ 90
            · exact path_pf K8 rfl sp76 [.b (Fa.blt1 k z.size (by omega)), .v hv, .n hp, .go 1, .ov (Fa.ige1 .i32 (↑(z.get! k).toNat) 65 (by omega)), .go 2, .ov (Fa.ile1 .i32 (↑(z.get! k).toNat) 90 (by omega)), .go 13] (by kernel_rfl)
            · by_cases b2 : 97 ≤ ↑(z.get! k).toNat
              · exact path_pf K8 rfl sp76 [.b (Fa.blt1 k z.size (by omega)), .v hv, .n hp, .go 1, .ov (Fa.ige1 .i32 (↑(z.get! k).toNat) 65 (by omega)), .go 2, .ov (Fa.ile0 .i32 (↑(z.get! k).toNat) 90 (by omega)), .go 3, .ov (Fa.ige1 .i32 (↑(z.get! k).toNat) 97 (by omega)), .go 3, .ov (Fa.ile1 .i32 (↑(z.get! k).toNat) 122 (by omega)), .go 10] (by kernel_rfl)
              · exact path_pf K8 rfl sp76 [.b (Fa.blt1 k z.size (by omega)), .v hv, .n hp, .go 1, .ov (Fa.ige1 .i32 (↑(z.get! k).toNat) 65 (by omega)), .go 2, .ov (Fa.ile0 .i32 (↑(z.get! k).toNat) 90 (by omega)), .go 3, .ov (Fa.ige0 .i32 (↑(z.get! k).toNat) 97 (by omega)), .go 9, .ov (Fa.ieq0 .i64 ↑k 0 (by omega)), .go 3, .ov (Fa.ine0 .i32 (↑(z.get! k).toNat) 95 (by omega)), .go 11] (by kernel_rfl)
          · exact path_pf K8 rfl sp76 [.b (Fa.blt1 k z.size (by omega)), .v hv, .n hp, .go 1, .ov (Fa.ige0 .i32 (↑(z.get! k).toNat) 65 (by omega)), .go 5, .ov (Fa.ige0 .i32 (↑(z.get! k).toNat) 97 (by omega)), .go 9, .ov (Fa.ieq0 .i64 ↑k 0 (by omega)), .go 3, .ov (Fa.ine1 .i32 (↑(z.get! k).toNat) 95 (by omega)), .go 3, .ov (Fa.ilt0 .i32 (↑(z.get! k).toNat) 48 (by omega)), .go 3, .ov (Fa.igt0 .i32 (↑(z.get! k).toNat) 57 (by omega)), .go 8] (by kernel_rfl)
        exact ⟨fun h => LoopR.next q (i1 h), fun h => LoopR.next q (i2 h)⟩
    · have hr := high_rune ha
      have e : nameFrom z (d + 1) k = false := by rw [nameFrom, if_pos (by constructor <;> omega)]
      rw [e]
      refine ⟨fun h => (by cases h), fun _ => LoopR.out ?_ nofun⟩
      by_cases b0 : ↑k = 0
      · exact path_pf K8 rfl (finC 0 [] [2]) [.b (Fa.blt1 k z.size (by omega)), .go 1, .n (show (k + (Utf8.decode z k).snd) = (k + (Utf8.decode z k).snd) from rfl), .go 1, .ov (Fa.ige1 .i32 (↑(Utf8.decode z k).fst) 65 (by omega)), .go 2, .ov (Fa.ile0 .i32 (↑(Utf8.decode z k).fst) 90 (by omega)), .go 3, .ov (Fa.ige1 .i32 (↑(Utf8.decode z k).fst) 97 (by omega)), .go 3, .ov (Fa.ile0 .i32 (↑(Utf8.decode z k).fst) 122 (by omega)), .go 6, .ov (Fa.ieq1 .i64 ↑k 0 (by omega)), .go 9] (by kernel_rfl)
      · exact path_pf K8 rfl (finC 0 [] [2]) [.b (Fa.blt1 k z.size (by omega)), .go 1, .n (show (k + (Utf8.decode z k).snd) = (k + (Utf8.decode z k).snd) from rfl), .go 1, .ov (Fa.ige1 .i32 (↑(Utf8.decode z k).fst) 65 (by omega)), .go 2, .ov (Fa.ile0 .i32 (↑(Utf8.decode z k).fst) 90 (by omega)), .go 3, .ov (Fa.ige1 .i32 (↑(Utf8.decode z k).fst) 97 (by omega)), .go 3, .ov (Fa.ile0 .i32 (↑(Utf8.decode z k).fst) 122 (by omega)), .go 6, .ov (Fa.ieq0 .i64 ↑k 0 (by omega)), .go 3, .ov (Fa.ine1 .i32 (↑(Utf8.decode z k).fst) 95 (by omega)), .go 3, .ov (Fa.ilt0 .i32 (↑(Utf8.decode z k).fst) 48 (by omega)), .go 3, .ov (Fa.igt1 .i32 (↑(Utf8.decode z k).fst) 57 (by omega)), .go 8] (by kernel_rfl)

noncomputable def gName := gen [.fl] fName
theorem fName_some {ts : List Value} {cs : List (List Value)} {v : Value} {rows : List Row} (h : fName ts cs = some (v, rows)) : ∃ z, ts = [.string z] ∧ cs = [] ∧ v = .bool (isName z) ∧ rows = [] := by
  unfold fName at h
  split at h
  · cases h; exact ⟨_, rfl, rfl, rfl, rfl⟩
  · cases h
theorem c76 : IntrOk E0 76 gName := by
  refine gen0 K8 rfl (fn := Tryz.f76) (by kernel_rfl) ?_
  intro ts cs v rows hf h
  obtain ⟨z, rfl, rfl, rfl, rfl⟩ := fName_some h
  by_cases h0 : z.size = 0 ∨ 24 < z.size
  · rw [show isName z = false by unfold isName; rw [if_pos h0]]
    by_cases b0 : ↑z.size = 0
    · exact Shows.ret [(2, (.bool false))] rfl (path_pf K8 rfl (finC 0 [] [2]) [.ov (Fa.ieq1 .i64 ↑z.size 0 (by omega)), .go 5] (by kernel_rfl)) (by kernel_rfl) noRow
    · exact Shows.ret [(2, (.bool false))] rfl (path_pf K8 rfl (finC 0 [] [2]) [.ov (Fa.ieq0 .i64 ↑z.size 0 (by omega)), .go 3, .ov (Fa.igt1 .i64 ↑z.size 24 (by omega)), .go 2] (by kernel_rfl)) (by kernel_rfl) noRow
  · have e : isName z = nameFrom z z.size 0 := by unfold isName; rw [if_neg h0]
    obtain ⟨i1, i2⟩ := loop76 z (by omega) z.size 0 (by omega)
    cases hn : nameFrom z z.size 0 with
    | true =>
      have i1 := i1 hn
      rw [e, hn]
      exact Shows.ret [(2, (.bool true))] rfl (path_pf K8 rfl (finC 0 [] [2]) [.ov (Fa.ieq0 .i64 ↑z.size 0 (by omega)), .go 3, .ov (Fa.igt0 .i64 ↑z.size 24 (by omega)), .go 2, .loop sp76 i1] (by kernel_rfl)) (by kernel_rfl) noRow
    | false =>
      have i2 := i2 hn
      rw [e, hn]
      exact Shows.ret [(2, (.bool false))] rfl (path_pf K8 rfl (finC 0 [] [2]) [.ov (Fa.ieq0 .i64 ↑z.size 0 (by omega)), .go 3, .ov (Fa.igt0 .i64 ↑z.size 24 (by omega)), .go 2, .loop sp76 i2] (by kernel_rfl)) (by kernel_rfl) noRow
theorem c77 : IntrOk E0 77 gName := by
  refine gen0 K8 rfl (fn := Tryz.f77) (by kernel_rfl) ?_
  intro ts cs v rows hf h
  obtain ⟨z, rfl, rfl, rfl, rfl⟩ := fName_some h
  by_cases h0 : z.size = 0 ∨ 24 < z.size
  · rw [show isName z = false by unfold isName; rw [if_pos h0]]
    by_cases b0 : ↑z.size = 0
    · exact Shows.ret [(2, (.bool false))] rfl (path_pf K8 rfl (finC 0 [] [2]) [.ov (Fa.ieq1 .i64 ↑z.size 0 (by omega)), .go 5] (by kernel_rfl)) (by kernel_rfl) noRow
    · exact Shows.ret [(2, (.bool false))] rfl (path_pf K8 rfl (finC 0 [] [2]) [.ov (Fa.ieq0 .i64 ↑z.size 0 (by omega)), .go 3, .ov (Fa.igt1 .i64 ↑z.size 24 (by omega)), .go 2] (by kernel_rfl)) (by kernel_rfl) noRow
  · have e : isName z = nameFrom z z.size 0 := by unfold isName; rw [if_neg h0]
    obtain ⟨i1, i2⟩ := loop77 z (by omega) z.size 0 (by omega)
    cases hn : nameFrom z z.size 0 with
    | true =>
      have i1 := i1 hn
      rw [e, hn]
      exact Shows.ret [(2, (.bool true))] rfl (path_pf K8 rfl (finC 0 [] [2]) [.ov (Fa.ieq0 .i64 ↑z.size 0 (by omega)), .go 3, .ov (Fa.igt0 .i64 ↑z.size 24 (by omega)), .go 2, .loop (finC 0 [] [0, 3]) i1] (by kernel_rfl)) (by kernel_rfl) noRow
    | false =>
      have i2 := i2 hn
      rw [e, hn]
      exact Shows.ret [(2, (.bool false))] rfl (path_pf K8 rfl (finC 0 [] [2]) [.ov (Fa.ieq0 .i64 ↑z.size 0 (by omega)), .go 3, .ov (Fa.igt0 .i64 ↑z.size 24 (by omega)), .go 2, .loop (finC 0 [] [0, 3]) i2] (by kernel_rfl)) (by kernel_rfl) noRow
end Go.Proofs.YtlkhpgocbojdgaaGreatDoor.Ai

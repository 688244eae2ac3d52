/-
  CONTRACTS: lists of integers that are the same; what a law says of a list and an error.
-/
import Derived.Test.YtlkhpgocbojdgaaGreatDoorNtDraw2
namespace Go.Proofs.YtlkhpgocbojdgaaGreatDoor.Ai
open Go
set_option linter.unusedSimpArgs false
set_option linter.unusedVariables false

def sameL : List Int → List Int → Bool
  | a :: r, b :: q => if a = b then sameL r q else false
  | _, _ => true
def sameInts (a b : List Int) : Bool := if a.length = b.length then sameL a b else false
theorem sameL_refl : ∀ (l : List Int), sameL l l = true
  | [] => rfl
  | a :: r => by rw [sameL, if_pos rfl]; exact sameL_refl r
theorem sameInts_refl (l : List Int) : sameInts l l = true := by unfold sameInts; rw [if_pos rfl]; exact sameL_refl l
def fSame (ts : List Value) (cs : List (List Value)) : Option (Value × List Row) :=
  match ts, cs with
  | [.slice (some ⟨0, o1, none⟩) n1 _, .slice (some ⟨1, o2, none⟩) n2 _], [c1, c2] => match slice? c1 o1 n1, slice? c2 o2 n2, Nat.blt n1 1099511627776 && Nat.blt n2 1099511627776 with
    | some r1, some r2, true => match unIvs r1, unIvs r2 with
      | some l1, some l2 => some (.bool (sameInts l1 l2), [])
      | _, _ => none
    | _, _, _ => none
  | _, _ => none
theorem fSame_some {ts : List Value} {cs : List (List Value)} {v : Value} {rows : List Row} (h : fSame ts cs = some (v, rows)) :
    ∃ o1 o2 p1 p2 c1 c2 l1 l2, ts = [sv 0 o1 l1.length p1, sv 1 o2 l2.length p2] ∧ cs = [c1, c2] ∧ slice? c1 o1 l1.length = some (ivs l1) ∧ slice? c2 o2 l2.length = some (ivs l2) ∧ l1.length < 1099511627776 ∧ l2.length < 1099511627776 ∧ v = .bool (sameInts l1 l2) ∧ rows = [] := by
  unfold fSame at h
  split at h
  · split at h
    · rename_i hs1 hs2 hb
      split at h
      · rename_i l1 l2 hl1 hl2
        cases h
        have e1 := unIvs_some hl1
        have e2 := unIvs_some hl2
        subst e1
        subst e2
        have hn1 := (slice?_some hs1).2
        have hn2 := (slice?_some hs2).2
        rw [ivs_length] at hn1 hn2
        subst hn1
        subst hn2
        rw [Bool.and_eq_true] at hb
        exact ⟨_, _, _, _, _, _, l1, l2, rfl, rfl, hs1, hs2, by simpa [Nat.blt_eq] using hb.1, by simpa [Nat.blt_eq] using hb.2, rfl, rfl⟩
      · cases h
    · cases h
  · cases h
noncomputable def st82 (c1 c2 : List Value) (o1 o2 n1 n2 p1 p2 k : Nat) : ASt := finSt [c1, c2] [] [(0, sv 0 o1 n1 p1), (1, sv 1 o2 n2 p2), (5, iv k)]
noncomputable def lp82 : Code := sub [1, 1, 0, 1, 0, 0] (bodyOf Tryz.f82)

section
variable {c1 c2 : List Value} {l1 l2 : List Int} {o1 o2 p1 p2 : Nat}
theorem loop82 (h1 : slice? c1 o1 l1.length = some (ivs l1)) (h2 : slice? c2 o2 l2.length = some (ivs l2)) (hl : l1.length = l2.length) (hn : l1.length < 1099511627776) (f1 : c1.all flatCell = true) (f2 : c2.all flatCell = true) : ∀ (d k : Nat), k + d = l1.length →
    (sameL (l1.drop k) (l2.drop k) = true → LoopR E8 none (roH [c1, c2]) lp82 (st82 c1 c2 o1 o2 l1.length l2.length p1 p2 k) (.exit 0) (finSt [c1, c2] [] [])) ∧
    (sameL (l1.drop k) (l2.drop k) = false → LoopR E8 none (roH [c1, c2]) lp82 (st82 c1 c2 o1 o2 l1.length l2.length p1 p2 k) .ret (finSt [c1, c2] [] [(4, bv false)]))
  | 0, k, hk => by
    rw [List.drop_eq_nil_of_le (by omega)]
    refine ⟨fun _ => LoopR.out ?_ nofun, fun h => (by cases h)⟩
    generalize l1.length = n1 at *
    generalize l2.length = n2 at *
    exact path_pf K8 rfl (finC 2 [] []) [.ov (Fa.ilt0 .i64 ↑k ↑n1 (by omega)), .go 1, .b f1, .b f2] (by kernel_rfl)
  | d + 1, k, hk => by
    obtain ⟨a, ha⟩ : ∃ x, l1[k]? = some x := ⟨_, List.getElem?_eq_getElem (show k < l1.length by omega)⟩
    obtain ⟨b, hb⟩ : ∃ x, l2[k]? = some x := ⟨_, List.getElem?_eq_getElem (show k < l2.length by omega)⟩
    have r1 := rd_iv h1 ha
    have r2 := rd_iv h2 hb
    obtain ⟨i1, i2⟩ := loop82 h1 h2 hl hn f1 f2 d (k + 1) (by omega)
    rw [drop_cons ha, drop_cons hb]
    by_cases e : a = b
    · have es : sameL (a :: l1.drop (k + 1)) (b :: l2.drop (k + 1)) = sameL (l1.drop (k + 1)) (l2.drop (k + 1)) := by rw [sameL, if_pos e]
      rw [es]
      have q : Den E8 none (roH [c1, c2]) lp82 (st82 c1 c2 o1 o2 l1.length l2.length p1 p2 k) .normal (st82 c1 c2 o1 o2 l1.length l2.length p1 p2 (k + 1)) := by
        clear i1 i2 h1 h2
        generalize l1.length = n1 at *
        generalize l2.length = n2 at *
        exact path_pf K8 rfl (finC 2 [] [0, 1, 5]) [.ov (Fa.ilt1 .i64 ↑k ↑n1 (by omega)), .go 2, .b (Fa.blt1 k n1 (by omega)), .n (show (o1 + k * 1) = (o1 + k) from by omega), .ol r1, .go 1, .b (Fa.blt1 k n2 (by omega)), .n (show (o2 + k * 1) = (o2 + k) from by omega), .ol r2, .ov (Fa.ine0 .i64 a b (by omega)), .go 1, .ov (Fa.iadd ↑k 1 (by omega) (by omega)), .b f1, .b f2] (by kernel_rfl)
      exact ⟨fun h => LoopR.next q (i1 h), fun h => LoopR.next q (i2 h)⟩
    · have es : sameL (a :: l1.drop (k + 1)) (b :: l2.drop (k + 1)) = false := by rw [sameL, if_neg e]
      rw [es]
      refine ⟨fun h => (by cases h), fun _ => LoopR.out ?_ nofun⟩
      clear i1 i2 h1 h2
      generalize l1.length = n1 at *
      generalize l2.length = n2 at *
      exact path_pf K8 rfl (finC 2 [] [4]) [.ov (Fa.ilt1 .i64 ↑k ↑n1 (by omega)), .go 2, .b (Fa.blt1 k n1 (by omega)), .n (show (o1 + k * 1) = (o1 + k) from by omega), .ol r1, .go 1, .b (Fa.blt1 k n2 (by omega)), .n (show (o2 + k * 1) = (o2 + k) from by omega), .ol r2, .ov (Fa.ine1 .i64 a b (by omega)), .go 1, .b f1, .b f2] (by kernel_rfl)
end

noncomputable def gSame := gen [.sl, .sl] fSame
theorem c82 : IntrOk E0 82 gSame := by
  refine gen0 K8 rfl (fn := Tryz.f82) (by kernel_rfl) ?_
  intro ts cs v rows hf h
  obtain ⟨o1, o2, p1, p2, c1, c2, l1, l2, rfl, rfl, h1, h2, hn1, hn2, rfl, rfl⟩ := fSame_some h
  have f1 := hf c1 (by simp)
  have f2 := hf c2 (by simp)
  by_cases hl : l1.length = l2.length
  · rw [show sameInts l1 l2 = sameL l1 l2 by unfold sameInts; rw [if_pos hl]]
    obtain ⟨i1, i2⟩ := loop82 (p1 := p1) (p2 := p2) h1 h2 hl hn1 f1 f2 l1.length 0 (by omega)
    rw [List.drop_zero, List.drop_zero] at i1 i2
    cases hs : sameL l1 l2 with
    | true =>
      have i1 := i1 hs
      clear i2 h1 h2 hs
      generalize l1.length = n1 at *
      generalize l2.length = n2 at *
      exact Shows.ret [(4, (.bool true))] rfl (path_pf K8 rfl (finC 2 [] [4]) [.ov (Fa.ine0 .i64 ↑n1 ↑n2 (by omega)), .go 1, .loop (finC 2 [] [0, 1, 5]) i1, .b f1, .b f2, .b f1, .b f2] (by kernel_rfl)) (by kernel_rfl) noRow
    | false =>
      have i2 := i2 hs
      clear i1 h1 h2 hs
      generalize l1.length = n1 at *
      generalize l2.length = n2 at *
      exact Shows.ret [(4, (.bool false))] rfl (path_pf K8 rfl (finC 2 [] [4]) [.ov (Fa.ine0 .i64 ↑n1 ↑n2 (by omega)), .go 1, .loop (finC 2 [] [0, 1, 5]) i2, .b f1, .b f2, .b f1, .b f2] (by kernel_rfl)) (by kernel_rfl) noRow
  · rw [show sameInts l1 l2 = false by unfold sameInts; rw [if_neg hl]]
    clear h1 h2
    generalize l1.length = n1 at *
    generalize l2.length = n2 at *
    exact Shows.ret [(4, (.bool false))] rfl (path_pf K8 rfl (finC 2 [] [4]) [.ov (Fa.ine1 .i64 ↑n1 ↑n2 (by omega)), .go 1, .b f1, .b f2] (by kernel_rfl)) (by kernel_rfl) noRow
noncomputable def t9 : T (List Value → AHeap → Option (Value × AHeap)) := (((((t8.put 76 gName).put 77 gName).put 73 gDraw73).put 74 gCheckDraw).put 75 gDraw75).put 82 gSame
theorem t9_ok : T.All (fun f g => IntrOk E0 f g) t9 (fun j => j) := allT_put (allT_put (allT_put (allT_put (allT_put (allT_put t8_ok c76) c77) c73) c74) c75) c82
noncomputable def E9 : Env := { P := Tryz.prog, fn := fnTab, ty := tyTab, intr := t9 }
theorem K9 : E9.Runs := runs_intr fnAll tyAll mixed t9_ok
end Go.Proofs.YtlkhpgocbojdgaaGreatDoor.Ai

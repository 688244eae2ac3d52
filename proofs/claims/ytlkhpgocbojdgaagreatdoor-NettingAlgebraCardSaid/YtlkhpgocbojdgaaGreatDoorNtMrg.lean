/-
  CONTRACTS: two nets merged, by which of them have a bar; Union, Minus, Meet.
-/
import Derived.Test.YtlkhpgocbojdgaaGreatDoorNtArd
namespace Go.Proofs.YtlkhpgocbojdgaaGreatDoor.Ai
open Go
set_option linter.unusedSimpArgs false
set_option linter.unusedVariables false

/-- How the capacity of a net's rest is known. -/
inductive Gd : Nat → Nat → Nat → Prop
  | gc (n : Nat) : Gd 0 n (GC 3)
  | up (off n : Nat) : Gd off n (upCap 3 n)
  | un (off : Nat) : Gd off 0 UN
theorem Gd.cap {off n cap : Nat} (h : Gd off n cap) : Nat.blt cap SL = false := by
  cases h with
  | gc => rfl
  | up => exact Fa.blt0 _ _ (by unfold upCap SL; omega)
  | un => rfl
theorem Gd.next {E : Env} (hz : sizeT E 60 = some 3) {off n cap : Nat} (b : Nat) (h : Gd off (n + 1) cap) (hn : n + 1 < 1099511627776) :
    ∃ off' cap', sliceA E (.slice 60) (.slice (some ⟨b, off, none⟩) (n + 1) cap) (some (iv 1)) none = some (.slice (some ⟨b, off', none⟩) n cap') ∧ Gd off' n cap' ∧ (0 < n → off' = off + 3) := by
  have hbd : bounds (n + 1) (n + 1) (some (iv 1)) none = some (1, n + 1) := by
    have h1 : Nat.ble 1 (n + 1) = true := Fa.ble1 _ _ (by omega)
    have h2 : Nat.ble (n + 1) (n + 1) = true := Fa.ble1 _ _ (Nat.le_refl _)
    show (match Nat.ble 1 (n + 1) && Nat.ble (n + 1) (n + 1) with
      | true => some (1, n + 1)
      | false => none) = _
    rw [h1, h2]
    rfl
  generalize hN : n + 1 = N at h hbd hn
  cases h with
  | un => omega
  | gc =>
    have e1 : Nat.blt (GC 3) SL = false := rfl
    have e2 : Nat.blt (GC 3) UN = false := rfl
    have e3 : Nat.beq (GC 3) UN = false := rfl
    have e4 : (Nat.blt 0 N && Nat.beq (GC 3) (GC 3)) = true := by rw [Fa.blt1 _ _ (by omega)]; rfl
    rcases Nat.eq_zero_or_pos n with h0 | h0
    · refine ⟨0, UN, ?_, h0 ▸ .un 0, fun h => by omega⟩
      have e5 : Nat.beq 1 N = true := Fa.beq1 _ _ (by omega)
      simp only [sliceA, hz, e1, e2, e3, e4, hbd, Option.map_some, e5]
      rw [h0]
    · refine ⟨3, upCap 3 n, ?_, .up 3 n, fun _ => rfl⟩
      have e5 : Nat.beq 1 N = false := Fa.beq0 _ _ (by omega)
      have e6 : N - 1 = n := by omega
      simp only [sliceA, hz, e1, e2, e3, e4, hbd, Option.map_some, e5, e6, addr]
  | up =>
    have e1 : Nat.blt (upCap 3 N) SL = false := Fa.blt0 _ _ (by unfold upCap SL; omega)
    have e2 : Nat.blt (upCap 3 N) UN = true := Fa.blt1 _ _ (by unfold upCap SL UN; omega)
    have e3 : upCap 3 N / SL = 4 := by unfold upCap SL; omega
    have e4 : upCap 3 N % SL = N := by unfold upCap SL; omega
    have e7 : Nat.beq 4 (3 + 1) = true := rfl
    rcases Nat.eq_zero_or_pos n with h0 | h0
    · refine ⟨off, UN, ?_, h0 ▸ .un off, fun h => by omega⟩
      have e5 : Nat.beq 1 N = true := Fa.beq1 _ _ (by omega)
      simp only [sliceA, hz, e1, e2, e3, e4, e7, hbd, Option.map_some, e5]
      rw [h0]
    · refine ⟨off + 3, upCap 3 n, ?_, .up _ n, fun _ => rfl⟩
      have e5 : Nat.beq 1 N = false := Fa.beq0 _ _ (by omega)
      have e6 : N - 1 = n := by omega
      have e8 : upCap 3 N - 1 = upCap 3 n := by unfold upCap SL; omega
      simp only [sliceA, hz, e1, e2, e3, e4, e7, hbd, Option.map_some, e5, e6, e8, addr]
theorem rest_of {c : List Value} {off off' : Nat} {a : B3} {l : List B3} (h : slice? c off ((a :: l).length * 3) = some (barCells (a :: l))) (ho : 0 < l.length → off' = off + 3) : slice? c off' (l.length * 3) = some (barCells l) := by
  cases l with
  | nil => rfl
  | cons b r =>
    rw [ho (by simp), slice_get h 3 ((b :: r).length * 3) (by simp; omega)]
    congr 1
    show List.take _ (barCells (b :: r)) = _
    exact List.take_of_length_le (by rw [barCells_length]; exact Nat.le_refl _)
theorem head_of {c : List Value} {off : Nat} {a : B3} {l : List B3} (h : slice? c off ((a :: l).length * 3) = some (barCells (a :: l))) : slice? c off 3 = some [.int .i64 a.x, .int .i64 a.y, .int .i64 a.s] := by
  have := rd_bar h (k := 0) (b := a) rfl
  rwa [Nat.zero_mul, Nat.add_zero] at this
theorem sizeB : sizeT EB 60 = some 3 := by kernel_rfl
def fnG (g : Nat) : Value := .func (.func g) #[] #[]
noncomputable def st133 (c1 c2 : List Value) (oa na ca ob nb cb g : Nat) (out : List B3) (n : Nat) : ASt := finSt [c1, c2] [.flat (barCells out) 60] [(0, .slice (some ⟨0, oa, none⟩) na ca), (1, .slice (some ⟨1, ob, none⟩) nb cb), (2, fnv98), (3, fnG g), (9, .slice (some ⟨2, 0, none⟩) n (GC 3))]
noncomputable def fn133 (c1 c2 : List Value) (out : List B3) : ASt := finSt [c1, c2] [.flat (barCells out) 60] [(9, .slice (some ⟨2, 0, none⟩) out.length (GC 3))]
noncomputable def lp133 : Code := sub [1, 1, 0, 0, 0] (bodyOf Tryz.f133)
abbrev kU (p q : Bool) : Bool := p || q
abbrev kD (p q : Bool) : Bool := p && !q
abbrev kM (p q : Bool) : Bool := p && q

section
variable {c1 c2 : List Value}
theorem loop133_117 (f1 : c1.all flatCell = true) (f2 : c2.all flatCell = true) : ∀ (d : Nat) (la lb : List B3) (oa ca ob cb n : Nat) (out : List B3), la.length + lb.length = d → Gd oa la.length ca → Gd ob lb.length cb → slice? c1 oa (la.length * 3) = some (barCells la) → slice? c2 ob (lb.length * 3) = some (barCells lb) → out.length = n → n + d ≤ 8192 →
    LoopR EB none (roH [c1, c2]) lp133 (st133 c1 c2 oa la.length ca ob lb.length cb 117 out n) (.exit 0) (fn133 c1 c2 (out ++ mergeB kU la lb)) := by
  intro d
  induction d using Nat.strongRecOn with
  | ind d ihs =>
  cases d with
  | zero =>
    intro la lb oa ca ob cb n out hd ga gb ha hb hn hmax
    obtain rfl : la = [] := List.eq_nil_of_length_eq_zero (by omega)
    obtain rfl : lb = [] := List.eq_nil_of_length_eq_zero (by omega)
    rw [show mergeB kU [] [] = [] from by rw [mergeB], List.append_nil]
    refine LoopR.out ?_ nofun
    subst hn
    have bA := ga.cap
    have bB := gb.cap
    have hf := barCells_flat out
    exact path_pf KB rfl (finC 2 [(2, .flat 2)] [9]) [.go 3, .b f1, .b f2, .b hf] (by kernel_rfl)
  | succ d =>
    intro la lb oa ca ob cb n out hd ga gb ha hb hn hmax
    have ih : ∀ (la lb : List B3) (oa ca ob cb n : Nat) (out : List B3), la.length + lb.length ≤ d → Gd oa la.length ca → Gd ob lb.length cb → slice? c1 oa (la.length * 3) = some (barCells la) → slice? c2 ob (lb.length * 3) = some (barCells lb) → out.length = n → n + d ≤ 8192 →
        LoopR EB none (roH [c1, c2]) lp133 (st133 c1 c2 oa la.length ca ob lb.length cb 117 out n) (.exit 0) (fn133 c1 c2 (out ++ mergeB kU la lb)) := fun la lb oa ca ob cb n out hd ga gb ha hb hn hmax => ihs (la.length + lb.length) (by omega) la lb oa ca ob cb n out rfl ga gb ha hb hn (by omega)
    clear ihs
    have bA := ga.cap
    have bB := gb.cap
    have hl : Nat.beq (barCells out).length (n * 3) = true := by rw [barCells_length, hn]; exact Nat.beq_refl _
    match la, lb, hd, ga, gb, ha, hb with
    | [], [], hd, _, _, _, _ => exact absurd hd (by simp)
    | a :: la, [], hd, ga, gb, ha, hb =>
      rw [show mergeB kU (a :: la) [] = [a] ++ mergeB kU la [] from by rw [mergeB]; rfl]
      rw [List.length_cons] at ga
      obtain ⟨oa2, ca2, sA, ga2, ho⟩ := ga.next sizeB 0 (by simp at hd; omega)
      have ha2 := rest_of ha ho
      have rA := head_of ha
      have i1 := ih la [] oa2 ca2 ob cb (n + 1) (out ++ [a]) (by simp at hd ⊢; omega) ga2 gb ha2 hb (by rw [List.length_append, hn]; rfl) (by omega)
      have hw := app_bar out a
      rw [List.append_assoc] at i1
      refine LoopR.next ?_ i1
      have hm : la.length ≤ 8192 := by simp at hd; omega
      show Den EB none (roH [c1, c2]) lp133 (st133 c1 c2 oa (la.length + 1) ca ob 0 cb 117 out n) .normal (st133 c1 c2 oa2 la.length ca2 ob 0 cb 117 (out ++ [a]) (n + 1))
      clear hd ga gb ha hb ha2 ga2 ho
      generalize la.length = m at *
      have hf := barCells_flat (out ++ [a])
      clear i1 ih hn
      exact path_pf KB rfl (finC 2 [(2, .flat 5)] [0, 1, 2, 3, 9]) [.ov (Fa.iadd (↑(m + 1)) 0 (by omega) (by omega)), .ov (Fa.igt1 .i64 (↑(m + 1) + ↑0) 0 (by omega)), .go 7, .n (show (oa + 0) = oa from by omega), .ol rA, .b bA, .ov sA, .go 14, .b (Fa.and1 (Fa.and1 rfl hl) rfl), .b (Fa.and1 (Fa.and1 (Fa.ble1 ((n + 1) * 24) 1099511627776 (by omega)) (Fa.blt1 (n + 1) 4611686018427387904 (by omega))) rfl), .n (show (n + 1) = (n + 1) from rfl), .l hw, .b f1, .b f2, .b hf] (by kernel_rfl)
    | [], b :: lb, hd, ga, gb, ha, hb =>
      rw [show mergeB kU [] (b :: lb) = [b] ++ mergeB kU [] lb from by rw [mergeB]; rfl]
      rw [List.length_cons] at gb
      obtain ⟨ob2, cb2, sB, gb2, ho2⟩ := gb.next sizeB 1 (by simp at hd; omega)
      have hb2 := rest_of hb ho2
      have rB := head_of hb
      have i1 := ih [] lb oa ca ob2 cb2 (n + 1) (out ++ [b]) (by simp at hd ⊢; omega) ga gb2 ha hb2 (by rw [List.length_append, hn]; rfl) (by omega)
      have hw := app_bar out b
      rw [List.append_assoc] at i1
      refine LoopR.next ?_ i1
      have hm : lb.length ≤ 8192 := by simp at hd; omega
      show Den EB none (roH [c1, c2]) lp133 (st133 c1 c2 oa 0 ca ob (lb.length + 1) cb 117 out n) .normal (st133 c1 c2 oa 0 ca ob2 lb.length cb2 117 (out ++ [b]) (n + 1))
      clear hd ga gb ha hb hb2 gb2 ho2
      generalize lb.length = m at *
      have hf := barCells_flat (out ++ [b])
      clear i1 ih hn
      exact path_pf KB rfl (finC 2 [(2, .flat 5)] [0, 1, 2, 3, 9]) [.ov (Fa.iadd 0 (↑(m + 1)) (by omega) (by omega)), .ov (Fa.igt1 .i64 (↑0 + ↑(m + 1)) 0 (by omega)), .go 11, .n (show (ob + 0) = ob from by omega), .ol rB, .b bB, .ov sB, .go 12, .b (Fa.and1 (Fa.and1 rfl hl) rfl), .b (Fa.and1 (Fa.and1 (Fa.ble1 ((n + 1) * 24) 1099511627776 (by omega)) (Fa.blt1 (n + 1) 4611686018427387904 (by omega))) rfl), .n (show (n + 1) = (n + 1) from rfl), .l hw, .b f1, .b f2, .b hf] (by kernel_rfl)
    | a :: la, b :: lb, hd, ga, gb, ha, hb =>
      rw [List.length_cons] at ga gb
      by_cases h1 : lessB a b = true
      · have hcmp := (cmpB_neg a b).2 h1
        rw [show mergeB kU (a :: la) (b :: lb) = [a] ++ mergeB kU la (b :: lb) from by rw [mergeB, if_pos h1]; rfl]
        obtain ⟨oa2, ca2, sA, ga2, ho⟩ := ga.next sizeB 0 (by simp at hd; omega)
        have ha2 := rest_of ha ho
        have rA := head_of ha
        have rB := head_of hb
        have i1 := ih la (b :: lb) oa2 ca2 ob cb (n + 1) (out ++ [a]) (by simp at hd ⊢; omega) ga2 gb ha2 hb (by rw [List.length_append, hn]; rfl) (by omega)
        have hw := app_bar out a
        rw [List.append_assoc] at i1
        refine LoopR.next ?_ i1
        have hm : la.length ≤ 8192 := by simp at hd; omega
        have hq : lb.length ≤ 8192 := by simp at hd; omega
        show Den EB none (roH [c1, c2]) lp133 (st133 c1 c2 oa (la.length + 1) ca ob (lb.length + 1) cb 117 out n) .normal (st133 c1 c2 oa2 la.length ca2 ob (lb.length + 1) cb 117 (out ++ [a]) (n + 1))
        clear hd ga gb ha hb ha2 ga2 ho
        generalize la.length = m at *
        generalize lb.length = q at *
        have hf := barCells_flat (out ++ [a])
        clear i1 ih hn
        exact path_pf KB rfl (finC 2 [(2, .flat 5)] [0, 1, 2, 3, 9]) [.ov (Fa.iadd (↑(m + 1)) (↑(q + 1)) (by omega) (by omega)), .ov (Fa.igt1 .i64 (↑(m + 1) + ↑(q + 1)) 0 (by omega)), .go 7, .n (show (oa + 0) = oa from by omega), .ol rA, .go 2, .n (show (ob + 0) = ob from by omega), .ol rB, .go 1, .ov (Fa.ile1 .i64 (cmpB a b) 0 (by omega)), .go 3, .n (show (oa + 0) = oa from by omega), .ol rA, .b bA, .ov sA, .go 1, .ov (Fa.ige0 .i64 (cmpB a b) 0 (by omega)), .go 1, .ov (Fa.ile1 .i64 (cmpB a b) 0 (by omega)), .ov (Fa.ige0 .i64 (cmpB a b) 0 (by omega)), .go 9, .b (Fa.and1 (Fa.and1 rfl hl) rfl), .b (Fa.and1 (Fa.and1 (Fa.ble1 ((n + 1) * 24) 1099511627776 (by omega)) (Fa.blt1 (n + 1) 4611686018427387904 (by omega))) rfl), .n (show (n + 1) = (n + 1) from rfl), .l hw, .b f1, .b f2, .b hf] (by kernel_rfl)
      · by_cases h2 : lessB b a = true
        · have hcmp : 0 < cmpB a b := by
            have q1 := (cmpB_pos a b).2 h1
            have q2 : ¬ cmpB a b = 0 := fun e => less_ne h2 ((cmpB_zero a b).1 e).symm
            omega
          rw [show mergeB kU (a :: la) (b :: lb) = [b] ++ mergeB kU (a :: la) lb from by rw [mergeB, if_neg h1, if_pos h2]; rfl]
          obtain ⟨ob2, cb2, sB, gb2, ho2⟩ := gb.next sizeB 1 (by simp at hd; omega)
          have hb2 := rest_of hb ho2
          have rB := head_of hb
          have rA := head_of ha
          have i1 := ih (a :: la) lb oa ca ob2 cb2 (n + 1) (out ++ [b]) (by simp at hd ⊢; omega) ga gb2 ha hb2 (by rw [List.length_append, hn]; rfl) (by omega)
          have hw := app_bar out b
          rw [List.append_assoc] at i1
          refine LoopR.next ?_ i1
          have hm : la.length ≤ 8192 := by simp at hd; omega
          have hq : lb.length ≤ 8192 := by simp at hd; omega
          show Den EB none (roH [c1, c2]) lp133 (st133 c1 c2 oa (la.length + 1) ca ob (lb.length + 1) cb 117 out n) .normal (st133 c1 c2 oa (la.length + 1) ca ob2 lb.length cb2 117 (out ++ [b]) (n + 1))
          clear hd ga gb ha hb hb2 gb2 ho2
          generalize la.length = m at *
          generalize lb.length = q at *
          have hf := barCells_flat (out ++ [b])
          clear i1 ih hn
          exact path_pf KB rfl (finC 2 [(2, .flat 5)] [0, 1, 2, 3, 9]) [.ov (Fa.iadd (↑(m + 1)) (↑(q + 1)) (by omega) (by omega)), .ov (Fa.igt1 .i64 (↑(m + 1) + ↑(q + 1)) 0 (by omega)), .go 7, .n (show (oa + 0) = oa from by omega), .ol rA, .go 2, .n (show (ob + 0) = ob from by omega), .ol rB, .go 1, .ov (Fa.ile0 .i64 (cmpB a b) 0 (by omega)), .go 1, .ov (Fa.ige1 .i64 (cmpB a b) 0 (by omega)), .go 3, .n (show (ob + 0) = ob from by omega), .ol rB, .b bB, .ov sB, .go 1, .ov (Fa.ile0 .i64 (cmpB a b) 0 (by omega)), .ov (Fa.ige1 .i64 (cmpB a b) 0 (by omega)), .go 9, .b (Fa.and1 (Fa.and1 rfl hl) rfl), .b (Fa.and1 (Fa.and1 (Fa.ble1 ((n + 1) * 24) 1099511627776 (by omega)) (Fa.blt1 (n + 1) 4611686018427387904 (by omega))) rfl), .n (show (n + 1) = (n + 1) from rfl), .l hw, .b f1, .b f2, .b hf] (by kernel_rfl)
        · obtain rfl : a = b := less_tri (by simpa using h1) (by simpa using h2)
          have hcmp := (cmpB_zero a a).2 rfl
          rw [show mergeB kU (a :: la) (a :: lb) = [a] ++ mergeB kU la lb from by rw [mergeB, if_neg h1, if_neg h1]; rfl]
          obtain ⟨oa2, ca2, sA, ga2, ho⟩ := ga.next sizeB 0 (by simp at hd; omega)
          have ha2 := rest_of ha ho
          have rA := head_of ha
          obtain ⟨ob2, cb2, sB, gb2, ho2⟩ := gb.next sizeB 1 (by simp at hd; omega)
          have hb2 := rest_of hb ho2
          have rB := head_of hb
          have i1 := ih la lb oa2 ca2 ob2 cb2 (n + 1) (out ++ [a]) (by simp at hd ⊢; omega) ga2 gb2 ha2 hb2 (by rw [List.length_append, hn]; rfl) (by omega)
          have hw := app_bar out a
          rw [List.append_assoc] at i1
          refine LoopR.next ?_ i1
          have hm : la.length ≤ 8192 := by simp at hd; omega
          have hq : lb.length ≤ 8192 := by simp at hd; omega
          show Den EB none (roH [c1, c2]) lp133 (st133 c1 c2 oa (la.length + 1) ca ob (lb.length + 1) cb 117 out n) .normal (st133 c1 c2 oa2 la.length ca2 ob2 lb.length cb2 117 (out ++ [a]) (n + 1))
          clear hd ga gb ha hb ha2 ga2 ho hb2 gb2 ho2
          generalize la.length = m at *
          generalize lb.length = q at *
          have hf := barCells_flat (out ++ [a])
          clear i1 ih hn
          exact path_pf KB rfl (finC 2 [(2, .flat 5)] [0, 1, 2, 3, 9]) [.ov (Fa.iadd (↑(m + 1)) (↑(q + 1)) (by omega) (by omega)), .ov (Fa.igt1 .i64 (↑(m + 1) + ↑(q + 1)) 0 (by omega)), .go 7, .n (show (oa + 0) = oa from by omega), .ol rA, .go 2, .n (show (ob + 0) = ob from by omega), .ol rB, .go 1, .ov (Fa.ile1 .i64 (cmpB a a) 0 (by omega)), .go 3, .n (show (oa + 0) = oa from by omega), .ol rA, .b bA, .ov sA, .go 1, .ov (Fa.ige1 .i64 (cmpB a a) 0 (by omega)), .go 3, .n (show (ob + 0) = ob from by omega), .ol rB, .b bB, .ov sB, .go 1, .ov (Fa.ile1 .i64 (cmpB a a) 0 (by omega)), .ov (Fa.ige1 .i64 (cmpB a a) 0 (by omega)), .go 9, .b (Fa.and1 (Fa.and1 rfl hl) rfl), .b (Fa.and1 (Fa.and1 (Fa.ble1 ((n + 1) * 24) 1099511627776 (by omega)) (Fa.blt1 (n + 1) 4611686018427387904 (by omega))) rfl), .n (show (n + 1) = (n + 1) from rfl), .l hw, .b f1, .b f2, .b hf] (by kernel_rfl)
end

section
variable {c1 c2 : List Value}
theorem loop133_104 (f1 : c1.all flatCell = true) (f2 : c2.all flatCell = true) : ∀ (d : Nat) (la lb : List B3) (oa ca ob cb n : Nat) (out : List B3), la.length + lb.length = d → Gd oa la.length ca → Gd ob lb.length cb → slice? c1 oa (la.length * 3) = some (barCells la) → slice? c2 ob (lb.length * 3) = some (barCells lb) → out.length = n → n + d ≤ 8192 →
    LoopR EB none (roH [c1, c2]) lp133 (st133 c1 c2 oa la.length ca ob lb.length cb 104 out n) (.exit 0) (fn133 c1 c2 (out ++ mergeB kD la lb)) := by
  intro d
  induction d using Nat.strongRecOn with
  | ind d ihs =>
  cases d with
  | zero =>
    intro la lb oa ca ob cb n out hd ga gb ha hb hn hmax
    obtain rfl : la = [] := List.eq_nil_of_length_eq_zero (by omega)
    obtain rfl : lb = [] := List.eq_nil_of_length_eq_zero (by omega)
    rw [show mergeB kD [] [] = [] from by rw [mergeB], List.append_nil]
    refine LoopR.out ?_ nofun
    subst hn
    have bA := ga.cap
    have bB := gb.cap
    have hf := barCells_flat out
    exact path_pf KB rfl (finC 2 [(2, .flat 2)] [9]) [.go 3, .b f1, .b f2, .b hf] (by kernel_rfl)
  | succ d =>
    intro la lb oa ca ob cb n out hd ga gb ha hb hn hmax
    have ih : ∀ (la lb : List B3) (oa ca ob cb n : Nat) (out : List B3), la.length + lb.length ≤ d → Gd oa la.length ca → Gd ob lb.length cb → slice? c1 oa (la.length * 3) = some (barCells la) → slice? c2 ob (lb.length * 3) = some (barCells lb) → out.length = n → n + d ≤ 8192 →
        LoopR EB none (roH [c1, c2]) lp133 (st133 c1 c2 oa la.length ca ob lb.length cb 104 out n) (.exit 0) (fn133 c1 c2 (out ++ mergeB kD la lb)) := fun la lb oa ca ob cb n out hd ga gb ha hb hn hmax => ihs (la.length + lb.length) (by omega) la lb oa ca ob cb n out rfl ga gb ha hb hn (by omega)
    clear ihs
    have bA := ga.cap
    have bB := gb.cap
    have hl : Nat.beq (barCells out).length (n * 3) = true := by rw [barCells_length, hn]; exact Nat.beq_refl _
    match la, lb, hd, ga, gb, ha, hb with
    | [], [], hd, _, _, _, _ => exact absurd hd (by simp)
    | a :: la, [], hd, ga, gb, ha, hb =>
      rw [show mergeB kD (a :: la) [] = [a] ++ mergeB kD la [] from by rw [mergeB]; rfl]
      rw [List.length_cons] at ga
      obtain ⟨oa2, ca2, sA, ga2, ho⟩ := ga.next sizeB 0 (by simp at hd; omega)
      have ha2 := rest_of ha ho
      have rA := head_of ha
      have i1 := ih la [] oa2 ca2 ob cb (n + 1) (out ++ [a]) (by simp at hd ⊢; omega) ga2 gb ha2 hb (by rw [List.length_append, hn]; rfl) (by omega)
      have hw := app_bar out a
      rw [List.append_assoc] at i1
      refine LoopR.next ?_ i1
      have hm : la.length ≤ 8192 := by simp at hd; omega
      show Den EB none (roH [c1, c2]) lp133 (st133 c1 c2 oa (la.length + 1) ca ob 0 cb 104 out n) .normal (st133 c1 c2 oa2 la.length ca2 ob 0 cb 104 (out ++ [a]) (n + 1))
      clear hd ga gb ha hb ha2 ga2 ho
      generalize la.length = m at *
      have hf := barCells_flat (out ++ [a])
      clear i1 ih hn
      exact path_pf KB rfl (finC 2 [(2, .flat 5)] [0, 1, 2, 3, 9]) [.ov (Fa.iadd (↑(m + 1)) 0 (by omega) (by omega)), .ov (Fa.igt1 .i64 (↑(m + 1) + ↑0) 0 (by omega)), .go 7, .n (show (oa + 0) = oa from by omega), .ol rA, .b bA, .ov sA, .go 16, .b (Fa.and1 (Fa.and1 rfl hl) rfl), .b (Fa.and1 (Fa.and1 (Fa.ble1 ((n + 1) * 24) 1099511627776 (by omega)) (Fa.blt1 (n + 1) 4611686018427387904 (by omega))) rfl), .n (show (n + 1) = (n + 1) from rfl), .l hw, .b f1, .b f2, .b hf] (by kernel_rfl)
    | [], b :: lb, hd, ga, gb, ha, hb =>
      rw [show mergeB kD [] (b :: lb) = mergeB kD [] lb from by rw [mergeB]; rfl]
      rw [List.length_cons] at gb
      obtain ⟨ob2, cb2, sB, gb2, ho2⟩ := gb.next sizeB 1 (by simp at hd; omega)
      have hb2 := rest_of hb ho2
      have rB := head_of hb
      have i1 := ih [] lb oa ca ob2 cb2 n out (by simp at hd ⊢; omega) ga gb2 ha hb2 hn (by omega)
      refine LoopR.next ?_ i1
      have hm : lb.length ≤ 8192 := by simp at hd; omega
      show Den EB none (roH [c1, c2]) lp133 (st133 c1 c2 oa 0 ca ob (lb.length + 1) cb 104 out n) .normal (st133 c1 c2 oa 0 ca ob2 lb.length cb2 104 out n)
      clear hd ga gb ha hb hb2 gb2 ho2
      generalize lb.length = m at *
      have hf := barCells_flat out
      clear i1 ih hn
      exact path_pf KB rfl (finC 2 [(2, .flat 2)] [0, 1, 2, 3, 9]) [.ov (Fa.iadd 0 (↑(m + 1)) (by omega) (by omega)), .ov (Fa.igt1 .i64 (↑0 + ↑(m + 1)) 0 (by omega)), .go 11, .n (show (ob + 0) = ob from by omega), .ol rB, .b bB, .ov sB, .go 7, .b f1, .b f2, .b hf] (by kernel_rfl)
    | a :: la, b :: lb, hd, ga, gb, ha, hb =>
      rw [List.length_cons] at ga gb
      by_cases h1 : lessB a b = true
      · have hcmp := (cmpB_neg a b).2 h1
        rw [show mergeB kD (a :: la) (b :: lb) = [a] ++ mergeB kD la (b :: lb) from by rw [mergeB, if_pos h1]; rfl]
        obtain ⟨oa2, ca2, sA, ga2, ho⟩ := ga.next sizeB 0 (by simp at hd; omega)
        have ha2 := rest_of ha ho
        have rA := head_of ha
        have rB := head_of hb
        have i1 := ih la (b :: lb) oa2 ca2 ob cb (n + 1) (out ++ [a]) (by simp at hd ⊢; omega) ga2 gb ha2 hb (by rw [List.length_append, hn]; rfl) (by omega)
        have hw := app_bar out a
        rw [List.append_assoc] at i1
        refine LoopR.next ?_ i1
        have hm : la.length ≤ 8192 := by simp at hd; omega
        have hq : lb.length ≤ 8192 := by simp at hd; omega
        show Den EB none (roH [c1, c2]) lp133 (st133 c1 c2 oa (la.length + 1) ca ob (lb.length + 1) cb 104 out n) .normal (st133 c1 c2 oa2 la.length ca2 ob (lb.length + 1) cb 104 (out ++ [a]) (n + 1))
        clear hd ga gb ha hb ha2 ga2 ho
        generalize la.length = m at *
        generalize lb.length = q at *
        have hf := barCells_flat (out ++ [a])
        clear i1 ih hn
        exact path_pf KB rfl (finC 2 [(2, .flat 5)] [0, 1, 2, 3, 9]) [.ov (Fa.iadd (↑(m + 1)) (↑(q + 1)) (by omega) (by omega)), .ov (Fa.igt1 .i64 (↑(m + 1) + ↑(q + 1)) 0 (by omega)), .go 7, .n (show (oa + 0) = oa from by omega), .ol rA, .go 2, .n (show (ob + 0) = ob from by omega), .ol rB, .go 1, .ov (Fa.ile1 .i64 (cmpB a b) 0 (by omega)), .go 3, .n (show (oa + 0) = oa from by omega), .ol rA, .b bA, .ov sA, .go 1, .ov (Fa.ige0 .i64 (cmpB a b) 0 (by omega)), .go 1, .ov (Fa.ile1 .i64 (cmpB a b) 0 (by omega)), .ov (Fa.ige0 .i64 (cmpB a b) 0 (by omega)), .go 11, .b (Fa.and1 (Fa.and1 rfl hl) rfl), .b (Fa.and1 (Fa.and1 (Fa.ble1 ((n + 1) * 24) 1099511627776 (by omega)) (Fa.blt1 (n + 1) 4611686018427387904 (by omega))) rfl), .n (show (n + 1) = (n + 1) from rfl), .l hw, .b f1, .b f2, .b hf] (by kernel_rfl)
      · by_cases h2 : lessB b a = true
        · have hcmp : 0 < cmpB a b := by
            have q1 := (cmpB_pos a b).2 h1
            have q2 : ¬ cmpB a b = 0 := fun e => less_ne h2 ((cmpB_zero a b).1 e).symm
            omega
          rw [show mergeB kD (a :: la) (b :: lb) = mergeB kD (a :: la) lb from by rw [mergeB, if_neg h1, if_pos h2]; rfl]
          obtain ⟨ob2, cb2, sB, gb2, ho2⟩ := gb.next sizeB 1 (by simp at hd; omega)
          have hb2 := rest_of hb ho2
          have rB := head_of hb
          have rA := head_of ha
          have i1 := ih (a :: la) lb oa ca ob2 cb2 n out (by simp at hd ⊢; omega) ga gb2 ha hb2 hn (by omega)
          refine LoopR.next ?_ i1
          have hm : la.length ≤ 8192 := by simp at hd; omega
          have hq : lb.length ≤ 8192 := by simp at hd; omega
          show Den EB none (roH [c1, c2]) lp133 (st133 c1 c2 oa (la.length + 1) ca ob (lb.length + 1) cb 104 out n) .normal (st133 c1 c2 oa (la.length + 1) ca ob2 lb.length cb2 104 out n)
          clear hd ga gb ha hb hb2 gb2 ho2
          generalize la.length = m at *
          generalize lb.length = q at *
          have hf := barCells_flat out
          clear i1 ih hn
          exact path_pf KB rfl (finC 2 [(2, .flat 2)] [0, 1, 2, 3, 9]) [.ov (Fa.iadd (↑(m + 1)) (↑(q + 1)) (by omega) (by omega)), .ov (Fa.igt1 .i64 (↑(m + 1) + ↑(q + 1)) 0 (by omega)), .go 7, .n (show (oa + 0) = oa from by omega), .ol rA, .go 2, .n (show (ob + 0) = ob from by omega), .ol rB, .go 1, .ov (Fa.ile0 .i64 (cmpB a b) 0 (by omega)), .go 1, .ov (Fa.ige1 .i64 (cmpB a b) 0 (by omega)), .go 3, .n (show (ob + 0) = ob from by omega), .ol rB, .b bB, .ov sB, .go 1, .ov (Fa.ile0 .i64 (cmpB a b) 0 (by omega)), .ov (Fa.ige1 .i64 (cmpB a b) 0 (by omega)), .go 4, .b f1, .b f2, .b hf] (by kernel_rfl)
        · obtain rfl : a = b := less_tri (by simpa using h1) (by simpa using h2)
          have hcmp := (cmpB_zero a a).2 rfl
          rw [show mergeB kD (a :: la) (a :: lb) = mergeB kD la lb from by rw [mergeB, if_neg h1, if_neg h1]; rfl]
          obtain ⟨oa2, ca2, sA, ga2, ho⟩ := ga.next sizeB 0 (by simp at hd; omega)
          have ha2 := rest_of ha ho
          have rA := head_of ha
          obtain ⟨ob2, cb2, sB, gb2, ho2⟩ := gb.next sizeB 1 (by simp at hd; omega)
          have hb2 := rest_of hb ho2
          have rB := head_of hb
          have i1 := ih la lb oa2 ca2 ob2 cb2 n out (by simp at hd ⊢; omega) ga2 gb2 ha2 hb2 hn (by omega)
          refine LoopR.next ?_ i1
          have hm : la.length ≤ 8192 := by simp at hd; omega
          have hq : lb.length ≤ 8192 := by simp at hd; omega
          show Den EB none (roH [c1, c2]) lp133 (st133 c1 c2 oa (la.length + 1) ca ob (lb.length + 1) cb 104 out n) .normal (st133 c1 c2 oa2 la.length ca2 ob2 lb.length cb2 104 out n)
          clear hd ga gb ha hb ha2 ga2 ho hb2 gb2 ho2
          generalize la.length = m at *
          generalize lb.length = q at *
          have hf := barCells_flat out
          clear i1 ih hn
          exact path_pf KB rfl (finC 2 [(2, .flat 2)] [0, 1, 2, 3, 9]) [.ov (Fa.iadd (↑(m + 1)) (↑(q + 1)) (by omega) (by omega)), .ov (Fa.igt1 .i64 (↑(m + 1) + ↑(q + 1)) 0 (by omega)), .go 7, .n (show (oa + 0) = oa from by omega), .ol rA, .go 2, .n (show (ob + 0) = ob from by omega), .ol rB, .go 1, .ov (Fa.ile1 .i64 (cmpB a a) 0 (by omega)), .go 3, .n (show (oa + 0) = oa from by omega), .ol rA, .b bA, .ov sA, .go 1, .ov (Fa.ige1 .i64 (cmpB a a) 0 (by omega)), .go 3, .n (show (ob + 0) = ob from by omega), .ol rB, .b bB, .ov sB, .go 1, .ov (Fa.ile1 .i64 (cmpB a a) 0 (by omega)), .ov (Fa.ige1 .i64 (cmpB a a) 0 (by omega)), .go 5, .b f1, .b f2, .b hf] (by kernel_rfl)
end

section
variable {c1 c2 : List Value}
theorem loop133_118 (f1 : c1.all flatCell = true) (f2 : c2.all flatCell = true) : ∀ (d : Nat) (la lb : List B3) (oa ca ob cb n : Nat) (out : List B3), la.length + lb.length = d → Gd oa la.length ca → Gd ob lb.length cb → slice? c1 oa (la.length * 3) = some (barCells la) → slice? c2 ob (lb.length * 3) = some (barCells lb) → out.length = n → n + d ≤ 8192 →
    LoopR EB none (roH [c1, c2]) lp133 (st133 c1 c2 oa la.length ca ob lb.length cb 118 out n) (.exit 0) (fn133 c1 c2 (out ++ mergeB kM la lb)) := by
  intro d
  induction d using Nat.strongRecOn with
  | ind d ihs =>
  cases d with
  | zero =>
    intro la lb oa ca ob cb n out hd ga gb ha hb hn hmax
    obtain rfl : la = [] := List.eq_nil_of_length_eq_zero (by omega)
    obtain rfl : lb = [] := List.eq_nil_of_length_eq_zero (by omega)
    rw [show mergeB kM [] [] = [] from by rw [mergeB], List.append_nil]
    refine LoopR.out ?_ nofun
    subst hn
    have bA := ga.cap
    have bB := gb.cap
    have hf := barCells_flat out
    exact path_pf KB rfl (finC 2 [(2, .flat 2)] [9]) [.go 3, .b f1, .b f2, .b hf] (by kernel_rfl)
  | succ d =>
    intro la lb oa ca ob cb n out hd ga gb ha hb hn hmax
    have ih : ∀ (la lb : List B3) (oa ca ob cb n : Nat) (out : List B3), la.length + lb.length ≤ d → Gd oa la.length ca → Gd ob lb.length cb → slice? c1 oa (la.length * 3) = some (barCells la) → slice? c2 ob (lb.length * 3) = some (barCells lb) → out.length = n → n + d ≤ 8192 →
        LoopR EB none (roH [c1, c2]) lp133 (st133 c1 c2 oa la.length ca ob lb.length cb 118 out n) (.exit 0) (fn133 c1 c2 (out ++ mergeB kM la lb)) := fun la lb oa ca ob cb n out hd ga gb ha hb hn hmax => ihs (la.length + lb.length) (by omega) la lb oa ca ob cb n out rfl ga gb ha hb hn (by omega)
    clear ihs
    have bA := ga.cap
    have bB := gb.cap
    have hl : Nat.beq (barCells out).length (n * 3) = true := by rw [barCells_length, hn]; exact Nat.beq_refl _
    match la, lb, hd, ga, gb, ha, hb with
    | [], [], hd, _, _, _, _ => exact absurd hd (by simp)
    | a :: la, [], hd, ga, gb, ha, hb =>
      rw [show mergeB kM (a :: la) [] = mergeB kM la [] from by rw [mergeB]; rfl]
      rw [List.length_cons] at ga
      obtain ⟨oa2, ca2, sA, ga2, ho⟩ := ga.next sizeB 0 (by simp at hd; omega)
      have ha2 := rest_of ha ho
      have rA := head_of ha
      have i1 := ih la [] oa2 ca2 ob cb n out (by simp at hd ⊢; omega) ga2 gb ha2 hb hn (by omega)
      refine LoopR.next ?_ i1
      have hm : la.length ≤ 8192 := by simp at hd; omega
      show Den EB none (roH [c1, c2]) lp133 (st133 c1 c2 oa (la.length + 1) ca ob 0 cb 118 out n) .normal (st133 c1 c2 oa2 la.length ca2 ob 0 cb 118 out n)
      clear hd ga gb ha hb ha2 ga2 ho
      generalize la.length = m at *
      have hf := barCells_flat out
      clear i1 ih hn
      exact path_pf KB rfl (finC 2 [(2, .flat 2)] [0, 1, 2, 3, 9]) [.ov (Fa.iadd (↑(m + 1)) 0 (by omega) (by omega)), .ov (Fa.igt1 .i64 (↑(m + 1) + ↑0) 0 (by omega)), .go 7, .n (show (oa + 0) = oa from by omega), .ol rA, .b bA, .ov sA, .go 8, .b f1, .b f2, .b hf] (by kernel_rfl)
    | [], b :: lb, hd, ga, gb, ha, hb =>
      rw [show mergeB kM [] (b :: lb) = mergeB kM [] lb from by rw [mergeB]; rfl]
      rw [List.length_cons] at gb
      obtain ⟨ob2, cb2, sB, gb2, ho2⟩ := gb.next sizeB 1 (by simp at hd; omega)
      have hb2 := rest_of hb ho2
      have rB := head_of hb
      have i1 := ih [] lb oa ca ob2 cb2 n out (by simp at hd ⊢; omega) ga gb2 ha hb2 hn (by omega)
      refine LoopR.next ?_ i1
      have hm : lb.length ≤ 8192 := by simp at hd; omega
      show Den EB none (roH [c1, c2]) lp133 (st133 c1 c2 oa 0 ca ob (lb.length + 1) cb 118 out n) .normal (st133 c1 c2 oa 0 ca ob2 lb.length cb2 118 out n)
      clear hd ga gb ha hb hb2 gb2 ho2
      generalize lb.length = m at *
      have hf := barCells_flat out
      clear i1 ih hn
      exact path_pf KB rfl (finC 2 [(2, .flat 2)] [0, 1, 2, 3, 9]) [.ov (Fa.iadd 0 (↑(m + 1)) (by omega) (by omega)), .ov (Fa.igt1 .i64 (↑0 + ↑(m + 1)) 0 (by omega)), .go 11, .n (show (ob + 0) = ob from by omega), .ol rB, .b bB, .ov sB, .go 6, .b f1, .b f2, .b hf] (by kernel_rfl)
    | a :: la, b :: lb, hd, ga, gb, ha, hb =>
      rw [List.length_cons] at ga gb
      by_cases h1 : lessB a b = true
      · have hcmp := (cmpB_neg a b).2 h1
        rw [show mergeB kM (a :: la) (b :: lb) = mergeB kM la (b :: lb) from by rw [mergeB, if_pos h1]; rfl]
        obtain ⟨oa2, ca2, sA, ga2, ho⟩ := ga.next sizeB 0 (by simp at hd; omega)
        have ha2 := rest_of ha ho
        have rA := head_of ha
        have rB := head_of hb
        have i1 := ih la (b :: lb) oa2 ca2 ob cb n out (by simp at hd ⊢; omega) ga2 gb ha2 hb hn (by omega)
        refine LoopR.next ?_ i1
        have hm : la.length ≤ 8192 := by simp at hd; omega
        have hq : lb.length ≤ 8192 := by simp at hd; omega
        show Den EB none (roH [c1, c2]) lp133 (st133 c1 c2 oa (la.length + 1) ca ob (lb.length + 1) cb 118 out n) .normal (st133 c1 c2 oa2 la.length ca2 ob (lb.length + 1) cb 118 out n)
        clear hd ga gb ha hb ha2 ga2 ho
        generalize la.length = m at *
        generalize lb.length = q at *
        have hf := barCells_flat out
        clear i1 ih hn
        exact path_pf KB rfl (finC 2 [(2, .flat 2)] [0, 1, 2, 3, 9]) [.ov (Fa.iadd (↑(m + 1)) (↑(q + 1)) (by omega) (by omega)), .ov (Fa.igt1 .i64 (↑(m + 1) + ↑(q + 1)) 0 (by omega)), .go 7, .n (show (oa + 0) = oa from by omega), .ol rA, .go 2, .n (show (ob + 0) = ob from by omega), .ol rB, .go 1, .ov (Fa.ile1 .i64 (cmpB a b) 0 (by omega)), .go 3, .n (show (oa + 0) = oa from by omega), .ol rA, .b bA, .ov sA, .go 1, .ov (Fa.ige0 .i64 (cmpB a b) 0 (by omega)), .go 1, .ov (Fa.ile1 .i64 (cmpB a b) 0 (by omega)), .ov (Fa.ige0 .i64 (cmpB a b) 0 (by omega)), .go 3, .b f1, .b f2, .b hf] (by kernel_rfl)
      · by_cases h2 : lessB b a = true
        · have hcmp : 0 < cmpB a b := by
            have q1 := (cmpB_pos a b).2 h1
            have q2 : ¬ cmpB a b = 0 := fun e => less_ne h2 ((cmpB_zero a b).1 e).symm
            omega
          rw [show mergeB kM (a :: la) (b :: lb) = mergeB kM (a :: la) lb from by rw [mergeB, if_neg h1, if_pos h2]; rfl]
          obtain ⟨ob2, cb2, sB, gb2, ho2⟩ := gb.next sizeB 1 (by simp at hd; omega)
          have hb2 := rest_of hb ho2
          have rB := head_of hb
          have rA := head_of ha
          have i1 := ih (a :: la) lb oa ca ob2 cb2 n out (by simp at hd ⊢; omega) ga gb2 ha hb2 hn (by omega)
          refine LoopR.next ?_ i1
          have hm : la.length ≤ 8192 := by simp at hd; omega
          have hq : lb.length ≤ 8192 := by simp at hd; omega
          show Den EB none (roH [c1, c2]) lp133 (st133 c1 c2 oa (la.length + 1) ca ob (lb.length + 1) cb 118 out n) .normal (st133 c1 c2 oa (la.length + 1) ca ob2 lb.length cb2 118 out n)
          clear hd ga gb ha hb hb2 gb2 ho2
          generalize la.length = m at *
          generalize lb.length = q at *
          have hf := barCells_flat out
          clear i1 ih hn
          exact path_pf KB rfl (finC 2 [(2, .flat 2)] [0, 1, 2, 3, 9]) [.ov (Fa.iadd (↑(m + 1)) (↑(q + 1)) (by omega) (by omega)), .ov (Fa.igt1 .i64 (↑(m + 1) + ↑(q + 1)) 0 (by omega)), .go 7, .n (show (oa + 0) = oa from by omega), .ol rA, .go 2, .n (show (ob + 0) = ob from by omega), .ol rB, .go 1, .ov (Fa.ile0 .i64 (cmpB a b) 0 (by omega)), .go 1, .ov (Fa.ige1 .i64 (cmpB a b) 0 (by omega)), .go 3, .n (show (ob + 0) = ob from by omega), .ol rB, .b bB, .ov sB, .go 1, .ov (Fa.ile0 .i64 (cmpB a b) 0 (by omega)), .ov (Fa.ige1 .i64 (cmpB a b) 0 (by omega)), .go 3, .b f1, .b f2, .b hf] (by kernel_rfl)
        · obtain rfl : a = b := less_tri (by simpa using h1) (by simpa using h2)
          have hcmp := (cmpB_zero a a).2 rfl
          rw [show mergeB kM (a :: la) (a :: lb) = [a] ++ mergeB kM la lb from by rw [mergeB, if_neg h1, if_neg h1]; rfl]
          obtain ⟨oa2, ca2, sA, ga2, ho⟩ := ga.next sizeB 0 (by simp at hd; omega)
          have ha2 := rest_of ha ho
          have rA := head_of ha
          obtain ⟨ob2, cb2, sB, gb2, ho2⟩ := gb.next sizeB 1 (by simp at hd; omega)
          have hb2 := rest_of hb ho2
          have rB := head_of hb
          have i1 := ih la lb oa2 ca2 ob2 cb2 (n + 1) (out ++ [a]) (by simp at hd ⊢; omega) ga2 gb2 ha2 hb2 (by rw [List.length_append, hn]; rfl) (by omega)
          have hw := app_bar out a
          rw [List.append_assoc] at i1
          refine LoopR.next ?_ i1
          have hm : la.length ≤ 8192 := by simp at hd; omega
          have hq : lb.length ≤ 8192 := by simp at hd; omega
          show Den EB none (roH [c1, c2]) lp133 (st133 c1 c2 oa (la.length + 1) ca ob (lb.length + 1) cb 118 out n) .normal (st133 c1 c2 oa2 la.length ca2 ob2 lb.length cb2 118 (out ++ [a]) (n + 1))
          clear hd ga gb ha hb ha2 ga2 ho hb2 gb2 ho2
          generalize la.length = m at *
          generalize lb.length = q at *
          have hf := barCells_flat (out ++ [a])
          clear i1 ih hn
          exact path_pf KB rfl (finC 2 [(2, .flat 5)] [0, 1, 2, 3, 9]) [.ov (Fa.iadd (↑(m + 1)) (↑(q + 1)) (by omega) (by omega)), .ov (Fa.igt1 .i64 (↑(m + 1) + ↑(q + 1)) 0 (by omega)), .go 7, .n (show (oa + 0) = oa from by omega), .ol rA, .go 2, .n (show (ob + 0) = ob from by omega), .ol rB, .go 1, .ov (Fa.ile1 .i64 (cmpB a a) 0 (by omega)), .go 3, .n (show (oa + 0) = oa from by omega), .ol rA, .b bA, .ov sA, .go 1, .ov (Fa.ige1 .i64 (cmpB a a) 0 (by omega)), .go 3, .n (show (ob + 0) = ob from by omega), .ol rB, .b bB, .ov sB, .go 1, .ov (Fa.ile1 .i64 (cmpB a a) 0 (by omega)), .ov (Fa.ige1 .i64 (cmpB a a) 0 (by omega)), .go 9, .b (Fa.and1 (Fa.and1 rfl hl) rfl), .b (Fa.and1 (Fa.and1 (Fa.ble1 ((n + 1) * 24) 1099511627776 (by omega)) (Fa.blt1 (n + 1) 4611686018427387904 (by omega))) rfl), .n (show (n + 1) = (n + 1) from rfl), .l hw, .b f1, .b f2, .b hf] (by kernel_rfl)
end
end Go.Proofs.YtlkhpgocbojdgaaGreatDoor.Ai

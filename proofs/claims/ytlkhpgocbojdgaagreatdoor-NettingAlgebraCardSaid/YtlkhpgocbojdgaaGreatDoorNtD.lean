/-
  CONTRACTS: the check of a net, in the program and in its reference.
-/
import Derived.Test.YtlkhpgocbojdgaaGreatDoorNtC
namespace Go.Proofs.YtlkhpgocbojdgaaGreatDoor.Ai
open Go
set_option linter.unusedSimpArgs false
set_option linter.unusedVariables false

def netFrom : Option B3 → List B3 → Int
  | _, [] => 0
  | none, b :: r => if barE b.x b.y b.s = 0 then netFrom (some b) r else barE b.x b.y b.s
  | some p, b :: r => if barE b.x b.y b.s = 0 then (if lessB p b = true then netFrom (some b) r else 11) else barE b.x b.y b.s
def netE (l : List B3) : Int := if 4096 < l.length then 5 else netFrom none l

theorem cmpI_neg {a b : Int} : cmpI a b < 0 ↔ a < b := by unfold cmpI; split <;> (try split) <;> omega
theorem cmpI_zero {a b : Int} : cmpI a b = 0 ↔ a = b := by unfold cmpI; split <;> (try split) <;> omega
theorem cmpB_neg (a b : B3) : cmpB a b < 0 ↔ lessB a b = true := by
  unfold cmpB lessB
  simp only [firstE, decide_eq_true_eq]
  have h1 := cmpI_neg (a := a.y) (b := b.y)
  have h2 := cmpI_zero (a := a.y) (b := b.y)
  have h3 := cmpI_neg (a := a.x) (b := b.x)
  have h4 := cmpI_zero (a := a.x) (b := b.x)
  have h5 := cmpI_neg (a := a.s) (b := b.s)
  have h6 := cmpI_zero (a := a.s) (b := b.s)
  split <;> (try split) <;> (try split) <;> omega
theorem cmpB_pos (a b : B3) : 0 ≤ cmpB a b ↔ ¬ lessB a b = true := by rw [← cmpB_neg]; omega

/-- The bar before. -/
def prevB (l : List B3) (k : Nat) : Option B3 := if k = 0 then none else l[k - 1]?
theorem prevB_succ {l : List B3} {k : Nat} {b : B3} (h : l[k]? = some b) : prevB l (k + 1) = some b := by unfold prevB; rw [if_neg (by omega)]; exact h
theorem drop_consB {l : List B3} {k : Nat} {x : B3} (hx : l[k]? = some x) : l.drop k = x :: l.drop (k + 1) := by
  obtain ⟨hk, e⟩ := List.getElem?_eq_some_iff.1 hx
  rw [List.drop_eq_getElem_cons hk, e]

noncomputable def st64 (c : List Value) (off n cap k : Nat) : ASt := finSt [c] [] [(0, sv 0 off n cap), (9, sv 0 off n cap), (10, iv n), (11, iv k)]
noncomputable def lp64 : Code := sub [1, 1, 0, 1, 0, 0] (bodyOf Tryz.f64)
noncomputable def st25 (c : List Value) (off n cap k : Nat) : ASt := finSt [c] [] [(0, sv 0 off n cap), (3, iv k)]
noncomputable def lp25 : Code := sub [1, 1, 0, 1, 0, 0] (bodyOf Tryz.f25)

section
variable {c : List Value} {l : List B3} {off cap : Nat}
theorem loop64 (hc : slice? c off (l.length * 3) = some (barCells l)) (hn : l.length < 1099511627776) (hf : c.all flatCell = true) : ∀ (d k : Nat), k + d = l.length →
    (netFrom (prevB l k) (l.drop k) = 0 → LoopR E3 none (roH [c]) lp64 (st64 c off l.length cap k) (.exit 0) (finSt [c] [] [])) ∧
    (¬ netFrom (prevB l k) (l.drop k) = 0 → LoopR E3 none (roH [c]) lp64 (st64 c off l.length cap k) .ret (finSt [c] [] [(2, iv (netFrom (prevB l k) (l.drop k)))]))
  | 0, k, hk => by
    rw [List.drop_eq_nil_of_le (by omega)]
    have e : netFrom (prevB l k) [] = 0 := by cases prevB l k <;> rfl
    rw [e]
    refine ⟨fun _ => LoopR.out ?_ nofun, fun h => absurd rfl h⟩
    exact path_pf K3 rfl (finC 1 [] []) [.ov (Fa.ilt0 .i64 ↑k ↑l.length (by omega)), .go 1, .b hf] (by kernel_rfl)
  | d + 1, k, hk => by
    obtain ⟨b, hb⟩ : ∃ x, l[k]? = some x := ⟨_, List.getElem?_eq_getElem (show k < l.length by omega)⟩
    have hr := rd_bar hc hb
    obtain ⟨p, hp⟩ : ∃ p, 0 < k → l[k - 1]? = some p := by
      by_cases h : 0 < k
      · exact ⟨_, fun _ => List.getElem?_eq_getElem (show k - 1 < l.length by omega)⟩
      · exact ⟨b, fun h' => absurd h' h⟩
    have hr1 : 0 < k → _ := fun h => rd_bar hc (hp h)
    obtain ⟨i1, i2⟩ := loop64 hc hn hf d (k + 1) (by omega)
    rw [prevB_succ hb] at i1 i2
    have f0 : firstE [barE b.x b.y b.s, 0] = barE b.x b.y b.s := by rw [first2]; split <;> simp [*]
    rw [drop_consB hb]
    by_cases h0 : barE b.x b.y b.s = 0
    · have f11 : firstE [barE b.x b.y b.s, 11] = 11 := by rw [first2, if_pos h0]
      by_cases h1 : 0 < k → lessB p b = true
      · have e : netFrom (prevB l k) (b :: l.drop (k + 1)) = netFrom (some b) (l.drop (k + 1)) := by
          by_cases h : 0 < k
          · rw [show prevB l k = some p by unfold prevB; rw [if_neg (by omega)]; exact hp h, netFrom, if_pos h0, if_pos (h1 h)]
          · rw [show prevB l k = none by unfold prevB; rw [if_pos (by omega)], netFrom, if_pos h0]
        have h2 : 0 < k → cmpB p b < 0 := fun h => (cmpB_neg p b).2 (h1 h)
        have q : Den E3 none (roH [c]) lp64 (st64 c off l.length cap k) .normal (st64 c off l.length cap (k + 1)) := by
          by_cases b0 : 0 < ↑k
          · exact path_pf K3 rfl (finC 1 [] [0, 9, 10, 11]) [.ov (Fa.ilt1 .i64 ↑k ↑l.length (by omega)), .go 2, .b (Fa.blt1 k l.length (by omega)), .n (show (off + k * 3) = (off + k * 3) from rfl), .ol hr, .go 3, .ov (Fa.igt1 .i64 ↑k 0 (by omega)), .go 3, .ov (Fa.isub ↑k 1 (by omega) (by omega)), .go 1, .ov (Fa.imax2 0 (↑k - 1) (by omega)), .go 1, .on (Fa.natOf .i64 (↑k - 1) (k - 1) (by omega)), .b (Fa.blt1 (k - 1) l.length (by omega)), .n (show (off + (k - 1) * 3) = (off + (k - 1) * 3) from rfl), .go 1, .ol (hr1 (by omega)), .go 5, .ov (Fa.ige0 .i64 (cmpB p b) 0 (by omega)), .go 3, .ov (Fa.ine0 .i64 (firstE [barE b.x b.y b.s, 0]) 0 (by omega)), .go 1, .ov (Fa.iadd ↑k 1 (by omega) (by omega)), .b hf] (by kernel_rfl)
          · exact path_pf K3 rfl (finC 1 [] [0, 9, 10, 11]) [.ov (Fa.ilt1 .i64 ↑k ↑l.length (by omega)), .go 2, .b (Fa.blt1 k l.length (by omega)), .n (show (off + k * 3) = (off + k * 3) from rfl), .ol hr, .go 3, .ov (Fa.igt0 .i64 ↑k 0 (by omega)), .go 12, .ov (Fa.ine0 .i64 (firstE [barE b.x b.y b.s, 0]) 0 (by omega)), .go 1, .ov (Fa.iadd ↑k 1 (by omega) (by omega)), .b hf] (by kernel_rfl)
        rw [e]
        exact ⟨fun h => LoopR.next q (i1 h), fun h => LoopR.next q (i2 h)⟩
      · have hkp : 0 < k := by rcases Nat.eq_zero_or_pos k with q | q; exact absurd (fun h => by omega) h1; exact q
        have h1 : ¬ lessB p b = true := fun q => h1 fun _ => q
        have h2 : 0 ≤ cmpB p b := (cmpB_pos p b).2 h1
        have e : netFrom (prevB l k) (b :: l.drop (k + 1)) = 11 := by
          rw [show prevB l k = some p by unfold prevB; rw [if_neg (by omega)]; exact hp hkp, netFrom, if_pos h0, if_neg h1]
        rw [e]
        refine ⟨fun h => absurd h (by decide), fun _ => LoopR.out ?_ nofun⟩
        rw [← f11]
        exact path_pf K3 rfl (finC 1 [] [2]) [.ov (Fa.ilt1 .i64 ↑k ↑l.length (by omega)), .go 2, .b (Fa.blt1 k l.length (by omega)), .n (show (off + k * 3) = (off + k * 3) from rfl), .ol hr, .go 3, .ov (Fa.igt1 .i64 ↑k 0 (by omega)), .go 3, .ov (Fa.isub ↑k 1 (by omega) (by omega)), .go 1, .ov (Fa.imax2 0 (↑k - 1) (by omega)), .go 1, .on (Fa.natOf .i64 (↑k - 1) (k - 1) (by omega)), .b (Fa.blt1 (k - 1) l.length (by omega)), .n (show (off + (k - 1) * 3) = (off + (k - 1) * 3) from rfl), .go 1, .ol (hr1 (by omega)), .go 5, .ov (Fa.ige1 .i64 (cmpB p b) 0 (by omega)), .go 3, .ov (Fa.ine1 .i64 (firstE [barE b.x b.y b.s, 11]) 0 (by omega)), .go 1, .b hf] (by kernel_rfl)
    · have f11 : firstE [barE b.x b.y b.s, 11] = barE b.x b.y b.s := by rw [first2, if_neg h0]
      have e : netFrom (prevB l k) (b :: l.drop (k + 1)) = barE b.x b.y b.s := by
        cases prevB l k <;> rw [netFrom, if_neg h0]
      rw [e]
      refine ⟨fun h => absurd h h0, fun _ => LoopR.out ?_ nofun⟩
      by_cases b0 : 0 < ↑k
      · by_cases b1 : 0 ≤ cmpB p b
        · have hv : iv (barE b.x b.y b.s) = (.int .i64 (firstE [barE b.x b.y b.s, 11])) := by first | rw [f11] | rw [f0]
          rw [hv]
          exact path_pf K3 rfl (finC 1 [] [2]) [.ov (Fa.ilt1 .i64 ↑k ↑l.length (by omega)), .go 2, .b (Fa.blt1 k l.length (by omega)), .n (show (off + k * 3) = (off + k * 3) from rfl), .ol hr, .go 3, .ov (Fa.igt1 .i64 ↑k 0 (by omega)), .go 3, .ov (Fa.isub ↑k 1 (by omega) (by omega)), .go 1, .ov (Fa.imax2 0 (↑k - 1) (by omega)), .go 1, .on (Fa.natOf .i64 (↑k - 1) (k - 1) (by omega)), .b (Fa.blt1 (k - 1) l.length (by omega)), .n (show (off + (k - 1) * 3) = (off + (k - 1) * 3) from rfl), .go 1, .ol (hr1 (by omega)), .go 5, .ov (Fa.ige1 .i64 (cmpB p b) 0 (by omega)), .go 3, .ov (Fa.ine1 .i64 (firstE [barE b.x b.y b.s, 11]) 0 (by omega)), .go 1, .b hf] (by kernel_rfl)
        · have hv : iv (barE b.x b.y b.s) = (.int .i64 (firstE [barE b.x b.y b.s, 0])) := by first | rw [f11] | rw [f0]
          rw [hv]
          exact path_pf K3 rfl (finC 1 [] [2]) [.ov (Fa.ilt1 .i64 ↑k ↑l.length (by omega)), .go 2, .b (Fa.blt1 k l.length (by omega)), .n (show (off + k * 3) = (off + k * 3) from rfl), .ol hr, .go 3, .ov (Fa.igt1 .i64 ↑k 0 (by omega)), .go 3, .ov (Fa.isub ↑k 1 (by omega) (by omega)), .go 1, .ov (Fa.imax2 0 (↑k - 1) (by omega)), .go 1, .on (Fa.natOf .i64 (↑k - 1) (k - 1) (by omega)), .b (Fa.blt1 (k - 1) l.length (by omega)), .n (show (off + (k - 1) * 3) = (off + (k - 1) * 3) from rfl), .go 1, .ol (hr1 (by omega)), .go 5, .ov (Fa.ige0 .i64 (cmpB p b) 0 (by omega)), .go 3, .ov (Fa.ine1 .i64 (firstE [barE b.x b.y b.s, 0]) 0 (by omega)), .go 1, .b hf] (by kernel_rfl)
      · have hv : iv (barE b.x b.y b.s) = (.int .i64 (firstE [barE b.x b.y b.s, 0])) := by first | rw [f11] | rw [f0]
        rw [hv]
        exact path_pf K3 rfl (finC 1 [] [2]) [.ov (Fa.ilt1 .i64 ↑k ↑l.length (by omega)), .go 2, .b (Fa.blt1 k l.length (by omega)), .n (show (off + k * 3) = (off + k * 3) from rfl), .ol hr, .go 3, .ov (Fa.igt0 .i64 ↑k 0 (by omega)), .go 12, .ov (Fa.ine1 .i64 (firstE [barE b.x b.y b.s, 0]) 0 (by omega)), .go 1, .b hf] (by kernel_rfl)

theorem loop25 (hc : slice? c off (l.length * 3) = some (barCells l)) (hn : l.length < 1099511627776) (hf : c.all flatCell = true) : ∀ (d k : Nat), k + d = l.length →
    (netFrom (prevB l k) (l.drop k) = 0 → LoopR E3 none (roH [c]) lp25 (st25 c off l.length cap k) (.exit 0) (finSt [c] [] [])) ∧
    (¬ netFrom (prevB l k) (l.drop k) = 0 → LoopR E3 none (roH [c]) lp25 (st25 c off l.length cap k) .ret (finSt [c] [] [(2, iv (netFrom (prevB l k) (l.drop k)))]))
  | 0, k, hk => by
    rw [List.drop_eq_nil_of_le (by omega)]
    have e : netFrom (prevB l k) [] = 0 := by cases prevB l k <;> rfl
    rw [e]
    refine ⟨fun _ => LoopR.out ?_ nofun, fun h => absurd rfl h⟩
    exact path_pf K3 rfl (finC 1 [] []) [.ov (Fa.ilt0 .i64 ↑k ↑l.length (by omega)), .go 1, .b hf] (by kernel_rfl)
  | d + 1, k, hk => by
    obtain ⟨b, hb⟩ : ∃ x, l[k]? = some x := ⟨_, List.getElem?_eq_getElem (show k < l.length by omega)⟩
    have hr := rd_bar hc hb
    obtain ⟨p, hp⟩ : ∃ p, 0 < k → l[k - 1]? = some p := by
      by_cases h : 0 < k
      · exact ⟨_, fun _ => List.getElem?_eq_getElem (show k - 1 < l.length by omega)⟩
      · exact ⟨b, fun h' => absurd h' h⟩
    have hr1 : 0 < k → _ := fun h => rd_bar hc (hp h)
    obtain ⟨i1, i2⟩ := loop25 hc hn hf d (k + 1) (by omega)
    rw [prevB_succ hb] at i1 i2
    rw [drop_consB hb]
    by_cases h0 : barE b.x b.y b.s = 0
    · by_cases h1 : 0 < k → lessB p b = true
      · have e : netFrom (prevB l k) (b :: l.drop (k + 1)) = netFrom (some b) (l.drop (k + 1)) := by
          by_cases h : 0 < k
          · rw [show prevB l k = some p by unfold prevB; rw [if_neg (by omega)]; exact hp h, netFrom, if_pos h0, if_pos (h1 h)]
          · rw [show prevB l k = none by unfold prevB; rw [if_pos (by omega)], netFrom, if_pos h0]
        have q : Den E3 none (roH [c]) lp25 (st25 c off l.length cap k) .normal (st25 c off l.length cap (k + 1)) := by
          by_cases b0 : 0 < ↑k
          · exact path_pf K3 rfl (finC 1 [] [0, 3]) [.ov (Fa.ilt1 .i64 ↑k ↑l.length (by omega)), .go 2, .b (Fa.blt1 k l.length (by omega)), .n (show (off + k * 3) = (off + k * 3) from rfl), .ol hr, .go 1, .ov (Fa.ine0 .i64 (barE b.x b.y b.s) 0 (by omega)), .go 1, .ov (Fa.igt1 .i64 ↑k 0 (by omega)), .go 3, .ov (Fa.isub ↑k 1 (by omega) (by omega)), .go 1, .on (Fa.natOf .i64 (↑k - 1) (k - 1) (by omega)), .b (Fa.blt1 (k - 1) l.length (by omega)), .n (show (off + (k - 1) * 3) = (off + (k - 1) * 3) from rfl), .go 1, .ol (hr1 (by omega)), .go 4, .b (Fa.blt1 k l.length (by omega)), .n (show (off + k * 3) = (off + k * 3) from rfl), .go 1, .ol hr, .go 5, .b (Fa.nott (h1 (by omega))), .ov (Fa.iadd ↑k 1 (by omega) (by omega)), .b hf] (by kernel_rfl)
          · exact path_pf K3 rfl (finC 1 [] [0, 3]) [.ov (Fa.ilt1 .i64 ↑k ↑l.length (by omega)), .go 2, .b (Fa.blt1 k l.length (by omega)), .n (show (off + k * 3) = (off + k * 3) from rfl), .ol hr, .go 1, .ov (Fa.ine0 .i64 (barE b.x b.y b.s) 0 (by omega)), .go 1, .ov (Fa.igt0 .i64 ↑k 0 (by omega)), .go 13, .ov (Fa.iadd ↑k 1 (by omega) (by omega)), .b hf] (by kernel_rfl)
        rw [e]
        exact ⟨fun h => LoopR.next q (i1 h), fun h => LoopR.next q (i2 h)⟩
      · have hkp : 0 < k := by rcases Nat.eq_zero_or_pos k with q | q; exact absurd (fun h => by omega) h1; exact q
        have h1 : lessB p b = false := by
          cases e : lessB p b with
          | false => rfl
          | true => exact absurd (fun _ => e) h1
        have e : netFrom (prevB l k) (b :: l.drop (k + 1)) = 11 := by
          rw [show prevB l k = some p by unfold prevB; rw [if_neg (by omega)]; exact hp hkp, netFrom, if_pos h0, if_neg (by rw [h1]; decide)]
        rw [e]
        refine ⟨fun h => absurd h (by decide), fun _ => LoopR.out ?_ nofun⟩
        exact path_pf K3 rfl (finC 1 [] [2]) [.ov (Fa.ilt1 .i64 ↑k ↑l.length (by omega)), .go 2, .b (Fa.blt1 k l.length (by omega)), .n (show (off + k * 3) = (off + k * 3) from rfl), .ol hr, .go 1, .ov (Fa.ine0 .i64 (barE b.x b.y b.s) 0 (by omega)), .go 1, .ov (Fa.igt1 .i64 ↑k 0 (by omega)), .go 3, .ov (Fa.isub ↑k 1 (by omega) (by omega)), .go 1, .on (Fa.natOf .i64 (↑k - 1) (k - 1) (by omega)), .b (Fa.blt1 (k - 1) l.length (by omega)), .n (show (off + (k - 1) * 3) = (off + (k - 1) * 3) from rfl), .go 1, .ol (hr1 (by omega)), .go 4, .b (Fa.blt1 k l.length (by omega)), .n (show (off + k * 3) = (off + k * 3) from rfl), .go 1, .ol hr, .go 5, .b (Fa.notf h1), .b hf] (by kernel_rfl)
    · have e : netFrom (prevB l k) (b :: l.drop (k + 1)) = barE b.x b.y b.s := by
        cases prevB l k <;> rw [netFrom, if_neg h0]
      rw [e]
      refine ⟨fun h => absurd h h0, fun _ => LoopR.out ?_ nofun⟩
      exact path_pf K3 rfl (finC 1 [] [2]) [.ov (Fa.ilt1 .i64 ↑k ↑l.length (by omega)), .go 2, .b (Fa.blt1 k l.length (by omega)), .n (show (off + k * 3) = (off + k * 3) from rfl), .ol hr, .go 1, .ov (Fa.ine1 .i64 (barE b.x b.y b.s) 0 (by omega)), .go 1, .b hf] (by kernel_rfl)
end

noncomputable def gNet := gen [.sl] (netArg fun l => iv (netE l))
theorem c64 : IntrOk E0 64 gNet := by
  refine gen0 K3 rfl (fn := Tryz.f64) (by kernel_rfl) ?_
  intro ts cs v rows hf h
  obtain ⟨off, cap, c, l, rfl, rfl, hc, hn, rfl, rfl⟩ := netArg_some h
  have hf := hf c (by simp)
  by_cases hm : 4096 < l.length
  · rw [show netE l = 5 by unfold netE; rw [if_pos hm]]
    exact Shows.ret [(2, (.int .i64 5))] rfl (path_pf K3 rfl (finC 1 [] [2]) [.ov (Fa.igt1 .i64 ↑l.length 4096 (by omega)), .go 1, .b hf] (by kernel_rfl)) (by kernel_rfl) noRow
  · rw [show netE l = netFrom none l by unfold netE; rw [if_neg hm]]
    obtain ⟨i1, i2⟩ := loop64 (cap := cap) hc hn hf l.length 0 (by omega)
    rw [List.drop_zero] at i1 i2
    by_cases h0 : netFrom none l = 0
    · rw [h0]
      have i1 := i1 h0
      exact Shows.ret [(2, (.int .i64 0))] rfl (path_pf K3 rfl (finC 1 [] [2]) [.ov (Fa.igt0 .i64 ↑l.length 4096 (by omega)), .go 1, .loop (finC 1 [] [0, 9, 10, 11]) i1, .b hf, .b hf] (by kernel_rfl)) (by kernel_rfl) noRow
    · have i2 := i2 h0
      generalize hz : netFrom none l = z at *
      rw [show netFrom (prevB l 0) l = z from hz] at i2
      exact Shows.ret [(2, (.int .i64 z))] rfl (path_pf K3 rfl (finC 1 [] [2]) [.ov (Fa.igt0 .i64 ↑l.length 4096 (by omega)), .go 1, .loop (finC 1 [] [0, 9, 10, 11]) i2, .b hf, .b hf] (by kernel_rfl)) (by kernel_rfl) noRow
theorem c25 : IntrOk E0 25 gNet := by
  refine gen0 K3 rfl (fn := Tryz.f25) (by kernel_rfl) ?_
  intro ts cs v rows hf h
  obtain ⟨off, cap, c, l, rfl, rfl, hc, hn, rfl, rfl⟩ := netArg_some h
  have hf := hf c (by simp)
  by_cases hm : 4096 < l.length
  · rw [show netE l = 5 by unfold netE; rw [if_pos hm]]
    exact Shows.ret [(2, (.int .i64 5))] rfl (path_pf K3 rfl (finC 1 [] [2]) [.ov (Fa.igt1 .i64 ↑l.length 4096 (by omega)), .go 1, .b hf] (by kernel_rfl)) (by kernel_rfl) noRow
  · rw [show netE l = netFrom none l by unfold netE; rw [if_neg hm]]
    obtain ⟨i1, i2⟩ := loop25 (cap := cap) hc hn hf l.length 0 (by omega)
    rw [List.drop_zero] at i1 i2
    by_cases h0 : netFrom none l = 0
    · rw [h0]
      have i1 := i1 h0
      exact Shows.ret [(2, (.int .i64 0))] rfl (path_pf K3 rfl (finC 1 [] [2]) [.ov (Fa.igt0 .i64 ↑l.length 4096 (by omega)), .go 1, .loop (finC 1 [] [0, 3]) i1, .b hf, .b hf] (by kernel_rfl)) (by kernel_rfl) noRow
    · have i2 := i2 h0
      generalize hz : netFrom none l = z at *
      rw [show netFrom (prevB l 0) l = z from hz] at i2
      exact Shows.ret [(2, (.int .i64 z))] rfl (path_pf K3 rfl (finC 1 [] [2]) [.ov (Fa.igt0 .i64 ↑l.length 4096 (by omega)), .go 1, .loop (finC 1 [] [0, 3]) i2, .b hf, .b hf] (by kernel_rfl)) (by kernel_rfl) noRow

noncomputable def t4 : T (List Value → AHeap → Option (Value × AHeap)) := (t3.put 64 gNet).put 25 gNet
theorem t4_ok : T.All (fun f g => IntrOk E0 f g) t4 (fun j => j) := allT_put (allT_put t3_ok c64) c25
noncomputable def E4 : Env := { P := Tryz.prog, fn := fnTab, ty := tyTab, intr := t4 }
theorem K4 : E4.Runs := runs_intr fnAll tyAll mixed t4_ok
end Go.Proofs.YtlkhpgocbojdgaaGreatDoor.Ai

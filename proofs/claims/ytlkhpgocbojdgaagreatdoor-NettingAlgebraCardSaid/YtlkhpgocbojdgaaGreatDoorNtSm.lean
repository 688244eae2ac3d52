/-
  CONTRACTS: lengths of nets, copies, equal nets; the ends of a bar; a bar among bars.
-/
import Derived.Test.YtlkhpgocbojdgaaGreatDoorNtAwake
import Derived.Test.YtlkhpgocbojdgaaGreatDoorNtLaw
namespace Go.Proofs.YtlkhpgocbojdgaaGreatDoor.Ai
open Go
set_option linter.unusedSimpArgs false
set_option linter.unusedVariables false

/-! ### Equality of bars and of knots -/
theorem fb_eq60 {E : Env} (hP : E.P = Tryz.prog) (x y : Operand) (a b c d e f : Int) : flatBin E .eql 60 x y (br a b c) (br d e f) = some (bv (decide (a = d ∧ b = e ∧ c = f))) := by
  unfold flatBin
  rw [hP, runP_bindE, show runP Tryz.prog (eqGuard .eql 60 x y (br a b c) (br d e f)) = some () by kernel_rfl, Option.bind_some]
  show okFlat (runP _ (Op.equal 60 (br a b c) (br d e f) >>= fun r => pure (.bool r))) = _
  rw [runP_bindE, eqBr]
  rfl
theorem fb_ne60 {E : Env} (hP : E.P = Tryz.prog) (x y : Operand) (a b c d e f : Int) : flatBin E .neq 60 x y (br a b c) (br d e f) = some (bv (!decide (a = d ∧ b = e ∧ c = f))) := by
  unfold flatBin
  rw [hP, runP_bindE, show runP Tryz.prog (eqGuard .neq 60 x y (br a b c) (br d e f)) = some () by kernel_rfl, Option.bind_some]
  show okFlat (runP _ (Op.equal 60 (br a b c) (br d e f) >>= fun r => pure (.bool (!r)))) = _
  rw [runP_bindE, eqBr]
  rfl
theorem B3.eq_iff (a b : B3) : a = b ↔ a.x = b.x ∧ a.y = b.y ∧ a.s = b.s := ⟨fun h => by subst h; exact ⟨rfl, rfl, rfl⟩, fun ⟨h1, h2, h3⟩ => B3.ext' h1 h2 h3⟩
theorem ne60_0 {E : Env} (hP : E.P = Tryz.prog) (x y : Operand) (a b : B3) (h : a = b) : flatBin E .neq 60 x y (br a.x a.y a.s) (br b.x b.y b.s) = some (bv false) := by rw [fb_ne60 hP]; simp [(B3.eq_iff a b).1 h]
theorem ne60_1 {E : Env} (hP : E.P = Tryz.prog) (x y : Operand) (a b : B3) (h : ¬ a = b) : flatBin E .neq 60 x y (br a.x a.y a.s) (br b.x b.y b.s) = some (bv true) := by rw [fb_ne60 hP]; rw [B3.eq_iff] at h; simp [h]
theorem eq60_1 {E : Env} (hP : E.P = Tryz.prog) (x y : Operand) (a b : B3) (h : a = b) : flatBin E .eql 60 x y (br a.x a.y a.s) (br b.x b.y b.s) = some (bv true) := by rw [fb_eq60 hP]; simp [(B3.eq_iff a b).1 h]
theorem eq60_0 {E : Env} (hP : E.P = Tryz.prog) (x y : Operand) (a b : B3) (h : ¬ a = b) : flatBin E .eql 60 x y (br a.x a.y a.s) (br b.x b.y b.s) = some (bv false) := by rw [fb_eq60 hP]; rw [B3.eq_iff] at h; simp [h]

/-! ### Two nets that came in -/
def net2 (F : List B3 → List B3 → Option (Value × List Row)) (ts : List Value) (cs : List (List Value)) : Option (Value × List Row) :=
  match ts, cs with
  | [.slice (some ⟨0, o1, none⟩) n1 _, .slice (some ⟨1, o2, none⟩) n2 _], [c1, c2] => match slice? c1 o1 (n1 * 3), slice? c2 o2 (n2 * 3), Nat.blt n1 1099511627776 && Nat.blt n2 1099511627776 with
    | some r1, some r2, true => match unBars r1, unBars r2 with
      | some l1, some l2 => F l1 l2
      | _, _ => none
    | _, _, _ => none
  | _, _ => none
theorem net2_some {F : List B3 → List B3 → Option (Value × List Row)} {ts : List Value} {cs : List (List Value)} {v : Value} {rows : List Row} (h : net2 F ts cs = some (v, rows)) :
    ∃ o1 o2 p1 p2 c1 c2 l1 l2, ts = [sv 0 o1 l1.length p1, sv 1 o2 l2.length p2] ∧ cs = [c1, c2] ∧ slice? c1 o1 (l1.length * 3) = some (barCells l1) ∧ slice? c2 o2 (l2.length * 3) = some (barCells l2) ∧ l1.length < 1099511627776 ∧ l2.length < 1099511627776 ∧ F l1 l2 = some (v, rows) := by
  unfold net2 at h
  split at h
  · split at h
    · rename_i hs1 hs2 hb
      split at h
      · rename_i l1 l2 hl1 hl2
        have e1 := unBars_some _ _ hl1
        have e2 := unBars_some _ _ hl2
        subst e1
        subst e2
        have hn1 := (slice?_some hs1).2
        have hn2 := (slice?_some hs2).2
        rw [barCells_length] at hn1 hn2
        obtain rfl := Nat.eq_of_mul_eq_mul_right (by decide) hn1
        obtain rfl := Nat.eq_of_mul_eq_mul_right (by decide) hn2
        rw [Bool.and_eq_true] at hb
        exact ⟨_, _, _, _, _, _, l1, l2, rfl, rfl, hs1, hs2, by simpa [Nat.blt_eq] using hb.1, by simpa [Nat.blt_eq] using hb.2, h⟩
      · cases h
    · cases h
  · cases h
def sameBL : List B3 → List B3 → Bool
  | a :: r, b :: q => if a = b then sameBL r q else false
  | _, _ => true
theorem sameBL_eq : ∀ {a b : List B3}, a.length = b.length → sameBL a b = decide (a = b)
  | [], [], _ => rfl
  | a :: r, b :: q, h => by
    have h : r.length = q.length := by simpa using h
    rw [sameBL]
    by_cases e : a = b
    · rw [if_pos e, sameBL_eq h]
      simp [e]
    · rw [if_neg e]
      simp [e]
  | [], _ :: _, h => by simp at h
  | _ :: _, [], h => by simp at h
def fSameNet (a b : List B3) : Option (Value × List Row) := some (bv (decide (a = b)), [])
noncomputable def st35 (c1 c2 : List Value) (o1 o2 n1 n2 p1 p2 k : Nat) : ASt := finSt [c1, c2] [] [(0, sv 0 o1 n1 p1), (1, sv 1 o2 n2 p2), (5, iv k)]
noncomputable def lp35 : Code := sub [1, 1, 0, 1, 0, 0] (bodyOf Tryz.f35)

/-! ### A net and a bar that came in -/
def netBar (F : List B3 → B3 → Option (Value × List Row)) (ts : List Value) (cs : List (List Value)) : Option (Value × List Row) :=
  match ts, cs with
  | [.slice (some ⟨0, off, none⟩) n _, .agg ⟨[.int .i64 x, .int .i64 y, .int .i64 s]⟩], [c] => match slice? c off (n * 3), Nat.blt n 1099511627776 with
    | some r, true => match unBars r with
      | some l => F l ⟨x, y, s⟩
      | none => none
    | _, _ => none
  | _, _ => none
theorem netBar_some {F : List B3 → B3 → Option (Value × List Row)} {ts : List Value} {cs : List (List Value)} {v : Value} {rows : List Row} (h : netBar F ts cs = some (v, rows)) :
    ∃ off cap c l b, ts = [sv 0 off l.length cap, br b.x b.y b.s] ∧ cs = [c] ∧ slice? c off (l.length * 3) = some (barCells l) ∧ l.length < 1099511627776 ∧ F l b = some (v, rows) := by
  unfold netBar at h
  split at h
  · rename_i off n cap x y s c
    split at h
    · rename_i r hs hb
      split at h
      · rename_i l hl
        have e := unBars_some _ _ hl
        subst e
        have hn := (slice?_some hs).2
        rw [barCells_length] at hn
        obtain rfl := Nat.eq_of_mul_eq_mul_right (by decide) hn
        exact ⟨off, cap, c, l, ⟨x, y, s⟩, rfl, rfl, hs, by simpa [Nat.blt_eq] using hb, h⟩
      · cases h
    · cases h
  · cases h
def fRefHas (l : List B3) (b : B3) : Option (Value × List Row) := some (bv (decide (b ∈ l)), [])
noncomputable def st72 (c : List Value) (off n cap k : Nat) (b : B3) : ASt := finSt [c] [.flat b.cells 60] [(0, sv 0 off n cap), (3, .pointer (some ⟨1, 0, none⟩)), (5, iv k)]
noncomputable def lp72 : Code := sub [1, 0, 1, 0, 0] (bodyOf Tryz.f72)

def fShort (ts : List Value) (cs : List (List Value)) : Option (Value × List Row) :=
  match ts, cs with
  | [.slice (some ⟨0, _, none⟩) n _, .int .i64 m], [_] => some (bv (decide ((n : Int) ≤ m ∨ 4096 < n ∧ n ≤ 4098)), [])
  | _, _ => none
def fCopied (l : List B3) : Option (Value × List Row) := if l.length ≤ 1048576 then some (.slice (some ⟨1, 0, none⟩) l.length (GC 3), [.flat (barCells l) 60]) else none
def spC1 (k : CanT) : Can := { next := 2, blocks := [(0, .flat 0), (1, .dummy 60)], tmps := [(2, k)] }
def spC2 : Can := { next := 2, blocks := [(0, .flat 0), (1, .flat 2)], tmps := [(2, .upG 3)] }
theorem barCells_dead : ∀ (l : List B3), (barCells l).any isDead = false
  | [] => rfl
  | b :: l => by simp only [barCells, List.any_cons, isDead, Bool.false_or]; exact barCells_dead l
def fEndsR (ts : List Value) (cs : List (List Value)) : Option (Value × List Row) :=
  match ts, cs with
  | [.agg ⟨[.int .i64 x, .int .i64 y, .int .i64 s]⟩], [] => if (⟨x, y, s⟩ : B3).mid then some (.agg ⟨endCells ⟨x, y, s⟩⟩, [.flat (endCells ⟨x, y, s⟩) 97]) else none
  | _, _ => none
def fLow (ts : List Value) (cs : List (List Value)) : Option (Value × List Row) :=
  match ts, cs with
  | [.agg ⟨[.int .i64 x, .int .i64 y, .int .i64 s]⟩], [] => some (kn x y, [.flat [.int .i64 x, .int .i64 y] 23])
  | _, _ => none
def fUpp (ts : List Value) (cs : List (List Value)) : Option (Value × List Row) :=
  match ts, cs with
  | [.agg ⟨[.int .i64 x, .int .i64 y, .int .i64 s]⟩], [] => if (⟨x, y, s⟩ : B3).mid then some (kn (x + s) (y + 1), [.flat [.int .i64 (x + s), .int .i64 (y + 1)] 23]) else none
  | _, _ => none

section
variable {c1 c2 : List Value} {l1 l2 : List B3} {o1 o2 p1 p2 : Nat}
theorem loop35 (h1 : slice? c1 o1 (l1.length * 3) = some (barCells l1)) (h2 : slice? c2 o2 (l2.length * 3) = some (barCells l2)) (hl : l1.length = l2.length) (hn : l1.length < 1099511627776) (f1 : c1.all flatCell = true) (f2 : c2.all flatCell = true) : ∀ (d k : Nat), k + d = l1.length →
    (sameBL (l1.drop k) (l2.drop k) = true → LoopR E8 none (roH [c1, c2]) lp35 (st35 c1 c2 o1 o2 l1.length l2.length p1 p2 k) (.exit 0) (finSt [c1, c2] [] [])) ∧
    (sameBL (l1.drop k) (l2.drop k) = false → LoopR E8 none (roH [c1, c2]) lp35 (st35 c1 c2 o1 o2 l1.length l2.length p1 p2 k) .ret (finSt [c1, c2] [] [(4, bv false)]))
  | 0, k, hk => by
    rw [List.drop_eq_nil_of_le (by omega)]
    refine ⟨fun _ => LoopR.out ?_ nofun, fun h => (by cases h)⟩
    generalize l1.length = n1 at *
    generalize l2.length = n2 at *
    exact path_pf K8 rfl (finC 2 [] []) [.ov (Fa.ilt0 .i64 ↑k ↑n1 (by omega)), .go 1, .b f1, .b f2] (by kernel_rfl)
  | d + 1, k, hk => by
    obtain ⟨a, ha⟩ : ∃ x, l1[k]? = some x := ⟨_, List.getElem?_eq_getElem (show k < l1.length by omega)⟩
    obtain ⟨b, hb⟩ : ∃ x, l2[k]? = some x := ⟨_, List.getElem?_eq_getElem (show k < l2.length by omega)⟩
    have r1 := rd_bar h1 ha
    have r2 := rd_bar h2 hb
    obtain ⟨i1, i2⟩ := loop35 h1 h2 hl hn f1 f2 d (k + 1) (by omega)
    rw [drop_consB ha, drop_consB hb]
    by_cases e : a = b
    · have es : sameBL (a :: l1.drop (k + 1)) (b :: l2.drop (k + 1)) = sameBL (l1.drop (k + 1)) (l2.drop (k + 1)) := by rw [sameBL, if_pos e]
      rw [es]
      have q : Den E8 none (roH [c1, c2]) lp35 (st35 c1 c2 o1 o2 l1.length l2.length p1 p2 k) .normal (st35 c1 c2 o1 o2 l1.length l2.length p1 p2 (k + 1)) := by
        clear i1 i2 h1 h2
        generalize l1.length = n1 at *
        generalize l2.length = n2 at *
        exact path_pf K8 rfl (finC 2 [] [0, 1, 5]) [.ov (Fa.ilt1 .i64 ↑k ↑n1 (by omega)), .go 2, .b (Fa.blt1 k n1 (by omega)), .n (show (o1 + k * 3) = (o1 + k * 3) from rfl), .ol r1, .go 1, .b (Fa.blt1 k n2 (by omega)), .n (show (o2 + k * 3) = (o2 + k * 3) from rfl), .ol r2, .ov (ne60_0 (E := E8) rfl (.tmp 20) (.tmp 24) a b e), .go 1, .ov (Fa.iadd ↑k 1 (by omega) (by omega)), .b f1, .b f2] (by kernel_rfl)
      exact ⟨fun h => LoopR.next q (i1 h), fun h => LoopR.next q (i2 h)⟩
    · have es : sameBL (a :: l1.drop (k + 1)) (b :: l2.drop (k + 1)) = false := by rw [sameBL, if_neg e]
      rw [es]
      refine ⟨fun h => (by cases h), fun _ => LoopR.out ?_ nofun⟩
      clear i1 i2 h1 h2
      generalize l1.length = n1 at *
      generalize l2.length = n2 at *
      exact path_pf K8 rfl (finC 2 [] [4]) [.ov (Fa.ilt1 .i64 ↑k ↑n1 (by omega)), .go 2, .b (Fa.blt1 k n1 (by omega)), .n (show (o1 + k * 3) = (o1 + k * 3) from rfl), .ol r1, .go 1, .b (Fa.blt1 k n2 (by omega)), .n (show (o2 + k * 3) = (o2 + k * 3) from rfl), .ol r2, .ov (ne60_1 (E := E8) rfl (.tmp 20) (.tmp 24) a b e), .go 1, .b f1, .b f2] (by kernel_rfl)
end
noncomputable def gSameNet := gen [.sl, .sl] (net2 fSameNet)
theorem c35 : IntrOk E0 35 gSameNet := by
  refine gen0 K8 rfl (fn := Tryz.f35) (by kernel_rfl) ?_
  intro ts cs v rows hf h
  obtain ⟨o1, o2, p1, p2, c1, c2, l1, l2, rfl, rfl, h1, h2, hn1, hn2, h⟩ := net2_some h
  cases h
  have f1 := hf c1 (by simp)
  have f2 := hf c2 (by simp)
  by_cases hl : l1.length = l2.length
  · rw [← sameBL_eq hl]
    obtain ⟨i1, i2⟩ := loop35 (p1 := p1) (p2 := p2) h1 h2 hl hn1 f1 f2 l1.length 0 (by omega)
    rw [List.drop_zero, List.drop_zero] at i1 i2
    cases hs : sameBL l1 l2 with
    | true =>
      have i1 := i1 hs
      clear i2 h1 h2 hs
      generalize l1.length = n1 at *
      generalize l2.length = n2 at *
      exact Shows.ret [(4, (.bool true))] rfl (path_pf K8 rfl (finC 2 [] [4]) [.ov (Fa.ine0 .i64 ↑n1 ↑n2 (by omega)), .go 1, .loop (finC 2 [] [0, 1, 5]) i1, .b f1, .b f2, .b f1, .b f2] (by kernel_rfl)) (by kernel_rfl) noRow
    | false =>
      have i2 := i2 hs
      clear i1 h1 h2 hs
      generalize l1.length = n1 at *
      generalize l2.length = n2 at *
      exact Shows.ret [(4, (.bool false))] rfl (path_pf K8 rfl (finC 2 [] [4]) [.ov (Fa.ine0 .i64 ↑n1 ↑n2 (by omega)), .go 1, .loop (finC 2 [] [0, 1, 5]) i2, .b f1, .b f2, .b f1, .b f2] (by kernel_rfl)) (by kernel_rfl) noRow
  · rw [show decide (l1 = l2) = false from decide_eq_false (fun e => hl (by rw [e]))]
    clear h1 h2
    generalize l1.length = n1 at *
    generalize l2.length = n2 at *
    exact Shows.ret [(4, (.bool false))] rfl (path_pf K8 rfl (finC 2 [] [4]) [.ov (Fa.ine1 .i64 ↑n1 ↑n2 (by omega)), .go 1, .b f1, .b f2] (by kernel_rfl)) (by kernel_rfl) noRow

section
variable {c : List Value} {l : List B3} {off cap : Nat}
theorem loop72 (hc : slice? c off (l.length * 3) = some (barCells l)) (hn : l.length < 1099511627776) (hf : c.all flatCell = true) (b : B3) : ∀ (d k : Nat), k + d = l.length →
    (¬ b ∈ l.drop k → LoopR E8 none (roH [c]) lp72 (st72 c off l.length cap k b) (.exit 0) (finSt [c] [] [])) ∧
    (b ∈ l.drop k → LoopR E8 none (roH [c]) lp72 (st72 c off l.length cap k b) .ret (finSt [c] [] [(4, bv true)]))
  | 0, k, hk => by
    rw [List.drop_eq_nil_of_le (by omega)]
    refine ⟨fun _ => LoopR.out ?_ nofun, fun h => absurd h (by simp)⟩
    generalize l.length = n at *
    exact path_pf K8 rfl (finC 1 [] []) [.ov (Fa.ilt0 .i64 ↑k ↑n (by omega)), .go 1, .b hf] (by kernel_rfl)
  | d + 1, k, hk => by
    obtain ⟨a, ha⟩ : ∃ x, l[k]? = some x := ⟨_, List.getElem?_eq_getElem (show k < l.length by omega)⟩
    have r1 := rd_bar hc ha
    obtain ⟨i1, i2⟩ := loop72 hc hn hf b d (k + 1) (by omega)
    rw [drop_consB ha]
    by_cases e : a = b
    · refine ⟨fun h => absurd (List.mem_cons.2 (Or.inl e.symm)) h, fun _ => LoopR.out ?_ nofun⟩
      clear i1 i2 hc
      generalize l.length = n at *
      exact path_pf K8 rfl (finC 1 [] [4]) [.ov (Fa.ilt1 .i64 ↑k ↑n (by omega)), .go 2, .b (Fa.blt1 k n (by omega)), .n (show (off + k * 3) = (off + k * 3) from rfl), .ol r1, .go 1, .ov (eq60_1 (E := E8) rfl (.tmp 15) (.tmp 16) a b e), .go 1, .b hf] (by kernel_rfl)
    · have q : Den E8 none (roH [c]) lp72 (st72 c off l.length cap k b) .normal (st72 c off l.length cap (k + 1) b) := by
        clear i1 i2 hc
        generalize l.length = n at *
        exact path_pf K8 rfl (finC 1 [(1, .flat 1)] [0, 3, 5]) [.ov (Fa.ilt1 .i64 ↑k ↑n (by omega)), .go 2, .b (Fa.blt1 k n (by omega)), .n (show (off + k * 3) = (off + k * 3) from rfl), .ol r1, .go 1, .ov (eq60_0 (E := E8) rfl (.tmp 15) (.tmp 16) a b e), .go 1, .ov (Fa.iadd ↑k 1 (by omega) (by omega)), .b hf, .go 1] (by kernel_rfl)
      have hm : b ∈ a :: l.drop (k + 1) ↔ b ∈ l.drop (k + 1) := by
        rw [List.mem_cons]
        exact ⟨fun h => h.resolve_left (fun x => e x.symm), Or.inr⟩
      rw [hm]
      exact ⟨fun h => LoopR.next q (i1 h), fun h => LoopR.next q (i2 h)⟩
end
noncomputable def gRefHas := gen [.sl, .fl] (netBar fRefHas)
theorem c72 : IntrOk E0 72 gRefHas := by
  refine gen0 K8 rfl (fn := Tryz.f72) (by kernel_rfl) ?_
  intro ts cs v rows hf h
  obtain ⟨off, cap, c, l, b, rfl, rfl, hc, hn, h⟩ := netBar_some h
  cases h
  have hf := hf c (by simp)
  obtain ⟨i1, i2⟩ := loop72 (cap := cap) hc hn hf b l.length 0 (by omega)
  rw [List.drop_zero] at i1 i2
  by_cases hm : b ∈ l
  · rw [show decide (b ∈ l) = true from decide_eq_true hm]
    have i2 := i2 hm
    clear i1 hc hm
    generalize l.length = n at *
    exact Shows.ret [(4, (.bool true))] rfl (path_pf K8 rfl (finC 1 [] [4]) [.loop (finC 1 [(1, .flat 1)] [0, 3, 5]) i2, .b hf, .go 1, .b hf] (by kernel_rfl)) (by kernel_rfl) noRow
  · rw [show decide (b ∈ l) = false from decide_eq_false hm]
    have i1 := i1 hm
    clear i2 hc hm
    generalize l.length = n at *
    exact Shows.ret [(4, (.bool false))] rfl (path_pf K8 rfl (finC 1 [] [4]) [.loop (finC 1 [(1, .flat 1)] [0, 3, 5]) i1, .b hf, .go 1, .b hf] (by kernel_rfl)) (by kernel_rfl) noRow

noncomputable def gShort := gen [.sl, .fl] fShort
theorem c21 : IntrOk E0 21 gShort := by
  refine gen0 K8 rfl (fn := Tryz.f21) (by kernel_rfl) ?_
  intro ts cs v rows hf h
  unfold fShort at h
  split at h
  · rename_i off n cap m c
    · cases h
      have hf := hf c (by simp)
      by_cases b0 : ↑n ≤ m
      · exact (Shows.ret (v := (.bool true)) [(4, (.bool true))] rfl (path_pf K8 rfl (finC 1 [] [4]) [.ov (Fa.ile1 .i64 ↑n m (by omega)), .go 6, .b hf] (by kernel_rfl)) (by kernel_rfl) noRow).cast (by congr 1; simp; omega)
      · by_cases b1 : 4096 < ↑n
        · by_cases b2 : ↑n ≤ 4098
          · exact (Shows.ret (v := (.bool true)) [(4, (.bool true))] rfl (path_pf K8 rfl (finC 1 [] [4]) [.ov (Fa.ile0 .i64 ↑n m (by omega)), .go 3, .ov (Fa.igt1 .i64 ↑n 4096 (by omega)), .go 4, .ov (Fa.ile1 .i64 ↑n 4098 (by omega)), .go 3, .b hf] (by kernel_rfl)) (by kernel_rfl) noRow).cast (by congr 1; simp; omega)
          · exact (Shows.ret (v := (.bool false)) [(4, (.bool false))] rfl (path_pf K8 rfl (finC 1 [] [4]) [.ov (Fa.ile0 .i64 ↑n m (by omega)), .go 3, .ov (Fa.igt1 .i64 ↑n 4096 (by omega)), .go 4, .ov (Fa.ile0 .i64 ↑n 4098 (by omega)), .go 3, .b hf] (by kernel_rfl)) (by kernel_rfl) noRow).cast (by congr 1; simp; omega)
        · exact (Shows.ret (v := (.bool false)) [(4, (.bool false))] rfl (path_pf K8 rfl (finC 1 [] [4]) [.ov (Fa.ile0 .i64 ↑n m (by omega)), .go 3, .ov (Fa.igt0 .i64 ↑n 4096 (by omega)), .go 7, .b hf] (by kernel_rfl)) (by kernel_rfl) noRow).cast (by congr 1; simp; omega)
  · cases h

noncomputable def gCopied := gen [.sl] (netArgO fCopied)
theorem c23 : IntrOk E0 23 gCopied := by
  refine gen0 K8 rfl (fn := Tryz.f23) (by kernel_rfl) ?_
  intro ts cs v rows hf h
  obtain ⟨off, cap, c, l, rfl, rfl, hc, hn, h⟩ := netArgO_some h
  unfold fCopied at h
  split at h
  rotate_left
  · cases h
  rename_i hmax
  cases h
  have hf := hf c (by simp)
  have hone := barCells_one l
  have hflat := barCells_flat l
  have hdead := barCells_dead l
  have hlen := barCells_length l
  rcases Nat.eq_zero_or_pos l.length with h0 | hpos
  · obtain rfl : l = [] := List.eq_nil_of_length_eq_zero h0
    exact Shows.ret [(2, (.slice (some ⟨1, 0, none⟩) 0 (GC 3)))] rfl (path_pf K8 rfl (spC1 (.nilG 1 3)) [.go 7, .b hf] (by kernel_rfl)) (by kernel_rfl) (fits_of rfl)
  · have hb : Nat.beq (barCells l).length (l.length * 3) = true := by rw [hlen]; exact Nat.beq_refl _
    have hb3 : Nat.ble ((0 + l.length) * 24) 1099511627776 = true := Nat.ble_eq_true_of_le (by omega)
    have hsl : Nat.blt l.length SL = true := Fa.blt1 _ _ (by unfold SL; omega)
    generalize hr : barCells l = r at *
    generalize l.length = n at *
    exact Shows.ret [(2, (.slice (some ⟨1, 0, none⟩) n (GC 3)))] rfl (path_pf K8 rfl spC2 [.b (Fa.beq0 n 0 (by omega)), .ol hc, .b hdead, .b hb, .go 1, .b (Fa.ble0 (0 + n) 0 (by omega)), .go 1, .b (Fa.and1 (Fa.and1 hb3 (Fa.blt1 (0 + n) 4611686018427387904 (by omega))) rfl), .n (show (0 + n) = n from by omega), .go 1, .b hf, .b hflat, .b (Fa.and1 (Fa.and1 (Fa.and1 (Nat.beq_refl (upCap 3 n)) hsl) (Fa.blt1 0 n (by omega))) rfl)] (by kernel_rfl)) (by kernel_rfl) (fits_of (by simp only [List.all_cons, Row.fitsB, hflat, List.all_nil, Bool.and_true]))
end Go.Proofs.YtlkhpgocbojdgaaGreatDoor.Ai

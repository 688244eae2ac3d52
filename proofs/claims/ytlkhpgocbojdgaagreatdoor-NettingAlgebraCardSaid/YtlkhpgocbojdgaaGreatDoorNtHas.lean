/-
  CONTRACTS: a bar looked for in a net; the first of two errors; what a law says of a net and an error.
-/
import Derived.Test.YtlkhpgocbojdgaaGreatDoorNtSm
import Derived.Laws.Entries
import Derived.Laws.Bits64
namespace Go.Proofs.YtlkhpgocbojdgaaGreatDoor.Ai
open Go
set_option linter.unusedSimpArgs false
set_option linter.unusedVariables false

theorem conv_u64 (n : Int) (h0 : 0 ≤ n) (h : n < 4611686018427387904) : Value.int .u64 (wrapF .u64 n) = .int .u64 n := by
  show Value.int .u64 (IntKind.wrap .u64 n) = _
  rw [IntKind.wrap_u64]
  congr 1
  omega
theorem conv_i64 (n : Int) (h0 : 0 ≤ n) (h : n < 4611686018427387904) : Value.int .i64 (wrapF .i64 n) = .int .i64 n := by rw [Fa.wrap64 (by omega) (by omega)]
theorem shr_u64 {E : Env} (n : Int) (m : Nat) (h : 2 * (m : Int) ≤ n ∧ n ≤ 2 * m + 1) : intA E .shr .u64 n 1 = some (.int .u64 m) := by
  show okFlat (runP E.P (binOp .shr 0 (.int .u64 n) (.int .u64 1))) = _
  rw [binOp_shr, shift_shr .u64 .u64 n 1 (by decide) (by decide)]
  have : n / 2 ^ (1 : Int).toNat = m := by
    show n / 2 ^ 1 = m
    omega
  rw [this]
  rfl
theorem cmpB_zero (a b : B3) : cmpB a b = 0 ↔ a = b := by
  unfold cmpB
  simp only [firstE]
  have h1 := cmpI_zero (a := a.y) (b := b.y)
  have h2 := cmpI_zero (a := a.x) (b := b.x)
  have h3 := cmpI_zero (a := a.s) (b := b.s)
  rw [B3.eq_iff]
  split <;> (try split) <;> (try split) <;> omega
theorem place_of : ∀ (l : List B3) (b : B3) (lo : Nat), lo ≤ l.length → (∀ i a, i < lo → l[i]? = some a → lessB a b = true) → (∀ i a, lo ≤ i → l[i]? = some a → lessB a b = false) → placeB l b = lo
  | [], b, lo, h, _, _ => by simp at h; subst h; rfl
  | o :: l, b, 0, h, _, h2 => by
    have := h2 0 o (Nat.le_refl _) rfl
    simp [placeB, this]
  | o :: l, b, lo + 1, h, h1, h2 => by
    have h0 := h1 0 o (by omega) rfl
    have := place_of l b lo (by simpa using h) (fun i a hi ha => h1 (i + 1) a (by omega) (by simpa using ha)) (fun i a hi ha => h2 (i + 1) a (by omega) (by simpa using ha))
    simp [placeB, h0, this]
theorem place_mem : ∀ {l : List B3} {b : B3}, Asc l → (b ∈ l ↔ l[placeB l b]? = some b)
  | [], b, _ => by simp
  | o :: l, b, h => by
    simp only [placeB]
    by_cases hl : lessB o b = true
    · rw [if_pos hl, List.getElem?_cons_succ, ← place_mem h.tail, List.mem_cons]
      exact ⟨fun hh => hh.resolve_left (fun e => less_ne hl e.symm), Or.inr⟩
    · rw [if_neg hl, List.getElem?_cons_zero, List.mem_cons]
      constructor
      · rintro (e | e)
        · rw [e]
        · exact absurd (h.head b e) hl
      · intro e; exact .inl (Option.some.inj e).symm

instance (l : List B3) : Decidable (Asc l) := inferInstanceAs (Decidable (l.Pairwise _))
def fnv98 : Value := .func (.func 98) #[] #[]
def netBarFn (F : List B3 → B3 → Option (Value × List Row)) (ts : List Value) (cs : List (List Value)) : Option (Value × List Row) :=
  match ts, cs with
  | [s, b, .func (.func g) ⟨[]⟩ ⟨[]⟩], cs => if g = 98 then netBar F [s, b] cs else none
  | _, _ => none
def fBs (l : List B3) (b : B3) : Option (Value × List Row) := if Asc l then some (.tuple #[iv (placeB l b), bv (decide (b ∈ l))], []) else none
noncomputable def st145 (c : List Value) (off n cap lo hi : Nat) (b : B3) : ASt := finSt [c] [.flat b.cells 60] [(0, sv 0 off n cap), (2, fnv98), (4, .pointer (some ⟨1, 0, none⟩)), (8, iv n), (9, iv lo), (10, iv hi)]
noncomputable def fn145 (c : List Value) (off n cap lo : Nat) (b : B3) : ASt := finSt [c] [.flat b.cells 60] [(0, sv 0 off n cap), (2, fnv98), (4, .pointer (some ⟨1, 0, none⟩)), (8, iv n), (9, iv lo)]
noncomputable def lp145 : Code := sub [1, 1, 1, 0, 0, 0] (bodyOf Tryz.f145)
/-- A row of a net, wherever it lies. -/
theorem slArg_of {h : AHeap} {b off n cap : Nat} {c : List Value} (hf : c.all flatCell = true) (hg : h.get b = some (.ro c) ∨ ∃ el, h.get b = some (.cells c el)) : slArg h (.slice (some ⟨b, off, none⟩) n cap) = some (some b, c, off, n, cap) := by
  unfold slArg
  rcases hg with hg | ⟨el, hg⟩ <;> simp only [hg, hf]
/-! ### Answers of contracts -/
theorem gen_ans {ks : List Ak} {F : List Value → List (List Value) → Option (Value × List Row)} {args ts : List Value} {bs : List (Option Nat × List Value)} {h : AHeap} {v v2 : Value} (hr : resolve h ks 0 args = some (ts, bs)) (hF : F ts (bs.map (·.2)) = some (v, [])) (hv : ren2 (shift bs.length h.next) v = some v2) : gen ks F args h = some (v2, h) := by
  unfold gen
  rw [hr]
  dsimp only
  rw [hF]
  dsimp only
  rw [hv]
  rfl
/-- An answer with a new row. -/
theorem gen_ans1 {ks : List Ak} {F : List Value → List (List Value) → Option (Value × List Row)} {args ts : List Value} {bs : List (Option Nat × List Value)} {h : AHeap} {v v2 : Value} {c : List Value} {el : TypeId} (hr : resolve h ks 0 args = some (ts, bs)) (hF : F ts (bs.map (·.2)) = some (v, [.flat c el])) (hv : ren2 (shift bs.length h.next) v = some v2) : gen ks F args h = some (v2, h.alloc (.cells c el)) := by
  unfold gen
  rw [hr]
  dsimp only
  rw [hF]
  dsimp only
  rw [hv]
  rfl
theorem netArg_eq {F : List B3 → Value} {c : List Value} {l : List B3} {off cap : Nat} (hc : slice? c off (l.length * 3) = some (barCells l)) (hn : l.length < 1099511627776) : netArg F [sv 0 off l.length cap] [c] = some (F l, []) := by
  have hb : Nat.blt l.length 1099511627776 = true := by simpa [Nat.blt_eq] using hn
  simp only [netArg, hc, hb, unBars_of]
theorem netArgO_eq {F : List B3 → Option (Value × List Row)} {c : List Value} {l : List B3} {off cap : Nat} (hc : slice? c off (l.length * 3) = some (barCells l)) (hn : l.length < 1099511627776) : netArgO F [sv 0 off l.length cap] [c] = F l := by
  have hb : Nat.blt l.length 1099511627776 = true := by simpa [Nat.blt_eq] using hn
  simp only [netArgO, hc, hb, unBars_of]
theorem netBar_eq {F : List B3 → B3 → Option (Value × List Row)} {c : List Value} {l : List B3} {off cap : Nat} (x : B3) (hc : slice? c off (l.length * 3) = some (barCells l)) (hn : l.length < 1099511627776) : netBar F [sv 0 off l.length cap, br x.x x.y x.s] [c] = F l x := by
  have hb : Nat.blt l.length 1099511627776 = true := by simpa [Nat.blt_eq] using hn
  simp only [netBar, hc, hb, unBars_of]
theorem net2_eq {F : List B3 → List B3 → Option (Value × List Row)} {c1 c2 : List Value} {l1 l2 : List B3} {o1 o2 p1 p2 : Nat} (h1 : slice? c1 o1 (l1.length * 3) = some (barCells l1)) (h2 : slice? c2 o2 (l2.length * 3) = some (barCells l2)) (hn1 : l1.length < 1099511627776) (hn2 : l2.length < 1099511627776) : net2 F [sv 0 o1 l1.length p1, sv 1 o2 l2.length p2] [c1, c2] = F l1 l2 := by
  have hb : (Nat.blt l1.length 1099511627776 && Nat.blt l2.length 1099511627776) = true := by simp [Nat.blt_eq, hn1, hn2]
  simp only [net2, h1, h2, hb, unBars_of]
/-- Where a row of a net lies. -/
abbrev RowAt (h : AHeap) (b : Nat) (c : List Value) : Prop := h.get b = some (.ro c) ∨ ∃ el, h.get b = some (.cells c el)
theorem res_sl {h : AHeap} {b off n cap : Nat} {c : List Value} (hf : c.all flatCell = true) (hg : RowAt h b c) : resolve h [.sl] 0 [.slice (some ⟨b, off, none⟩) n cap] = some ([sv 0 off n cap], [(some b, c)]) := by
  simp only [resolve, slArg_of hf hg]
theorem res_slfl {h : AHeap} {b off n cap : Nat} {c : List Value} {v : Value} (hf : c.all flatCell = true) (hg : RowAt h b c) (hv : flat v = true) : resolve h [.sl, .fl] 0 [.slice (some ⟨b, off, none⟩) n cap, v] = some ([sv 0 off n cap, v], [(some b, c)]) := by
  simp only [resolve, slArg_of hf hg, hv]
theorem res_slsl {h : AHeap} {b off n cap b' off' n' cap' : Nat} {c c' : List Value} (hf : c.all flatCell = true) (hg : RowAt h b c) (hf' : c'.all flatCell = true) (hg' : RowAt h b' c') : resolve h [.sl, .sl] 0 [.slice (some ⟨b, off, none⟩) n cap, .slice (some ⟨b', off', none⟩) n' cap'] = some ([sv 0 off n cap, sv 1 off' n' cap'], [(some b, c), (some b', c')]) := by
  simp only [resolve, slArg_of hf hg, slArg_of hf' hg']
section
variable {c : List Value} {l : List B3} {off cap b : Nat}
theorem netI_ans {F : List B3 → Int} (hc : slice? c off (l.length * 3) = some (barCells l)) (hn : l.length < 1099511627776) (hf : c.all flatCell = true) (h : AHeap) (hg : RowAt h b c) : gen [.sl] (netArg fun l => iv (F l)) [.slice (some ⟨b, off, none⟩) l.length cap] h = some (iv (F l), h) := gen_ans (res_sl hf hg) (netArg_eq hc hn) rfl
theorem bs_ans (x : B3) (hc : slice? c off (l.length * 3) = some (barCells l)) (hn : l.length < 1099511627776) (hf : c.all flatCell = true) (ha : Asc l) (h : AHeap) (hg : RowAt h b c) :
    gen [.sl, .fl, .fu] (netBarFn fBs) [.slice (some ⟨b, off, none⟩) l.length cap, br x.x x.y x.s, fnv98] h = some (.tuple #[iv (placeB l x), bv (decide (x ∈ l))], h) := by
  have hr : resolve h [.sl, .fl, .fu] 0 [.slice (some ⟨b, off, none⟩) l.length cap, br x.x x.y x.s, fnv98] = some ([sv 0 off l.length cap, br x.x x.y x.s, fnv98], [(some b, c)]) := by
    have h1 : flat (br x.x x.y x.s) = true := rfl
    have h2 : fnV fnv98 = true := rfl
    simp only [resolve, slArg_of hf hg, h1, h2]
  refine gen_ans (v := .tuple #[iv (placeB l x), bv (decide (x ∈ l))]) hr ?_ rfl
  show (if 98 = 98 then netBar fBs [sv 0 off l.length cap, br x.x x.y x.s] [c] else none) = _
  rw [if_pos rfl, netBar_eq x hc hn]
  unfold fBs
  rw [if_pos ha]
end
def fHas (l : List B3) (b : B3) : Option (Value × List Row) := if Asc l then some (bv (decide (b ∈ l)), []) else none
section
variable {c : List Value} {l : List B3} {off cap b : Nat}
theorem has_ans (x : B3) (hc : slice? c off (l.length * 3) = some (barCells l)) (hn : l.length < 1099511627776) (hf : c.all flatCell = true) (ha : Asc l) (h : AHeap) (hg : RowAt h b c) : gen [.sl, .fl] (netBar fHas) [.slice (some ⟨b, off, none⟩) l.length cap, br x.x x.y x.s] h = some (bv (decide (x ∈ l)), h) :=
  gen_ans (res_slfl hf hg rfl) (by show netBar fHas _ [c] = _; rw [netBar_eq x hc hn]; unfold fHas; rw [if_pos ha]) rfl
theorem refHas_ans (x : B3) (hc : slice? c off (l.length * 3) = some (barCells l)) (hn : l.length < 1099511627776) (hf : c.all flatCell = true) (h : AHeap) (hg : RowAt h b c) : gRefHas [.slice (some ⟨b, off, none⟩) l.length cap, br x.x x.y x.s] h = some (bv (decide (x ∈ l)), h) :=
  gen_ans (res_slfl hf hg rfl) (by show netBar fRefHas _ [c] = _; rw [netBar_eq x hc hn]; rfl) rfl
theorem short_ans {m : Int} (hf : c.all flatCell = true) (h : AHeap) (hg : RowAt h b c) : gShort [.slice (some ⟨b, off, none⟩) l.length cap, iv m] h = some (bv (decide ((l.length : Int) ≤ m ∨ 4096 < l.length ∧ l.length ≤ 4098)), h) :=
  gen_ans (res_slfl hf hg rfl) (by show fShort _ [c] = _; rfl) rfl
theorem shift_self (k n : Nat) : shift k n k = some n := by
  unfold shift
  have : Nat.blt k k = false := Fa.blt0 _ _ (Nat.le_refl _)
  rw [this, Nat.sub_self, Nat.zero_add]
theorem copied_ans (hc : slice? c off (l.length * 3) = some (barCells l)) (hn : l.length ≤ 1048576) (hf : c.all flatCell = true) (h : AHeap) (hg : RowAt h b c) : gCopied [.slice (some ⟨b, off, none⟩) l.length cap] h = some (.slice (some ⟨h.next, 0, none⟩) l.length (GC 3), h.alloc (.cells (barCells l) 60)) := by
  refine gen_ans1 (res_sl hf hg) (by show netArgO fCopied _ [c] = _; rw [netArgO_eq hc (by omega)]; unfold fCopied; rw [if_pos hn]) ?_
  simp only [ren2, ren1, ren0, shift_self, List.length_cons, List.length_nil, Nat.zero_add]
theorem sameNet_ans {c' : List Value} {l' : List B3} {off' cap' b' : Nat} (hc : slice? c off (l.length * 3) = some (barCells l)) (hn : l.length < 1099511627776) (hf : c.all flatCell = true) (hc' : slice? c' off' (l'.length * 3) = some (barCells l')) (hn' : l'.length < 1099511627776) (hf' : c'.all flatCell = true) (h : AHeap) (hg : RowAt h b c) (hg' : RowAt h b' c') :
    gSameNet [.slice (some ⟨b, off, none⟩) l.length cap, .slice (some ⟨b', off', none⟩) l'.length cap'] h = some (bv (decide (l = l')), h) :=
  gen_ans (res_slsl hf hg hf' hg') (by show net2 fSameNet _ [c, c'] = _; rw [net2_eq hc hc' hn hn']; rfl) rfl
theorem slice_self (l : List B3) : slice? (barCells l) 0 (l.length * 3) = some (barCells l) := by
  unfold slice?
  dsimp only
  rw [List.drop_zero, List.take_of_length_le (by rw [barCells_length]; exact Nat.le_refl _), barCells_length, show Nat.beq (l.length * 3) (l.length * 3) = true from Nat.beq_refl _]
end
/-- Has. -/
def hasR (l : List B3) (b : B3) : Value := if netE l = 0 ∧ barE b.x b.y b.s = 0 then .tuple #[bv (decide (b ∈ l)), iv 0] else .tuple #[bv false, iv (firstE [netE l, barE b.x b.y b.s])]
def fHasP (l : List B3) (b : B3) : Option (Value × List Row) := some (hasR l b, [])

section
variable {c : List Value} {l : List B3} {off cap : Nat}
theorem loop145 (hc : slice? c off (l.length * 3) = some (barCells l)) (hn : l.length < 1099511627776) (hf : c.all flatCell = true) (ha : Asc l) (b : B3) : ∀ (d lo hi : Nat), lo + d = hi → hi ≤ l.length → (∀ i a, i < lo → l[i]? = some a → lessB a b = true) → (∀ i a, hi ≤ i → l[i]? = some a → lessB a b = false) →
    LoopR E8 none (roH [c]) lp145 (st145 c off l.length cap lo hi b) (.exit 0) (fn145 c off l.length cap (placeB l b) b) := by
  intro d
  induction d using Nat.strongRecOn with
  | ind d ih =>
    intro lo hi hd hle h1 h2
    rcases Nat.eq_zero_or_pos d with h0 | hpos
    · subst h0
      obtain rfl : lo = hi := by omega
      rw [place_of l b lo hle h1 h2]
      refine LoopR.out ?_ nofun
      clear hc h1 h2 ih
      generalize l.length = n at *
      exact path_pf K8 rfl (finC 1 [(1, .flat 1)] [0, 2, 4, 8, 9]) [.ov (Fa.ilt0 .i64 ↑lo ↑lo (by omega)), .go 1, .b hf, .go 1] (by kernel_rfl)
    · obtain ⟨m, hm⟩ : ∃ m, m = (lo + hi) / 2 := ⟨_, rfl⟩
      obtain ⟨a, hma⟩ : ∃ x, l[m]? = some x := ⟨_, List.getElem?_eq_getElem (show m < l.length by omega)⟩
      have r1 := rd_bar hc hma
      have q1 := conv_u64 ((lo : Int) + hi) (by omega) (by omega)
      have q2 := shr_u64 (E := E8) ((lo : Int) + hi) m (by omega)
      have q3 := conv_i64 (m : Int) (by omega) (by omega)
      have asc : ∀ i j x y, i < j → l[i]? = some x → l[j]? = some y → lessB x y = true := fun i j x y hij hx hy => by
        obtain ⟨hi', rfl⟩ := List.getElem?_eq_some_iff.1 hx
        obtain ⟨hj', rfl⟩ := List.getElem?_eq_some_iff.1 hy
        exact List.pairwise_iff_getElem.1 ha i j hi' hj' hij
      have hm1 : lo ≤ m := by omega
      have hm2 : m < hi := by omega
      by_cases hl : lessB a b = true
      · have hcmp := (cmpB_neg a b).2 hl
        refine LoopR.next ?_ (ih (hi - (m + 1)) (by omega) (m + 1) hi (by omega) hle (fun i x hi' hx => ?_) h2)
        · clear hc h1 h2 ih hma hm asc
          generalize l.length = n at *
          exact path_pf K8 rfl (finC 1 [(1, .flat 1)] [0, 2, 4, 8, 9, 10]) [.ov (Fa.ilt1 .i64 ↑lo ↑hi (by omega)), .go 1, .ov (Fa.iadd ↑lo ↑hi (by omega) (by omega)), .v q1, .ov q2, .v q3, .go 1, .b (Fa.blt1 m n (by omega)), .n (show (off + m * 3) = (off + m * 3) from rfl), .ol r1, .go 2, .ov (Fa.ilt1 .i64 (cmpB a b) 0 (by omega)), .go 1, .ov (Fa.iadd ↑m 1 (by omega) (by omega)), .b hf, .go 1] (by kernel_rfl)
        · rcases Nat.lt_or_ge i m with q | q
          · exact less_trans (asc i m x a q hx hma) hl
          · obtain rfl : i = m := by omega
            rw [hma] at hx
            cases hx
            exact hl
      · have hcmp := (cmpB_pos a b).2 hl
        refine LoopR.next ?_ (ih (m - lo) (by omega) lo m (by omega) (by omega) h1 (fun i x hi' hx => ?_))
        · clear hc h1 h2 ih hma hm asc
          generalize l.length = n at *
          exact path_pf K8 rfl (finC 1 [(1, .flat 1)] [0, 2, 4, 8, 9, 10]) [.ov (Fa.ilt1 .i64 ↑lo ↑hi (by omega)), .go 1, .ov (Fa.iadd ↑lo ↑hi (by omega) (by omega)), .v q1, .ov q2, .v q3, .go 1, .b (Fa.blt1 m n (by omega)), .n (show (off + m * 3) = (off + m * 3) from rfl), .ol r1, .go 2, .ov (Fa.ilt0 .i64 (cmpB a b) 0 (by omega)), .go 1, .b hf, .go 1] (by kernel_rfl)
        · have hl' : lessB a b = false := by simpa using hl
          rcases Nat.eq_or_lt_of_le hi' with q | q
          · subst q
            rw [hma] at hx
            cases hx
            exact hl'
          · have := asc m i a x q hma hx
            cases hxb : lessB x b with
            | false => rfl
            | true => rw [less_trans this hxb] at hl'; cases hl'
end
noncomputable def gBs := gen [.sl, .fl, .fu] (netBarFn fBs)
theorem c145 : IntrOk E0 145 gBs := by
  refine gen0 K8 rfl (fn := Tryz.f145) (by kernel_rfl) ?_
  intro ts cs v rows hf h
  unfold netBarFn at h
  split at h
  rotate_left
  · cases h
  rename_i s b' g
  split at h
  rotate_left
  · cases h
  rename_i hg
  subst hg
  obtain ⟨off, cap, c, l, b, e1, rfl, hc, hn, h2⟩ := netBar_some h
  clear h
  simp only [List.cons.injEq, and_true] at e1
  obtain ⟨rfl, rfl⟩ := e1
  unfold fBs at h2
  split at h2
  rotate_left
  · cases h2
  rename_i ha
  cases h2
  have hf := hf c (by simp)
  have i1 := loop145 (cap := cap) hc hn hf ha b l.length 0 l.length (by omega) (Nat.le_refl _) (fun i a h => by omega) (fun i a h hx => by
    have := (List.getElem?_eq_some_iff.1 hx).1
    omega)
  have hp := placeB_le l b
  have hmem := place_mem (b := b) ha
  show Shows E8 Tryz.f145 [sv 0 off l.length cap, br b.x b.y b.s, fnv98] [c] _ _
  by_cases hlt : placeB l b < l.length
  · obtain ⟨a, hla⟩ : ∃ x, l[placeB l b]? = some x := ⟨_, List.getElem?_eq_getElem hlt⟩
    have r1 := rd_bar hc hla
    rw [hla] at hmem
    by_cases e : a = b
    · rw [show decide (b ∈ l) = true from decide_eq_true (hmem.2 (by rw [e]))]
      have hcmp := (cmpB_zero a b).2 e
      clear hc hmem hla
      generalize placeB l b = p at *
      generalize l.length = n at *
      exact Shows.ret [(6, (.int .i64 ↑p)), (7, (.bool true))] rfl (path_pf K8 rfl (finC 1 [] [6, 7]) [.loop (finC 1 [(1, .flat 1)] [0, 2, 4, 8, 9, 10]) i1, .b hf, .go 1, .ov (Fa.ilt1 .i64 ↑p ↑n (by omega)), .go 5, .b (Fa.blt1 p n (by omega)), .n (show (off + p * 3) = (off + p * 3) from rfl), .go 1, .ol r1, .go 5, .ov (Fa.ieq1 .i64 (cmpB a b) 0 (by omega)), .go 1, .b hf] (by kernel_rfl)) (by kernel_rfl) noRow
    · rw [show decide (b ∈ l) = false from decide_eq_false (fun h => e (Option.some.inj (hmem.1 h)))]
      have hcmp : ¬ cmpB a b = 0 := fun h => e ((cmpB_zero a b).1 h)
      clear hc hmem hla
      generalize placeB l b = p at *
      generalize l.length = n at *
      exact Shows.ret [(6, (.int .i64 ↑p)), (7, (.bool false))] rfl (path_pf K8 rfl (finC 1 [] [6, 7]) [.loop (finC 1 [(1, .flat 1)] [0, 2, 4, 8, 9, 10]) i1, .b hf, .go 1, .ov (Fa.ilt1 .i64 ↑p ↑n (by omega)), .go 5, .b (Fa.blt1 p n (by omega)), .n (show (off + p * 3) = (off + p * 3) from rfl), .go 1, .ol r1, .go 5, .ov (Fa.ieq0 .i64 (cmpB a b) 0 (by omega)), .go 1, .b hf] (by kernel_rfl)) (by kernel_rfl) noRow
  · rw [List.getElem?_eq_none (by omega)] at hmem
    rw [show decide (b ∈ l) = false from decide_eq_false (fun h => by cases hmem.1 h)]
    clear hc hmem
    generalize placeB l b = p at *
    generalize l.length = n at *
    exact Shows.ret [(6, (.int .i64 ↑p)), (7, (.bool false))] rfl (path_pf K8 rfl (finC 1 [] [6, 7]) [.loop (finC 1 [(1, .flat 1)] [0, 2, 4, 8, 9, 10]) i1, .b hf, .go 1, .ov (Fa.ilt0 .i64 ↑p ↑n (by omega)), .go 9, .b hf] (by kernel_rfl)) (by kernel_rfl) noRow

noncomputable def tA : T (List Value → AHeap → Option (Value × AHeap)) := ((((t8.put 35 gSameNet).put 72 gRefHas).put 21 gShort).put 23 gCopied).put 145 gBs
theorem tA_ok : T.All (fun f g => IntrOk E0 f g) tA (fun j => j) := allT_put (allT_put (allT_put (allT_put (allT_put t8_ok c35) c72) c21) c23) c145
noncomputable def EA : Env := { P := Tryz.prog, fn := fnTab, ty := tyTab, intr := tA }
theorem KA : EA.Runs := runs_intr fnAll tyAll mixed tA_ok
end Go.Proofs.YtlkhpgocbojdgaaGreatDoor.Ai

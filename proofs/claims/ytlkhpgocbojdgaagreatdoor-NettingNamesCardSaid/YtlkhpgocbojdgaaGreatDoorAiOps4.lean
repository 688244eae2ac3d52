/-
  EACH OPERATION OF THE EVALUATOR IS ONE OF THE MACHINE's, part 4: slices, places, conversions.
-/
import Derived.Test.YtlkhpgocbojdgaaGreatDoorAiOps3
namespace Go.Proofs.YtlkhpgocbojdgaaGreatDoor.Ai
open Go
set_option linter.unusedSimpArgs false
set_option linter.unusedVariables false
variable {E : Env} {ρ : Ren} {h h' : AHeap} {w : World}

theorem ret_some {x : Option Value} {r : Option Value} (e : ret h x = some (r, h')) : h' = h ∧ ∃ v, x = some v ∧ r = some v := by
  unfold ret at e
  split at e
  · cases e; exact ⟨rfl, _, rfl, rfl⟩
  · cases e

theorem unA_sound {op : UnOp} {a a' : Value} {r : Option Value} (ha : VR ρ a a') (e : unA E h op (some a) = some (r, h')) :
    h' = h ∧ ∃ v, r = some v ∧ (Op.unary op a').run E.P w = .ok v w ∧ VR ρ v v := by
  unfold unA at e
  dsimp only at e
  split at e
  · rename_i hf
    obtain ⟨h1, v, h2, h3⟩ := ret_some e
    obtain rfl := flat_eq hf ha
    obtain ⟨h4, h5⟩ := okFlat_some h2
    exact ⟨h1, v, h3, runP_run E.P _ h4 w, flat_VR ρ h5⟩
  · cases e

theorem bytesCells_LR (s : ByteArray) : LR ρ (bytesCells s) (bytesCells s) := by
  refine LR.flat ?_
  unfold bytesCells
  rw [List.all_map]
  exact List.all_eq_true.2 fun _ _ => rfl

theorem asIntOf_nat {v v' : Value} {n : Nat} (hv : VR ρ v v') (e : natV v = some n) : ∃ k, v' = .int k n := by
  cases hv <;> simp [natV, intV, asNat] at e
  rename_i k i
  split at e
  · cases e; exact ⟨k, rfl⟩
  · cases e

theorem fieldsD_some {t : TypeId} {fs : List Field} (e : fieldsD (E.ty.get t) = some fs) : ∃ i a, E.ty.get t = some i ∧ i.desc = .struct a ∧ fs = a.toList := by
  unfold fieldsD at e
  split at e
  · rename_i a z s b he
    cases e
    exact ⟨_, a, he, rfl, rfl⟩
  · cases e

theorem sizeT_some {t : TypeId} {n : Nat} (e : sizeT E t = some n) : ∃ i, E.ty.get t = some i ∧ i.size = n := by
  unfold sizeT at e
  cases h : E.ty.get t with
  | none => rw [h] at e; cases e
  | some i => rw [h] at e; cases e; exact ⟨i, rfl, rfl⟩

theorem fieldAddrA_sound (K : E.Ok) {t : TypeId} {f : Nat} {x x' : Value} {r : Option Value} (hx : VR ρ x x') (e : fieldAddrA E h f (some x) (fieldsD (E.ty.get t)) = some (r, h')) :
    h' = h ∧ ∃ v v', r = some v ∧ (Instr.fieldAt t x' f).run E.P w = .ok v' w ∧ VR ρ v v' := by
  cases hfd : fieldsD (E.ty.get t) with
  | none => rw [hfd] at e; unfold fieldAddrA at e; split at e <;> first | (cases e; done) | (rename_i hh; cases hh)
  | some fs =>
    obtain ⟨i, a, ht, hd, rfl⟩ := fieldsD_some hfd
    rw [hfd] at e
    cases hx with
    | ptr hρ =>
      rename_i b c N off
      simp only [fieldAddrA] at e
      cases hf : a.toList[f]? with
      | none => rw [hf] at e; cases e
      | some fl =>
        rw [hf] at e
        dsimp only at e
        split at e
        · rename_i n hs
          cases e
          obtain ⟨j, hj, hsz⟩ := sizeT_some hs
          refine ⟨rfl, _, .pointer (some ⟨c, off + fl.offset, none⟩), rfl, ?_, .ptr hρ⟩
          unfold Instr.fieldAt
          rw [Array.getElem?_toList] at hf
          simp [run_und K ht, hd, hf, Instr.sureAddr, fieldPlace, run_size K hj, hsz, addr_add]
        · cases e
    | _ => simp [fieldAddrA] at e

theorem part_run (K : E.Ok) {t : TypeId} {i : TyI} (ht : E.ty.get t = some i) {cs cs' : List Value} {off : Nat} {r : Option Value} (hL : LR ρ cs cs') (e : partA h cs off (some i) = some (r, h')) :
    h' = h ∧ ∃ v v', r = some v ∧ (part t ⟨cs'⟩ off).run E.P w = .ok v' w ∧ VR ρ v v' := by
  simp only [partA] at e
  cases hs : slice? cs off i.size with
  | none => rw [hs] at e; cases e
  | some l =>
    rw [hs] at e
    obtain ⟨h1, v, h2, h3⟩ := ret_some e
    obtain ⟨hs', hL'⟩ := hL.slice? hs
    obtain ⟨v', hw', r'⟩ := wrapCells_sound hL' h2
    refine ⟨h1, v, v', h3, ?_, r'⟩
    unfold part
    simp only [Sem.run_bind, run_isAgg K ht, Result.andThen_ok]
    have hlen := (slice?_some hs').2
    cases hag : isAggD i.desc with
    | true =>
      rw [hag] at hw'
      cases hw'
      simp only [if_true, Sem.run_bind, run_size K ht, Result.andThen_ok]
      have : (⟨cs'⟩ : Array Value).extract off (off + i.size) = ⟨(cs'.drop off).take i.size⟩ := by
        apply Array.ext'
        rw [Array.toList_extract]
        simp [List.extract_eq_take_drop]
      rw [this]
      rfl
    | false =>
      rw [hag] at hw'
      cases hq : (cs'.drop off).take i.size with
      | nil => rw [hq] at hw'; cases hw'
      | cons q rest =>
        rw [hq] at hw'
        cases rest with
        | cons _ _ => cases hw'
        | nil =>
          cases hw'
          have h0 : ((cs'.drop off).take i.size)[0]? = some v' := by rw [hq]; rfl
          rw [List.getElem?_take] at h0
          split at h0
          · rw [List.getElem?_drop, Nat.add_zero] at h0
            simp [h0]
          · cases h0

theorem fieldA_sound (K : E.Ok) {t : TypeId} {f : Nat} {x x' : Value} {r : Option Value} (hx : VR ρ x x') (e : fieldA E h f (some x) (fieldsD (E.ty.get t)) = some (r, h')) :
    h' = h ∧ ∃ v v', r = some v ∧ (Instr.field t x' f).run E.P w = .ok v' w ∧ VR ρ v v' := by
  cases hfd : fieldsD (E.ty.get t) with
  | none => rw [hfd] at e; unfold fieldA at e; split at e <;> first | (cases e; done) | (rename_i hh; cases hh)
  | some fs =>
    obtain ⟨i, a, ht, hd, rfl⟩ := fieldsD_some hfd
    rw [hfd] at e
    cases hx with
    | agg hl hr =>
      rename_i xs ys
      simp only [fieldA] at e
      cases hf : a.toList[f]? with
      | none => rw [hf] at e; cases e
      | some fl =>
        rw [hf] at e
        dsimp only at e
        cases hj : E.ty.get fl.type with
        | none => rw [hj] at e; cases e
        | some j =>
          rw [hj] at e
          obtain ⟨h1, v, v', h2, h3, h4⟩ := part_run (w := w) K hj ⟨hl, hr⟩ e
          refine ⟨h1, v, v', h2, ?_, h4⟩
          unfold Instr.field
          rw [Array.getElem?_toList] at hf
          simp only [Sem.run_bind, run_und K ht, hd, Result.andThen_ok, hf, asAgg, Sem.run_pure]
          exact h3
    | _ => simp [fieldA] at e

theorem indexAddrA_sound (K : E.Ok) {t : TypeId} {x x' ix ix' : Value} {r : Option Value} (hx : VR ρ x x') (hi : VR ρ ix ix') (e : indexAddrA E h (E.ty.get t) (some x) (natV ix) = some (r, h')) :
    h' = h ∧ ∃ v v', r = some v ∧ (Instr.indexAt t x' ix').run E.P w = .ok v' w ∧ VR ρ v v' := by
  cases hn : natV ix with
  | none => rw [hn] at e; unfold indexAddrA at e; split at e <;> first | (cases e; done) | (rename_i hh; cases hh)
  | some n =>
    obtain ⟨k, rfl⟩ := asIntOf_nat hi hn
    rw [hn] at e
    unfold indexAddrA at e
    split at e
    · rename_i elem z0 s0 b0 a len cp i' ht hxx hnn
      cases hxx
      cases hnn
      split at e
      · rename_i z hlt hz
        cases e
        have hlt' : n < len := by simpa [Nat.blt_eq] using hlt
        obtain ⟨j, hj, rfl⟩ := sizeT_some hz
        have key : ∀ (c off cap' : Nat), (Instr.indexAt t (.slice (some ⟨c, off, none⟩) len cap') (.int k n)).run E.P w = .ok (.pointer (some ⟨c, off + n * j.size, none⟩)) w := by
          intro c off cap'
          unfold Instr.indexAt
          simp [asIntOf, run_und K ht, run_size K hj, hlt', addr_add]
        cases hx with
        | slice h1 hρ =>
          exact ⟨rfl, _, _, rfl, key _ _ _, .ptr hρ⟩
        | sliceUp h1 h2 h3 h4 hρ =>
          exact ⟨rfl, _, _, rfl, key _ _ _, .ptr hρ⟩
        | sliceG _ _ _ _ _ hρ =>
          exact ⟨rfl, _, _, rfl, key _ _ _, .ptr hρ⟩
        | sliceG0 => omega
        | sliceUn => omega
      · cases e
    · rename_i len elem z0 s0 b0 a i' ht hxx hnn
      cases hxx
      cases hnn
      split at e
      · rename_i z hlt hz
        cases e
        have hlt' : n < len := by simpa [Nat.blt_eq] using hlt
        obtain ⟨j, hj, rfl⟩ := sizeT_some hz
        cases hx with
        | ptr hρ =>
          refine ⟨rfl, _, _, rfl, ?_, .ptr hρ⟩
          unfold Instr.indexAt
          simp [asIntOf, run_und K ht, run_size K hj, hlt', addr_add, Instr.sureAddr]
      · cases e
    · cases e

theorem indexA_sound (K : E.Ok) {t : TypeId} {x x' ix ix' : Value} {r : Option Value} (hx : VR ρ x x') (hi : VR ρ ix ix') (e : indexA E h (E.ty.get t) (some x) (natV ix) = some (r, h')) :
    h' = h ∧ ∃ v v', r = some v ∧ (Instr.index t x' ix').run E.P w = .ok v' w ∧ VR ρ v v' := by
  cases hn : natV ix with
  | none => rw [hn] at e; unfold indexA at e; split at e <;> first | (cases e; done) | (rename_i hh; cases hh)
  | some n =>
    obtain ⟨k, rfl⟩ := asIntOf_nat hi hn
    rw [hn] at e
    unfold indexA at e
    split at e
    · rename_i len elem z0 s0 b0 cs i' ht hxx hnn
      cases hxx
      cases hnn
      cases hx with
      | agg hl hr =>
        rename_i xs ys
        split at e
        · rename_i z hlt hz
          have hlt' : n < len := by simpa [Nat.blt_eq] using hlt
          obtain ⟨h1, v, v', h2, h3, h4⟩ := part_run (w := w) K hz ⟨hl, hr⟩ e
          refine ⟨h1, v, v', h2, ?_, h4⟩
          unfold Instr.index
          simp only [asIntOf, Sem.run_bind, Sem.run_pure, Result.andThen_ok, run_und K ht]
          rw [if_pos ⟨by omega, by omega⟩]
          simp only [Sem.run_bind, run_size K hz, Result.andThen_ok, Int.toNat_natCast]
          exact h3
        · cases e
    · rename_i z0 s0 b0 b i' ht hxx hnn
      cases hxx
      cases hnn
      cases hx
      split at e
      · rename_i c hc
        cases e
        refine ⟨rfl, _, _, rfl, ?_, .int _ _⟩
        have hlt : n < b.size := by
          have := (List.getElem?_eq_some_iff.1 hc).1
          rwa [Array.length_toList] at this
        have hget : b[n]? = some c := by
          rw [Array.getElem?_toList] at hc
          exact hc
        unfold Instr.index
        simp [asIntOf, run_und K ht, hget]
      · cases e
    · cases e

/-! ### Slices -/
theorem bound_run {y n : Nat} {k : IntKind} {code : BoundsCode} (hn : n ≤ y) : (Instr.sliceBound (.int k n) y code).run E.P w = .ok n w := by
  unfold Instr.sliceBound
  simp [asIntOf, hn]

theorem bounds_run {len cap cap' l hh : Nat} {lo hi lo' hi' : Option Value} {isS : Bool} (hlo : ∀ v, lo = some v → ∃ v', lo' = some v' ∧ VR ρ v v') (hlo0 : lo = none → lo' = none)
    (hhi : ∀ v, hi = some v → ∃ v', hi' = some v' ∧ VR ρ v v') (hhi0 : hi = none → hi' = none) (hcap : cap ≤ cap') (e : bounds len cap lo hi = some (l, hh)) :
    (Instr.sliceBounds isS len cap' lo' hi' none).run E.P w = .ok (l, hh, cap') w ∧ l ≤ hh ∧ hh ≤ cap := by
  unfold bounds at e
  split at e
  · rename_i x y hx hy
    split at e
    · rename_i hb
      cases e
      rw [Bool.and_eq_true] at hb
      have h1 := Nat.le_of_ble_eq_true hb.1
      have h2 := Nat.le_of_ble_eq_true hb.2
      refine ⟨?_, h1, h2⟩
      unfold Instr.sliceBounds
      have key : ∀ isS : Bool, (match hi', (none : Option Value) with
          | some v, some _ => Instr.sliceBound v cap' .slice3B
          | some v, none => Instr.sliceBound v cap' (if isS then .sliceAcap else .sliceAlen)
          | none, none => (pure len : Sem Nat)
          | none, some _ => stuck "Slice: max without high").run E.P w = .ok hh w := by
        intro isS
        cases hi with
        | none => rw [hhi0 rfl]; simp at hx; subst hx; rfl
        | some v =>
          obtain ⟨v', rfl, r⟩ := hhi v rfl
          obtain ⟨k, rfl⟩ := asIntOf_nat r hx
          exact bound_run (by omega)
      simp only [Sem.run_bind, Sem.run_pure, Result.andThen_ok]
      cases hi with
      | none =>
        rw [hhi0 rfl]
        simp at hx
        subst hx
        simp only [Sem.run_bind, Sem.run_pure, Result.andThen_ok]
        cases lo with
        | none => rw [hlo0 rfl]; simp at hy; subst hy; simp
        | some v =>
          obtain ⟨v', rfl, r⟩ := hlo v rfl
          obtain ⟨k, rfl⟩ := asIntOf_nat r hy
          simp [bound_run (E := E) (w := w) h1]
      | some v =>
        obtain ⟨v', rfl, r⟩ := hhi v rfl
        obtain ⟨k, rfl⟩ := asIntOf_nat r hx
        simp only [Sem.run_bind, bound_run (E := E) (w := w) (show hh ≤ cap' by omega), Result.andThen_ok]
        cases lo with
        | none => rw [hlo0 rfl]; simp at hy; subst hy; simp
        | some v =>
          obtain ⟨v', rfl, r⟩ := hlo v rfl
          obtain ⟨k, rfl⟩ := asIntOf_nat r hy
          simp [bound_run (E := E) (w := w) h1]
    · cases e
  · cases e

theorem up_ge (z k : Nat) : SL ≤ upCap z k := by
  unfold upCap
  have := Nat.le_mul_of_pos_right SL (show 0 < z + 1 by omega)
  omega
theorem up_lt {z k : Nat} (hk : k < SL) (hz : z < 1099511627776) : upCap z k < UN := by
  unfold upCap SL UN at *
  omega
theorem up_mod {z k : Nat} (hk : k < SL) : upCap z k % SL = k := by
  unfold upCap
  rw [Nat.mul_add_mod, Nat.mod_eq_of_lt hk]
theorem up_div {z k : Nat} (hk : k < SL) : upCap z k / SL = z + 1 := by
  unfold upCap
  rw [Nat.mul_add_div (by unfold SL; omega), Nat.div_eq_of_lt hk, Nat.add_zero]
theorem up_sub {z k l : Nat} (hl : l ≤ k) : upCap z k - l = upCap z (k - l) := by unfold upCap; omega

theorem VR.un_ite {c : Prop} [Decidable c] {a a1 a2 : Addr} {cp : Nat} : VR ρ (.slice (some a) 0 UN) (.slice (if c then some a1 else some a2) 0 cp) := by split <;> exact .sliceUn

theorem sliceA_sound (K : E.Ok) {t : TypeId} {i : TyI} (ht : E.ty.get t = some i) {x x' v : Value} {lo hi lo' hi' : Option Value} (hx : VR ρ x x') (hlo : ∀ v, lo = some v → ∃ v', lo' = some v' ∧ VR ρ v v') (hlo0 : lo = none → lo' = none)
    (hhi : ∀ v, hi = some v → ∃ v', hi' = some v' ∧ VR ρ v v') (hhi0 : hi = none → hi' = none) (e : sliceA E i.desc x lo hi = some v) :
    ∃ v', (Instr.sliceAt t x' lo' hi' none).run E.P w = .ok v' w ∧ VR ρ v v' := by
  have hb := fun {len cap cap' l hh : Nat} {isS : Bool} (hc : cap ≤ cap') (e : bounds len cap lo hi = some (l, hh)) => bounds_run (E := E) (w := w) (isS := isS) hlo hlo0 hhi hhi0 hc e
  unfold sliceA at e
  split at e
  · rename_i s hd
    cases hx
    cases hbb : bounds s.size s.size lo hi with
    | none => rw [hbb] at e; cases e
    | some p =>
      obtain ⟨l, hh⟩ := p
      rw [hbb] at e
      cases e
      obtain ⟨hr, h1, h2⟩ := hb (isS := false) (Nat.le_refl _) hbb
      refine ⟨.string (s.extract l hh), ?_, ?_⟩
      · unfold Instr.sliceAt Instr.slice
        simp [run_und K ht, hd, hr]
      · have : s.extract l hh = ⟨⟨(s.data.toList.drop l).take (hh - l)⟩⟩ := ba_ext (by rw [Lib.extract_data])
        rw [this]
        exact .string _
  · rename_i elem base len cap hd
    split at e
    · cases e
    · rename_i size hz
      obtain ⟨j, hj, rfl⟩ := sizeT_some hz
      have hsl : ∀ (base' : Option Addr) (cap' l hh : Nat), (Instr.sliceBounds true len cap' lo' hi' none).run E.P w = .ok (l, hh, cap') w →
          (Instr.sliceAt t (.slice base' len cap') lo' hi' none).run E.P w = .ok (.slice (if cap' = l then base' else base'.map (·.add (l * j.size))) (hh - l) (cap' - l)) w := by
        intro base' cap' l hh hr
        unfold Instr.sliceAt Instr.slice
        simp [run_und K ht, hd, hr, run_size K hj]
      split at e
      · cases hx
        cases hbb : bounds len cap lo hi with
        | none => rw [hbb] at e; cases e
        | some p =>
          obtain ⟨l, hh⟩ := p
          rw [hbb] at e
          cases e
          obtain ⟨hr, h1, h2⟩ := hb (isS := true) (Nat.le_refl _) hbb
          refine ⟨_, hsl none cap l hh hr, ?_⟩
          simp
          exact .sliceNil _ _
      · rename_i a
        split at e
        · rename_i hlt
          have hlt' : cap < SL := by simpa [Nat.blt_eq] using hlt
          cases hbb : bounds len cap lo hi with
          | none => rw [hbb] at e; cases e
          | some p =>
            obtain ⟨l, hh⟩ := p
            rw [hbb] at e
            cases e
            obtain ⟨hr, h1, h2⟩ := hb (isS := true) (Nat.le_refl _) hbb
            cases hx with
            | slice h3 hρ =>
              refine ⟨_, hsl _ cap l hh hr, ?_⟩
              dsimp only
              cases hbl : Nat.beq l cap with
              | true =>
                have := Nat.eq_of_beq_eq_true hbl
                rw [if_pos this.symm]
                exact .slice (by omega) hρ
              | false =>
                have := Nat.ne_of_beq_eq_false hbl
                rw [if_neg (Ne.symm this)]
                simp only [Option.map_some, addr_add]
                exact .slice (by omega) hρ
            | sliceUp h3 h4 h5 h6 h7 => exact absurd hlt' (Nat.not_lt.2 (up_ge _ _))
            | sliceUn => unfold SL UN at hlt'; omega
            | sliceG => exact absurd hlt' (by unfold GC SL UN; omega)
            | sliceG0 => exact absurd hlt' (by unfold GC SL UN; omega)
        · rename_i hlt
          have hlt' : ¬ cap < SL := by simpa [← Nat.blt_eq] using hlt
          split at e
          · rename_i hun
            have hun' : cap < UN := by simpa [Nat.blt_eq] using hun
            split at e
            · rename_i hsz
              have hsz' := Nat.eq_of_beq_eq_true hsz
              cases hbb : bounds len (cap % SL) lo hi with
              | none => rw [hbb] at e; cases e
              | some p =>
                obtain ⟨l, hh⟩ := p
                rw [hbb] at e
                cases e
                cases hx with
                | slice h3 => omega
                | sliceUn => omega
                | sliceG => exact absurd hun' (by unfold GC; omega)
                | sliceG0 => exact absurd hun' (by unfold GC; omega)
                | sliceUp h3 hz1 h4 h5 hρ =>
                  rename_i b c N off z k cap'
                  rw [up_div h3] at hsz'
                  obtain rfl : z = j.size := by omega
                  rw [up_mod h3] at hbb
                  obtain ⟨hr, h1, h2⟩ := hb (isS := true) h4 hbb
                  refine ⟨_, hsl _ _ l hh hr, ?_⟩
                  dsimp only
                  rw [up_mod h3]
                  cases hbl : Nat.beq l k with
                  | true =>
                    have := Nat.eq_of_beq_eq_true hbl
                    rw [show hh - l = 0 by omega]
                    exact VR.un_ite
                  | false =>
                    have := Nat.ne_of_beq_eq_false hbl
                    rw [if_neg (by omega)]
                    simp only [Option.map_some, addr_add]
                    rw [up_sub (by omega)]
                    refine .sliceUp (by omega) hz1 (by omega) ?_ hρ
                    have e1 : (cap' - l) * j.size = cap' * j.size - l * j.size := Nat.sub_mul _ _ _
                    have e2 : l * j.size ≤ cap' * j.size := Nat.mul_le_mul_right _ (by omega)
                    have e3 : off + cap' * j.size ≤ N := h5
                    show off + l * j.size + (cap' - l) * j.size ≤ N
                    rw [e1]
                    generalize l * j.size = A at *
                    generalize cap' * j.size = B at *
                    omega
            · cases e
          · rename_i hun
            have hun' : ¬ cap < UN := by simpa [← Nat.blt_eq] using hun
            split at e
            · rename_i hq
              have hq' := Nat.eq_of_beq_eq_true hq
              cases hbb : bounds 0 0 lo hi with
              | none => rw [hbb] at e; cases e
              | some p =>
                obtain ⟨l, hh⟩ := p
                rw [hbb] at e
                cases e
                cases hx with
                | slice h3 => omega
                | sliceUp h3 hz1 => exact absurd (up_lt h3 hz1) hun'
                | sliceG => exact absurd hq' (by unfold GC; omega)
                | sliceG0 => exact absurd hq' (by unfold GC; omega)
                | sliceUn =>
                  rename_i a' cap'
                  obtain ⟨hr, h1, h2⟩ := hb (isS := true) (cap' := cap') (Nat.zero_le _) hbb
                  refine ⟨_, hsl _ _ l hh hr, ?_⟩
                  rw [show hh - l = 0 by omega]
                  exact VR.un_ite
            · rename_i hq
              have hq' := Nat.ne_of_beq_eq_false hq
              split at e
              · rename_i hg
                rw [Bool.and_eq_true] at hg
                have hg1 : 0 < len := by simpa [Nat.blt_eq] using hg.1
                have hg2 := Nat.eq_of_beq_eq_true hg.2
                cases hbb : bounds len len lo hi with
                | none => rw [hbb] at e; cases e
                | some p =>
                  obtain ⟨l, hh⟩ := p
                  rw [hbb] at e
                  cases e
                  cases hx with
                  | slice h3 => omega
                  | sliceUp h3 hz1 => exact absurd (up_lt h3 hz1) hun'
                  | sliceUn => exact absurd rfl hq'
                  | sliceG0 => omega
                  | sliceG g1 g2 g3 g4 g5 hρ =>
                    rename_i b c N z cap'
                    obtain rfl : z = j.size := by unfold GC at hg2; omega
                    obtain ⟨hr, h1, h2⟩ := hb (isS := true) g4 hbb
                    refine ⟨_, hsl _ _ l hh hr, ?_⟩
                    dsimp only
                    cases hbl : Nat.beq l len with
                    | true =>
                      have := Nat.eq_of_beq_eq_true hbl
                      rw [show hh - l = 0 by omega]
                      exact VR.un_ite
                    | false =>
                      have := Nat.ne_of_beq_eq_false hbl
                      rw [if_neg (by omega)]
                      simp only [Option.map_some, addr_add]
                      refine .sliceUp (by omega) g3 (by omega) ?_ hρ
                      have e1 : (cap' - l) * j.size = cap' * j.size - l * j.size := Nat.sub_mul _ _ _
                      have e2 : l * j.size ≤ cap' * j.size := Nat.mul_le_mul_right _ (by omega)
                      show 0 + l * j.size + (cap' - l) * j.size ≤ N
                      rw [e1]
                      generalize l * j.size = A at *
                      generalize cap' * j.size = B at *
                      omega
              · cases e
  · rename_i n elem a hd
    split at e
    · cases e
    · rename_i size hz
      obtain ⟨j, hj, rfl⟩ := sizeT_some hz
      split at e
      · rename_i hlt
        have hlt' : n < SL := by simpa [Nat.blt_eq] using hlt
        cases hbb : bounds n n lo hi with
        | none => rw [hbb] at e; cases e
        | some p =>
          obtain ⟨l, hh⟩ := p
          rw [hbb] at e
          cases e
          obtain ⟨hr, h1, h2⟩ := hb (isS := false) (Nat.le_refl _) hbb
          cases hx with
          | ptr hρ =>
            rename_i b c N off
            refine ⟨.slice (some (if n = l then ⟨c, off, none⟩ else (⟨c, off, none⟩ : Addr).add (l * j.size))) (hh - l) (n - l), ?_, ?_⟩
            · unfold Instr.sliceAt
              simp [run_und K ht, hd, hr, run_size K hj, Instr.sureAddr]
            · dsimp only
              cases hbl : Nat.beq l n with
              | true =>
                have := Nat.eq_of_beq_eq_true hbl
                rw [if_pos this.symm]
                exact .slice (by omega) hρ
              | false =>
                have := Nat.ne_of_beq_eq_false hbl
                rw [if_neg (Ne.symm this), addr_add]
                exact .slice (by omega) hρ
      · cases e
  · cases e
end Go.Proofs.YtlkhpgocbojdgaaGreatDoor.Ai

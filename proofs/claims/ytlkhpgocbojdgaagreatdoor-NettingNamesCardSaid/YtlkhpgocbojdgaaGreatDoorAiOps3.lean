/-
  EACH OPERATION OF THE EVALUATOR IS ONE OF THE MACHINE's, part 3: arithmetic, comparisons, slices, places.
-/
import Derived.Test.YtlkhpgocbojdgaaGreatDoorAiOps2
import Derived.IntWalk
import Derived.Lib.Strings
import Derived.Lib.SmallJoins
namespace Go.Proofs.YtlkhpgocbojdgaaGreatDoor.Ai
open Go
set_option linter.unusedSimpArgs false
set_option linter.unusedVariables false
variable {E : Env} {ρ : Ren} {h h' : AHeap} {w : World}

theorem wrapF_eq (k : IntKind) (n : Int) : wrapF k n = k.wrap n := by
  unfold wrapF
  split
  · split
    · rename_i hb
      unfold inI64 at hb
      refine (IntWalk.i64_in n ?_).symm
      split at hb
      · rename_i m
        have : m < 9223372036854775808 := by simpa [Nat.blt_eq] using hb
        simp only [Int.ofNat_eq_natCast]
        omega
      · rename_i m
        have : m < 9223372036854775808 := by simpa [Nat.blt_eq] using hb
        omega
    · rfl
  · rfl

theorem okFlat_some {x : Option Value} {v : Value} (e : okFlat x = some v) : x = some v ∧ flat v = true := by
  unfold okFlat at e
  split at e
  · split at e
    · rename_i hf; cases e; exact ⟨rfl, hf⟩
    · cases e
  · cases e

theorem eqGuard_int (op : BinOp) (t : TypeId) (x y : Operand) (k j : IntKind) (a b : Int) : (eqGuard op t x y (.int k a) (.int j b)).run E.P w = .ok () w := by
  cases op <;> rfl

theorem intA_sound {op : BinOp} {k : IntKind} {a b : Int} {v : Value} (e : intA E op k a b = some v) (t : TypeId) : (binOp op t (.int k a) (.int k b)).run E.P w = .ok v w ∧ flat v = true := by
  cases op <;> simp only [intA, Option.some.injEq] at e <;> (first | (subst e; refine ⟨?_, rfl⟩) | skip)
  case add => simp [binOp, Op.intArith, wrapF_eq]
  case sub => simp [binOp, Op.intArith, wrapF_eq]
  case mul => simp [binOp, Op.intArith, wrapF_eq]
  case eql => simp [binOp, Op.intCmp]; rfl
  case neq => simp [binOp, Op.intCmp]; rfl
  case lss => simp [binOp, Op.intCmp]
  case leq => simp [binOp, Op.intCmp]
  case gtr => simp [binOp, Op.intCmp]
  case geq => simp [binOp, Op.intCmp]
  all_goals exact ⟨runP_run E.P _ (okFlat_some e).1 w, (okFlat_some e).2⟩

theorem sameKind_eq {k j : IntKind} (e : sameKind k j = true) : k = j := by
  unfold sameKind at e
  split at e
  · rfl
  · exact of_decide_eq_true e

theorem ba_ext {a b : ByteArray} (e : a.data.toList = b.data.toList) : a = b := by
  obtain ⟨⟨a⟩⟩ := a
  obtain ⟨⟨b⟩⟩ := b
  simp at e
  rw [e]

theorem strOp_flat {op : BinOp} {x y : List UInt8} {v : Value} (e : strOp op x y = some v) : flat v = true := by
  unfold strOp at e
  split at e <;> first
    | (cases e; done)
    | (cases e; rfl)
    | (split at e <;> first | (cases e; done) | (cases e; rfl))
theorem strOp_sound {op : BinOp} {x y : ByteArray} {v : Value} (e : strOp op x.data.toList y.data.toList = some v) : (Op.stringOp op x y).run E.P w = .ok v w := by
  unfold strOp at e
  unfold Op.stringOp
  rw [ByteArray.toList_eq, ByteArray.toList_eq]
  split at e
  · split at e
    · rename_i hb
      cases e
      have hl := Nat.le_of_ble_eq_true hb
      have hx : x.data.toList.length = x.size := by rw [Array.length_toList]; rfl
      have hy : y.data.toList.length = y.size := by rw [Array.length_toList]; rfl
      rw [hx, hy] at hl
      dsimp only
      have hmax : IntKind.i64.max = 9223372036854775807 := by decide
      rw [if_neg (by rw [hmax]; omega)]
      have : x ++ y = ⟨⟨x.data.toList ++ y.data.toList⟩⟩ := ba_ext (by rw [Joins.data_append])
      rw [this]
      rfl
    · cases e
  · cases e; rfl
  · cases e; rfl
  · cases e; rfl
  · cases e; rfl
  · cases e; rfl
  · cases e; rfl
  · cases e

theorem eqGuard_other {op : BinOp} {t : TypeId} {x y : Operand} {a b : Value} (h1 : ¬ (a = .nilIface ∧ b = .nilIface)) (h2 : ∀ xs, a ≠ .agg xs) : (eqGuard op t x y a b).run E.P w = .ok () w := by
  cases op <;> first
    | rfl
    | (cases a <;> first
        | rfl
        | exact absurd rfl (h2 _)
        | (cases b <;> first
            | rfl
            | exact absurd ⟨rfl, rfl⟩ h1))

theorem slNil_some {a : Addr} {n cap : Nat} {v' : Value} {d : Bool} (r : VR ρ (.slice (some a) n cap) v') (e : slNil n cap = some d) : ∃ q m c', v' = .slice q m c' ∧ d = q.isNone := by
  unfold slNil at e
  cases r with
  | slice h1 _ =>
    rw [Nat.ble_eq_true_of_le (show cap ≤ UN by unfold SL UN at *; omega)] at e
    cases e
    exact ⟨_, _, _, rfl, rfl⟩
  | sliceUp h1 h2 _ _ _ =>
    rw [Nat.ble_eq_true_of_le (by unfold upCap SL UN at *; omega)] at e
    cases e
    exact ⟨_, _, _, rfl, rfl⟩
  | sliceUn =>
    rw [Nat.ble_self_eq_true] at e
    cases e
    exact ⟨_, _, _, rfl, rfl⟩
  | sliceG h1 h2 h3 h4 h5 h6 =>
    rename_i b c N z cap'
    have hb : Nat.ble (GC z) UN = false := by
      cases hb : Nat.ble (GC z) UN with
      | false => rfl
      | true => exact absurd (Nat.le_of_ble_eq_true hb) (by unfold GC; omega)
    rw [hb] at e
    have hz : Nat.beq n 0 = false := by
      cases hz : Nat.beq n 0 with
      | false => rfl
      | true => exact absurd (Nat.eq_of_beq_eq_true hz) (by omega)
    dsimp only at e
    rw [hz] at e
    cases e
    exact ⟨_, _, _, rfl, rfl⟩
  | sliceG0 =>
    rename_i q z
    have hb : Nat.ble (GC z) UN = false := by
      cases hb : Nat.ble (GC z) UN with
      | false => rfl
      | true => exact absurd (Nat.le_of_ble_eq_true hb) (by unfold GC; omega)
    rw [hb] at e
    cases e

theorem equal_run (K : E.Ok) {t : TypeId} {i : TyI} (ht : E.ty.get t = some i) {a b a' b' : Value} {d : Bool} (ha : VR ρ a a') (hb : VR ρ b b') (e : nilEq E i.desc a b = some d) :
    (Op.equal t a' b').run E.P w = .ok d w ∧ ¬ (a' = .nilIface ∧ b' = .nilIface) ∧ (∀ xs, a' ≠ .agg xs) ∧ (∀ k m, a' ≠ .int k m) ∧ (∀ s, a' ≠ .string s) ∧ (∀ k m, a' ≠ .float k m) ∧ (∀ k m l, a' ≠ .complex k m l) := by
  have key : ∀ r : Bool, (Op.equal t a' b').run E.P w = .ok r w ↔ (Op.equalIn (9999 + 1) t a' b').run E.P w = .ok r w := fun r => Iff.rfl
  rw [key]
  unfold Op.equalIn
  simp only [Sem.run_bind, run_und K ht, Result.andThen_ok]
  unfold nilEq at e
  split at e
  case h_1 => rename_i hd; rw [hd]; cases e; cases ha; cases hb; simp
  case h_2 => rename_i hd; rw [hd]; cases ha; obtain ⟨q, m, c', rfl, rfl⟩ := slNil_some hb e; cases q <;> simp
  case h_3 => rename_i hd; rw [hd]; cases hb; obtain ⟨q, m, c', rfl, rfl⟩ := slNil_some ha e; cases q <;> simp
  case h_4 => rename_i hd; rw [hd]; cases e; cases ha; cases hb <;> simp
  case h_5 => rename_i hd; rw [hd]; cases e; cases hb; cases ha <;> simp
  case h_6 =>
    rename_i el p q hd
    rw [hd]
    split at e
    · rename_i n hs hbq
      cases e
      cases ha with
      | ptr h1 =>
        cases hb with
        | ptr h2 =>
          have hbl := Nat.eq_of_beq_eq_true hbq
          dsimp only at hbl
          subst hbl
          rw [h1] at h2
          cases h2
          unfold sizeT at hs
          cases hte : E.ty.get el with
          | none => rw [hte] at hs; cases hs
          | some j =>
            rw [hte] at hs
            have hs' : j.size = n + 1 := by simpa using hs
            rename_i b c N off off'
            simp [run_size K hte, hs', sameAddr]
            rw [Bool.eq_iff_iff]
            simp
    · cases e
  case h_7 => rename_i hd; rw [hd]; cases e; cases ha; cases hb <;> simp
  case h_8 => rename_i hd; rw [hd]; cases e; cases hb; cases ha <;> simp
  case h_9 => rename_i hd; rw [hd]; cases e; cases ha; cases hb <;> simp
  case h_10 => rename_i hd; rw [hd]; cases e; cases hb; cases ha <;> simp
  case h_11 => rename_i hd; rw [hd]; cases e; cases ha; cases hb <;> simp
  case h_12 => rename_i hd; rw [hd]; cases e; cases hb; cases ha <;> simp
  case h_13 => cases e

theorem binOp_eql {t : TypeId} {a b : Value} (h1 : ∀ k m, a ≠ .int k m) (h2 : ∀ s, a ≠ .string s) (h3 : ∀ k m, a ≠ .float k m) (h4 : ∀ k m l, a ≠ .complex k m l) :
    binOp .eql t a b = (do pure (.bool (← Op.equal t a b))) ∧ binOp .neq t a b = (do pure (.bool (!(← Op.equal t a b)))) := by
  cases a <;> first
    | exact ⟨rfl, rfl⟩
    | exact absurd rfl (h1 _ _)
    | exact absurd rfl (h2 _)
    | exact absurd rfl (h3 _ _)
    | exact absurd rfl (h4 _ _ _)
    | (cases b <;> exact ⟨rfl, rfl⟩)

theorem binA_sound (K : E.Ok) {op : BinOp} {t : TypeId} {x y : Operand} {a b a' b' v : Value} (ha : VR ρ a a') (hb : VR ρ b b') (e : binA E op t x y a b = some v) :
    (do eqGuard op t x y a' b'; binOp op t a' b').run E.P w = .ok v w ∧ VR ρ v v := by
  unfold binA at e
  split at e
  · rename_i k m j n
    cases ha
    cases hb
    split at e
    · rename_i hk
      obtain rfl := sameKind_eq hk
      exact ⟨by simp only [Sem.run_bind, eqGuard_int, Result.andThen_ok, (intA_sound (w := w) e t).1], flat_VR ρ (intA_sound (E := E) (w := w) e t).2⟩
    · cases e
  · rename_i p q
    cases ha
    cases hb
    refine ⟨?_, ?_⟩
    · simp only [Sem.run_bind, eqGuard_other (a := .string p) (b := .string q) (by simp) (by simp), Result.andThen_ok]
      have : binOp op t (.string p) (.string q) = Op.stringOp op p q := by cases op <;> rfl
      rw [this]
      exact strOp_sound e
    · exact flat_VR ρ (strOp_flat e)
  · split at e
    · rename_i hf
      rw [Bool.and_eq_true] at hf
      obtain rfl := flat_eq hf.1 ha
      obtain rfl := flat_eq hf.2 hb
      exact ⟨runP_run E.P _ (okFlat_some e).1 w, flat_VR ρ (okFlat_some e).2⟩
    · split at e
      · rename_i i ht
        unfold eqlA at e
        split at e
        · rename_i d hd
          obtain ⟨hr, g1, g2, g3, g4, g5, g6⟩ := equal_run K (w := w) ht ha hb hd
          obtain ⟨f1, f2⟩ := binOp_eql (t := t) (b := b') g3 g4 g5 g6
          split at e
          · cases e
            exact ⟨by simp only [Sem.run_bind, eqGuard_other g1 g2, Result.andThen_ok, f1, hr, Sem.run_pure], .bool _⟩
          · cases e
            exact ⟨by simp only [Sem.run_bind, eqGuard_other g1 g2, Result.andThen_ok, f2, hr, Sem.run_pure], .bool _⟩
          · cases e
        · cases e
      · cases e
end Go.Proofs.YtlkhpgocbojdgaaGreatDoor.Ai

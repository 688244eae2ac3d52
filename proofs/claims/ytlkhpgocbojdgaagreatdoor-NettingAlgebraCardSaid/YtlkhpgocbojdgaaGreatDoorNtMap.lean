/-
  A MAP FROM KNOTS TO NUMBERS: its entries as a list, and what the operations make of them.
-/
import Derived.Test.YtlkhpgocbojdgaaGreatDoorNtEq
namespace Go.Proofs.YtlkhpgocbojdgaaGreatDoor.Ai
open Go
set_option linter.unusedSimpArgs false
set_option linter.unusedVariables false

abbrev KI := Int × Int
abbrev DM := List (KI × Int)
def entsK : Nat → DM → List MapEntry
  | _, [] => []
  | i, (k, n) :: r => { key := kn k.1 k.2, val := iv n, born := i } :: entsK (i + 1) r
def getK : DM → KI → Int
  | [], _ => 0
  | (k', n) :: r, k => if k = k' then n else getK r k
/-- Where the key is, or will be. -/
def posK : DM → KI → Nat
  | [], _ => 0
  | (k', n) :: r, k => if k = k' then 0 else posK r k + 1
def touchK : DM → KI → DM
  | [], k => [(k, 0)]
  | (k', n) :: r, k => if k = k' then (k', n) :: r else (k', n) :: touchK r k
def bumpK : DM → KI → DM
  | [], k => [(k, 1)]
  | (k', n) :: r, k => if k = k' then (k', n + 1) :: r else (k', n) :: bumpK r k
def hasK : DM → KI → Bool
  | [], _ => false
  | (k', n) :: r, k => if k = k' then true else hasK r k
def findIx : DM → KI → Nat → Option (Nat × Value)
  | [], _, _ => none
  | (k', n) :: r, k, i => if k = k' then some (i, iv n) else findIx r k (i + 1)

theorem entsK_length : ∀ (m : DM) (i : Nat), (entsK i m).length = m.length
  | [], _ => rfl
  | _ :: r, i => by simp [entsK, entsK_length r]
theorem entsK_get : ∀ (m : DM) (i j : Nat), (entsK i m)[j]? = (m[j]?).map fun p => { key := kn p.1.1 p.1.2, val := iv p.2, born := i + j }
  | [], _, _ => by simp [entsK]
  | (k, n) :: r, i, 0 => by simp [entsK]
  | (k, n) :: r, i, j + 1 => by
    simp only [entsK, List.getElem?_cons_succ]
    rw [entsK_get r (i + 1) j, show i + 1 + j = i + (j + 1) by omega]
theorem entsK_append (m : DM) (k : KI) (n : Int) : ∀ (i : Nat), entsK i (m ++ [(k, n)]) = entsK i m ++ [{ key := kn k.1 k.2, val := iv n, born := i + m.length }] := by
  induction m with
  | nil => intro i; simp [entsK]
  | cons p m ih =>
    intro i
    obtain ⟨k', n'⟩ := p
    simp only [List.cons_append, entsK, ih, List.length_cons]
    rw [show i + 1 + m.length = i + (m.length + 1) by omega]
theorem findIx_spec : ∀ (m : DM) (k : KI) (i : Nat), findIx m k i = if hasK m k then some (i + posK m k, iv (getK m k)) else none
  | [], _, _ => rfl
  | (k', n) :: r, k, i => by
    simp only [findIx, hasK, posK, getK]
    by_cases h : k = k'
    · simp [h]
    · simp only [h, if_false, findIx_spec r k (i + 1)]
      split
      · rw [show i + 1 + posK r k = i + (posK r k + 1) by omega]
      · rfl
theorem getK_none : ∀ {m : DM} {k : KI}, hasK m k = false → getK m k = 0
  | [], _, _ => rfl
  | (k', n) :: r, k, h => by
    simp only [hasK] at h
    simp only [getK]
    by_cases e : k = k'
    · simp [e] at h
    · simp only [e, if_false] at h ⊢
      exact getK_none h
theorem posK_none : ∀ {m : DM} {k : KI}, hasK m k = false → posK m k = m.length
  | [], _, _ => rfl
  | (k', n) :: r, k, h => by
    simp only [hasK] at h
    simp only [posK]
    by_cases e : k = k'
    · simp [e] at h
    · simp only [e, if_false] at h ⊢
      rw [posK_none h, List.length_cons]
theorem touchK_none : ∀ {m : DM} {k : KI}, hasK m k = false → touchK m k = m ++ [(k, 0)]
  | [], _, _ => rfl
  | (k', n) :: r, k, h => by
    simp only [hasK] at h
    simp only [touchK]
    by_cases e : k = k'
    · simp [e] at h
    · simp only [e, if_false] at h ⊢
      rw [touchK_none h]
      rfl
theorem touchK_has : ∀ {m : DM} {k : KI}, hasK m k = true → touchK m k = m
  | [], _, h => by cases h
  | (k', n) :: r, k, h => by
    simp only [hasK] at h
    simp only [touchK]
    by_cases e : k = k'
    · simp [e]
    · simp only [e, if_false] at h ⊢
      rw [touchK_has h]
theorem posK_get : ∀ {m : DM} {k : KI}, hasK m k = true → m[posK m k]? = some (k, getK m k)
  | [], _, h => by cases h
  | (k', n) :: r, k, h => by
    simp only [hasK] at h
    simp only [posK, getK]
    by_cases e : k = k'
    · simp [e]
    · simp only [e, if_false] at h ⊢
      rw [List.getElem?_cons_succ]
      exact posK_get h
theorem posK_touch : ∀ (m : DM) (k : KI), (touchK m k)[posK m k]? = some (k, getK m k)
  | [], _ => rfl
  | (k', n) :: r, k => by
    simp only [posK, getK, touchK]
    by_cases e : k = k'
    · simp [e]
    · simp only [e, if_false]
      rw [List.getElem?_cons_succ]
      exact posK_touch r k
theorem bump_modify : ∀ (m : DM) (k : KI) (i : Nat), (entsK i (touchK m k)).modify (posK m k) (fun e => { e with val := iv (getK m k + 1) }) = entsK i (bumpK m k)
  | [], k, i => by simp [touchK, posK, getK, bumpK, entsK]
  | (k', n) :: r, k, i => by
    simp only [posK, getK, touchK, bumpK]
    by_cases e : k = k'
    · simp [e, entsK]
    · simp only [e, if_false, entsK, List.modify_succ_cons]
      rw [bump_modify r k (i + 1)]
theorem bump_length (m : DM) (k : KI) : (bumpK m k).length = (touchK m k).length := by
  have := congrArg List.length (bump_modify m k 0)
  rw [List.length_modify, entsK_length, entsK_length] at this
  exact this.symm
theorem findIdx_ents : ∀ (m : DM) (i p : Nat), p < m.length → (entsK i m).findIdx? (fun e => (e.born : Int) == ((i + p : Nat) : Int)) = some p
  | [], _, _, h => by simp at h
  | (k, n) :: r, i, 0, _ => by simp [entsK, List.findIdx?_cons]
  | (k, n) :: r, i, p + 1, h => by
    simp only [entsK, List.findIdx?_cons]
    have hne : ((i : Int) == ((i + (p + 1) : Nat) : Int)) = false := by simp; omega
    rw [hne]
    simp only [Bool.false_eq_true, if_false]
    have := findIdx_ents r (i + 1) p (by simpa using h)
    rw [show i + 1 + p = i + (p + 1) by omega] at this
    rw [this]
    rfl

theorem find_K (x y : Int) : ∀ (m : DM) (j i : Nat), runP Tryz.prog (Instr.findAsking 23 (kn x y) (entsK j m) i) = some (findIx m (x, y) i)
  | [], _, _ => rfl
  | (k, n) :: r, j, i => by
    simp only [entsK, Instr.findAsking, runP_bindE, eqKn, Option.bind_some, runP_ite, findIx]
    by_cases h : x = k.1 ∧ y = k.2
    · have : (x, y) = k := by obtain ⟨h1, h2⟩ := h; subst h1; subst h2; rfl
      rw [if_pos (by simp [h]), if_pos this]
      rfl
    · have : ¬ (x, y) = k := fun e => h (by subst e; exact ⟨rfl, rfl⟩)
      simp only [h, this, decide_false, Bool.false_eq_true, if_false]
      exact find_K x y r (j + 1) (i + 1)
theorem findKey_K (x y : Int) (m : DM) : runP Tryz.prog (Instr.findKey 23 (kn x y) (entsK 0 m)) = some (findIx m (x, y) 0) := by
  unfold Instr.findKey
  obtain ⟨d, hd, hs⟩ : ∃ fs, Tryz.prog.underlying 23 = some (.struct fs) ∧ True := ⟨_, (by kernel_rfl : Tryz.prog.underlying 23 = some (.struct (Tryz.prog.fieldsOf 23))), trivial⟩
  rw [runP_bindE, runP_underlying hd, Option.bind_some]
  cases m with
  | nil => rfl
  | cons p m =>
    obtain ⟨k, n⟩ := p
    exact find_K x y ((k, n) :: m) 0 0
theorem check_K (x y : Int) (b : Bool) : runP Tryz.prog (Instr.checkKey b 10000 23 (kn x y)) = some () := by kernel_rfl
theorem same_K (x y : Int) : Instr.sameBits 10000 (kn x y) (kn x y) = true := by
  simp [Instr.sameBits]

section
variable {E : Env}
theorem mk_look (hP : E.P = Tryz.prog) (hz : zeroOf E 3 = some (iv 0)) (m : DM) (x y : Int) : lookupV E false 23 3 (entsK 0 m) (kn x y) = some (iv (getK m (x, y))) := by
  unfold lookupV
  rw [hP, check_K, findKey_K, hz, findIx_spec]
  by_cases h : hasK m (x, y) = true
  · simp [h]
  · have h' : hasK m (x, y) = false := by simpa using h
    simp [h', getK_none h']
theorem getK_touch : ∀ (m : DM) (k : KI), getK (touchK m k) k = getK m k
  | [], k => by simp [touchK, getK]
  | (k', n) :: r, k => by
    simp only [touchK, getK]
    by_cases h : k = k'
    · simp [h, getK]
    · simp only [h, if_false, getK]
      exact getK_touch r k
theorem mk_look2 (hP : E.P = Tryz.prog) (hz : zeroOf E 3 = some (iv 0)) (m : DM) (x y : Int) : lookupV E false 23 3 (entsK 0 (touchK m (x, y))) (kn x y) = some (iv (getK m (x, y))) := by
  rw [mk_look hP hz, getK_touch]
theorem mk_entM (hP : E.P = Tryz.prog) (hz : zeroOf E 3 = some (iv 0)) (m : DM) (x y : Int) : entM E 23 3 (entsK 0 m) m.length (kn x y) = some (entsK 0 (touchK m (x, y)), (touchK m (x, y)).length) := by
  unfold entM
  rw [hP, check_K, findKey_K, hz, findIx_spec]
  by_cases h : hasK m (x, y) = true
  · simp only [h, if_true, Nat.zero_add]
    rw [entsK_get, posK_get h]
    simp only [Option.map_some, same_K, touchK_has h]
    congr 2
    apply List.ext_getElem?
    intro j
    rw [List.getElem?_modify]
    by_cases hj : posK m (x, y) = j
    · subst hj
      rw [entsK_get, posK_get h]
      simp
    · simp [hj]
  · have h' : hasK m (x, y) = false := by simpa using h
    simp only [h', Bool.false_eq_true, if_false, touchK_none h', List.length_append, List.length_singleton]
    rw [entsK_append]
    simp
theorem mk_entV (hP : E.P = Tryz.prog) (hz : zeroOf E 3 = some (iv 0)) (m : DM) (x y : Int) : entV E 23 3 (entsK 0 m) m.length (kn x y) = some (.tuple #[iv (getK m (x, y)), iv (posK m (x, y))]) := by
  unfold entV
  rw [hP, findKey_K, hz, findIx_spec]
  by_cases h : hasK m (x, y) = true
  · simp only [h, if_true, Nat.zero_add]
    rw [entsK_get, posK_get h]
    simp
  · have h' : hasK m (x, y) = false := by simpa using h
    simp [h', getK_none h', posK_none h']
theorem mk_store (m : DM) (x y : Int) : storeM (entsK 0 (touchK m (x, y))) (touchK m (x, y)).length (posK m (x, y)) (iv (getK m (x, y) + 1)) = some (entsK 0 (bumpK m (x, y)), (bumpK m (x, y)).length) := by
  unfold storeM
  have hp : posK m (x, y) < (touchK m (x, y)).length := (List.getElem?_eq_some_iff.1 (posK_touch m (x, y))).1
  have := findIdx_ents (touchK m (x, y)) 0 (posK m (x, y)) hp
  rw [Nat.zero_add] at this
  rw [this]
  simp only [bump_modify, bump_length]
end
end Go.Proofs.YtlkhpgocbojdgaaGreatDoor.Ai

/-
  A STATE NAMED ANEW: which blocks and which temporaries are kept, and under which numbers.
-/
import Derived.Test.YtlkhpgocbojdgaaGreatDoorAiFactOk
namespace Go.Proofs.YtlkhpgocbojdgaaGreatDoor.Ai
open Go
set_option linter.unusedSimpArgs false
set_option linter.unusedVariables false

def mapO {α β : Type} (f : α → Option β) : List α → Option (List β)
  | [] => some []
  | x :: xs => match f x with
    | some y => match mapO f xs with
      | some ys => some (y :: ys)
      | none => none
    | none => none

/-- A value's addresses renamed: a value of one cell without parts. -/
def ren0 (π : Nat → Option Nat) (v : Value) : Option Value :=
  match v with
  | .bool _ | .int .. | .string _ | .float .. | .nilIface | .nilFunc | .pointer none | .map none | .slice none _ _ => some v
  | .pointer (some ⟨b, off, none⟩) => match π b with
    | some b' => some (.pointer (some ⟨b', off, none⟩))
    | none => none
  | .slice (some ⟨b, off, none⟩) n cap => match π b with
    | some b' => some (.slice (some ⟨b', off, none⟩) n cap)
    | none => none
  | .map (some b) => match π b with
    | some b' => some (.map (some b'))
    | none => none
  | _ => none
def renF (π : Nat → Option Nat) (f : Fn) : Option Fn := match f with
  | .yield l => match π l with
    | some l' => some (.yield l')
    | none => none
  | f => some f
/-- One that has parts of that kind. -/
def ren1 (π : Nat → Option Nat) (v : Value) : Option Value :=
  match v with
  | .agg ⟨cs⟩ => match mapO (ren0 π) cs with
    | some ds => some (.agg ⟨ds⟩)
    | none => none
  | .func f ⟨fs⟩ ⟨cs⟩ => match renF π f, mapO (ren0 π) fs, mapO (ren0 π) cs with
    | some f', some gs, some ds => some (.func f' ⟨gs⟩ ⟨ds⟩)
    | _, _, _ => none
  | .iface t v => match ren0 π v with
    | some u => some (.iface t u)
    | none => none
  | v => ren0 π v
def ren2 (π : Nat → Option Nat) (v : Value) : Option Value :=
  match v with
  | .tuple ⟨vs⟩ => match mapO (ren1 π) vs with
    | some us => some (.tuple ⟨us⟩)
    | none => none
  | v => ren1 π v

def lookA : List (Nat × Nat) → Nat → Option Nat
  | [], _ => none
  | (x, y) :: r, k => match Nat.beq x k with
    | true => some y
    | false => lookA r k
def nodupB : List Nat → Bool
  | [] => true
  | x :: r => r.all (fun y => !Nat.beq x y) && nodupB r

/-- The blocks that are kept: their new numbers and their old ones. -/
def CanB.pair (n : Nat) : CanB → List (Nat × Nat)
  | .old o | .flat o | .loop o _ => [(n, o)]
  | .dummy _ => []
def pairs : List (Nat × CanB) → List (Nat × Nat)
  | [] => []
  | (n, b) :: r => b.pair n ++ pairs r
def swapP (l : List (Nat × Nat)) : List (Nat × Nat) := l.map fun p => (p.2, p.1)
def isFlat0 (b : Nat) : Nat × CanB → Bool
  | (n, .flat o) => Nat.beq n b && Nat.beq o b
  | _ => false

def canOk (base : Nat) (sp : Can) : Bool :=
  nodupB (sp.blocks.map (·.1)) && nodupB ((pairs sp.blocks).map (·.2)) && sp.blocks.all (fun p => Nat.blt p.1 sp.next) && Nat.ble base sp.next &&
    (pairs sp.blocks).all (fun p => (Nat.beq p.1 p.2 && Nat.blt p.1 base) || (Nat.ble base p.1 && Nat.ble base p.2)) &&
    (List.range base).all (fun b => sp.blocks.any (isFlat0 b))

noncomputable section
def canT1 (π : Nat → Option Nat) (k : CanT) (v : Value) : M Value :=
  match k with
  | .same => M.of 80 (ren2 π v)
  | .flatV => do
    let t ← askB (flat v)
    match t with
    | true => M.pure v
    | false => M.fail 84
  | .nilG b z => match v with
    | .slice none 0 0 => M.pure (.slice (some ⟨b, 0, none⟩) 0 (GC z))
    | .slice (some _) 0 0 => M.pure (.slice (some ⟨b, 0, none⟩) 0 (GC z))
    | _ => M.fail 81
  | .upG z => match v with
    | .slice (some ⟨b, 0, none⟩) n cap => do
      let t ← askB (Nat.beq cap (upCap z n) && Nat.blt n SL && Nat.blt 0 n && Nat.blt z 1099511627776)
      match t, π b with
      | true, some b' => M.pure (.slice (some ⟨b', 0, none⟩) n (GC z))
      | _, _ => M.fail 82
    | _ => M.fail 83
def canT (π : Nat → Option Nat) (s : T Value) : List (Nat × CanT) → T Value → M (T Value)
  | [], t => M.pure t
  | (k, c) :: r, t => match s.get k with
    | some v => do
      let u ← canT1 π c v
      canT π s r (t.put k u)
    | none => M.fail (8400 + k)

def canO (π : Nat → Option Nat) (h : AHeap) (b : CanB) : M AObj :=
  match b with
  | .dummy e => M.pure (.cells [] e)
  | .flat o => match h.get o with
    | some (.cells c e) => do
      let t ← askB (c.all flatCell)
      match t with
      | true => M.pure (.cells c e)
      | false => M.fail 85
    | some (.ro c) => do
      let t ← askB (c.all flatCell)
      match t with
      | true => M.pure (.ro c)
      | false => M.fail 86
    | some (.map es k) => do
      let t ← askB (es.all fun e => flat e.val)
      match t with
      | true => M.pure (.map es k)
      | false => M.fail 87
    | some (.strIter s p) => M.pure (.strIter s p)
    | _ => M.fail 88
  | .old o => match h.get o with
    | some (.cells c e) => match mapO (ren1 π) c with
      | some c' => M.pure (.cells c' e)
      | none => M.fail 89
    | some (.ro c) => match mapO (ren1 π) c with
      | some c' => M.pure (.ro c')
      | none => M.fail 90
    | some (.mapIter (some m) a l c) => match π m with
      | some m' => M.pure (.mapIter (some m') a l c)
      | none => M.fail 96
    | some (.mapIter none a l c) => M.pure (.mapIter none a l c)
    | some .defers => M.pure .defers
    | some .closed => M.pure .closed
    | _ => M.fail 91
  | .loop o ks => match h.get o with
    | some (.loop st p tm ps as bd d) => do
      let t ← canT π tm ks .nil
      match π d with
      | some d' => M.pure (.loop st p t ps as bd d')
      | none => M.fail 92
    | _ => M.fail 93
def canH (π : Nat → Option Nat) (h : AHeap) : List (Nat × CanB) → T AObj → M (T AObj)
  | [], m => M.pure m
  | (n, b) :: r, m => do
    let o ← canO π h b
    canH π h r (m.put n o)

def canX (base : Nat) (sp : Can) (s : ASt) : M ASt :=
  match canOk base sp with
  | true =>
    let π := lookA (swapP (pairs sp.blocks))
    do
    let m ← canH π s.heap sp.blocks .nil
    let t ← canT π s.tmps sp.tmps .nil
    match mapO π s.marks with
    | some ms => M.pure { tmps := t, heap := { m := m, next := sp.next, low := s.heap.low }, marks := ms }
    | none => M.fail 94
  | false => M.fail 95
end

/-! ### It is sound -/
section
variable {D : Code → ASt → AExit → ASt → Prop} {π : Nat → Option Nat} {ρ ρ' : Ren}

/-- A renaming that fits. -/
def Sub (π : Nat → Option Nat) (ρ ρ' : Ren) : Prop := ∀ b b', π b = some b' → ∀ x, ρ b = some x → ρ' b' = some x

theorem mapO_some {α β : Type} {f : α → Option β} : ∀ {l : List α} {r : List β}, mapO f l = some r → l.length = r.length ∧ ∀ (i : Nat) (y : β), r[i]? = some y → ∃ x, l[i]? = some x ∧ f x = some y
  | [], r, h => by cases h; exact ⟨rfl, fun i y e => by simp at e⟩
  | x :: l, r, h => by
    unfold mapO at h
    split at h
    · rename_i y hy
      split at h
      · rename_i ys hys
        cases h
        obtain ⟨h1, h2⟩ := mapO_some hys
        refine ⟨by simp [h1], fun i z e => ?_⟩
        cases i with
        | zero => simp at e; subst e; exact ⟨x, rfl, hy⟩
        | succ i => exact h2 i z (by simpa using e)
      · cases h
    · cases h

theorem mapO_VR {f : Value → Option Value} (hf : ∀ v u v', f v = some u → VR ρ v v' → VR ρ' u v') {xs ys us : List Value} (h : mapO f xs = some us) (hl : xs.length = ys.length) (r : ∀ (i : Nat) v v', xs[i]? = some v → ys[i]? = some v' → VR ρ v v') :
    us.length = ys.length ∧ ∀ (i : Nat) v v', us[i]? = some v → ys[i]? = some v' → VR ρ' v v' := by
  obtain ⟨h1, h2⟩ := mapO_some h
  refine ⟨by omega, fun i v v' e e' => ?_⟩
  obtain ⟨x, hx, hfx⟩ := h2 i v e
  exact hf x v v' hfx (r i x v' hx e')

theorem ren0_sound (hs : Sub π ρ ρ') {v u v' : Value} (h : ren0 π v = some u) (r : VR ρ v v') : VR ρ' u v' := by
  unfold ren0 at h
  split at h
  all_goals try (cases h; cases r <;> constructor)
  · split at h
    · rename_i hb
      cases h
      cases r with
      | ptr e => exact .ptr (hs _ _ hb _ e)
    · cases h
  · split at h
    · rename_i hb
      cases h
      cases r with
      | slice a e => exact .slice a (hs _ _ hb _ e)
      | sliceUp a b c d e => exact .sliceUp a b c d (hs _ _ hb _ e)
      | sliceUn => exact .sliceUn
      | sliceG a0 a1 a2 a3 a4 e => exact .sliceG a0 a1 a2 a3 a4 (hs _ _ hb _ e)
      | sliceG0 => exact .sliceG0
    · cases h
  · split at h
    · rename_i hb
      cases h
      cases r with
      | map e => exact .map (hs _ _ hb _ e)
    · cases h
  · cases h

theorem renF_sound (hs : Sub π ρ ρ') {f g f' : Fn} (h : renF π f = some g) (r : FnR ρ f f') : FnR ρ' g f' := by
  unfold renF at h
  split at h
  · split at h
    · rename_i hb
      cases h
      cases r with
      | same e => exact absurd rfl (e _)
      | yield e => exact .yield (hs _ _ hb _ e)
    · cases h
  · rename_i hne
    cases h
    cases r with
    | same e => exact .same e
    | yield e => exact absurd rfl (hne _)

theorem ren1_sound (hs : Sub π ρ ρ') {v u v' : Value} (h : ren1 π v = some u) (r : VR ρ v v') : VR ρ' u v' := by
  unfold ren1 at h
  split at h
  · split at h
    · rename_i hm
      cases h
      cases r with
      | agg hl hr =>
        obtain ⟨a, b⟩ := mapO_VR (fun _ _ _ => ren0_sound hs) hm hl hr
        exact .agg a b
    · cases h
  · split at h
    · rename_i hf h1 h2
      cases h
      cases r with
      | func e1 e2 e3 e4 e5 =>
        obtain ⟨a, b⟩ := mapO_VR (fun _ _ _ => ren0_sound hs) h1 e2 e3
        obtain ⟨c, d⟩ := mapO_VR (fun _ _ _ => ren0_sound hs) h2 e4 e5
        exact .func (renF_sound hs hf e1) a b c d
    · cases h
  · split at h
    · rename_i hu
      cases h
      cases r with
      | iface e => exact .iface (ren0_sound hs hu e)
    · cases h
  · exact ren0_sound hs h r

theorem ren2_sound (hs : Sub π ρ ρ') {v u v' : Value} (h : ren2 π v = some u) (r : VR ρ v v') : VR ρ' u v' := by
  unfold ren2 at h
  split at h
  · split at h
    · rename_i hm
      cases h
      cases r with
      | tuple hl hr =>
        obtain ⟨a, b⟩ := mapO_VR (fun _ _ _ => ren1_sound hs) hm hl hr
        exact .tuple a b
    · cases h
  · exact ren1_sound hs h r

theorem up_inj {z z' n k : Nat} (hn : n < SL) (hk : k < SL) (h : upCap z n = upCap z' k) : z = z' ∧ n = k := by
  have h1 := up_mod (z := z) hn
  have h2 := up_mod (z := z') hk
  have h3 := up_div (z := z) hn
  have h4 := up_div (z := z') hk
  rw [h] at h1 h3
  exact ⟨by omega, by omega⟩

theorem canT1_sound (hs : Sub π ρ ρ') {k : CanT} {v u v' : Value} (g : Got D (canT1 π k v) u) (r : VR ρ v v') : VR ρ' u v' := by
  unfold canT1 at g
  cases k with
  | same => exact ren2_sound hs (got_of g) r
  | flatV =>
    obtain ⟨t, k1, g⟩ := got_bind g
    have e := got_askB k1
    cases t with
    | true =>
      rw [got_pure g, flat_eq e.symm r]
      exact flat_VR _ e.symm
    | false => exact (got_fail g).elim
  | nilG b z =>
    dsimp only at g
    split at g
    · rw [got_pure g]
      cases r
      exact .sliceG0
    · rename_i a0
      rw [got_pure g]
      generalize hv : Value.slice (some a0) 0 0 = q at r
      cases r <;> simp only [Value.slice.injEq, reduceCtorEq] at hv
      all_goals first
        | (exact hv.1.elim)
        | (obtain ⟨_, rfl, rfl⟩ := hv; exact .sliceG0)
        | (exact absurd hv.2.2 (by unfold upCap SL; omega))
        | (exact absurd hv.2.2 (by unfold UN; omega))
        | (exact absurd hv.2.2 (by unfold GC UN; omega))
    · exact (got_fail g).elim
  | upG z =>
    dsimp only at g
    split at g
    · rename_i b n cap
      obtain ⟨t, k1, g⟩ := got_bind g
      have e := got_askB k1
      split at g
      · rename_i hb
        rw [got_pure g]
        simp only [Bool.true_eq, Bool.and_eq_true] at e
        have e4 : z < 1099511627776 := by simpa [Nat.blt_eq] using e.2
        replace e := e.1
        have e1 := Nat.eq_of_beq_eq_true e.1.1
        have e2 : n < SL := by simpa [Nat.blt_eq] using e.1.2
        have e3 : 0 < n := by simpa [Nat.blt_eq] using e.2
        cases r with
        | slice h1 _ => exact absurd e1 (by have := up_ge; unfold upCap SL at *; omega)
        | sliceUn => omega
        | sliceG0 => omega
        | sliceG => exact absurd e1 (by unfold GC upCap SL UN at *; omega)
        | sliceUp h1 h2 h3 h4 h5 =>
          obtain ⟨rfl, rfl⟩ := up_inj h1 e2 e1
          exact .sliceG e3 e2 h2 h3 (by omega) (hs _ _ hb _ h5)
      · exact (got_fail g).elim
    · exact (got_fail g).elim

theorem canT_sound (hs : Sub π ρ ρ') {s : T Value} {tmps : Array Value} (hT : TR ρ s tmps) : ∀ {l : List (Nat × CanT)} {t t' : T Value}, Got D (canT π s l t) t' → TR ρ' t tmps → TR ρ' t' tmps
  | [], t, t', g, h => by rw [got_pure g]; exact h
  | (k, c) :: r, t, t', g, h => by
    unfold canT at g
    split at g
    · rename_i v hv
      obtain ⟨u, k1, g⟩ := got_bind g
      refine canT_sound hs hT g (fun j x e => ?_)
      rw [T.get_put] at e
      split at e
      · rename_i hj
        subst hj
        cases e
        obtain ⟨v', e', r'⟩ := hT _ v hv
        exact ⟨v', e', canT1_sound hs k1 r'⟩
      · exact h j x e
    · exact (got_fail g).elim

theorem flatCells_OR {c : List Value} {cs : Array Value} (hf : c.all flatCell = true) (h : ∀ (i : Nat) v, c[i]? = some v → ∃ v', cs[i]? = some v' ∧ VR ρ v v') : ∀ (i : Nat) v, c[i]? = some v → ∃ v', cs[i]? = some v' ∧ VR ρ' v v' := by
  intro i v hv
  obtain ⟨v', e, r⟩ := h i v hv
  have hfc : flatCell v = true := List.all_eq_true.1 hf v (List.mem_of_getElem? hv)
  rw [flatCell_eq hfc r] at e
  exact ⟨v, e, flatCell_VR _ hfc⟩

theorem flatCells_ROR {c : List Value} {cs : Array Value} (hf : c.all flatCell = true) (h : ∀ (i : Nat) v, c[i]? = some v → isDead v = false → ∃ v', cs[i]? = some v' ∧ VR ρ v v') : ∀ (i : Nat) v, c[i]? = some v → isDead v = false → ∃ v', cs[i]? = some v' ∧ VR ρ' v v' := by
  intro i v hv hd
  obtain ⟨v', e, r⟩ := h i v hv hd
  have hfc : flatCell v = true := List.all_eq_true.1 hf v (List.mem_of_getElem? hv)
  rw [flatCell_eq hfc r] at e
  exact ⟨v, e, flatCell_VR _ hfc⟩

theorem dead_ren {v u : Value} (hv : isDead v = true) (h : ren1 π v = some u) : isDead u = true := by
  cases v <;> first | (cases hv; done) | skip
  cases h
  exact hv
theorem mapO_ROR (hs : Sub π ρ ρ') {c c' : List Value} (hm : mapO (ren1 π) c = some c') {cs : Array Value} (h : ∀ (i : Nat) v, c[i]? = some v → isDead v = false → ∃ v', cs[i]? = some v' ∧ VR ρ v v') : ∀ (i : Nat) v, c'[i]? = some v → isDead v = false → ∃ v', cs[i]? = some v' ∧ VR ρ' v v' := by
  intro i u hu hd
  obtain ⟨x, hx, hfx⟩ := (mapO_some hm).2 i u hu
  obtain ⟨v', e, r⟩ := h i x hx (by
    cases hq : isDead x with
    | false => rfl
    | true => rw [dead_ren hq hfx] at hd; cases hd)
  exact ⟨v', e, ren1_sound hs hfx r⟩

theorem mapO_OR (hs : Sub π ρ ρ') {c c' : List Value} (hm : mapO (ren1 π) c = some c') {cs : Array Value} (h : ∀ (i : Nat) v, c[i]? = some v → ∃ v', cs[i]? = some v' ∧ VR ρ v v') : ∀ (i : Nat) v, c'[i]? = some v → ∃ v', cs[i]? = some v' ∧ VR ρ' v v' := by
  intro i u hu
  obtain ⟨x, hx, hfx⟩ := (mapO_some hm).2 i u hu
  obtain ⟨v', e, r⟩ := h i x hx
  exact ⟨v', e, ren1_sound hs hfx r⟩

/-- An object that is kept. -/
theorem canO_sound (hs : Sub π ρ ρ') {h : AHeap} {b : CanB} {o : AObj} (g : Got D (canO π h b) o) {n p : Nat} (hp : (n, p) ∈ b.pair n) : ∃ x, h.get p = some x ∧ (∀ N o', OR ρ N x o' → OR ρ' N o o') ∧ isW (some x) = isW (some o) := by
  unfold canO at g
  split at g
  · cases hp
  · simp only [CanB.pair, List.mem_singleton, Prod.mk.injEq, true_and] at hp
    subst hp
    split at g
    · rename_i hg
      obtain ⟨t, k1, g⟩ := got_bind g
      have e := got_askB k1
      cases t with
      | true =>
        rw [got_pure g]
        refine ⟨_, hg, fun N o' r => ?_, rfl⟩
        cases r with
        | cells a c d => exact .cells (flatCells_OR e.symm a) c d
      | false => exact (got_fail g).elim
    · rename_i hg
      obtain ⟨t, k1, g⟩ := got_bind g
      have e := got_askB k1
      cases t with
      | true =>
        rw [got_pure g]
        refine ⟨_, hg, fun N o' r => ?_, rfl⟩
        cases r with
        | ro a => exact .ro (flatCells_ROR e.symm a)
      | false => exact (got_fail g).elim
    · rename_i hg
      obtain ⟨t, k1, g⟩ := got_bind g
      have e := got_askB k1
      cases t with
      | true =>
        rw [got_pure g]
        refine ⟨_, hg, fun N o' r => ?_, rfl⟩
        cases r with
        | map a c =>
          refine .map a (fun i x y hx hy => ?_)
          obtain ⟨q1, q2, q3, q4⟩ := c i x y hx hy
          have hfl := List.all_eq_true.1 e.symm x (List.mem_of_getElem? hx)
          exact ⟨q1, q2, by rw [flat_eq hfl q3]; exact flat_VR _ hfl, q4⟩
      | false => exact (got_fail g).elim
    · rename_i hg
      rw [got_pure g]
      refine ⟨_, hg, fun N o' r => ?_, rfl⟩
      cases r
      exact .strIter
    · exact (got_fail g).elim
  · simp only [CanB.pair, List.mem_singleton, Prod.mk.injEq, true_and] at hp
    subst hp
    split at g
    · rename_i hg
      split at g
      · rename_i hm
        rw [got_pure g]
        refine ⟨_, hg, fun N o' r => ?_, rfl⟩
        cases r with
        | cells a c d => exact .cells (mapO_OR hs hm a) c d
      · exact (got_fail g).elim
    · rename_i hg
      split at g
      · rename_i hm
        rw [got_pure g]
        refine ⟨_, hg, fun N o' r => ?_, rfl⟩
        cases r with
        | ro a => exact .ro (mapO_ROR hs hm a)
      · exact (got_fail g).elim
    · rename_i hg
      split at g
      · rename_i hm
        rw [got_pure g]
        refine ⟨_, hg, fun N o' r => ?_, rfl⟩
        cases r with
        | mapIter e => exact .mapIter (hs _ _ hm _ e)
      · exact (got_fail g).elim
    · rename_i hg
      rw [got_pure g]
      refine ⟨_, hg, fun N o' r => ?_, rfl⟩
      cases r
      exact .mapIter0
    · rename_i hg
      rw [got_pure g]
      refine ⟨_, hg, fun N o' r => ?_, rfl⟩
      cases r
      exact .defers
    · rename_i hg
      rw [got_pure g]
      refine ⟨_, hg, fun N o' r => ?_, rfl⟩
      cases r
      exact .closed
    · exact (got_fail g).elim
  · simp only [CanB.pair, List.mem_singleton, Prod.mk.injEq, true_and] at hp
    subst hp
    split at g
    · rename_i hg
      obtain ⟨t, k1, g⟩ := got_bind g
      split at g
      · rename_i d' hd
        rw [got_pure g]
        refine ⟨_, hg, fun N o' r => ?_, rfl⟩
        cases r with
        | loop a c d e => exact .loop (canT_sound hs a k1 (fun j x e => by cases e)) trivial d (hs _ _ hd _ e)
      · exact (got_fail g).elim
    · exact (got_fail g).elim

theorem nodupB_cons {x : Nat} {r : List Nat} (h : nodupB (x :: r) = true) : x ∉ r ∧ nodupB r = true := by
  unfold nodupB at h
  rw [Bool.and_eq_true] at h
  refine ⟨fun hm => ?_, h.2⟩
  have := List.all_eq_true.1 h.1 x hm
  rw [Nat.beq_refl] at this
  cases this

/-- The heap that comes out: each block is one that was kept, or a dummy. -/
theorem canH_sound {h : AHeap} : ∀ {l : List (Nat × CanB)} {m m' : T AObj}, Got D (canH π h l m) m' → nodupB (l.map (·.1)) = true → (∀ n, n ∈ l.map (·.1) → m.get n = none) →
    ∀ n o, m'.get n = some o → m.get n = some o ∨ ∃ b, (n, b) ∈ l ∧ Got D (canO π h b) o
  | [], m, m', g, _, _, n, o, e => by rw [got_pure g] at e; exact .inl e
  | (k, b) :: r, m, m', g, hnd, hm, n, o, e => by
    unfold canH at g
    obtain ⟨x, k1, g⟩ := got_bind g
    obtain ⟨h1, h2⟩ := nodupB_cons hnd
    have := canH_sound g h2 (fun j hj => by
      rw [T.get_put, if_neg (by rintro rfl; exact h1 hj)]
      exact hm j (List.mem_cons_of_mem _ hj)) n o e
    rcases this with q | ⟨b', q1, q2⟩
    · rw [T.get_put] at q
      split at q
      · rename_i hn
        subst hn
        cases q
        exact .inr ⟨b, List.mem_cons_self, k1⟩
      · exact .inl q
    · exact .inr ⟨b', List.mem_cons_of_mem _ q1, q2⟩

/-- And each that was to be kept is there. -/
theorem canH_has {h : AHeap} : ∀ {l : List (Nat × CanB)} {m m' : T AObj}, Got D (canH π h l m) m' → nodupB (l.map (·.1)) = true →
    (∀ n, n ∉ l.map (·.1) → m'.get n = m.get n) ∧ ∀ n b, (n, b) ∈ l → ∃ o, m'.get n = some o ∧ Got D (canO π h b) o
  | [], m, m', g, _ => ⟨fun n _ => by rw [got_pure g], fun n b hb => by cases hb⟩
  | (k, b) :: r, m, m', g, hnd => by
    unfold canH at g
    obtain ⟨x, k1, g⟩ := got_bind g
    obtain ⟨h1, h2⟩ := nodupB_cons hnd
    obtain ⟨a1, a2⟩ := canH_has g h2
    refine ⟨fun n hn => ?_, fun n b' hb => ?_⟩
    · rw [a1 n (fun hh => hn (List.mem_cons_of_mem _ hh)), T.get_put, if_neg (by rintro rfl; exact hn List.mem_cons_self)]
    · rcases List.mem_cons.1 hb with q | q
      · cases q
        exact ⟨x, by rw [a1 _ h1, T.get_put, if_pos rfl], k1⟩
      · exact a2 n b' q

theorem lookA_mem : ∀ {l : List (Nat × Nat)} {k y : Nat}, lookA l k = some y → (k, y) ∈ l
  | [], k, y, h => by cases h
  | (x, z) :: r, k, y, h => by
    unfold lookA at h
    split at h
    · rename_i hb
      cases h
      rw [Nat.eq_of_beq_eq_true hb]
      exact List.mem_cons_self
    · exact List.mem_cons_of_mem _ (lookA_mem h)
theorem lookA_of : ∀ {l : List (Nat × Nat)} {k y : Nat}, nodupB (l.map (·.1)) = true → (k, y) ∈ l → lookA l k = some y
  | (x, z) :: r, k, y, hnd, h => by
    obtain ⟨h1, h2⟩ := nodupB_cons hnd
    unfold lookA
    rcases List.mem_cons.1 h with q | q
    · cases q
      rw [Nat.beq_refl]
    · have : Nat.beq x k = false := by
        cases hb : Nat.beq x k with
        | false => rfl
        | true =>
          exfalso
          apply h1
          rw [Nat.eq_of_beq_eq_true hb]
          exact List.mem_map.2 ⟨(k, y), q, rfl⟩
      rw [this]
      exact lookA_of h2 q

theorem mem_pairs : ∀ {l : List (Nat × CanB)} {n p : Nat}, (n, p) ∈ pairs l ↔ ∃ b, (n, b) ∈ l ∧ (n, p) ∈ b.pair n
  | [], n, p => by simp [pairs]
  | (k, b) :: r, n, p => by
    unfold pairs
    rw [List.mem_append, mem_pairs (l := r)]
    constructor
    · rintro (h | ⟨b', h1, h2⟩)
      · have : k = n := by cases b <;> simp [CanB.pair] at h <;> exact h.1.symm
        subst this
        exact ⟨b, List.mem_cons_self, h⟩
      · exact ⟨b', List.mem_cons_of_mem _ h1, h2⟩
    · rintro ⟨b', h1, h2⟩
      rcases List.mem_cons.1 h1 with q | q
      · cases q; exact .inl h2
      · exact .inr ⟨b', q, h2⟩

theorem nodup_pairs : ∀ {l : List (Nat × CanB)}, nodupB (l.map (·.1)) = true → nodupB ((pairs l).map (·.1)) = true
  | [], _ => rfl
  | (k, b) :: r, h => by
    obtain ⟨h1, h2⟩ := nodupB_cons h
    have ih := nodup_pairs h2
    have hk : k ∉ (pairs r).map (·.1) := by
      intro hm
      obtain ⟨⟨a, c⟩, hp, e⟩ := List.mem_map.1 hm
      dsimp only at e
      subst e
      obtain ⟨b', q, _⟩ := mem_pairs.1 hp
      exact h1 (List.mem_map.2 ⟨_, q, rfl⟩)
    unfold pairs
    have key : ∀ x, nodupB (x :: (pairs r).map (·.1)) = true ↔ x ∉ (pairs r).map (·.1) ∧ nodupB ((pairs r).map (·.1)) = true := by
      intro x
      constructor
      · exact nodupB_cons
      · rintro ⟨a, c⟩
        unfold nodupB
        rw [c, Bool.and_true, List.all_eq_true]
        intro y hy
        cases hb : Nat.beq x y with
        | false => rfl
        | true => rw [Nat.eq_of_beq_eq_true hb] at a; exact absurd hy a
    cases b <;> first | exact (key k).2 ⟨hk, ih⟩ | exact ih

theorem mapO_MR (hs : Sub π ρ ρ') : ∀ {ms ms' : List Nat} {ds : List Deferred}, mapO π ms = some ms' → MR ρ ms ds → MR ρ' ms' ds
  | [], ms', ds, h, k => by cases h; exact k
  | m :: ms, ms', ds, h, ⟨c, N, ds', k1, k2, k3⟩ => by
    unfold mapO at h
    split at h
    · rename_i y hy
      split at h
      · rename_i ys hys
        cases h
        exact ⟨c, N, ds', hs _ _ hy _ k1, k2, mapO_MR hs hys k3⟩
      · cases h
    · cases h

theorem canX_sound {base : Nat} {sp : Can} {s s' : ASt} (g : Got D (canX base sp s) s') {h0 : AHeap} (hb : h0.next = base) : Le h0 s s' := by
  unfold canX at g
  split at g
  · rename_i hok
    obtain ⟨m, k1, g⟩ := got_bind g
    obtain ⟨t, k2, g⟩ := got_bind g
    split at g
    · rename_i ms hms
      have e := got_pure g
      subst e
      clear g
      simp only [canOk, Bool.and_eq_true] at hok
      obtain ⟨⟨⟨⟨⟨o1, o2⟩, o3⟩, o4⟩, o5⟩, o6⟩ := hok
      have hnP := nodup_pairs o1
      have hnS : nodupB ((swapP (pairs sp.blocks)).map (·.1)) = true := by
        have : (swapP (pairs sp.blocks)).map (·.1) = (pairs sp.blocks).map (·.2) := by simp [swapP]
        rw [this]; exact o2
      have fwd : ∀ o n, lookA (swapP (pairs sp.blocks)) o = some n ↔ (n, o) ∈ pairs sp.blocks := by
        intro o n
        constructor
        · intro h
          have := lookA_mem h
          simp only [swapP, List.mem_map, Prod.mk.injEq] at this
          obtain ⟨⟨a, c⟩, q1, q2, q3⟩ := this
          dsimp only at q2 q3
          subst q2; subst q3
          exact q1
        · intro h
          exact lookA_of hnS (by simp only [swapP, List.mem_map, Prod.mk.injEq]; exact ⟨(n, o), h, rfl, rfl⟩)
      have bwd : ∀ n o, lookA (pairs sp.blocks) n = some o ↔ (n, o) ∈ pairs sp.blocks := fun n o => ⟨lookA_mem, lookA_of hnP⟩
      have range : ∀ n o, (n, o) ∈ pairs sp.blocks → (n = o ∧ n < base) ∨ (base ≤ n ∧ base ≤ o) := by
        intro n o hm
        have := List.all_eq_true.1 o5 (n, o) hm
        simp only [Bool.or_eq_true, Bool.and_eq_true] at this
        rcases this with ⟨a, c⟩ | ⟨a, c⟩
        · exact .inl ⟨Nat.eq_of_beq_eq_true a, by simpa [Nat.blt_eq] using c⟩
        · exact .inr ⟨Nat.le_of_ble_eq_true a, Nat.le_of_ble_eq_true c⟩
      have low : ∀ b, b < base → (b, CanB.flat b) ∈ sp.blocks := by
        intro b hlt
        have := List.all_eq_true.1 o6 b (List.mem_range.2 hlt)
        obtain ⟨⟨n, c⟩, h1, h2⟩ := List.any_eq_true.1 this
        unfold isFlat0 at h2
        split at h2
        · rename_i n' o heq
          cases heq
          rw [Bool.and_eq_true] at h2
          rw [Nat.eq_of_beq_eq_true h2.1, Nat.eq_of_beq_eq_true h2.2] at h1
          exact h1
        · cases h2
      have lowP : ∀ b, b < base → (b, b) ∈ pairs sp.blocks := fun b hlt => mem_pairs.2 ⟨_, low b hlt, by simp [CanB.pair]⟩
      have lt : ∀ n o, (n, o) ∈ pairs sp.blocks → n < sp.next := by
        intro n o hm
        obtain ⟨b, q, _⟩ := mem_pairs.1 hm
        have := List.all_eq_true.1 o3 _ q
        simpa [Nat.blt_eq] using this
      have ltB : ∀ n b, (n, b) ∈ sp.blocks → n < sp.next := by
        intro n b hm
        have := List.all_eq_true.1 o3 _ hm
        simpa [Nat.blt_eq] using this
      have hle := Nat.le_of_ble_eq_true o4
      rintro ρ0 w0 a w ht ⟨ρ, A, hT, hM⟩
      let ρ2 : Ren := fun n => (lookA (pairs sp.blocks) n).bind ρ
      have r2 : ∀ n x, ρ2 n = some x ↔ ∃ o, (n, o) ∈ pairs sp.blocks ∧ ρ o = some x := by
        intro n x
        show (lookA (pairs sp.blocks) n).bind ρ = some x ↔ _
        rw [Option.bind_eq_some_iff]
        constructor
        · rintro ⟨o, q1, q2⟩; exact ⟨o, (bwd n o).1 q1, q2⟩
        · rintro ⟨o, q1, q2⟩; exact ⟨o, (bwd n o).2 q1, q2⟩
      have hs : Sub (lookA (swapP (pairs sp.blocks))) ρ ρ2 := fun o n h x hx => (r2 n x).2 ⟨o, (fwd o n).1 h, hx⟩
      have lowEq : ∀ b, b < base → ∀ x, ρ2 b = some x ↔ ρ b = some x := by
        intro b hlt x
        rw [r2]
        constructor
        · rintro ⟨o, q1, q2⟩
          rcases range b o q1 with ⟨e, _⟩ | ⟨e, _⟩
          · rw [e]; exact q2
          · omega
        · intro h; exact ⟨b, lowP b hlt, h⟩
      have tl : ∀ b x, ρ0 b = some x → b < base := by
        intro b x h
        rcases Nat.lt_or_ge b base with q | q
        · exact q
        · rw [ht.t b (by omega)] at h; cases h
      have getm : ∀ b, ({ m := m, next := sp.next, low := s.heap.low } : AHeap).get b = if b < sp.next then m.get b else none := fun b => AHeap.get_def _ b
      have sound := canH_sound k1 o1 (fun n _ => rfl)
      have has := (canH_has k1 o1).2
      have live' : ∀ b o, m.get b = some o → ∀ c N, ρ2 b = some (c, N) → ∃ p x, (b, p) ∈ pairs sp.blocks ∧ ρ p = some (c, N) ∧ s.heap.get p = some x ∧ (∀ N o', OR ρ N x o' → OR ρ2 N o o') ∧ isW (some x) = isW (some o) := by
        intro b o hg c N hc
        obtain ⟨p, q1, q2⟩ := (r2 b _).1 hc
        obtain ⟨cb, q3, q4⟩ := mem_pairs.1 q1
        obtain ⟨o', q5, q6⟩ := has b cb q3
        rw [hg] at q5
        cases q5
        obtain ⟨x, q7, q8, q9⟩ := canO_sound hs q6 q4
        exact ⟨p, x, q1, q2, q7, q8, q9⟩
      refine ⟨ρ2, ⟨?_, ?_, ?_, A.low, ⟨?_, ?_, ?_⟩, A.os, A.tape, A.output, A.size, ?_, A.frame, ?_⟩, canT_sound hs hT k2 (fun j x e => by cases e), mapO_MR hs hms hM⟩
      · intro b x h
        exact (lowEq b (tl b x h) x).2 (A.ext b x h)
      · intro b c N h
        obtain ⟨o, q1, q2⟩ := (r2 b _).1 h
        rcases range b o q1 with ⟨e1, e2⟩ | ⟨e1, e2⟩
        · subst e1
          rcases A.new b c N q2 with f | ⟨f, _⟩
          · exact .inl f
          · omega
        · rcases A.new o c N q2 with f | ⟨_, _, f⟩
          · have := tl o _ f; omega
          · exact .inr ⟨by omega, lt _ _ q1, f⟩
      · show h0.next ≤ sp.next; omega
      · intro b o hg c N hc
        rw [getm] at hg
        split at hg
        · obtain ⟨p, x, q1, q2, q3, q4, _⟩ := live' b o hg c N hc
          obtain ⟨o', f1, f2⟩ := A.rel.obj p x q3 c N q2
          exact ⟨o', f1, q4 N o' f2⟩
        · cases hg
      · intro b b' c N N' lb lb' hc hc'
        have conv : ∀ b c N, live ({ m := m, next := sp.next, low := s.heap.low } : AHeap) b → ρ2 b = some (c, N) → ∃ p, (b, p) ∈ pairs sp.blocks ∧ ρ p = some (c, N) ∧ live s.heap p := by
          intro b c N lb hc
          obtain ⟨p, q1, q2⟩ := (r2 b _).1 hc
          have hlt := lt _ _ q1
          rcases lb with q | q
          · have : sp.next ≤ b := q
            omega
          · rw [getm, if_pos hlt] at q
            obtain ⟨o, ho⟩ := Option.isSome_iff_exists.1 q
            obtain ⟨p', x, f1, f2, f3, _, _⟩ := live' b o ho c N hc
            exact ⟨p', f1, f2, .inr (by rw [f3]; rfl)⟩
        have conw : ∀ b c N, wr ({ m := m, next := sp.next, low := s.heap.low } : AHeap) b → ρ2 b = some (c, N) → ∃ p, (b, p) ∈ pairs sp.blocks ∧ ρ p = some (c, N) ∧ wr s.heap p := by
          intro b c N lb hc
          obtain ⟨p, q1, q2⟩ := (r2 b _).1 hc
          have hlt := lt _ _ q1
          rcases lb with q | q
          · have : sp.next ≤ b := q
            omega
          · rw [getm, if_pos hlt] at q
            cases ho : m.get b with
            | none => rw [ho] at q; cases q
            | some o =>
              obtain ⟨p', x, f1, f2, f3, _, f4⟩ := live' b o ho c N hc
              exact ⟨p', f1, f2, .inr (by rw [f3, f4, ← ho]; exact q)⟩
        obtain ⟨p, q1, q2, q3⟩ := conv b c N lb hc
        obtain ⟨p', q1', q2', q3'⟩ := conw b' c N' lb' hc'
        have hpp := A.rel.inj p p' c N N' q3 q3' q2 q2'
        subst hpp
        have f1 := (fwd p b).2 q1
        have f2 := (fwd p b').2 q1'
        rw [f1] at f2
        cases f2
        rfl
      · intro b c N h
        obtain ⟨o, q1, q2⟩ := (r2 b _).1 h
        exact A.rel.lt o c N q2
      · intro b h1 _
        exact ht.t b h1
      · intro b h1 h2
        rw [getm, if_pos (by omega)]
        obtain ⟨o, q1, q2⟩ := has b _ (low b (by omega))
        rw [q1, ← A.keep b h1 h2]
        unfold canO at q2
        dsimp only at q2
        split at q2
        · rename_i hg
          obtain ⟨tt, j1, q2⟩ := got_bind q2
          cases tt with
          | true => rw [hg, got_pure q2]
          | false => exact (got_fail q2).elim
        · rename_i hg
          obtain ⟨tt, j1, q2⟩ := got_bind q2
          cases tt with
          | true => rw [hg, got_pure q2]
          | false => exact (got_fail q2).elim
        · rename_i hg
          obtain ⟨tt, j1, q2⟩ := got_bind q2
          cases tt with
          | true => rw [hg, got_pure q2]
          | false => exact (got_fail q2).elim
        · rename_i hg
          rw [hg, got_pure q2]
        · exact (got_fail q2).elim
    · exact (got_fail g).elim
  · exact (got_fail g).elim
end
end Go.Proofs.YtlkhpgocbojdgaaGreatDoor.Ai

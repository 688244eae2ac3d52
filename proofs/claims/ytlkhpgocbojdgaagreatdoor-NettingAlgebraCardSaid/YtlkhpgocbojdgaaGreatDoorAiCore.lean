/-
  THE EVALUATOR's MEMORY IS FOLLOWED: a value without addresses; operands; cells read, cells written; a new block; a block written over.
-/
import Derived.Test.YtlkhpgocbojdgaaGreatDoorAiRel
import Derived.Laws.IdiomCopy
namespace Go.Proofs.YtlkhpgocbojdgaaGreatDoor.Ai
open Go

/-- What the tables say is what the program says. -/
structure Env.Ok (E : Env) : Prop where
  fn : ∀ f fn, E.fn.get f = some fn → E.P.funcs[f]? = some fn
  ty : ∀ t i, E.ty.get t = some i → E.P.underlying t = some i.desc ∧ flat i.zero = true ∧ i.zero.cells.size = i.size ∧ ∃ ti, E.P.info? t = some ti ∧ ti.zero = some i.zero ∧ ti.size = i.size ∧ ti.bytes = i.bytes
  mixed : E.P.follows .mixedOrders = true

/-! ### Values without addresses -/
theorem flatCell_VR (ρ : Ren) {v : Value} (h : flatCell v = true) : VR ρ v v := by
  unfold flatCell at h
  split at h
  · exact .bool _
  · exact .int _ _
  · exact .string _
  · exact .float _ _
  · exact .nilIface
  · exact .nilFunc
  · exact .ptrNil
  · exact .mapNil
  · exact .sliceNil _ _
  · cases h

theorem flatCells_VR (ρ : Ren) {l : List Value} (h : l.all flatCell = true) : ∀ (i : Nat) v v', l[i]? = some v → l[i]? = some v' → VR ρ v v' := by
  intro i v v' e e'
  rw [e] at e'
  cases e'
  exact flatCell_VR ρ (List.all_eq_true.1 h v (List.mem_of_getElem? e))

theorem flat_VR (ρ : Ren) {v : Value} (h : flat v = true) : VR ρ v v := by
  unfold flat at h
  split at h
  · rename_i cs
    obtain ⟨l⟩ := cs
    exact .agg rfl (flatCells_VR ρ h)
  · rename_i vs
    obtain ⟨l⟩ := vs
    refine .tuple rfl fun i v v' e e' => ?_
    rw [e] at e'
    cases e'
    have hv := List.all_eq_true.1 h v (List.mem_of_getElem? e)
    split at hv
    · rename_i cs
      obtain ⟨l2⟩ := cs
      exact .agg rfl (flatCells_VR ρ hv)
    · exact flatCell_VR ρ hv
  · exact flatCell_VR ρ h

theorem flatCell_eq {ρ : Ren} {v v' : Value} (h : flatCell v = true) (r : VR ρ v v') : v' = v := by
  cases r <;> first | rfl | (simp [flatCell] at h)

theorem flatCells_eq {ρ : Ren} {xs ys : List Value} (h : xs.all flatCell = true) (hl : xs.length = ys.length) (r : ∀ (i : Nat) v v', xs[i]? = some v → ys[i]? = some v' → VR ρ v v') : ys = xs := by
  apply List.ext_getElem?
  intro i
  cases hx : xs[i]? with
  | none =>
    rw [List.getElem?_eq_none_iff] at hx ⊢
    omega
  | some v =>
    have hi : i < ys.length := by have := (List.getElem?_eq_some_iff.1 hx).1; omega
    rw [List.getElem?_eq_getElem hi]
    rw [flatCell_eq (List.all_eq_true.1 h v (List.mem_of_getElem? hx)) (r i v _ hx (List.getElem?_eq_getElem hi))]

theorem flat_eq {ρ : Ren} {v v' : Value} (h : flat v = true) (r : VR ρ v v') : v' = v := by
  cases r with
  | agg hl r => rw [flatCells_eq h hl r]
  | tuple hl r =>
    rename_i xs ys
    have : ys = xs := by
      apply List.ext_getElem?
      intro i
      cases hx : xs[i]? with
      | none =>
        rw [List.getElem?_eq_none_iff] at hx ⊢
        omega
      | some v =>
        have hi : i < ys.length := by have := (List.getElem?_eq_some_iff.1 hx).1; omega
        have rr := r i v _ hx (List.getElem?_eq_getElem hi)
        have hv := List.all_eq_true.1 h v (List.mem_of_getElem? hx)
        rw [List.getElem?_eq_getElem hi]
        generalize ys[i] = y at rr
        cases rr with
        | agg hl2 r2 => rw [flatCells_eq hv hl2 r2]
        | tuple => simp [flatCell] at hv
        | _ => first | rfl | simp [flatCell] at hv
    rw [this]
  | _ => first | rfl | (simp [flat, flatCell] at h)

theorem flats_eq {ρ : Ren} {xs ys : List Value} (h : xs.all flat = true) (r : LR ρ xs ys) : ys = xs := by
  apply List.ext_getElem?
  intro i
  cases hx : xs[i]? with
  | none =>
    rw [List.getElem?_eq_none_iff] at hx ⊢
    have := r.1
    omega
  | some v =>
    have hi : i < ys.length := by have := (List.getElem?_eq_some_iff.1 hx).1; have := r.1; omega
    rw [List.getElem?_eq_getElem hi]
    rw [flat_eq (List.all_eq_true.1 h v (List.mem_of_getElem? hx)) (r.2 i v _ hx (List.getElem?_eq_getElem hi))]

theorem oneCell_eq {ρ : Ren} {v v' : Value} (r : VR ρ v v') : v'.oneCell' = v.oneCell' := by cases r <;> rfl

/-! ### Lists that correspond -/
theorem LR.nil (ρ : Ren) : LR ρ [] [] := ⟨rfl, fun _ _ _ h => by simp at h⟩
theorem LR.cons {ρ : Ren} {v v' : Value} {xs ys : List Value} (h : VR ρ v v') (k : LR ρ xs ys) : LR ρ (v :: xs) (v' :: ys) := by
  refine ⟨by simp [k.1], fun i a b ea eb => ?_⟩
  cases i with
  | zero => simp at ea eb; subst ea; subst eb; exact h
  | succ i => exact k.2 i a b (by simpa using ea) (by simpa using eb)
theorem LR.append {ρ : Ren} {xs ys xs' ys' : List Value} (h : LR ρ xs ys) (k : LR ρ xs' ys') : LR ρ (xs ++ xs') (ys ++ ys') := by
  refine ⟨by simp [h.1, k.1], fun i a b ea eb => ?_⟩
  rw [List.getElem?_append] at ea eb
  rw [← h.1] at eb
  by_cases hi : i < xs.length
  · rw [if_pos hi] at ea eb; exact h.2 i a b ea eb
  · rw [if_neg hi] at ea eb; exact k.2 _ a b ea eb
theorem LR.take {ρ : Ren} {xs ys : List Value} (h : LR ρ xs ys) (n : Nat) : LR ρ (xs.take n) (ys.take n) := by
  refine ⟨by simp [h.1], fun i a b ea eb => ?_⟩
  rw [List.getElem?_take] at ea eb
  split at ea
  · rename_i hi; rw [if_pos hi] at eb; exact h.2 i a b ea eb
  · cases ea
theorem LR.drop {ρ : Ren} {xs ys : List Value} (h : LR ρ xs ys) (n : Nat) : LR ρ (xs.drop n) (ys.drop n) := by
  refine ⟨by simp [h.1], fun i a b ea eb => ?_⟩
  rw [List.getElem?_drop] at ea eb
  exact h.2 _ a b ea eb
theorem LR.one {ρ : Ren} {v : Value} {ys : List Value} (h : LR ρ [v] ys) : ∃ v', ys = [v'] ∧ VR ρ v v' := by
  have hl := h.1
  match ys, hl with
  | [v'], _ => exact ⟨v', rfl, h.2 0 _ _ rfl rfl⟩
theorem LR.flat {ρ : Ren} {l : List Value} (h : l.all flatCell = true) : LR ρ l l := ⟨rfl, flatCells_VR ρ h⟩
theorem LR.get {ρ : Ren} {xs ys : List Value} (h : LR ρ xs ys) {i : Nat} {v : Value} (e : xs[i]? = some v) : ∃ v', ys[i]? = some v' ∧ VR ρ v v' := by
  have hi : i < ys.length := by have := (List.getElem?_eq_some_iff.1 e).1; have := h.1; omega
  exact ⟨_, List.getElem?_eq_getElem hi, h.2 i v _ e (List.getElem?_eq_getElem hi)⟩
theorem VR.cells {ρ : Ren} {v v' : Value} (h : VR ρ v v') : LR ρ v.cells.toList v'.cells.toList := by
  cases h with
  | agg hl r => exact ⟨hl, r⟩
  | bool b => exact (LR.nil ρ).cons (.bool b)
  | int k n => exact (LR.nil ρ).cons (.int k n)
  | float k n => exact (LR.nil ρ).cons (.float k n)
  | string s => exact (LR.nil ρ).cons (.string s)
  | nilIface => exact (LR.nil ρ).cons .nilIface
  | nilFunc => exact (LR.nil ρ).cons .nilFunc
  | ptrNil => exact (LR.nil ρ).cons .ptrNil
  | mapNil => exact (LR.nil ρ).cons .mapNil
  | sliceNil n c => exact (LR.nil ρ).cons (.sliceNil n c)
  | ptr e => exact (LR.nil ρ).cons (.ptr e)
  | slice a e => exact (LR.nil ρ).cons (.slice a e)
  | sliceUp a b c d e => exact (LR.nil ρ).cons (.sliceUp a b c d e)
  | sliceUn => exact (LR.nil ρ).cons .sliceUn
  | sliceG a0 a1 a2 a3 a4 e => exact (LR.nil ρ).cons (.sliceG a0 a1 a2 a3 a4 e)
  | sliceG0 => exact (LR.nil ρ).cons .sliceG0
  | map e => exact (LR.nil ρ).cons (.map e)
  | func a b c d e => exact (LR.nil ρ).cons (.func a b c d e)
  | iface e => exact (LR.nil ρ).cons (.iface e)
  | tuple a b => exact (LR.nil ρ).cons (.tuple a b)

theorem slice?_some {l r : List Value} {off n : Nat} (h : slice? l off n = some r) : r = (l.drop off).take n ∧ r.length = n := by
  unfold slice? at h
  dsimp only at h
  split at h
  · rename_i hb
    cases h
    exact ⟨rfl, Nat.eq_of_beq_eq_true hb⟩
  · cases h
theorem splice_some {l news r : List Value} {off : Nat} (h : splice l off news = some r) : off + news.length ≤ l.length ∧ r = l.take off ++ news ++ l.drop (off + news.length) := by
  unfold splice at h
  split at h
  · rename_i hb
    cases h
    exact ⟨Nat.le_of_ble_eq_true hb, rfl⟩
  · cases h
theorem LR.slice? {ρ : Ren} {xs ys r : List Value} {off n : Nat} (h : LR ρ xs ys) (e : slice? xs off n = some r) : Ai.slice? ys off n = some ((ys.drop off).take n) ∧ LR ρ r ((ys.drop off).take n) := by
  obtain ⟨rfl, hl⟩ := slice?_some e
  have hL := (h.drop off).take n
  refine ⟨?_, hL⟩
  unfold Ai.slice?
  dsimp only
  rw [show Nat.beq ((List.take n (List.drop off ys)).length) n = true from by rw [← hL.1, hl]; exact Nat.beq_refl n]
theorem LR.splice {ρ : Ren} {xs ys news news' r : List Value} {off : Nat} (h : LR ρ xs ys) (k : LR ρ news news') (e : splice xs off news = some r) :
    ∃ r', Ai.splice ys off news' = some r' ∧ LR ρ r r' := by
  obtain ⟨hl, rfl⟩ := splice_some e
  refine ⟨ys.take off ++ news' ++ ys.drop (off + news'.length), ?_, ?_⟩
  · unfold Ai.splice
    rw [show Nat.ble (off + news'.length) ys.length = true from Nat.ble_eq_true_of_le (by have := h.1; have := k.1; omega)]
  · rw [← k.1]
    exact ((h.take off).append k).append (h.drop _)

/-! ### Operands -/
theorem evalO_sound {ρ : Ren} {s : T Value} {a : Act} (hT : TR ρ s a.tmps) {x : Operand} {v : Value} (h : evalO s x = some v) : VR ρ v (a.eval x) := by
  cases x with
  | tmp t =>
    obtain ⟨v', e, r⟩ := hT t v h
    have : a.eval (.tmp t) = v' := by simp [Act.eval, Array.getD_eq_getD_getElem?, e]
    rw [this]
    exact r
  | const c =>
    unfold evalO at h
    dsimp only at h
    split at h
    · rename_i hf
      cases h
      exact flat_VR ρ hf
    · cases h
  | func f =>
    cases h
    exact .func (.same fun _ e => by cases e) rfl (fun i v v' e => by simp at e) rfl (fun i v v' e => by simp at e)
  | global g => cases h

theorem evalL_sound {ρ : Ren} {s : T Value} {a : Act} (hT : TR ρ s a.tmps) : ∀ (xs : List Operand) {vs : List Value}, evalL s xs = some vs → LR ρ vs (xs.map a.eval)
  | [], vs, h => by cases h; exact LR.nil ρ
  | x :: xs, vs, h => by
    unfold evalL at h
    split at h
    · rename_i v hv
      cases hr : evalL s xs with
      | none => rw [hr] at h; cases h
      | some r =>
        rw [hr] at h
        cases h
        exact (evalL_sound hT xs hr).cons (evalO_sound hT hv)
    · cases h

/-- Parts of a literal: the same places, values that correspond. -/
def PR (ρ : Ren) (ps qs : List (Nat × Value)) : Prop := ps.length = qs.length ∧ ∀ (i : Nat) p q, ps[i]? = some p → qs[i]? = some q → p.1 = q.1 ∧ VR ρ p.2 q.2
theorem evalParts_sound {ρ : Ren} {s : T Value} {a : Act} (hT : TR ρ s a.tmps) : ∀ (xs : List (Nat × Operand)) {ps : List (Nat × Value)}, evalParts s xs = some ps →
    PR ρ ps (xs.map fun (i, x) => (i, a.eval x))
  | [], ps, h => by cases h; exact ⟨rfl, fun i p q e => by simp at e⟩
  | (i, x) :: xs, ps, h => by
    unfold evalParts at h
    split at h
    · rename_i v hv
      cases hr : evalParts s xs with
      | none => rw [hr] at h; cases h
      | some r =>
        rw [hr] at h
        cases h
        have ih := evalParts_sound hT xs hr
        refine ⟨by simp [ih.1], fun j p q ep eq => ?_⟩
        cases j with
        | zero => simp at ep eq; subst ep; subst eq; exact ⟨rfl, evalO_sound hT hv⟩
        | succ j => exact ih.2 j p q (by simpa using ep) (by simpa using eq)
    · cases h

/-! ### Cells read -/
theorem addr_add (c off j : Nat) : (⟨c, off, none⟩ : Addr).add j = ⟨c, off + j, none⟩ := by unfold Addr.add; split <;> simp_all

/-- What is asked of the machine's cells. -/
def At (w : World) (c off : Nat) (l : List Value) : Prop := ∀ (j : Nat) v, l[j]? = some v → w.cell? ⟨c, off + j, none⟩ = some v

theorem cells_sound {ρ : Ren} {c cs' : List Value} {off n : Nat} {l : List Value} (hc : ∀ (i : Nat) v, c[i]? = some v → ∃ v', cs'[i]? = some v' ∧ VR ρ v v') (e : slice? c off n = some l) :
    ∃ l', l' = (cs'.drop off).take n ∧ l'.length = n ∧ LR ρ l l' := by
  obtain ⟨rfl, hl⟩ := slice?_some e
  have hin : ∀ i, i < c.length → i < cs'.length := fun i hi => by
    obtain ⟨v', e', _⟩ := hc i _ (List.getElem?_eq_getElem hi)
    exact (List.getElem?_eq_some_iff.1 e').1
  have hlen : ((cs'.drop off).take n).length = n := by
    simp only [List.length_take, List.length_drop] at hl ⊢
    by_cases hn : n = 0
    · omega
    · have := hin (off + n - 1) (by omega); omega
  refine ⟨_, rfl, hlen, by rw [hl, hlen], fun i v v' ev ev' => ?_⟩
  rw [List.getElem?_take] at ev ev'
  split at ev
  · rename_i hi
    rw [if_pos hi] at ev'
    rw [List.getElem?_drop] at ev ev'
    obtain ⟨u, eu, ru⟩ := hc _ _ ev
    rw [eu] at ev'
    cases ev'
    exact ru
  · cases ev

theorem readCells_sound {ρ : Ren} {h : AHeap} {w : World} (R : Rel ρ h w) {b off c N n : Nat} {l : List Value} (hρ : ρ b = some (c, N)) (e : readCells h ⟨b, off, none⟩ n = some l) :
    ∃ l', l'.length = n ∧ LR ρ l l' ∧ At w c off l' := by
  unfold readCells at e
  dsimp only at e
  have key : ∀ (cs : List Value) (cs' : Array Value) (el : TypeId) (fz : Nat × Nat), w.heap[c]? = some (.cells cs' el fz) → (∀ (i : Nat) v, cs[i]? = some v → ∃ v', cs'[i]? = some v' ∧ VR ρ v v') →
      slice? cs off n = some l → ∃ l', l'.length = n ∧ LR ρ l l' ∧ At w c off l' := by
    intro cs cs' el fz ho hc e
    obtain ⟨l', hl', h1, h2⟩ := cells_sound (cs' := cs'.toList) (fun i v ev => by
      obtain ⟨v', e', r⟩ := hc i v ev
      exact ⟨v', by rw [Array.getElem?_toList]; exact e', r⟩) e
    refine ⟨l', h1, h2, fun j v ev => ?_⟩
    rw [hl', List.getElem?_take] at ev
    split at ev
    · rw [List.getElem?_drop, Array.getElem?_toList] at ev
      simp [World.cell?, ho, ev]
    · cases ev
  split at e
  · rename_i cs el hg
    obtain ⟨o', ho, hr⟩ := R.obj b _ hg c N hρ
    cases hr with
    | cells hc _ _ => exact key _ _ _ _ ho hc e
  · rename_i cs hg
    obtain ⟨o', ho, hr⟩ := R.obj b _ hg c N hρ
    cases hr with
    | ro hc =>
      rename_i cs' el fz
      split at e
      · rename_i l0 hs
        split at e
        · rename_i hd
          cases e
          obtain ⟨hl, hn⟩ := slice?_some hs
          have hself : slice? l 0 n = some l := by
            unfold slice?
            dsimp only
            rw [List.drop_zero, List.take_of_length_le (by omega), show Nat.beq l.length n = true from by rw [hn]; exact Nat.beq_refl _]
          obtain ⟨l', hl', h1, h2⟩ := cells_sound (cs' := cs'.toList.drop off) (fun i v ev => by
            have ev' := ev
            rw [hl, List.getElem?_take] at ev'
            split at ev'
            · rw [List.getElem?_drop] at ev'
              have hnd : isDead v = false := by
                cases hq : isDead v with
                | false => rfl
                | true =>
                  have : l.any isDead = true := List.any_eq_true.2 ⟨v, List.mem_of_getElem? ev, hq⟩
                  rw [this] at hd
                  cases hd
              obtain ⟨v', e', r⟩ := hc _ v ev' hnd
              exact ⟨v', by rw [List.getElem?_drop, Array.getElem?_toList]; exact e', r⟩
            · cases ev') hself
          refine ⟨l', h1, h2, fun j v ev => ?_⟩
          rw [hl', List.getElem?_take] at ev
          split at ev
          · rw [List.drop_zero, List.getElem?_drop, Array.getElem?_toList] at ev
            simp [World.cell?, ho, ev]
          · cases ev
        · cases e
      · cases e
  · cases e

/-! ### A new block -/
def upd (ρ : Ren) (b : Nat) (x : Nat × Nat) : Ren := fun y => if y = b then some x else ρ y
theorem Ext.upd {ρ : Ren} {b : Nat} {x : Nat × Nat} (h : ρ b = none) : Ext ρ (upd ρ b x) := fun y z e => by
  unfold Ai.upd
  split
  · rename_i hx; rw [hx, h] at e; cases e
  · exact e
theorem upd_self (ρ : Ren) (b : Nat) (x : Nat × Nat) : upd ρ b x b = some x := by simp [upd]
theorem upd_cases {ρ : Ren} {b y : Nat} {x z : Nat × Nat} (e : upd ρ b x y = some z) : (y = b ∧ z = x) ∨ (y ≠ b ∧ ρ y = some z) := by
  unfold upd at e
  split at e
  · rename_i hy; cases e; exact .inl ⟨hy, rfl⟩
  · rename_i hy; exact .inr ⟨hy, e⟩

theorem Adv.alloc {ρ : Ren} {h : AHeap} {w : World} (R : Rel ρ h w) (hf : ρ h.next = none) (N : Nat) (o : AObj) (o' : Obj) (hr : OR (upd ρ h.next (w.heap.size, N)) N o o') :
    Adv ρ (upd ρ h.next (w.heap.size, N)) h (h.alloc o) w (w.alloc o') := by
  refine ⟨Ext.upd hf, ?_, by rw [AHeap.next_alloc]; omega, by rw [AHeap.low_alloc]; omega, ⟨?_, ?_, ?_⟩, rfl, rfl, rfl, by simp, ?_, ?_, ?_⟩
  · intro b c M e
    rcases upd_cases e with ⟨rfl, hz⟩ | ⟨_, e⟩
    · cases hz
      exact .inr ⟨by omega, by rw [AHeap.next_alloc]; omega, .inl (Nat.le_refl _)⟩
    · exact .inl e
  · intro b x e c M hc
    rw [AHeap.get_alloc] at e
    split at e
    · rename_i hb
      cases e
      subst hb
      rw [upd_self] at hc
      cases hc
      exact ⟨o', heap_alloc_new w o', hr⟩
    · rename_i hb
      rcases upd_cases hc with ⟨h1, _⟩ | ⟨_, hc'⟩
      · exact absurd h1 hb
      · obtain ⟨y, hy, ry⟩ := R.obj b x e c M hc'
        refine ⟨y, ?_, ry.mono (Ext.upd hf)⟩
        show (w.heap.push o')[c]? = some y
        have hlt := (Array.getElem?_eq_some_iff.1 hy).1
        rw [Array.getElem?_push, if_neg (by omega)]
        exact hy
  · intro b b' c M M' lb lb' e e'
    have lv : ∀ x, x ≠ h.next → live (h.alloc o) x → live h x := fun x hx lx => by
      rcases lx with lx | lx
      · rw [AHeap.next_alloc] at lx; exact .inl (by omega)
      · rw [AHeap.get_alloc, if_neg hx] at lx; exact .inr lx
    have wv : ∀ x, x ≠ h.next → wr (h.alloc o) x → wr h x := fun x hx lx => by
      rcases lx with lx | lx
      · rw [AHeap.next_alloc] at lx; exact .inl (by omega)
      · rw [AHeap.get_alloc, if_neg hx] at lx; exact .inr lx
    rcases upd_cases e with ⟨rfl, hz⟩ | ⟨hb, hbc⟩ <;> rcases upd_cases e' with ⟨rfl, hz'⟩ | ⟨hb', hbc'⟩
    · rfl
    · cases hz; have := R.lt _ _ _ hbc'; omega
    · cases hz'; have := R.lt _ _ _ hbc; omega
    · exact R.inj b b' c M M' (lv b hb lb) (wv b' hb' lb') hbc hbc'
  · intro b c M e
    rcases upd_cases e with ⟨_, hz⟩ | ⟨_, e⟩
    · cases hz; simp
    · have := R.lt _ _ _ e; simp; omega
  · intro b h1 h2
    rw [AHeap.next_alloc] at h2
    have : b = h.next := by omega
    rw [this]
    exact hf
  · intro c hc _
    show (w.heap.push o')[c]? = _
    rw [Array.getElem?_push, if_neg (by omega)]
  · intro b hb _
    rw [AHeap.get_alloc, if_neg (by omega)]

/-! ### A block written over -/
/-- The machine's memory with another object in one place. -/
theorem Adv.set {ρ : Ren} {h : AHeap} {w w' : World} (R : Rel ρ h w) {b c N : Nat} {x : AObj} (hg : h.get b = some x) (hx : isW (some x) = true) (hρ : ρ b = some (c, N)) (o : AObj) (o' : Obj) (hr : OR ρ N o o')
    (hos : w'.os = w.os) (htape : w'.tape = w.tape) (hout : w'.output = w.output) (hsz : w'.heap.size = w.heap.size)
    (hc : w'.heap[c]? = some o') (hne : ∀ d, d ≠ c → w'.heap[d]? = w.heap[d]?) : Adv ρ ρ h (h.set b o) w w' := by
  have hb := AHeap.lt_of_get hg
  have lv : ∀ y, live (h.set b o) y → live h y := fun y ly => by
    rcases ly with ly | ly
    · exact .inl ly
    · rw [AHeap.get_set _ _ _ hb] at ly
      split at ly
      · rename_i e; subst e; exact .inr (by rw [hg]; rfl)
      · exact .inr ly
  have lb : wr h b := .inr (by rw [hg]; exact hx)
  have wv : ∀ y, wr (h.set b o) y → wr h y := fun y ly => by
    rcases ly with ly | ly
    · exact .inl ly
    · rw [AHeap.get_set _ _ _ hb] at ly
      split at ly
      · rename_i e; subst e; exact lb
      · exact .inr ly
  refine ⟨.refl _, fun _ _ _ e => .inl e, by rw [AHeap.next_set]; omega, by rw [AHeap.low_set]; omega, ⟨?_, ?_, ?_⟩, hos, htape, hout, by omega, ?_, ?_, ?_⟩
  · intro y z e d M hd
    rw [AHeap.get_set _ _ _ hb] at e
    split at e
    · rename_i ey
      cases e
      subst ey
      rw [hρ] at hd
      cases hd
      exact ⟨o', hc, hr⟩
    · rename_i ey
      obtain ⟨u, hu, ru⟩ := R.obj y z e d M hd
      refine ⟨u, ?_, ru⟩
      rw [hne d ?_]
      · exact hu
      · intro ed
        subst ed
        exact ey (R.inj y b d M N (.inr (by rw [e]; rfl)) lb hd hρ)
  · intro y y' d M M' ly ly' e e'
    exact R.inj y y' d M M' (lv y ly) (wv y' ly') e e'
  · intro y d M e
    rw [hsz]
    exact R.lt y d M e
  · intro y h1 h2; rw [AHeap.next_set] at h2; omega
  · intro d hd hn
    by_cases e : d = c
    · subst e
      exact absurd hρ (hn b N (by rw [AHeap.low_set]; omega) hb)
    · exact hne d e
  · intro y hy hl
    rw [AHeap.low_set] at hl
    rw [AHeap.get_set _ _ _ hb, if_neg (by omega)]

/-- A block that stands for nothing. -/
theorem Adv.dummy {ρ : Ren} {h : AHeap} {w : World} (R : Rel ρ h w) (hf : ρ h.next = none) (o : AObj) : Adv ρ ρ h (h.alloc o) w w := by
  refine ⟨.refl _, fun b c N e => .inl e, by rw [AHeap.next_alloc]; omega, Nat.le_refl _, ⟨?_, ?_, R.lt⟩, rfl, rfl, rfl, Nat.le_refl _, ?_, fun _ _ _ => rfl, ?_⟩
  · intro b o' hb c N hρ
    rw [AHeap.get_alloc] at hb
    split at hb
    · rename_i e
      rw [e, hf] at hρ
      cases hρ
    · exact R.obj b o' hb c N hρ
  · intro b b' c N N' l l' e e'
    have conv : ∀ x y, live (h.alloc o) x → ρ x = some y → live h x := by
      intro x y lx ex
      rcases lx with q | q
      · rw [AHeap.next_alloc] at q; exact .inl (by omega)
      · rw [AHeap.get_alloc] at q
        split at q
        · rename_i ee
          rw [ee, hf] at ex
          cases ex
        · exact .inr q
    have conw : ∀ x y, wr (h.alloc o) x → ρ x = some y → wr h x := by
      intro x y lx ex
      rcases lx with q | q
      · rw [AHeap.next_alloc] at q; exact .inl (by omega)
      · rw [AHeap.get_alloc] at q
        split at q
        · rename_i ee
          rw [ee, hf] at ex
          cases ex
        · exact .inr q
    exact R.inj b b' c N N' (conv _ _ l e) (conw _ _ l' e') e e'
  · intro b h1 h2
    rw [AHeap.next_alloc] at h2
    rw [show b = h.next by omega]
    exact hf
  · intro b h1 h2
    rw [AHeap.get_alloc, if_neg (by omega)]

/-- A block is forgotten. -/
theorem Adv.kill {ρ : Ren} {h : AHeap} {w : World} (R : Rel ρ h w) (b : Nat) : Adv ρ ρ h (h.kill b) w w := by
  have lv : ∀ y, live (h.kill b) y → live h y := fun y ly => by
    rcases ly with ly | ly
    · exact .inl ly
    · rw [AHeap.get_kill] at ly
      split at ly
      · cases ly
      · exact .inr ly
  have wv : ∀ y, wr (h.kill b) y → wr h y := fun y ly => by
    rcases ly with ly | ly
    · exact .inl ly
    · rw [AHeap.get_kill] at ly
      split at ly
      · cases ly
      · exact .inr ly
  refine ⟨.refl _, fun _ _ _ e => .inl e, by rw [AHeap.next_kill]; omega, by rw [AHeap.low_kill]; omega, ⟨?_, ?_, R.lt⟩, rfl, rfl, rfl, Nat.le_refl _, ?_, fun _ _ _ => rfl, ?_⟩
  · intro y z e d M hd
    rw [AHeap.get_kill] at e
    split at e
    · cases e
    · exact R.obj y z e d M hd
  · intro y y' d M M' ly ly' e e'
    exact R.inj y y' d M M' (lv y ly) (wv y' ly') e e'
  · intro y h1 h2; rw [AHeap.next_kill] at h2; omega
  · intro y hy hl
    rw [AHeap.low_kill] at hl
    rw [AHeap.get_kill, if_neg (by omega)]

/-- A block is forgotten, and its place belongs to a new one. -/
theorem Adv.reuse {ρ : Ren} {h : AHeap} {w w' : World} (R : Rel ρ h w) (hf : ρ h.next = none) {b c N : Nat} {x : AObj} (hg : h.get b = some x) (hx : isW (some x) = true) (hρ : ρ b = some (c, N)) (o : AObj) (o' : Obj)
    (hr : OR (upd ρ h.next (c, N)) N o o') (hos : w'.os = w.os) (htape : w'.tape = w.tape) (hout : w'.output = w.output) (hsz : w'.heap.size = w.heap.size)
    (hc : w'.heap[c]? = some o') (hne : ∀ d, d ≠ c → w'.heap[d]? = w.heap[d]?) : Adv ρ (upd ρ h.next (c, N)) h ((h.kill b).alloc o) w w' := by
  have hb := AHeap.lt_of_get hg
  have lb : wr h b := .inr (by rw [hg]; exact hx)
  have wv : ∀ y, y ≠ h.next → wr ((h.kill b).alloc o) y → wr h y := fun y hy ly => by
    rcases ly with ly | ly
    · rw [AHeap.next_alloc, AHeap.next_kill] at ly
      exact .inl (by omega)
    · rw [AHeap.get_alloc, AHeap.next_kill, if_neg hy, AHeap.get_kill] at ly
      split at ly
      · cases ly
      · exact .inr ly
  have lv : ∀ y, y ≠ h.next → live ((h.kill b).alloc o) y → live h y ∧ y ≠ b := fun y hy ly => by
    rcases ly with ly | ly
    · rw [AHeap.next_alloc, AHeap.next_kill] at ly
      exact ⟨.inl (by omega), by omega⟩
    · rw [AHeap.get_alloc, AHeap.next_kill, if_neg hy, AHeap.get_kill] at ly
      split at ly
      · cases ly
      · rename_i hyb; exact ⟨.inr ly, hyb⟩
  have other : ∀ y M, y ≠ h.next → live ((h.kill b).alloc o) y → ρ y ≠ some (c, M) := fun y M hy ly e =>
    (lv y hy ly).2 (R.inj y b c M N (lv y hy ly).1 lb e hρ)
  refine ⟨Ext.upd hf, ?_, by rw [AHeap.next_alloc, AHeap.next_kill]; omega, by rw [AHeap.low_alloc, AHeap.low_kill]; omega, ⟨?_, ?_, ?_⟩, hos, htape, hout, by omega, ?_, ?_, ?_⟩
  · intro y d M e
    rcases upd_cases e with ⟨rfl, hz⟩ | ⟨_, e⟩
    · cases hz
      exact .inr ⟨by omega, by rw [AHeap.next_alloc, AHeap.next_kill]; omega, .inr ⟨b, N, by rw [AHeap.low_alloc, AHeap.low_kill]; omega, hb, hρ⟩⟩
    · exact .inl e
  · intro y z e d M hd
    rcases upd_cases hd with ⟨rfl, hz⟩ | ⟨hy, hd'⟩
    · cases hz
      rw [AHeap.get_alloc, AHeap.next_kill, if_pos rfl] at e
      cases e
      exact ⟨o', hc, hr⟩
    · have ly : live ((h.kill b).alloc o) y := .inr (by rw [e]; rfl)
      rw [AHeap.get_alloc, AHeap.next_kill, if_neg hy, AHeap.get_kill] at e
      split at e
      · cases e
      · obtain ⟨u, hu, ru⟩ := R.obj y z e d M hd'
        refine ⟨u, ?_, ru.mono (Ext.upd hf)⟩
        rw [hne d ?_]
        · exact hu
        · intro ed
          subst ed
          exact other y M hy ly hd'
  · intro y y' d M M' ly ly' e e'
    rcases upd_cases e with ⟨rfl, hz⟩ | ⟨hy, hd⟩ <;> rcases upd_cases e' with ⟨rfl, hz'⟩ | ⟨hy', hd'⟩
    · rfl
    · cases hz; exact absurd hd' (other y' M' hy' ly'.live)
    · cases hz'; exact absurd hd (other y M hy ly)
    · exact R.inj y y' d M M' (lv y hy ly).1 (wv y' hy' ly') hd hd'
  · intro y d M e
    rw [hsz]
    rcases upd_cases e with ⟨_, hz⟩ | ⟨_, e⟩
    · cases hz; exact R.lt _ _ _ hρ
    · exact R.lt _ _ _ e
  · intro y h1 h2
    rw [AHeap.next_alloc, AHeap.next_kill] at h2
    have : y = h.next := by omega
    rw [this]
    exact hf
  · intro d hd hn
    by_cases e : d = c
    · subst e
      exact absurd hρ (hn b N (by rw [AHeap.low_alloc, AHeap.low_kill]; omega) hb)
    · exact hne d e
  · intro y hy hl
    rw [AHeap.low_alloc, AHeap.low_kill] at hl
    rw [AHeap.get_alloc, AHeap.next_kill, if_neg (by omega), AHeap.get_kill, if_neg (by omega)]

end Go.Proofs.YtlkhpgocbojdgaaGreatDoor.Ai

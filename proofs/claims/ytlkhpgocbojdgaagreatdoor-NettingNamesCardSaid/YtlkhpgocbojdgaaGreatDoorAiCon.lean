/-
  CONTRACTS: what a function computes out of its arguments' data, as an answer of the evaluator's in every memory. Its body is gone through in a small memory that holds the arguments' rows alone.
-/
import Derived.Test.YtlkhpgocbojdgaaGreatDoorAiX
import Derived.Maps.RangeRun
import Derived.Laws.StructEq
namespace Go.Proofs.YtlkhpgocbojdgaaGreatDoor.Ai
open Go
set_option linter.unusedSimpArgs false
set_option linter.unusedVariables false

/-- Memory out of a list of objects. -/
noncomputable def mkT {α : Type} : List (Nat × α) → T α → T α
  | [], t => t
  | (k, x) :: r, t => mkT r (t.put k x)
noncomputable def roT : List (List Value) → Nat → T AObj → T AObj
  | [], _, t => t
  | c :: r, i, t => roT r (i + 1) (t.put i (.ro c))
/-- A memory of rows that are only read. -/
noncomputable def roH (cs : List (List Value)) : AHeap := { m := roT cs 0 .nil, next := cs.length, low := cs.length }
noncomputable def st0 (args : List Value) (h : AHeap) : ASt := { tmps := loadArgs args 0 .nil, heap := { h with low := h.next }, marks := [] }

theorem roT_get : ∀ (cs : List (List Value)) (i : Nat) (t : T AObj) (k : Nat), (roT cs i t).get k = if i ≤ k ∧ k < i + cs.length then (cs[k - i]?).map AObj.ro else t.get k
  | [], i, t, k => by
    unfold roT
    rw [if_neg (by rintro ⟨_, hh⟩; simp at hh; omega)]
  | c :: r, i, t, k => by
    unfold roT
    rw [roT_get r, T.get_put]
    by_cases h1 : i + 1 ≤ k ∧ k < i + 1 + r.length
    · rw [if_pos h1, if_pos (by simp; omega), show k - i = (k - (i + 1)) + 1 by omega, List.getElem?_cons_succ]
    · rw [if_neg h1]
      by_cases h2 : k = i
      · subst h2
        rw [if_pos rfl, if_pos (by simp)]
        simp
      · rw [if_neg h2, if_neg (by simp; omega)]
theorem roH_get (cs : List (List Value)) (k : Nat) : (roH cs).get k = (cs[k]?).map AObj.ro := by
  rw [AHeap.get_def]
  show (if k < cs.length then (roT cs 0 .nil).get k else none) = _
  rw [roT_get]
  by_cases h : k < cs.length
  · rw [if_pos h, if_pos ⟨Nat.zero_le _, by omega⟩, Nat.sub_zero]
  · rw [if_neg h, List.getElem?_eq_none (by omega)]; rfl

/-! ### The arguments -/
/-- The row that a slice shows. -/
noncomputable def slArg (h : AHeap) : Value → Option (Option Nat × List Value × Nat × Nat × Nat)
  | .slice none 0 0 => some (none, [], 0, 0, GC 0)
  | .slice (some ⟨b, off, none⟩) n cap => match h.get b with
    | some (.cells c _) => match c.all flatCell with
      | true => some (some b, c, off, n, cap)
      | false => none
    | some (.ro c) => match c.all flatCell with
      | true => some (some b, c, off, n, cap)
      | false => none
    | _ => none
  | _ => none

inductive Ak where
  | fl
  | sl
  | fu

def fnV : Value → Bool
  | .func (.func _) ⟨[]⟩ ⟨[]⟩ => true
  | _ => false

noncomputable def resolve (h : AHeap) : List Ak → Nat → List Value → Option (List Value × List (Option Nat × List Value))
  | [], _, [] => some ([], [])
  | .fl :: ks, i, v :: vs => match flat v, resolve h ks i vs with
    | true, some (ts, bs) => some (v :: ts, bs)
    | _, _ => none
  | .fu :: ks, i, v :: vs => match fnV v, resolve h ks i vs with
    | true, some (ts, bs) => some (v :: ts, bs)
    | _, _ => none
  | .sl :: ks, i, v :: vs => match slArg h v, resolve h ks (i + 1) vs with
    | some (b, c, off, n, cap), some (ts, bs) => some (.slice (some ⟨i, off, none⟩) n cap :: ts, (b, c) :: bs)
    | _, _ => none
  | _, _, _ => none

section
variable {ρ : Ren} {h : AHeap} {w : World}

theorem slArg_some {v : Value} {b : Option Nat} {c : List Value} {off n cap : Nat} (e : slArg h v = some (b, c, off, n, cap)) :
    c.all flatCell = true ∧ (∀ b0, b = some b0 → (∃ el, h.get b0 = some (.cells c el)) ∨ h.get b0 = some (.ro c)) ∧
      ∀ (ρ0 : Ren) i v', ρ0 i = b.bind ρ → VR ρ v v' → VR ρ0 (.slice (some ⟨i, off, none⟩) n cap) v' := by
  unfold slArg at e
  split at e
  · cases e
    refine ⟨rfl, fun _ h => (by cases h), fun ρ0 i v' hi r => ?_⟩
    cases r
    exact .sliceG0
  · rename_i b0 off0 n0 cap0
    have key : ∀ (ρ0 : Ren) i v', ρ0 i = (some b0).bind ρ → VR ρ (.slice (some ⟨b0, off0, none⟩) n0 cap0) v' → VR ρ0 (.slice (some ⟨i, off0, none⟩) n0 cap0) v' := by
      intro ρ0 i v' hi r
      have hi : ρ0 i = ρ b0 := hi
      cases r with
      | slice a q => exact .slice a (by rw [hi]; exact q)
      | sliceUp a1 a2 a3 a4 q => exact .sliceUp a1 a2 a3 a4 (by rw [hi]; exact q)
      | sliceUn => exact .sliceUn
      | sliceG a0 a1 a2 a3 a4 q => exact .sliceG a0 a1 a2 a3 a4 (by rw [hi]; exact q)
      | sliceG0 => exact .sliceG0
    split at e
    · rename_i hg
      split at e
      · rename_i hf
        cases e
        exact ⟨hf, fun b1 h1 => by cases h1; exact .inl ⟨_, hg⟩, key⟩
      · cases e
    · rename_i hg
      split at e
      · rename_i hf
        cases e
        exact ⟨hf, fun b1 h1 => by cases h1; exact .inr hg, key⟩
      · cases e
    · cases e
  · cases e

/-- What the resolved blocks are. -/
def BlkOk (h : AHeap) (p : Option Nat × List Value) : Prop := p.2.all flatCell = true ∧ ∀ b0, p.1 = some b0 → (∃ el, h.get b0 = some (.cells p.2 el)) ∨ h.get b0 = some (.ro p.2)

theorem fnV_some {v : Value} (e : fnV v = true) : ∃ g, v = .func (.func g) ⟨[]⟩ ⟨[]⟩ := by
  unfold fnV at e
  split at e
  · exact ⟨_, rfl⟩
  · cases e
theorem fnV_VR {ρ ρ0 : Ren} {v v' : Value} (e : fnV v = true) (r : VR ρ v v') : VR ρ0 v v' := by
  obtain ⟨g, rfl⟩ := fnV_some e
  cases r with
  | func e1 e2 e3 e4 e5 =>
    rename_i gs ds
    obtain rfl : gs = [] := List.eq_nil_of_length_eq_zero e2.symm
    obtain rfl : ds = [] := List.eq_nil_of_length_eq_zero e4.symm
    cases e1
    exact .func (.same fun _ h => by cases h) rfl (fun i _ _ h => by simp at h) rfl (fun i _ _ h => by simp at h)

theorem resolve_some : ∀ (ks : List Ak) (i : Nat) {vs ts : List Value} {bs : List (Option Nat × List Value)}, resolve h ks i vs = some (ts, bs) →
    (∀ p ∈ bs, BlkOk h p) ∧ ∀ (ρ0 : Ren) vs', (∀ j p, bs[j]? = some p → ρ0 (i + j) = p.1.bind ρ) → LR ρ vs vs' → LR ρ0 ts vs'
  | [], i, [], ts, bs, e => by
    cases e
    exact ⟨fun p hp => (by cases hp), fun ρ0 vs' _ hL => ⟨hL.1, fun i v v' h _ => by simp at h⟩⟩
  | [], i, v :: vs, ts, bs, e => by cases e
  | .fl :: ks, i, [], ts, bs, e => by cases e
  | .fu :: ks, i, [], ts, bs, e => by cases e
  | .sl :: ks, i, [], ts, bs, e => by cases e
  | .fl :: ks, i, v :: vs, ts, bs, e => by
    unfold resolve at e
    split at e
    · rename_i ts bs hf hr
      cases e
      obtain ⟨h1, h2⟩ := resolve_some ks i hr
      refine ⟨h1, fun ρ0 vs' hb hL => ?_⟩
      match vs', hL.1 with
      | v' :: vs', _ =>
        refine LR.cons ?_ (h2 ρ0 vs' hb ⟨by simpa using hL.1, fun i a b ha hb => hL.2 (i + 1) a b (by simpa using ha) (by simpa using hb)⟩)
        have := hL.2 0 v v' rfl rfl
        rw [flat_eq hf this]
        exact flat_VR _ hf
    · cases e
  | .fu :: ks, i, v :: vs, ts, bs, e => by
    unfold resolve at e
    split at e
    · rename_i ts bs hf hr
      cases e
      obtain ⟨h1, h2⟩ := resolve_some ks i hr
      refine ⟨h1, fun ρ0 vs' hb hL => ?_⟩
      match vs', hL.1 with
      | v' :: vs', _ =>
        exact LR.cons (fnV_VR hf (hL.2 0 v v' rfl rfl)) (h2 ρ0 vs' hb ⟨by simpa using hL.1, fun i a b ha hb => hL.2 (i + 1) a b (by simpa using ha) (by simpa using hb)⟩)
    · cases e
  | .sl :: ks, i, v :: vs, ts, bs, e => by
    unfold resolve at e
    split at e
    · rename_i b c off n cap ts bs hs hr
      cases e
      obtain ⟨h1, h2⟩ := resolve_some ks (i + 1) hr
      obtain ⟨a1, a2, a3⟩ := slArg_some (ρ := ρ) hs
      refine ⟨fun p hp => ?_, fun ρ0 vs' hb hL => ?_⟩
      · rcases List.mem_cons.1 hp with q | q
        · subst q; exact ⟨a1, a2⟩
        · exact h1 p q
      · match vs', hL.1 with
        | v' :: vs', _ =>
          refine LR.cons (a3 ρ0 i v' (hb 0 _ rfl) (hL.2 0 v v' rfl rfl)) (h2 ρ0 vs' (fun j p hj => ?_) ⟨by simpa using hL.1, fun i a b ha hb => hL.2 (i + 1) a b (by simpa using ha) (by simpa using hb)⟩)
          have := hb (j + 1) p (by simpa using hj)
          rwa [show i + (j + 1) = i + 1 + j by omega] at this
    · cases e

/-- The small memory stands to the world. -/
theorem ro_rel (ht : Tight ρ h w) (R : Rel ρ h w) {bs : List (Option Nat × List Value)} (hb : ∀ p ∈ bs, BlkOk h p) :
    ∃ ρ0 : Ren, Tight ρ0 (roH (bs.map (·.2))) w ∧ Rel ρ0 (roH (bs.map (·.2))) w ∧ ∀ j p, bs[j]? = some p → ρ0 (0 + j) = p.1.bind ρ := by
  refine ⟨fun j => (bs[j]?).bind fun p => p.1.bind ρ, ⟨?_, ht.gl.img fun b c N e => ?_⟩, ⟨?_, ?_, ?_⟩, ?_⟩
  rotate_left
  · obtain ⟨p, hp, e1⟩ := Option.bind_eq_some_iff.1 e
    obtain ⟨b0, _, e2⟩ := Option.bind_eq_some_iff.1 e1
    exact ⟨b0, N, e2⟩
  rotate_right
  · intro b hb
    have : (bs.map (·.2)).length ≤ b := hb
    rw [List.length_map] at this
    show (bs[b]?).bind _ = none
    rw [List.getElem?_eq_none this]
    rfl
  · intro j o ho c N hc
    rw [roH_get] at ho
    simp only [List.getElem?_map, Option.map_map, Option.map_eq_some_iff] at ho
    obtain ⟨p, hp, rfl⟩ := ho
    have hc : (bs[j]?).bind (fun p => p.1.bind ρ) = some (c, N) := hc
    rw [hp] at hc
    have hc : p.1.bind ρ = some (c, N) := hc
    obtain ⟨b0, h1, h2⟩ := Option.bind_eq_some_iff.1 hc
    obtain ⟨hf, hg⟩ := hb p (List.mem_of_getElem? hp)
    rcases hg b0 h1 with ⟨el, hg⟩ | hg
    · obtain ⟨o', q1, q2⟩ := R.obj b0 _ hg c N h2
      refine ⟨o', q1, ?_⟩
      cases q2 with
      | cells a b c => exact .ro (flatCells_ROR hf fun i v e _ => a i v e)
    · obtain ⟨o', q1, q2⟩ := R.obj b0 _ hg c N h2
      refine ⟨o', q1, ?_⟩
      cases q2 with
      | ro a => exact .ro (flatCells_ROR hf a)
  · intro b b' c N N' l l' e e'
    exfalso
    rcases l' with q | q
    · have q : (bs.map (·.2)).length ≤ b' := q
      rw [List.length_map] at q
      have e' : (bs[b']?).bind (fun p => p.1.bind ρ) = some (c, N') := e'
      rw [List.getElem?_eq_none q] at e'
      cases e'
    · rw [roH_get] at q
      cases hq : (bs.map (·.2))[b']? with
      | none => rw [hq] at q; cases q
      | some x => rw [hq] at q; cases q
  · intro b c N e
    obtain ⟨p, hp, h1⟩ := Option.bind_eq_some_iff.1 e
    obtain ⟨b0, h2, h3⟩ := Option.bind_eq_some_iff.1 h1
    exact R.lt b0 c N h3
  · intro j p hp
    show (bs[0 + j]?).bind _ = _
    rw [Nat.zero_add, hp]
    rfl
end

/-! ### The results -/
inductive Row where
  | flat (c : List Value) (el : TypeId)
  | nest (c : List Value) (el : TypeId)
  | map (es : List MapEntry) (clock : Nat)
def renRow (π : Nat → Option Nat) : Row → Option AObj
  | .flat c el => some (.cells c el)
  | .nest c el => match mapO (ren1 π) c with
    | some c' => some (.cells c' el)
    | none => none
  | .map es k => some (.map es k)
noncomputable def allocs : AHeap → List AObj → AHeap
  | h, [] => h
  | h, o :: r => allocs (h.alloc o) r
def shift (k n b : Nat) : Option Nat := match Nat.blt b k with
  | true => none
  | false => some (b - k + n)

/-- An answer by what a function computes out of its arguments' data. -/
noncomputable def gen (ks : List Ak) (F : List Value → List (List Value) → Option (Value × List Row)) (args : List Value) (h : AHeap) : Option (Value × AHeap) :=
  match resolve h ks 0 args with
  | none => none
  | some (ts, bs) => match F ts (bs.map (·.2)) with
    | none => none
    | some (v, rows) => match ren2 (shift bs.length h.next) v, mapO (renRow (shift bs.length h.next)) rows with
      | some v2, some os => some (v2, allocs h os)
      | _, _ => none

/-- What is found in memory of a row. -/
def rowIs (h : AHeap) (b : Nat) : Row → Prop
  | .flat c el => h.get b = some (.cells c el) ∧ c.all flatCell = true
  | .nest c el => h.get b = some (.cells c el)
  | .map es k => h.get b = some (.map es k) ∧ (es.all fun e => flat e.val) = true
def RowsAre (h : AHeap) : Nat → List Row → Prop
  | _, [] => True
  | b, r :: rs => rowIs h b r ∧ RowsAre h (b + 1) rs

section
variable {ρ : Ren} {h : AHeap} {w : World}
theorem allocs_get : ∀ (os : List AObj) (h : AHeap) (b : Nat), (allocs h os).get b = if h.next ≤ b ∧ b < h.next + os.length then os[b - h.next]? else h.get b
  | [], h, b => by
    unfold allocs
    rw [if_neg (by rintro ⟨_, hh⟩; simp at hh; omega)]
  | o :: r, h, b => by
    unfold allocs
    rw [allocs_get r, AHeap.next_alloc, AHeap.get_alloc]
    by_cases h1 : h.next + 1 ≤ b ∧ b < h.next + 1 + r.length
    · rw [if_pos h1, if_pos (by simp; omega), show b - h.next = (b - (h.next + 1)) + 1 by omega, List.getElem?_cons_succ]
    · rw [if_neg h1]
      by_cases h2 : b = h.next
      · subst h2
        rw [if_pos rfl, if_pos (by simp)]
        simp
      · rw [if_neg h2, if_neg (by simp; omega)]
theorem allocs_next : ∀ (os : List AObj) (h : AHeap), (allocs h os).next = h.next + os.length
  | [], h => rfl
  | o :: r, h => by unfold allocs; rw [allocs_next r, AHeap.next_alloc, List.length_cons]; omega
theorem allocs_low : ∀ (os : List AObj) (h : AHeap), (allocs h os).low = h.low
  | [], h => rfl
  | o :: r, h => by unfold allocs; rw [allocs_low r, AHeap.low_alloc]
theorem allocs_up : ∀ (os : List AObj) (h : AHeap), Up h (allocs h os)
  | [], h => .refl _
  | o :: r, h => (Up.alloc h o).trans (allocs_up r _)

theorem rowsAre_get {h1 : AHeap} : ∀ (rs : List Row) (b i : Nat) (r : Row), RowsAre h1 b rs → rs[i]? = some r → rowIs h1 (b + i) r
  | [], b, i, r, _, e => by simp at e
  | x :: rs, b, i, r, hr, e => by
    cases i with
    | zero => simp at e; subst e; exact hr.1
    | succ i =>
      have := rowsAre_get rs (b + 1) i r hr.2 (by simpa using e)
      rwa [show b + (i + 1) = b + 1 + i by omega]

/-- What was made in the small memory is taken over. -/
theorem Adv.lift {ρ0 ρ1 : Ren} {h0 h1 : AHeap} {w' : World} (ht : Tight ρ h w) (R : Rel ρ h w) (t0 : Tight ρ0 h0 w) (A : Adv ρ0 ρ1 h0 h1 w w') (hl : h0.next ≤ h1.low) {rows : List Row} (hn : h1.next = h0.next + rows.length) (hr : RowsAre h1 h0.next rows) {os : List AObj} (ho : mapO (renRow (shift h0.next h.next)) rows = some os)
    {v v2 v' : Value} (hv : ren2 (shift h0.next h.next) v = some v2) (r : VR ρ1 v v') : ∃ ρ2, VR ρ2 v2 v' ∧ Adv ρ ρ2 h (allocs h os) w w' := by
  obtain ⟨hlen, hos⟩ := mapO_some ho
  have B := A.other R hl
  have t1 := t0.adv A
  have hnew : ∀ b c N, ρ1 (b + h0.next) = some (c, N) → w.heap.size ≤ c := by
    intro b c N e
    rcases A.new _ c N e with f | ⟨_, _, f⟩
    · rw [t0.t _ (by omega)] at f; cases f
    · rcases f with f | ⟨b0, M, f1, f2, _⟩
      · exact f
      · omega
  let ρ3 : Ren := fun b => if b < h.next then ρ b else ρ1 (b - h.next + h0.next)
  have hs3 : Sub (shift h0.next h.next) ρ1 ρ3 := by
    intro b b' e x hx
    unfold shift at e
    split at e
    · cases e
    · rename_i hq
      cases e
      have hq' : ¬ b < h0.next := by simpa [← Nat.blt_eq] using hq
      show (if b - h0.next + h.next < h.next then _ else ρ1 (b - h0.next + h.next - h.next + h0.next)) = some x
      rw [if_neg (by omega), show b - h0.next + h.next - h.next + h0.next = b by omega]
      exact hx
  have lo3 : ∀ b, b < h.next → ρ3 b = ρ b := fun b hb => by show (if b < h.next then ρ b else _) = _; rw [if_pos hb]
  have hi3 : ∀ b x, ρ3 b = some x → ¬ b < h.next → ρ1 (b - h.next + h0.next) = some x := fun b x e hb => by
    have e : (if b < h.next then ρ b else ρ1 (b - h.next + h0.next)) = some x := e
    rwa [if_neg hb] at e
  have ext3 : Ext ρ ρ3 := fun b x e => by
    rcases Nat.lt_or_ge b h.next with q | q
    · rw [lo3 b q]; exact e
    · rw [ht.t b q] at e; cases e
  have getN : ∀ b, h.next ≤ b → b < h.next + os.length → (allocs h os).get b = os[b - h.next]? := fun b h1 h2 => by rw [allocs_get, if_pos ⟨h1, h2⟩]
  have getO : ∀ b, b < h.next → (allocs h os).get b = h.get b := fun b h1 => by rw [allocs_get, if_neg (by omega)]
  refine ⟨ρ3, ren2_sound hs3 hv r, ext3, ?_, by rw [allocs_next]; omega, by rw [allocs_low]; exact Nat.le_refl _, ⟨?_, ?_, ?_⟩, A.os, A.tape, A.output, A.size, fun b h1 _ => ht.t b h1, fun c hc _ => A.frame c hc (fun b' N' h3 h4 => by omega), fun b h1 _ => getO b h1⟩
  · intro b c N e
    rcases Nat.lt_or_ge b h.next with q | q
    · rw [lo3 b q] at e; exact .inl e
    · have e1 := hi3 b _ e (by omega)
      have hlt : b - h.next + h0.next < h1.next := by
        rcases Nat.lt_or_ge (b - h.next + h0.next) h1.next with f | f
        · exact f
        · rw [t1.t _ f] at e1; cases e1
      exact .inr ⟨q, by rw [allocs_next]; omega, .inl (hnew _ c N e1)⟩
  · intro b o hb c N e
    rcases Nat.lt_or_ge b h.next with q | q
    · rw [getO b q] at hb
      rw [lo3 b q] at e
      obtain ⟨o', f1, f2⟩ := B.rel.obj b o hb c N e
      exact ⟨o', f1, f2.mono ext3⟩
    · have hlt := AHeap.lt_of_get hb
      rw [allocs_next] at hlt
      rw [getN b q hlt] at hb
      have e1 := hi3 b _ e (by omega)
      obtain ⟨row, g1, g2⟩ := hos _ o hb
      have g3 := rowsAre_get rows h0.next _ row hr g1
      rw [Nat.add_comm] at g3
      cases row with
      | flat cs el =>
        obtain ⟨g4, g5⟩ := g3
        cases g2
        obtain ⟨o', f1, f2⟩ := A.rel.obj _ _ g4 c N e1
        refine ⟨o', f1, ?_⟩
        cases f2 with
        | cells a1 a2 a3 => exact .cells (flatCells_OR g5 a1) a2 a3
      | nest cs el =>
        unfold renRow at g2
        dsimp only at g2
        split at g2
        · rename_i cs' hm
          cases g2
          obtain ⟨o', f1, f2⟩ := A.rel.obj _ _ g3 c N e1
          refine ⟨o', f1, ?_⟩
          cases f2 with
          | cells a1 a2 a3 => exact .cells (mapO_OR hs3 hm a1) a2 a3
        · cases g2
      | map es k =>
        obtain ⟨g4, g5⟩ := g3
        cases g2
        obtain ⟨o', f1, f2⟩ := A.rel.obj _ _ g4 c N e1
        refine ⟨o', f1, ?_⟩
        cases f2 with
        | map a1 a2 =>
          refine .map a1 (fun i x y hx hy => ?_)
          obtain ⟨q1, q2, q3, q4⟩ := a2 i x y hx hy
          have hfl := List.all_eq_true.1 g5 x (List.mem_of_getElem? hx)
          exact ⟨q1, q2, by rw [flat_eq hfl q3]; exact flat_VR _ hfl, q4⟩
  · intro b b' c N N' l l' e e'
    rcases Nat.lt_or_ge b h.next with q | q <;> rcases Nat.lt_or_ge b' h.next with q' | q'
    · rw [lo3 b q] at e
      rw [lo3 b' q'] at e'
      refine R.inj b b' c N N' ?_ ?_ e e'
      · rcases l with l | l
        · rw [allocs_next] at l; omega
        · rw [getO b q] at l; exact .inr l
      · rcases l' with l | l
        · rw [allocs_next] at l; omega
        · rw [getO b' q'] at l; exact .inr l
    · have e1' := hi3 b' _ e' (by omega)
      have := hnew _ c N' e1'
      rw [lo3 b q] at e
      have := R.lt b c N e
      omega
    · have e1 := hi3 b _ e (by omega)
      have := hnew _ c N e1
      rw [lo3 b' q'] at e'
      have := R.lt b' c N' e'
      omega
    · have e1 := hi3 b _ e (by omega)
      have e1' := hi3 b' _ e' (by omega)
      have conv : ∀ x N, h.next ≤ x → ρ1 (x - h.next + h0.next) = some (c, N) → wr h1 (x - h.next + h0.next) := by
        intro x N hx hρ
        have hlt : x - h.next + h0.next < h1.next := by
          rcases Nat.lt_or_ge (x - h.next + h0.next) h1.next with f | f
          · exact f
          · rw [t1.t _ f] at hρ; cases hρ
        have hi : x - h.next < rows.length := by omega
        have g3 := rowsAre_get rows h0.next _ _ hr (List.getElem?_eq_getElem hi)
        rw [Nat.add_comm] at g3
        refine .inr ?_
        generalize rows[x - h.next] = row at g3
        cases row with
        | flat cs el => rw [g3.1]; rfl
        | nest cs el => rw [show h1.get _ = _ from g3]; rfl
        | map es k => rw [g3.1]; rfl
      have := A.rel.inj _ _ c N N' (conv b N q e1).live (conv b' N' q' e1') e1 e1'
      omega
  · intro b c N e
    rcases Nat.lt_or_ge b h.next with q | q
    · rw [lo3 b q] at e
      exact B.rel.lt b c N e
    · exact A.rel.lt _ c N (hi3 b _ e (by omega))
end

/-! ### A contract -/
structure IntrOk (E : Env) (f : FuncId) (g : List Value → AHeap → Option (Value × AHeap)) : Prop where
  ok : ∀ (ρ : Ren) (h h' : AHeap) (w : World) args args' v, Tight ρ h w → Rel ρ h w → LR ρ args args' → g args h = some (v, h') → CallOk E f args' w fun v' w' => ∃ ρ', VR ρ' v v' ∧ Adv ρ ρ' h h' w w'
  up : ∀ args h v h', g args h = some (v, h') → Up h h'

theorem IntrOk.env {E E' : Env} (hp : E.P = E'.P) {f : FuncId} {g : List Value → AHeap → Option (Value × AHeap)} (a : IntrOk E f g) : IntrOk E' f g :=
  ⟨fun ρ h h' w args args' v ht R hL e => by have := a.ok ρ h h' w args args' v ht R hL e; unfold CallOk at this ⊢; rw [← hp]; exact this, a.up⟩

/-- What a walk through a body shows of a call. -/
def Shows (E : Env) (fn : Func) (ts : List Value) (cs : List (List Value)) (v : Value) (rows : List Row) : Prop :=
  ∃ c x s', fn.body = some c ∧ Den E none (roH cs) c (st0 ts (roH cs)) x s' ∧ (∀ i, x ≠ .exit i) ∧ s'.marks = [] ∧ resA E fn s' = some v ∧ cs.length ≤ s'.heap.low ∧ s'.heap.next = cs.length + rows.length ∧ RowsAre s'.heap cs.length rows

theorem gen_ok {E : Env} (K : E.Runs) {f : FuncId} {fn : Func} (hfn : E.fn.get f = some fn) {ks : List Ak} {F : List Value → List (List Value) → Option (Value × List Row)}
    (H : ∀ ts cs v rows, (∀ c ∈ cs, c.all flatCell = true) → F ts cs = some (v, rows) → Shows E fn ts cs v rows) : IntrOk E f (gen ks F) := by
  refine ⟨?_, ?_⟩
  · intro ρ h h' w args args' v ht R hL e
    unfold gen at e
    split at e
    · cases e
    · rename_i ts bs hr
      split at e
      · cases e
      · rename_i v1 rows hF
        split at e
        · rename_i v2 os hv hos
          cases e
          obtain ⟨hb, hT⟩ := resolve_some (ρ := ρ) ks 0 hr
          obtain ⟨ρ0, t0, R0, hρ⟩ := ro_rel ht R hb
          have hfl : ∀ c ∈ bs.map (·.2), c.all flatCell = true := fun c hc => by
            obtain ⟨p, hp, rfl⟩ := List.mem_map.1 hc
            exact (hb p hp).1
          obtain ⟨c, x, s', q1, q2, q3, q4, q5, q6, q7, q8⟩ := H ts _ v1 rows hfl hF
          have hlen : (bs.map (·.2)).length = bs.length := List.length_map _
          have := call_of_den K hfn q1 (h := roH (bs.map (·.2))) (args := ts) (hc := s'.heap) (v := v1) q2 q3 (by rw [q4]; rfl) q5 t0 R0 (hT ρ0 args' hρ hL)
          refine this.mono ?_
          rintro v' w' ⟨ρ1, r1, A⟩
          rw [hlen] at q6 q7 q8
          have hn : (roH (bs.map (·.2))).next = bs.length := hlen
          have := Adv.lift (rows := rows) (os := os) (v2 := v) ht R t0 A (by rw [hn]; exact q6) (by rw [hn]; exact q7) (by rw [hn]; exact q8) (by rw [hn]; exact hos) (by rw [hn]; exact hv) r1
          exact this
        · cases e
  · intro args h v h' e
    unfold gen at e
    split at e
    · cases e
    · split at e
      · cases e
      · split at e
        · cases e
          exact allocs_up _ _
        · cases e

/-- The table of contracts. -/
theorem runs_intr {P : Program} {fn : T Func} {ty : T TyI} (hf : T.All (FnFact P) fn (fun j => j)) (hy : T.All (TyFact P) ty (fun j => j)) (hm : P.follows .mixedOrders = true)
    {it : T (List Value → AHeap → Option (Value × AHeap))} (hi : T.All (fun f g => IntrOk { P := P, fn := fn, ty := ty, intr := .nil } f g) it (fun j => j)) : Env.Runs { P := P, fn := fn, ty := ty, intr := it } :=
  { toOk := ok_tab _ hf hy hm, body := fun _ _ _ => body_tab hf, up := fun f g h => (T.all_get _ _ hi f g h).up,
    intr := fun f g h => (IntrOk.env (E := { P := P, fn := fn, ty := ty, intr := .nil }) (E' := { P := P, fn := fn, ty := ty, intr := it }) rfl (T.all_get _ _ hi f g h)).ok }
theorem allT_nil {α : Type} {p : Nat → α → Prop} {key : Nat → Nat} : T.All p (.nil : T α) key := trivial
theorem T.all_of {α : Type} {p : Nat → α → Prop} : ∀ (t : T α) (key : Nat → Nat), (∀ k x, t.get k = some x → p (key k) x) → T.All p t key
  | .nil, _, _ => trivial
  | .node v l r, key, h => ⟨fun x hx => h 0 x hx, T.all_of l _ (fun k x hx => by
      have := h (2 * k + 1) x (by rw [T.get_succ, if_pos (by omega), show 2 * k / 2 = k by omega]; exact hx)
      exact this), T.all_of r _ (fun k x hx => by
      have := h (2 * k + 2) x (by rw [T.get_succ, if_neg (by omega), show (2 * k + 1) / 2 = k by omega]; exact hx)
      exact this)⟩
/-- One more contract. -/
theorem allT_put {α : Type} {p : Nat → α → Prop} {t : T α} (h : T.All p t (fun j => j)) {k : Nat} {x : α} (hx : p k x) : T.All p (t.put k x) (fun j => j) :=
  T.all_of _ _ fun j y e => by
    rw [T.get_put] at e
    split at e
    · rename_i hj
      subst hj
      cases e
      exact hx
    · exact T.all_get _ _ h j y e
end Go.Proofs.YtlkhpgocbojdgaaGreatDoor.Ai
/-
  A RANGE OVER A MAP: whichever entry comes next.
-/
namespace Go.Proofs.YtlkhpgocbojdgaaGreatDoor.Ai
open Go
set_option linter.unusedSimpArgs false
set_option linter.unusedVariables false
variable {E : Env}

/-- The state behind a step that found an entry, and behind the last. -/
noncomputable def nextSt (s : ASt) (d1 d2 r m since : Nat) (seen : List Nat) (e : MapEntry) : ASt :=
  { s with tmps := (s.tmps.put d1 (.tuple #[.bool true, e.key, e.val])).put d2 (.bool true), heap := s.heap.set r (.mapIter (some m) since (seen ++ [e.born]) since) }
noncomputable def overSt (s : ASt) (d1 d2 : Nat) : ASt :=
  { s with tmps := (s.tmps.put d1 (.tuple #[.bool false])).put d2 (.bool false) }

theorem next_run {ρ0 : Ren} {h0 : AHeap} {w0 : World} {s : ASt} {a : Act} {w : World} (g : Good ρ0 h0 w0 s a w) {it r m since : Nat} {seen : List Nat} {es : List MapEntry} (h1 : s.tmps.get it = some (.pointer (some ⟨r, 0, none⟩)))
    (h2 : s.heap.get r = some (.mapIter (some m) since seen since)) (h3 : s.heap.get m = some (.map es since)) (hold : ∀ e ∈ es, e.born < since) (ty : TypeId) :
    ((∀ e ∈ es, e.born ∈ seen) ∧ (Instr.next (a.eval (.tmp it)) false ty).run E.P w = .ok (.tuple #[.bool false]) w) ∨
    ∃ e v w', e ∈ es ∧ e.born ∉ seen ∧ (Instr.next (a.eval (.tmp it)) false ty).run E.P w = .ok v w' ∧
      ∃ ρ', Adv ρ0 ρ' h0 (s.heap.set r (.mapIter (some m) since (seen ++ [e.born]) since)) w0 w' ∧ VR ρ' (.tuple #[.bool true, e.key, e.val]) v ∧ TR ρ' s.tmps a.tmps ∧ MR ρ' s.marks a.defers := by
  obtain ⟨ρ, A, hT, hM⟩ := g
  have hv := evalO_sound hT (x := .tmp it) h1
  generalize hev : a.eval (.tmp it) = p at hv
  cases hv with
  | ptr hρ =>
    rename_i c N
    obtain ⟨o', ho, hor⟩ := A.rel.obj _ _ h2 c N hρ
    cases hor with
    | mapIter hρm =>
      rename_i cm M
      obtain ⟨om, hom, horm⟩ := A.rel.obj _ _ h3 cm M hρm
      cases horm with
      | map hl he =>
        rename_i fs
        have hold' : ∀ x ∈ fs.toList, x.born < since := by
          intro x hx
          obtain ⟨i, hi⟩ := List.mem_iff_getElem?.1 hx
          have hlt : i < es.length := by
            have := (List.getElem?_eq_some_iff.1 hi).1
            rw [Array.length_toList] at this
            omega
          have := he i _ x (List.getElem?_eq_getElem hlt) (by rw [← Array.getElem?_toList]; exact hi)
          rw [this.born]
          exact hold _ (List.getElem_mem hlt)
        rcases run_next_at (P := E.P) w ty c cm since since ⟨seen⟩ fs since ho hom hold' (Nat.le_refl _) with ⟨k1, k2⟩ | ⟨e', k1, w1, k2, k3⟩
        · refine .inl ⟨fun e hm => ?_, k2⟩
          obtain ⟨i, hi⟩ := List.mem_iff_getElem?.1 hm
          have hlt : i < fs.size := by
            have := (List.getElem?_eq_some_iff.1 hi).1
            omega
          have her := he i e _ hi (Array.getElem?_eq_getElem hlt)
          by_cases hs : e.born ∈ seen
          · exact hs
          · exfalso
            have : fs[i] ∈ leftOf fs ⟨seen⟩ := by
              unfold leftOf
              rw [Array.mem_filter]
              refine ⟨Array.getElem_mem hlt, ?_⟩
              rw [her.born]
              simpa using hs
            have h0 : leftOf fs ⟨seen⟩ = #[] := Array.eq_empty_of_size_eq_zero k1
            rw [h0] at this
            simp at this
        · unfold leftOf at k1
          simp only [Array.toList_filter, List.mem_filter] at k1
          obtain ⟨q1, q2⟩ := k1
          obtain ⟨i, hi⟩ := List.mem_iff_getElem?.1 q1
          have hlt : i < es.length := by
            have := (List.getElem?_eq_some_iff.1 hi).1
            rw [Array.length_toList] at this
            omega
          have her := he i _ e' (List.getElem?_eq_getElem hlt) (by rw [← Array.getElem?_toList]; exact hi)
          refine .inr ⟨es[i], .tuple #[.bool true, e'.key, e'.val], _, List.getElem_mem hlt, ?_, k3, ?_⟩
          · rw [← her.born]
            simpa using q2
          · have hw1 : w1.heap = w.heap ∧ w1.os = w.os ∧ w1.tape = w.tape ∧ w1.output = w.output := by
              rcases k2 with e | e <;> subst e <;> exact ⟨rfl, rfl, rfl, rfl⟩
            have hclt := (Array.getElem?_eq_some_iff.1 ho).1
            have B : Adv ρ ρ s.heap (s.heap.set r (.mapIter (some m) since (seen ++ [es[i].born]) since)) w (ChangeMaps.setBlock w1 c (.mapIter (some cm) since ((⟨seen⟩ : Array Nat).push e'.born) since)) := by
              have hpush : (⟨seen⟩ : Array Nat).push e'.born = ⟨seen ++ [es[i].born]⟩ := by rw [her.born]; simp
              rw [hpush]
              refine Adv.set A.rel h2 rfl hρ _ _ (.mapIter hρm) hw1.2.1 hw1.2.2.1 hw1.2.2.2 ?_ ?_ ?_
              · simp [ChangeMaps.setBlock, hw1.1]
              · simp [ChangeMaps.setBlock, hw1.1, hclt]
              · intro d hd
                simp [ChangeMaps.setBlock, hw1.1, Array.getElem?_setIfInBounds_ne (Ne.symm hd)]
            refine ⟨ρ, A.trans B, .tuple rfl (fun j x y hx hy => ?_), hT, hM⟩
            match j with
            | 0 => simp at hx hy; subst hx; subst hy; exact .bool _
            | 1 => simp at hx hy; subst hx; subst hy; rw [her.key]; exact flat_VR _ her.flat
            | 2 => simp at hx hy; subst hx; subst hy; exact her.val
            | j + 3 => simp at hx

theorem nodup_le : ∀ {l m : List Nat}, l.Nodup → (∀ b ∈ l, b ∈ m) → l.length ≤ m.length
  | [], m, _, _ => Nat.zero_le _
  | x :: l, m, hn, hs => by
    obtain ⟨h1, h2⟩ := List.nodup_cons.1 hn
    have hx := hs x List.mem_cons_self
    have := nodup_le (l := l) (m := m.erase x) h2 (fun b hb => by
      have hb' := hs b (List.mem_cons_of_mem _ hb)
      have hne : b ≠ x := by rintro rfl; exact h1 hb
      exact (List.mem_erase_of_ne hne).2 hb')
    rw [List.length_erase_of_mem hx] at this
    have : 0 < m.length := List.length_pos_of_mem hx
    rw [List.length_cons]
    omega

/-- A loop over a map's entries: the same end, in whatever order they come. -/
theorem LoopR.mapRange {rd : Option Nat} {h0 : AHeap} (K : E.Runs) {id : Nat} {o0 o1 : Oper} {rest : Code} {it d1 d2 r m since : Nat} {es : List MapEntry} {st : List Nat → ASt} {x : AExit} {fin : ASt}
    (q0 : o0.op = .next (.tmp it) false) (g0 : o0.guard = none) (e0 : o0.dst = some d1) (q1 : o1.op = .extract (.tmp d1) 0) (g1 : o1.guard = none) (e1 : o1.dst = some d2)
    (hit : ∀ seen, (st seen).tmps.get it = some (.pointer (some ⟨r, 0, none⟩))) (hr : ∀ seen, (st seen).heap.get r = some (.mapIter (some m) since seen since)) (hm : ∀ seen, (st seen).heap.get m = some (.map es since))
    (hold : ∀ e ∈ es, e.born < since) (hnd : (es.map (·.born)).Nodup)
    (round : ∀ seen e, e ∈ es → e.born ∉ seen → seen.Nodup → (∀ b ∈ seen, b ∈ es.map (·.born)) → Den E rd h0 rest (nextSt (st seen) d1 d2 r m since seen e) .normal (st (seen ++ [e.born])))
    (over : ∀ seen, seen.Nodup → (∀ b, b ∈ seen ↔ b ∈ es.map (·.born)) → Den E rd h0 rest (overSt (st seen) d1 d2) x fin) (hx : x ≠ .normal) :
    LoopR E rd h0 (.seq (.region id #[o0, o1] false) rest) (st []) x fin := by
  -- one step, whatever comes behind it
  have step : ∀ (seen : List Nat) (ρ0 : Ren) (w0 : World) (rc : Option Nat) (N : Nat) (a : Act) (w : World), RD ρ0 rd rc → Tight ρ0 h0 w0 → Rel ρ0 h0 w0 → Good ρ0 h0 w0 (st seen) a w → codeOk N (.seq (.region id #[o0, o1] false) rest) = true → N ≤ a.tmps.size →
      ∀ (Q : Exit → Act → World → Prop), ((∀ e ∈ es, e.born ∈ seen) → ∀ a1 w1, Good ρ0 h0 w0 (overSt (st seen) d1 d2) a1 w1 → a1.tmps.size = a.tmps.size → rest.wpIn (fence rc) 0 E.P Q a1 w1) →
      (∀ e ∈ es, e.born ∉ seen → ∀ a1 w1, Good ρ0 h0 w0 (nextSt (st seen) d1 d2 r m since seen e) a1 w1 → a1.tmps.size = a.tmps.size → rest.wpIn (fence rc) 0 E.P Q a1 w1) →
      (Code.seq (.region id #[o0, o1] false) rest).wpIn (fence rc) 0 E.P Q a w := by
    intro seen ρ0 w0 rc N a w hrd ht R g hc hsz Q hover hnext
    simp only [codeOk, Bool.and_eq_true] at hc
    have hd : ∀ o ∈ (#[o0, o1] : Array Oper).toList, ∀ d, o.dst = some d → d < N := fun o ho d hdd => by
      have := List.all_eq_true.1 hc.1.1 o ho
      rw [hdd] at this
      simpa [Nat.blt_eq] using this
    have hd1 : d1 < a.tmps.size := Nat.lt_of_lt_of_le (hd o0 (by simp) d1 e0) hsz
    refine wpIn_seq (wpIn_region ?_)
    show wpOpsIn (fence rc) 0 E.P #[o0, o1] _ [0, 1] a w
    have hget : (#[o0, o1] : Array Oper)[0]? = some o0 := rfl
    unfold wpOpsIn
    rw [hget]
    dsimp only
    have hw0 : Region.wanted o0 (yielded #[o0, o1] a.tmps) = true := by unfold Region.wanted; rw [g0]
    rw [if_pos hw0]
    refine ⟨fun f _ => fence_fn rc f, ?_⟩
    rw [Oper.semAt_eq _ _ _ (fun c hcc => by rw [q0] at hcc; cases hcc)]
    have hex : ∀ v w', (Instr.next (a.eval (.tmp it)) false o0.type).run E.P w = .ok v w' → (execOp a.eval o0).run E.P w = .ok (.value v) w' := by
      intro v w' hh
      unfold execOp
      rw [q0]
      simp only [Sem.run_bind, hh, Result.andThen_ok, Sem.run_pure]
    -- the second operation
    have second : ∀ (b : Bool) (vs : List Value) (h1 : AHeap) (v : Value) (w' : World) (ρ' : Ren), Adv ρ0 ρ' h0 h1 w0 w' → VR ρ' (.tuple ⟨.bool b :: vs⟩) v → TR ρ' (st seen).tmps a.tmps → MR ρ' (st seen).marks a.defers →
        (∀ a1 w1, Good ρ0 h0 w0 { st seen with tmps := ((st seen).tmps.put d1 (.tuple ⟨.bool b :: vs⟩)).put d2 (.bool b), heap := h1 } a1 w1 → a1.tmps.size = a.tmps.size → rest.wpIn (fence rc) 0 E.P Q a1 w1) →
        wpOpsIn (fence rc) 0 E.P #[o0, o1] (Exit.then (rest.wpIn (fence rc) 0 E.P Q) Q) [1] (a.put o0.dst v) w' := by
      intro b vs h1 v w' ρ' A hv hT hM hk
      rw [e0]
      obtain ⟨hT1, _, hs1, hdf1⟩ := put_sound (a := a) (dst := some d1) (r := some (.tuple ⟨.bool b :: vs⟩)) (v' := v) hT trivial (fun d hdd => by cases hdd; exact hd1) hv
      have hseq : seqOps E (ex E 0) (#[o0, o1] : Array Oper).toList [o1] (putT (st seen).tmps (some d1) (some (.tuple ⟨.bool b :: vs⟩))) h1 = some (((st seen).tmps.put d1 (.tuple ⟨.bool b :: vs⟩)).put d2 (.bool b), h1) := by
        have hwa : wantedA (#[o0, o1] : Array Oper).toList ((st seen).tmps.put d1 (.tuple ⟨.bool b :: vs⟩)) o1 = some true := by unfold wantedA; rw [g1]
        have hst : stepA E (ex E 0) ((st seen).tmps.put d1 (.tuple ⟨.bool b :: vs⟩)) h1 o1 = some (some (.bool b), h1) := by
          unfold stepA
          rw [q1]
          unfold aop
          rw [q1]
          simp only [evalO, T.get_put, if_true, extractA, List.getElem?_cons_zero, ret]
        simp only [putT, seqOps, hwa, hst, e1]
      have := seq_sound K (ex_sound K 0) rc (Q := Exit.then (rest.wpIn (fence rc) 0 E.P Q) Q) hd [o1] 1 rfl hseq (ht.adv A) A.rel hT1 trivial (by rw [hs1]; exact hsz) (fun ρ2 a2 w2 b1 b2 b3 b4 B => ?_)
      · exact this
      · exact hk a2 w2 ⟨ρ2, A.trans B, b1, by rw [b4, hdf1]; exact hM.mono B.ext⟩ (by omega)
    rcases next_run (E := E) g (hit seen) (hr seen) (hm seen) hold o0.type with ⟨k1, k2⟩ | ⟨e, v, w', k1, k2, k3, ρ', A, hv, hT, hM⟩
    · rw [hex _ _ k2, Oper.uponIn_value]
      obtain ⟨ρ, A, hT, hM⟩ := g
      exact second false [] (st seen).heap _ w ρ A (flat_VR _ rfl) hT hM (hover k1)
    · rw [hex _ _ k3, Oper.uponIn_value]
      exact second true [e.key, e.val] _ v w' ρ' A hv hT hM (hnext e k1 k2)
  have key : ∀ (d : Nat) (seen : List Nat), seen.length + d = es.length → seen.Nodup → (∀ b ∈ seen, b ∈ es.map (·.born)) → DenL E rd h0 (d + 1) (.seq (.region id #[o0, o1] false) rest) (st seen) x fin := by
    intro d
    induction d with
    | zero =>
      intro seen hl hs hsub ρ0 w0 rc N a w hrd ht R g hc hsz Q hQ
      have hc' := hc
      simp only [codeOk, Bool.and_eq_true] at hc'
      rw [roundsIn_succ]
      refine step seen ρ0 w0 rc N a w hrd ht R g hc hsz _ ?_ ?_
      · intro hall a1 w1 g1 hs1
        refine over seen hs (fun b => ⟨hsub b, fun hb => ?_⟩) ρ0 w0 rc N a1 w1 hrd ht R g1 hc'.2 (by omega) _ (fun a2 w2 g2 hs2 => ?_)
        · obtain ⟨e, h1, rfl⟩ := List.mem_map.1 hb
          exact hall e h1
        · have := hQ a2 w2 g2 (by omega)
          cases x with
          | normal => exact absurd rfl hx
          | exit i => exact this
          | ret => exact this
      · intro e he hne
        exfalso
        have := nodup_le (l := e.born :: seen) (m := es.map (·.born)) (List.nodup_cons.2 ⟨hne, hs⟩) (fun b hb => by
          rcases List.mem_cons.1 hb with q | q
          · rw [q]; exact List.mem_map.2 ⟨e, he, rfl⟩
          · exact hsub b q)
        simp at this
        omega
    | succ d ih =>
      intro seen hl hs hsub ρ0 w0 rc N a w hrd ht R g hc hsz Q hQ
      have hc' := hc
      simp only [codeOk, Bool.and_eq_true] at hc'
      rw [roundsIn_succ]
      refine step seen ρ0 w0 rc N a w hrd ht R g hc hsz _ ?_ ?_
      · intro hall a1 w1 g1 hs1
        refine over seen hs (fun b => ⟨hsub b, fun hb => ?_⟩) ρ0 w0 rc N a1 w1 hrd ht R g1 hc'.2 (by omega) _ (fun a2 w2 g2 hs2 => ?_)
        · obtain ⟨e, h1, rfl⟩ := List.mem_map.1 hb
          exact hall e h1
        · have := hQ a2 w2 g2 (by omega)
          cases x with
          | normal => exact absurd rfl hx
          | exit i => exact this
          | ret => exact this
      · intro e he hne a1 w1 g1 hs1
        refine round seen e he hne hs hsub ρ0 w0 rc N a1 w1 hrd ht R g1 hc'.2 (by omega) _ (fun a2 w2 g2 hs2 => ?_)
        refine ih (seen ++ [e.born]) (by simp; omega) ?_ ?_ ρ0 w0 rc N a2 w2 hrd ht R g2 hc (by omega) Q (fun a3 w3 g3 hs3 => hQ a3 w3 g3 (by omega))
        · rw [List.nodup_append]
          refine ⟨hs, by simp, fun b hb c hcm => ?_⟩
          simp at hcm
          subst hcm
          rintro rfl
          exact hne hb
        · intro b hb
          rcases List.mem_append.1 hb with q | q
          · exact hsub b q
          · simp at q
            rw [q]
            exact List.mem_map.2 ⟨e, he, rfl⟩
  exact ⟨_, key es.length [] (by simp) List.nodup_nil (by simp)⟩
end Go.Proofs.YtlkhpgocbojdgaaGreatDoor.Ai
/-
  EQUALITY OF STRUCTS OF INTEGERS, and a key found among a map's entries, as the evaluator reckons them.
-/
namespace Go.Proofs.YtlkhpgocbojdgaaGreatDoor.Ai
open Go
set_option linter.unusedSimpArgs false
set_option linter.unusedVariables false

section
variable {P : Program}
theorem runP_bindE {α β : Type} : ∀ (s : Sem α) (f : α → Sem β), runP P (s >>= f) = (runP P s).bind fun a => runP P (f a) := by
  intro s
  induction s with
  | pure a => intro f; rfl
  | program k ih => intro f; exact ih P f
  | mark m k ih => intro f; exact ih f
  | _ => intro f; rfl
theorem runP_pure {α : Type} (a : α) : runP P (pure a : Sem α) = some a := rfl
theorem runP_program : runP P program = some P := rfl
theorem runP_underlying {t : TypeId} {d : TypeDesc} (h : P.underlying t = some d) : runP P (underlying t) = some d := by
  unfold underlying
  rw [runP_bindE, runP_program]
  simp [h]
  rfl
theorem runP_eqInt (d : Nat) {t : TypeId} {k k' : IntKind} (a b : Int) (h : P.underlying t = some (.int k')) : runP P (Op.equalIn (d + 1) t (.int k a) (.int k b)) = some (a == b) := by
  simp only [Op.equalIn, runP_bindE, runP_underlying h, Option.bind_some, if_true]
  rfl
theorem runP_ite {α : Type} {c : Prop} [Decidable c] (x y : Sem α) : runP P (if c then x else y) = if c then runP P x else runP P y := by split <;> rfl
theorem runP_eqStruct (d : Nat) {t : TypeId} {fs : Array Field} (xs ys : Array Value) (ht : P.underlying t = some (.struct fs)) (hp : P.stoodInHeld t = false) :
    runP P (Op.equalIn (d + 1) t (.agg xs) (.agg ys)) = runP P (Op.eqFields d xs ys fs.toList) := by
  simp only [Op.equalIn, runP_bindE, runP_underlying ht, Option.bind_some, runP_program, hp, Bool.false_eq_true, if_false]
  rw [← Array.forIn_toList]
  generalize fs.toList = l
  induction l with
  | nil => rfl
  | cons f l ih =>
    simp only [List.forIn_cons, Op.eqFields, runP_bindE, runP_ite]
    split
    · cases runP P (part f.type xs f.offset) with
      | none => rfl
      | some a =>
        simp only [Option.bind_some]
        cases runP P (part f.type ys f.offset) with
        | none => rfl
        | some b =>
          simp only [Option.bind_some]
          cases runP P (Op.equalIn d f.type a b) with
          | none => rfl
          | some r =>
            cases r
            · rfl
            · simp only [Option.bind_some, Bool.not_true, Bool.false_eq_true, if_false, runP_pure]
              exact ih
    · simp only [runP_pure, Option.bind_some]
      exact ih
theorem runP_fieldInt (d : Nat) {xs ys : Array Value} {f : Field} {fs : List Field} {k k' : IntKind} {a b : Int} (hn : (f.name == "_") = false) (hx : runP P (part f.type xs f.offset) = some (.int k a)) (hy : runP P (part f.type ys f.offset) = some (.int k b)) (h : P.underlying f.type = some (.int k')) :
    runP P (Op.eqFields (d + 1) xs ys (f :: fs)) = if a = b then runP P (Op.eqFields (d + 1) xs ys fs) else some false := by
  have hn' : f.name ≠ "_" := by simpa using hn
  simp only [Op.eqFields]
  rw [if_pos hn', runP_bindE, hx, Option.bind_some, runP_bindE, hy, Option.bind_some, runP_bindE, runP_eqInt d a b h, Option.bind_some, runP_ite]
  by_cases e : a = b
  · simp [e]
  · simp [e]; rfl
end
end Go.Proofs.YtlkhpgocbojdgaaGreatDoor.Ai

/-
  PLAIN LAWS of nets: their order, two nets merged, bars sorted by insertion.
-/
import Derived.Test.YtlkhpgocbojdgaaGreatDoorNtD
namespace Go.Proofs.YtlkhpgocbojdgaaGreatDoor.Ai
open Go
set_option linter.unusedSimpArgs false
set_option linter.unusedVariables false

/-! ### The order of bars -/
theorem less_irr (a : B3) : lessB a a = false := by simp [lessB]
theorem less_trans {a b c : B3} (h : lessB a b = true) (k : lessB b c = true) : lessB a c = true := by
  simp only [lessB, decide_eq_true_eq] at *
  omega
theorem less_asymm {a b : B3} (h : lessB a b = true) : lessB b a = false := by
  simp only [lessB, decide_eq_true_eq, decide_eq_false_iff_not] at *
  omega
theorem B3.ext' {a b : B3} (h1 : a.x = b.x) (h2 : a.y = b.y) (h3 : a.s = b.s) : a = b := by
  cases a; cases b; simp at h1 h2 h3; simp [h1, h2, h3]
theorem less_tri {a b : B3} (h : lessB a b = false) (k : lessB b a = false) : a = b := by
  simp only [lessB, decide_eq_false_iff_not] at *
  exact B3.ext' (by omega) (by omega) (by omega)
theorem less_ne {a b : B3} (h : lessB a b = true) : a ≠ b := by
  rintro rfl
  rw [less_irr] at h
  cases h
/-- Bars in their order, each once. -/
def Asc (l : List B3) : Prop := l.Pairwise fun a b => lessB a b = true
theorem Asc.tail {a : B3} {l : List B3} (h : Asc (a :: l)) : Asc l := (List.pairwise_cons.1 h).2
theorem Asc.head {a : B3} {l : List B3} (h : Asc (a :: l)) : ∀ b ∈ l, lessB a b = true := (List.pairwise_cons.1 h).1
theorem asc_cons {a : B3} {l : List B3} (h : ∀ b ∈ l, lessB a b = true) (k : Asc l) : Asc (a :: l) := List.pairwise_cons.2 ⟨h, k⟩
theorem Asc.nodup {l : List B3} (h : Asc l) : l.Nodup := h.imp fun h => less_ne h
/-- Such a list is told by its members. -/
theorem asc_ext : ∀ {l m : List B3}, Asc l → Asc m → (∀ x, x ∈ l ↔ x ∈ m) → l = m
  | [], [], _, _, _ => rfl
  | [], b :: m, _, _, h => absurd ((h b).2 List.mem_cons_self) (by simp)
  | a :: l, [], _, _, h => absurd ((h a).1 List.mem_cons_self) (by simp)
  | a :: l, b :: m, hl, hm, h => by
    have hab : a = b := by
      rcases List.mem_cons.1 ((h a).1 List.mem_cons_self) with e | e
      · exact e
      · rcases List.mem_cons.1 ((h b).2 List.mem_cons_self) with f | f
        · exact f.symm
        · have h1 := hm.head a e
          have h2 := hl.head b f
          rw [less_asymm h1] at h2
          cases h2
    subst hab
    rw [asc_ext hl.tail hm.tail (fun x => ⟨fun hx => ?_, fun hx => ?_⟩)]
    · rcases List.mem_cons.1 ((h x).1 (List.mem_cons_of_mem _ hx)) with e | e
      · have := hl.head x hx
        exact absurd e.symm (less_ne this)
      · exact e
    · rcases List.mem_cons.1 ((h x).2 (List.mem_cons_of_mem _ hx)) with e | e
      · have := hm.head x hx
        exact absurd e.symm (less_ne this)
      · exact e
theorem netFrom_zero : ∀ {l : List B3} {p : Option B3}, netFrom p l = 0 → Asc l ∧ (∀ b ∈ l, barE b.x b.y b.s = 0) ∧ ∀ q, p = some q → ∀ b ∈ l, lessB q b = true
  | [], p, _ => ⟨List.Pairwise.nil, by simp, by simp⟩
  | b :: r, none, h => by
    unfold netFrom at h
    split at h
    · rename_i h0
      obtain ⟨h1, h2, h3⟩ := netFrom_zero h
      refine ⟨asc_cons (h3 b rfl) h1, ?_, by simp⟩
      intro x hx
      rcases List.mem_cons.1 hx with e | e
      · rw [e]; exact h0
      · exact h2 x e
    · exact absurd h (by assumption)
  | b :: r, some p, h => by
    unfold netFrom at h
    split at h
    · rename_i h0
      split at h
      · rename_i hl
        obtain ⟨h1, h2, h3⟩ := netFrom_zero h
        refine ⟨asc_cons (h3 b rfl) h1, ?_, ?_⟩
        · intro x hx
          rcases List.mem_cons.1 hx with e | e
          · rw [e]; exact h0
          · exact h2 x e
        · intro q hq x hx
          cases hq
          rcases List.mem_cons.1 hx with e | e
          · rw [e]; exact hl
          · exact less_trans hl (h3 b rfl x e)
      · cases h
    · exact absurd h (by assumption)
theorem netFrom_of : ∀ {l : List B3} {p : Option B3}, Asc l → (∀ b ∈ l, barE b.x b.y b.s = 0) → (∀ q, p = some q → ∀ b ∈ l, lessB q b = true) → netFrom p l = 0
  | [], p, _, _, _ => by cases p <;> rfl
  | b :: r, none, h1, h2, h3 => by
    unfold netFrom
    rw [if_pos (h2 b List.mem_cons_self)]
    exact netFrom_of h1.tail (fun x hx => h2 x (List.mem_cons_of_mem _ hx)) (fun q hq x hx => by cases hq; exact h1.head x hx)
  | b :: r, some p, h1, h2, h3 => by
    unfold netFrom
    rw [if_pos (h2 b List.mem_cons_self), if_pos (h3 p rfl b List.mem_cons_self)]
    exact netFrom_of h1.tail (fun x hx => h2 x (List.mem_cons_of_mem _ hx)) (fun q hq x hx => by cases hq; exact h1.head x hx)
theorem netE_zero {l : List B3} (h : netE l = 0) : Asc l ∧ (∀ b ∈ l, barE b.x b.y b.s = 0) ∧ l.length ≤ 4096 := by
  unfold netE at h
  split at h
  · cases h
  · obtain ⟨h1, h2, _⟩ := netFrom_zero h
    exact ⟨h1, h2, by omega⟩
theorem netE_of {l : List B3} (h1 : Asc l) (h2 : ∀ b ∈ l, barE b.x b.y b.s = 0) (h3 : l.length ≤ 4096) : netE l = 0 := by
  unfold netE
  rw [if_neg (by omega)]
  exact netFrom_of h1 h2 (fun q hq => by cases hq)

/-! ### Two nets merged -/
def mergeB (keep : Bool → Bool → Bool) : List B3 → List B3 → List B3
  | [], [] => []
  | a :: l, [] => (if keep true false then [a] else []) ++ mergeB keep l []
  | [], b :: m => (if keep false true then [b] else []) ++ mergeB keep [] m
  | a :: l, b :: m => if lessB a b then (if keep true false then [a] else []) ++ mergeB keep l (b :: m) else if lessB b a then (if keep false true then [b] else []) ++ mergeB keep (a :: l) m else (if keep true true then [a] else []) ++ mergeB keep l m
  termination_by l m => l.length + m.length
theorem ite_mem {p : Bool} {a x : B3} : x ∈ (if p = true then [a] else []) ↔ (x = a ∧ p = true) := by cases p <;> simp
theorem mergeB_mem (keep : Bool → Bool → Bool) : ∀ (n : Nat) (l m : List B3), l.length + m.length = n → Asc l → Asc m → ∀ x, x ∈ mergeB keep l m ↔ (x ∈ l ∧ x ∈ m ∧ keep true true = true) ∨ (x ∈ l ∧ ¬ x ∈ m ∧ keep true false = true) ∨ (¬ x ∈ l ∧ x ∈ m ∧ keep false true = true)
  | n, [], [], _, _, _, x => by simp [mergeB]
  | n, a :: l, [], hn, hl, hm, x => by
    rw [mergeB, List.mem_append, ite_mem, mergeB_mem keep (l.length) l [] (by simp) hl.tail hm x]
    have := hl.nodup
    have hna : ¬ a ∈ l := (List.nodup_cons.1 this).1
    simp only [List.mem_cons, List.not_mem_nil]
    by_cases e : x = a
    · subst e; simp [hna]
    · simp [e]
  | n, [], b :: m, hn, hl, hm, x => by
    rw [mergeB, List.mem_append, ite_mem, mergeB_mem keep (m.length) [] m (by simp) hl hm.tail x]
    have := hm.nodup
    have hnb : ¬ b ∈ m := (List.nodup_cons.1 this).1
    simp only [List.mem_cons, List.not_mem_nil]
    by_cases e : x = b
    · subst e; simp [hnb]
    · simp [e]
  | n, a :: l, b :: m, hn, hl, hm, x => by
    have hna : ¬ a ∈ l := (List.nodup_cons.1 hl.nodup).1
    have hnb : ¬ b ∈ m := (List.nodup_cons.1 hm.nodup).1
    simp only [List.length_cons] at hn
    rw [mergeB]
    by_cases h1 : lessB a b = true
    · rw [if_pos h1, List.mem_append, ite_mem, mergeB_mem keep (l.length + (b :: m).length) l (b :: m) rfl hl.tail hm x]
      have hnam : ¬ a ∈ b :: m := by
        intro h
        rcases List.mem_cons.1 h with e | e
        · exact less_ne h1 e
        · have := less_trans h1 (hm.head a e)
          rw [less_irr] at this
          cases this
      by_cases e : x = a
      · subst e; simp [hna, hnam]
      · simp only [List.mem_cons, e, false_or, false_and]
    · rw [if_neg h1]
      by_cases h2 : lessB b a = true
      · rw [if_pos h2, List.mem_append, ite_mem, mergeB_mem keep ((a :: l).length + m.length) (a :: l) m rfl hl hm.tail x]
        have hnbl : ¬ b ∈ a :: l := by
          intro h
          rcases List.mem_cons.1 h with e | e
          · exact less_ne h2 e
          · have := less_trans h2 (hl.head b e)
            rw [less_irr] at this
            cases this
        by_cases e : x = b
        · subst e; simp [hnb, hnbl]
        · simp only [List.mem_cons, e, false_or, false_and]
      · rw [if_neg h2, List.mem_append, ite_mem, mergeB_mem keep (l.length + m.length) l m rfl hl.tail hm.tail x]
        have hab : a = b := less_tri (by simpa using h1) (by simpa using h2)
        subst hab
        by_cases e : x = a
        · subst e; simp [hna, hnb]
        · simp only [List.mem_cons, e, false_or, false_and]
  termination_by n l m => l.length + m.length
theorem mergeB_mem' {keep : Bool → Bool → Bool} {l m : List B3} (hl : Asc l) (hm : Asc m) (x : B3) : x ∈ mergeB keep l m ↔ (x ∈ l ∧ x ∈ m ∧ keep true true = true) ∨ (x ∈ l ∧ ¬ x ∈ m ∧ keep true false = true) ∨ (¬ x ∈ l ∧ x ∈ m ∧ keep false true = true) := mergeB_mem keep _ l m rfl hl hm x
theorem mergeB_sub {keep : Bool → Bool → Bool} {l m : List B3} (hl : Asc l) (hm : Asc m) {x : B3} (h : x ∈ mergeB keep l m) : x ∈ l ∨ x ∈ m := by
  rcases (mergeB_mem' hl hm x).1 h with h | h | h
  · exact .inl h.1
  · exact .inl h.1
  · exact .inr h.2.1
theorem asc_app {p : Bool} {a : B3} {l : List B3} (h : ∀ b ∈ l, lessB a b = true) (k : Asc l) : Asc ((if p = true then [a] else []) ++ l) := by
  cases p
  · simpa using k
  · simpa using asc_cons h k
theorem mergeB_asc (keep : Bool → Bool → Bool) : ∀ (l m : List B3), Asc l → Asc m → Asc (mergeB keep l m)
  | [], [], _, _ => by rw [mergeB]; exact List.Pairwise.nil
  | a :: l, [], hl, hm => by
    rw [mergeB]
    refine asc_app (fun b hb => ?_) (mergeB_asc keep l [] hl.tail hm)
    rcases mergeB_sub hl.tail hm hb with h | h
    · exact hl.head b h
    · cases h
  | [], b :: m, hl, hm => by
    rw [mergeB]
    refine asc_app (fun c hc => ?_) (mergeB_asc keep [] m hl hm.tail)
    rcases mergeB_sub hl hm.tail hc with h | h
    · cases h
    · exact hm.head c h
  | a :: l, b :: m, hl, hm => by
    rw [mergeB]
    split
    · rename_i h1
      refine asc_app (fun c hc => ?_) (mergeB_asc keep l (b :: m) hl.tail hm)
      rcases mergeB_sub hl.tail hm hc with h | h
      · exact hl.head c h
      · rcases List.mem_cons.1 h with e | e
        · rw [e]; exact h1
        · exact less_trans h1 (hm.head c e)
    · split
      · rename_i h1 h2
        refine asc_app (fun c hc => ?_) (mergeB_asc keep (a :: l) m hl hm.tail)
        rcases mergeB_sub hl hm.tail hc with h | h
        · rcases List.mem_cons.1 h with e | e
          · rw [e]; exact h2
          · exact less_trans h2 (hl.head c e)
        · exact hm.head c h
      · rename_i h1 h2
        have hab : a = b := less_tri (by simpa using h1) (by simpa using h2)
        subst hab
        refine asc_app (fun c hc => ?_) (mergeB_asc keep l m hl.tail hm.tail)
        rcases mergeB_sub hl.tail hm.tail hc with h | h
        · exact hl.head c h
        · exact hm.head c h
  termination_by l m => l.length + m.length
theorem mergeB_length (keep : Bool → Bool → Bool) : ∀ (l m : List B3), (mergeB keep l m).length ≤ l.length + m.length
  | [], [] => by simp [mergeB]
  | a :: l, [] => by
    have := mergeB_length keep l []
    rw [mergeB]
    split <;> simp at * <;> omega
  | [], b :: m => by
    have := mergeB_length keep [] m
    rw [mergeB]
    split <;> simp at * <;> omega
  | a :: l, b :: m => by
    have h1 := mergeB_length keep l (b :: m)
    have h2 := mergeB_length keep (a :: l) m
    have h3 := mergeB_length keep l m
    rw [mergeB]
    split
    · split <;> simp at * <;> omega
    · split
      · split <;> simp at * <;> omega
      · split <;> simp at * <;> omega
  termination_by l m => l.length + m.length

/-! ### The reference: bars sorted by insertion -/
/-- Where a bar belongs. -/
def placeB : List B3 → B3 → Nat
  | [], _ => 0
  | o :: out, x => if lessB o x then placeB out x + 1 else 0
def insB (out : List B3) (x : B3) : List B3 := if out[placeB out x]? = some x then out else out.take (placeB out x) ++ x :: out.drop (placeB out x)
def sortB : List B3 → List B3 → List B3
  | out, [] => out
  | out, x :: l => sortB (insB out x) l
theorem insB_cons (o x : B3) (out : List B3) : insB (o :: out) x = if lessB o x then o :: insB out x else if o = x then o :: out else x :: o :: out := by
  unfold insB
  simp only [placeB]
  by_cases h : lessB o x = true
  · simp only [h, if_true, List.getElem?_cons_succ]
    split <;> simp
  · simp only [h]
    by_cases e : o = x
    · simp [e]
    · simp [e]
theorem insB_mem : ∀ (out : List B3) (x z : B3), z ∈ insB out x ↔ z = x ∨ z ∈ out
  | [], x, z => by simp [insB, placeB]
  | o :: out, x, z => by
    rw [insB_cons]
    split
    · simp only [List.mem_cons, insB_mem out x z]
      constructor
      · rintro (h | h | h) <;> simp [h]
      · rintro (h | h | h) <;> simp [h]
    · split
      · rename_i e
        subst e
        simp
      · simp
theorem insB_asc : ∀ (out : List B3) (x : B3), Asc out → Asc (insB out x)
  | [], x, _ => by simp [insB, placeB, Asc]
  | o :: out, x, h => by
    rw [insB_cons]
    split
    · rename_i h1
      refine asc_cons (fun z hz => ?_) (insB_asc out x h.tail)
      rcases (insB_mem out x z).1 hz with e | e
      · rw [e]; exact h1
      · exact h.head z e
    · split
      · exact h
      · rename_i h1 h2
        have h3 : lessB x o = true := by
          cases q : lessB x o with
          | true => rfl
          | false => exact absurd (less_tri (by simpa using h1) q) h2
        refine asc_cons (fun z hz => ?_) h
        rcases List.mem_cons.1 hz with e | e
        · rw [e]; exact h3
        · exact less_trans h3 (h.head z e)
theorem sortB_mem : ∀ (l out : List B3) (z : B3), z ∈ sortB out l ↔ z ∈ out ∨ z ∈ l
  | [], out, z => by simp [sortB]
  | x :: l, out, z => by
    rw [sortB, sortB_mem l, insB_mem, List.mem_cons]
    constructor
    · rintro ((h | h) | h) <;> simp [h]
    · rintro (h | h | h) <;> simp [h]
theorem sortB_asc : ∀ (l out : List B3), Asc out → Asc (sortB out l)
  | [], out, h => h
  | x :: l, out, h => sortB_asc l _ (insB_asc out x h)
theorem insB_length (out : List B3) (x : B3) : (insB out x).length ≤ out.length + 1 := by
  unfold insB
  split
  · omega
  · simp only [List.length_append, List.length_cons, List.length_take, List.length_drop]; omega
theorem sortB_length : ∀ (l out : List B3), (sortB out l).length ≤ out.length + l.length
  | [], out => by simp [sortB]
  | x :: l, out => by
    have := sortB_length l (insB out x)
    have := insB_length out x
    rw [sortB, List.length_cons]
    omega
theorem placeB_le : ∀ (out : List B3) (x : B3), placeB out x ≤ out.length
  | [], x => Nat.le_refl _
  | o :: out, x => by
    have := placeB_le out x
    simp only [placeB]
    split <;> simp <;> omega
theorem sortB_of_asc {l m : List B3} (hm : Asc m) (h : ∀ x, x ∈ l ↔ x ∈ m) : sortB [] l = m := asc_ext (sortB_asc l [] List.Pairwise.nil) hm fun x => by rw [sortB_mem, h x]; simp

/-! ### The three ways to put nets together -/
theorem union_law {a b : List B3} (ha : Asc a) (hb : Asc b) : mergeB (fun p q => p || q) a b = sortB [] (a ++ b) :=
  asc_ext (mergeB_asc _ a b ha hb) (sortB_asc _ [] List.Pairwise.nil) fun x => by
    rw [mergeB_mem' ha hb, sortB_mem, List.mem_append]
    by_cases h1 : x ∈ a <;> by_cases h2 : x ∈ b <;> simp [h1, h2]
theorem minus_law {a b : List B3} (ha : Asc a) (hb : Asc b) : mergeB (fun p q => p && !q) a b = a.filter (fun x => !decide (x ∈ b)) :=
  asc_ext (mergeB_asc _ a b ha hb) (ha.filter _) fun x => by
    rw [mergeB_mem' ha hb, List.mem_filter]
    by_cases h1 : x ∈ a <;> by_cases h2 : x ∈ b <;> simp [h1, h2]
theorem meet_law {a b : List B3} (ha : Asc a) (hb : Asc b) : mergeB (fun p q => p && q) a b = a.filter (fun x => decide (x ∈ b)) :=
  asc_ext (mergeB_asc _ a b ha hb) (ha.filter _) fun x => by
    rw [mergeB_mem' ha hb, List.mem_filter]
    by_cases h1 : x ∈ a <;> by_cases h2 : x ∈ b <;> simp [h1, h2]

/-! ### Errors are not negative -/
theorem knotE_pos {x y : Int} (h : ¬ knotE x y = 0) : 0 < knotE x y := by
  unfold knotE at *
  split
  · omega
  · split
    · rename_i h1 h2
      rw [if_neg h1, if_pos h2] at h
      exact absurd rfl h
    · omega
theorem withinE_nn (n a b : Int) : 0 ≤ withinE n a b := by unfold withinE; split <;> omega
theorem barE_nn (x y s : Int) : 0 ≤ barE x y s := by
  unfold barE
  split
  · split
    · unfold reachE
      rw [first2]
      have := withinE_nn (x + s) (-100000) 100000
      have := withinE_nn (y + 1) (-100000) 100000
      split <;> omega
    · omega
  · have := knotE_pos (by assumption)
    omega
theorem netFrom_nn : ∀ (l : List B3) (p : Option B3), 0 ≤ netFrom p l
  | [], p => by cases p <;> exact Int.le_refl _
  | b :: r, none => by
    unfold netFrom
    have := netFrom_nn r (some b)
    have := barE_nn b.x b.y b.s
    split <;> omega
  | b :: r, some p => by
    unfold netFrom
    have := netFrom_nn r (some b)
    have := barE_nn b.x b.y b.s
    split
    · split <;> omega
    · omega
theorem netE_nn (l : List B3) : 0 ≤ netE l := by
  unfold netE
  have := netFrom_nn l none
  split <;> omega
end Go.Proofs.YtlkhpgocbojdgaaGreatDoor.Ai

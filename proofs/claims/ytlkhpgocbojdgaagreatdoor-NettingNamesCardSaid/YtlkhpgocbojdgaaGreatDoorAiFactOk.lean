/-
  WHAT THE EVALUATOR TELLS ALONG ONE WAY IS WHAT IT RECKONS, where the facts that it asked stand.
-/
import Derived.Test.YtlkhpgocbojdgaaGreatDoorAiFact
namespace Go.Proofs.YtlkhpgocbojdgaaGreatDoor.Ai
open Go
set_option linter.unusedSimpArgs false
set_option linter.unusedVariables false
variable {E : Env} {D : Code → ASt → AExit → ASt → Prop}

theorem AllOk.append : ∀ {a b : List Fact}, AllOk D (a ++ b) → AllOk D a ∧ AllOk D b
  | [], b, h => ⟨trivial, h⟩
  | f :: a, b, h => let ⟨h1, h2⟩ := AllOk.append (a := a) h.2; ⟨⟨h.1, h1⟩, h2⟩
theorem AllOk.strip : ∀ {fs : List Fact}, AllOk D fs → AllOk D (strip fs)
  | [], _ => trivial
  | f :: fs, h => by
    have ih := AllOk.strip h.2
    cases f <;> first | exact ih | exact ⟨h.1, ih⟩

/-- The computation answers a, where the facts that it asked stand. -/
def Got {α : Type} (D : Code → ASt → AExit → ASt → Prop) (m : M α) (a : α) : Prop := ∃ fs rest tr, m fs = .ok a rest tr ∧ AllOk D tr

section
variable {α β : Type} {a r : α} {b : β} {m : M α}
theorem got_pure (h : Got D (M.pure a) r) : r = a := by
  obtain ⟨fs, rest, tr, h, _⟩ := h
  cases h
  rfl
theorem got_fail {k : Nat} (h : Got D (M.fail k) r) : False := by
  obtain ⟨fs, rest, tr, h, _⟩ := h
  cases h
theorem got_bind {f : α → M β} (h : Got D (m >>= f) b) : ∃ a, Got D m a ∧ Got D (f a) b := by
  obtain ⟨fs, rest, tr, h, hok⟩ := h
  have h : M.bind m f fs = .ok b rest tr := h
  unfold M.bind at h
  split at h
  · rename_i a r1 t1 h1
    split at h
    · rename_i b' r2 t2 h2
      cases h
      obtain ⟨k1, k2⟩ := hok.append
      exact ⟨a, ⟨_, _, _, h1, k1⟩, ⟨_, _, _, h2, k2⟩⟩
    · cases h
    · cases h
  · cases h
  · cases h
theorem got_of {k : Nat} {o : Option α} (h : Got D (M.of k o) r) : o = some r := by
  cases o with
  | none => exact (got_fail h).elim
  | some x => rw [got_pure h]

theorem got_ask {f : Fact} {take : Fact → Option α} {mk : α → Fact} (hmk : ∀ r, (mk r).ok D → a = r) (h : Got D (ask a f take mk) r) : r = a := by
  obtain ⟨fs, rest, tr, h, hok⟩ := h
  induction fs with
  | nil => cases h
  | cons x fs ih =>
    unfold ask at h
    split at h
    · rename_i heq; cases heq
    · rename_i heq; cases heq; exact ih h
    · rename_i heq; cases heq; cases h; rfl
    · rename_i heq; cases heq; cases h; rfl
    · rename_i heq
      cases heq
      split at h
      · cases h
        exact (hmk _ hok.1).symm
      · cases h
theorem got_askO {x : Option α} {f : Fact} {take : Fact → Option α} {mk : α → Fact} (hmk : ∀ r, (mk r).ok D → x = some r) (h : Got D (askO x f take mk) r) : x = some r := by
  obtain ⟨fs, rest, tr, h, hok⟩ := h
  induction fs with
  | nil => cases h
  | cons y fs ih =>
    unfold askO at h
    split at h
    · rename_i heq; cases heq
    · rename_i heq; cases heq; exact ih h
    · rename_i heq
      cases heq
      split at h
      · cases h; rfl
      · cases h
    · rename_i heq
      cases heq
      split at h
      · cases h; rfl
      · cases h
    · rename_i heq
      cases heq
      split at h
      · cases h
        exact hmk _ hok.1
      · cases h
end
theorem got_askB {a r : Bool} (h : Got D (askB a) r) : r = a := got_ask (mk := .b a) (fun _ h => h) h
theorem got_askN {a r : Nat} (h : Got D (askN a) r) : r = a := got_ask (mk := .n a) (fun _ h => h) h
theorem got_askV {a r : Value} (h : Got D (askV a) r) : r = a := got_ask (mk := .v a) (fun _ h => h) h
theorem got_askL {a r : List Value} (h : Got D (askL a) r) : r = a := got_ask (mk := .l a) (fun _ h => h) h
theorem got_askOL {a : Option (List Value)} {r : List Value} (h : Got D (askOL a) r) : a = some r := got_askO (mk := .ol a) (fun _ h => h) h
theorem got_askOV {a : Option Value} {r : Value} (h : Got D (askOV a) r) : a = some r := got_askO (mk := .ov a) (fun _ h => h) h
theorem got_askON {a : Option Nat} {r : Nat} (h : Got D (askON a) r) : a = some r := got_askO (mk := .on a) (fun _ h => h) h
theorem got_askOM {a : Option (List MapEntry × Nat)} {r : List MapEntry × Nat} (h : Got D (askOM a) r) : a = some r := got_askO (mk := .om a) (fun _ h => h) h
theorem got_askOC {a : Option (Value × AHeap)} {r : Value × AHeap} (h : Got D (askOC a) r) : a = some r := got_askO (mk := .oc a) (fun _ h => h) h

theorem binX_ok {op : BinOp} {t : TypeId} {x y : Operand} {a b v : Value} (h : Got D (binX E op t x y a b) v) : binA E op t x y a b = some v := by
  unfold binX at h
  split at h
  · split at h
    · rename_i hk
      unfold binA
      try dsimp only
      rw [hk]
      exact got_askOV h
    · exact (got_fail h).elim
  · exact got_askOV h
  · rename_i h1 h2
    unfold binA
    split
    · exact (h1 _ _ _ _ rfl rfl).elim
    · exact (h2 _ _ rfl rfl).elim
    · split at h
      · rename_i hf
        rw [hf]
        exact got_askOV h
      · rename_i hf
        rw [hf]
        exact got_askOV h

theorem boundsX_ok {len cap : Nat} {lo hi : Option Value} {p : Nat × Nat} (h : Got D (boundsX len cap lo hi) p) : bounds len cap lo hi = some p := by
  unfold boundsX at h
  obtain ⟨hh, k1, h⟩ := got_bind h
  obtain ⟨l, k2, h⟩ := got_bind h
  obtain ⟨t, k3, h⟩ := got_bind h
  have e3 := got_askB k3
  have ht : t = true ∧ p = (l, hh) := by
    cases t with
    | true => exact ⟨rfl, got_pure h⟩
    | false => exact (got_fail h).elim
  obtain ⟨rfl, rfl⟩ := ht
  cases hi with
  | none =>
    obtain rfl := got_pure k1
    cases lo with
    | none =>
      obtain rfl := got_pure k2
      simp only [bounds]
      rw [← e3]
    | some v =>
      simp only [bounds, got_askON k2]
      rw [← e3]
  | some u =>
    cases lo with
    | none =>
      obtain rfl := got_pure k2
      simp only [bounds, got_askON k1]
      rw [← e3]
    | some v =>
      simp only [bounds, got_askON k1, got_askON k2]
      rw [← e3]

theorem sliceX_ok {desc : TypeDesc} {x v : Value} {lo hi : Option Value} (h : Got D (sliceX E desc x lo hi) v) : sliceA E desc x lo hi = some v := by
  unfold sliceX at h
  split at h
  · obtain ⟨⟨l, hh⟩, k1, h⟩ := got_bind h
    unfold sliceA
    try dsimp only
    rw [boundsX_ok k1, got_askV h]
    rfl
  · unfold sliceA
    try dsimp only
    split at h
    · exact (got_fail h).elim
    · rename_i size hz
      rw [hz]
      try dsimp only
      obtain ⟨t0, k0, h⟩ := got_bind h
      have hlt := got_askB k0
      split at h
      · rw [← hlt]
        try dsimp only
        obtain ⟨⟨l, hh⟩, k1, h⟩ := got_bind h
        rw [boundsX_ok k1]
        obtain ⟨t, k2, h⟩ := got_bind h
        have e := got_askB k2
        dsimp only [Option.map_some]
        cases t with
        | true =>
          rw [← e, got_pure h]
        | false =>
          rw [← e]
          obtain ⟨off, k3, h⟩ := got_bind h
          obtain ⟨n, k4, h⟩ := got_bind h
          obtain ⟨c, k5, h⟩ := got_bind h
          rw [got_pure h, got_askN k3, got_askN k4, got_askN k5]
          rfl
      · have := got_askOV h
        unfold sliceA at this
        dsimp only at this
        rw [hz] at this
        exact this
  · exact got_askOV h

theorem loadX_ok {h : AHeap} {x : Option Value} {i : Option TyI} {r : Option Value × AHeap} (g : Got D (loadX h x i) r) : loadA h x i = some r := by
  unfold loadX at g
  split at g
  · unfold loadA readCells
    try dsimp only
    split at g
    · rename_i hg
      rw [hg]
      obtain ⟨l, k1, g⟩ := got_bind g
      try dsimp only
      rw [got_askOL k1]
      exact got_of g
    · rename_i hg
      rw [hg]
      obtain ⟨l, k1, g⟩ := got_bind g
      try dsimp only
      rw [got_askOL k1]
      try dsimp only
      split at g
      · rename_i hd
        rw [hd]
        exact got_of g
      · exact (got_fail g).elim
    · exact (got_fail g).elim
  · exact (got_fail g).elim

theorem storeX_ok {h : AHeap} {x y : Option Value} {i : Option TyI} {r : Option Value × AHeap} (g : Got D (storeX h x y i) r) : storeA h x y i = some r := by
  unfold storeX at g
  split at g
  · unfold storeA writeCells
    try dsimp only
    split at g
    · rename_i hb hg
      rw [hb, hg]
      split at g
      · rename_i h1
        obtain ⟨c', k1, g⟩ := got_bind g
        try dsimp only
        rw [h1, got_askOL k1, got_pure g]
        rfl
      · exact (got_fail g).elim
    · exact (got_fail g).elim
  · exact (got_fail g).elim

theorem srcX_ok {h : AHeap} {size n : Nat} {x : Value} {r : List Value} (g : Got D (srcX h size n x) r) : srcCells h size n x = some r := by
  unfold srcX at g
  split at g
  · rw [got_pure g]; rfl
  · obtain ⟨t, k1, g⟩ := got_bind g
    have e := got_askB k1
    unfold srcCells
    try dsimp only
    split at g
    · rw [got_pure g]
      have := Nat.eq_of_beq_eq_true e.symm
      subst this
      rfl
    · rename_i hg
      cases n with
      | zero => cases e
      | succ n =>
        try dsimp only
        unfold readCells
        try dsimp only
        rw [hg]
        exact got_askOL g
    · rename_i hg
      cases n with
      | zero => cases e
      | succ n =>
        obtain ⟨l, k1, g⟩ := got_bind g
        obtain ⟨t2, k2, g⟩ := got_bind g
        have e2 := got_askB k2
        try dsimp only
        unfold readCells
        try dsimp only
        rw [hg]
        try dsimp only
        rw [got_askOL k1]
        try dsimp only
        rw [← e2]
        split at g
        · rw [got_pure g]
        · exact (got_fail g).elim
    · exact (got_fail g).elim
  · rw [got_pure g]; rfl
  · exact (got_fail g).elim

theorem growX_ok {h : AHeap} {elem size bytes n : Nat} {cells : List Value} {r : Value × AHeap} (g : Got D (growX h elem size bytes n cells) r) : growA h elem size bytes n cells = some r := by
  unfold growX at g
  obtain ⟨t, k1, g⟩ := got_bind g
  have e := got_askB k1
  unfold growA
  cases t with
  | true =>
    rw [← e]
    obtain ⟨m, k2, g⟩ := got_bind g
    obtain ⟨c, k3, g⟩ := got_bind g
    rw [got_pure g, got_askN k2, got_askL k3]
  | false => exact (got_fail g).elim

theorem growGX_ok {h : AHeap} {elem size bytes n : Nat} {cells : List Value} {r : Value × AHeap} (g : Got D (growGX h elem size bytes n cells) r) : growG h elem size bytes n cells = some r := by
  unfold growGX at g
  obtain ⟨t, k1, g⟩ := got_bind g
  have e := got_askB k1
  unfold growG
  cases t with
  | true =>
    rw [← e]
    obtain ⟨m, k2, g⟩ := got_bind g
    obtain ⟨c, k3, g⟩ := got_bind g
    rw [got_pure g, got_askN k2, got_askL k3]
  | false => exact (got_fail g).elim

theorem appendX_ok {h : AHeap} {elem size bytes n : Nat} {s : Value} {news : List Value} {r : Value × AHeap} (g : Got D (appendX h elem size bytes s n news) r) : appendA h elem size bytes s n news = some r := by
  unfold appendX at g
  split at g
  · obtain ⟨t, k1, g⟩ := got_bind g
    have e := got_askB k1
    unfold appendA
    try dsimp only
    cases t with
    | true =>
      have := Nat.eq_of_beq_eq_true e.symm
      subst this
      have e := got_pure g
      subst e
      rfl
    | false =>
      cases n with
      | zero => cases e
      | succ n => exact growX_ok g
  · rename_i a len cap
    obtain ⟨t0, k0, g⟩ := got_bind g
    have hlt := got_askB k0
    split at g
    · obtain ⟨t, k1, g⟩ := got_bind g
      have e := got_askB k1
      unfold appendA
      try dsimp only
      rw [← hlt]
      try dsimp only
      rw [← e]
      split at g
      · rename_i c el hg
        obtain ⟨t2, k2, g⟩ := got_bind g
        have e2 := got_askB k2
        cases t2 with
        | true =>
          obtain ⟨c', k3, g⟩ := got_bind g
          obtain ⟨m, k4, g⟩ := got_bind g
          unfold writeCells addr
          try dsimp only
          rw [hg]
          try dsimp only
          rw [← e2, got_askOL k3, got_pure g, got_askN k4]
        | false => exact (got_fail g).elim
      · obtain ⟨old, k2, g⟩ := got_bind g
        try dsimp only
        rw [got_askOL k2]
        exact growX_ok g
      · exact (got_fail g).elim
    · obtain ⟨t1, k1, g⟩ := got_bind g
      have hgc := got_askB k1
      split at g
      · unfold appendA
        try dsimp only
        rw [← hlt]
        try dsimp only
        rw [← hgc]
        try dsimp only
        unfold appendG
        split at g
        · rename_i c el hg ha0
          simp only [hg, ha0]
          obtain ⟨t, k1, g⟩ := got_bind g
          have e := got_askB k1
          cases t with
          | true => simp only [← e]; exact growGX_ok g
          | false => exact (got_fail g).elim
        · exact (got_fail g).elim
      · exact got_askOC g
  · exact (got_fail g).elim

theorem builtinX_ok {h : AHeap} {b : Builtin} {tys : List TypeId} {args : List Value} {r : Value × AHeap} (g : Got D (builtinX E h b tys args) r) : builtinA E h b tys args = some r := by
  unfold builtinX at g
  split at g
  · exact got_of g
  · unfold builtinA
    split at g
    · rename_i hf
      obtain ⟨v, k1, g⟩ := got_bind g
      have e := got_askOV k1
      unfold maxF at e
      try dsimp only
      rw [hf, got_pure g]
      try dsimp only
      rw [e]
      rfl
    · exact (got_fail g).elim
  · unfold builtinA
    split at g
    · rename_i hf
      obtain ⟨v, k1, g⟩ := got_bind g
      have e := got_askOV k1
      unfold minF at e
      try dsimp only
      rw [hf, got_pure g]
      try dsimp only
      rw [e]
      rfl
    · exact (got_fail g).elim
  · rename_i t u s x
    unfold builtinA
    try dsimp only
    split at g
    · rename_i elem h1 h2
      rw [h1, h2]
      try dsimp only
      split at g
      · rename_i i n h3 h4
        rw [h3, h4]
        try dsimp only
        obtain ⟨news, k1, g⟩ := got_bind g
        rw [srcX_ok k1]
        try dsimp only
        obtain ⟨tt, k2, g⟩ := got_bind g
        have e := got_askB k2
        rw [← e]
        cases tt with
        | true => exact appendX_ok g
        | false => exact (got_fail g).elim
      · exact (got_fail g).elim
    · exact (got_fail g).elim
  · exact got_askOC g

theorem indexAddrX_ok {h : AHeap} {i : Option TyI} {x : Option Value} {ix : Option Nat} {r : Option Value × AHeap} (g : Got D (indexAddrX E h i x ix) r) : indexAddrA E h i x ix = some r := by
  unfold indexAddrX at g
  split at g
  · obtain ⟨n, k1, g⟩ := got_bind g
    obtain ⟨t, k2, g⟩ := got_bind g
    have e := got_askB k2
    rw [got_askON k1]
    unfold indexAddrA
    try dsimp only
    rw [← e]
    split at g
    · rename_i z hz
      rw [hz]
      obtain ⟨off, k3, g⟩ := got_bind g
      rw [got_pure g, got_askN k3]
      rfl
    · exact (got_fail g).elim
  · obtain ⟨n, k1, g⟩ := got_bind g
    obtain ⟨t, k2, g⟩ := got_bind g
    have e := got_askB k2
    rw [got_askON k1]
    unfold indexAddrA
    try dsimp only
    rw [← e]
    split at g
    · rename_i z hz
      rw [hz]
      obtain ⟨off, k3, g⟩ := got_bind g
      rw [got_pure g, got_askN k3]
      rfl
    · exact (got_fail g).elim
  · exact (got_fail g).elim

theorem indexX_ok {h : AHeap} {i : Option TyI} {x : Option Value} {ix : Option Nat} {r : Option Value × AHeap} (g : Got D (indexX E h i x ix) r) : indexA E h i x ix = some r := by
  unfold indexX at g
  split at g
  · obtain ⟨n, k1, g⟩ := got_bind g
    obtain ⟨v, k2, g⟩ := got_bind g
    have e := got_askOV k2
    rw [got_askON k1]
    unfold strAt at e
    unfold indexA
    try dsimp only
    split at e
    · rename_i hc
      rw [hc, got_pure g]
      cases e
      rfl
    · cases e
  · obtain ⟨n, k1, g⟩ := got_bind g
    obtain ⟨t, k2, g⟩ := got_bind g
    have e := got_askB k2
    rw [got_askON k1]
    unfold indexA
    try dsimp only
    rw [← e]
    split at g
    · rename_i z hz
      rw [hz]
      obtain ⟨l, k3, g⟩ := got_bind g
      unfold partA
      try dsimp only
      rw [got_askOL k3]
      exact got_of g
    · exact (got_fail g).elim
  · exact (got_fail g).elim

theorem lookupX_ok {h : AHeap} {ok : Bool} {d : Option (TypeId × TypeId)} {es : Option (List MapEntry)} {k : Option Value} {r : Option Value × AHeap} (g : Got D (lookupX E h ok d es k) r) : lookupA E h ok d es k = some r := by
  unfold lookupX at g
  split at g
  · rename_i kt et es k
    obtain ⟨v, k1, g⟩ := got_bind g
    have e := got_askOV k1
    unfold lookupV at e
    unfold lookupA
    try dsimp only
    rw [got_pure g]
    split at e
    · rename_i h1 h2 h3
      rw [h1, h2, h3]
      cases e
      rfl
    · rename_i h1 h2 h3
      rw [h1, h2, h3]
      cases e
      rfl
    · cases e
  · exact (got_fail g).elim

theorem mapUpdateX_ok {h : AHeap} {d : Option (TypeId × TypeId)} {m : Option (Nat × List MapEntry × Nat)} {k x : Option Value} {r : Option Value × AHeap} (g : Got D (mapUpdateX E h d m k x) r) : mapUpdateA E h d m k x = some r := by
  unfold mapUpdateX at g
  split at g
  · obtain ⟨p, k1, g⟩ := got_bind g
    have e := got_askOM k1
    unfold updateV at e
    unfold mapUpdateA
    try dsimp only
    rw [got_pure g]
    split at e
    · rename_i h1 h2
      rw [h1, h2]
      try dsimp only
      split at e
      · rename_i h3
        rw [h3]
        try dsimp only
        split at e
        · rename_i h4
          rw [h4]
          cases e
          rfl
        · cases e
      · cases e
    · rename_i h1 h2
      rw [h1, h2]
      cases e
      rfl
    · cases e
  · exact (got_fail g).elim

theorem mapEntryX_ok {h : AHeap} {d : Option (TypeId × TypeId)} {m : Option (Nat × List MapEntry × Nat)} {k : Option Value} {r : Option Value × AHeap} (g : Got D (mapEntryX E h d m k) r) : mapEntryA E h d m k = some r := by
  unfold mapEntryX at g
  split at g
  · obtain ⟨p, k1, g⟩ := got_bind g
    obtain ⟨v, k2, g⟩ := got_bind g
    have e1 := got_askOM k1
    have e2 := got_askOV k2
    have e3 := got_pure g
    subst e3
    clear g k1 k2
    unfold entM at e1
    unfold entV at e2
    unfold mapEntryA
    try dsimp only
    split at e1
    · rename_i h1 h2
      rw [h1, h2]
      rw [h2] at e2
      try dsimp only at e2 ⊢
      split at e1
      · rename_i h3
        rw [h3] at e2 ⊢
        try dsimp only at e2 ⊢
        split at e1
        · rename_i h4
          rw [h4]
          cases e1
          cases e2
          rfl
        · cases e1
      · cases e1
    · rename_i h1 h2 h3
      rw [h1, h2, h3]
      rw [h2, h3] at e2
      cases e1
      cases e2
      rfl
    · cases e1
  · exact (got_fail g).elim
theorem entryStoreX_ok {h : AHeap} {m : Option (Nat × List MapEntry × Nat)} {st x : Option Value} {r : Option Value × AHeap} (g : Got D (entryStoreX h m st x) r) : entryStoreA h m st x = some r := by
  unfold entryStoreX at g
  split at g
  · rename_i hb
    obtain ⟨p, k1, g⟩ := got_bind g
    have e1 := got_askOM k1
    have e3 := got_pure g
    subst e3
    unfold storeM at e1
    unfold entryStoreA
    rw [hb]
    try dsimp only
    split at e1
    · rename_i h1
      rw [h1]
      cases e1
      rfl
    · cases e1
  · exact (got_fail g).elim
theorem entryX_ok {h : AHeap} {x : Option Value} {r : Option Value × AHeap} (g : Got D (entryX h x) r) : entryA h x = some r := by
  unfold entryX at g
  split at g
  · split at g
    · rename_i hg
      split at g
      · rename_i hm
        obtain ⟨v, k1, g⟩ := got_bind g
        have e1 := got_askOV k1
        have e3 := got_pure g
        subst e3
        unfold entryV at e1
        simp only [entryA, hg, hm]
        split at e1
        · rename_i hl
          rw [hl]
          try dsimp only
          split at e1
          · rename_i h1 h2
            rw [h1, h2]
            cases e1
            rfl
          · cases e1
        · cases e1
      · exact (got_fail g).elim
    · exact (got_fail g).elim
  · exact (got_fail g).elim

theorem nextX_ok {h : AHeap} {x : Option Value} {r : Option Value × AHeap} (g : Got D (nextX h x) r) : nextA h x = some r := by
  unfold nextX at g
  split at g
  · split at g
    · rename_i hg
      simp only [nextA, hg]
      obtain ⟨t, k1, g⟩ := got_bind g
      have e := got_askB k1
      rw [← e]
      cases t with
      | true =>
        obtain ⟨v, k2, g⟩ := got_bind g
        obtain ⟨p, k3, g⟩ := got_bind g
        rw [got_pure g, got_askV k2, got_askN k3]
      | false => rw [got_pure g]
    · exact (got_fail g).elim
  · exact (got_fail g).elim

theorem makeSliceX_ok {h : AHeap} {elem : Option TypeId} {l c : Option Nat} {r : Option Value × AHeap} (g : Got D (makeSliceX E h elem l c) r) : makeSliceA E h elem l c = some r := by
  unfold makeSliceX at g
  split at g
  · split at g
    · rename_i hi
      obtain ⟨l', k1, g⟩ := got_bind g
      obtain ⟨c', k2, g⟩ := got_bind g
      obtain ⟨t, k3, g⟩ := got_bind g
      have e := got_askB k3
      rw [got_askON k1, got_askON k2]
      unfold makeSliceA
      try dsimp only
      rw [hi]
      try dsimp only
      rw [← e]
      cases t with
      | true =>
        obtain ⟨cs, k4, g⟩ := got_bind g
        rw [got_pure g, got_askL k4]
        rfl
      | false => exact (got_fail g).elim
    · exact (got_fail g).elim
  · exact (got_fail g).elim

theorem aopX_ok {s : T Value} {h : AHeap} {o : Oper} {r : Option Value × AHeap} (g : Got D (aopX E s h o) r) : aop E s h o = some r := by
  obtain ⟨dst, op, ty, ps, af, gd⟩ := o
  unfold aopX at g
  unfold aop
  dsimp only at g ⊢
  split at g
  · split at g
    · rename_i hc
      obtain ⟨t, k1, g1⟩ := got_bind g
      clear g
      have e := got_askB k1
      subst e
      try dsimp only
      rw [hc]
      cases t with
      | true => exact got_of g1
      | false => exact got_of g1
    · exact (got_fail g).elim
  · exact loadX_ok g
  · exact storeX_ok g
  · split at g
    · rename_i h1 h2
      obtain ⟨v, k1, g⟩ := got_bind g
      try dsimp only
      rw [h1, h2, got_pure g]
      unfold binOA
      try dsimp only
      rw [binX_ok k1]
      rfl
    · exact (got_fail g).elim
  · split at g
    · rename_i h1
      split at g
      · rename_i hf
        obtain ⟨v, k1, g⟩ := got_bind g
        try dsimp only
        rw [h1, got_pure g]
        unfold unA
        try dsimp only
        rw [hf]
        try dsimp only
        rw [got_askOV k1]
        rfl
      · exact (got_fail g).elim
    · exact (got_fail g).elim
  · split at g
    · rename_i h1 h2 h3
      obtain ⟨v, k1, g⟩ := got_bind g
      try dsimp only
      rw [h1, h2, h3, got_pure g, got_askV k1]
      rfl
    · exact got_of g
  · exact makeSliceX_ok g
  · split at g
    · rename_i h1 h2 h3 h4
      obtain ⟨v, k1, g⟩ := got_bind g
      try dsimp only
      rw [h1, h2, h3, h4, got_pure g]
      unfold sliceOA
      try dsimp only
      rw [sliceX_ok k1]
      rfl
    · exact (got_fail g).elim
  · exact indexAddrX_ok g
  · exact indexX_ok g
  · exact lookupX_ok g
  · exact mapUpdateX_ok g
  · exact mapEntryX_ok g
  · exact entryStoreX_ok g
  · exact entryX_ok g
  · exact nextX_ok g
  · exact got_of g

def XOk (D : Code → ASt → AExit → ASt → Prop) (run : XRun) (run' : CodeRun) : Prop := ∀ rd c s r, Got D (run rd c s) r → run' rd c s = some r

theorem callX_ok {run : XRun} {run' : CodeRun} (hr : XOk D run run') {f : FuncId} {args : List Value} {h : AHeap} {r : Value × AHeap} (g : Got D (callX E run f args h) r) : callA E run' f args h = some r := by
  unfold callX at g
  unfold callA
  split at g
  · rename_i hi
    rw [hi]
    exact got_askOC g
  · rename_i hi
    rw [hi]
    try dsimp only
    split at g
    · exact (got_fail g).elim
    · rename_i fn hfn
      rw [hfn]
      try dsimp only
      split at g
      · exact (got_fail g).elim
      · rename_i c hc
        rw [hc]
        try dsimp only
        obtain ⟨p, k1, g⟩ := got_bind g
        rw [hr _ _ _ _ k1]
        split at g
        · exact (got_fail g).elim
        · rename_i x s hx
          split
          · rename_i heq; cases heq; exact (hx _ rfl).elim
          · rename_i heq
            cases heq
            split at g
            · exact (got_fail g).elim
            · rename_i hcl hcc
              rw [hcc]
              try dsimp only
              split at g
              · exact (got_fail g).elim
              · rename_i v hv
                rw [hv]
                try dsimp only
                split at g
                · rename_i hf; rw [hf, got_pure g]
                · rename_i hf; rw [hf, got_pure g]
          · rename_i heq; cases heq

theorem roundX_ok {run : XRun} {run' : CodeRun} (hr : XOk D run run') {l : Nat} {args : List Value} {h : AHeap} {r : Value × AHeap} (g : Got D (roundX run l args h) r) : roundA run' l args h = some r := by
  unfold roundX at g
  unfold roundA
  split at g
  · rename_i hg
    rw [hg]
    try dsimp only
    split at g
    · exact (got_fail g).elim
    · rename_i t ht
      rw [ht]
      try dsimp only
      obtain ⟨p, k1, g⟩ := got_bind g
      rw [hr _ _ _ _ k1]
      split at g
      · dsimp only
        split at g
        · rename_i hg1
          rw [hg1]
          try dsimp only
          obtain ⟨p, k2, g⟩ := got_bind g
          rw [hr _ _ _ _ k2]
          dsimp only at g ⊢
          split at g
          · rename_i hg2
            rw [hg2, got_pure g]
          · exact (got_fail g).elim
        · exact (got_fail g).elim
      · exact (got_fail g).elim
  · exact (got_fail g).elim

theorem callOpX_ok {run : XRun} {run' : CodeRun} (hr : XOk D run run') {s : T Value} {h : AHeap} {c : Call} {r : Value × AHeap} (g : Got D (callOpX E run s h c) r) : callOp E run' s h c = some r := by
  unfold callOpX at g
  unfold callOp
  split at g
  · exact (got_fail g).elim
  · rename_i args ha
    rw [ha]
    try dsimp only
    split at g
    · rename_i b hb; rw [hb]; exact builtinX_ok g
    · rename_i f hf
      rw [hf]
      try dsimp only
      split at g
      · rename_i hq; rw [hq]; exact callX_ok hr g
      · rename_i hq; rw [hq]; exact roundX_ok hr g
      · exact (got_fail g).elim
    · exact (got_fail g).elim

theorem stepX_ok {run : XRun} {run' : CodeRun} (hr : XOk D run run') {s : T Value} {h : AHeap} {o : Oper} {r : Option Value × AHeap} (g : Got D (stepX E run s h o) r) : stepA E run' s h o = some r := by
  unfold stepX at g
  unfold stepA
  split at g
  · rename_i c hc
    rw [hc]
    obtain ⟨p, k1, g⟩ := got_bind g
    try dsimp only
    rw [callOpX_ok hr k1, got_pure g]
    rfl
  · rename_i hne
    split
    · rename_i c hc; exact (hne c hc).elim
    · exact aopX_ok g

theorem wantedX_ok {ops : List Oper} {s : T Value} {o : Oper} {b : Bool} (g : Got D (wantedX ops s o) b) : wantedA ops s o = some b := by
  unfold wantedX at g
  unfold wantedA
  split at g
  · rename_i hg
    rw [hg, got_pure g]
  · rename_i hg
    rw [hg]
    try dsimp only
    split at g
    · rename_i d hd
      rw [hd]
      try dsimp only
      split at g
      · rename_i hs
        rw [hs]
        obtain ⟨t, k1, g⟩ := got_bind g
        rw [got_pure g, got_askB k1]
      · rename_i v hne hs
        rw [hs, got_pure g]
        cases v <;> first | rfl | exact absurd rfl (hne _)
      · exact (got_fail g).elim
    · rename_i hd
      rw [hd, got_pure g]

theorem seqX_ok {run : XRun} {run' : CodeRun} (hr : XOk D run run') {ops : List Oper} : ∀ (rest : List Oper) {s : T Value} {h : AHeap} {r : T Value × AHeap}, Got D (seqX E run ops rest s h) r → seqOps E run' ops rest s h = some r
  | [], s, h, r, g => by rw [got_pure g]; rfl
  | o :: rest, s, h, r, g => by
    unfold seqX at g
    unfold seqOps
    obtain ⟨t, k0, g⟩ := got_bind g
    have hw := wantedX_ok k0
    cases t with
    | true =>
      rw [hw]
      obtain ⟨⟨v, h1⟩, k1, g⟩ := got_bind g
      try dsimp only
      rw [stepX_ok hr k1]
      exact seqX_ok hr rest g
    | false =>
      rw [hw]
      exact seqX_ok hr rest g

theorem stepDX_ok {run : XRun} {run' : CodeRun} (hr : XOk D run run') {ops : List Oper} {fl : Bool} {q : List Nat} {o : Oper} {s : T Value} {h : AHeap} {r : T Value × AHeap × Nat} (g : Got D (stepDX E run ops fl q o s h) r) : stepD E run' ops fl q o s h = some r := by
  unfold stepDX at g
  unfold stepD
  obtain ⟨t, k0, g⟩ := got_bind g
  have hw := wantedX_ok k0
  cases t with
  | true =>
    rw [hw]
    try dsimp only at g ⊢
    split at g
    · rename_i hp
      rw [hp]
      try dsimp only
      obtain ⟨⟨v, h1⟩, k1, g⟩ := got_bind g
      rw [stepX_ok hr k1]
      dsimp only at g ⊢
      split at g
      · rename_i hb; have e := got_pure g; subst e; rw [hb]
      · exact (got_fail g).elim
    · rename_i hp
      rw [hp]
      try dsimp only
      split at g
      · rename_i hq
        rw [hq]
        try dsimp only
        obtain ⟨⟨v, h1⟩, k1, g⟩ := got_bind g
        simp only [stepX_ok hr k1]
        dsimp only at g ⊢
        split at g
        · rename_i hb; have e := got_pure g; subst e; rw [hb]
        · exact (got_fail g).elim
      · rename_i hfl
        rw [hfl]
        try dsimp only
        split at g
        · rename_i hq
          rw [hq]
          try dsimp only
          obtain ⟨⟨v, h1⟩, k1, g⟩ := got_bind g
          rw [stepX_ok hr k1]
          dsimp only at g ⊢
          split at g
          · rename_i hb; have e := got_pure g; subst e; rw [hb]
          · exact (got_fail g).elim
        · rename_i hq
          rw [hq]
          try dsimp only
          obtain ⟨⟨v, h1⟩, k1, g⟩ := got_bind g
          simp only [stepX_ok hr k1]
          dsimp only at g ⊢
          split at g
          · rename_i hb; have e := got_pure g; subst e; rw [hb]; rfl
          · exact (got_fail g).elim
  | false =>
    rw [hw]
    have e := got_pure g; subst e; rfl

theorem drawX_ok {run : XRun} {run' : CodeRun} (hr : XOk D run run') {ops : List Oper} {fl : Bool} {q : List Nat} : ∀ (rest : List Oper) {s : T Value} {h : AHeap} {ks : List Nat} {r : T Value × AHeap × List Nat}, Got D (drawX E run ops fl q rest s h ks) r → drawOps E run' ops fl q rest s h ks = some r
  | [], s, h, ks, r, g => by rw [got_pure g]; rfl
  | o :: rest, s, h, ks, r, g => by
    unfold drawX at g
    unfold drawOps
    obtain ⟨⟨s1, h1, k⟩, k1, g⟩ := got_bind g
    rw [stepDX_ok hr k1]
    exact drawX_ok hr rest g

theorem floatAtX_ok {run : XRun} {run' : CodeRun} (hr : XOk D run run') {L : List Oper} {q : List Nat} {s : T Value} {h : AHeap} {i j : Nat} {o : Oper} {r : Bool} (g : Got D (floatAtX E run L q s h i j o) r) : floatAt E run' L q s h i j o = r := by
  unfold floatAtX at g
  unfold floatAt
  obtain ⟨⟨t1, h1, ks1⟩, k1, g⟩ := got_bind g
  obtain ⟨⟨t2, h2, ks2⟩, k2, g⟩ := got_bind g
  obtain ⟨⟨v3, h3⟩, k3, g⟩ := got_bind g
  obtain ⟨⟨v4, h4⟩, k4, g⟩ := got_bind g
  obtain ⟨t, k5, g⟩ := got_bind g
  have e5 := got_askB k5
  subst e5
  rw [drawX_ok hr _ k1, drawX_ok hr _ k2]
  dsimp only at k3 k4 g ⊢
  simp only [stepX_ok hr k3, stepX_ok hr k4]
  exact (got_pure g).symm
theorem floatAllX_ok {run : XRun} {run' : CodeRun} (hr : XOk D run run') {L : List Oper} {q : List Nat} {s : T Value} {h : AHeap} : ∀ {l : List (Nat × Nat × Oper)} {r : Bool}, Got D (floatAllX E run L q s h l) r → floatAll E run' L q s h l = r
  | [], r, g => (got_pure g).symm
  | (i, j, o) :: l, r, g => by
    unfold floatAllX at g
    unfold floatAll
    obtain ⟨t, k1, g⟩ := got_bind g
    rw [floatAtX_ok hr k1]
    cases t with
    | true => exact floatAllX_ok hr g
    | false => exact (got_pure g).symm

theorem regionX_ok {run : XRun} {run' : CodeRun} (hr : XOk D run run') {ops : Array Oper} {draw : Bool} {s s' : ASt} (g : Got D (regionX E run ops draw s) s') : regionA E run' ops draw s = some s' := by
  unfold regionX at g
  unfold regionA
  split at g
  · obtain ⟨⟨t, h1⟩, k1, g⟩ := got_bind g
    try dsimp only
    rw [seqX_ok hr _ k1, got_pure g]
    rfl
  · obtain ⟨⟨t, h1, ks⟩, k1, g⟩ := got_bind g
    try dsimp only
    rw [drawX_ok hr _ k1]
    dsimp only at g ⊢
    split at g
    · rename_i hb; rw [hb, got_pure g]
    · rename_i hb
      rw [hb]
      obtain ⟨⟨t2, h2, ks2⟩, k2, g⟩ := got_bind g
      try dsimp only
      rw [drawX_ok hr _ k2]
      dsimp only at g ⊢
      split at g
      · rename_i hb2
        rw [hb2]
        obtain ⟨t, k3, g⟩ := got_bind g
        try dsimp only
        rw [floatAllX_ok hr k3]
        cases t with
        | true => rw [got_pure g]
        | false => exact (got_fail g).elim
      · exact (got_fail g).elim

theorem rangeFuncX_ok {run : XRun} {run' : CodeRun} (hr : XOk D run run') {rd : Option Nat} {gf : Operand} {ps : Array Tmp} {as bd : Code} {s : ASt} {r : AExit × ASt} (g : Got D (rangeFuncX E run rd gf ps as bd s) r) : rangeFuncA E run' rd gf ps as bd s = some r := by
  unfold rangeFuncX at g
  unfold rangeFuncA
  split at g
  · rename_i gv d h marks h1 h2
    rw [h1, h2]
    try dsimp only
    split at g
    · rename_i f args hc
      rw [hc]
      try dsimp only
      split at g
      · rename_i hi
        rw [hi]
        obtain ⟨⟨v, hp⟩, k1, g⟩ := got_bind g
        rw [callX_ok hr k1]
        dsimp only at g ⊢
        split at g
        · rename_i hg
          rw [hg]
          try dsimp only
          split at g
          · exact (got_fail g).elim
          · rename_i hb
            split
            · exact (hb rfl).elim
            · split at g
              · rename_i hx; rw [hx, got_pure g]
              · exact (got_fail g).elim
        · exact (got_fail g).elim
      · exact (got_fail g).elim
    · exact (got_fail g).elim
  · exact (got_fail g).elim

theorem xE_ok : ∀ n, XOk D (xE E n) (ex E n)
  | 0 => fun rd c s r g => (got_fail g).elim
  | n + 1 => by
    have ih := xE_ok n
    intro rd c s r g
    have g : Got D (xStep E (xE E n) rd c s) r := g
    show exStep E (ex E n) rd c s = some r
    unfold xStep at g
    unfold exStep
    split at g
    · rw [got_pure g]
    · rw [got_pure g]
    · rw [got_pure g]
    · rw [got_pure g]
    · obtain ⟨p, k1, g⟩ := got_bind g
      try dsimp only
      rw [ih _ _ _ _ k1]
      split at g
      · exact ih _ _ _ _ g
      · rename_i hne
        rw [got_pure g]
        split
        · rename_i heq; cases heq; exact (hne _ rfl).elim
        · rfl
    · try dsimp only
      split at g
      · rename_i hq
        rw [hq]
        obtain ⟨t, k1, g1⟩ := got_bind g
        clear g
        have e := got_askB k1
        subst e
        cases t with
        | true => exact ih _ _ _ _ g1
        | false => exact ih _ _ _ _ g1
      · exact (got_fail g).elim
    · obtain ⟨p, k1, g⟩ := got_bind g
      try dsimp only
      rw [ih _ _ _ _ k1]
      split at g
      · dsimp only
        split at g
        · rename_i hb; rw [hb, got_pure g]
        · rename_i hb; rw [hb, got_pure g]
      · rename_i hne
        rw [got_pure g]
        split
        · rename_i heq; cases heq; exact (hne _ _ rfl).elim
        · rfl
    · exact ih _ _ _ _ g
    · obtain ⟨p, k1, g⟩ := got_bind g
      try dsimp only
      rw [ih _ _ _ _ k1]
      split at g
      · exact ih _ _ _ _ g
      · rename_i hne
        rw [got_pure g]
        split
        · rename_i heq; cases heq; exact (hne _ rfl).elim
        · rfl
    · exact rangeFuncX_ok ih g
    · obtain ⟨s', k1, g⟩ := got_bind g
      try dsimp only
      rw [regionX_ok ih k1, got_pure g]
      rfl
    · exact (got_fail g).elim
end Go.Proofs.YtlkhpgocbojdgaaGreatDoor.Ai

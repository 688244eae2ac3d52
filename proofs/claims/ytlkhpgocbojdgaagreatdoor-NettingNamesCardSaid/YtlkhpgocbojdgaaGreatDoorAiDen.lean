/-
  WHAT A PIECE OF CODE DOES FROM ONE STATE TO ANOTHER, where the states may be named anew on the way: rules for code, for loops by rounds.
-/
import Derived.Test.YtlkhpgocbojdgaaGreatDoorAiProg
namespace Go.Proofs.YtlkhpgocbojdgaaGreatDoor.Ai
open Go
set_option linter.unusedSimpArgs false
set_option linter.unusedVariables false
variable {E : Env}

/-- What stands at a point of a run that began at the memory h0. -/
def Good (ρ0 : Ren) (h0 : AHeap) (w0 : World) (s : ASt) (a : Act) (w : World) : Prop :=
  ∃ ρ, Adv ρ0 ρ h0 s.heap w0 w ∧ TR ρ s.tmps a.tmps ∧ MR ρ s.marks a.defers

/-- From s the code comes to s', by the exit x. -/
def Den (E : Env) (rd : Option Nat) (h0 : AHeap) (c : Code) (s : ASt) (x : AExit) (s' : ASt) : Prop :=
  ∀ (ρ0 : Ren) (w0 : World) (rc : Option Nat) (N : Nat) (a : Act) (w : World), RD ρ0 rd rc → Tight ρ0 h0 w0 → Rel ρ0 h0 w0 → Good ρ0 h0 w0 s a w → codeOk N c = true → N ≤ a.tmps.size →
    ∀ (Q : Exit → Act → World → Prop), (∀ a' w', Good ρ0 h0 w0 s' a' w' → a'.tmps.size = a.tmps.size → Q (exitOf x) a' w') → c.wpIn (fence rc) 0 E.P Q a w

/-- The same of a loop, in so many rounds at most. -/
def DenL (E : Env) (rd : Option Nat) (h0 : AHeap) (n : Nat) (b : Code) (s : ASt) (x : AExit) (s' : ASt) : Prop :=
  ∀ (ρ0 : Ren) (w0 : World) (rc : Option Nat) (N : Nat) (a : Act) (w : World), RD ρ0 rd rc → Tight ρ0 h0 w0 → Rel ρ0 h0 w0 → Good ρ0 h0 w0 s a w → codeOk N b = true → N ≤ a.tmps.size →
    ∀ (Q : Exit → Act → World → Prop), (∀ a' w', Good ρ0 h0 w0 s' a' w' → a'.tmps.size = a.tmps.size → Q (exitOf x) a' w') → Code.roundsIn (fence rc) 0 E.P b Q n a w

/-- What is known in s is known in s'. -/
def Le (h0 : AHeap) (s s' : ASt) : Prop := ∀ ρ0 w0 a w, Tight ρ0 h0 w0 → Good ρ0 h0 w0 s a w → Good ρ0 h0 w0 s' a w

section
variable {rd : Option Nat} {h0 : AHeap} {c c1 c2 b : Code} {s s1 s2 s' : ASt} {x : AExit} {n : Nat}

theorem Le.refl (h0 : AHeap) (s : ASt) : Le h0 s s := fun _ _ _ _ _ g => g
theorem Le.trans (a : Le h0 s s1) (b : Le h0 s1 s2) : Le h0 s s2 := fun ρ0 w0 a' w ht g => b ρ0 w0 a' w ht (a ρ0 w0 a' w ht g)

theorem Den.of_run {run : CodeRun} (hr : RunOk E run) (e : run rd c s = some (x, s')) : Den E rd h0 c s x s' := by
  intro ρ0 w0 rc N a w hrd ht R ⟨ρ, A, hT, hM⟩ hc hsz Q hQ
  refine hr rd c s x s' e ρ a w N rc (hrd.mono A.ext) (ht.adv A) A.rel hT trivial hM hc hsz Q ?_
  intro ρ' a' w' b1 b2 b3 b4 B
  exact hQ a' w' ⟨ρ', A.trans B, b1, b4⟩ b3

theorem Den.pre (h : Le h0 s s1) (d : Den E rd h0 c s1 x s') : Den E rd h0 c s x s' :=
  fun ρ0 w0 rc N a w hrd ht R g hc hsz Q hQ => d ρ0 w0 rc N a w hrd ht R (h ρ0 w0 a w ht g) hc hsz Q hQ
theorem Den.post (d : Den E rd h0 c s x s1) (h : Le h0 s1 s') : Den E rd h0 c s x s' :=
  fun ρ0 w0 rc N a w hrd ht R g hc hsz Q hQ => d ρ0 w0 rc N a w hrd ht R g hc hsz Q (fun a' w' g' hs => hQ a' w' (h ρ0 w0 a' w' ht g') hs)

theorem Den.seq (d1 : Den E rd h0 c1 s .normal s1) (d2 : Den E rd h0 c2 s1 x s') : Den E rd h0 (.seq c1 c2) s x s' := by
  intro ρ0 w0 rc N a w hrd ht R g hc hsz Q hQ
  simp only [codeOk, Bool.and_eq_true] at hc
  refine wpIn_seq ?_
  refine d1 ρ0 w0 rc N a w hrd ht R g hc.1 hsz _ ?_
  intro a1 w1 g1 hs1
  exact d2 ρ0 w0 rc N a1 w1 hrd ht R g1 hc.2 (by omega) _ (fun a2 w2 g2 hs2 => hQ a2 w2 g2 (by omega))

theorem Den.seqExit (d1 : Den E rd h0 c1 s x s') (hx : x ≠ .normal) : Den E rd h0 (.seq c1 c2) s x s' := by
  intro ρ0 w0 rc N a w hrd ht R g hc hsz Q hQ
  simp only [codeOk, Bool.and_eq_true] at hc
  refine wpIn_seq ?_
  refine d1 ρ0 w0 rc N a w hrd ht R g hc.1 hsz _ ?_
  intro a1 w1 g1 hs1
  have := hQ a1 w1 g1 hs1
  cases x with
  | normal => exact absurd rfl hx
  | exit i => exact this
  | ret => exact this

theorem Den.cond {q : Operand} {t : Bool} (hq : evalO s.tmps q = some (.bool t)) (d : Den E rd h0 (if t then c1 else c2) s x s') : Den E rd h0 (.cond q c1 c2) s x s' := by
  intro ρ0 w0 rc N a w hrd ht R g hc hsz Q hQ
  simp only [codeOk, Bool.and_eq_true] at hc
  have g' := g
  obtain ⟨ρ, A, hT, hM⟩ := g'
  have hv := evalO_sound hT hq
  generalize hev : a.eval q = q' at hv
  cases hv
  cases t with
  | true => exact wpIn_cond_true hev (d ρ0 w0 rc N a w hrd ht R g hc.1 hsz _ hQ)
  | false => exact wpIn_cond_false hev (d ρ0 w0 rc N a w hrd ht R g hc.2 hsz _ hQ)

/-- How a block is left. -/
def leftBlock (id : Nat) : AExit → AExit
  | .exit i => match Nat.beq i id with
    | true => .normal
    | false => .exit i
  | x => x

theorem Den.block {id : Nat} (d : Den E rd h0 c s x s') : Den E rd h0 (.block id c) s (leftBlock id x) s' := by
  intro ρ0 w0 rc N a w hrd ht R g hc hsz Q hQ
  refine wpIn_block ?_
  refine d ρ0 w0 rc N a w hrd ht R g hc hsz _ ?_
  intro a1 w1 g1 hs1
  have := hQ a1 w1 g1 hs1
  cases x with
  | normal => exact this
  | ret => exact this
  | exit i =>
    show (if i = id then Q .normal a1 w1 else Q (.exit i) a1 w1)
    simp only [leftBlock] at this
    cases hi : Nat.beq i id with
    | true =>
      rw [hi] at this
      rw [if_pos (Nat.eq_of_beq_eq_true hi)]
      exact this
    | false =>
      rw [hi] at this
      rw [if_neg (Nat.ne_of_beq_eq_false hi)]
      exact this

theorem Den.scope (d : Den E rd h0 c s x s') : Den E rd h0 (.scope c) s x s' := by
  intro ρ0 w0 rc N a w hrd ht R g hc hsz Q hQ
  refine wpIn_scope (d ρ0 w0 rc N a w hrd ht R g hc hsz _ ?_)
  intro a1 w1 g1 hs1
  have := hQ a1 w1 g1 hs1
  cases x with
  | normal => exact this
  | exit i => exact this
  | ret => exact this

theorem DenL.next (d : Den E rd h0 b s .normal s1) (l : DenL E rd h0 n b s1 x s') : DenL E rd h0 (n + 1) b s x s' := by
  intro ρ0 w0 rc N a w hrd ht R g hc hsz Q hQ
  rw [roundsIn_succ]
  refine d ρ0 w0 rc N a w hrd ht R g hc hsz _ ?_
  intro a1 w1 g1 hs1
  exact l ρ0 w0 rc N a1 w1 hrd ht R g1 hc (by omega) Q (fun a2 w2 g2 hs2 => hQ a2 w2 g2 (by omega))

theorem DenL.out (d : Den E rd h0 b s x s') (hx : x ≠ .normal) : DenL E rd h0 (n + 1) b s x s' := by
  intro ρ0 w0 rc N a w hrd ht R g hc hsz Q hQ
  rw [roundsIn_succ]
  refine d ρ0 w0 rc N a w hrd ht R g hc hsz _ ?_
  intro a1 w1 g1 hs1
  have := hQ a1 w1 g1 hs1
  cases x with
  | normal => exact absurd rfl hx
  | exit i => exact this
  | ret => exact this

theorem DenL.loop (l : DenL E rd h0 n b s x s') : Den E rd h0 (.loop b) s x s' := by
  intro ρ0 w0 rc N a w hrd ht R g hc hsz Q hQ
  exact wpIn_loop_rounds n (l ρ0 w0 rc N a w hrd ht R g hc hsz Q hQ)

/-- A loop whose states are numbered: each round but the last goes on to the next number. -/
theorem Den.loop_of {st : Nat → ASt} (m : Nat) (hn : ∀ k, k < m → Den E rd h0 b (st k) .normal (st (k + 1))) (he : Den E rd h0 b (st m) x s') (hx : x ≠ .normal) : Den E rd h0 (.loop b) (st 0) x s' := by
  have key : ∀ d k, k + d = m → DenL E rd h0 (d + 1) b (st k) x s' := by
    intro d
    induction d with
    | zero =>
      intro k hk
      obtain rfl : k = m := by omega
      exact .out he hx
    | succ d ih =>
      intro k hk
      exact .next (hn k (by omega)) (ih (k + 1) (by omega))
  exact DenL.loop (key m 0 (by omega))

/-- A region that is run in the text's order, or in a drawn one. -/
theorem Den.region {run : CodeRun} (hr : RunOk E run) (K : E.Runs) (hu : RunUp run) {id : Nat} {ops : Array Oper} {draw : Bool} (e : regionA E run ops draw s = some s') : Den E rd h0 (.region id ops draw) s .normal s' := by
  intro ρ0 w0 rc N a w hrd ht0 R0 ⟨ρ, A, hT, hM⟩ hc hsz Q hQ
  have ht := ht0.adv A
  have R := A.rel
  simp only [codeOk, Bool.and_eq_true, List.all_eq_true] at hc
  have hd : ∀ o ∈ ops.toList, ∀ d, o.dst = some d → d < N := fun o ho d hdd => by
    have := hc.1 o ho
    rw [hdd] at this
    simpa [Nat.blt_eq] using this
  unfold regionA at e
  cases draw with
  | false =>
    simp only [Option.map_eq_some_iff] at e
    obtain ⟨⟨t, h1⟩, e, e'⟩ := e
    cases e'
    refine wpIn_region ?_
    have := seq_sound K hr rc (Q := Q) hd ops.toList 0 rfl e ht R hT trivial hsz (fun ρ' a' w' b1 b2 b3 b4 B => hQ a' w' ⟨ρ', A.trans B, b1, by rw [b4]; exact hM.mono B.ext⟩ b3)
    rw [List.range_eq_range']
    simpa using this
  | true =>
    dsimp only at e
    split at e
    · rename_i t h1 ks hdr
      split at e
      · rename_i hok
        cases e
        have h2 := hc.2
        simp only [Bool.not_true, Bool.false_or, Bool.and_eq_true] at h2
        exact draw_sound K hu hr hd h2.1 h2.2 (ql := []) (fun b hb => by cases hb) hdr (fun h => by cases h) hok ht R hT trivial hsz (fun ρ' a' w' b1 b2 b3 b4 B => hQ a' w' ⟨ρ', A.trans B, b1, by rw [b4]; exact hM.mono B.ext⟩ b3) rc
      · split at e
        · rename_i hdr2
          split at e
          · rename_i hok'
            rw [Bool.and_eq_true] at hok'
            obtain ⟨hok, hst⟩ := hok'
            split at e
            · rename_i hfa
              cases e
              have h2 := hc.2
              simp only [Bool.not_true, Bool.false_or, Bool.and_eq_true] at h2
              exact draw_sound K hu hr hd h2.1 h2.2 (fun b hb => quietQ_lt hb) hdr2 (fun _ => ⟨hst, hfa⟩) hok ht R hT trivial hsz (fun ρ' a' w' b1 b2 b3 b4 B => hQ a' w' ⟨ρ', A.trans B, b1, by rw [b4]; exact hM.mono B.ext⟩ b3) rc
            · cases e
          · cases e
        · cases e
    · cases e
end
end Go.Proofs.YtlkhpgocbojdgaaGreatDoor.Ai

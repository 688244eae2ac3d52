/-
  WHAT STANDS IN MEMORY FROM THE START AND IS NEVER WRITTEN: the library's variables that this program asks, by their places.
-/
import Derived.Test.YtlkhpgocbojdgaaGreatDoorAiRel
namespace Go.Proofs.YtlkhpgocbojdgaaGreatDoor.Ai
open Go
set_option linter.unusedSimpArgs false
set_option linter.unusedVariables false

/-- internal/bytealg.MaxLen (variable 1) holds some integer. -/
def glInit (w0 : World) (S : Nat → Prop) : Prop := ∃ m, w0.cell? ⟨1, 0, none⟩ = some (.int .i64 m) ∧ S 1
/-- The places S are as they were, and nothing stands for them. -/
def GlS (w0 : World) (S : Nat → Prop) (ρ : Ren) (w : World) : Prop := (∀ c, S c → c < w.heap.size ∧ w.heap[c]? = w0.heap[c]?) ∧ ∀ b c N, ρ b = some (c, N) → ¬ S c
def Gl (ρ : Ren) (w : World) : Prop := ∃ w0 S, glInit w0 S ∧ GlS w0 S ρ w

theorem GlS.sub {w0 : World} {S : Nat → Prop} {ρ ρ' : Ren} {w : World} (h : ∀ b x, ρ' b = some x → ρ b = some x) (g : GlS w0 S ρ w) : GlS w0 S ρ' w := ⟨g.1, fun b c N e => g.2 b c N (h b _ e)⟩
theorem Gl.sub {ρ ρ' : Ren} {w : World} (h : ∀ b x, ρ' b = some x → ρ b = some x) : Gl ρ w → Gl ρ' w := fun ⟨w0, S, a, b⟩ => ⟨w0, S, a, b.sub h⟩
theorem Gl.img {ρ ρ' : Ren} {w : World} (g : Gl ρ w) (h : ∀ b c N, ρ' b = some (c, N) → ∃ b0 M, ρ b0 = some (c, M)) : Gl ρ' w :=
  let ⟨w0, S, a, g1, g2⟩ := g
  ⟨w0, S, a, g1, fun b c N e => let ⟨b0, M, q⟩ := h b c N e; g2 b0 c M q⟩
theorem GlS.adv {w0 : World} {S : Nat → Prop} {ρ ρ' : Ren} {h h' : AHeap} {w w' : World} (g : GlS w0 S ρ w) (A : Adv ρ ρ' h h' w w') : GlS w0 S ρ' w' := by
  refine ⟨fun c hc => ?_, fun b c N e hs => ?_⟩
  · obtain ⟨h1, h2⟩ := g.1 c hc
    refine ⟨Nat.lt_of_lt_of_le h1 A.size, ?_⟩
    rw [A.frame c h1 (fun b N _ _ e => g.2 b c N e hc)]
    exact h2
  · rcases A.new b c N e with f | ⟨_, _, f | ⟨b0, M, _, _, f⟩⟩
    · exact g.2 b c N f hs
    · have := (g.1 c hs).1; omega
    · exact g.2 b0 c M f hs
theorem Gl.adv {ρ ρ' : Ren} {h h' : AHeap} {w w' : World} (g : Gl ρ w) (A : Adv ρ ρ' h h' w w') : Gl ρ' w' := let ⟨w0, S, a, b⟩ := g; ⟨w0, S, a, b.adv A⟩
/-- The integer is there. -/
theorem Gl.maxLen {ρ : Ren} {w : World} : Gl ρ w → ∃ m, w.cell? ⟨1, 0, none⟩ = some (.int .i64 m) := fun ⟨w0, S, ⟨m, h1, h2⟩, g⟩ => by
  refine ⟨m, ?_⟩
  have := (g.1 1 h2).2
  simp only [World.cell?] at h1 ⊢
  rw [this]
  exact h1
end Go.Proofs.YtlkhpgocbojdgaaGreatDoor.Ai

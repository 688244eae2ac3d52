/-
  NettingAlgebra: it returns true, whatever its arguments: the row and its card.
-/
import Derived.Test.YtlkhpgocbojdgaaGreatDoorNtOpen
import Derived.Test.YtlkhpgocbojdgaaGreatDoorNtAlg
import Derived.Test.YtlkhpgocbojdgaaGreatDoorTie
import Derived.Test.YtlkhpgocbojdgaaGreatDoorCards
namespace Go.Proofs.YtlkhpgocbojdgaaGreatDoor
open Go Go.RowKit Go.ChangeShapes Go.WideShapes
set_option linter.unusedSimpArgs false
set_option linter.unusedVariables false

theorem alg_call {v0 v1 : Value} {a b : List Ai.B3} (p q : Int) {W : World} (h : W.ShapedOpen Tryz.prog) (h0 : Ai.IsNet W v0 a) (h1 : Ai.IsNet W v1 b) : Calls Tryz.prog 14 #[v0, v1, Ai.kn p q] W fun e W' => e = .returned (.bool true) ∧ Below W.heap.size W W' :=
  Ai.calls_sl2 (vs := [Ai.kn p q]) Ai.c14 (fun w args => enters_of Tryz.func14 (by kernel_rfl) rfl args w) (fun _ => rfl) rfl (fun c off cap c' off' cap' _ hc _ hc' => by
    show (match Ai.slice? c off (a.length * 3), Ai.slice? c' off' (b.length * 3) with
      | some r1, some r2 => match Ai.unBars r1, Ai.unBars r2 with
        | some _, some _ => some (Ai.bv true, [])
        | _, _ => none
      | _, _ => none) = _
    rw [hc, hc']
    dsimp only
    rw [Ai.unBars_of, Ai.unBars_of]) h h0 h1

set_option maxRecDepth 100000 in
theorem alg_lifted (os : Os) (started : os.Started) (H : Type) (enc : TypeId × Value → H) :
    ReturnsInHanded {} Tryz.checked os 14 .any (fun w args => (Rows.nettingAlgebraSpec.pre enc Tryz.prog Tryz.f14 Rows.nettingAlgebraRow.domain false w args ∧ laidMetH Tryz.prog Rows.nettingAlgebraRow.laid w) ∧ sizedMet enc Tryz.prog Tryz.f14 (OpenSpec.ofChange Rows.nettingAlgebraSpec) false w args)
      (Rows.nettingAlgebraSpec.post enc Tryz.prog Tryz.f14 false true false false) := by
  refine Ai.lifted_and_shaped (C := Tryz.checked) (X := fun w _ => laidMetH Tryz.prog Rows.nettingAlgebraRow.laid w) (fun _ _ _ hh h => h.of_heap hh) ownNone started (by kernel_rfl) Tryz.func14
    (ChangeSpec.witness_shaped (enc := enc) (C := Tryz.checked) (os := os) (X := fun w _ => laidMetH Tryz.prog Rows.nettingAlgebraRow.laid w) false (World.laidAll Tryz.prog os Rows.nettingAlgebraRow.laid) #[.slice none 0 0, .slice none 0 0, Ai.kn 0 0] 8 (World.laidAll_os _ _ _)
      (World.shaped_of_ZipB (by kernel_rfl) (by kernel_rfl)) (by kernel_rfl) (by kernel_rfl) (by kernel_rfl)
      (by rw [MakeChecks.laidMetH_plain _ _ _ (by kernel_rfl)]; exact laidMet_laidAll _ (by kernel_rfl) (by kernel_rfl))) ?_
  intro W base args ds gs before hval0 hW _ hsh
  have hval : ∀ (j : Nat) t v, Tryz.f14.params[j]? = some t → args[j]? = some v → Value.okWide Tryz.prog W .any base t v := hval0
  have hW' := hW
  obtain ⟨p, q, hA0, hV, rfl, _, _⟩ := hW
  have hA : DataW.TrodAll enc Tryz.prog W 0 (fun _ => true) true Tryz.f14.params.toList args.toList ds p := hA0
  rw [Tryz.params14] at hA hval
  obtain ⟨v0, v1, v2, d0, d1, d2, p0, p1, p2, rfl, rfl, rfl, h0, h1, h2⟩ := trodAll_three hA
  obtain ⟨rfl, rfl⟩ := trodVars_none hV
  obtain ⟨l, hn⟩ := Ai.open_net (hval 0 26 v0 rfl rfl) h0
  obtain ⟨m, hm⟩ := Ai.open_net (hval 1 26 v1 rfl rfl) h1
  obtain ⟨a, b, rfl, _⟩ := Ai.open_knot (hval 2 23 v2 rfl rfl) h2
  refine (alg_call a b hsh hn hm).mono fun e W' ⟨he, hb⟩ => ?_
  subst he
  exact ⟨_, rfl, law_post hW' rfl rfl (by rw [Tryz.params14]; decide) rfl hb⟩
set_option maxHeartbeats 0 in
theorem alg_closed : joinedFacts Tryz.pinned.checked.prog 14 Tryz.f14 Rows.nettingAlgebraSpec Rows.nettingAlgebraRow = true := by
  unfold joinedFacts
  simp only [Bool.and_eq_true]
  repeat' apply And.intro
  all_goals as_aux_lemma => kernel_rfl
set_option maxHeartbeats 0 in
theorem alg_holds : Rows.NettingAlgebraSaid :=
  OpenClaim.holds_of_wide 14 Tryz.f14 rfl rfl rfl rfl rfl rfl rfl ⟨rfl, rfl, rfl, rfl, rfl⟩ rfl rfl rfl rfl rfl (by kernel_rfl) Tryz.func14 alg_closed
    (of_decide_eq_true (by kernel_rfl)) (by unfold Func.isWrapper; rw [if_neg (of_decide_eq_false (by kernel_rfl))]; exact ⟨rfl, rfl⟩)
    (fun os started H enc _ => alg_lifted os started H enc)
set_option maxHeartbeats 0 in
theorem alg_card : Rows.NettingAlgebraCardSaid :=
  Claim7.holds_tied_plain_at .later [] [.data, .data, .data, .data, .sentinel, .sentinel, .pinned] true (true, "990ad92517b89351c2f246a75ca85d757c4da301d35f2805c3b6a46fdce1c356") true alg_holds (fun _ h => by cases h) (by kernel_rfl) (fun _ h => by cases h) nettingAlgebra_row_tie rfl ⟨rfl, rfl⟩ (by kernel_rfl) rfl
    (fun f fn hf hfn => by
      obtain rfl : f = 14 := Option.some.inj ((show Tryz.prog.funcNamed "codend/codendlaw01.NettingAlgebra" = some 14 by kernel_rfl).symm.trans hf) |>.symm
      obtain rfl : fn = Tryz.f14 := (Option.some.inj (Tryz.func14.symm.trans hfn)).symm
      exact ⟨by kernel_rfl, fun j t ht => by
        rw [Tryz.params14] at ht
        have hm : t ∈ [26, 26, 23] := by simpa using Array.mem_of_getElem? ht
        have hall : ([26, 26, 23].all fun u => !Tryz.prog.wantsStandIn u) = true := by kernel_rfl
        exact (show Tryz.prog.wantsStandIn t = false by simpa using List.all_eq_true.1 hall t hm)⟩)
    (by kernel_rfl)
end Go.Proofs.YtlkhpgocbojdgaaGreatDoor

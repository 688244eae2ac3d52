/-
  NettingBars: it returns true, whatever its arguments: the row and its card.
-/
import Derived.Test.YtlkhpgocbojdgaaGreatDoorNtOpen
import Derived.Test.YtlkhpgocbojdgaaGreatDoorNtBars
import Derived.Test.YtlkhpgocbojdgaaGreatDoorTie
import Derived.Test.YtlkhpgocbojdgaaGreatDoorCards
namespace Go.Proofs.YtlkhpgocbojdgaaGreatDoor
open Go Go.RowKit Go.ChangeShapes Go.WideShapes
set_option linter.unusedSimpArgs false
set_option linter.unusedVariables false

theorem bars_call {v0 : Value} {l : List Ai.B3} (x y s p q : Int) {W : World} (h : W.ShapedOpen Tryz.prog) (h0 : Ai.IsNet W v0 l) : Calls Tryz.prog 12 #[v0, Ai.br x y s, Ai.kn p q] W fun e W' => e = .returned (.bool true) ∧ Below W.heap.size W W' :=
  Ai.calls_sl1 (vs := [Ai.br x y s, Ai.kn p q]) Ai.c12 (fun w args => enters_of Tryz.func12 (by kernel_rfl) rfl args w) (fun _ => rfl) rfl (fun c off cap _ hc => by
    show (match Ai.slice? c off (l.length * 3) with
      | some r => match Ai.unBars r with
        | some _ => some (Ai.bv true, [])
        | none => none
      | none => none) = _
    rw [hc]
    dsimp only
    rw [Ai.unBars_of]) h h0

set_option maxRecDepth 100000 in
theorem bars_lifted (os : Os) (started : os.Started) (H : Type) (enc : TypeId × Value → H) :
    ReturnsInHanded {} Tryz.checked os 12 .any (fun w args => (Rows.nettingBarsSpec.pre enc Tryz.prog Tryz.f12 Rows.nettingBarsRow.domain false w args ∧ laidMetH Tryz.prog Rows.nettingBarsRow.laid w) ∧ sizedMet enc Tryz.prog Tryz.f12 (OpenSpec.ofChange Rows.nettingBarsSpec) false w args)
      (Rows.nettingBarsSpec.post enc Tryz.prog Tryz.f12 false true false false) := by
  refine Ai.lifted_and_shaped (C := Tryz.checked) (X := fun w _ => laidMetH Tryz.prog Rows.nettingBarsRow.laid w) (fun _ _ _ hh h => h.of_heap hh) ownNone started (by kernel_rfl) Tryz.func12
    (ChangeSpec.witness_shaped (enc := enc) (C := Tryz.checked) (os := os) (X := fun w _ => laidMetH Tryz.prog Rows.nettingBarsRow.laid w) false (World.laidAll Tryz.prog os Rows.nettingBarsRow.laid) #[.slice none 0 0, Ai.br 0 0 0, Ai.kn 0 0] 8 (World.laidAll_os _ _ _)
      (World.shaped_of_ZipB (by kernel_rfl) (by kernel_rfl)) (by kernel_rfl) (by kernel_rfl) (by kernel_rfl)
      (by rw [MakeChecks.laidMetH_plain _ _ _ (by kernel_rfl)]; exact laidMet_laidAll _ (by kernel_rfl) (by kernel_rfl))) ?_
  intro W base args ds gs before hval0 hW _ hsh
  have hval : ∀ (j : Nat) t v, Tryz.f12.params[j]? = some t → args[j]? = some v → Value.okWide Tryz.prog W .any base t v := hval0
  have hW' := hW
  obtain ⟨p, q, hA0, hV, rfl, _, _⟩ := hW
  have hA : DataW.TrodAll enc Tryz.prog W 0 (fun _ => true) true Tryz.f12.params.toList args.toList ds p := hA0
  rw [Tryz.params12] at hA hval
  obtain ⟨v0, v1, v2, d0, d1, d2, p0, p1, p2, rfl, rfl, rfl, h0, h1, h2⟩ := trodAll_three hA
  obtain ⟨rfl, rfl⟩ := trodVars_none hV
  obtain ⟨l, hn⟩ := Ai.open_net (hval 0 26 v0 rfl rfl) h0
  obtain ⟨x, y, s, rfl, _⟩ := Ai.open_bar (hval 1 60 v1 rfl rfl) h1
  obtain ⟨a, b, rfl, _⟩ := Ai.open_knot (hval 2 23 v2 rfl rfl) h2
  refine (bars_call x y s a b hsh hn).mono fun e W' ⟨he, hb⟩ => ?_
  subst he
  exact ⟨_, rfl, law_post hW' rfl rfl (by rw [Tryz.params12]; decide) rfl hb⟩
set_option maxHeartbeats 0 in
theorem bars_closed : joinedFacts Tryz.pinned.checked.prog 12 Tryz.f12 Rows.nettingBarsSpec Rows.nettingBarsRow = true := by
  unfold joinedFacts
  simp only [Bool.and_eq_true]
  repeat' apply And.intro
  all_goals as_aux_lemma => kernel_rfl
set_option maxHeartbeats 0 in
theorem bars_holds : Rows.NettingBarsSaid :=
  OpenClaim.holds_of_wide 12 Tryz.f12 rfl rfl rfl rfl rfl rfl rfl ⟨rfl, rfl, rfl, rfl, rfl⟩ rfl rfl rfl rfl rfl (by kernel_rfl) Tryz.func12 bars_closed
    (of_decide_eq_true (by kernel_rfl)) (by unfold Func.isWrapper; rw [if_neg (of_decide_eq_false (by kernel_rfl))]; exact ⟨rfl, rfl⟩)
    (fun os started H enc _ => bars_lifted os started H enc)
set_option maxHeartbeats 0 in
theorem bars_card : Rows.NettingBarsCardSaid :=
  Claim7.holds_tied_plain_at .later [] [.data, .data, .data, .data, .sentinel, .sentinel, .pinned] true (true, "990ad92517b89351c2f246a75ca85d757c4da301d35f2805c3b6a46fdce1c356") true bars_holds (fun _ h => by cases h) (by kernel_rfl) (fun _ h => by cases h) nettingBars_row_tie rfl ⟨rfl, rfl⟩ (by kernel_rfl) rfl
    (fun f fn hf hfn => by
      obtain rfl : f = 12 := Option.some.inj ((show Tryz.prog.funcNamed "codend/codendlaw01.NettingBars" = some 12 by kernel_rfl).symm.trans hf) |>.symm
      obtain rfl : fn = Tryz.f12 := (Option.some.inj (Tryz.func12.symm.trans hfn)).symm
      exact ⟨by kernel_rfl, fun j t ht => by
        rw [Tryz.params12] at ht
        have hm : t ∈ [26, 60, 23] := by simpa using Array.mem_of_getElem? ht
        have hall : ([26, 60, 23].all fun u => !Tryz.prog.wantsStandIn u) = true := by kernel_rfl
        exact (show Tryz.prog.wantsStandIn t = false by simpa using List.all_eq_true.1 hall t hm)⟩)
    (by kernel_rfl)
end Go.Proofs.YtlkhpgocbojdgaaGreatDoor

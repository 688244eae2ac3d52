/-
  NettingNames: the row and its card.
-/
import Derived.Test.YtlkhpgocbojdgaaGreatDoorNtRow
import Derived.Test.YtlkhpgocbojdgaaGreatDoorNtNames
import Derived.Test.YtlkhpgocbojdgaaGreatDoorTie
import Derived.Test.YtlkhpgocbojdgaaGreatDoorCards
namespace Go.Proofs.YtlkhpgocbojdgaaGreatDoor
open Go Go.RowKit Go.ChangeShapes Go.WideShapes
open Go.ChangeMaps (open_string shut_string)
set_option linter.unusedSimpArgs false
set_option linter.unusedVariables false

theorem names_call (z : ByteArray) (key n : Int) {W : World} (h : W.ShapedOpen Tryz.prog) : Calls Tryz.prog 13 #[.string z, .int .i64 key, .int .i64 n] W fun e W' => e = .returned (.bool true) ∧ Below W.heap.size W W' :=
  Ai.calls_flat Ai.c13 Tryz.func13 (fun w args => enters_of Tryz.func13 (by kernel_rfl) rfl args w) (args := [.string z, .int .i64 key, .int .i64 n]) rfl (v := .bool true) (h' := ⟨.nil, 0, 0⟩) rfl rfl (Ai.gl_of_shape h)

set_option maxRecDepth 100000 in
theorem names_lifted (os : Os) (started : os.Started) (H : Type) (enc : TypeId × Value → H) :
    ReturnsInHanded {} Tryz.checked os 13 .any (fun w args => (Rows.nettingNamesSpec.pre enc Tryz.prog Tryz.f13 Rows.nettingNamesRow.domain false w args ∧ laidMetH Tryz.prog Rows.nettingNamesRow.laid w) ∧ sizedMet enc Tryz.prog Tryz.f13 (OpenSpec.ofChange Rows.nettingNamesSpec) false w args)
      (Rows.nettingNamesSpec.post enc Tryz.prog Tryz.f13 false true false false) := by
  refine Ai.lifted_and_shaped (C := Tryz.checked) (X := fun w _ => laidMetH Tryz.prog Rows.nettingNamesRow.laid w) (fun _ _ _ hh h => h.of_heap hh) ownNone started (by kernel_rfl) Tryz.func13
    (ChangeSpec.witness_shaped (enc := enc) (C := Tryz.checked) (os := os) (X := fun w _ => laidMetH Tryz.prog Rows.nettingNamesRow.laid w) false (World.laidAll Tryz.prog os Rows.nettingNamesRow.laid) #[.string ⟨#[]⟩, .int .i64 0, .int .i64 0] 8 (World.laidAll_os _ _ _)
      (World.shaped_of_ZipB (by kernel_rfl) (by kernel_rfl)) (by kernel_rfl) (by kernel_rfl) (by kernel_rfl)
      (by rw [MakeChecks.laidMetH_plain _ _ _ (by kernel_rfl)]; exact laidMet_laidAll _ (by kernel_rfl) (by kernel_rfl))) ?_
  intro W base args ds gs before hval0 hW _ hsh
  have hval : ∀ (j : Nat) t v, Tryz.f13.params[j]? = some t → args[j]? = some v → Value.okWide Tryz.prog W .any base t v := hval0
  have hW' := hW
  obtain ⟨p, q, hA0, hV, rfl, _, _⟩ := hW
  have hA : DataW.TrodAll enc Tryz.prog W 0 (fun _ => true) true Tryz.f13.params.toList args.toList ds p := hA0
  rw [Tryz.params13] at hA hval
  obtain ⟨v0, v1, v2, d0, d1, d2, p0, p1, p2, rfl, rfl, rfl, h0, h1, h2⟩ := trodAll_three hA
  obtain ⟨rfl, rfl⟩ := trodVars_none hV
  obtain ⟨z, rfl, rfl, rfl, wz⟩ := open_string Tryz.underlying9 (hval 0 9 v0 rfl rfl) h0
  obtain ⟨key, rfl, rfl, rfl, wk⟩ := open_int Tryz.underlying3 (hval 1 3 v1 rfl rfl) h1
  obtain ⟨n, rfl, rfl, rfl, wn⟩ := open_int Tryz.underlying3 (hval 2 3 v2 rfl rfl) h2
  simp only [List.append_nil] at hW'
  refine (names_call z key n hsh).mono fun e W' ⟨he, hb⟩ => ?_
  subst he
  refine ⟨_, rfl, _, _, _, [], [], [], hW', ?_, ?_, ?_, hb.frame _, fun h => by cases h⟩
  · exact trodAll_mk1 (shut_bool Tryz.underlying4 true)
  · exact trodAll_mk3 (shut_string Tryz.underlying9 wz) (shut_int Tryz.underlying3 wk) (shut_int Tryz.underlying3 wn)
  · rfl

set_option maxHeartbeats 0 in
theorem names_closed : joinedFacts Tryz.pinned.checked.prog 13 Tryz.f13 Rows.nettingNamesSpec Rows.nettingNamesRow = true := by
  unfold joinedFacts
  simp only [Bool.and_eq_true]
  repeat' apply And.intro
  all_goals as_aux_lemma => kernel_rfl
set_option maxHeartbeats 0 in
theorem names_holds : Rows.NettingNamesSaid :=
  OpenClaim.holds_of_wide 13 Tryz.f13 rfl rfl rfl rfl rfl rfl rfl ⟨rfl, rfl, rfl, rfl, rfl⟩ rfl rfl rfl rfl rfl (by kernel_rfl) Tryz.func13 names_closed
    (of_decide_eq_true (by kernel_rfl)) (by unfold Func.isWrapper; rw [if_neg (of_decide_eq_false (by kernel_rfl))]; exact ⟨rfl, rfl⟩)
    (fun os started H enc _ => names_lifted os started H enc)
set_option maxHeartbeats 0 in
theorem names_card : Rows.NettingNamesCardSaid :=
  Claim7.holds_tied_plain_at .later [] [.data, .data, .data, .data, .sentinel, .sentinel, .pinned] true (true, "990ad92517b89351c2f246a75ca85d757c4da301d35f2805c3b6a46fdce1c356") true names_holds (fun _ h => by cases h) (by kernel_rfl) (fun _ h => by cases h) nettingNames_row_tie rfl ⟨rfl, rfl⟩ (by kernel_rfl) rfl
    (fun f fn hf hfn => by
      obtain rfl : f = 13 := Option.some.inj ((show Tryz.prog.funcNamed "codend/codendlaw01.NettingNames" = some 13 by kernel_rfl).symm.trans hf) |>.symm
      obtain rfl : fn = Tryz.f13 := (Option.some.inj (Tryz.func13.symm.trans hfn)).symm
      exact ⟨by kernel_rfl, fun j t ht => by
        rw [Tryz.params13] at ht
        have hm : t ∈ [9, 3, 3] := by simpa using Array.mem_of_getElem? ht
        have hall : ([9, 3, 3].all fun u => !Tryz.prog.wantsStandIn u) = true := by kernel_rfl
        exact (show Tryz.prog.wantsStandIn t = false by simpa using List.all_eq_true.1 hall t hm)⟩)
    (by kernel_rfl)
end Go.Proofs.YtlkhpgocbojdgaaGreatDoor

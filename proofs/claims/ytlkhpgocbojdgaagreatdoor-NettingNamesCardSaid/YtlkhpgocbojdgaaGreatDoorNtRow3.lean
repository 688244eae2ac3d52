/-
  NettingNames: the row and its card.
-/
import Derived.Test.YtlkhpgocbojdgaaGreatDoorNtRow
import Derived.Test.YtlkhpgocbojdgaaGreatDoorTie
import Derived.Test.YtlkhpgocbojdgaaGreatDoorCards
namespace Go.Proofs.YtlkhpgocbojdgaaGreatDoor
open Go

set_option maxHeartbeats 0 in
theorem names_closed : joinedFacts Tryz.pinned.checked.prog 13 Tryz.f13 Rows.nettingNamesSpec Rows.nettingNamesRow = true := by
  unfold joinedFacts
  simp only [Bool.and_eq_true]
  repeat' apply And.intro
  all_goals as_aux_lemma => kernel_rfl
set_option maxHeartbeats 0 in
theorem names_holds : Rows.NettingNamesSaid :=
  OpenClaim.holds_of_wide 13 Tryz.f13 rfl rfl rfl rfl rfl rfl rfl ⟨rfl, rfl, rfl, rfl, rfl⟩ rfl rfl rfl rfl rfl (by kernel_rfl) Tryz.func13 names_closed
    (of_decide_eq_true (by kernel_rfl)) (by unfold Func.isWrapper; rw [if_neg (of_decide_eq_false (by kernel_rfl))]; exact ⟨rfl, rfl⟩)
    (fun os started H enc _ => names_lifted os started H enc)
set_option maxHeartbeats 0 in
theorem names_card : Rows.NettingNamesCardSaid :=
  Claim7.holds_tied_plain_at .later [] [.data, .data, .data, .data, .sentinel, .sentinel, .pinned] true (true, "990ad92517b89351c2f246a75ca85d757c4da301d35f2805c3b6a46fdce1c356") true names_holds (fun _ h => by cases h) (by kernel_rfl) (fun _ h => by cases h) nettingNames_row_tie rfl ⟨rfl, rfl⟩ (by kernel_rfl) rfl
    (fun f fn hf hfn => by
      obtain rfl : f = 13 := Option.some.inj ((show Tryz.prog.funcNamed "codend/codendlaw01.NettingNames" = some 13 by kernel_rfl).symm.trans hf) |>.symm
      obtain rfl : fn = Tryz.f13 := (Option.some.inj (Tryz.func13.symm.trans hfn)).symm
      exact ⟨by kernel_rfl, fun j t ht => by
        rw [Tryz.params13] at ht
        have hm : t ∈ [9, 3, 3] := by simpa using Array.mem_of_getElem? ht
        have hall : ([9, 3, 3].all fun u => !Tryz.prog.wantsStandIn u) = true := by kernel_rfl
        exact (show Tryz.prog.wantsStandIn t = false by simpa using List.all_eq_true.1 hall t hm)⟩)
    (by kernel_rfl)
end Go.Proofs.YtlkhpgocbojdgaaGreatDoor

/-
  The functions without a body, and all contracts so far.
-/
import Derived.Test.YtlkhpgocbojdgaaGreatDoorNtLegs
import Derived.Test.YtlkhpgocbojdgaaGreatDoorAiProg
namespace Go.Proofs.YtlkhpgocbojdgaaGreatDoor.Ai
open Go
set_option linter.unusedSimpArgs false
set_option linter.unusedVariables false

theorem c149 : IntrOk E0 149 sameA :=
  ⟨sameA_ok (E := E0) (fn := Tryz.f149) (by kernel_rfl) (by kernel_rfl) (by kernel_rfl) (by kernel_rfl) (by kernel_rfl), fun _ _ _ _ e => sameA_up e⟩
noncomputable def gIndexByte := extA Tryz.prog Extern.BytealgIndexByte.indexByte
theorem c179 : IntrOk E0 179 gIndexByte :=
  ⟨extA_ok (E := E0) (fn := Tryz.f179) (by kernel_rfl) (by kernel_rfl) (by kernel_rfl) (by kernel_rfl) (by kernel_rfl), fun _ _ _ _ e => extA_up e⟩
noncomputable def gIndexS := extA Tryz.prog Extern.BytealgIndex.index
theorem c198 : IntrOk E0 198 gIndexS :=
  ⟨extA_ok (E := E0) (fn := Tryz.f198) (by kernel_rfl) (by kernel_rfl) (by kernel_rfl) (by kernel_rfl) (by kernel_rfl), fun _ _ _ _ e => extA_up e⟩
noncomputable def gCountS := extA Tryz.prog Extern.BytealgCount.count
theorem c208 : IntrOk E0 208 gCountS :=
  ⟨extA_ok (E := E0) (fn := Tryz.f208) (by kernel_rfl) (by kernel_rfl) (by kernel_rfl) (by kernel_rfl) (by kernel_rfl), fun _ _ _ _ e => extA_up e⟩

noncomputable def t6 : T (List Value → AHeap → Option (Value × AHeap)) := (((((t5.put 40 gDegree).put 32 gLegs).put 149 sameA).put 179 gIndexByte).put 198 gIndexS).put 208 gCountS
theorem t6_ok : T.All (fun f g => IntrOk E0 f g) t6 (fun j => j) := allT_put (allT_put (allT_put (allT_put (allT_put (allT_put t5_ok c40) c32) c149) c179) c198) c208
noncomputable def E6 : Env := { P := Tryz.prog, fn := fnTab, ty := tyTab, intr := t6 }
theorem K6 : E6.Runs := runs_intr fnAll tyAll mixed t6_ok
end Go.Proofs.YtlkhpgocbojdgaaGreatDoor.Ai

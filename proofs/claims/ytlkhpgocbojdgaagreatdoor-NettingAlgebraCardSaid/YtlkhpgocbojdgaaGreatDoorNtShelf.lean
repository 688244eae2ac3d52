/-
  THE LIBRARY's CONTRACTS at this program (the layings were printed by the kit's tool), as contracts of the evaluator.
-/
import Derived.Test.YtlkhpgocbojdgaaGreatDoorNtExt
import Derived.Shelf.Strings.Cut
namespace Go.Proofs
open Go.Shelf
def Tryz.lays145_ren : Go.Shelf.Ren := ⟨fun | 145 => 139 | 220 => 153 | 219 => 180 | 217 => 151 | 225 => 198 | 224 => 199 | 267 => 200 | 266 => 179 | 314 => 213 | n => n, fun | 9 => 9 | 4 => 4 | 59 => 181 | 3 => 3 | 5 => 5 | 46 => 192 | 146 => 246 | 51 => 206 | n => n, fun | 1 => 1 | n => n⟩
theorem Tryz.lays145 : Go.Proofs.Lays.n145 Tryz.prog Tryz.lays145_ren := {
  mixed := by kernel_rfl
  f145 := Tryz.func139.trans (congrArg some (by kernel_rfl))
  f217 := Tryz.func151.trans (congrArg some (by kernel_rfl))
  f219 := Tryz.func180.trans (congrArg some (by kernel_rfl))
  f220 := Tryz.func153.trans (congrArg some (by kernel_rfl))
  f224 := Tryz.func199.trans (congrArg some (by kernel_rfl))
  f225 := Tryz.func198.trans (congrArg some (by kernel_rfl))
  f266 := Tryz.func179.trans (congrArg some (by kernel_rfl))
  f267 := Tryz.func200.trans (congrArg some (by kernel_rfl))
  f314 := Tryz.func213.trans (congrArg some (by kernel_rfl))
  t3 := Tryz.underlying3
  a3 := Tryz.isAgg3
  z3 := Tryz.sizeOf3
  v3 := Tryz.zeroValue3
  t4 := Tryz.underlying4
  a4 := Tryz.isAgg4
  z4 := Tryz.sizeOf4
  v4 := Tryz.zeroValue4
  t5 := Tryz.underlying5
  a5 := Tryz.isAgg5
  z5 := Tryz.sizeOf5
  v5 := Tryz.zeroValue5
  t9 := Tryz.underlying9
  a9 := Tryz.isAgg9
  z9 := Tryz.sizeOf9
  v9 := Tryz.zeroValue9
  t46 := Tryz.underlying192
  a46 := Tryz.isAgg192
  z46 := Tryz.sizeOf192
  v46 := Tryz.zeroValue192
  t51 := Tryz.underlying206
  a51 := Tryz.isAgg206
  z51 := Tryz.sizeOf206
  v51 := Tryz.zeroValue206
  t59 := Tryz.underlying181
  a59 := Tryz.isAgg181
  z59 := Tryz.sizeOf181
  v59 := Tryz.zeroValue181
  t146 := Tryz.underlying246
  a146 := Tryz.isAgg246
  z146 := Tryz.sizeOf246
  v146 := Tryz.zeroValue246
  g1 := by kernel_rfl }
end Go.Proofs
namespace Go.Proofs.YtlkhpgocbojdgaaGreatDoor.Ai
open Go
set_option linter.unusedSimpArgs false
set_option linter.unusedVariables false

def gCut (args : List Value) (h : AHeap) : Option (Value × AHeap) := match args with
  | [.string ⟨⟨s⟩⟩, .string ⟨⟨p⟩⟩] => match Nat.blt s.length 4294967281 with
    | true => some (.tuple #[.string ⟨(Lib.cut s p).1.toArray⟩, .string ⟨(Lib.cut s p).2.1.toArray⟩, .bool (Lib.cut s p).2.2], h)
    | false => none
  | _ => none
theorem rel_drewN {ρ : Ren} {h : AHeap} {w : World} (R : Rel ρ h w) (n : Nat) : Rel ρ h (w.drewN n) ∧ Adv ρ ρ h h w (w.drewN n) := by
  have e : (w.drewN n).heap = w.heap := rfl
  have R' : Rel ρ h (w.drewN n) := ⟨by rw [e]; exact R.obj, R.inj, by rw [e]; exact R.lt⟩
  refine ⟨R', .refl _, fun b c N hb => .inl hb, Nat.le_refl _, Nat.le_refl _, R', ?_, ?_, ?_, by rw [e]; exact Nat.le_refl _, fun b h1 h2 => by omega, fun c _ _ => by rw [e], fun _ _ _ => rfl⟩
  · rfl
  · rfl
  · rfl
theorem c139 : IntrOk E0 139 gCut := by
  refine ⟨?_, ?_⟩
  · intro ρ h h' w args args' v ht R hL e
    unfold gCut at e
    split at e
    · rename_i s p
      split at e
      · rename_i hs
        cases e
        have := flats_eq (xs := [.string ⟨⟨s⟩⟩, .string ⟨⟨p⟩⟩]) rfl hL
        subst this
        obtain ⟨m, hm⟩ := ht.gl.maxLen
        have hc := Any.strings_Cut Tryz.lays145 ⟨⟨s⟩⟩ ⟨⟨p⟩⟩ m w (show s.length < 4294967281 by simpa [Nat.blt_eq] using hs) hm
        refine .inl ⟨enters_of Tryz.func139 (by kernel_rfl) rfl _ _, callsIn_wide.2 (hc.mono ?_)⟩
        rintro x w' ⟨rfl, n, rfl⟩
        exact ⟨_, rfl, ρ, flat_VR ρ rfl, (rel_drewN R n).2⟩
      · cases e
    · cases e
  · intro args h v h' e
    unfold gCut at e
    split at e
    · split at e
      · cases e; exact .refl _
      · cases e
    · cases e
noncomputable def t7 : T (List Value → AHeap → Option (Value × AHeap)) := t6.put 139 gCut
theorem t7_ok : T.All (fun f g => IntrOk E0 f g) t7 (fun j => j) := allT_put t6_ok c139
noncomputable def E7 : Env := { P := Tryz.prog, fn := fnTab, ty := tyTab, intr := t7 }
theorem K7 : E7.Runs := runs_intr fnAll tyAll mixed t7_ok
end Go.Proofs.YtlkhpgocbojdgaaGreatDoor.Ai

/-
  CALLS ON FIXED ARGUMENTS, printed by dev/closed.py.
-/
import Derived.Test.YtlkhpgocbojdgaaGreatDoorNtShelf
namespace Go.Proofs.YtlkhpgocbojdgaaGreatDoor.Ai
open Go
set_option maxRecDepth 100000
set_option linter.unusedVariables false
def eSheet22 : Ent := ⟨[kn 0 0, iv 2, iv 2], [], (.tuple #[(.slice (some ⟨0, 0, none⟩) 8 (upCap 3 8)), (.int .i64 0)]), [.flat [(.int .i64 0), (.int .i64 0), (.int .i64 1), (.int .i64 2), (.int .i64 0), (.int .i64 (-1)), (.int .i64 2), (.int .i64 0), (.int .i64 1), (.int .i64 4), (.int .i64 0), (.int .i64 (-1)), (.int .i64 1), (.int .i64 1), (.int .i64 (-1)), (.int .i64 1), (.int .i64 1), (.int .i64 1), (.int .i64 3), (.int .i64 1), (.int .i64 (-1)), (.int .i64 3), (.int .i64 1), (.int .i64 1)] 60]⟩
theorem eSheet22_ok : eSheet22.ok E4 Tryz.f18 :=
  cl_shows K4 500 (finC 0 [(0, .flat 42)] [6, 7]) [(6, (.slice (some ⟨0, 0, none⟩) 8 (upCap 3 8))), (7, (.int .i64 0))] rfl (by kernel_rfl) (by kernel_rfl) (by kernel_rfl)
def eSheet24 : Ent := ⟨[kn 0 0, iv 2, iv 4], [], (.tuple #[(.slice (some ⟨0, 0, none⟩) 16 (upCap 3 16)), (.int .i64 0)]), [.flat [(.int .i64 0), (.int .i64 0), (.int .i64 1), (.int .i64 2), (.int .i64 0), (.int .i64 (-1)), (.int .i64 2), (.int .i64 0), (.int .i64 1), (.int .i64 4), (.int .i64 0), (.int .i64 (-1)), (.int .i64 1), (.int .i64 1), (.int .i64 (-1)), (.int .i64 1), (.int .i64 1), (.int .i64 1), (.int .i64 3), (.int .i64 1), (.int .i64 (-1)), (.int .i64 3), (.int .i64 1), (.int .i64 1), (.int .i64 0), (.int .i64 2), (.int .i64 1), (.int .i64 2), (.int .i64 2), (.int .i64 (-1)), (.int .i64 2), (.int .i64 2), (.int .i64 1), (.int .i64 4), (.int .i64 2), (.int .i64 (-1)), (.int .i64 1), (.int .i64 3), (.int .i64 (-1)), (.int .i64 1), (.int .i64 3), (.int .i64 1), (.int .i64 3), (.int .i64 3), (.int .i64 (-1)), (.int .i64 3), (.int .i64 3), (.int .i64 1)] 60]⟩
theorem eSheet24_ok : eSheet24.ok E4 Tryz.f18 :=
  cl_shows K4 500 (finC 0 [(0, .flat 76)] [6, 7]) [(6, (.slice (some ⟨0, 0, none⟩) 16 (upCap 3 16))), (7, (.int .i64 0))] rfl (by kernel_rfl) (by kernel_rfl) (by kernel_rfl)
def eTurn : Ent := ⟨[sv 0 0 1 1, iv 1], [barCells [⟨1,1,-1⟩]], (.tuple #[(.slice (some ⟨1, 0, none⟩) 1 (upCap 3 1)), (.int .i64 0)]), [.flat [(.int .i64 (-2)), (.int .i64 0), (.int .i64 1)] 60]⟩
theorem eTurn_ok : eTurn.ok E4 Tryz.f58 :=
  cl_shows K4 500 (finC 1 [(1, .flat 8)] [4, 5]) [(4, (.slice (some ⟨1, 0, none⟩) 1 (upCap 3 1))), (5, (.int .i64 0))] rfl (by kernel_rfl) (by kernel_rfl) (by kernel_rfl)
def eMirror : Ent := ⟨[sv 0 0 1 1], [barCells [⟨2,0,1⟩]], (.tuple #[(.slice (some ⟨1, 0, none⟩) 1 (upCap 3 1)), (.int .i64 0)]), [.flat [(.int .i64 (-2)), (.int .i64 0), (.int .i64 (-1))] 60]⟩
theorem eMirror_ok : eMirror.ok E4 Tryz.f57 :=
  cl_shows K4 500 (finC 1 [(1, .flat 6)] [2, 3]) [(2, (.slice (some ⟨1, 0, none⟩) 1 (upCap 3 1))), (3, (.int .i64 0))] rfl (by kernel_rfl) (by kernel_rfl) (by kernel_rfl)
def eMeshes : Ent := ⟨[sv 0 0 8 8], [barCells [⟨0,0,1⟩,⟨2,0,-1⟩,⟨2,0,1⟩,⟨4,0,-1⟩,⟨1,1,-1⟩,⟨1,1,1⟩,⟨3,1,-1⟩,⟨3,1,1⟩]], (.tuple #[(.slice (some ⟨1, 0, none⟩) 1 (upCap 2 1)), (.int .i64 0)]), [.flat [(.int .i64 2), (.int .i64 1)] 121]⟩
theorem eMeshes_ok : eMeshes.ok E4 Tryz.f41 :=
  cl_shows K4 500 (finC 1 [(1, .flat 4)] [2, 3]) [(2, (.slice (some ⟨1, 0, none⟩) 1 (upCap 2 1))), (3, (.int .i64 0))] rfl (by kernel_rfl) (by kernel_rfl) (by kernel_rfl)
def eParts : Ent := ⟨[sv 0 0 2 2], [barCells [⟨0,0,1⟩,⟨4,0,1⟩]], (.tuple #[(.slice (some ⟨1, 0, none⟩) 2 (upCap 1 2)), (.int .i64 0)]), [.nest [(.slice (some ⟨2, 0, none⟩) 1 1), (.slice (some ⟨3, 0, none⟩) 1 1)] 26, .flat [(.int .i64 0), (.int .i64 0), (.int .i64 1)] 60, .flat [(.int .i64 4), (.int .i64 0), (.int .i64 1)] 60]⟩
theorem eParts_ok : eParts.ok E4 Tryz.f22 :=
  cl_shows K4 500 (finC 1 [(1, .old 29), (2, .flat 3), (3, .flat 17)] [2, 3]) [(2, (.slice (some ⟨1, 0, none⟩) 2 (upCap 1 2))), (3, (.int .i64 0))] rfl (by kernel_rfl) (by kernel_rfl) (by kernel_rfl)
def eMinus : Ent := ⟨[sv 0 0 16 (upCap 3 16), sv 1 0 4 (upCap 3 4)], [barCells [⟨0,0,1⟩,⟨2,0,-1⟩,⟨2,0,1⟩,⟨4,0,-1⟩,⟨1,1,-1⟩,⟨1,1,1⟩,⟨3,1,-1⟩,⟨3,1,1⟩,⟨0,2,1⟩,⟨2,2,-1⟩,⟨2,2,1⟩,⟨4,2,-1⟩,⟨1,3,-1⟩,⟨1,3,1⟩,⟨3,3,-1⟩,⟨3,3,1⟩], barCells [⟨1,1,1⟩,⟨3,1,-1⟩,⟨2,2,-1⟩,⟨2,2,1⟩]], (.tuple #[(.slice (some ⟨2, 0, none⟩) 12 (upCap 3 12)), (.int .i64 0)]), [.flat [(.int .i64 0), (.int .i64 0), (.int .i64 1), (.int .i64 2), (.int .i64 0), (.int .i64 (-1)), (.int .i64 2), (.int .i64 0), (.int .i64 1), (.int .i64 4), (.int .i64 0), (.int .i64 (-1)), (.int .i64 1), (.int .i64 1), (.int .i64 (-1)), (.int .i64 3), (.int .i64 1), (.int .i64 1), (.int .i64 0), (.int .i64 2), (.int .i64 1), (.int .i64 4), (.int .i64 2), (.int .i64 (-1)), (.int .i64 1), (.int .i64 3), (.int .i64 (-1)), (.int .i64 1), (.int .i64 3), (.int .i64 1), (.int .i64 3), (.int .i64 3), (.int .i64 (-1)), (.int .i64 3), (.int .i64 3), (.int .i64 1)] 60]⟩
theorem eMinus_ok : eMinus.ok E4 Tryz.f37 :=
  cl_shows K4 500 (finC 2 [(2, .flat 42)] [4, 5]) [(4, (.slice (some ⟨2, 0, none⟩) 12 (upCap 3 12))), (5, (.int .i64 0))] rfl (by kernel_rfl) (by kernel_rfl) (by kernel_rfl)
def eDraw : Ent := ⟨[iv 1, iv 3], [], (.tuple #[(.slice (some ⟨0, 0, none⟩) 3 3), (.int .i64 0)]), [.flat [(.int .i64 0), (.int .i64 2), (.int .i64 1)] 3]⟩
theorem eDraw_ok : eDraw.ok E4 Tryz.f73 :=
  cl_shows K4 500 (finC 0 [(0, .flat 7)] [4, 5]) [(4, (.slice (some ⟨0, 0, none⟩) 3 3)), (5, (.int .i64 0))] rfl (by kernel_rfl) (by kernel_rfl) (by kernel_rfl)
def eAround : Ent := ⟨[kn 2 2], [], (.tuple #[(.slice (some ⟨0, 0, none⟩) 4 (upCap 3 4)), (.int .i64 0)]), [.flat [(.int .i64 1), (.int .i64 1), (.int .i64 1), (.int .i64 3), (.int .i64 1), (.int .i64 (-1)), (.int .i64 2), (.int .i64 2), (.int .i64 (-1)), (.int .i64 2), (.int .i64 2), (.int .i64 1)] 60]⟩
theorem eAround_ok : eAround.ok E4 Tryz.f68 :=
  cl_shows K4 500 (finC 0 [(0, .flat 12)] [2, 3]) [(2, (.slice (some ⟨0, 0, none⟩) 4 (upCap 3 4))), (3, (.int .i64 0))] rfl (by kernel_rfl) (by kernel_rfl) (by kernel_rfl)
def eCount : Ent := ⟨[sv 0 0 8 8], [barCells [⟨0,0,1⟩,⟨2,0,-1⟩,⟨2,0,1⟩,⟨4,0,-1⟩,⟨1,1,-1⟩,⟨1,1,1⟩,⟨3,1,-1⟩,⟨3,1,1⟩]], (.tuple #[(.agg #[(.int .i64 8), (.int .i64 8), (.int .i64 1), (.int .i64 1), (.int .i64 0)]), (.int .i64 0)]), [.flat [(.int .i64 8), (.int .i64 8), (.int .i64 1), (.int .i64 1), (.int .i64 0)] 39]⟩
theorem eCount_ok : eCount.ok E4 Tryz.f24 :=
  cl_shows K4 500 (finC 1 [(1, .flat 1)] [2, 3]) [(2, (.pointer (some ⟨1, 0, none⟩))), (3, (.int .i64 0))] rfl (by kernel_rfl) (by kernel_rfl) (by kernel_rfl)
def eCountR : Ent := ⟨[sv 0 0 12 (upCap 3 12)], [barCells [⟨0,0,1⟩,⟨2,0,-1⟩,⟨2,0,1⟩,⟨4,0,-1⟩,⟨1,1,-1⟩,⟨3,1,1⟩,⟨0,2,1⟩,⟨4,2,-1⟩,⟨1,3,-1⟩,⟨1,3,1⟩,⟨3,3,-1⟩,⟨3,3,1⟩]], (.tuple #[(.agg #[(.int .i64 12), (.int .i64 12), (.int .i64 0), (.int .i64 1), (.int .i64 1)]), (.int .i64 0)]), [.flat [(.int .i64 12), (.int .i64 12), (.int .i64 0), (.int .i64 1), (.int .i64 1)] 39]⟩
theorem eCountR_ok : eCountR.ok E4 Tryz.f24 :=
  cl_shows K4 500 (finC 1 [(1, .flat 1)] [2, 3]) [(2, (.pointer (some ⟨1, 0, none⟩))), (3, (.int .i64 0))] rfl (by kernel_rfl) (by kernel_rfl) (by kernel_rfl)
def eKnots : Ent := ⟨[sv 0 0 8 8], [barCells [⟨0,0,1⟩,⟨2,0,-1⟩,⟨2,0,1⟩,⟨4,0,-1⟩,⟨1,1,-1⟩,⟨1,1,1⟩,⟨3,1,-1⟩,⟨3,1,1⟩]], (.tuple #[(.slice (some ⟨1, 0, none⟩) 8 (upCap 2 16)), (.int .i64 0)]), [.flat [(.int .i64 0), (.int .i64 0), (.int .i64 2), (.int .i64 0), (.int .i64 4), (.int .i64 0), (.int .i64 1), (.int .i64 1), (.int .i64 3), (.int .i64 1), (.int .i64 0), (.int .i64 2), (.int .i64 2), (.int .i64 2), (.int .i64 4), (.int .i64 2), (.int .i64 0), (.int .i64 0), (.int .i64 0), (.int .i64 0), (.int .i64 0), (.int .i64 0), (.int .i64 0), (.int .i64 0), (.int .i64 0), (.int .i64 0), (.int .i64 0), (.int .i64 0), (.int .i64 0), (.int .i64 0), (.int .i64 0), (.int .i64 0)] 23]⟩
theorem eKnots_ok : eKnots.ok E4 Tryz.f33 :=
  cl_shows K4 500 (finC 1 [(1, .flat 24)] [2, 3]) [(2, (.slice (some ⟨1, 0, none⟩) 8 (upCap 2 16))), (3, (.int .i64 0))] rfl (by kernel_rfl) (by kernel_rfl) (by kernel_rfl)
def ePrint : Ent := ⟨[sv 0 0 8 8], [barCells [⟨0,0,1⟩,⟨2,0,-1⟩,⟨2,0,1⟩,⟨4,0,-1⟩,⟨1,1,-1⟩,⟨1,1,1⟩,⟨3,1,-1⟩,⟨3,1,1⟩]], (.tuple #[(.string ⟨⟨[48, 58, 32, 48, 47, 32, 50, 92, 32, 50, 47, 32, 52, 92, 10, 49, 58, 32, 49, 92, 32, 49, 47, 32, 51, 92, 32, 51, 47, 10]⟩⟩), (.int .i64 0)]), []⟩
theorem ePrint_ok : ePrint.ok E6 Tryz.f38 :=
  cl_shows K6 500 (finC 1 [] [2, 3]) [(2, (.string ⟨⟨[48, 58, 32, 48, 47, 32, 50, 92, 32, 50, 47, 32, 52, 92, 10, 49, 58, 32, 49, 92, 32, 49, 47, 32, 51, 92, 32, 51, 47, 10]⟩⟩)), (3, (.int .i64 0))] rfl (by kernel_rfl) (by kernel_rfl) (by kernel_rfl)

def eCanon : Ent := ⟨[sv 0 0 1 1], [barCells [⟨5,3,1⟩]], (.tuple #[(.slice (some ⟨1, 0, none⟩) 1 (upCap 3 1)), (.int .i64 0)]), [.flat [(.int .i64 0), (.int .i64 0), (.int .i64 (-1))] 60]⟩
theorem eCanon_ok : eCanon.ok E4 Tryz.f29 :=
  cl_shows K4 500 (finC 1 [(1, .flat 24)] [2, 3]) [(2, (.slice (some ⟨1, 0, none⟩) 1 (upCap 3 1))), (3, (.int .i64 0))] rfl (by kernel_rfl) (by kernel_rfl) (by kernel_rfl)
end Go.Proofs.YtlkhpgocbojdgaaGreatDoor.Ai

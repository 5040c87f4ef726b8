/- LoopsFollow: facts on the program, each by itself. -/
import Derived.Test.YtdbopohjgcdpmaaGreatDoorCards
import Derived.Test.YtdbopohjgcdpmaaGreatDoorTie
import Derived.WalkKit
import Derived.ProofKit
set_option maxRecDepth 100000
namespace Go.Proofs.YtdbopohjgcdpmaaGreatDoor.LoopsFollow
open Go
theorem j1 : laidOutB Tryz.pinned.checked.prog = true := by kernel_rfl
theorem j2 : mapsRowed Tryz.pinned.checked.prog = true := by kernel_rfl
theorem j3 : (Rows.loopsFollowRow.inPlace == Tryz.pinned.checked.prog.inPlace 3) = true := by kernel_rfl
theorem j4 : (Rows.loopsFollowRow.unfollowed == Tryz.pinned.checked.prog.unfollowed 3) = true := by kernel_rfl
theorem j5 : (Rows.loopsFollowRow.recurses == Tryz.pinned.checked.prog.recurses 3) = true := by kernel_rfl
theorem j6 : (Rows.loopsFollowRow.named == Tryz.pinned.checked.prog.varsNamed 3) = true := by kernel_rfl
theorem j7 : Tryz.pinned.checked.prog.stopsHeard = true := by kernel_rfl
theorem closed : joinedFacts Tryz.pinned.checked.prog 3 Tryz.f3 (OpenSpec.ofChange Rows.loopsFollowSpec).bare Rows.loopsFollowRow = true := by
  unfold joinedFacts
  rw [j1, j2, j3, j4, j5, j6, j7]
  kernel_rfl
end Go.Proofs.YtdbopohjgcdpmaaGreatDoor.LoopsFollow

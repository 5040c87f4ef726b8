/- DeviceValidity: facts on the program, each by itself. -/
import Derived.Test.YtibpgdnenoehfaaGreatDoorCards
import Derived.Test.YtibpgdnenoehfaaGreatDoorTie
import Derived.WalkKit
import Derived.ProofKit
set_option maxRecDepth 100000
namespace Go.Proofs.YtibpgdnenoehfaaGreatDoor.DeviceValidity
open Go
noncomputable abbrev p:=Tryz.pinned.checked.prog
theorem j1:laidOutB p = true:=by kernel_rfl
theorem j2:mapsRowed p = true:=by kernel_rfl
theorem j3:(Rows.deviceValidityUptoRow.inPlace == p.inPlace 3) = true:=by kernel_rfl
theorem j4:(Rows.deviceValidityUptoRow.unfollowed == p.unfollowed 3) = true:=by kernel_rfl
theorem j5:(Rows.deviceValidityUptoRow.recurses == p.recurses 3) = true:=by kernel_rfl
theorem j6:(Rows.deviceValidityUptoRow.named == p.varsNamed 3) = true:=by kernel_rfl
theorem j7:p.stopsHeard = true:=by kernel_rfl
theorem closed:joinedFacts p 3 Tryz.f3 (Rows.OpenSpec.upto Rows.deviceValiditySpec).bare Rows.deviceValidityUptoRow = true:=by
  unfold joinedFacts
  rw[j1,j2,j3,j4,j5,j6,j7];kernel_rfl
end Go.Proofs.YtibpgdnenoehfaaGreatDoor.DeviceValidity

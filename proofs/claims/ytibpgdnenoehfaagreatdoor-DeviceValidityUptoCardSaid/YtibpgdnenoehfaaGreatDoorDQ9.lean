/- Parts of a proof, printed short. No condition. -/
import Derived.Test.YtibpgdnenoehfaaGreatDoorDQ8
set_option maxRecDepth 100000
set_option linter.all false
namespace Go.AM
noncomputable section
open Go
open Go.Proofs.Tryz
section
set_option maxRecDepth 1000000
open Go.Proofs
def hkx3:Hk prog glob:=λf ps H=>match hk2 f ps H with
 |some k=>some k
 |none=>bif Nat.beq f 290 then some (.xf x4)else none
def x3:XF prog glob 83 f83 [.ptr 54 0] Y7 (.agg Y15) [.far Y2,Y3,Y3,Y37,.far Y2,Y3,Y37,.cells Y13,.cells Y25,Y47,.cells Y14,Y27,Y40,Y33,Y3,Y37,Y34,Y29,Y45,Y45,Y45,Y19,Y48,Y45,Y20,Y50,Y46,Y20,Y42,Y53,Y28,Y31,Y31,Y52,Y35,Y31,Y31,Y44,Y40,Y33,Y34,Y29,Y26,Y4,Y4,Y9,Y9,Y4,Y8,Y23,Y22,Y16,Y17,Y8,Y32,Y38,Y9,Y4,Y21,Y4,Y51,Y51,Y42,Y28,Y51,Y51,Y39,Y39,.cells Y18,Y4,Y4,Y4,Y9,Y8,.far Y15,Y9,Y4,.far Y15,Y27,Y4,.far Y15,Y4,Y4,Y4,Y9,Y8,.cells Y15]:=Wh0 (xX hkx3) func83
end
section
set_option maxRecDepth 1000000
open Go.Proofs
def x5:XF prog glob 82 f82 [.ptr 90 0,xi64 1] Y6 (xi64 2) Y6:=Wh0 (xX hk2) func82
end
end
end Go.AM

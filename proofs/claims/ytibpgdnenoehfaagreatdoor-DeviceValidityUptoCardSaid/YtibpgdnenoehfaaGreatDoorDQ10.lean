/- Parts of a proof, printed short. No condition. -/
import Derived.Test.YtibpgdnenoehfaaGreatDoorDQ9
set_option maxRecDepth 100000
set_option linter.all false
namespace Go.AM
noncomputable section
open Go
open Go.Proofs.Tryz
section
set_option maxRecDepth 1000000
open Go.Proofs
def x6:XF prog glob 82 f82 [.ptr 91 0,xi64 1] [.far Y2,Y3,Y3,Y37,.far Y2,Y3,Y37,.cells Y13,.cells Y25,Y47,.cells Y14,Y27,Y40,Y33,Y3,Y37,Y34,Y29,Y45,Y45,Y45,Y19,Y48,Y45,Y20,Y50,Y46,Y20,Y42,Y53,Y28,Y31,Y31,Y52,Y35,Y31,Y31,Y44,Y40,Y33,Y34,Y29,Y26,Y4,Y4,Y9,Y9,Y4,Y8,Y23,Y22,Y16,.far Y15,Y8,Y32,Y38,Y9,Y4,Y21,Y4,Y51,Y51,Y42,Y28,Y51,Y51,Y39,Y39,.cells Y18,Y4,Y4,Y4,Y9,Y8,.far Y15,Y9,Y4,.far Y15,Y27,Y4,.far Y15,Y4,Y4,Y4,Y9,Y8,.cells Y15,.cells Y15,Y49,Y17,Y16,.cells [.ptr 42 0,xi64 (-1),.sc (.string (ByteArray.mk #[])),xv false,.own 90 40,xi64 4,xu32 0,xu32 0,xu8 0,xu16 0,xu16 0,xi64 0,xv false]] (xi64 0) Y5:=Wh0 (xX hk2) func82
end
end
end Go.AM

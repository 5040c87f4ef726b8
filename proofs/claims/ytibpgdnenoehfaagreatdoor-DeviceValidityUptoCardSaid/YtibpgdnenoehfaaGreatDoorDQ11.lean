/- Parts of a proof, printed short. No condition. -/
import Derived.Test.YtibpgdnenoehfaaGreatDoorDQ10
set_option maxRecDepth 100000
set_option linter.all false
namespace Go.AM
noncomputable section
open Go
open Go.Proofs.Tryz
section
set_option maxRecDepth 1000000
open Go.Proofs
def x7:XF prog glob 83 f83 [.ptr 91 0] Y5 (.agg Y30) [.far Y2,Y3,Y3,Y37,.far Y2,Y3,Y37,.cells Y13,.cells Y25,Y47,.cells Y14,Y27,Y40,Y33,Y3,Y37,Y34,Y29,Y45,Y45,Y45,.map [(0,.agg #[.int .u32 167772161,.int .u32 167772417,.int .u8 6,.int .u16 9,.int .u16 80],.sc (.agg #[.int .u32 167772161,.int .u32 167772417,.int .u8 6,.int .u16 9,.int .u16 80,.int .u32 167772161,.int .u32 167772417,.int .u8 6,.int .u16 9,.int .u16 80,.int .u32 167772161,.int .u32 167772417,.int .u8 6,.int .u16 9,.int .u16 80,.int .i64 0,.int .i64 1,.bool false,.string (ByteArray.mk #[]),.int .i64 2,.int .i64 604]))] 1,Y48,Y45,Y20,Y50,Y46,Y20,Y42,Y53,Y28,Y31,Y31,Y52,Y35,Y31,Y31,Y44,Y40,Y33,Y34,Y29,Y26,Y4,Y4,Y9,Y9,Y4,Y8,Y23,Y22,Y16,.far Y15,Y8,Y32,Y38,Y9,Y4,Y21,Y4,Y51,Y51,Y42,Y28,Y51,Y51,Y39,Y39,.cells Y18,Y4,Y4,Y4,Y9,Y8,.far Y15,Y9,Y4,.far Y15,Y27,Y4,.far Y15,Y4,Y4,Y4,Y9,Y8,.cells Y15,.cells Y15,Y49,Y17,Y16,.far [.ptr 42 0,xi64 (-1),.sc (.string (ByteArray.mk #[])),xv true,.own 121 40,xi64 4,xu32 167772161,xu32 167772417,xu8 6,xu16 9,xu16 80,xi64 16,xv false],Y38,Y23,Y22,Y36,Y36,Y43,Y43,Y42,Y28,Y35,Y43,Y43,Y39,Y39,Y22,Y22,Y23,Y16,.far Y30,Y23,Y22,.far Y30,.cells Y25,Y22,.far Y30,Y22,Y22,Y22,Y23,Y16,.cells Y30]:=Wh0 (xX hk2) func83
end
end
end Go.AM

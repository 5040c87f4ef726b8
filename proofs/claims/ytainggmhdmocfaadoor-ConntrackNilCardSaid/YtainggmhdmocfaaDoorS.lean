/- Printed by tab.lean: calls at fixed arguments, carried out; the last is the check of the statements. -/
import Derived.Test.YtainggmhdmocfaaDoorProg
import Derived.Test.YtainggmhdmocfaaDoorTy
set_option maxRecDepth 1000000
namespace Go.AM
open Go Go.Proofs
def glob : Glob := [(0, row_a5_u32 glob_box_tops)]
-- 17 netsegment/nsglaw25.sane (some true) left 1 entries 3
def T0 : Tab := []
theorem T0_ok : T0.ok Tryd.prog glob := Tab.nil
/- netsegment/box.Of: 91 operations -/
def T1 : Tab := (60, [.sc (.agg #[.int .u32 1, .int .u32 2, .int .u8 17, .int .u16 3, .int .u16 4])], .sc (.agg #[.int .u32 1, .int .u32 1, .int .u32 2, .int .u32 2, .int .u32 17, .int .u32 17, .int .u32 3, .int .u32 3, .int .u32 4, .int .u32 4])) :: T0
theorem T1_ok : T1.ok Tryd.prog glob := Tab.cons T0_ok 100000 (by kernel_rfl)
/- slices.SortFunc[[]netsegment/api.Connection,netsegment/api.Connection]: 47 operations -/
def T2 : Tab := (39, [.sl 21 [[.sc (.int .u32 1), .sc (.int .u32 2), .sc (.int .u8 17), .sc (.int .u16 3), .sc (.int .u16 4), .sc (.int .u32 0), .sc (.int .u32 0), .sc (.int .u8 0), .sc (.int .u16 0), .sc (.int .u16 0), .sc (.int .u32 1), .sc (.int .u32 2), .sc (.int .u8 17), .sc (.int .u16 3), .sc (.int .u16 4), .sc (.int .i64 (-1)), .sc (.int .i64 1), .sc (.bool false), .sc (.string (ByteArray.mk #[])), .sc (.int .i64 1), .sc (.int .i64 130)]], .sc (.func (.func 40) #[] #[])], .tup []) :: T1
theorem T2_ok : T2.ok Tryd.prog glob := Tab.cons T1_ok 100000 (by kernel_rfl)
/- netsegment/nsglaw25.sane: 961 operations -/
def T3 : Tab := (17, [], .sc (.bool true)) :: T2
theorem T3_ok : T3.ok Tryd.prog glob := Tab.cons T2_ok 100000 (by kernel_rfl)

end Go.AM

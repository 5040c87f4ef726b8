/- Printed by tab.lean: calls at fixed arguments, carried out; the last is the check of the statements. -/
import Derived.Test.YtdpogkakaeeccaaDoorProg
import Derived.Test.YtdpogkakaeeccaaDoorF
import Derived.Test.YtdpogkakaeeccaaDoorA35
set_option maxRecDepth 1000000
namespace Go.AM
open Go Go.Proofs
def glob : Glob := [(2, row_a5_u32 glob_box_tops)]
def T0 : Tab := []
theorem T0_ok : T0.ok Tryd.prog glob := Tab.nil
/- netsegment/packetset.divided: 485 operations -/
def T1 : Tab := (77, [.sc (.int .i64 1), .sl 10 [[.sc (.int .u32 0), .sc (.int .u32 4294967295), .sc (.int .u32 0), .sc (.int .u32 4294967295), .sc (.int .u32 0), .sc (.int .u32 255), .sc (.int .u32 0), .sc (.int .u32 65535), .sc (.int .u32 0), .sc (.int .u32 65535)]]], .sc (.bool true)) :: T0
theorem T1_ok : T1.ok Tryd.prog glob := Tab.cons T0_ok 100000 (by kernel_rfl)
/- netsegment/cardinal.volume: 846 operations -/
def T2 : Tab := (67, [.sc (.agg #[.int .u32 0, .int .u32 4294967295, .int .u32 0, .int .u32 4294967295, .int .u32 0, .int .u32 255, .int .u32 0, .int .u32 65535, .int .u32 0, .int .u32 65535]), .sc (.int .i64 0)], .sc (.agg #[.int .u64 1099511627776, .int .u64 0])) :: T1
theorem T2_ok : T2.ok Tryd.prog glob := Tab.cons T1_ok 100000 (by kernel_rfl)
/- netsegment/cardinal.volume: 680 operations -/
def T3 : Tab := (67, [.sc (.agg #[.int .u32 0, .int .u32 4294967295, .int .u32 0, .int .u32 4294967295, .int .u32 0, .int .u32 255, .int .u32 0, .int .u32 65535, .int .u32 0, .int .u32 65535]), .sc (.int .i64 1)], .sc (.agg #[.int .u64 256, .int .u64 0])) :: T2
theorem T3_ok : T3.ok Tryd.prog glob := Tab.cons T2_ok 100000 (by kernel_rfl)
/- netsegment/cardinal.whole: 7819 operations -/
def T4 : Tab := (50, [.sc (.agg #[.int .u64 0, .int .u64 1]), .sc (.agg #[.int .u64 256, .int .u64 0]), .sc (.int .u64 4294967295)], .sc (.int .u64 0)) :: T3
theorem T4_ok : T4.ok Tryd.prog glob := Tab.cons T3_ok 100000 (by kernel_rfl)
/- netsegment/cardinal.volume: 514 operations -/
def T5 : Tab := (67, [.sc (.agg #[.int .u32 0, .int .u32 4294967295, .int .u32 0, .int .u32 4294967295, .int .u32 0, .int .u32 255, .int .u32 0, .int .u32 65535, .int .u32 0, .int .u32 65535]), .sc (.int .i64 2)], .sc (.agg #[.int .u64 0, .int .u64 1099511627776])) :: T4
theorem T5_ok : T5.ok Tryd.prog glob := Tab.cons T4_ok 100000 (by kernel_rfl)
/- netsegment/cardinal.whole: 8107 operations -/
def T6 : Tab := (50, [.sc (.agg #[.int .u64 0, .int .u64 1]), .sc (.agg #[.int .u64 0, .int .u64 1099511627776]), .sc (.int .u64 4294967295)], .sc (.int .u64 0)) :: T5
theorem T6_ok : T6.ok Tryd.prog glob := Tab.cons T5_ok 100000 (by kernel_rfl)
/- netsegment/cardinal.whole: 2059 operations -/
def T7 : Tab := (50, [.sc (.agg #[.int .u64 0, .int .u64 1]), .sc (.agg #[.int .u64 0, .int .u64 4294967296]), .sc (.int .u64 255)], .sc (.int .u64 0)) :: T6
theorem T7_ok : T7.ok Tryd.prog glob := Tab.cons T6_ok 100000 (by kernel_rfl)
/- netsegment/cardinal.whole: 4107 operations -/
def T8 : Tab := (50, [.sc (.agg #[.int .u64 0, .int .u64 1]), .sc (.agg #[.int .u64 0, .int .u64 65536]), .sc (.int .u64 65535)], .sc (.int .u64 0)) :: T7
theorem T8_ok : T8.ok Tryd.prog glob := Tab.cons T7_ok 100000 (by kernel_rfl)
/- netsegment/cardinal.whole: 4109 operations -/
def T9 : Tab := (50, [.sc (.agg #[.int .u64 0, .int .u64 1]), .sc (.agg #[.int .u64 0, .int .u64 1]), .sc (.int .u64 65535)], .sc (.int .u64 1)) :: T8
theorem T9_ok : T9.ok Tryd.prog glob := Tab.cons T8_ok 100000 (by kernel_rfl)
/- netsegment/cardinal.Select: 3975 operations -/
def T10 : Tab := (25, [.sl 10 [[.sc (.int .u32 0), .sc (.int .u32 4294967295), .sc (.int .u32 0), .sc (.int .u32 4294967295), .sc (.int .u32 0), .sc (.int .u32 255), .sc (.int .u32 0), .sc (.int .u32 65535), .sc (.int .u32 0), .sc (.int .u32 65535)]], .sc (.agg #[.int .u64 0, .int .u64 1])], .tup [.sc (.agg #[.int .u32 0, .int .u32 0, .int .u8 0, .int .u16 0, .int .u16 1]), .sc (.bool true)]) :: T9
theorem T10_ok : T10.ok Tryd.prog glob := Tab.cons T9_ok 100000 (by kernel_rfl)
/- netsegment/cardinal.Format: 3308 operations -/
def T11 : Tab := (20, [.sc (.agg #[.int .u64 1099511627776, .int .u64 0])], .sc (.string (ByteArray.mk #[50, 48, 50, 56, 50, 52, 48, 57, 54, 48, 51, 54, 53, 49, 54, 55, 48, 52, 50, 51, 57, 52, 55, 50, 53, 49, 50, 56, 54, 48, 49, 54]))) :: T10
theorem T11_ok : T11.ok Tryd.prog glob := Tab.cons T10_ok 100000 (by kernel_rfl)
/- netsegment/cardinal.Format: 1339 operations -/
def T12 : Tab := (20, [.sc (.agg #[.int .u64 1, .int .u64 0])], .sc (.string (ByteArray.mk #[49, 56, 52, 52, 54, 55, 52, 52, 48, 55, 51, 55, 48, 57, 53, 53, 49, 54, 49, 54]))) :: T11
theorem T12_ok : T12.ok Tryd.prog glob := Tab.cons T11_ok 100000 (by kernel_rfl)
/- netsegment/nsglaw5.sane: 599 operations -/
def T13 : Tab := (10, [], .sc (.bool true)) :: T12
theorem T13_ok : T13.ok Tryd.prog glob := Tab.cons T12_ok 100000 (by kernel_rfl)

end Go.AM

/- Printed by tab.lean: calls at fixed arguments, carried out; the last is the check of the statements. -/
import Derived.Test.YtljabeabddkkbaaGreatDoorProg
import Derived.Test.YtljabeabddkkbaaGreatDoorTy
set_option maxRecDepth 1000000
namespace Go.AM
open Go Go.Proofs
def glob : Glob := [(0, row_a5_u32 glob_box_tops)]
-- 12 netsegment/nsglaw26.sane (some true) left 1 entries 69
def T0 : Tab := []
theorem T0_ok : T0.ok Tryz.prog glob := Tab.nil
/- netsegment/nsgref3.Full: 107 operations -/
def T1 : Tab := (22, [], .sc (.agg #[.int .u32 0, .int .u32 4294967295, .int .u32 0, .int .u32 4294967295, .int .u32 0, .int .u32 255, .int .u32 0, .int .u32 65535, .int .u32 0, .int .u32 65535])) :: T0
theorem T1_ok : T1.ok Tryz.prog glob := Tab.cons T0_ok 100000 (by kernel_rfl)
/- netsegment/nsgref10.ValidName: 63 operations -/
def T2 : Tab := (170, [.sc (.string (ByteArray.mk #[114]))], .sc (.bool true)) :: T1
theorem T2_ok : T2.ok Tryz.prog glob := Tab.cons T1_ok 100000 (by kernel_rfl)
/- netsegment/nsgref11.validDevices: 86 operations -/
def T3 : Tab := (171, [.sl 5 [[.sc (.string (ByteArray.mk #[114])), .sc (.int .i64 0), .sc (.bool false), .sc (.bool false), .sc (.string (ByteArray.mk #[]))]]], .sc (.bool true)) :: T2
theorem T3_ok : T3.ok Tryz.prog glob := Tab.cons T2_ok 100000 (by kernel_rfl)
/- netsegment/nsgref10.ValidName: 63 operations -/
def T4 : Tab := (170, [.sc (.string (ByteArray.mk #[97]))], .sc (.bool true)) :: T3
theorem T4_ok : T4.ok Tryz.prog glob := Tab.cons T3_ok 100000 (by kernel_rfl)
/- netsegment/nsgref10.ValidName: 63 operations -/
def T5 : Tab := (170, [.sc (.string (ByteArray.mk #[122]))], .sc (.bool true)) :: T4
theorem T5_ok : T5.ok Tryz.prog glob := Tab.cons T4_ok 100000 (by kernel_rfl)
/- netsegment/nsgref11.validEdge: 69 operations -/
def T6 : Tab := (172, [.sc (.agg #[.string (ByteArray.mk #[97]), .int .i64 0, .string (ByteArray.mk #[122]), .int .u32 167772160, .int .i64 24, .bool false]), .sc (.int .i64 1)], .sc (.bool true)) :: T5
theorem T6_ok : T6.ok Tryz.prog glob := Tab.cons T5_ok 100000 (by kernel_rfl)
/- netsegment/nsgref10.ValidName: 63 operations -/
def T7 : Tab := (170, [.sc (.string (ByteArray.mk #[98]))], .sc (.bool true)) :: T6
theorem T7_ok : T7.ok Tryz.prog glob := Tab.cons T6_ok 100000 (by kernel_rfl)
/- netsegment/nsgref11.validEdge: 68 operations -/
def T8 : Tab := (172, [.sc (.agg #[.string (ByteArray.mk #[98]), .int .i64 0, .string (ByteArray.mk #[122]), .int .u32 167772416, .int .i64 24, .bool false]), .sc (.int .i64 1)], .sc (.bool true)) :: T7
theorem T8_ok : T8.ok Tryz.prog glob := Tab.cons T7_ok 100000 (by kernel_rfl)
/- netsegment/nsgref11.Fixed: 61 operations -/
def T9 : Tab := (161, [.agg [.sl 5 [[.sc (.string (ByteArray.mk #[114])), .sc (.int .i64 0), .sc (.bool false), .sc (.bool false), .sc (.string (ByteArray.mk #[]))]], .sc (.slice none 0 0), .sl 6 [[.sc (.string (ByteArray.mk #[97])), .sc (.int .i64 0), .sc (.string (ByteArray.mk #[122])), .sc (.int .u32 167772160), .sc (.int .i64 24), .sc (.bool false)], [.sc (.string (ByteArray.mk #[98])), .sc (.int .i64 0), .sc (.string (ByteArray.mk #[122])), .sc (.int .u32 167772416), .sc (.int .i64 24), .sc (.bool false)]], .sc (.slice none 0 0), .sc (.int .i64 0)]], .sl 2 [[.sc (.int .u32 167772160), .sc (.int .i64 24)], [.sc (.int .u32 167772416), .sc (.int .i64 24)]]) :: T8
theorem T9_ok : T9.ok Tryz.prog glob := Tab.cons T8_ok 100000 (by kernel_rfl)
/- netsegment/nsgref1.Of: 53 operations -/
def T10 : Tab := (257, [.sc (.agg #[.int .u32 167772160, .int .i64 24])], .tup [.sc (.agg #[.int .u32 167772160, .int .u32 167772415]), .sc (.bool true)]) :: T9
theorem T10_ok : T10.ok Tryz.prog glob := Tab.cons T9_ok 100000 (by kernel_rfl)
/- netsegment/nsgref1.Of: 53 operations -/
def T11 : Tab := (257, [.sc (.agg #[.int .u32 167772416, .int .i64 24])], .tup [.sc (.agg #[.int .u32 167772416, .int .u32 167772671]), .sc (.bool true)]) :: T10
theorem T11_ok : T11.ok Tryz.prog glob := Tab.cons T10_ok 100000 (by kernel_rfl)
/- netsegment/nsgref1.Covers: 43 operations -/
def T12 : Tab := (258, [.sc (.agg #[.int .u32 167772416, .int .i64 24]), .sc (.agg #[.int .u32 167772160, .int .i64 24])], .sc (.bool false)) :: T11
theorem T12_ok : T12.ok Tryz.prog glob := Tab.cons T11_ok 100000 (by kernel_rfl)
/- netsegment/nsgref1.Covers: 45 operations -/
def T13 : Tab := (258, [.sc (.agg #[.int .u32 167772160, .int .i64 24]), .sc (.agg #[.int .u32 167772416, .int .i64 24])], .sc (.bool false)) :: T12
theorem T13_ok : T13.ok Tryz.prog glob := Tab.cons T12_ok 100000 (by kernel_rfl)
/- netsegment/nsgref11.Valid: 250 operations -/
def T14 : Tab := (107, [.agg [.sl 5 [[.sc (.string (ByteArray.mk #[114])), .sc (.int .i64 0), .sc (.bool false), .sc (.bool false), .sc (.string (ByteArray.mk #[]))]], .sc (.slice none 0 0), .sl 6 [[.sc (.string (ByteArray.mk #[97])), .sc (.int .i64 0), .sc (.string (ByteArray.mk #[122])), .sc (.int .u32 167772160), .sc (.int .i64 24), .sc (.bool false)], [.sc (.string (ByteArray.mk #[98])), .sc (.int .i64 0), .sc (.string (ByteArray.mk #[122])), .sc (.int .u32 167772416), .sc (.int .i64 24), .sc (.bool false)]], .sc (.slice none 0 0), .sc (.int .i64 0)]], .sc (.bool true)) :: T13
theorem T14_ok : T14.ok Tryz.prog glob := Tab.cons T13_ok 100000 (by kernel_rfl)
/- netsegment/nsgref3.Valid: 166 operations -/
def T15 : Tab := (169, [.sc (.agg #[.int .u32 0, .int .u32 4294967295, .int .u32 0, .int .u32 4294967295, .int .u32 0, .int .u32 255, .int .u32 0, .int .u32 65535, .int .u32 0, .int .u32 65535])], .sc (.bool true)) :: T14
theorem T15_ok : T15.ok Tryz.prog glob := Tab.cons T14_ok 100000 (by kernel_rfl)
/- netsegment/nsgref13.Alive: 68 operations -/
def T16 : Tab := (177, [.agg [.sl 5 [[.sc (.string (ByteArray.mk #[114])), .sc (.int .i64 0), .sc (.bool false), .sc (.bool false), .sc (.string (ByteArray.mk #[]))]], .sc (.slice none 0 0), .sl 6 [[.sc (.string (ByteArray.mk #[97])), .sc (.int .i64 0), .sc (.string (ByteArray.mk #[122])), .sc (.int .u32 167772160), .sc (.int .i64 24), .sc (.bool false)], [.sc (.string (ByteArray.mk #[98])), .sc (.int .i64 0), .sc (.string (ByteArray.mk #[122])), .sc (.int .u32 167772416), .sc (.int .i64 24), .sc (.bool false)]], .sc (.slice none 0 0), .sc (.int .i64 0)], .sc (.agg #[.slice none 0 0, .slice none 0 0]), .sc (.int .i64 0)], .sc (.bool true)) :: T15
theorem T16_ok : T16.ok Tryz.prog glob := Tab.cons T15_ok 100000 (by kernel_rfl)
/- netsegment/nsgref15.put: 50 operations -/
def T17 : Tab := (110, [.sl 4 [[.sc (.int .u32 167772160), .sc (.int .i64 24), .sc (.bool true), .sc (.int .i64 0)]], .sc (.agg #[.int .u32 167772416, .int .i64 24, .bool true, .int .i64 1])], .sl 4 [[.sc (.int .u32 167772160), .sc (.int .i64 24), .sc (.bool true), .sc (.int .i64 0)], [.sc (.int .u32 167772416), .sc (.int .i64 24), .sc (.bool true), .sc (.int .i64 1)]]) :: T16
theorem T17_ok : T17.ok Tryz.prog glob := Tab.cons T16_ok 100000 (by kernel_rfl)
/- netsegment/source.ValidName: 65 operations -/
def T18 : Tab := (152, [.sc (.string (ByteArray.mk #[114]))], .sc (.bool true)) :: T17
theorem T18_ok : T18.ok Tryz.prog glob := Tab.cons T17_ok 100000 (by kernel_rfl)
/- netsegment/source.ValidName: 65 operations -/
def T19 : Tab := (152, [.sc (.string (ByteArray.mk #[97]))], .sc (.bool true)) :: T18
theorem T19_ok : T19.ok Tryz.prog glob := Tab.cons T18_ok 100000 (by kernel_rfl)
/- netsegment/source.ValidName: 65 operations -/
def T20 : Tab := (152, [.sc (.string (ByteArray.mk #[122]))], .sc (.bool true)) :: T19
theorem T20_ok : T20.ok Tryz.prog glob := Tab.cons T19_ok 100000 (by kernel_rfl)
/- netsegment/source.ValidName: 65 operations -/
def T21 : Tab := (152, [.sc (.string (ByteArray.mk #[98]))], .sc (.bool true)) :: T20
theorem T21_ok : T21.ok Tryz.prog glob := Tab.cons T20_ok 100000 (by kernel_rfl)
/- netsegment/prefix.Contains: 47 operations -/
def T22 : Tab := (82, [.sc (.agg #[.int .u32 167772416, .int .i64 24]), .sc (.int .u32 167772160)], .sc (.bool false)) :: T21
theorem T22_ok : T22.ok Tryz.prog glob := Tab.cons T21_ok 100000 (by kernel_rfl)
/- netsegment/prefix.Covers: 46 operations -/
def T23 : Tab := (222, [.sc (.agg #[.int .u32 167772416, .int .i64 24]), .sc (.agg #[.int .u32 167772160, .int .i64 24])], .sc (.bool false)) :: T22
theorem T23_ok : T23.ok Tryz.prog glob := Tab.cons T22_ok 100000 (by kernel_rfl)
/- netsegment/prefix.Contains: 47 operations -/
def T24 : Tab := (82, [.sc (.agg #[.int .u32 167772160, .int .i64 24]), .sc (.int .u32 167772416)], .sc (.bool false)) :: T23
theorem T24_ok : T24.ok Tryz.prog glob := Tab.cons T23_ok 100000 (by kernel_rfl)
/- netsegment/prefix.Covers: 46 operations -/
def T25 : Tab := (222, [.sc (.agg #[.int .u32 167772160, .int .i64 24]), .sc (.agg #[.int .u32 167772416, .int .i64 24])], .sc (.bool false)) :: T24
theorem T25_ok : T25.ok Tryz.prog glob := Tab.cons T24_ok 100000 (by kernel_rfl)
/- slices.ContainsFunc[[]netsegment/api.Edge,netsegment/api.Edge]: 44 operations -/
def T26 : Tab := (208, [.sl 6 [[.sc (.string (ByteArray.mk #[97])), .sc (.int .i64 0), .sc (.string (ByteArray.mk #[122])), .sc (.int .u32 167772160), .sc (.int .i64 24), .sc (.bool false)], [.sc (.string (ByteArray.mk #[98])), .sc (.int .i64 0), .sc (.string (ByteArray.mk #[122])), .sc (.int .u32 167772416), .sc (.int .i64 24), .sc (.bool false)]], .sc (.func (.func 209) #[] #[])], .sc (.bool false)) :: T25
theorem T26_ok : T26.ok Tryz.prog glob := Tab.cons T25_ok 100000 (by kernel_rfl)
/- netsegment/box.Valid: 111 operations -/
def T27 : Tab := (151, [.sc (.agg #[.int .u32 0, .int .u32 4294967295, .int .u32 0, .int .u32 4294967295, .int .u32 0, .int .u32 255, .int .u32 0, .int .u32 65535, .int .u32 0, .int .u32 65535])], .sc (.bool true)) :: T26
theorem T27_ok : T27.ok Tryz.prog glob := Tab.cons T26_ok 100000 (by kernel_rfl)
/- netsegment/routing.compare: 79 operations -/
def T28 : Tab := (215, [.sc (.agg #[.int .u32 167772160, .int .i64 24]), .sc (.agg #[.int .u32 167772416, .int .i64 24])], .sc (.int .i64 (-1))) :: T27
theorem T28_ok : T28.ok Tryz.prog glob := Tab.cons T27_ok 100000 (by kernel_rfl)
/- netsegment/routing.Valid: 107 operations -/
def T29 : Tab := (146, [.sl 4 [[.sc (.int .u32 167772160), .sc (.int .i64 24), .sc (.bool true), .sc (.int .i64 0)], [.sc (.int .u32 167772416), .sc (.int .i64 24), .sc (.bool true), .sc (.int .i64 1)]]], .sc (.bool true)) :: T28
theorem T29_ok : T29.ok Tryz.prog glob := Tab.cons T28_ok 100000 (by kernel_rfl)
/- netsegment/config.validPort: 94 operations -/
def T30 : Tab := (100, [.agg [.sc (.int .i64 0), .sl 11 [[.sc (.int .u32 0), .sc (.int .u32 4294967295), .sc (.int .u32 0), .sc (.int .u32 4294967295), .sc (.int .u32 0), .sc (.int .u32 255), .sc (.int .u32 0), .sc (.int .u32 65535), .sc (.int .u32 0), .sc (.int .u32 65535), .sc (.bool true)]], .sl 11 [[.sc (.int .u32 0), .sc (.int .u32 4294967295), .sc (.int .u32 0), .sc (.int .u32 4294967295), .sc (.int .u32 0), .sc (.int .u32 255), .sc (.int .u32 0), .sc (.int .u32 65535), .sc (.int .u32 0), .sc (.int .u32 65535), .sc (.bool true)]], .sc (.slice none 0 0), .sc (.slice none 0 0), .sc (.slice none 0 0)]], .sc (.bool true)) :: T29
theorem T30_ok : T30.ok Tryz.prog glob := Tab.cons T29_ok 100000 (by kernel_rfl)
/- netsegment/config.validPort: 94 operations -/
def T31 : Tab := (100, [.agg [.sc (.int .i64 1), .sl 11 [[.sc (.int .u32 0), .sc (.int .u32 4294967295), .sc (.int .u32 0), .sc (.int .u32 4294967295), .sc (.int .u32 0), .sc (.int .u32 255), .sc (.int .u32 0), .sc (.int .u32 65535), .sc (.int .u32 0), .sc (.int .u32 65535), .sc (.bool true)]], .sl 11 [[.sc (.int .u32 0), .sc (.int .u32 4294967295), .sc (.int .u32 0), .sc (.int .u32 4294967295), .sc (.int .u32 0), .sc (.int .u32 255), .sc (.int .u32 0), .sc (.int .u32 65535), .sc (.int .u32 0), .sc (.int .u32 65535), .sc (.bool true)]], .sc (.slice none 0 0), .sc (.slice none 0 0), .sc (.slice none 0 0)]], .sc (.bool true)) :: T30
theorem T31_ok : T31.ok Tryz.prog glob := Tab.cons T30_ok 100000 (by kernel_rfl)
/- netsegment/config.Valid: 59 operations -/
def T32 : Tab := (44, [.agg [.sl 6 [[.sc (.int .i64 0), .sl 11 [[.sc (.int .u32 0), .sc (.int .u32 4294967295), .sc (.int .u32 0), .sc (.int .u32 4294967295), .sc (.int .u32 0), .sc (.int .u32 255), .sc (.int .u32 0), .sc (.int .u32 65535), .sc (.int .u32 0), .sc (.int .u32 65535), .sc (.bool true)]], .sl 11 [[.sc (.int .u32 0), .sc (.int .u32 4294967295), .sc (.int .u32 0), .sc (.int .u32 4294967295), .sc (.int .u32 0), .sc (.int .u32 255), .sc (.int .u32 0), .sc (.int .u32 65535), .sc (.int .u32 0), .sc (.int .u32 65535), .sc (.bool true)]], .sc (.slice none 0 0), .sc (.slice none 0 0), .sc (.slice none 0 0)], [.sc (.int .i64 1), .sl 11 [[.sc (.int .u32 0), .sc (.int .u32 4294967295), .sc (.int .u32 0), .sc (.int .u32 4294967295), .sc (.int .u32 0), .sc (.int .u32 255), .sc (.int .u32 0), .sc (.int .u32 65535), .sc (.int .u32 0), .sc (.int .u32 65535), .sc (.bool true)]], .sl 11 [[.sc (.int .u32 0), .sc (.int .u32 4294967295), .sc (.int .u32 0), .sc (.int .u32 4294967295), .sc (.int .u32 0), .sc (.int .u32 255), .sc (.int .u32 0), .sc (.int .u32 65535), .sc (.int .u32 0), .sc (.int .u32 65535), .sc (.bool true)]], .sc (.slice none 0 0), .sc (.slice none 0 0), .sc (.slice none 0 0)]]]], .sc (.bool true)) :: T31
theorem T32_ok : T32.ok Tryz.prog glob := Tab.cons T31_ok 100000 (by kernel_rfl)
/- netsegment/compile.ValidNetwork: 52 operations -/
def T33 : Tab := (43, [.sc (.agg #[.slice none 0 0, .slice none 0 0, .slice none 0 0, .slice none 0 0, .int .i64 0, .slice none 0 0, .slice none 0 0, .slice none 0 0, .slice none 0 0, .slice none 0 0])], .sc (.bool false)) :: T32
theorem T33_ok : T33.ok Tryz.prog glob := Tab.cons T32_ok 100000 (by kernel_rfl)
/- netsegment/nsgref24.encodable: 50 operations -/
def T34 : Tab := (73, [.sc (.agg #[.int .u32 167772161, .int .u32 167772417, .int .u8 6, .int .u16 9, .int .u16 80, .int .i64 64, .int .i64 2, .slice none 0 0])], .sc (.bool true)) :: T33
theorem T34_ok : T34.ok Tryz.prog glob := Tab.cons T33_ok 100000 (by kernel_rfl)
/- netsegment/nsgref24.Checksum: 605 operations -/
def T35 : Tab := (121, [.sl 1 [[.sc (.int .u8 10)], [.sc (.int .u8 0)], [.sc (.int .u8 0)], [.sc (.int .u8 1)], [.sc (.int .u8 10)], [.sc (.int .u8 0)], [.sc (.int .u8 1)], [.sc (.int .u8 1)], [.sc (.int .u8 0)], [.sc (.int .u8 6)], [.sc (.int .u8 0)], [.sc (.int .u8 20)], [.sc (.int .u8 0)], [.sc (.int .u8 9)], [.sc (.int .u8 0)], [.sc (.int .u8 80)], [.sc (.int .u8 0)], [.sc (.int .u8 0)], [.sc (.int .u8 0)], [.sc (.int .u8 0)], [.sc (.int .u8 0)], [.sc (.int .u8 0)], [.sc (.int .u8 0)], [.sc (.int .u8 0)], [.sc (.int .u8 80)], [.sc (.int .u8 2)], [.sc (.int .u8 0)], [.sc (.int .u8 0)], [.sc (.int .u8 0)], [.sc (.int .u8 0)], [.sc (.int .u8 0)], [.sc (.int .u8 0)]]], .sc (.int .u16 39560)) :: T34
theorem T35_ok : T35.ok Tryz.prog glob := Tab.cons T34_ok 100000 (by kernel_rfl)
/- netsegment/nsgref24.Encode: 1049 operations -/
def T36 : Tab := (29, [.sc (.agg #[.int .u32 167772161, .int .u32 167772417, .int .u8 6, .int .u16 9, .int .u16 80, .int .i64 64, .int .i64 2, .slice none 0 0])], .tup [.sl 1 [[.sc (.int .u8 69)], [.sc (.int .u8 0)], [.sc (.int .u8 0)], [.sc (.int .u8 40)], [.sc (.int .u8 0)], [.sc (.int .u8 0)], [.sc (.int .u8 0)], [.sc (.int .u8 0)], [.sc (.int .u8 64)], [.sc (.int .u8 6)], [.sc (.int .u8 101)], [.sc (.int .u8 207)], [.sc (.int .u8 10)], [.sc (.int .u8 0)], [.sc (.int .u8 0)], [.sc (.int .u8 1)], [.sc (.int .u8 10)], [.sc (.int .u8 0)], [.sc (.int .u8 1)], [.sc (.int .u8 1)], [.sc (.int .u8 0)], [.sc (.int .u8 9)], [.sc (.int .u8 0)], [.sc (.int .u8 80)], [.sc (.int .u8 0)], [.sc (.int .u8 0)], [.sc (.int .u8 0)], [.sc (.int .u8 0)], [.sc (.int .u8 0)], [.sc (.int .u8 0)], [.sc (.int .u8 0)], [.sc (.int .u8 0)], [.sc (.int .u8 80)], [.sc (.int .u8 2)], [.sc (.int .u8 0)], [.sc (.int .u8 0)], [.sc (.int .u8 154)], [.sc (.int .u8 136)], [.sc (.int .u8 0)], [.sc (.int .u8 0)]], .sc (.int .i64 0)]) :: T35
theorem T36_ok : T36.ok Tryz.prog glob := Tab.cons T35_ok 100000 (by kernel_rfl)
/- netsegment/nsgref24.encodable: 50 operations -/
def T37 : Tab := (73, [.sc (.agg #[.int .u32 167772417, .int .u32 167772161, .int .u8 6, .int .u16 80, .int .u16 9, .int .i64 9, .int .i64 16, .slice none 0 0])], .sc (.bool true)) :: T36
theorem T37_ok : T37.ok Tryz.prog glob := Tab.cons T36_ok 100000 (by kernel_rfl)
/- netsegment/nsgref24.Checksum: 605 operations -/
def T38 : Tab := (121, [.sl 1 [[.sc (.int .u8 10)], [.sc (.int .u8 0)], [.sc (.int .u8 1)], [.sc (.int .u8 1)], [.sc (.int .u8 10)], [.sc (.int .u8 0)], [.sc (.int .u8 0)], [.sc (.int .u8 1)], [.sc (.int .u8 0)], [.sc (.int .u8 6)], [.sc (.int .u8 0)], [.sc (.int .u8 20)], [.sc (.int .u8 0)], [.sc (.int .u8 80)], [.sc (.int .u8 0)], [.sc (.int .u8 9)], [.sc (.int .u8 0)], [.sc (.int .u8 0)], [.sc (.int .u8 0)], [.sc (.int .u8 0)], [.sc (.int .u8 0)], [.sc (.int .u8 0)], [.sc (.int .u8 0)], [.sc (.int .u8 0)], [.sc (.int .u8 80)], [.sc (.int .u8 16)], [.sc (.int .u8 0)], [.sc (.int .u8 0)], [.sc (.int .u8 0)], [.sc (.int .u8 0)], [.sc (.int .u8 0)], [.sc (.int .u8 0)]]], .sc (.int .u16 39546)) :: T37
theorem T38_ok : T38.ok Tryz.prog glob := Tab.cons T37_ok 100000 (by kernel_rfl)
/- netsegment/nsgref24.Encode: 1049 operations -/
def T39 : Tab := (29, [.sc (.agg #[.int .u32 167772417, .int .u32 167772161, .int .u8 6, .int .u16 80, .int .u16 9, .int .i64 9, .int .i64 16, .slice none 0 0])], .tup [.sl 1 [[.sc (.int .u8 69)], [.sc (.int .u8 0)], [.sc (.int .u8 0)], [.sc (.int .u8 40)], [.sc (.int .u8 0)], [.sc (.int .u8 0)], [.sc (.int .u8 0)], [.sc (.int .u8 0)], [.sc (.int .u8 9)], [.sc (.int .u8 6)], [.sc (.int .u8 156)], [.sc (.int .u8 207)], [.sc (.int .u8 10)], [.sc (.int .u8 0)], [.sc (.int .u8 1)], [.sc (.int .u8 1)], [.sc (.int .u8 10)], [.sc (.int .u8 0)], [.sc (.int .u8 0)], [.sc (.int .u8 1)], [.sc (.int .u8 0)], [.sc (.int .u8 80)], [.sc (.int .u8 0)], [.sc (.int .u8 9)], [.sc (.int .u8 0)], [.sc (.int .u8 0)], [.sc (.int .u8 0)], [.sc (.int .u8 0)], [.sc (.int .u8 0)], [.sc (.int .u8 0)], [.sc (.int .u8 0)], [.sc (.int .u8 0)], [.sc (.int .u8 80)], [.sc (.int .u8 16)], [.sc (.int .u8 0)], [.sc (.int .u8 0)], [.sc (.int .u8 154)], [.sc (.int .u8 122)], [.sc (.int .u8 0)], [.sc (.int .u8 0)]], .sc (.int .i64 0)]) :: T38
theorem T39_ok : T39.ok Tryz.prog glob := Tab.cons T38_ok 100000 (by kernel_rfl)
/- netsegment/topology.validEdge: 73 operations -/
def T40 : Tab := (155, [.agg [.sl 5 [[.sc (.string (ByteArray.mk #[114])), .sc (.int .i64 0), .sc (.bool false), .sc (.bool false), .sc (.string (ByteArray.mk #[]))]], .sc (.slice none 0 0), .sl 6 [[.sc (.string (ByteArray.mk #[97])), .sc (.int .i64 0), .sc (.string (ByteArray.mk #[122])), .sc (.int .u32 167772160), .sc (.int .i64 24), .sc (.bool false)], [.sc (.string (ByteArray.mk #[98])), .sc (.int .i64 0), .sc (.string (ByteArray.mk #[122])), .sc (.int .u32 167772416), .sc (.int .i64 24), .sc (.bool false)]], .sc (.slice none 0 0), .sc (.int .i64 0)], .sc (.agg #[.string (ByteArray.mk #[97]), .int .i64 0, .string (ByteArray.mk #[122]), .int .u32 167772160, .int .i64 24, .bool false])], .sc (.bool true)) :: T39
theorem T40_ok : T40.ok Tryz.prog glob := Tab.cons T39_ok 100000 (by kernel_rfl)
/- netsegment/topology.validEdge: 73 operations -/
def T41 : Tab := (155, [.agg [.sl 5 [[.sc (.string (ByteArray.mk #[114])), .sc (.int .i64 0), .sc (.bool false), .sc (.bool false), .sc (.string (ByteArray.mk #[]))]], .sc (.slice none 0 0), .sl 6 [[.sc (.string (ByteArray.mk #[97])), .sc (.int .i64 0), .sc (.string (ByteArray.mk #[122])), .sc (.int .u32 167772160), .sc (.int .i64 24), .sc (.bool false)], [.sc (.string (ByteArray.mk #[98])), .sc (.int .i64 0), .sc (.string (ByteArray.mk #[122])), .sc (.int .u32 167772416), .sc (.int .i64 24), .sc (.bool false)]], .sc (.slice none 0 0), .sc (.int .i64 0)], .sc (.agg #[.string (ByteArray.mk #[98]), .int .i64 0, .string (ByteArray.mk #[122]), .int .u32 167772416, .int .i64 24, .bool false])], .sc (.bool true)) :: T40
theorem T41_ok : T41.ok Tryz.prog glob := Tab.cons T40_ok 100000 (by kernel_rfl)
/- netsegment/topology.Edge: 48 operations -/
def T42 : Tab := (156, [.agg [.sl 5 [[.sc (.string (ByteArray.mk #[114])), .sc (.int .i64 0), .sc (.bool false), .sc (.bool false), .sc (.string (ByteArray.mk #[]))]], .sc (.slice none 0 0), .sl 6 [[.sc (.string (ByteArray.mk #[97])), .sc (.int .i64 0), .sc (.string (ByteArray.mk #[122])), .sc (.int .u32 167772160), .sc (.int .i64 24), .sc (.bool false)], [.sc (.string (ByteArray.mk #[98])), .sc (.int .i64 0), .sc (.string (ByteArray.mk #[122])), .sc (.int .u32 167772416), .sc (.int .i64 24), .sc (.bool false)]], .sc (.slice none 0 0), .sc (.int .i64 0)], .sc (.string (ByteArray.mk #[98]))], .sc (.int .i64 1)) :: T41
theorem T42_ok : T42.ok Tryz.prog glob := Tab.cons T41_ok 100000 (by kernel_rfl)
/- netsegment/topology.Valid: 257 operations -/
def T43 : Tab := (101, [.agg [.sl 5 [[.sc (.string (ByteArray.mk #[114])), .sc (.int .i64 0), .sc (.bool false), .sc (.bool false), .sc (.string (ByteArray.mk #[]))]], .sc (.slice none 0 0), .sl 6 [[.sc (.string (ByteArray.mk #[97])), .sc (.int .i64 0), .sc (.string (ByteArray.mk #[122])), .sc (.int .u32 167772160), .sc (.int .i64 24), .sc (.bool false)], [.sc (.string (ByteArray.mk #[98])), .sc (.int .i64 0), .sc (.string (ByteArray.mk #[122])), .sc (.int .u32 167772416), .sc (.int .i64 24), .sc (.bool false)]], .sc (.slice none 0 0), .sc (.int .i64 0)]], .sc (.bool true)) :: T42
theorem T43_ok : T43.ok Tryz.prog glob := Tab.cons T42_ok 100000 (by kernel_rfl)
/- netsegment/failure.Alive: 78 operations -/
def T44 : Tab := (21, [.agg [.sl 5 [[.sc (.string (ByteArray.mk #[114])), .sc (.int .i64 0), .sc (.bool false), .sc (.bool false), .sc (.string (ByteArray.mk #[]))]], .sc (.slice none 0 0), .sl 6 [[.sc (.string (ByteArray.mk #[97])), .sc (.int .i64 0), .sc (.string (ByteArray.mk #[122])), .sc (.int .u32 167772160), .sc (.int .i64 24), .sc (.bool false)], [.sc (.string (ByteArray.mk #[98])), .sc (.int .i64 0), .sc (.string (ByteArray.mk #[122])), .sc (.int .u32 167772416), .sc (.int .i64 24), .sc (.bool false)]], .sc (.slice none 0 0), .sc (.int .i64 0)], .sc (.agg #[.slice none 0 0, .slice none 0 0]), .sc (.int .i64 0)], .sc (.bool true)) :: T43
theorem T44_ok : T44.ok Tryz.prog glob := Tab.cons T43_ok 100000 (by kernel_rfl)
/- netsegment/packet.get32: 43 operations -/
def T45 : Tab := (79, [.sl 1 [[.sc (.int .u8 69)], [.sc (.int .u8 0)], [.sc (.int .u8 0)], [.sc (.int .u8 40)], [.sc (.int .u8 0)], [.sc (.int .u8 0)], [.sc (.int .u8 0)], [.sc (.int .u8 0)], [.sc (.int .u8 64)], [.sc (.int .u8 6)], [.sc (.int .u8 101)], [.sc (.int .u8 207)], [.sc (.int .u8 10)], [.sc (.int .u8 0)], [.sc (.int .u8 0)], [.sc (.int .u8 1)], [.sc (.int .u8 10)], [.sc (.int .u8 0)], [.sc (.int .u8 1)], [.sc (.int .u8 1)], [.sc (.int .u8 0)], [.sc (.int .u8 9)], [.sc (.int .u8 0)], [.sc (.int .u8 80)], [.sc (.int .u8 0)], [.sc (.int .u8 0)], [.sc (.int .u8 0)], [.sc (.int .u8 0)], [.sc (.int .u8 0)], [.sc (.int .u8 0)], [.sc (.int .u8 0)], [.sc (.int .u8 0)], [.sc (.int .u8 80)], [.sc (.int .u8 2)], [.sc (.int .u8 0)], [.sc (.int .u8 0)], [.sc (.int .u8 154)], [.sc (.int .u8 136)], [.sc (.int .u8 0)], [.sc (.int .u8 0)]], .sc (.int .i64 12)], .sc (.int .u32 167772161)) :: T44
theorem T45_ok : T45.ok Tryz.prog glob := Tab.cons T44_ok 100000 (by kernel_rfl)
/- netsegment/packet.get32: 43 operations -/
def T46 : Tab := (79, [.sl 1 [[.sc (.int .u8 69)], [.sc (.int .u8 0)], [.sc (.int .u8 0)], [.sc (.int .u8 40)], [.sc (.int .u8 0)], [.sc (.int .u8 0)], [.sc (.int .u8 0)], [.sc (.int .u8 0)], [.sc (.int .u8 64)], [.sc (.int .u8 6)], [.sc (.int .u8 101)], [.sc (.int .u8 207)], [.sc (.int .u8 10)], [.sc (.int .u8 0)], [.sc (.int .u8 0)], [.sc (.int .u8 1)], [.sc (.int .u8 10)], [.sc (.int .u8 0)], [.sc (.int .u8 1)], [.sc (.int .u8 1)], [.sc (.int .u8 0)], [.sc (.int .u8 9)], [.sc (.int .u8 0)], [.sc (.int .u8 80)], [.sc (.int .u8 0)], [.sc (.int .u8 0)], [.sc (.int .u8 0)], [.sc (.int .u8 0)], [.sc (.int .u8 0)], [.sc (.int .u8 0)], [.sc (.int .u8 0)], [.sc (.int .u8 0)], [.sc (.int .u8 80)], [.sc (.int .u8 2)], [.sc (.int .u8 0)], [.sc (.int .u8 0)], [.sc (.int .u8 154)], [.sc (.int .u8 136)], [.sc (.int .u8 0)], [.sc (.int .u8 0)]], .sc (.int .i64 16)], .sc (.int .u32 167772417)) :: T45
theorem T46_ok : T46.ok Tryz.prog glob := Tab.cons T45_ok 100000 (by kernel_rfl)
/- netsegment/packet.Checksum: 540 operations -/
def T47 : Tab := (78, [.sl 1 [[.sc (.int .u8 10)], [.sc (.int .u8 0)], [.sc (.int .u8 0)], [.sc (.int .u8 1)], [.sc (.int .u8 10)], [.sc (.int .u8 0)], [.sc (.int .u8 1)], [.sc (.int .u8 1)], [.sc (.int .u8 0)], [.sc (.int .u8 6)], [.sc (.int .u8 0)], [.sc (.int .u8 20)], [.sc (.int .u8 0)], [.sc (.int .u8 9)], [.sc (.int .u8 0)], [.sc (.int .u8 80)], [.sc (.int .u8 0)], [.sc (.int .u8 0)], [.sc (.int .u8 0)], [.sc (.int .u8 0)], [.sc (.int .u8 0)], [.sc (.int .u8 0)], [.sc (.int .u8 0)], [.sc (.int .u8 0)], [.sc (.int .u8 80)], [.sc (.int .u8 2)], [.sc (.int .u8 0)], [.sc (.int .u8 0)], [.sc (.int .u8 154)], [.sc (.int .u8 136)], [.sc (.int .u8 0)], [.sc (.int .u8 0)]]], .sc (.int .u16 0)) :: T46
theorem T47_ok : T47.ok Tryz.prog glob := Tab.cons T46_ok 100000 (by kernel_rfl)
/- netsegment/packet.rightSum: 57 operations -/
def T48 : Tab := (81, [.sl 1 [[.sc (.int .u8 69)], [.sc (.int .u8 0)], [.sc (.int .u8 0)], [.sc (.int .u8 40)], [.sc (.int .u8 0)], [.sc (.int .u8 0)], [.sc (.int .u8 0)], [.sc (.int .u8 0)], [.sc (.int .u8 64)], [.sc (.int .u8 6)], [.sc (.int .u8 101)], [.sc (.int .u8 207)], [.sc (.int .u8 10)], [.sc (.int .u8 0)], [.sc (.int .u8 0)], [.sc (.int .u8 1)], [.sc (.int .u8 10)], [.sc (.int .u8 0)], [.sc (.int .u8 1)], [.sc (.int .u8 1)], [.sc (.int .u8 0)], [.sc (.int .u8 9)], [.sc (.int .u8 0)], [.sc (.int .u8 80)], [.sc (.int .u8 0)], [.sc (.int .u8 0)], [.sc (.int .u8 0)], [.sc (.int .u8 0)], [.sc (.int .u8 0)], [.sc (.int .u8 0)], [.sc (.int .u8 0)], [.sc (.int .u8 0)], [.sc (.int .u8 80)], [.sc (.int .u8 2)], [.sc (.int .u8 0)], [.sc (.int .u8 0)], [.sc (.int .u8 154)], [.sc (.int .u8 136)], [.sc (.int .u8 0)], [.sc (.int .u8 0)]]], .sc (.bool true)) :: T47
theorem T48_ok : T48.ok Tryz.prog glob := Tab.cons T47_ok 100000 (by kernel_rfl)
/- netsegment/packet.Decode: 531 operations -/
def T49 : Tab := (32, [.sl 1 [[.sc (.int .u8 69)], [.sc (.int .u8 0)], [.sc (.int .u8 0)], [.sc (.int .u8 40)], [.sc (.int .u8 0)], [.sc (.int .u8 0)], [.sc (.int .u8 0)], [.sc (.int .u8 0)], [.sc (.int .u8 64)], [.sc (.int .u8 6)], [.sc (.int .u8 101)], [.sc (.int .u8 207)], [.sc (.int .u8 10)], [.sc (.int .u8 0)], [.sc (.int .u8 0)], [.sc (.int .u8 1)], [.sc (.int .u8 10)], [.sc (.int .u8 0)], [.sc (.int .u8 1)], [.sc (.int .u8 1)], [.sc (.int .u8 0)], [.sc (.int .u8 9)], [.sc (.int .u8 0)], [.sc (.int .u8 80)], [.sc (.int .u8 0)], [.sc (.int .u8 0)], [.sc (.int .u8 0)], [.sc (.int .u8 0)], [.sc (.int .u8 0)], [.sc (.int .u8 0)], [.sc (.int .u8 0)], [.sc (.int .u8 0)], [.sc (.int .u8 80)], [.sc (.int .u8 2)], [.sc (.int .u8 0)], [.sc (.int .u8 0)], [.sc (.int .u8 154)], [.sc (.int .u8 136)], [.sc (.int .u8 0)], [.sc (.int .u8 0)]]], .tup [.sc (.agg #[.int .u32 167772161, .int .u32 167772417, .int .u8 6, .int .u16 9, .int .u16 80, .int .i64 64, .int .i64 2, .slice none 0 0]), .sc (.int .i64 0)]) :: T48
theorem T49_ok : T49.ok Tryz.prog glob := Tab.cons T48_ok 100000 (by kernel_rfl)
/- netsegment/prefix.Contains: 47 operations -/
def T50 : Tab := (82, [.sc (.agg #[.int .u32 167772160, .int .i64 24]), .sc (.int .u32 167772161)], .sc (.bool true)) :: T49
theorem T50_ok : T50.ok Tryz.prog glob := Tab.cons T49_ok 100000 (by kernel_rfl)
/- netsegment/prefix.Contains: 47 operations -/
def T51 : Tab := (82, [.sc (.agg #[.int .u32 167772160, .int .i64 24]), .sc (.int .u32 167772417)], .sc (.bool false)) :: T50
theorem T51_ok : T51.ok Tryz.prog glob := Tab.cons T50_ok 100000 (by kernel_rfl)
/- netsegment/prefix.Contains: 47 operations -/
def T52 : Tab := (82, [.sc (.agg #[.int .u32 167772416, .int .i64 24]), .sc (.int .u32 167772417)], .sc (.bool true)) :: T51
theorem T52_ok : T52.ok Tryz.prog glob := Tab.cons T51_ok 100000 (by kernel_rfl)
/- netsegment/topology.At: 60 operations -/
def T53 : Tab := (88, [.agg [.sl 5 [[.sc (.string (ByteArray.mk #[114])), .sc (.int .i64 0), .sc (.bool false), .sc (.bool false), .sc (.string (ByteArray.mk #[]))]], .sc (.slice none 0 0), .sl 6 [[.sc (.string (ByteArray.mk #[97])), .sc (.int .i64 0), .sc (.string (ByteArray.mk #[122])), .sc (.int .u32 167772160), .sc (.int .i64 24), .sc (.bool false)], [.sc (.string (ByteArray.mk #[98])), .sc (.int .i64 0), .sc (.string (ByteArray.mk #[122])), .sc (.int .u32 167772416), .sc (.int .i64 24), .sc (.bool false)]], .sc (.slice none 0 0), .sc (.int .i64 0)], .sc (.int .u32 167772417)], .sc (.int .i64 1)) :: T52
theorem T53_ok : T53.ok Tryz.prog glob := Tab.cons T52_ok 100000 (by kernel_rfl)
/- netsegment/box.Contains: 133 operations -/
def T54 : Tab := (127, [.sc (.agg #[.int .u32 0, .int .u32 4294967295, .int .u32 0, .int .u32 4294967295, .int .u32 0, .int .u32 255, .int .u32 0, .int .u32 65535, .int .u32 0, .int .u32 65535]), .sc (.agg #[.int .u32 167772161, .int .u32 167772417, .int .u8 6, .int .u16 9, .int .u16 80])], .sc (.bool true)) :: T53
theorem T54_ok : T54.ok Tryz.prog glob := Tab.cons T53_ok 100000 (by kernel_rfl)
/- netsegment/packet.Checksum: 540 operations -/
def T55 : Tab := (78, [.sl 1 [[.sc (.int .u8 10)], [.sc (.int .u8 0)], [.sc (.int .u8 0)], [.sc (.int .u8 1)], [.sc (.int .u8 10)], [.sc (.int .u8 0)], [.sc (.int .u8 1)], [.sc (.int .u8 1)], [.sc (.int .u8 0)], [.sc (.int .u8 6)], [.sc (.int .u8 0)], [.sc (.int .u8 20)], [.sc (.int .u8 0)], [.sc (.int .u8 9)], [.sc (.int .u8 0)], [.sc (.int .u8 80)], [.sc (.int .u8 0)], [.sc (.int .u8 0)], [.sc (.int .u8 0)], [.sc (.int .u8 0)], [.sc (.int .u8 0)], [.sc (.int .u8 0)], [.sc (.int .u8 0)], [.sc (.int .u8 0)], [.sc (.int .u8 80)], [.sc (.int .u8 2)], [.sc (.int .u8 0)], [.sc (.int .u8 0)], [.sc (.int .u8 0)], [.sc (.int .u8 0)], [.sc (.int .u8 0)], [.sc (.int .u8 0)]]], .sc (.int .u16 39560)) :: T54
theorem T55_ok : T55.ok Tryz.prog glob := Tab.cons T54_ok 100000 (by kernel_rfl)
/- netsegment/packet.Rewrite: 646 operations -/
def T56 : Tab := (130, [.sl 1 [[.sc (.int .u8 69)], [.sc (.int .u8 0)], [.sc (.int .u8 0)], [.sc (.int .u8 40)], [.sc (.int .u8 0)], [.sc (.int .u8 0)], [.sc (.int .u8 0)], [.sc (.int .u8 0)], [.sc (.int .u8 64)], [.sc (.int .u8 6)], [.sc (.int .u8 101)], [.sc (.int .u8 207)], [.sc (.int .u8 10)], [.sc (.int .u8 0)], [.sc (.int .u8 0)], [.sc (.int .u8 1)], [.sc (.int .u8 10)], [.sc (.int .u8 0)], [.sc (.int .u8 1)], [.sc (.int .u8 1)], [.sc (.int .u8 0)], [.sc (.int .u8 9)], [.sc (.int .u8 0)], [.sc (.int .u8 80)], [.sc (.int .u8 0)], [.sc (.int .u8 0)], [.sc (.int .u8 0)], [.sc (.int .u8 0)], [.sc (.int .u8 0)], [.sc (.int .u8 0)], [.sc (.int .u8 0)], [.sc (.int .u8 0)], [.sc (.int .u8 80)], [.sc (.int .u8 2)], [.sc (.int .u8 0)], [.sc (.int .u8 0)], [.sc (.int .u8 154)], [.sc (.int .u8 136)], [.sc (.int .u8 0)], [.sc (.int .u8 0)]], .sc (.agg #[.int .u32 167772161, .int .u32 167772417, .int .u8 6, .int .u16 9, .int .u16 80])], .tup [.sl 1 [[.sc (.int .u8 69)], [.sc (.int .u8 0)], [.sc (.int .u8 0)], [.sc (.int .u8 40)], [.sc (.int .u8 0)], [.sc (.int .u8 0)], [.sc (.int .u8 0)], [.sc (.int .u8 0)], [.sc (.int .u8 64)], [.sc (.int .u8 6)], [.sc (.int .u8 101)], [.sc (.int .u8 207)], [.sc (.int .u8 10)], [.sc (.int .u8 0)], [.sc (.int .u8 0)], [.sc (.int .u8 1)], [.sc (.int .u8 10)], [.sc (.int .u8 0)], [.sc (.int .u8 1)], [.sc (.int .u8 1)], [.sc (.int .u8 0)], [.sc (.int .u8 9)], [.sc (.int .u8 0)], [.sc (.int .u8 80)], [.sc (.int .u8 0)], [.sc (.int .u8 0)], [.sc (.int .u8 0)], [.sc (.int .u8 0)], [.sc (.int .u8 0)], [.sc (.int .u8 0)], [.sc (.int .u8 0)], [.sc (.int .u8 0)], [.sc (.int .u8 80)], [.sc (.int .u8 2)], [.sc (.int .u8 0)], [.sc (.int .u8 0)], [.sc (.int .u8 154)], [.sc (.int .u8 136)], [.sc (.int .u8 0)], [.sc (.int .u8 0)]], .sc (.int .i64 0)]) :: T55
theorem T56_ok : T56.ok Tryz.prog glob := Tab.cons T55_ok 100000 (by kernel_rfl)
/- netsegment/routing.Lookup: 45 operations -/
def T57 : Tab := (93, [.sl 4 [[.sc (.int .u32 167772160), .sc (.int .i64 24), .sc (.bool true), .sc (.int .i64 0)], [.sc (.int .u32 167772416), .sc (.int .i64 24), .sc (.bool true), .sc (.int .i64 1)]], .sc (.int .u32 167772417)], .tup [.sc (.agg #[.int .u32 167772416, .int .i64 24, .bool true, .int .i64 1]), .sc (.bool true)]) :: T56
theorem T57_ok : T57.ok Tryz.prog glob := Tab.cons T56_ok 100000 (by kernel_rfl)
/- netsegment/box.Of: 91 operations -/
def T58 : Tab := (268, [.sc (.agg #[.int .u32 167772161, .int .u32 167772417, .int .u8 6, .int .u16 9, .int .u16 80])], .sc (.agg #[.int .u32 167772161, .int .u32 167772161, .int .u32 167772417, .int .u32 167772417, .int .u32 6, .int .u32 6, .int .u32 9, .int .u32 9, .int .u32 80, .int .u32 80])) :: T57
theorem T58_ok : T58.ok Tryz.prog glob := Tab.cons T57_ok 100000 (by kernel_rfl)
/- netsegment/prefix.Contains: 47 operations -/
def T59 : Tab := (82, [.sc (.agg #[.int .u32 167772416, .int .i64 24]), .sc (.int .u32 167772161)], .sc (.bool false)) :: T58
theorem T59_ok : T59.ok Tryz.prog glob := Tab.cons T58_ok 100000 (by kernel_rfl)
/- netsegment/packet.get32: 43 operations -/
def T60 : Tab := (79, [.sl 1 [[.sc (.int .u8 69)], [.sc (.int .u8 0)], [.sc (.int .u8 0)], [.sc (.int .u8 40)], [.sc (.int .u8 0)], [.sc (.int .u8 0)], [.sc (.int .u8 0)], [.sc (.int .u8 0)], [.sc (.int .u8 9)], [.sc (.int .u8 6)], [.sc (.int .u8 156)], [.sc (.int .u8 207)], [.sc (.int .u8 10)], [.sc (.int .u8 0)], [.sc (.int .u8 1)], [.sc (.int .u8 1)], [.sc (.int .u8 10)], [.sc (.int .u8 0)], [.sc (.int .u8 0)], [.sc (.int .u8 1)], [.sc (.int .u8 0)], [.sc (.int .u8 80)], [.sc (.int .u8 0)], [.sc (.int .u8 9)], [.sc (.int .u8 0)], [.sc (.int .u8 0)], [.sc (.int .u8 0)], [.sc (.int .u8 0)], [.sc (.int .u8 0)], [.sc (.int .u8 0)], [.sc (.int .u8 0)], [.sc (.int .u8 0)], [.sc (.int .u8 80)], [.sc (.int .u8 16)], [.sc (.int .u8 0)], [.sc (.int .u8 0)], [.sc (.int .u8 154)], [.sc (.int .u8 122)], [.sc (.int .u8 0)], [.sc (.int .u8 0)]], .sc (.int .i64 12)], .sc (.int .u32 167772417)) :: T59
theorem T60_ok : T60.ok Tryz.prog glob := Tab.cons T59_ok 100000 (by kernel_rfl)
/- netsegment/packet.get32: 43 operations -/
def T61 : Tab := (79, [.sl 1 [[.sc (.int .u8 69)], [.sc (.int .u8 0)], [.sc (.int .u8 0)], [.sc (.int .u8 40)], [.sc (.int .u8 0)], [.sc (.int .u8 0)], [.sc (.int .u8 0)], [.sc (.int .u8 0)], [.sc (.int .u8 9)], [.sc (.int .u8 6)], [.sc (.int .u8 156)], [.sc (.int .u8 207)], [.sc (.int .u8 10)], [.sc (.int .u8 0)], [.sc (.int .u8 1)], [.sc (.int .u8 1)], [.sc (.int .u8 10)], [.sc (.int .u8 0)], [.sc (.int .u8 0)], [.sc (.int .u8 1)], [.sc (.int .u8 0)], [.sc (.int .u8 80)], [.sc (.int .u8 0)], [.sc (.int .u8 9)], [.sc (.int .u8 0)], [.sc (.int .u8 0)], [.sc (.int .u8 0)], [.sc (.int .u8 0)], [.sc (.int .u8 0)], [.sc (.int .u8 0)], [.sc (.int .u8 0)], [.sc (.int .u8 0)], [.sc (.int .u8 80)], [.sc (.int .u8 16)], [.sc (.int .u8 0)], [.sc (.int .u8 0)], [.sc (.int .u8 154)], [.sc (.int .u8 122)], [.sc (.int .u8 0)], [.sc (.int .u8 0)]], .sc (.int .i64 16)], .sc (.int .u32 167772161)) :: T60
theorem T61_ok : T61.ok Tryz.prog glob := Tab.cons T60_ok 100000 (by kernel_rfl)
/- netsegment/packet.Checksum: 540 operations -/
def T62 : Tab := (78, [.sl 1 [[.sc (.int .u8 10)], [.sc (.int .u8 0)], [.sc (.int .u8 1)], [.sc (.int .u8 1)], [.sc (.int .u8 10)], [.sc (.int .u8 0)], [.sc (.int .u8 0)], [.sc (.int .u8 1)], [.sc (.int .u8 0)], [.sc (.int .u8 6)], [.sc (.int .u8 0)], [.sc (.int .u8 20)], [.sc (.int .u8 0)], [.sc (.int .u8 80)], [.sc (.int .u8 0)], [.sc (.int .u8 9)], [.sc (.int .u8 0)], [.sc (.int .u8 0)], [.sc (.int .u8 0)], [.sc (.int .u8 0)], [.sc (.int .u8 0)], [.sc (.int .u8 0)], [.sc (.int .u8 0)], [.sc (.int .u8 0)], [.sc (.int .u8 80)], [.sc (.int .u8 16)], [.sc (.int .u8 0)], [.sc (.int .u8 0)], [.sc (.int .u8 154)], [.sc (.int .u8 122)], [.sc (.int .u8 0)], [.sc (.int .u8 0)]]], .sc (.int .u16 0)) :: T61
theorem T62_ok : T62.ok Tryz.prog glob := Tab.cons T61_ok 100000 (by kernel_rfl)
/- netsegment/packet.rightSum: 57 operations -/
def T63 : Tab := (81, [.sl 1 [[.sc (.int .u8 69)], [.sc (.int .u8 0)], [.sc (.int .u8 0)], [.sc (.int .u8 40)], [.sc (.int .u8 0)], [.sc (.int .u8 0)], [.sc (.int .u8 0)], [.sc (.int .u8 0)], [.sc (.int .u8 9)], [.sc (.int .u8 6)], [.sc (.int .u8 156)], [.sc (.int .u8 207)], [.sc (.int .u8 10)], [.sc (.int .u8 0)], [.sc (.int .u8 1)], [.sc (.int .u8 1)], [.sc (.int .u8 10)], [.sc (.int .u8 0)], [.sc (.int .u8 0)], [.sc (.int .u8 1)], [.sc (.int .u8 0)], [.sc (.int .u8 80)], [.sc (.int .u8 0)], [.sc (.int .u8 9)], [.sc (.int .u8 0)], [.sc (.int .u8 0)], [.sc (.int .u8 0)], [.sc (.int .u8 0)], [.sc (.int .u8 0)], [.sc (.int .u8 0)], [.sc (.int .u8 0)], [.sc (.int .u8 0)], [.sc (.int .u8 80)], [.sc (.int .u8 16)], [.sc (.int .u8 0)], [.sc (.int .u8 0)], [.sc (.int .u8 154)], [.sc (.int .u8 122)], [.sc (.int .u8 0)], [.sc (.int .u8 0)]]], .sc (.bool true)) :: T62
theorem T63_ok : T63.ok Tryz.prog glob := Tab.cons T62_ok 100000 (by kernel_rfl)
/- netsegment/packet.Decode: 531 operations -/
def T64 : Tab := (32, [.sl 1 [[.sc (.int .u8 69)], [.sc (.int .u8 0)], [.sc (.int .u8 0)], [.sc (.int .u8 40)], [.sc (.int .u8 0)], [.sc (.int .u8 0)], [.sc (.int .u8 0)], [.sc (.int .u8 0)], [.sc (.int .u8 9)], [.sc (.int .u8 6)], [.sc (.int .u8 156)], [.sc (.int .u8 207)], [.sc (.int .u8 10)], [.sc (.int .u8 0)], [.sc (.int .u8 1)], [.sc (.int .u8 1)], [.sc (.int .u8 10)], [.sc (.int .u8 0)], [.sc (.int .u8 0)], [.sc (.int .u8 1)], [.sc (.int .u8 0)], [.sc (.int .u8 80)], [.sc (.int .u8 0)], [.sc (.int .u8 9)], [.sc (.int .u8 0)], [.sc (.int .u8 0)], [.sc (.int .u8 0)], [.sc (.int .u8 0)], [.sc (.int .u8 0)], [.sc (.int .u8 0)], [.sc (.int .u8 0)], [.sc (.int .u8 0)], [.sc (.int .u8 80)], [.sc (.int .u8 16)], [.sc (.int .u8 0)], [.sc (.int .u8 0)], [.sc (.int .u8 154)], [.sc (.int .u8 122)], [.sc (.int .u8 0)], [.sc (.int .u8 0)]]], .tup [.sc (.agg #[.int .u32 167772417, .int .u32 167772161, .int .u8 6, .int .u16 80, .int .u16 9, .int .i64 9, .int .i64 16, .slice none 0 0]), .sc (.int .i64 0)]) :: T63
theorem T64_ok : T64.ok Tryz.prog glob := Tab.cons T63_ok 100000 (by kernel_rfl)
/- netsegment/packet.Checksum: 540 operations -/
def T65 : Tab := (78, [.sl 1 [[.sc (.int .u8 10)], [.sc (.int .u8 0)], [.sc (.int .u8 1)], [.sc (.int .u8 1)], [.sc (.int .u8 10)], [.sc (.int .u8 0)], [.sc (.int .u8 0)], [.sc (.int .u8 1)], [.sc (.int .u8 0)], [.sc (.int .u8 6)], [.sc (.int .u8 0)], [.sc (.int .u8 20)], [.sc (.int .u8 0)], [.sc (.int .u8 80)], [.sc (.int .u8 0)], [.sc (.int .u8 9)], [.sc (.int .u8 0)], [.sc (.int .u8 0)], [.sc (.int .u8 0)], [.sc (.int .u8 0)], [.sc (.int .u8 0)], [.sc (.int .u8 0)], [.sc (.int .u8 0)], [.sc (.int .u8 0)], [.sc (.int .u8 80)], [.sc (.int .u8 16)], [.sc (.int .u8 0)], [.sc (.int .u8 0)], [.sc (.int .u8 0)], [.sc (.int .u8 0)], [.sc (.int .u8 0)], [.sc (.int .u8 0)]]], .sc (.int .u16 39546)) :: T64
theorem T65_ok : T65.ok Tryz.prog glob := Tab.cons T64_ok 100000 (by kernel_rfl)
/- netsegment/packet.Rewrite: 646 operations -/
def T66 : Tab := (130, [.sl 1 [[.sc (.int .u8 69)], [.sc (.int .u8 0)], [.sc (.int .u8 0)], [.sc (.int .u8 40)], [.sc (.int .u8 0)], [.sc (.int .u8 0)], [.sc (.int .u8 0)], [.sc (.int .u8 0)], [.sc (.int .u8 9)], [.sc (.int .u8 6)], [.sc (.int .u8 156)], [.sc (.int .u8 207)], [.sc (.int .u8 10)], [.sc (.int .u8 0)], [.sc (.int .u8 1)], [.sc (.int .u8 1)], [.sc (.int .u8 10)], [.sc (.int .u8 0)], [.sc (.int .u8 0)], [.sc (.int .u8 1)], [.sc (.int .u8 0)], [.sc (.int .u8 80)], [.sc (.int .u8 0)], [.sc (.int .u8 9)], [.sc (.int .u8 0)], [.sc (.int .u8 0)], [.sc (.int .u8 0)], [.sc (.int .u8 0)], [.sc (.int .u8 0)], [.sc (.int .u8 0)], [.sc (.int .u8 0)], [.sc (.int .u8 0)], [.sc (.int .u8 80)], [.sc (.int .u8 16)], [.sc (.int .u8 0)], [.sc (.int .u8 0)], [.sc (.int .u8 154)], [.sc (.int .u8 122)], [.sc (.int .u8 0)], [.sc (.int .u8 0)]], .sc (.agg #[.int .u32 167772417, .int .u32 167772161, .int .u8 6, .int .u16 80, .int .u16 9])], .tup [.sl 1 [[.sc (.int .u8 69)], [.sc (.int .u8 0)], [.sc (.int .u8 0)], [.sc (.int .u8 40)], [.sc (.int .u8 0)], [.sc (.int .u8 0)], [.sc (.int .u8 0)], [.sc (.int .u8 0)], [.sc (.int .u8 9)], [.sc (.int .u8 6)], [.sc (.int .u8 156)], [.sc (.int .u8 207)], [.sc (.int .u8 10)], [.sc (.int .u8 0)], [.sc (.int .u8 1)], [.sc (.int .u8 1)], [.sc (.int .u8 10)], [.sc (.int .u8 0)], [.sc (.int .u8 0)], [.sc (.int .u8 1)], [.sc (.int .u8 0)], [.sc (.int .u8 80)], [.sc (.int .u8 0)], [.sc (.int .u8 9)], [.sc (.int .u8 0)], [.sc (.int .u8 0)], [.sc (.int .u8 0)], [.sc (.int .u8 0)], [.sc (.int .u8 0)], [.sc (.int .u8 0)], [.sc (.int .u8 0)], [.sc (.int .u8 0)], [.sc (.int .u8 80)], [.sc (.int .u8 16)], [.sc (.int .u8 0)], [.sc (.int .u8 0)], [.sc (.int .u8 154)], [.sc (.int .u8 122)], [.sc (.int .u8 0)], [.sc (.int .u8 0)]], .sc (.int .i64 0)]) :: T65
theorem T66_ok : T66.ok Tryz.prog glob := Tab.cons T65_ok 100000 (by kernel_rfl)
/- netsegment/routing.Lookup: 45 operations -/
def T67 : Tab := (93, [.sl 4 [[.sc (.int .u32 167772160), .sc (.int .i64 24), .sc (.bool true), .sc (.int .i64 0)], [.sc (.int .u32 167772416), .sc (.int .i64 24), .sc (.bool true), .sc (.int .i64 1)]], .sc (.int .u32 167772161)], .tup [.sc (.agg #[.int .u32 167772160, .int .i64 24, .bool true, .int .i64 0]), .sc (.bool true)]) :: T66
theorem T67_ok : T67.ok Tryz.prog glob := Tab.cons T66_ok 100000 (by kernel_rfl)
/- netsegment/box.Contains: 133 operations -/
def T68 : Tab := (127, [.sc (.agg #[.int .u32 0, .int .u32 4294967295, .int .u32 0, .int .u32 4294967295, .int .u32 0, .int .u32 255, .int .u32 0, .int .u32 65535, .int .u32 0, .int .u32 65535]), .sc (.agg #[.int .u32 167772417, .int .u32 167772161, .int .u8 6, .int .u16 80, .int .u16 9])], .sc (.bool true)) :: T67
theorem T68_ok : T68.ok Tryz.prog glob := Tab.cons T67_ok 100000 (by kernel_rfl)
/- netsegment/nsglaw26.sane: 13051 operations -/
def T69 : Tab := (12, [], .sc (.bool true)) :: T68
theorem T69_ok : T69.ok Tryz.prog glob := Tab.cons T68_ok 100000 (by kernel_rfl)

end Go.AM

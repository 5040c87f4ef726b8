/- Parts of a proof, printed short. No condition. -/
import Derived.Test.YtjcpfgkompgmeaaGreatDoorProg
import Derived.Test.YtjcpfgkompgmeaaGreatDoorPsQ5
set_option maxRecDepth 1000000
namespace Go.AM
open Go Go.Proofs
def decBox:List PV→Option (Arr5 Zb)
 | [.sc (.int .u32 a),.sc (.int .u32 b),.sc (.int .u32 c),.sc (.int .u32 d),.sc (.int .u32 e),.sc (.int .u32 f),.sc (.int .u32 g),.sc (.int .u32 h),.sc (.int .u32 i),.sc (.int .u32 j)]=>some (.mk ⟨a,b⟩ ⟨c,d⟩ ⟨e,f⟩ ⟨g,h⟩ ⟨i,j⟩)
 | _=>none
theorem Ziv:∀ x a,decBox x=some a→x=Za a:=by
 intro x a h
 unfold decBox at h
 split at h
 ·simp only [Option.some.injEq] at h
  subst h; rfl
 ·cases h
def encDiffer (r:Zx × Bool):PV:=.tup [Zdl r.1,vb r.2]
def encSet (r:List (Arr5 Zb) × Int):PV:=.tup [slc 10 Za r.1,i64 r.2]
noncomputable section
def T0:Tab:=[]
def E0:Eval:=hookx (hookF2 Tryz.prog 164 10 decBox Zfc encDiffer) (hookx (hookF2 Tryz.prog 149 10 decBox Zeq encSet) (hookx (hookF2 Tryz.prog 116 10 decBox Zfr encSet) (hookx (hookF2 Tryz.prog 157 10 decBox Zew encSet) (hookx (sortKx Tryz.prog 119 160 9) (hookx (sortKx Tryz.prog 119 166 9) (hookx (valsx Tryz.prog 40 29 3) (noE)))))))
def T1:Tab:=(49,[.agg [.sl 5 [[.sc (.string (ByteArray.mk #[114])),.sc (.int .i64 100),.sc (.bool false),.sc (.bool false),.sc (.string (ByteArray.mk #[]))],[.sc (.string (ByteArray.mk #[115])),.sc (.int .i64 100),.sc (.bool false),.sc (.bool false),.sc (.string (ByteArray.mk #[]))]],.sl 3 [[.sc (.int .i64 0),.sc (.int .i64 1),.sc (.int .i64 1)]],.sl 6 [[.sc (.string (ByteArray.mk #[97])),.sc (.int .i64 0),.sc (.string (ByteArray.mk #[122])),.sc (.int .u32 167772160),.sc (.int .i64 24),.sc (.bool false)],[.sc (.string (ByteArray.mk #[98])),.sc (.int .i64 1),.sc (.string (ByteArray.mk #[122])),.sc (.int .u32 167772416),.sc (.int .i64 24),.sc (.bool false)]],.sc (.slice none 0 0),.sc (.int .i64 0)]],.sc (.bool true)) :: T0
def T2:Tab:=(35,[.agg [.sl 5 [[.sc (.string (ByteArray.mk #[114])),.sc (.int .i64 100),.sc (.bool false),.sc (.bool false),.sc (.string (ByteArray.mk #[]))],[.sc (.string (ByteArray.mk #[115])),.sc (.int .i64 100),.sc (.bool false),.sc (.bool false),.sc (.string (ByteArray.mk #[]))]],.sl 3 [[.sc (.int .i64 0),.sc (.int .i64 1),.sc (.int .i64 1)]],.sl 6 [[.sc (.string (ByteArray.mk #[97])),.sc (.int .i64 0),.sc (.string (ByteArray.mk #[122])),.sc (.int .u32 167772160),.sc (.int .i64 24),.sc (.bool false)],[.sc (.string (ByteArray.mk #[98])),.sc (.int .i64 1),.sc (.string (ByteArray.mk #[122])),.sc (.int .u32 167772416),.sc (.int .i64 24),.sc (.bool false)]],.sc (.slice none 0 0),.sc (.int .i64 0)],.sl 1 [[.sl 6 [[.sc (.int .i64 0),.sc (.slice none 0 0),.sc (.slice none 0 0),.sc (.slice none 0 0),.sc (.slice none 0 0),.sc (.slice none 0 0)]]],[.sl 6 [[.sc (.int .i64 1),.sc (.slice none 0 0),.sc (.slice none 0 0),.sc (.slice none 0 0),.sc (.slice none 0 0),.sc (.slice none 0 0)]]]]],.sc (.bool true)) :: T1
def T3:Tab:=(35,[.agg [.sl 5 [[.sc (.string (ByteArray.mk #[114])),.sc (.int .i64 100),.sc (.bool false),.sc (.bool false),.sc (.string (ByteArray.mk #[]))],[.sc (.string (ByteArray.mk #[115])),.sc (.int .i64 100),.sc (.bool false),.sc (.bool false),.sc (.string (ByteArray.mk #[]))]],.sl 3 [[.sc (.int .i64 0),.sc (.int .i64 1),.sc (.int .i64 1)]],.sl 6 [[.sc (.string (ByteArray.mk #[97])),.sc (.int .i64 0),.sc (.string (ByteArray.mk #[122])),.sc (.int .u32 167772160),.sc (.int .i64 24),.sc (.bool false)],[.sc (.string (ByteArray.mk #[98])),.sc (.int .i64 1),.sc (.string (ByteArray.mk #[122])),.sc (.int .u32 167772416),.sc (.int .i64 24),.sc (.bool false)]],.sc (.slice none 0 0),.sc (.int .i64 0)],.sl 1 [[.sl 6 [[.sc (.int .i64 0),.sl 11 [[.sc (.int .u32 0),.sc (.int .u32 4294967295),.sc (.int .u32 0),.sc (.int .u32 4294967295),.sc (.int .u32 0),.sc (.int .u32 255),.sc (.int .u32 0),.sc (.int .u32 65535),.sc (.int .u32 0),.sc (.int .u32 65535),.sc (.bool true)]],.sc (.slice none 0 0),.sc (.slice none 0 0),.sc (.slice none 0 0),.sc (.slice none 0 0)]]],[.sl 6 [[.sc (.int .i64 1),.sc (.slice none 0 0),.sl 11 [[.sc (.int .u32 0),.sc (.int .u32 4294967295),.sc (.int .u32 0),.sc (.int .u32 4294967295),.sc (.int .u32 0),.sc (.int .u32 255),.sc (.int .u32 0),.sc (.int .u32 65535),.sc (.int .u32 0),.sc (.int .u32 65535),.sc (.bool true)]],.sc (.slice none 0 0),.sc (.slice none 0 0),.sc (.slice none 0 0)]]]]],.sc (.bool true)) :: T2
def T4:Tab:=(111,[],.sl 10 [[.sc (.int .u32 0),.sc (.int .u32 4294967295),.sc (.int .u32 0),.sc (.int .u32 4294967295),.sc (.int .u32 0),.sc (.int .u32 0),.sc (.int .u32 0),.sc (.int .u32 0),.sc (.int .u32 0),.sc (.int .u32 0)],[.sc (.int .u32 0),.sc (.int .u32 4294967295),.sc (.int .u32 0),.sc (.int .u32 4294967295),.sc (.int .u32 1),.sc (.int .u32 1),.sc (.int .u32 0),.sc (.int .u32 7),.sc (.int .u32 8),.sc (.int .u32 8)],[.sc (.int .u32 0),.sc (.int .u32 4294967295),.sc (.int .u32 0),.sc (.int .u32 4294967295),.sc (.int .u32 1),.sc (.int .u32 1),.sc (.int .u32 9),.sc (.int .u32 65535),.sc (.int .u32 8),.sc (.int .u32 8)],[.sc (.int .u32 0),.sc (.int .u32 4294967295),.sc (.int .u32 0),.sc (.int .u32 4294967295),.sc (.int .u32 2),.sc (.int .u32 5),.sc (.int .u32 0),.sc (.int .u32 0),.sc (.int .u32 0),.sc (.int .u32 0)],[.sc (.int .u32 0),.sc (.int .u32 4294967295),.sc (.int .u32 0),.sc (.int .u32 4294967295),.sc (.int .u32 6),.sc (.int .u32 6),.sc (.int .u32 0),.sc (.int .u32 65535),.sc (.int .u32 0),.sc (.int .u32 65535)],[.sc (.int .u32 0),.sc (.int .u32 4294967295),.sc (.int .u32 0),.sc (.int .u32 4294967295),.sc (.int .u32 7),.sc (.int .u32 16),.sc (.int .u32 0),.sc (.int .u32 0),.sc (.int .u32 0),.sc (.int .u32 0)],[.sc (.int .u32 0),.sc (.int .u32 4294967295),.sc (.int .u32 0),.sc (.int .u32 4294967295),.sc (.int .u32 17),.sc (.int .u32 17),.sc (.int .u32 0),.sc (.int .u32 65535),.sc (.int .u32 0),.sc (.int .u32 65535)],[.sc (.int .u32 0),.sc (.int .u32 4294967295),.sc (.int .u32 0),.sc (.int .u32 4294967295),.sc (.int .u32 18),.sc (.int .u32 255),.sc (.int .u32 0),.sc (.int .u32 0),.sc (.int .u32 0),.sc (.int .u32 0)]]) :: T3
def T5:Tab:=(71,[.agg [.sl 5 [[.sc (.string (ByteArray.mk #[114])),.sc (.int .i64 100),.sc (.bool false),.sc (.bool false),.sc (.string (ByteArray.mk #[]))],[.sc (.string (ByteArray.mk #[115])),.sc (.int .i64 100),.sc (.bool false),.sc (.bool false),.sc (.string (ByteArray.mk #[]))]],.sl 3 [[.sc (.int .i64 0),.sc (.int .i64 1),.sc (.int .i64 1)]],.sl 6 [[.sc (.string (ByteArray.mk #[97])),.sc (.int .i64 0),.sc (.string (ByteArray.mk #[122])),.sc (.int .u32 167772160),.sc (.int .i64 24),.sc (.bool false)],[.sc (.string (ByteArray.mk #[98])),.sc (.int .i64 1),.sc (.string (ByteArray.mk #[122])),.sc (.int .u32 167772416),.sc (.int .i64 24),.sc (.bool false)]],.sc (.slice none 0 0),.sc (.int .i64 0)],.agg [.sc (.int .i64 0),.sl 11 [],.sl 11 [],.sl 20 [],.sl 13 [],.sl 11 []],.agg [.sc (.int .i64 1),.sl 11 [],.sl 11 [],.sl 20 [],.sl 13 [],.sl 11 []]],.tup [.sc (.slice none 0 0),.sc (.int .i64 0)]) :: T4
def T6:Tab:=(109,[.agg [.sl 5 [[.sc (.string (ByteArray.mk #[114])),.sc (.int .i64 100),.sc (.bool false),.sc (.bool false),.sc (.string (ByteArray.mk #[]))],[.sc (.string (ByteArray.mk #[115])),.sc (.int .i64 100),.sc (.bool false),.sc (.bool false),.sc (.string (ByteArray.mk #[]))]],.sl 3 [[.sc (.int .i64 0),.sc (.int .i64 1),.sc (.int .i64 1)]],.sl 6 [[.sc (.string (ByteArray.mk #[97])),.sc (.int .i64 0),.sc (.string (ByteArray.mk #[122])),.sc (.int .u32 167772160),.sc (.int .i64 24),.sc (.bool false)],[.sc (.string (ByteArray.mk #[98])),.sc (.int .i64 1),.sc (.string (ByteArray.mk #[122])),.sc (.int .u32 167772416),.sc (.int .i64 24),.sc (.bool false)]],.sc (.slice none 0 0),.sc (.int .i64 0)],.agg [.sc (.int .i64 0),.sl 11 [[.sc (.int .u32 0),.sc (.int .u32 4294967295),.sc (.int .u32 0),.sc (.int .u32 4294967295),.sc (.int .u32 0),.sc (.int .u32 255),.sc (.int .u32 0),.sc (.int .u32 65535),.sc (.int .u32 0),.sc (.int .u32 65535),.sc (.bool true)]],.sl 11 [],.sl 20 [],.sl 13 [],.sl 11 []],.agg [.sc (.int .i64 1),.sl 11 [],.sl 11 [[.sc (.int .u32 0),.sc (.int .u32 4294967295),.sc (.int .u32 0),.sc (.int .u32 4294967295),.sc (.int .u32 0),.sc (.int .u32 255),.sc (.int .u32 0),.sc (.int .u32 65535),.sc (.int .u32 0),.sc (.int .u32 65535),.sc (.bool true)]],.sl 20 [],.sl 13 [],.sl 11 []]],.sc (.int .i64 0)) :: T5
def T7:Tab:=(71,[.agg [.sl 5 [[.sc (.string (ByteArray.mk #[114])),.sc (.int .i64 100),.sc (.bool false),.sc (.bool false),.sc (.string (ByteArray.mk #[]))],[.sc (.string (ByteArray.mk #[115])),.sc (.int .i64 100),.sc (.bool false),.sc (.bool false),.sc (.string (ByteArray.mk #[]))]],.sl 3 [[.sc (.int .i64 0),.sc (.int .i64 1),.sc (.int .i64 1)]],.sl 6 [[.sc (.string (ByteArray.mk #[97])),.sc (.int .i64 0),.sc (.string (ByteArray.mk #[122])),.sc (.int .u32 167772160),.sc (.int .i64 24),.sc (.bool false)],[.sc (.string (ByteArray.mk #[98])),.sc (.int .i64 1),.sc (.string (ByteArray.mk #[122])),.sc (.int .u32 167772416),.sc (.int .i64 24),.sc (.bool false)]],.sc (.slice none 0 0),.sc (.int .i64 0)],.agg [.sc (.int .i64 0),.sl 11 [[.sc (.int .u32 0),.sc (.int .u32 4294967295),.sc (.int .u32 0),.sc (.int .u32 4294967295),.sc (.int .u32 0),.sc (.int .u32 255),.sc (.int .u32 0),.sc (.int .u32 65535),.sc (.int .u32 0),.sc (.int .u32 65535),.sc (.bool true)]],.sl 11 [],.sl 20 [],.sl 13 [],.sl 11 []],.agg [.sc (.int .i64 1),.sl 11 [],.sl 11 [[.sc (.int .u32 0),.sc (.int .u32 4294967295),.sc (.int .u32 0),.sc (.int .u32 4294967295),.sc (.int .u32 0),.sc (.int .u32 255),.sc (.int .u32 0),.sc (.int .u32 65535),.sc (.int .u32 0),.sc (.int .u32 65535),.sc (.bool true)]],.sl 20 [],.sl 13 [],.sl 11 []]],.tup [.sl 2 [[.sc (.string (ByteArray.mk #[])),.sl 10 [[.sc (.int .u32 167772160),.sc (.int .u32 167772415),.sc (.int .u32 167772416),.sc (.int .u32 167772671),.sc (.int .u32 0),.sc (.int .u32 0),.sc (.int .u32 0),.sc (.int .u32 0),.sc (.int .u32 0),.sc (.int .u32 0)],[.sc (.int .u32 167772160),.sc (.int .u32 167772415),.sc (.int .u32 167772416),.sc (.int .u32 167772671),.sc (.int .u32 1),.sc (.int .u32 1),.sc (.int .u32 0),.sc (.int .u32 7),.sc (.int .u32 8),.sc (.int .u32 8)],[.sc (.int .u32 167772160),.sc (.int .u32 167772415),.sc (.int .u32 167772416),.sc (.int .u32 167772671),.sc (.int .u32 1),.sc (.int .u32 1),.sc (.int .u32 9),.sc (.int .u32 65535),.sc (.int .u32 8),.sc (.int .u32 8)],[.sc (.int .u32 167772160),.sc (.int .u32 167772415),.sc (.int .u32 167772416),.sc (.int .u32 167772671),.sc (.int .u32 2),.sc (.int .u32 5),.sc (.int .u32 0),.sc (.int .u32 0),.sc (.int .u32 0),.sc (.int .u32 0)],[.sc (.int .u32 167772160),.sc (.int .u32 167772415),.sc (.int .u32 167772416),.sc (.int .u32 167772671),.sc (.int .u32 6),.sc (.int .u32 6),.sc (.int .u32 0),.sc (.int .u32 65535),.sc (.int .u32 0),.sc (.int .u32 65535)],[.sc (.int .u32 167772160),.sc (.int .u32 167772415),.sc (.int .u32 167772416),.sc (.int .u32 167772671),.sc (.int .u32 7),.sc (.int .u32 16),.sc (.int .u32 0),.sc (.int .u32 0),.sc (.int .u32 0),.sc (.int .u32 0)],[.sc (.int .u32 167772160),.sc (.int .u32 167772415),.sc (.int .u32 167772416),.sc (.int .u32 167772671),.sc (.int .u32 17),.sc (.int .u32 17),.sc (.int .u32 0),.sc (.int .u32 65535),.sc (.int .u32 0),.sc (.int .u32 65535)],[.sc (.int .u32 167772160),.sc (.int .u32 167772415),.sc (.int .u32 167772416),.sc (.int .u32 167772671),.sc (.int .u32 18),.sc (.int .u32 255),.sc (.int .u32 0),.sc (.int .u32 0),.sc (.int .u32 0),.sc (.int .u32 0)]]]],.sc (.int .i64 0)]) :: T6
def T8:Tab:=(71,[.agg [.sl 5 [[.sc (.string (ByteArray.mk #[114])),.sc (.int .i64 100),.sc (.bool false),.sc (.bool false),.sc (.string (ByteArray.mk #[]))],[.sc (.string (ByteArray.mk #[115])),.sc (.int .i64 100),.sc (.bool false),.sc (.bool false),.sc (.string (ByteArray.mk #[]))]],.sl 3 [[.sc (.int .i64 0),.sc (.int .i64 1),.sc (.int .i64 1)]],.sl 6 [[.sc (.string (ByteArray.mk #[97])),.sc (.int .i64 0),.sc (.string (ByteArray.mk #[122])),.sc (.int .u32 167772160),.sc (.int .i64 24),.sc (.bool false)],[.sc (.string (ByteArray.mk #[98])),.sc (.int .i64 1),.sc (.string (ByteArray.mk #[122])),.sc (.int .u32 167772416),.sc (.int .i64 24),.sc (.bool false)]],.sc (.slice none 0 0),.sc (.int .i64 0)],.agg [.sc (.int .i64 0),.sl 11 [[.sc (.int .u32 0),.sc (.int .u32 4294967295),.sc (.int .u32 0),.sc (.int .u32 4294967295),.sc (.int .u32 0),.sc (.int .u32 255),.sc (.int .u32 0),.sc (.int .u32 65535),.sc (.int .u32 0),.sc (.int .u32 65535),.sc (.bool true)]],.sl 11 [],.sl 20 [],.sl 13 [],.sl 11 []],.agg [.sc (.int .i64 1),.sl 11 [],.sl 11 [],.sl 20 [],.sl 13 [],.sl 11 []]],.tup [.sc (.slice none 0 0),.sc (.int .i64 0)]) :: T7
def T9:Tab:=(55,[.agg [.sl 5 [[.sc (.string (ByteArray.mk #[114])),.sc (.int .i64 100),.sc (.bool false),.sc (.bool false),.sc (.string (ByteArray.mk #[]))],[.sc (.string (ByteArray.mk #[115])),.sc (.int .i64 100),.sc (.bool false),.sc (.bool false),.sc (.string (ByteArray.mk #[]))]],.sl 3 [[.sc (.int .i64 0),.sc (.int .i64 1),.sc (.int .i64 1)]],.sl 6 [[.sc (.string (ByteArray.mk #[97])),.sc (.int .i64 0),.sc (.string (ByteArray.mk #[122])),.sc (.int .u32 167772160),.sc (.int .i64 24),.sc (.bool false)],[.sc (.string (ByteArray.mk #[98])),.sc (.int .i64 1),.sc (.string (ByteArray.mk #[122])),.sc (.int .u32 167772416),.sc (.int .i64 24),.sc (.bool false)]],.sc (.slice none 0 0),.sc (.int .i64 0)],.sl 1 [[.sl 6 [[.sc (.int .i64 0),.sc (.slice none 0 0),.sc (.slice none 0 0),.sc (.slice none 0 0),.sc (.slice none 0 0),.sc (.slice none 0 0)]]],[.sl 6 [[.sc (.int .i64 1),.sc (.slice none 0 0),.sc (.slice none 0 0),.sc (.slice none 0 0),.sc (.slice none 0 0),.sc (.slice none 0 0)]]]],.sl 1 [[.sl 6 [[.sc (.int .i64 0),.sl 11 [[.sc (.int .u32 0),.sc (.int .u32 4294967295),.sc (.int .u32 0),.sc (.int .u32 4294967295),.sc (.int .u32 0),.sc (.int .u32 255),.sc (.int .u32 0),.sc (.int .u32 65535),.sc (.int .u32 0),.sc (.int .u32 65535),.sc (.bool true)]],.sc (.slice none 0 0),.sc (.slice none 0 0),.sc (.slice none 0 0),.sc (.slice none 0 0)]]],[.sl 6 [[.sc (.int .i64 1),.sc (.slice none 0 0),.sl 11 [[.sc (.int .u32 0),.sc (.int .u32 4294967295),.sc (.int .u32 0),.sc (.int .u32 4294967295),.sc (.int .u32 0),.sc (.int .u32 255),.sc (.int .u32 0),.sc (.int .u32 65535),.sc (.int .u32 0),.sc (.int .u32 65535),.sc (.bool true)]],.sc (.slice none 0 0),.sc (.slice none 0 0),.sc (.slice none 0 0)]]]],.agg [.sc (.int .i64 0),.sl 11 [[.sc (.int .u32 0),.sc (.int .u32 4294967295),.sc (.int .u32 0),.sc (.int .u32 4294967295),.sc (.int .u32 0),.sc (.int .u32 255),.sc (.int .u32 0),.sc (.int .u32 65535),.sc (.int .u32 0),.sc (.int .u32 65535),.sc (.bool true)]],.sl 11 [],.sl 20 [],.sl 13 [],.sl 11 []],.agg [.sc (.int .i64 1),.sl 11 [],.sl 11 [],.sl 20 [],.sl 13 [],.sl 11 []]],.tup [.sc (.agg #[.int .i64 0,.slice none 0 0,.slice none 0 0,.int .i64 0,.int .i64 0,.int .u32 0,.int .u32 0,.int .u8 0,.int .u16 0,.int .u16 0,.string (ByteArray.mk #[])]),.sc (.bool false),.sc (.int .i64 0)]) :: T8
def T10:Tab:=(71,[.agg [.sl 5 [[.sc (.string (ByteArray.mk #[114])),.sc (.int .i64 100),.sc (.bool false),.sc (.bool false),.sc (.string (ByteArray.mk #[]))],[.sc (.string (ByteArray.mk #[115])),.sc (.int .i64 100),.sc (.bool false),.sc (.bool false),.sc (.string (ByteArray.mk #[]))]],.sl 3 [[.sc (.int .i64 0),.sc (.int .i64 1),.sc (.int .i64 1)]],.sl 6 [[.sc (.string (ByteArray.mk #[97])),.sc (.int .i64 0),.sc (.string (ByteArray.mk #[122])),.sc (.int .u32 167772160),.sc (.int .i64 24),.sc (.bool false)],[.sc (.string (ByteArray.mk #[98])),.sc (.int .i64 1),.sc (.string (ByteArray.mk #[122])),.sc (.int .u32 167772416),.sc (.int .i64 24),.sc (.bool false)]],.sc (.slice none 0 0),.sc (.int .i64 0)],.agg [.sc (.int .i64 1),.sl 11 [],.sl 11 [],.sl 20 [],.sl 13 [],.sl 11 []],.agg [.sc (.int .i64 0),.sl 11 [],.sl 11 [],.sl 20 [],.sl 13 [],.sl 11 []]],.tup [.sc (.slice none 0 0),.sc (.int .i64 0)]) :: T9
def T11:Tab:=(71,[.agg [.sl 5 [[.sc (.string (ByteArray.mk #[114])),.sc (.int .i64 100),.sc (.bool false),.sc (.bool false),.sc (.string (ByteArray.mk #[]))],[.sc (.string (ByteArray.mk #[115])),.sc (.int .i64 100),.sc (.bool false),.sc (.bool false),.sc (.string (ByteArray.mk #[]))]],.sl 3 [[.sc (.int .i64 0),.sc (.int .i64 1),.sc (.int .i64 1)]],.sl 6 [[.sc (.string (ByteArray.mk #[97])),.sc (.int .i64 0),.sc (.string (ByteArray.mk #[122])),.sc (.int .u32 167772160),.sc (.int .i64 24),.sc (.bool false)],[.sc (.string (ByteArray.mk #[98])),.sc (.int .i64 1),.sc (.string (ByteArray.mk #[122])),.sc (.int .u32 167772416),.sc (.int .i64 24),.sc (.bool false)]],.sc (.slice none 0 0),.sc (.int .i64 0)],.agg [.sc (.int .i64 1),.sl 11 [],.sl 11 [[.sc (.int .u32 0),.sc (.int .u32 4294967295),.sc (.int .u32 0),.sc (.int .u32 4294967295),.sc (.int .u32 0),.sc (.int .u32 255),.sc (.int .u32 0),.sc (.int .u32 65535),.sc (.int .u32 0),.sc (.int .u32 65535),.sc (.bool true)]],.sl 20 [],.sl 13 [],.sl 11 []],.agg [.sc (.int .i64 0),.sl 11 [[.sc (.int .u32 0),.sc (.int .u32 4294967295),.sc (.int .u32 0),.sc (.int .u32 4294967295),.sc (.int .u32 0),.sc (.int .u32 255),.sc (.int .u32 0),.sc (.int .u32 65535),.sc (.int .u32 0),.sc (.int .u32 65535),.sc (.bool true)]],.sl 11 [],.sl 20 [],.sl 13 [],.sl 11 []]],.tup [.sc (.slice none 0 0),.sc (.int .i64 0)]) :: T10
def T12:Tab:=(71,[.agg [.sl 5 [[.sc (.string (ByteArray.mk #[114])),.sc (.int .i64 100),.sc (.bool false),.sc (.bool false),.sc (.string (ByteArray.mk #[]))],[.sc (.string (ByteArray.mk #[115])),.sc (.int .i64 100),.sc (.bool false),.sc (.bool false),.sc (.string (ByteArray.mk #[]))]],.sl 3 [[.sc (.int .i64 0),.sc (.int .i64 1),.sc (.int .i64 1)]],.sl 6 [[.sc (.string (ByteArray.mk #[97])),.sc (.int .i64 0),.sc (.string (ByteArray.mk #[122])),.sc (.int .u32 167772160),.sc (.int .i64 24),.sc (.bool false)],[.sc (.string (ByteArray.mk #[98])),.sc (.int .i64 1),.sc (.string (ByteArray.mk #[122])),.sc (.int .u32 167772416),.sc (.int .i64 24),.sc (.bool false)]],.sc (.slice none 0 0),.sc (.int .i64 0)],.agg [.sc (.int .i64 1),.sl 11 [],.sl 11 [],.sl 20 [],.sl 13 [],.sl 11 []],.agg [.sc (.int .i64 0),.sl 11 [[.sc (.int .u32 0),.sc (.int .u32 4294967295),.sc (.int .u32 0),.sc (.int .u32 4294967295),.sc (.int .u32 0),.sc (.int .u32 255),.sc (.int .u32 0),.sc (.int .u32 65535),.sc (.int .u32 0),.sc (.int .u32 65535),.sc (.bool true)]],.sl 11 [],.sl 20 [],.sl 13 [],.sl 11 []]],.tup [.sc (.slice none 0 0),.sc (.int .i64 0)]) :: T11
def T13:Tab:=(55,[.agg [.sl 5 [[.sc (.string (ByteArray.mk #[114])),.sc (.int .i64 100),.sc (.bool false),.sc (.bool false),.sc (.string (ByteArray.mk #[]))],[.sc (.string (ByteArray.mk #[115])),.sc (.int .i64 100),.sc (.bool false),.sc (.bool false),.sc (.string (ByteArray.mk #[]))]],.sl 3 [[.sc (.int .i64 0),.sc (.int .i64 1),.sc (.int .i64 1)]],.sl 6 [[.sc (.string (ByteArray.mk #[97])),.sc (.int .i64 0),.sc (.string (ByteArray.mk #[122])),.sc (.int .u32 167772160),.sc (.int .i64 24),.sc (.bool false)],[.sc (.string (ByteArray.mk #[98])),.sc (.int .i64 1),.sc (.string (ByteArray.mk #[122])),.sc (.int .u32 167772416),.sc (.int .i64 24),.sc (.bool false)]],.sc (.slice none 0 0),.sc (.int .i64 0)],.sl 1 [[.sl 6 [[.sc (.int .i64 0),.sc (.slice none 0 0),.sc (.slice none 0 0),.sc (.slice none 0 0),.sc (.slice none 0 0),.sc (.slice none 0 0)]]],[.sl 6 [[.sc (.int .i64 1),.sc (.slice none 0 0),.sc (.slice none 0 0),.sc (.slice none 0 0),.sc (.slice none 0 0),.sc (.slice none 0 0)]]]],.sl 1 [[.sl 6 [[.sc (.int .i64 0),.sl 11 [[.sc (.int .u32 0),.sc (.int .u32 4294967295),.sc (.int .u32 0),.sc (.int .u32 4294967295),.sc (.int .u32 0),.sc (.int .u32 255),.sc (.int .u32 0),.sc (.int .u32 65535),.sc (.int .u32 0),.sc (.int .u32 65535),.sc (.bool true)]],.sc (.slice none 0 0),.sc (.slice none 0 0),.sc (.slice none 0 0),.sc (.slice none 0 0)]]],[.sl 6 [[.sc (.int .i64 1),.sc (.slice none 0 0),.sl 11 [[.sc (.int .u32 0),.sc (.int .u32 4294967295),.sc (.int .u32 0),.sc (.int .u32 4294967295),.sc (.int .u32 0),.sc (.int .u32 255),.sc (.int .u32 0),.sc (.int .u32 65535),.sc (.int .u32 0),.sc (.int .u32 65535),.sc (.bool true)]],.sc (.slice none 0 0),.sc (.slice none 0 0),.sc (.slice none 0 0)]]]],.agg [.sc (.int .i64 1),.sl 11 [],.sl 11 [],.sl 20 [],.sl 13 [],.sl 11 []],.agg [.sc (.int .i64 0),.sl 11 [[.sc (.int .u32 0),.sc (.int .u32 4294967295),.sc (.int .u32 0),.sc (.int .u32 4294967295),.sc (.int .u32 0),.sc (.int .u32 255),.sc (.int .u32 0),.sc (.int .u32 65535),.sc (.int .u32 0),.sc (.int .u32 65535),.sc (.bool true)]],.sl 11 [],.sl 20 [],.sl 13 [],.sl 11 []]],.tup [.sc (.agg #[.int .i64 0,.slice none 0 0,.slice none 0 0,.int .i64 0,.int .i64 0,.int .u32 0,.int .u32 0,.int .u8 0,.int .u16 0,.int .u16 0,.string (ByteArray.mk #[])]),.sc (.bool false),.sc (.int .i64 0)]) :: T12
def T14:Tab:=(44,[.agg [.sl 5 [[.sc (.string (ByteArray.mk #[114])),.sc (.int .i64 100),.sc (.bool false),.sc (.bool false),.sc (.string (ByteArray.mk #[]))],[.sc (.string (ByteArray.mk #[115])),.sc (.int .i64 100),.sc (.bool false),.sc (.bool false),.sc (.string (ByteArray.mk #[]))]],.sl 3 [[.sc (.int .i64 0),.sc (.int .i64 1),.sc (.int .i64 1)]],.sl 6 [[.sc (.string (ByteArray.mk #[97])),.sc (.int .i64 0),.sc (.string (ByteArray.mk #[122])),.sc (.int .u32 167772160),.sc (.int .i64 24),.sc (.bool false)],[.sc (.string (ByteArray.mk #[98])),.sc (.int .i64 1),.sc (.string (ByteArray.mk #[122])),.sc (.int .u32 167772416),.sc (.int .i64 24),.sc (.bool false)]],.sc (.slice none 0 0),.sc (.int .i64 0)],.sl 1 [[.sl 6 [[.sc (.int .i64 0),.sc (.slice none 0 0),.sc (.slice none 0 0),.sc (.slice none 0 0),.sc (.slice none 0 0),.sc (.slice none 0 0)]]],[.sl 6 [[.sc (.int .i64 1),.sc (.slice none 0 0),.sc (.slice none 0 0),.sc (.slice none 0 0),.sc (.slice none 0 0),.sc (.slice none 0 0)]]]],.sl 1 [[.sl 6 [[.sc (.int .i64 0),.sl 11 [[.sc (.int .u32 0),.sc (.int .u32 4294967295),.sc (.int .u32 0),.sc (.int .u32 4294967295),.sc (.int .u32 0),.sc (.int .u32 255),.sc (.int .u32 0),.sc (.int .u32 65535),.sc (.int .u32 0),.sc (.int .u32 65535),.sc (.bool true)]],.sc (.slice none 0 0),.sc (.slice none 0 0),.sc (.slice none 0 0),.sc (.slice none 0 0)]]],[.sl 6 [[.sc (.int .i64 1),.sc (.slice none 0 0),.sl 11 [[.sc (.int .u32 0),.sc (.int .u32 4294967295),.sc (.int .u32 0),.sc (.int .u32 4294967295),.sc (.int .u32 0),.sc (.int .u32 255),.sc (.int .u32 0),.sc (.int .u32 65535),.sc (.int .u32 0),.sc (.int .u32 65535),.sc (.bool true)]],.sc (.slice none 0 0),.sc (.slice none 0 0),.sc (.slice none 0 0)]]]],.sc (.int .i64 0),.sc (.int .i64 1)],.tup [.sc (.bool false),.sc (.int .i64 0)]) :: T13
def T15:Tab:=(71,[.agg [.sl 5 [[.sc (.string (ByteArray.mk #[114])),.sc (.int .i64 100),.sc (.bool false),.sc (.bool false),.sc (.string (ByteArray.mk #[]))],[.sc (.string (ByteArray.mk #[115])),.sc (.int .i64 100),.sc (.bool false),.sc (.bool false),.sc (.string (ByteArray.mk #[]))]],.sl 3 [[.sc (.int .i64 0),.sc (.int .i64 1),.sc (.int .i64 1)]],.sl 6 [[.sc (.string (ByteArray.mk #[97])),.sc (.int .i64 0),.sc (.string (ByteArray.mk #[122])),.sc (.int .u32 167772160),.sc (.int .i64 24),.sc (.bool false)],[.sc (.string (ByteArray.mk #[98])),.sc (.int .i64 1),.sc (.string (ByteArray.mk #[122])),.sc (.int .u32 167772416),.sc (.int .i64 24),.sc (.bool false)]],.sc (.slice none 0 0),.sc (.int .i64 0)],.agg [.sc (.int .i64 0),.sl 11 [],.sl 11 [],.sl 20 [],.sl 13 [],.sl 11 []],.agg [.sc (.int .i64 1),.sl 11 [],.sl 11 [[.sc (.int .u32 0),.sc (.int .u32 4294967295),.sc (.int .u32 0),.sc (.int .u32 4294967295),.sc (.int .u32 0),.sc (.int .u32 255),.sc (.int .u32 0),.sc (.int .u32 65535),.sc (.int .u32 0),.sc (.int .u32 65535),.sc (.bool true)]],.sl 20 [],.sl 13 [],.sl 11 []]],.tup [.sc (.slice none 0 0),.sc (.int .i64 0)]) :: T14
def T16:Tab:=(55,[.agg [.sl 5 [[.sc (.string (ByteArray.mk #[114])),.sc (.int .i64 100),.sc (.bool false),.sc (.bool false),.sc (.string (ByteArray.mk #[]))],[.sc (.string (ByteArray.mk #[115])),.sc (.int .i64 100),.sc (.bool false),.sc (.bool false),.sc (.string (ByteArray.mk #[]))]],.sl 3 [[.sc (.int .i64 0),.sc (.int .i64 1),.sc (.int .i64 1)]],.sl 6 [[.sc (.string (ByteArray.mk #[97])),.sc (.int .i64 0),.sc (.string (ByteArray.mk #[122])),.sc (.int .u32 167772160),.sc (.int .i64 24),.sc (.bool false)],[.sc (.string (ByteArray.mk #[98])),.sc (.int .i64 1),.sc (.string (ByteArray.mk #[122])),.sc (.int .u32 167772416),.sc (.int .i64 24),.sc (.bool false)]],.sc (.slice none 0 0),.sc (.int .i64 0)],.sl 1 [[.sl 6 [[.sc (.int .i64 0),.sc (.slice none 0 0),.sc (.slice none 0 0),.sc (.slice none 0 0),.sc (.slice none 0 0),.sc (.slice none 0 0)]]],[.sl 6 [[.sc (.int .i64 1),.sc (.slice none 0 0),.sc (.slice none 0 0),.sc (.slice none 0 0),.sc (.slice none 0 0),.sc (.slice none 0 0)]]]],.sl 1 [[.sl 6 [[.sc (.int .i64 0),.sl 11 [[.sc (.int .u32 0),.sc (.int .u32 4294967295),.sc (.int .u32 0),.sc (.int .u32 4294967295),.sc (.int .u32 0),.sc (.int .u32 255),.sc (.int .u32 0),.sc (.int .u32 65535),.sc (.int .u32 0),.sc (.int .u32 65535),.sc (.bool true)]],.sc (.slice none 0 0),.sc (.slice none 0 0),.sc (.slice none 0 0),.sc (.slice none 0 0)]]],[.sl 6 [[.sc (.int .i64 1),.sc (.slice none 0 0),.sl 11 [[.sc (.int .u32 0),.sc (.int .u32 4294967295),.sc (.int .u32 0),.sc (.int .u32 4294967295),.sc (.int .u32 0),.sc (.int .u32 255),.sc (.int .u32 0),.sc (.int .u32 65535),.sc (.int .u32 0),.sc (.int .u32 65535),.sc (.bool true)]],.sc (.slice none 0 0),.sc (.slice none 0 0),.sc (.slice none 0 0)]]]],.agg [.sc (.int .i64 0),.sl 11 [],.sl 11 [],.sl 20 [],.sl 13 [],.sl 11 []],.agg [.sc (.int .i64 1),.sl 11 [],.sl 11 [[.sc (.int .u32 0),.sc (.int .u32 4294967295),.sc (.int .u32 0),.sc (.int .u32 4294967295),.sc (.int .u32 0),.sc (.int .u32 255),.sc (.int .u32 0),.sc (.int .u32 65535),.sc (.int .u32 0),.sc (.int .u32 65535),.sc (.bool true)]],.sl 20 [],.sl 13 [],.sl 11 []]],.tup [.sc (.agg #[.int .i64 0,.slice none 0 0,.slice none 0 0,.int .i64 0,.int .i64 0,.int .u32 0,.int .u32 0,.int .u8 0,.int .u16 0,.int .u16 0,.string (ByteArray.mk #[])]),.sc (.bool false),.sc (.int .i64 0)]) :: T15
def T17:Tab:=(71,[.agg [.sl 5 [[.sc (.string (ByteArray.mk #[114])),.sc (.int .i64 100),.sc (.bool false),.sc (.bool false),.sc (.string (ByteArray.mk #[]))],[.sc (.string (ByteArray.mk #[115])),.sc (.int .i64 100),.sc (.bool false),.sc (.bool false),.sc (.string (ByteArray.mk #[]))]],.sl 3 [[.sc (.int .i64 0),.sc (.int .i64 1),.sc (.int .i64 1)]],.sl 6 [[.sc (.string (ByteArray.mk #[97])),.sc (.int .i64 0),.sc (.string (ByteArray.mk #[122])),.sc (.int .u32 167772160),.sc (.int .i64 24),.sc (.bool false)],[.sc (.string (ByteArray.mk #[98])),.sc (.int .i64 1),.sc (.string (ByteArray.mk #[122])),.sc (.int .u32 167772416),.sc (.int .i64 24),.sc (.bool false)]],.sc (.slice none 0 0),.sc (.int .i64 0)],.agg [.sc (.int .i64 1),.sl 11 [],.sl 11 [[.sc (.int .u32 0),.sc (.int .u32 4294967295),.sc (.int .u32 0),.sc (.int .u32 4294967295),.sc (.int .u32 0),.sc (.int .u32 255),.sc (.int .u32 0),.sc (.int .u32 65535),.sc (.int .u32 0),.sc (.int .u32 65535),.sc (.bool true)]],.sl 20 [],.sl 13 [],.sl 11 []],.agg [.sc (.int .i64 0),.sl 11 [],.sl 11 [],.sl 20 [],.sl 13 [],.sl 11 []]],.tup [.sc (.slice none 0 0),.sc (.int .i64 0)]) :: T16
def T18:Tab:=(55,[.agg [.sl 5 [[.sc (.string (ByteArray.mk #[114])),.sc (.int .i64 100),.sc (.bool false),.sc (.bool false),.sc (.string (ByteArray.mk #[]))],[.sc (.string (ByteArray.mk #[115])),.sc (.int .i64 100),.sc (.bool false),.sc (.bool false),.sc (.string (ByteArray.mk #[]))]],.sl 3 [[.sc (.int .i64 0),.sc (.int .i64 1),.sc (.int .i64 1)]],.sl 6 [[.sc (.string (ByteArray.mk #[97])),.sc (.int .i64 0),.sc (.string (ByteArray.mk #[122])),.sc (.int .u32 167772160),.sc (.int .i64 24),.sc (.bool false)],[.sc (.string (ByteArray.mk #[98])),.sc (.int .i64 1),.sc (.string (ByteArray.mk #[122])),.sc (.int .u32 167772416),.sc (.int .i64 24),.sc (.bool false)]],.sc (.slice none 0 0),.sc (.int .i64 0)],.sl 1 [[.sl 6 [[.sc (.int .i64 0),.sc (.slice none 0 0),.sc (.slice none 0 0),.sc (.slice none 0 0),.sc (.slice none 0 0),.sc (.slice none 0 0)]]],[.sl 6 [[.sc (.int .i64 1),.sc (.slice none 0 0),.sc (.slice none 0 0),.sc (.slice none 0 0),.sc (.slice none 0 0),.sc (.slice none 0 0)]]]],.sl 1 [[.sl 6 [[.sc (.int .i64 0),.sl 11 [[.sc (.int .u32 0),.sc (.int .u32 4294967295),.sc (.int .u32 0),.sc (.int .u32 4294967295),.sc (.int .u32 0),.sc (.int .u32 255),.sc (.int .u32 0),.sc (.int .u32 65535),.sc (.int .u32 0),.sc (.int .u32 65535),.sc (.bool true)]],.sc (.slice none 0 0),.sc (.slice none 0 0),.sc (.slice none 0 0),.sc (.slice none 0 0)]]],[.sl 6 [[.sc (.int .i64 1),.sc (.slice none 0 0),.sl 11 [[.sc (.int .u32 0),.sc (.int .u32 4294967295),.sc (.int .u32 0),.sc (.int .u32 4294967295),.sc (.int .u32 0),.sc (.int .u32 255),.sc (.int .u32 0),.sc (.int .u32 65535),.sc (.int .u32 0),.sc (.int .u32 65535),.sc (.bool true)]],.sc (.slice none 0 0),.sc (.slice none 0 0),.sc (.slice none 0 0)]]]],.agg [.sc (.int .i64 1),.sl 11 [],.sl 11 [[.sc (.int .u32 0),.sc (.int .u32 4294967295),.sc (.int .u32 0),.sc (.int .u32 4294967295),.sc (.int .u32 0),.sc (.int .u32 255),.sc (.int .u32 0),.sc (.int .u32 65535),.sc (.int .u32 0),.sc (.int .u32 65535),.sc (.bool true)]],.sl 20 [],.sl 13 [],.sl 11 []],.agg [.sc (.int .i64 0),.sl 11 [],.sl 11 [],.sl 20 [],.sl 13 [],.sl 11 []]],.tup [.sc (.agg #[.int .i64 0,.slice none 0 0,.slice none 0 0,.int .i64 0,.int .i64 0,.int .u32 0,.int .u32 0,.int .u8 0,.int .u16 0,.int .u16 0,.string (ByteArray.mk #[])]),.sc (.bool false),.sc (.int .i64 0)]) :: T17
def T19:Tab:=(44,[.agg [.sl 5 [[.sc (.string (ByteArray.mk #[114])),.sc (.int .i64 100),.sc (.bool false),.sc (.bool false),.sc (.string (ByteArray.mk #[]))],[.sc (.string (ByteArray.mk #[115])),.sc (.int .i64 100),.sc (.bool false),.sc (.bool false),.sc (.string (ByteArray.mk #[]))]],.sl 3 [[.sc (.int .i64 0),.sc (.int .i64 1),.sc (.int .i64 1)]],.sl 6 [[.sc (.string (ByteArray.mk #[97])),.sc (.int .i64 0),.sc (.string (ByteArray.mk #[122])),.sc (.int .u32 167772160),.sc (.int .i64 24),.sc (.bool false)],[.sc (.string (ByteArray.mk #[98])),.sc (.int .i64 1),.sc (.string (ByteArray.mk #[122])),.sc (.int .u32 167772416),.sc (.int .i64 24),.sc (.bool false)]],.sc (.slice none 0 0),.sc (.int .i64 0)],.sl 1 [[.sl 6 [[.sc (.int .i64 0),.sc (.slice none 0 0),.sc (.slice none 0 0),.sc (.slice none 0 0),.sc (.slice none 0 0),.sc (.slice none 0 0)]]],[.sl 6 [[.sc (.int .i64 1),.sc (.slice none 0 0),.sc (.slice none 0 0),.sc (.slice none 0 0),.sc (.slice none 0 0),.sc (.slice none 0 0)]]]],.sl 1 [[.sl 6 [[.sc (.int .i64 0),.sl 11 [[.sc (.int .u32 0),.sc (.int .u32 4294967295),.sc (.int .u32 0),.sc (.int .u32 4294967295),.sc (.int .u32 0),.sc (.int .u32 255),.sc (.int .u32 0),.sc (.int .u32 65535),.sc (.int .u32 0),.sc (.int .u32 65535),.sc (.bool true)]],.sc (.slice none 0 0),.sc (.slice none 0 0),.sc (.slice none 0 0),.sc (.slice none 0 0)]]],[.sl 6 [[.sc (.int .i64 1),.sc (.slice none 0 0),.sl 11 [[.sc (.int .u32 0),.sc (.int .u32 4294967295),.sc (.int .u32 0),.sc (.int .u32 4294967295),.sc (.int .u32 0),.sc (.int .u32 255),.sc (.int .u32 0),.sc (.int .u32 65535),.sc (.int .u32 0),.sc (.int .u32 65535),.sc (.bool true)]],.sc (.slice none 0 0),.sc (.slice none 0 0),.sc (.slice none 0 0)]]]],.sc (.int .i64 1),.sc (.int .i64 0)],.tup [.sc (.bool false),.sc (.int .i64 0)]) :: T18
def T20:Tab:=(55,[.agg [.sl 5 [[.sc (.string (ByteArray.mk #[114])),.sc (.int .i64 100),.sc (.bool false),.sc (.bool false),.sc (.string (ByteArray.mk #[]))],[.sc (.string (ByteArray.mk #[115])),.sc (.int .i64 100),.sc (.bool false),.sc (.bool false),.sc (.string (ByteArray.mk #[]))]],.sl 3 [[.sc (.int .i64 0),.sc (.int .i64 1),.sc (.int .i64 1)]],.sl 6 [[.sc (.string (ByteArray.mk #[97])),.sc (.int .i64 0),.sc (.string (ByteArray.mk #[122])),.sc (.int .u32 167772160),.sc (.int .i64 24),.sc (.bool false)],[.sc (.string (ByteArray.mk #[98])),.sc (.int .i64 1),.sc (.string (ByteArray.mk #[122])),.sc (.int .u32 167772416),.sc (.int .i64 24),.sc (.bool false)]],.sc (.slice none 0 0),.sc (.int .i64 0)],.sl 1 [[.sl 6 [[.sc (.int .i64 0),.sc (.slice none 0 0),.sc (.slice none 0 0),.sc (.slice none 0 0),.sc (.slice none 0 0),.sc (.slice none 0 0)]]],[.sl 6 [[.sc (.int .i64 1),.sc (.slice none 0 0),.sc (.slice none 0 0),.sc (.slice none 0 0),.sc (.slice none 0 0),.sc (.slice none 0 0)]]]],.sl 1 [[.sl 6 [[.sc (.int .i64 0),.sl 11 [[.sc (.int .u32 0),.sc (.int .u32 4294967295),.sc (.int .u32 0),.sc (.int .u32 4294967295),.sc (.int .u32 0),.sc (.int .u32 255),.sc (.int .u32 0),.sc (.int .u32 65535),.sc (.int .u32 0),.sc (.int .u32 65535),.sc (.bool true)]],.sc (.slice none 0 0),.sc (.slice none 0 0),.sc (.slice none 0 0),.sc (.slice none 0 0)]]],[.sl 6 [[.sc (.int .i64 1),.sc (.slice none 0 0),.sl 11 [[.sc (.int .u32 0),.sc (.int .u32 4294967295),.sc (.int .u32 0),.sc (.int .u32 4294967295),.sc (.int .u32 0),.sc (.int .u32 255),.sc (.int .u32 0),.sc (.int .u32 65535),.sc (.int .u32 0),.sc (.int .u32 65535),.sc (.bool true)]],.sc (.slice none 0 0),.sc (.slice none 0 0),.sc (.slice none 0 0)]]]],.agg [.sc (.int .i64 0),.sl 11 [],.sl 11 [],.sl 20 [],.sl 13 [],.sl 11 []],.agg [.sc (.int .i64 1),.sl 11 [],.sl 11 [],.sl 20 [],.sl 13 [],.sl 11 []]],.tup [.sc (.agg #[.int .i64 0,.slice none 0 0,.slice none 0 0,.int .i64 0,.int .i64 0,.int .u32 0,.int .u32 0,.int .u8 0,.int .u16 0,.int .u16 0,.string (ByteArray.mk #[])]),.sc (.bool false),.sc (.int .i64 0)]) :: T19
def T21:Tab:=(132,[.sc (.agg #[.int .u32 167772160,.int .u32 167772415,.int .u32 167772416,.int .u32 167772671,.int .u32 0,.int .u32 0,.int .u32 0,.int .u32 0,.int .u32 0,.int .u32 0]),.sc (.agg #[.int .u32 167772160,.int .u32 167772415,.int .u32 167772416,.int .u32 167772671,.int .u32 0,.int .u32 0,.int .u32 0,.int .u32 0,.int .u32 0,.int .u32 0])],.tup [.sc (.agg #[.int .u32 167772160,.int .u32 167772415,.int .u32 167772416,.int .u32 167772671,.int .u32 0,.int .u32 0,.int .u32 0,.int .u32 0,.int .u32 0,.int .u32 0]),.sc (.bool true)]) :: T20
def T22:Tab:=(132,[.sc (.agg #[.int .u32 167772160,.int .u32 167772415,.int .u32 167772416,.int .u32 167772671,.int .u32 0,.int .u32 0,.int .u32 0,.int .u32 0,.int .u32 0,.int .u32 0]),.sc (.agg #[.int .u32 167772160,.int .u32 167772415,.int .u32 167772416,.int .u32 167772671,.int .u32 1,.int .u32 1,.int .u32 0,.int .u32 7,.int .u32 8,.int .u32 8])],.tup [.sc (.agg #[.int .u32 0,.int .u32 0,.int .u32 0,.int .u32 0,.int .u32 0,.int .u32 0,.int .u32 0,.int .u32 0,.int .u32 0,.int .u32 0]),.sc (.bool false)]) :: T21
def T23:Tab:=(132,[.sc (.agg #[.int .u32 167772160,.int .u32 167772415,.int .u32 167772416,.int .u32 167772671,.int .u32 0,.int .u32 0,.int .u32 0,.int .u32 0,.int .u32 0,.int .u32 0]),.sc (.agg #[.int .u32 167772160,.int .u32 167772415,.int .u32 167772416,.int .u32 167772671,.int .u32 1,.int .u32 1,.int .u32 9,.int .u32 65535,.int .u32 8,.int .u32 8])],.tup [.sc (.agg #[.int .u32 0,.int .u32 0,.int .u32 0,.int .u32 0,.int .u32 0,.int .u32 0,.int .u32 0,.int .u32 0,.int .u32 0,.int .u32 0]),.sc (.bool false)]) :: T22
def T24:Tab:=(132,[.sc (.agg #[.int .u32 167772160,.int .u32 167772415,.int .u32 167772416,.int .u32 167772671,.int .u32 0,.int .u32 0,.int .u32 0,.int .u32 0,.int .u32 0,.int .u32 0]),.sc (.agg #[.int .u32 167772160,.int .u32 167772415,.int .u32 167772416,.int .u32 167772671,.int .u32 2,.int .u32 5,.int .u32 0,.int .u32 0,.int .u32 0,.int .u32 0])],.tup [.sc (.agg #[.int .u32 0,.int .u32 0,.int .u32 0,.int .u32 0,.int .u32 0,.int .u32 0,.int .u32 0,.int .u32 0,.int .u32 0,.int .u32 0]),.sc (.bool false)]) :: T23
def T25:Tab:=(132,[.sc (.agg #[.int .u32 167772160,.int .u32 167772415,.int .u32 167772416,.int .u32 167772671,.int .u32 0,.int .u32 0,.int .u32 0,.int .u32 0,.int .u32 0,.int .u32 0]),.sc (.agg #[.int .u32 167772160,.int .u32 167772415,.int .u32 167772416,.int .u32 167772671,.int .u32 6,.int .u32 6,.int .u32 0,.int .u32 65535,.int .u32 0,.int .u32 65535])],.tup [.sc (.agg #[.int .u32 0,.int .u32 0,.int .u32 0,.int .u32 0,.int .u32 0,.int .u32 0,.int .u32 0,.int .u32 0,.int .u32 0,.int .u32 0]),.sc (.bool false)]) :: T24
def T26:Tab:=(132,[.sc (.agg #[.int .u32 167772160,.int .u32 167772415,.int .u32 167772416,.int .u32 167772671,.int .u32 0,.int .u32 0,.int .u32 0,.int .u32 0,.int .u32 0,.int .u32 0]),.sc (.agg #[.int .u32 167772160,.int .u32 167772415,.int .u32 167772416,.int .u32 167772671,.int .u32 7,.int .u32 16,.int .u32 0,.int .u32 0,.int .u32 0,.int .u32 0])],.tup [.sc (.agg #[.int .u32 0,.int .u32 0,.int .u32 0,.int .u32 0,.int .u32 0,.int .u32 0,.int .u32 0,.int .u32 0,.int .u32 0,.int .u32 0]),.sc (.bool false)]) :: T25
def T27:Tab:=(132,[.sc (.agg #[.int .u32 167772160,.int .u32 167772415,.int .u32 167772416,.int .u32 167772671,.int .u32 0,.int .u32 0,.int .u32 0,.int .u32 0,.int .u32 0,.int .u32 0]),.sc (.agg #[.int .u32 167772160,.int .u32 167772415,.int .u32 167772416,.int .u32 167772671,.int .u32 17,.int .u32 17,.int .u32 0,.int .u32 65535,.int .u32 0,.int .u32 65535])],.tup [.sc (.agg #[.int .u32 0,.int .u32 0,.int .u32 0,.int .u32 0,.int .u32 0,.int .u32 0,.int .u32 0,.int .u32 0,.int .u32 0,.int .u32 0]),.sc (.bool false)]) :: T26
def T28:Tab:=(132,[.sc (.agg #[.int .u32 167772160,.int .u32 167772415,.int .u32 167772416,.int .u32 167772671,.int .u32 0,.int .u32 0,.int .u32 0,.int .u32 0,.int .u32 0,.int .u32 0]),.sc (.agg #[.int .u32 167772160,.int .u32 167772415,.int .u32 167772416,.int .u32 167772671,.int .u32 18,.int .u32 255,.int .u32 0,.int .u32 0,.int .u32 0,.int .u32 0])],.tup [.sc (.agg #[.int .u32 0,.int .u32 0,.int .u32 0,.int .u32 0,.int .u32 0,.int .u32 0,.int .u32 0,.int .u32 0,.int .u32 0,.int .u32 0]),.sc (.bool false)]) :: T27
def T29:Tab:=(132,[.sc (.agg #[.int .u32 167772160,.int .u32 167772415,.int .u32 167772416,.int .u32 167772671,.int .u32 1,.int .u32 1,.int .u32 0,.int .u32 7,.int .u32 8,.int .u32 8]),.sc (.agg #[.int .u32 167772160,.int .u32 167772415,.int .u32 167772416,.int .u32 167772671,.int .u32 0,.int .u32 0,.int .u32 0,.int .u32 0,.int .u32 0,.int .u32 0])],.tup [.sc (.agg #[.int .u32 0,.int .u32 0,.int .u32 0,.int .u32 0,.int .u32 0,.int .u32 0,.int .u32 0,.int .u32 0,.int .u32 0,.int .u32 0]),.sc (.bool false)]) :: T28
def T30:Tab:=(132,[.sc (.agg #[.int .u32 167772160,.int .u32 167772415,.int .u32 167772416,.int .u32 167772671,.int .u32 1,.int .u32 1,.int .u32 0,.int .u32 7,.int .u32 8,.int .u32 8]),.sc (.agg #[.int .u32 167772160,.int .u32 167772415,.int .u32 167772416,.int .u32 167772671,.int .u32 1,.int .u32 1,.int .u32 0,.int .u32 7,.int .u32 8,.int .u32 8])],.tup [.sc (.agg #[.int .u32 167772160,.int .u32 167772415,.int .u32 167772416,.int .u32 167772671,.int .u32 1,.int .u32 1,.int .u32 0,.int .u32 7,.int .u32 8,.int .u32 8]),.sc (.bool true)]) :: T29
def T31:Tab:=(132,[.sc (.agg #[.int .u32 167772160,.int .u32 167772415,.int .u32 167772416,.int .u32 167772671,.int .u32 1,.int .u32 1,.int .u32 0,.int .u32 7,.int .u32 8,.int .u32 8]),.sc (.agg #[.int .u32 167772160,.int .u32 167772415,.int .u32 167772416,.int .u32 167772671,.int .u32 1,.int .u32 1,.int .u32 9,.int .u32 65535,.int .u32 8,.int .u32 8])],.tup [.sc (.agg #[.int .u32 0,.int .u32 0,.int .u32 0,.int .u32 0,.int .u32 0,.int .u32 0,.int .u32 0,.int .u32 0,.int .u32 0,.int .u32 0]),.sc (.bool false)]) :: T30
def T32:Tab:=(132,[.sc (.agg #[.int .u32 167772160,.int .u32 167772415,.int .u32 167772416,.int .u32 167772671,.int .u32 1,.int .u32 1,.int .u32 0,.int .u32 7,.int .u32 8,.int .u32 8]),.sc (.agg #[.int .u32 167772160,.int .u32 167772415,.int .u32 167772416,.int .u32 167772671,.int .u32 2,.int .u32 5,.int .u32 0,.int .u32 0,.int .u32 0,.int .u32 0])],.tup [.sc (.agg #[.int .u32 0,.int .u32 0,.int .u32 0,.int .u32 0,.int .u32 0,.int .u32 0,.int .u32 0,.int .u32 0,.int .u32 0,.int .u32 0]),.sc (.bool false)]) :: T31
def T33:Tab:=(132,[.sc (.agg #[.int .u32 167772160,.int .u32 167772415,.int .u32 167772416,.int .u32 167772671,.int .u32 1,.int .u32 1,.int .u32 0,.int .u32 7,.int .u32 8,.int .u32 8]),.sc (.agg #[.int .u32 167772160,.int .u32 167772415,.int .u32 167772416,.int .u32 167772671,.int .u32 6,.int .u32 6,.int .u32 0,.int .u32 65535,.int .u32 0,.int .u32 65535])],.tup [.sc (.agg #[.int .u32 0,.int .u32 0,.int .u32 0,.int .u32 0,.int .u32 0,.int .u32 0,.int .u32 0,.int .u32 0,.int .u32 0,.int .u32 0]),.sc (.bool false)]) :: T32
def T34:Tab:=(132,[.sc (.agg #[.int .u32 167772160,.int .u32 167772415,.int .u32 167772416,.int .u32 167772671,.int .u32 1,.int .u32 1,.int .u32 0,.int .u32 7,.int .u32 8,.int .u32 8]),.sc (.agg #[.int .u32 167772160,.int .u32 167772415,.int .u32 167772416,.int .u32 167772671,.int .u32 7,.int .u32 16,.int .u32 0,.int .u32 0,.int .u32 0,.int .u32 0])],.tup [.sc (.agg #[.int .u32 0,.int .u32 0,.int .u32 0,.int .u32 0,.int .u32 0,.int .u32 0,.int .u32 0,.int .u32 0,.int .u32 0,.int .u32 0]),.sc (.bool false)]) :: T33
def T35:Tab:=(132,[.sc (.agg #[.int .u32 167772160,.int .u32 167772415,.int .u32 167772416,.int .u32 167772671,.int .u32 1,.int .u32 1,.int .u32 0,.int .u32 7,.int .u32 8,.int .u32 8]),.sc (.agg #[.int .u32 167772160,.int .u32 167772415,.int .u32 167772416,.int .u32 167772671,.int .u32 17,.int .u32 17,.int .u32 0,.int .u32 65535,.int .u32 0,.int .u32 65535])],.tup [.sc (.agg #[.int .u32 0,.int .u32 0,.int .u32 0,.int .u32 0,.int .u32 0,.int .u32 0,.int .u32 0,.int .u32 0,.int .u32 0,.int .u32 0]),.sc (.bool false)]) :: T34
def T36:Tab:=(132,[.sc (.agg #[.int .u32 167772160,.int .u32 167772415,.int .u32 167772416,.int .u32 167772671,.int .u32 1,.int .u32 1,.int .u32 0,.int .u32 7,.int .u32 8,.int .u32 8]),.sc (.agg #[.int .u32 167772160,.int .u32 167772415,.int .u32 167772416,.int .u32 167772671,.int .u32 18,.int .u32 255,.int .u32 0,.int .u32 0,.int .u32 0,.int .u32 0])],.tup [.sc (.agg #[.int .u32 0,.int .u32 0,.int .u32 0,.int .u32 0,.int .u32 0,.int .u32 0,.int .u32 0,.int .u32 0,.int .u32 0,.int .u32 0]),.sc (.bool false)]) :: T35
def T37:Tab:=(132,[.sc (.agg #[.int .u32 167772160,.int .u32 167772415,.int .u32 167772416,.int .u32 167772671,.int .u32 1,.int .u32 1,.int .u32 9,.int .u32 65535,.int .u32 8,.int .u32 8]),.sc (.agg #[.int .u32 167772160,.int .u32 167772415,.int .u32 167772416,.int .u32 167772671,.int .u32 0,.int .u32 0,.int .u32 0,.int .u32 0,.int .u32 0,.int .u32 0])],.tup [.sc (.agg #[.int .u32 0,.int .u32 0,.int .u32 0,.int .u32 0,.int .u32 0,.int .u32 0,.int .u32 0,.int .u32 0,.int .u32 0,.int .u32 0]),.sc (.bool false)]) :: T36
def T38:Tab:=(132,[.sc (.agg #[.int .u32 167772160,.int .u32 167772415,.int .u32 167772416,.int .u32 167772671,.int .u32 1,.int .u32 1,.int .u32 9,.int .u32 65535,.int .u32 8,.int .u32 8]),.sc (.agg #[.int .u32 167772160,.int .u32 167772415,.int .u32 167772416,.int .u32 167772671,.int .u32 1,.int .u32 1,.int .u32 0,.int .u32 7,.int .u32 8,.int .u32 8])],.tup [.sc (.agg #[.int .u32 0,.int .u32 0,.int .u32 0,.int .u32 0,.int .u32 0,.int .u32 0,.int .u32 0,.int .u32 0,.int .u32 0,.int .u32 0]),.sc (.bool false)]) :: T37
def T39:Tab:=(132,[.sc (.agg #[.int .u32 167772160,.int .u32 167772415,.int .u32 167772416,.int .u32 167772671,.int .u32 1,.int .u32 1,.int .u32 9,.int .u32 65535,.int .u32 8,.int .u32 8]),.sc (.agg #[.int .u32 167772160,.int .u32 167772415,.int .u32 167772416,.int .u32 167772671,.int .u32 1,.int .u32 1,.int .u32 9,.int .u32 65535,.int .u32 8,.int .u32 8])],.tup [.sc (.agg #[.int .u32 167772160,.int .u32 167772415,.int .u32 167772416,.int .u32 167772671,.int .u32 1,.int .u32 1,.int .u32 9,.int .u32 65535,.int .u32 8,.int .u32 8]),.sc (.bool true)]) :: T38
def T40:Tab:=(132,[.sc (.agg #[.int .u32 167772160,.int .u32 167772415,.int .u32 167772416,.int .u32 167772671,.int .u32 1,.int .u32 1,.int .u32 9,.int .u32 65535,.int .u32 8,.int .u32 8]),.sc (.agg #[.int .u32 167772160,.int .u32 167772415,.int .u32 167772416,.int .u32 167772671,.int .u32 2,.int .u32 5,.int .u32 0,.int .u32 0,.int .u32 0,.int .u32 0])],.tup [.sc (.agg #[.int .u32 0,.int .u32 0,.int .u32 0,.int .u32 0,.int .u32 0,.int .u32 0,.int .u32 0,.int .u32 0,.int .u32 0,.int .u32 0]),.sc (.bool false)]) :: T39
def T41:Tab:=(132,[.sc (.agg #[.int .u32 167772160,.int .u32 167772415,.int .u32 167772416,.int .u32 167772671,.int .u32 1,.int .u32 1,.int .u32 9,.int .u32 65535,.int .u32 8,.int .u32 8]),.sc (.agg #[.int .u32 167772160,.int .u32 167772415,.int .u32 167772416,.int .u32 167772671,.int .u32 6,.int .u32 6,.int .u32 0,.int .u32 65535,.int .u32 0,.int .u32 65535])],.tup [.sc (.agg #[.int .u32 0,.int .u32 0,.int .u32 0,.int .u32 0,.int .u32 0,.int .u32 0,.int .u32 0,.int .u32 0,.int .u32 0,.int .u32 0]),.sc (.bool false)]) :: T40
def T42:Tab:=(132,[.sc (.agg #[.int .u32 167772160,.int .u32 167772415,.int .u32 167772416,.int .u32 167772671,.int .u32 1,.int .u32 1,.int .u32 9,.int .u32 65535,.int .u32 8,.int .u32 8]),.sc (.agg #[.int .u32 167772160,.int .u32 167772415,.int .u32 167772416,.int .u32 167772671,.int .u32 7,.int .u32 16,.int .u32 0,.int .u32 0,.int .u32 0,.int .u32 0])],.tup [.sc (.agg #[.int .u32 0,.int .u32 0,.int .u32 0,.int .u32 0,.int .u32 0,.int .u32 0,.int .u32 0,.int .u32 0,.int .u32 0,.int .u32 0]),.sc (.bool false)]) :: T41
def T43:Tab:=(132,[.sc (.agg #[.int .u32 167772160,.int .u32 167772415,.int .u32 167772416,.int .u32 167772671,.int .u32 1,.int .u32 1,.int .u32 9,.int .u32 65535,.int .u32 8,.int .u32 8]),.sc (.agg #[.int .u32 167772160,.int .u32 167772415,.int .u32 167772416,.int .u32 167772671,.int .u32 17,.int .u32 17,.int .u32 0,.int .u32 65535,.int .u32 0,.int .u32 65535])],.tup [.sc (.agg #[.int .u32 0,.int .u32 0,.int .u32 0,.int .u32 0,.int .u32 0,.int .u32 0,.int .u32 0,.int .u32 0,.int .u32 0,.int .u32 0]),.sc (.bool false)]) :: T42
def T44:Tab:=(132,[.sc (.agg #[.int .u32 167772160,.int .u32 167772415,.int .u32 167772416,.int .u32 167772671,.int .u32 1,.int .u32 1,.int .u32 9,.int .u32 65535,.int .u32 8,.int .u32 8]),.sc (.agg #[.int .u32 167772160,.int .u32 167772415,.int .u32 167772416,.int .u32 167772671,.int .u32 18,.int .u32 255,.int .u32 0,.int .u32 0,.int .u32 0,.int .u32 0])],.tup [.sc (.agg #[.int .u32 0,.int .u32 0,.int .u32 0,.int .u32 0,.int .u32 0,.int .u32 0,.int .u32 0,.int .u32 0,.int .u32 0,.int .u32 0]),.sc (.bool false)]) :: T43
def T45:Tab:=(132,[.sc (.agg #[.int .u32 167772160,.int .u32 167772415,.int .u32 167772416,.int .u32 167772671,.int .u32 2,.int .u32 5,.int .u32 0,.int .u32 0,.int .u32 0,.int .u32 0]),.sc (.agg #[.int .u32 167772160,.int .u32 167772415,.int .u32 167772416,.int .u32 167772671,.int .u32 0,.int .u32 0,.int .u32 0,.int .u32 0,.int .u32 0,.int .u32 0])],.tup [.sc (.agg #[.int .u32 0,.int .u32 0,.int .u32 0,.int .u32 0,.int .u32 0,.int .u32 0,.int .u32 0,.int .u32 0,.int .u32 0,.int .u32 0]),.sc (.bool false)]) :: T44
def T46:Tab:=(132,[.sc (.agg #[.int .u32 167772160,.int .u32 167772415,.int .u32 167772416,.int .u32 167772671,.int .u32 2,.int .u32 5,.int .u32 0,.int .u32 0,.int .u32 0,.int .u32 0]),.sc (.agg #[.int .u32 167772160,.int .u32 167772415,.int .u32 167772416,.int .u32 167772671,.int .u32 1,.int .u32 1,.int .u32 0,.int .u32 7,.int .u32 8,.int .u32 8])],.tup [.sc (.agg #[.int .u32 0,.int .u32 0,.int .u32 0,.int .u32 0,.int .u32 0,.int .u32 0,.int .u32 0,.int .u32 0,.int .u32 0,.int .u32 0]),.sc (.bool false)]) :: T45
def T47:Tab:=(132,[.sc (.agg #[.int .u32 167772160,.int .u32 167772415,.int .u32 167772416,.int .u32 167772671,.int .u32 2,.int .u32 5,.int .u32 0,.int .u32 0,.int .u32 0,.int .u32 0]),.sc (.agg #[.int .u32 167772160,.int .u32 167772415,.int .u32 167772416,.int .u32 167772671,.int .u32 1,.int .u32 1,.int .u32 9,.int .u32 65535,.int .u32 8,.int .u32 8])],.tup [.sc (.agg #[.int .u32 0,.int .u32 0,.int .u32 0,.int .u32 0,.int .u32 0,.int .u32 0,.int .u32 0,.int .u32 0,.int .u32 0,.int .u32 0]),.sc (.bool false)]) :: T46
def T48:Tab:=(132,[.sc (.agg #[.int .u32 167772160,.int .u32 167772415,.int .u32 167772416,.int .u32 167772671,.int .u32 2,.int .u32 5,.int .u32 0,.int .u32 0,.int .u32 0,.int .u32 0]),.sc (.agg #[.int .u32 167772160,.int .u32 167772415,.int .u32 167772416,.int .u32 167772671,.int .u32 2,.int .u32 5,.int .u32 0,.int .u32 0,.int .u32 0,.int .u32 0])],.tup [.sc (.agg #[.int .u32 167772160,.int .u32 167772415,.int .u32 167772416,.int .u32 167772671,.int .u32 2,.int .u32 5,.int .u32 0,.int .u32 0,.int .u32 0,.int .u32 0]),.sc (.bool true)]) :: T47
def T49:Tab:=(132,[.sc (.agg #[.int .u32 167772160,.int .u32 167772415,.int .u32 167772416,.int .u32 167772671,.int .u32 2,.int .u32 5,.int .u32 0,.int .u32 0,.int .u32 0,.int .u32 0]),.sc (.agg #[.int .u32 167772160,.int .u32 167772415,.int .u32 167772416,.int .u32 167772671,.int .u32 6,.int .u32 6,.int .u32 0,.int .u32 65535,.int .u32 0,.int .u32 65535])],.tup [.sc (.agg #[.int .u32 0,.int .u32 0,.int .u32 0,.int .u32 0,.int .u32 0,.int .u32 0,.int .u32 0,.int .u32 0,.int .u32 0,.int .u32 0]),.sc (.bool false)]) :: T48
def T50:Tab:=(132,[.sc (.agg #[.int .u32 167772160,.int .u32 167772415,.int .u32 167772416,.int .u32 167772671,.int .u32 2,.int .u32 5,.int .u32 0,.int .u32 0,.int .u32 0,.int .u32 0]),.sc (.agg #[.int .u32 167772160,.int .u32 167772415,.int .u32 167772416,.int .u32 167772671,.int .u32 7,.int .u32 16,.int .u32 0,.int .u32 0,.int .u32 0,.int .u32 0])],.tup [.sc (.agg #[.int .u32 0,.int .u32 0,.int .u32 0,.int .u32 0,.int .u32 0,.int .u32 0,.int .u32 0,.int .u32 0,.int .u32 0,.int .u32 0]),.sc (.bool false)]) :: T49
def T51:Tab:=(132,[.sc (.agg #[.int .u32 167772160,.int .u32 167772415,.int .u32 167772416,.int .u32 167772671,.int .u32 2,.int .u32 5,.int .u32 0,.int .u32 0,.int .u32 0,.int .u32 0]),.sc (.agg #[.int .u32 167772160,.int .u32 167772415,.int .u32 167772416,.int .u32 167772671,.int .u32 17,.int .u32 17,.int .u32 0,.int .u32 65535,.int .u32 0,.int .u32 65535])],.tup [.sc (.agg #[.int .u32 0,.int .u32 0,.int .u32 0,.int .u32 0,.int .u32 0,.int .u32 0,.int .u32 0,.int .u32 0,.int .u32 0,.int .u32 0]),.sc (.bool false)]) :: T50
def T52:Tab:=(132,[.sc (.agg #[.int .u32 167772160,.int .u32 167772415,.int .u32 167772416,.int .u32 167772671,.int .u32 2,.int .u32 5,.int .u32 0,.int .u32 0,.int .u32 0,.int .u32 0]),.sc (.agg #[.int .u32 167772160,.int .u32 167772415,.int .u32 167772416,.int .u32 167772671,.int .u32 18,.int .u32 255,.int .u32 0,.int .u32 0,.int .u32 0,.int .u32 0])],.tup [.sc (.agg #[.int .u32 0,.int .u32 0,.int .u32 0,.int .u32 0,.int .u32 0,.int .u32 0,.int .u32 0,.int .u32 0,.int .u32 0,.int .u32 0]),.sc (.bool false)]) :: T51
def T53:Tab:=(132,[.sc (.agg #[.int .u32 167772160,.int .u32 167772415,.int .u32 167772416,.int .u32 167772671,.int .u32 6,.int .u32 6,.int .u32 0,.int .u32 65535,.int .u32 0,.int .u32 65535]),.sc (.agg #[.int .u32 167772160,.int .u32 167772415,.int .u32 167772416,.int .u32 167772671,.int .u32 0,.int .u32 0,.int .u32 0,.int .u32 0,.int .u32 0,.int .u32 0])],.tup [.sc (.agg #[.int .u32 0,.int .u32 0,.int .u32 0,.int .u32 0,.int .u32 0,.int .u32 0,.int .u32 0,.int .u32 0,.int .u32 0,.int .u32 0]),.sc (.bool false)]) :: T52
def T54:Tab:=(132,[.sc (.agg #[.int .u32 167772160,.int .u32 167772415,.int .u32 167772416,.int .u32 167772671,.int .u32 6,.int .u32 6,.int .u32 0,.int .u32 65535,.int .u32 0,.int .u32 65535]),.sc (.agg #[.int .u32 167772160,.int .u32 167772415,.int .u32 167772416,.int .u32 167772671,.int .u32 1,.int .u32 1,.int .u32 0,.int .u32 7,.int .u32 8,.int .u32 8])],.tup [.sc (.agg #[.int .u32 0,.int .u32 0,.int .u32 0,.int .u32 0,.int .u32 0,.int .u32 0,.int .u32 0,.int .u32 0,.int .u32 0,.int .u32 0]),.sc (.bool false)]) :: T53
def T55:Tab:=(132,[.sc (.agg #[.int .u32 167772160,.int .u32 167772415,.int .u32 167772416,.int .u32 167772671,.int .u32 6,.int .u32 6,.int .u32 0,.int .u32 65535,.int .u32 0,.int .u32 65535]),.sc (.agg #[.int .u32 167772160,.int .u32 167772415,.int .u32 167772416,.int .u32 167772671,.int .u32 1,.int .u32 1,.int .u32 9,.int .u32 65535,.int .u32 8,.int .u32 8])],.tup [.sc (.agg #[.int .u32 0,.int .u32 0,.int .u32 0,.int .u32 0,.int .u32 0,.int .u32 0,.int .u32 0,.int .u32 0,.int .u32 0,.int .u32 0]),.sc (.bool false)]) :: T54
def T56:Tab:=(132,[.sc (.agg #[.int .u32 167772160,.int .u32 167772415,.int .u32 167772416,.int .u32 167772671,.int .u32 6,.int .u32 6,.int .u32 0,.int .u32 65535,.int .u32 0,.int .u32 65535]),.sc (.agg #[.int .u32 167772160,.int .u32 167772415,.int .u32 167772416,.int .u32 167772671,.int .u32 2,.int .u32 5,.int .u32 0,.int .u32 0,.int .u32 0,.int .u32 0])],.tup [.sc (.agg #[.int .u32 0,.int .u32 0,.int .u32 0,.int .u32 0,.int .u32 0,.int .u32 0,.int .u32 0,.int .u32 0,.int .u32 0,.int .u32 0]),.sc (.bool false)]) :: T55
def T57:Tab:=(132,[.sc (.agg #[.int .u32 167772160,.int .u32 167772415,.int .u32 167772416,.int .u32 167772671,.int .u32 6,.int .u32 6,.int .u32 0,.int .u32 65535,.int .u32 0,.int .u32 65535]),.sc (.agg #[.int .u32 167772160,.int .u32 167772415,.int .u32 167772416,.int .u32 167772671,.int .u32 6,.int .u32 6,.int .u32 0,.int .u32 65535,.int .u32 0,.int .u32 65535])],.tup [.sc (.agg #[.int .u32 167772160,.int .u32 167772415,.int .u32 167772416,.int .u32 167772671,.int .u32 6,.int .u32 6,.int .u32 0,.int .u32 65535,.int .u32 0,.int .u32 65535]),.sc (.bool true)]) :: T56
def T58:Tab:=(132,[.sc (.agg #[.int .u32 167772160,.int .u32 167772415,.int .u32 167772416,.int .u32 167772671,.int .u32 6,.int .u32 6,.int .u32 0,.int .u32 65535,.int .u32 0,.int .u32 65535]),.sc (.agg #[.int .u32 167772160,.int .u32 167772415,.int .u32 167772416,.int .u32 167772671,.int .u32 7,.int .u32 16,.int .u32 0,.int .u32 0,.int .u32 0,.int .u32 0])],.tup [.sc (.agg #[.int .u32 0,.int .u32 0,.int .u32 0,.int .u32 0,.int .u32 0,.int .u32 0,.int .u32 0,.int .u32 0,.int .u32 0,.int .u32 0]),.sc (.bool false)]) :: T57
def T59:Tab:=(132,[.sc (.agg #[.int .u32 167772160,.int .u32 167772415,.int .u32 167772416,.int .u32 167772671,.int .u32 6,.int .u32 6,.int .u32 0,.int .u32 65535,.int .u32 0,.int .u32 65535]),.sc (.agg #[.int .u32 167772160,.int .u32 167772415,.int .u32 167772416,.int .u32 167772671,.int .u32 17,.int .u32 17,.int .u32 0,.int .u32 65535,.int .u32 0,.int .u32 65535])],.tup [.sc (.agg #[.int .u32 0,.int .u32 0,.int .u32 0,.int .u32 0,.int .u32 0,.int .u32 0,.int .u32 0,.int .u32 0,.int .u32 0,.int .u32 0]),.sc (.bool false)]) :: T58
def T60:Tab:=(132,[.sc (.agg #[.int .u32 167772160,.int .u32 167772415,.int .u32 167772416,.int .u32 167772671,.int .u32 6,.int .u32 6,.int .u32 0,.int .u32 65535,.int .u32 0,.int .u32 65535]),.sc (.agg #[.int .u32 167772160,.int .u32 167772415,.int .u32 167772416,.int .u32 167772671,.int .u32 18,.int .u32 255,.int .u32 0,.int .u32 0,.int .u32 0,.int .u32 0])],.tup [.sc (.agg #[.int .u32 0,.int .u32 0,.int .u32 0,.int .u32 0,.int .u32 0,.int .u32 0,.int .u32 0,.int .u32 0,.int .u32 0,.int .u32 0]),.sc (.bool false)]) :: T59
def T61:Tab:=(132,[.sc (.agg #[.int .u32 167772160,.int .u32 167772415,.int .u32 167772416,.int .u32 167772671,.int .u32 7,.int .u32 16,.int .u32 0,.int .u32 0,.int .u32 0,.int .u32 0]),.sc (.agg #[.int .u32 167772160,.int .u32 167772415,.int .u32 167772416,.int .u32 167772671,.int .u32 0,.int .u32 0,.int .u32 0,.int .u32 0,.int .u32 0,.int .u32 0])],.tup [.sc (.agg #[.int .u32 0,.int .u32 0,.int .u32 0,.int .u32 0,.int .u32 0,.int .u32 0,.int .u32 0,.int .u32 0,.int .u32 0,.int .u32 0]),.sc (.bool false)]) :: T60
def T62:Tab:=(132,[.sc (.agg #[.int .u32 167772160,.int .u32 167772415,.int .u32 167772416,.int .u32 167772671,.int .u32 7,.int .u32 16,.int .u32 0,.int .u32 0,.int .u32 0,.int .u32 0]),.sc (.agg #[.int .u32 167772160,.int .u32 167772415,.int .u32 167772416,.int .u32 167772671,.int .u32 1,.int .u32 1,.int .u32 0,.int .u32 7,.int .u32 8,.int .u32 8])],.tup [.sc (.agg #[.int .u32 0,.int .u32 0,.int .u32 0,.int .u32 0,.int .u32 0,.int .u32 0,.int .u32 0,.int .u32 0,.int .u32 0,.int .u32 0]),.sc (.bool false)]) :: T61
def T63:Tab:=(132,[.sc (.agg #[.int .u32 167772160,.int .u32 167772415,.int .u32 167772416,.int .u32 167772671,.int .u32 7,.int .u32 16,.int .u32 0,.int .u32 0,.int .u32 0,.int .u32 0]),.sc (.agg #[.int .u32 167772160,.int .u32 167772415,.int .u32 167772416,.int .u32 167772671,.int .u32 1,.int .u32 1,.int .u32 9,.int .u32 65535,.int .u32 8,.int .u32 8])],.tup [.sc (.agg #[.int .u32 0,.int .u32 0,.int .u32 0,.int .u32 0,.int .u32 0,.int .u32 0,.int .u32 0,.int .u32 0,.int .u32 0,.int .u32 0]),.sc (.bool false)]) :: T62
def T64:Tab:=(132,[.sc (.agg #[.int .u32 167772160,.int .u32 167772415,.int .u32 167772416,.int .u32 167772671,.int .u32 7,.int .u32 16,.int .u32 0,.int .u32 0,.int .u32 0,.int .u32 0]),.sc (.agg #[.int .u32 167772160,.int .u32 167772415,.int .u32 167772416,.int .u32 167772671,.int .u32 2,.int .u32 5,.int .u32 0,.int .u32 0,.int .u32 0,.int .u32 0])],.tup [.sc (.agg #[.int .u32 0,.int .u32 0,.int .u32 0,.int .u32 0,.int .u32 0,.int .u32 0,.int .u32 0,.int .u32 0,.int .u32 0,.int .u32 0]),.sc (.bool false)]) :: T63
def T65:Tab:=(132,[.sc (.agg #[.int .u32 167772160,.int .u32 167772415,.int .u32 167772416,.int .u32 167772671,.int .u32 7,.int .u32 16,.int .u32 0,.int .u32 0,.int .u32 0,.int .u32 0]),.sc (.agg #[.int .u32 167772160,.int .u32 167772415,.int .u32 167772416,.int .u32 167772671,.int .u32 6,.int .u32 6,.int .u32 0,.int .u32 65535,.int .u32 0,.int .u32 65535])],.tup [.sc (.agg #[.int .u32 0,.int .u32 0,.int .u32 0,.int .u32 0,.int .u32 0,.int .u32 0,.int .u32 0,.int .u32 0,.int .u32 0,.int .u32 0]),.sc (.bool false)]) :: T64
def T66:Tab:=(132,[.sc (.agg #[.int .u32 167772160,.int .u32 167772415,.int .u32 167772416,.int .u32 167772671,.int .u32 7,.int .u32 16,.int .u32 0,.int .u32 0,.int .u32 0,.int .u32 0]),.sc (.agg #[.int .u32 167772160,.int .u32 167772415,.int .u32 167772416,.int .u32 167772671,.int .u32 7,.int .u32 16,.int .u32 0,.int .u32 0,.int .u32 0,.int .u32 0])],.tup [.sc (.agg #[.int .u32 167772160,.int .u32 167772415,.int .u32 167772416,.int .u32 167772671,.int .u32 7,.int .u32 16,.int .u32 0,.int .u32 0,.int .u32 0,.int .u32 0]),.sc (.bool true)]) :: T65
def T67:Tab:=(132,[.sc (.agg #[.int .u32 167772160,.int .u32 167772415,.int .u32 167772416,.int .u32 167772671,.int .u32 7,.int .u32 16,.int .u32 0,.int .u32 0,.int .u32 0,.int .u32 0]),.sc (.agg #[.int .u32 167772160,.int .u32 167772415,.int .u32 167772416,.int .u32 167772671,.int .u32 17,.int .u32 17,.int .u32 0,.int .u32 65535,.int .u32 0,.int .u32 65535])],.tup [.sc (.agg #[.int .u32 0,.int .u32 0,.int .u32 0,.int .u32 0,.int .u32 0,.int .u32 0,.int .u32 0,.int .u32 0,.int .u32 0,.int .u32 0]),.sc (.bool false)]) :: T66
def T68:Tab:=(132,[.sc (.agg #[.int .u32 167772160,.int .u32 167772415,.int .u32 167772416,.int .u32 167772671,.int .u32 7,.int .u32 16,.int .u32 0,.int .u32 0,.int .u32 0,.int .u32 0]),.sc (.agg #[.int .u32 167772160,.int .u32 167772415,.int .u32 167772416,.int .u32 167772671,.int .u32 18,.int .u32 255,.int .u32 0,.int .u32 0,.int .u32 0,.int .u32 0])],.tup [.sc (.agg #[.int .u32 0,.int .u32 0,.int .u32 0,.int .u32 0,.int .u32 0,.int .u32 0,.int .u32 0,.int .u32 0,.int .u32 0,.int .u32 0]),.sc (.bool false)]) :: T67
def T69:Tab:=(132,[.sc (.agg #[.int .u32 167772160,.int .u32 167772415,.int .u32 167772416,.int .u32 167772671,.int .u32 17,.int .u32 17,.int .u32 0,.int .u32 65535,.int .u32 0,.int .u32 65535]),.sc (.agg #[.int .u32 167772160,.int .u32 167772415,.int .u32 167772416,.int .u32 167772671,.int .u32 0,.int .u32 0,.int .u32 0,.int .u32 0,.int .u32 0,.int .u32 0])],.tup [.sc (.agg #[.int .u32 0,.int .u32 0,.int .u32 0,.int .u32 0,.int .u32 0,.int .u32 0,.int .u32 0,.int .u32 0,.int .u32 0,.int .u32 0]),.sc (.bool false)]) :: T68
def T70:Tab:=(132,[.sc (.agg #[.int .u32 167772160,.int .u32 167772415,.int .u32 167772416,.int .u32 167772671,.int .u32 17,.int .u32 17,.int .u32 0,.int .u32 65535,.int .u32 0,.int .u32 65535]),.sc (.agg #[.int .u32 167772160,.int .u32 167772415,.int .u32 167772416,.int .u32 167772671,.int .u32 1,.int .u32 1,.int .u32 0,.int .u32 7,.int .u32 8,.int .u32 8])],.tup [.sc (.agg #[.int .u32 0,.int .u32 0,.int .u32 0,.int .u32 0,.int .u32 0,.int .u32 0,.int .u32 0,.int .u32 0,.int .u32 0,.int .u32 0]),.sc (.bool false)]) :: T69
def T71:Tab:=(132,[.sc (.agg #[.int .u32 167772160,.int .u32 167772415,.int .u32 167772416,.int .u32 167772671,.int .u32 17,.int .u32 17,.int .u32 0,.int .u32 65535,.int .u32 0,.int .u32 65535]),.sc (.agg #[.int .u32 167772160,.int .u32 167772415,.int .u32 167772416,.int .u32 167772671,.int .u32 1,.int .u32 1,.int .u32 9,.int .u32 65535,.int .u32 8,.int .u32 8])],.tup [.sc (.agg #[.int .u32 0,.int .u32 0,.int .u32 0,.int .u32 0,.int .u32 0,.int .u32 0,.int .u32 0,.int .u32 0,.int .u32 0,.int .u32 0]),.sc (.bool false)]) :: T70
def T72:Tab:=(132,[.sc (.agg #[.int .u32 167772160,.int .u32 167772415,.int .u32 167772416,.int .u32 167772671,.int .u32 17,.int .u32 17,.int .u32 0,.int .u32 65535,.int .u32 0,.int .u32 65535]),.sc (.agg #[.int .u32 167772160,.int .u32 167772415,.int .u32 167772416,.int .u32 167772671,.int .u32 2,.int .u32 5,.int .u32 0,.int .u32 0,.int .u32 0,.int .u32 0])],.tup [.sc (.agg #[.int .u32 0,.int .u32 0,.int .u32 0,.int .u32 0,.int .u32 0,.int .u32 0,.int .u32 0,.int .u32 0,.int .u32 0,.int .u32 0]),.sc (.bool false)]) :: T71
def T73:Tab:=(132,[.sc (.agg #[.int .u32 167772160,.int .u32 167772415,.int .u32 167772416,.int .u32 167772671,.int .u32 17,.int .u32 17,.int .u32 0,.int .u32 65535,.int .u32 0,.int .u32 65535]),.sc (.agg #[.int .u32 167772160,.int .u32 167772415,.int .u32 167772416,.int .u32 167772671,.int .u32 6,.int .u32 6,.int .u32 0,.int .u32 65535,.int .u32 0,.int .u32 65535])],.tup [.sc (.agg #[.int .u32 0,.int .u32 0,.int .u32 0,.int .u32 0,.int .u32 0,.int .u32 0,.int .u32 0,.int .u32 0,.int .u32 0,.int .u32 0]),.sc (.bool false)]) :: T72
def T74:Tab:=(132,[.sc (.agg #[.int .u32 167772160,.int .u32 167772415,.int .u32 167772416,.int .u32 167772671,.int .u32 17,.int .u32 17,.int .u32 0,.int .u32 65535,.int .u32 0,.int .u32 65535]),.sc (.agg #[.int .u32 167772160,.int .u32 167772415,.int .u32 167772416,.int .u32 167772671,.int .u32 7,.int .u32 16,.int .u32 0,.int .u32 0,.int .u32 0,.int .u32 0])],.tup [.sc (.agg #[.int .u32 0,.int .u32 0,.int .u32 0,.int .u32 0,.int .u32 0,.int .u32 0,.int .u32 0,.int .u32 0,.int .u32 0,.int .u32 0]),.sc (.bool false)]) :: T73
def T75:Tab:=(132,[.sc (.agg #[.int .u32 167772160,.int .u32 167772415,.int .u32 167772416,.int .u32 167772671,.int .u32 17,.int .u32 17,.int .u32 0,.int .u32 65535,.int .u32 0,.int .u32 65535]),.sc (.agg #[.int .u32 167772160,.int .u32 167772415,.int .u32 167772416,.int .u32 167772671,.int .u32 17,.int .u32 17,.int .u32 0,.int .u32 65535,.int .u32 0,.int .u32 65535])],.tup [.sc (.agg #[.int .u32 167772160,.int .u32 167772415,.int .u32 167772416,.int .u32 167772671,.int .u32 17,.int .u32 17,.int .u32 0,.int .u32 65535,.int .u32 0,.int .u32 65535]),.sc (.bool true)]) :: T74
def T76:Tab:=(132,[.sc (.agg #[.int .u32 167772160,.int .u32 167772415,.int .u32 167772416,.int .u32 167772671,.int .u32 17,.int .u32 17,.int .u32 0,.int .u32 65535,.int .u32 0,.int .u32 65535]),.sc (.agg #[.int .u32 167772160,.int .u32 167772415,.int .u32 167772416,.int .u32 167772671,.int .u32 18,.int .u32 255,.int .u32 0,.int .u32 0,.int .u32 0,.int .u32 0])],.tup [.sc (.agg #[.int .u32 0,.int .u32 0,.int .u32 0,.int .u32 0,.int .u32 0,.int .u32 0,.int .u32 0,.int .u32 0,.int .u32 0,.int .u32 0]),.sc (.bool false)]) :: T75
def T77:Tab:=(132,[.sc (.agg #[.int .u32 167772160,.int .u32 167772415,.int .u32 167772416,.int .u32 167772671,.int .u32 18,.int .u32 255,.int .u32 0,.int .u32 0,.int .u32 0,.int .u32 0]),.sc (.agg #[.int .u32 167772160,.int .u32 167772415,.int .u32 167772416,.int .u32 167772671,.int .u32 0,.int .u32 0,.int .u32 0,.int .u32 0,.int .u32 0,.int .u32 0])],.tup [.sc (.agg #[.int .u32 0,.int .u32 0,.int .u32 0,.int .u32 0,.int .u32 0,.int .u32 0,.int .u32 0,.int .u32 0,.int .u32 0,.int .u32 0]),.sc (.bool false)]) :: T76
def T78:Tab:=(132,[.sc (.agg #[.int .u32 167772160,.int .u32 167772415,.int .u32 167772416,.int .u32 167772671,.int .u32 18,.int .u32 255,.int .u32 0,.int .u32 0,.int .u32 0,.int .u32 0]),.sc (.agg #[.int .u32 167772160,.int .u32 167772415,.int .u32 167772416,.int .u32 167772671,.int .u32 1,.int .u32 1,.int .u32 0,.int .u32 7,.int .u32 8,.int .u32 8])],.tup [.sc (.agg #[.int .u32 0,.int .u32 0,.int .u32 0,.int .u32 0,.int .u32 0,.int .u32 0,.int .u32 0,.int .u32 0,.int .u32 0,.int .u32 0]),.sc (.bool false)]) :: T77
def T79:Tab:=(132,[.sc (.agg #[.int .u32 167772160,.int .u32 167772415,.int .u32 167772416,.int .u32 167772671,.int .u32 18,.int .u32 255,.int .u32 0,.int .u32 0,.int .u32 0,.int .u32 0]),.sc (.agg #[.int .u32 167772160,.int .u32 167772415,.int .u32 167772416,.int .u32 167772671,.int .u32 1,.int .u32 1,.int .u32 9,.int .u32 65535,.int .u32 8,.int .u32 8])],.tup [.sc (.agg #[.int .u32 0,.int .u32 0,.int .u32 0,.int .u32 0,.int .u32 0,.int .u32 0,.int .u32 0,.int .u32 0,.int .u32 0,.int .u32 0]),.sc (.bool false)]) :: T78
def T80:Tab:=(132,[.sc (.agg #[.int .u32 167772160,.int .u32 167772415,.int .u32 167772416,.int .u32 167772671,.int .u32 18,.int .u32 255,.int .u32 0,.int .u32 0,.int .u32 0,.int .u32 0]),.sc (.agg #[.int .u32 167772160,.int .u32 167772415,.int .u32 167772416,.int .u32 167772671,.int .u32 2,.int .u32 5,.int .u32 0,.int .u32 0,.int .u32 0,.int .u32 0])],.tup [.sc (.agg #[.int .u32 0,.int .u32 0,.int .u32 0,.int .u32 0,.int .u32 0,.int .u32 0,.int .u32 0,.int .u32 0,.int .u32 0,.int .u32 0]),.sc (.bool false)]) :: T79
def T81:Tab:=(132,[.sc (.agg #[.int .u32 167772160,.int .u32 167772415,.int .u32 167772416,.int .u32 167772671,.int .u32 18,.int .u32 255,.int .u32 0,.int .u32 0,.int .u32 0,.int .u32 0]),.sc (.agg #[.int .u32 167772160,.int .u32 167772415,.int .u32 167772416,.int .u32 167772671,.int .u32 6,.int .u32 6,.int .u32 0,.int .u32 65535,.int .u32 0,.int .u32 65535])],.tup [.sc (.agg #[.int .u32 0,.int .u32 0,.int .u32 0,.int .u32 0,.int .u32 0,.int .u32 0,.int .u32 0,.int .u32 0,.int .u32 0,.int .u32 0]),.sc (.bool false)]) :: T80
def T82:Tab:=(132,[.sc (.agg #[.int .u32 167772160,.int .u32 167772415,.int .u32 167772416,.int .u32 167772671,.int .u32 18,.int .u32 255,.int .u32 0,.int .u32 0,.int .u32 0,.int .u32 0]),.sc (.agg #[.int .u32 167772160,.int .u32 167772415,.int .u32 167772416,.int .u32 167772671,.int .u32 7,.int .u32 16,.int .u32 0,.int .u32 0,.int .u32 0,.int .u32 0])],.tup [.sc (.agg #[.int .u32 0,.int .u32 0,.int .u32 0,.int .u32 0,.int .u32 0,.int .u32 0,.int .u32 0,.int .u32 0,.int .u32 0,.int .u32 0]),.sc (.bool false)]) :: T81
def T83:Tab:=(132,[.sc (.agg #[.int .u32 167772160,.int .u32 167772415,.int .u32 167772416,.int .u32 167772671,.int .u32 18,.int .u32 255,.int .u32 0,.int .u32 0,.int .u32 0,.int .u32 0]),.sc (.agg #[.int .u32 167772160,.int .u32 167772415,.int .u32 167772416,.int .u32 167772671,.int .u32 17,.int .u32 17,.int .u32 0,.int .u32 65535,.int .u32 0,.int .u32 65535])],.tup [.sc (.agg #[.int .u32 0,.int .u32 0,.int .u32 0,.int .u32 0,.int .u32 0,.int .u32 0,.int .u32 0,.int .u32 0,.int .u32 0,.int .u32 0]),.sc (.bool false)]) :: T82
def T84:Tab:=(132,[.sc (.agg #[.int .u32 167772160,.int .u32 167772415,.int .u32 167772416,.int .u32 167772671,.int .u32 18,.int .u32 255,.int .u32 0,.int .u32 0,.int .u32 0,.int .u32 0]),.sc (.agg #[.int .u32 167772160,.int .u32 167772415,.int .u32 167772416,.int .u32 167772671,.int .u32 18,.int .u32 255,.int .u32 0,.int .u32 0,.int .u32 0,.int .u32 0])],.tup [.sc (.agg #[.int .u32 167772160,.int .u32 167772415,.int .u32 167772416,.int .u32 167772671,.int .u32 18,.int .u32 255,.int .u32 0,.int .u32 0,.int .u32 0,.int .u32 0]),.sc (.bool true)]) :: T83
def T85:Tab:=(140,[.sl 10 [[.sc (.int .u32 167772160),.sc (.int .u32 167772415),.sc (.int .u32 167772416),.sc (.int .u32 167772671),.sc (.int .u32 0),.sc (.int .u32 0),.sc (.int .u32 0),.sc (.int .u32 0),.sc (.int .u32 0),.sc (.int .u32 0)],[.sc (.int .u32 167772160),.sc (.int .u32 167772415),.sc (.int .u32 167772416),.sc (.int .u32 167772671),.sc (.int .u32 1),.sc (.int .u32 1),.sc (.int .u32 0),.sc (.int .u32 7),.sc (.int .u32 8),.sc (.int .u32 8)],[.sc (.int .u32 167772160),.sc (.int .u32 167772415),.sc (.int .u32 167772416),.sc (.int .u32 167772671),.sc (.int .u32 1),.sc (.int .u32 1),.sc (.int .u32 9),.sc (.int .u32 65535),.sc (.int .u32 8),.sc (.int .u32 8)],[.sc (.int .u32 167772160),.sc (.int .u32 167772415),.sc (.int .u32 167772416),.sc (.int .u32 167772671),.sc (.int .u32 2),.sc (.int .u32 5),.sc (.int .u32 0),.sc (.int .u32 0),.sc (.int .u32 0),.sc (.int .u32 0)],[.sc (.int .u32 167772160),.sc (.int .u32 167772415),.sc (.int .u32 167772416),.sc (.int .u32 167772671),.sc (.int .u32 6),.sc (.int .u32 6),.sc (.int .u32 0),.sc (.int .u32 65535),.sc (.int .u32 0),.sc (.int .u32 65535)],[.sc (.int .u32 167772160),.sc (.int .u32 167772415),.sc (.int .u32 167772416),.sc (.int .u32 167772671),.sc (.int .u32 7),.sc (.int .u32 16),.sc (.int .u32 0),.sc (.int .u32 0),.sc (.int .u32 0),.sc (.int .u32 0)],[.sc (.int .u32 167772160),.sc (.int .u32 167772415),.sc (.int .u32 167772416),.sc (.int .u32 167772671),.sc (.int .u32 17),.sc (.int .u32 17),.sc (.int .u32 0),.sc (.int .u32 65535),.sc (.int .u32 0),.sc (.int .u32 65535)],[.sc (.int .u32 167772160),.sc (.int .u32 167772415),.sc (.int .u32 167772416),.sc (.int .u32 167772671),.sc (.int .u32 18),.sc (.int .u32 255),.sc (.int .u32 0),.sc (.int .u32 0),.sc (.int .u32 0),.sc (.int .u32 0)]],.sl 10 [[.sc (.int .u32 167772160),.sc (.int .u32 167772415),.sc (.int .u32 167772416),.sc (.int .u32 167772671),.sc (.int .u32 0),.sc (.int .u32 0),.sc (.int .u32 0),.sc (.int .u32 0),.sc (.int .u32 0),.sc (.int .u32 0)],[.sc (.int .u32 167772160),.sc (.int .u32 167772415),.sc (.int .u32 167772416),.sc (.int .u32 167772671),.sc (.int .u32 1),.sc (.int .u32 1),.sc (.int .u32 0),.sc (.int .u32 7),.sc (.int .u32 8),.sc (.int .u32 8)],[.sc (.int .u32 167772160),.sc (.int .u32 167772415),.sc (.int .u32 167772416),.sc (.int .u32 167772671),.sc (.int .u32 1),.sc (.int .u32 1),.sc (.int .u32 9),.sc (.int .u32 65535),.sc (.int .u32 8),.sc (.int .u32 8)],[.sc (.int .u32 167772160),.sc (.int .u32 167772415),.sc (.int .u32 167772416),.sc (.int .u32 167772671),.sc (.int .u32 2),.sc (.int .u32 5),.sc (.int .u32 0),.sc (.int .u32 0),.sc (.int .u32 0),.sc (.int .u32 0)],[.sc (.int .u32 167772160),.sc (.int .u32 167772415),.sc (.int .u32 167772416),.sc (.int .u32 167772671),.sc (.int .u32 6),.sc (.int .u32 6),.sc (.int .u32 0),.sc (.int .u32 65535),.sc (.int .u32 0),.sc (.int .u32 65535)],[.sc (.int .u32 167772160),.sc (.int .u32 167772415),.sc (.int .u32 167772416),.sc (.int .u32 167772671),.sc (.int .u32 7),.sc (.int .u32 16),.sc (.int .u32 0),.sc (.int .u32 0),.sc (.int .u32 0),.sc (.int .u32 0)],[.sc (.int .u32 167772160),.sc (.int .u32 167772415),.sc (.int .u32 167772416),.sc (.int .u32 167772671),.sc (.int .u32 17),.sc (.int .u32 17),.sc (.int .u32 0),.sc (.int .u32 65535),.sc (.int .u32 0),.sc (.int .u32 65535)],[.sc (.int .u32 167772160),.sc (.int .u32 167772415),.sc (.int .u32 167772416),.sc (.int .u32 167772671),.sc (.int .u32 18),.sc (.int .u32 255),.sc (.int .u32 0),.sc (.int .u32 0),.sc (.int .u32 0),.sc (.int .u32 0)]]],.sl 10 [[.sc (.int .u32 167772160),.sc (.int .u32 167772415),.sc (.int .u32 167772416),.sc (.int .u32 167772671),.sc (.int .u32 0),.sc (.int .u32 0),.sc (.int .u32 0),.sc (.int .u32 0),.sc (.int .u32 0),.sc (.int .u32 0)],[.sc (.int .u32 167772160),.sc (.int .u32 167772415),.sc (.int .u32 167772416),.sc (.int .u32 167772671),.sc (.int .u32 1),.sc (.int .u32 1),.sc (.int .u32 0),.sc (.int .u32 7),.sc (.int .u32 8),.sc (.int .u32 8)],[.sc (.int .u32 167772160),.sc (.int .u32 167772415),.sc (.int .u32 167772416),.sc (.int .u32 167772671),.sc (.int .u32 1),.sc (.int .u32 1),.sc (.int .u32 9),.sc (.int .u32 65535),.sc (.int .u32 8),.sc (.int .u32 8)],[.sc (.int .u32 167772160),.sc (.int .u32 167772415),.sc (.int .u32 167772416),.sc (.int .u32 167772671),.sc (.int .u32 2),.sc (.int .u32 5),.sc (.int .u32 0),.sc (.int .u32 0),.sc (.int .u32 0),.sc (.int .u32 0)],[.sc (.int .u32 167772160),.sc (.int .u32 167772415),.sc (.int .u32 167772416),.sc (.int .u32 167772671),.sc (.int .u32 6),.sc (.int .u32 6),.sc (.int .u32 0),.sc (.int .u32 65535),.sc (.int .u32 0),.sc (.int .u32 65535)],[.sc (.int .u32 167772160),.sc (.int .u32 167772415),.sc (.int .u32 167772416),.sc (.int .u32 167772671),.sc (.int .u32 7),.sc (.int .u32 16),.sc (.int .u32 0),.sc (.int .u32 0),.sc (.int .u32 0),.sc (.int .u32 0)],[.sc (.int .u32 167772160),.sc (.int .u32 167772415),.sc (.int .u32 167772416),.sc (.int .u32 167772671),.sc (.int .u32 17),.sc (.int .u32 17),.sc (.int .u32 0),.sc (.int .u32 65535),.sc (.int .u32 0),.sc (.int .u32 65535)],[.sc (.int .u32 167772160),.sc (.int .u32 167772415),.sc (.int .u32 167772416),.sc (.int .u32 167772671),.sc (.int .u32 18),.sc (.int .u32 255),.sc (.int .u32 0),.sc (.int .u32 0),.sc (.int .u32 0),.sc (.int .u32 0)]]) :: T84
def T86:Tab:=(55,[.agg [.sl 5 [[.sc (.string (ByteArray.mk #[114])),.sc (.int .i64 100),.sc (.bool false),.sc (.bool false),.sc (.string (ByteArray.mk #[]))],[.sc (.string (ByteArray.mk #[115])),.sc (.int .i64 100),.sc (.bool false),.sc (.bool false),.sc (.string (ByteArray.mk #[]))]],.sl 3 [[.sc (.int .i64 0),.sc (.int .i64 1),.sc (.int .i64 1)]],.sl 6 [[.sc (.string (ByteArray.mk #[97])),.sc (.int .i64 0),.sc (.string (ByteArray.mk #[122])),.sc (.int .u32 167772160),.sc (.int .i64 24),.sc (.bool false)],[.sc (.string (ByteArray.mk #[98])),.sc (.int .i64 1),.sc (.string (ByteArray.mk #[122])),.sc (.int .u32 167772416),.sc (.int .i64 24),.sc (.bool false)]],.sc (.slice none 0 0),.sc (.int .i64 0)],.sl 1 [[.sl 6 [[.sc (.int .i64 0),.sc (.slice none 0 0),.sc (.slice none 0 0),.sc (.slice none 0 0),.sc (.slice none 0 0),.sc (.slice none 0 0)]]],[.sl 6 [[.sc (.int .i64 1),.sc (.slice none 0 0),.sc (.slice none 0 0),.sc (.slice none 0 0),.sc (.slice none 0 0),.sc (.slice none 0 0)]]]],.sl 1 [[.sl 6 [[.sc (.int .i64 0),.sl 11 [[.sc (.int .u32 0),.sc (.int .u32 4294967295),.sc (.int .u32 0),.sc (.int .u32 4294967295),.sc (.int .u32 0),.sc (.int .u32 255),.sc (.int .u32 0),.sc (.int .u32 65535),.sc (.int .u32 0),.sc (.int .u32 65535),.sc (.bool true)]],.sc (.slice none 0 0),.sc (.slice none 0 0),.sc (.slice none 0 0),.sc (.slice none 0 0)]]],[.sl 6 [[.sc (.int .i64 1),.sc (.slice none 0 0),.sl 11 [[.sc (.int .u32 0),.sc (.int .u32 4294967295),.sc (.int .u32 0),.sc (.int .u32 4294967295),.sc (.int .u32 0),.sc (.int .u32 255),.sc (.int .u32 0),.sc (.int .u32 65535),.sc (.int .u32 0),.sc (.int .u32 65535),.sc (.bool true)]],.sc (.slice none 0 0),.sc (.slice none 0 0),.sc (.slice none 0 0)]]]],.agg [.sc (.int .i64 0),.sl 11 [[.sc (.int .u32 0),.sc (.int .u32 4294967295),.sc (.int .u32 0),.sc (.int .u32 4294967295),.sc (.int .u32 0),.sc (.int .u32 255),.sc (.int .u32 0),.sc (.int .u32 65535),.sc (.int .u32 0),.sc (.int .u32 65535),.sc (.bool true)]],.sl 11 [],.sl 20 [],.sl 13 [],.sl 11 []],.agg [.sc (.int .i64 1),.sl 11 [],.sl 11 [[.sc (.int .u32 0),.sc (.int .u32 4294967295),.sc (.int .u32 0),.sc (.int .u32 4294967295),.sc (.int .u32 0),.sc (.int .u32 255),.sc (.int .u32 0),.sc (.int .u32 65535),.sc (.int .u32 0),.sc (.int .u32 65535),.sc (.bool true)]],.sl 20 [],.sl 13 [],.sl 11 []]],.tup [.sc (.agg #[.int .i64 0,.slice none 0 0,.slice none 0 0,.int .i64 0,.int .i64 0,.int .u32 0,.int .u32 0,.int .u8 0,.int .u16 0,.int .u16 0,.string (ByteArray.mk #[])]),.sc (.bool false),.sc (.int .i64 0)]) :: T85
def T87:Tab:=(36,[.agg [.sl 5 [[.sc (.string (ByteArray.mk #[114])),.sc (.int .i64 100),.sc (.bool false),.sc (.bool false),.sc (.string (ByteArray.mk #[]))],[.sc (.string (ByteArray.mk #[115])),.sc (.int .i64 100),.sc (.bool false),.sc (.bool false),.sc (.string (ByteArray.mk #[]))]],.sl 3 [[.sc (.int .i64 0),.sc (.int .i64 1),.sc (.int .i64 1)]],.sl 6 [[.sc (.string (ByteArray.mk #[97])),.sc (.int .i64 0),.sc (.string (ByteArray.mk #[122])),.sc (.int .u32 167772160),.sc (.int .i64 24),.sc (.bool false)],[.sc (.string (ByteArray.mk #[98])),.sc (.int .i64 1),.sc (.string (ByteArray.mk #[122])),.sc (.int .u32 167772416),.sc (.int .i64 24),.sc (.bool false)]],.sc (.slice none 0 0),.sc (.int .i64 0)],.sl 1 [[.sl 1 [[.sl 6 [[.sc (.int .i64 0),.sc (.slice none 0 0),.sc (.slice none 0 0),.sc (.slice none 0 0),.sc (.slice none 0 0),.sc (.slice none 0 0)]]],[.sl 6 [[.sc (.int .i64 1),.sc (.slice none 0 0),.sc (.slice none 0 0),.sc (.slice none 0 0),.sc (.slice none 0 0),.sc (.slice none 0 0)]]]]],[.sc (.slice none 0 0)],[.sc (.slice none 0 0)],[.sl 1 [[.sl 6 [[.sc (.int .i64 0),.sl 11 [[.sc (.int .u32 0),.sc (.int .u32 4294967295),.sc (.int .u32 0),.sc (.int .u32 4294967295),.sc (.int .u32 0),.sc (.int .u32 255),.sc (.int .u32 0),.sc (.int .u32 65535),.sc (.int .u32 0),.sc (.int .u32 65535),.sc (.bool true)]],.sc (.slice none 0 0),.sc (.slice none 0 0),.sc (.slice none 0 0),.sc (.slice none 0 0)]]],[.sl 6 [[.sc (.int .i64 1),.sc (.slice none 0 0),.sl 11 [[.sc (.int .u32 0),.sc (.int .u32 4294967295),.sc (.int .u32 0),.sc (.int .u32 4294967295),.sc (.int .u32 0),.sc (.int .u32 255),.sc (.int .u32 0),.sc (.int .u32 65535),.sc (.int .u32 0),.sc (.int .u32 65535),.sc (.bool true)]],.sc (.slice none 0 0),.sc (.slice none 0 0),.sc (.slice none 0 0)]]]]]],.sc (.int .i64 0),.sc (.int .i64 1),.sc (.agg #[.bool true,.bool false,.bool false,.bool true,.bool false,.bool false,.bool false,.bool false,.bool false,.bool false,.bool false,.bool false,.bool true,.bool false,.bool false,.bool true])],.tup [.sc (.bool true),.sc (.int .i64 0)]) :: T86
def T88:Tab:=(55,[.agg [.sl 5 [[.sc (.string (ByteArray.mk #[114])),.sc (.int .i64 100),.sc (.bool false),.sc (.bool false),.sc (.string (ByteArray.mk #[]))],[.sc (.string (ByteArray.mk #[115])),.sc (.int .i64 100),.sc (.bool false),.sc (.bool false),.sc (.string (ByteArray.mk #[]))]],.sl 3 [[.sc (.int .i64 0),.sc (.int .i64 1),.sc (.int .i64 1)]],.sl 6 [[.sc (.string (ByteArray.mk #[97])),.sc (.int .i64 0),.sc (.string (ByteArray.mk #[122])),.sc (.int .u32 167772160),.sc (.int .i64 24),.sc (.bool false)],[.sc (.string (ByteArray.mk #[98])),.sc (.int .i64 1),.sc (.string (ByteArray.mk #[122])),.sc (.int .u32 167772416),.sc (.int .i64 24),.sc (.bool false)]],.sc (.slice none 0 0),.sc (.int .i64 0)],.sl 1 [[.sl 6 [[.sc (.int .i64 0),.sc (.slice none 0 0),.sc (.slice none 0 0),.sc (.slice none 0 0),.sc (.slice none 0 0),.sc (.slice none 0 0)]]],[.sl 6 [[.sc (.int .i64 1),.sc (.slice none 0 0),.sc (.slice none 0 0),.sc (.slice none 0 0),.sc (.slice none 0 0),.sc (.slice none 0 0)]]]],.sl 1 [[.sl 6 [[.sc (.int .i64 0),.sl 11 [[.sc (.int .u32 0),.sc (.int .u32 4294967295),.sc (.int .u32 0),.sc (.int .u32 4294967295),.sc (.int .u32 0),.sc (.int .u32 255),.sc (.int .u32 0),.sc (.int .u32 65535),.sc (.int .u32 0),.sc (.int .u32 65535),.sc (.bool true)]],.sc (.slice none 0 0),.sc (.slice none 0 0),.sc (.slice none 0 0),.sc (.slice none 0 0)]]],[.sl 6 [[.sc (.int .i64 1),.sc (.slice none 0 0),.sl 11 [[.sc (.int .u32 0),.sc (.int .u32 4294967295),.sc (.int .u32 0),.sc (.int .u32 4294967295),.sc (.int .u32 0),.sc (.int .u32 255),.sc (.int .u32 0),.sc (.int .u32 65535),.sc (.int .u32 0),.sc (.int .u32 65535),.sc (.bool true)]],.sc (.slice none 0 0),.sc (.slice none 0 0),.sc (.slice none 0 0)]]]],.agg [.sc (.int .i64 1),.sl 11 [],.sl 11 [],.sl 20 [],.sl 13 [],.sl 11 []],.agg [.sc (.int .i64 0),.sl 11 [],.sl 11 [],.sl 20 [],.sl 13 [],.sl 11 []]],.tup [.sc (.agg #[.int .i64 0,.slice none 0 0,.slice none 0 0,.int .i64 0,.int .i64 0,.int .u32 0,.int .u32 0,.int .u8 0,.int .u16 0,.int .u16 0,.string (ByteArray.mk #[])]),.sc (.bool false),.sc (.int .i64 0)]) :: T87
def T89:Tab:=(55,[.agg [.sl 5 [[.sc (.string (ByteArray.mk #[114])),.sc (.int .i64 100),.sc (.bool false),.sc (.bool false),.sc (.string (ByteArray.mk #[]))],[.sc (.string (ByteArray.mk #[115])),.sc (.int .i64 100),.sc (.bool false),.sc (.bool false),.sc (.string (ByteArray.mk #[]))]],.sl 3 [[.sc (.int .i64 0),.sc (.int .i64 1),.sc (.int .i64 1)]],.sl 6 [[.sc (.string (ByteArray.mk #[97])),.sc (.int .i64 0),.sc (.string (ByteArray.mk #[122])),.sc (.int .u32 167772160),.sc (.int .i64 24),.sc (.bool false)],[.sc (.string (ByteArray.mk #[98])),.sc (.int .i64 1),.sc (.string (ByteArray.mk #[122])),.sc (.int .u32 167772416),.sc (.int .i64 24),.sc (.bool false)]],.sc (.slice none 0 0),.sc (.int .i64 0)],.sl 1 [[.sl 6 [[.sc (.int .i64 0),.sc (.slice none 0 0),.sc (.slice none 0 0),.sc (.slice none 0 0),.sc (.slice none 0 0),.sc (.slice none 0 0)]]],[.sl 6 [[.sc (.int .i64 1),.sc (.slice none 0 0),.sc (.slice none 0 0),.sc (.slice none 0 0),.sc (.slice none 0 0),.sc (.slice none 0 0)]]]],.sl 1 [[.sl 6 [[.sc (.int .i64 0),.sl 11 [[.sc (.int .u32 0),.sc (.int .u32 4294967295),.sc (.int .u32 0),.sc (.int .u32 4294967295),.sc (.int .u32 0),.sc (.int .u32 255),.sc (.int .u32 0),.sc (.int .u32 65535),.sc (.int .u32 0),.sc (.int .u32 65535),.sc (.bool true)]],.sc (.slice none 0 0),.sc (.slice none 0 0),.sc (.slice none 0 0),.sc (.slice none 0 0)]]],[.sl 6 [[.sc (.int .i64 1),.sc (.slice none 0 0),.sl 11 [[.sc (.int .u32 0),.sc (.int .u32 4294967295),.sc (.int .u32 0),.sc (.int .u32 4294967295),.sc (.int .u32 0),.sc (.int .u32 255),.sc (.int .u32 0),.sc (.int .u32 65535),.sc (.int .u32 0),.sc (.int .u32 65535),.sc (.bool true)]],.sc (.slice none 0 0),.sc (.slice none 0 0),.sc (.slice none 0 0)]]]],.agg [.sc (.int .i64 1),.sl 11 [],.sl 11 [[.sc (.int .u32 0),.sc (.int .u32 4294967295),.sc (.int .u32 0),.sc (.int .u32 4294967295),.sc (.int .u32 0),.sc (.int .u32 255),.sc (.int .u32 0),.sc (.int .u32 65535),.sc (.int .u32 0),.sc (.int .u32 65535),.sc (.bool true)]],.sl 20 [],.sl 13 [],.sl 11 []],.agg [.sc (.int .i64 0),.sl 11 [[.sc (.int .u32 0),.sc (.int .u32 4294967295),.sc (.int .u32 0),.sc (.int .u32 4294967295),.sc (.int .u32 0),.sc (.int .u32 255),.sc (.int .u32 0),.sc (.int .u32 65535),.sc (.int .u32 0),.sc (.int .u32 65535),.sc (.bool true)]],.sl 11 [],.sl 20 [],.sl 13 [],.sl 11 []]],.tup [.sc (.agg #[.int .i64 0,.slice none 0 0,.slice none 0 0,.int .i64 0,.int .i64 0,.int .u32 0,.int .u32 0,.int .u8 0,.int .u16 0,.int .u16 0,.string (ByteArray.mk #[])]),.sc (.bool false),.sc (.int .i64 0)]) :: T88
def T90:Tab:=(36,[.agg [.sl 5 [[.sc (.string (ByteArray.mk #[114])),.sc (.int .i64 100),.sc (.bool false),.sc (.bool false),.sc (.string (ByteArray.mk #[]))],[.sc (.string (ByteArray.mk #[115])),.sc (.int .i64 100),.sc (.bool false),.sc (.bool false),.sc (.string (ByteArray.mk #[]))]],.sl 3 [[.sc (.int .i64 0),.sc (.int .i64 1),.sc (.int .i64 1)]],.sl 6 [[.sc (.string (ByteArray.mk #[97])),.sc (.int .i64 0),.sc (.string (ByteArray.mk #[122])),.sc (.int .u32 167772160),.sc (.int .i64 24),.sc (.bool false)],[.sc (.string (ByteArray.mk #[98])),.sc (.int .i64 1),.sc (.string (ByteArray.mk #[122])),.sc (.int .u32 167772416),.sc (.int .i64 24),.sc (.bool false)]],.sc (.slice none 0 0),.sc (.int .i64 0)],.sl 1 [[.sl 1 [[.sl 6 [[.sc (.int .i64 0),.sc (.slice none 0 0),.sc (.slice none 0 0),.sc (.slice none 0 0),.sc (.slice none 0 0),.sc (.slice none 0 0)]]],[.sl 6 [[.sc (.int .i64 1),.sc (.slice none 0 0),.sc (.slice none 0 0),.sc (.slice none 0 0),.sc (.slice none 0 0),.sc (.slice none 0 0)]]]]],[.sc (.slice none 0 0)],[.sc (.slice none 0 0)],[.sl 1 [[.sl 6 [[.sc (.int .i64 0),.sl 11 [[.sc (.int .u32 0),.sc (.int .u32 4294967295),.sc (.int .u32 0),.sc (.int .u32 4294967295),.sc (.int .u32 0),.sc (.int .u32 255),.sc (.int .u32 0),.sc (.int .u32 65535),.sc (.int .u32 0),.sc (.int .u32 65535),.sc (.bool true)]],.sc (.slice none 0 0),.sc (.slice none 0 0),.sc (.slice none 0 0),.sc (.slice none 0 0)]]],[.sl 6 [[.sc (.int .i64 1),.sc (.slice none 0 0),.sl 11 [[.sc (.int .u32 0),.sc (.int .u32 4294967295),.sc (.int .u32 0),.sc (.int .u32 4294967295),.sc (.int .u32 0),.sc (.int .u32 255),.sc (.int .u32 0),.sc (.int .u32 65535),.sc (.int .u32 0),.sc (.int .u32 65535),.sc (.bool true)]],.sc (.slice none 0 0),.sc (.slice none 0 0),.sc (.slice none 0 0)]]]]]],.sc (.int .i64 1),.sc (.int .i64 0),.sc (.agg #[.bool true,.bool false,.bool false,.bool true,.bool false,.bool false,.bool false,.bool false,.bool false,.bool false,.bool false,.bool false,.bool true,.bool false,.bool false,.bool true])],.tup [.sc (.bool true),.sc (.int .i64 0)]) :: T89
def T91:Tab:=(22,[.agg [.sl 5 [[.sc (.string (ByteArray.mk #[114])),.sc (.int .i64 100),.sc (.bool false),.sc (.bool false),.sc (.string (ByteArray.mk #[]))],[.sc (.string (ByteArray.mk #[115])),.sc (.int .i64 100),.sc (.bool false),.sc (.bool false),.sc (.string (ByteArray.mk #[]))]],.sl 3 [[.sc (.int .i64 0),.sc (.int .i64 1),.sc (.int .i64 1)]],.sl 6 [[.sc (.string (ByteArray.mk #[97])),.sc (.int .i64 0),.sc (.string (ByteArray.mk #[122])),.sc (.int .u32 167772160),.sc (.int .i64 24),.sc (.bool false)],[.sc (.string (ByteArray.mk #[98])),.sc (.int .i64 1),.sc (.string (ByteArray.mk #[122])),.sc (.int .u32 167772416),.sc (.int .i64 24),.sc (.bool false)]],.sc (.slice none 0 0),.sc (.int .i64 0)],.sl 1 [[.sl 6 [[.sc (.int .i64 0),.sc (.slice none 0 0),.sc (.slice none 0 0),.sc (.slice none 0 0),.sc (.slice none 0 0),.sc (.slice none 0 0)]]],[.sl 6 [[.sc (.int .i64 1),.sc (.slice none 0 0),.sc (.slice none 0 0),.sc (.slice none 0 0),.sc (.slice none 0 0),.sc (.slice none 0 0)]]]],.sl 1 [[.sl 6 [[.sc (.int .i64 0),.sl 11 [[.sc (.int .u32 0),.sc (.int .u32 4294967295),.sc (.int .u32 0),.sc (.int .u32 4294967295),.sc (.int .u32 0),.sc (.int .u32 255),.sc (.int .u32 0),.sc (.int .u32 65535),.sc (.int .u32 0),.sc (.int .u32 65535),.sc (.bool true)]],.sc (.slice none 0 0),.sc (.slice none 0 0),.sc (.slice none 0 0),.sc (.slice none 0 0)]]],[.sl 6 [[.sc (.int .i64 1),.sc (.slice none 0 0),.sl 11 [[.sc (.int .u32 0),.sc (.int .u32 4294967295),.sc (.int .u32 0),.sc (.int .u32 4294967295),.sc (.int .u32 0),.sc (.int .u32 255),.sc (.int .u32 0),.sc (.int .u32 65535),.sc (.int .u32 0),.sc (.int .u32 65535),.sc (.bool true)]],.sc (.slice none 0 0),.sc (.slice none 0 0),.sc (.slice none 0 0)]]]],.agg [.sc (.bool false),.sl 1 [[.sl 2 [[.sc (.int .i64 0),.sc (.int .i64 3)],[.sc (.int .i64 1),.sc (.int .i64 3)]]]]]],.tup [.sc (.bool true),.sc (.int .i64 0)]) :: T90
def T92:Tab:=(22,[.agg [.sl 5 [[.sc (.string (ByteArray.mk #[114])),.sc (.int .i64 100),.sc (.bool false),.sc (.bool false),.sc (.string (ByteArray.mk #[]))],[.sc (.string (ByteArray.mk #[115])),.sc (.int .i64 100),.sc (.bool false),.sc (.bool false),.sc (.string (ByteArray.mk #[]))]],.sl 3 [[.sc (.int .i64 0),.sc (.int .i64 1),.sc (.int .i64 1)]],.sl 6 [[.sc (.string (ByteArray.mk #[97])),.sc (.int .i64 0),.sc (.string (ByteArray.mk #[122])),.sc (.int .u32 167772160),.sc (.int .i64 24),.sc (.bool false)],[.sc (.string (ByteArray.mk #[98])),.sc (.int .i64 1),.sc (.string (ByteArray.mk #[122])),.sc (.int .u32 167772416),.sc (.int .i64 24),.sc (.bool false)]],.sc (.slice none 0 0),.sc (.int .i64 0)],.sl 1 [[.sl 6 [[.sc (.int .i64 0),.sc (.slice none 0 0),.sc (.slice none 0 0),.sc (.slice none 0 0),.sc (.slice none 0 0),.sc (.slice none 0 0)]]],[.sl 6 [[.sc (.int .i64 1),.sc (.slice none 0 0),.sc (.slice none 0 0),.sc (.slice none 0 0),.sc (.slice none 0 0),.sc (.slice none 0 0)]]]],.sl 1 [[.sl 6 [[.sc (.int .i64 0),.sl 11 [[.sc (.int .u32 0),.sc (.int .u32 4294967295),.sc (.int .u32 0),.sc (.int .u32 4294967295),.sc (.int .u32 0),.sc (.int .u32 255),.sc (.int .u32 0),.sc (.int .u32 65535),.sc (.int .u32 0),.sc (.int .u32 65535),.sc (.bool true)]],.sc (.slice none 0 0),.sc (.slice none 0 0),.sc (.slice none 0 0),.sc (.slice none 0 0)]]],[.sl 6 [[.sc (.int .i64 1),.sc (.slice none 0 0),.sl 11 [[.sc (.int .u32 0),.sc (.int .u32 4294967295),.sc (.int .u32 0),.sc (.int .u32 4294967295),.sc (.int .u32 0),.sc (.int .u32 255),.sc (.int .u32 0),.sc (.int .u32 65535),.sc (.int .u32 0),.sc (.int .u32 65535),.sc (.bool true)]],.sc (.slice none 0 0),.sc (.slice none 0 0),.sc (.slice none 0 0)]]]],.sc (.agg #[.bool false,.slice none 0 0])],.tup [.sc (.bool false),.sc (.int .i64 0)]) :: T91
def T93:Tab:=(9,[],.sc (.bool true)) :: T92
theorem T0_ok:T0.ok Tryz.prog glob:=Tab.nil
theorem E0_ok:E0.ok Tryz.prog glob:=Zfa (Zit Ziv fun a b r h=>Zke a b r h) (Zfa (Zit Ziv fun a b r h=>Zi8 a b r h) (Zfa (Zit Ziv fun a b r h=>Zkz a b r h) (Zfa (Zit Ziv fun a b r h=>Zjo a b r h) (Zfa (Zni rfl Zpj) (Zfa (Zni rfl Zpk) (Zfa (Zqp rfl Zqq) (noE_ok)))))))
end
end Go.AM
set_option maxRecDepth 1000000
namespace Go.AM
open Go Go.Proofs
theorem T5_s (T4_ok:T4.ok Tryz.prog glob):T5.ok Tryz.prog glob:=Tab.consH T4_ok E0_ok 100000 (by kernel_rfl)
theorem T15_s (T14_ok:T14.ok Tryz.prog glob):T15.ok Tryz.prog glob:=Tab.consH T14_ok E0_ok 100000 (by kernel_rfl)
theorem T17_s (T16_ok:T16.ok Tryz.prog glob):T17.ok Tryz.prog glob:=Tab.consH T16_ok E0_ok 100000 (by kernel_rfl)
theorem T18_s (T17_ok:T17.ok Tryz.prog glob):T18.ok Tryz.prog glob:=Tab.consH T17_ok E0_ok 100000 (by kernel_rfl)
theorem T20_s (T19_ok:T19.ok Tryz.prog glob):T20.ok Tryz.prog glob:=Tab.consH T19_ok E0_ok 100000 (by kernel_rfl)
theorem T21_s (T20_ok:T20.ok Tryz.prog glob):T21.ok Tryz.prog glob:=Tab.consH T20_ok E0_ok 100000 (by kernel_rfl)
theorem T25_s (T24_ok:T24.ok Tryz.prog glob):T25.ok Tryz.prog glob:=Tab.consH T24_ok E0_ok 100000 (by kernel_rfl)
theorem T29_s (T28_ok:T28.ok Tryz.prog glob):T29.ok Tryz.prog glob:=Tab.consH T28_ok E0_ok 100000 (by kernel_rfl)
theorem T31_s (T30_ok:T30.ok Tryz.prog glob):T31.ok Tryz.prog glob:=Tab.consH T30_ok E0_ok 100000 (by kernel_rfl)
theorem T35_s (T34_ok:T34.ok Tryz.prog glob):T35.ok Tryz.prog glob:=Tab.consH T34_ok E0_ok 100000 (by kernel_rfl)
theorem T41_s (T40_ok:T40.ok Tryz.prog glob):T41.ok Tryz.prog glob:=Tab.consH T40_ok E0_ok 100000 (by kernel_rfl)
theorem T45_s (T44_ok:T44.ok Tryz.prog glob):T45.ok Tryz.prog glob:=Tab.consH T44_ok E0_ok 100000 (by kernel_rfl)
theorem T50_s (T49_ok:T49.ok Tryz.prog glob):T50.ok Tryz.prog glob:=Tab.consH T49_ok E0_ok 100000 (by kernel_rfl)
theorem T54_s (T53_ok:T53.ok Tryz.prog glob):T54.ok Tryz.prog glob:=Tab.consH T53_ok E0_ok 100000 (by kernel_rfl)
theorem T57_s (T56_ok:T56.ok Tryz.prog glob):T57.ok Tryz.prog glob:=Tab.consH T56_ok E0_ok 100000 (by kernel_rfl)
theorem T59_s (T58_ok:T58.ok Tryz.prog glob):T59.ok Tryz.prog glob:=Tab.consH T58_ok E0_ok 100000 (by kernel_rfl)
theorem T63_s (T62_ok:T62.ok Tryz.prog glob):T63.ok Tryz.prog glob:=Tab.consH T62_ok E0_ok 100000 (by kernel_rfl)
theorem T68_s (T67_ok:T67.ok Tryz.prog glob):T68.ok Tryz.prog glob:=Tab.consH T67_ok E0_ok 100000 (by kernel_rfl)
theorem T72_s (T71_ok:T71.ok Tryz.prog glob):T72.ok Tryz.prog glob:=Tab.consH T71_ok E0_ok 100000 (by kernel_rfl)
theorem T77_s (T76_ok:T76.ok Tryz.prog glob):T77.ok Tryz.prog glob:=Tab.consH T76_ok E0_ok 100000 (by kernel_rfl)
theorem T81_s (T80_ok:T80.ok Tryz.prog glob):T81.ok Tryz.prog glob:=Tab.consH T80_ok E0_ok 100000 (by kernel_rfl)
theorem T90_s (T89_ok:T89.ok Tryz.prog glob):T90.ok Tryz.prog glob:=Tab.consH T89_ok E0_ok 100000 (by kernel_rfl)
theorem T92_s (T91_ok:T91.ok Tryz.prog glob):T92.ok Tryz.prog glob:=Tab.consH T91_ok E0_ok 100000 (by kernel_rfl)
end Go.AM
set_option maxRecDepth 1000000
namespace Go.AM
open Go Go.Proofs
theorem T3_s (T2_ok:T2.ok Tryz.prog glob):T3.ok Tryz.prog glob:=Tab.consH T2_ok E0_ok 100000 (by kernel_rfl)
theorem T8_s (T7_ok:T7.ok Tryz.prog glob):T8.ok Tryz.prog glob:=Tab.consH T7_ok E0_ok 100000 (by kernel_rfl)
theorem T11_s (T10_ok:T10.ok Tryz.prog glob):T11.ok Tryz.prog glob:=Tab.consH T10_ok E0_ok 100000 (by kernel_rfl)
theorem T22_s (T21_ok:T21.ok Tryz.prog glob):T22.ok Tryz.prog glob:=Tab.consH T21_ok E0_ok 100000 (by kernel_rfl)
theorem T26_s (T25_ok:T25.ok Tryz.prog glob):T26.ok Tryz.prog glob:=Tab.consH T25_ok E0_ok 100000 (by kernel_rfl)
theorem T30_s (T29_ok:T29.ok Tryz.prog glob):T30.ok Tryz.prog glob:=Tab.consH T29_ok E0_ok 100000 (by kernel_rfl)
theorem T32_s (T31_ok:T31.ok Tryz.prog glob):T32.ok Tryz.prog glob:=Tab.consH T31_ok E0_ok 100000 (by kernel_rfl)
theorem T36_s (T35_ok:T35.ok Tryz.prog glob):T36.ok Tryz.prog glob:=Tab.consH T35_ok E0_ok 100000 (by kernel_rfl)
theorem T38_s (T37_ok:T37.ok Tryz.prog glob):T38.ok Tryz.prog glob:=Tab.consH T37_ok E0_ok 100000 (by kernel_rfl)
theorem T42_s (T41_ok:T41.ok Tryz.prog glob):T42.ok Tryz.prog glob:=Tab.consH T41_ok E0_ok 100000 (by kernel_rfl)
theorem T46_s (T45_ok:T45.ok Tryz.prog glob):T46.ok Tryz.prog glob:=Tab.consH T45_ok E0_ok 100000 (by kernel_rfl)
theorem T51_s (T50_ok:T50.ok Tryz.prog glob):T51.ok Tryz.prog glob:=Tab.consH T50_ok E0_ok 100000 (by kernel_rfl)
theorem T55_s (T54_ok:T54.ok Tryz.prog glob):T55.ok Tryz.prog glob:=Tab.consH T54_ok E0_ok 100000 (by kernel_rfl)
theorem T60_s (T59_ok:T59.ok Tryz.prog glob):T60.ok Tryz.prog glob:=Tab.consH T59_ok E0_ok 100000 (by kernel_rfl)
theorem T64_s (T63_ok:T63.ok Tryz.prog glob):T64.ok Tryz.prog glob:=Tab.consH T63_ok E0_ok 100000 (by kernel_rfl)
theorem T66_s (T65_ok:T65.ok Tryz.prog glob):T66.ok Tryz.prog glob:=Tab.consH T65_ok E0_ok 100000 (by kernel_rfl)
theorem T69_s (T68_ok:T68.ok Tryz.prog glob):T69.ok Tryz.prog glob:=Tab.consH T68_ok E0_ok 100000 (by kernel_rfl)
theorem T73_s (T72_ok:T72.ok Tryz.prog glob):T73.ok Tryz.prog glob:=Tab.consH T72_ok E0_ok 100000 (by kernel_rfl)
theorem T78_s (T77_ok:T77.ok Tryz.prog glob):T78.ok Tryz.prog glob:=Tab.consH T77_ok E0_ok 100000 (by kernel_rfl)
theorem T82_s (T81_ok:T81.ok Tryz.prog glob):T82.ok Tryz.prog glob:=Tab.consH T81_ok E0_ok 100000 (by kernel_rfl)
theorem T86_s (T85_ok:T85.ok Tryz.prog glob):T86.ok Tryz.prog glob:=Tab.consH T85_ok E0_ok 100000 (by kernel_rfl)
theorem T87_s (T86_ok:T86.ok Tryz.prog glob):T87.ok Tryz.prog glob:=Tab.consH T86_ok E0_ok 100000 (by kernel_rfl)
theorem T88_s (T87_ok:T87.ok Tryz.prog glob):T88.ok Tryz.prog glob:=Tab.consH T87_ok E0_ok 100000 (by kernel_rfl)
end Go.AM
set_option maxRecDepth 1000000
namespace Go.AM
open Go Go.Proofs
theorem T7_s (T6_ok:T6.ok Tryz.prog glob):T7.ok Tryz.prog glob:=Tab.consH T6_ok E0_ok 100000 (by kernel_rfl)
theorem T9_s (T8_ok:T8.ok Tryz.prog glob):T9.ok Tryz.prog glob:=Tab.consH T8_ok E0_ok 100000 (by kernel_rfl)
theorem T10_s (T9_ok:T9.ok Tryz.prog glob):T10.ok Tryz.prog glob:=Tab.consH T9_ok E0_ok 100000 (by kernel_rfl)
theorem T23_s (T22_ok:T22.ok Tryz.prog glob):T23.ok Tryz.prog glob:=Tab.consH T22_ok E0_ok 100000 (by kernel_rfl)
theorem T27_s (T26_ok:T26.ok Tryz.prog glob):T27.ok Tryz.prog glob:=Tab.consH T26_ok E0_ok 100000 (by kernel_rfl)
theorem T33_s (T32_ok:T32.ok Tryz.prog glob):T33.ok Tryz.prog glob:=Tab.consH T32_ok E0_ok 100000 (by kernel_rfl)
theorem T37_s (T36_ok:T36.ok Tryz.prog glob):T37.ok Tryz.prog glob:=Tab.consH T36_ok E0_ok 100000 (by kernel_rfl)
theorem T39_s (T38_ok:T38.ok Tryz.prog glob):T39.ok Tryz.prog glob:=Tab.consH T38_ok E0_ok 100000 (by kernel_rfl)
theorem T43_s (T42_ok:T42.ok Tryz.prog glob):T43.ok Tryz.prog glob:=Tab.consH T42_ok E0_ok 100000 (by kernel_rfl)
theorem T47_s (T46_ok:T46.ok Tryz.prog glob):T47.ok Tryz.prog glob:=Tab.consH T46_ok E0_ok 100000 (by kernel_rfl)
theorem T52_s (T51_ok:T51.ok Tryz.prog glob):T52.ok Tryz.prog glob:=Tab.consH T51_ok E0_ok 100000 (by kernel_rfl)
theorem T56_s (T55_ok:T55.ok Tryz.prog glob):T56.ok Tryz.prog glob:=Tab.consH T55_ok E0_ok 100000 (by kernel_rfl)
theorem T61_s (T60_ok:T60.ok Tryz.prog glob):T61.ok Tryz.prog glob:=Tab.consH T60_ok E0_ok 100000 (by kernel_rfl)
theorem T65_s (T64_ok:T64.ok Tryz.prog glob):T65.ok Tryz.prog glob:=Tab.consH T64_ok E0_ok 100000 (by kernel_rfl)
theorem T70_s (T69_ok:T69.ok Tryz.prog glob):T70.ok Tryz.prog glob:=Tab.consH T69_ok E0_ok 100000 (by kernel_rfl)
theorem T74_s (T73_ok:T73.ok Tryz.prog glob):T74.ok Tryz.prog glob:=Tab.consH T73_ok E0_ok 100000 (by kernel_rfl)
theorem T75_s (T74_ok:T74.ok Tryz.prog glob):T75.ok Tryz.prog glob:=Tab.consH T74_ok E0_ok 100000 (by kernel_rfl)
theorem T79_s (T78_ok:T78.ok Tryz.prog glob):T79.ok Tryz.prog glob:=Tab.consH T78_ok E0_ok 100000 (by kernel_rfl)
theorem T83_s (T82_ok:T82.ok Tryz.prog glob):T83.ok Tryz.prog glob:=Tab.consH T82_ok E0_ok 100000 (by kernel_rfl)
theorem T85_s (T84_ok:T84.ok Tryz.prog glob):T85.ok Tryz.prog glob:=Tab.consH T84_ok E0_ok 100000 (by kernel_rfl)
theorem T89_s (T88_ok:T88.ok Tryz.prog glob):T89.ok Tryz.prog glob:=Tab.consH T88_ok E0_ok 100000 (by kernel_rfl)
theorem T91_s (T90_ok:T90.ok Tryz.prog glob):T91.ok Tryz.prog glob:=Tab.consH T90_ok E0_ok 100000 (by kernel_rfl)
theorem T93_s (T92_ok:T92.ok Tryz.prog glob):T93.ok Tryz.prog glob:=Tab.consH T92_ok E0_ok 100000 (by kernel_rfl)
end Go.AM
set_option maxRecDepth 1000000
namespace Go.AM
open Go Go.Proofs
theorem T1_s:T1.ok Tryz.prog glob:=Tab.consH T0_ok E0_ok 100000 (by kernel_rfl)
theorem T2_s (T1_ok:T1.ok Tryz.prog glob):T2.ok Tryz.prog glob:=Tab.consH T1_ok E0_ok 100000 (by kernel_rfl)
theorem T4_s (T3_ok:T3.ok Tryz.prog glob):T4.ok Tryz.prog glob:=Tab.consH T3_ok E0_ok 100000 (by kernel_rfl)
theorem T6_s (T5_ok:T5.ok Tryz.prog glob):T6.ok Tryz.prog glob:=Tab.consH T5_ok E0_ok 100000 (by kernel_rfl)
theorem T12_s (T11_ok:T11.ok Tryz.prog glob):T12.ok Tryz.prog glob:=Tab.consH T11_ok E0_ok 100000 (by kernel_rfl)
theorem T13_s (T12_ok:T12.ok Tryz.prog glob):T13.ok Tryz.prog glob:=Tab.consH T12_ok E0_ok 100000 (by kernel_rfl)
theorem T14_s (T13_ok:T13.ok Tryz.prog glob):T14.ok Tryz.prog glob:=Tab.consH T13_ok E0_ok 100000 (by kernel_rfl)
theorem T16_s (T15_ok:T15.ok Tryz.prog glob):T16.ok Tryz.prog glob:=Tab.consH T15_ok E0_ok 100000 (by kernel_rfl)
theorem T19_s (T18_ok:T18.ok Tryz.prog glob):T19.ok Tryz.prog glob:=Tab.consH T18_ok E0_ok 100000 (by kernel_rfl)
theorem T24_s (T23_ok:T23.ok Tryz.prog glob):T24.ok Tryz.prog glob:=Tab.consH T23_ok E0_ok 100000 (by kernel_rfl)
theorem T28_s (T27_ok:T27.ok Tryz.prog glob):T28.ok Tryz.prog glob:=Tab.consH T27_ok E0_ok 100000 (by kernel_rfl)
theorem T34_s (T33_ok:T33.ok Tryz.prog glob):T34.ok Tryz.prog glob:=Tab.consH T33_ok E0_ok 100000 (by kernel_rfl)
theorem T40_s (T39_ok:T39.ok Tryz.prog glob):T40.ok Tryz.prog glob:=Tab.consH T39_ok E0_ok 100000 (by kernel_rfl)
theorem T44_s (T43_ok:T43.ok Tryz.prog glob):T44.ok Tryz.prog glob:=Tab.consH T43_ok E0_ok 100000 (by kernel_rfl)
theorem T48_s (T47_ok:T47.ok Tryz.prog glob):T48.ok Tryz.prog glob:=Tab.consH T47_ok E0_ok 100000 (by kernel_rfl)
theorem T49_s (T48_ok:T48.ok Tryz.prog glob):T49.ok Tryz.prog glob:=Tab.consH T48_ok E0_ok 100000 (by kernel_rfl)
theorem T53_s (T52_ok:T52.ok Tryz.prog glob):T53.ok Tryz.prog glob:=Tab.consH T52_ok E0_ok 100000 (by kernel_rfl)
theorem T58_s (T57_ok:T57.ok Tryz.prog glob):T58.ok Tryz.prog glob:=Tab.consH T57_ok E0_ok 100000 (by kernel_rfl)
theorem T62_s (T61_ok:T61.ok Tryz.prog glob):T62.ok Tryz.prog glob:=Tab.consH T61_ok E0_ok 100000 (by kernel_rfl)
theorem T67_s (T66_ok:T66.ok Tryz.prog glob):T67.ok Tryz.prog glob:=Tab.consH T66_ok E0_ok 100000 (by kernel_rfl)
theorem T71_s (T70_ok:T70.ok Tryz.prog glob):T71.ok Tryz.prog glob:=Tab.consH T70_ok E0_ok 100000 (by kernel_rfl)
theorem T76_s (T75_ok:T75.ok Tryz.prog glob):T76.ok Tryz.prog glob:=Tab.consH T75_ok E0_ok 100000 (by kernel_rfl)
theorem T80_s (T79_ok:T79.ok Tryz.prog glob):T80.ok Tryz.prog glob:=Tab.consH T79_ok E0_ok 100000 (by kernel_rfl)
theorem T84_s (T83_ok:T83.ok Tryz.prog glob):T84.ok Tryz.prog glob:=Tab.consH T83_ok E0_ok 100000 (by kernel_rfl)
end Go.AM
set_option maxRecDepth 1000000
namespace Go.AM
open Go Go.Proofs
theorem T1_ok:T1.ok Tryz.prog glob:=T1_s
theorem T2_ok:T2.ok Tryz.prog glob:=T2_s T1_ok
theorem T3_ok:T3.ok Tryz.prog glob:=T3_s T2_ok
theorem T4_ok:T4.ok Tryz.prog glob:=T4_s T3_ok
theorem T5_ok:T5.ok Tryz.prog glob:=T5_s T4_ok
theorem T6_ok:T6.ok Tryz.prog glob:=T6_s T5_ok
theorem T7_ok:T7.ok Tryz.prog glob:=T7_s T6_ok
theorem T8_ok:T8.ok Tryz.prog glob:=T8_s T7_ok
theorem T9_ok:T9.ok Tryz.prog glob:=T9_s T8_ok
theorem T10_ok:T10.ok Tryz.prog glob:=T10_s T9_ok
theorem T11_ok:T11.ok Tryz.prog glob:=T11_s T10_ok
theorem T12_ok:T12.ok Tryz.prog glob:=T12_s T11_ok
theorem T13_ok:T13.ok Tryz.prog glob:=T13_s T12_ok
theorem T14_ok:T14.ok Tryz.prog glob:=T14_s T13_ok
theorem T15_ok:T15.ok Tryz.prog glob:=T15_s T14_ok
theorem T16_ok:T16.ok Tryz.prog glob:=T16_s T15_ok
theorem T17_ok:T17.ok Tryz.prog glob:=T17_s T16_ok
theorem T18_ok:T18.ok Tryz.prog glob:=T18_s T17_ok
theorem T19_ok:T19.ok Tryz.prog glob:=T19_s T18_ok
theorem T20_ok:T20.ok Tryz.prog glob:=T20_s T19_ok
theorem T21_ok:T21.ok Tryz.prog glob:=T21_s T20_ok
theorem T22_ok:T22.ok Tryz.prog glob:=T22_s T21_ok
theorem T23_ok:T23.ok Tryz.prog glob:=T23_s T22_ok
theorem T24_ok:T24.ok Tryz.prog glob:=T24_s T23_ok
theorem T25_ok:T25.ok Tryz.prog glob:=T25_s T24_ok
theorem T26_ok:T26.ok Tryz.prog glob:=T26_s T25_ok
theorem T27_ok:T27.ok Tryz.prog glob:=T27_s T26_ok
theorem T28_ok:T28.ok Tryz.prog glob:=T28_s T27_ok
theorem T29_ok:T29.ok Tryz.prog glob:=T29_s T28_ok
theorem T30_ok:T30.ok Tryz.prog glob:=T30_s T29_ok
theorem T31_ok:T31.ok Tryz.prog glob:=T31_s T30_ok
theorem T32_ok:T32.ok Tryz.prog glob:=T32_s T31_ok
theorem T33_ok:T33.ok Tryz.prog glob:=T33_s T32_ok
theorem T34_ok:T34.ok Tryz.prog glob:=T34_s T33_ok
theorem T35_ok:T35.ok Tryz.prog glob:=T35_s T34_ok
theorem T36_ok:T36.ok Tryz.prog glob:=T36_s T35_ok
theorem T37_ok:T37.ok Tryz.prog glob:=T37_s T36_ok
theorem T38_ok:T38.ok Tryz.prog glob:=T38_s T37_ok
theorem T39_ok:T39.ok Tryz.prog glob:=T39_s T38_ok
theorem T40_ok:T40.ok Tryz.prog glob:=T40_s T39_ok
theorem T41_ok:T41.ok Tryz.prog glob:=T41_s T40_ok
theorem T42_ok:T42.ok Tryz.prog glob:=T42_s T41_ok
theorem T43_ok:T43.ok Tryz.prog glob:=T43_s T42_ok
theorem T44_ok:T44.ok Tryz.prog glob:=T44_s T43_ok
theorem T45_ok:T45.ok Tryz.prog glob:=T45_s T44_ok
theorem T46_ok:T46.ok Tryz.prog glob:=T46_s T45_ok
theorem T47_ok:T47.ok Tryz.prog glob:=T47_s T46_ok
theorem T48_ok:T48.ok Tryz.prog glob:=T48_s T47_ok
theorem T49_ok:T49.ok Tryz.prog glob:=T49_s T48_ok
theorem T50_ok:T50.ok Tryz.prog glob:=T50_s T49_ok
theorem T51_ok:T51.ok Tryz.prog glob:=T51_s T50_ok
theorem T52_ok:T52.ok Tryz.prog glob:=T52_s T51_ok
theorem T53_ok:T53.ok Tryz.prog glob:=T53_s T52_ok
theorem T54_ok:T54.ok Tryz.prog glob:=T54_s T53_ok
theorem T55_ok:T55.ok Tryz.prog glob:=T55_s T54_ok
theorem T56_ok:T56.ok Tryz.prog glob:=T56_s T55_ok
theorem T57_ok:T57.ok Tryz.prog glob:=T57_s T56_ok
theorem T58_ok:T58.ok Tryz.prog glob:=T58_s T57_ok
theorem T59_ok:T59.ok Tryz.prog glob:=T59_s T58_ok
theorem T60_ok:T60.ok Tryz.prog glob:=T60_s T59_ok
theorem T61_ok:T61.ok Tryz.prog glob:=T61_s T60_ok
theorem T62_ok:T62.ok Tryz.prog glob:=T62_s T61_ok
theorem T63_ok:T63.ok Tryz.prog glob:=T63_s T62_ok
theorem T64_ok:T64.ok Tryz.prog glob:=T64_s T63_ok
theorem T65_ok:T65.ok Tryz.prog glob:=T65_s T64_ok
theorem T66_ok:T66.ok Tryz.prog glob:=T66_s T65_ok
theorem T67_ok:T67.ok Tryz.prog glob:=T67_s T66_ok
theorem T68_ok:T68.ok Tryz.prog glob:=T68_s T67_ok
theorem T69_ok:T69.ok Tryz.prog glob:=T69_s T68_ok
theorem T70_ok:T70.ok Tryz.prog glob:=T70_s T69_ok
theorem T71_ok:T71.ok Tryz.prog glob:=T71_s T70_ok
theorem T72_ok:T72.ok Tryz.prog glob:=T72_s T71_ok
theorem T73_ok:T73.ok Tryz.prog glob:=T73_s T72_ok
theorem T74_ok:T74.ok Tryz.prog glob:=T74_s T73_ok
theorem T75_ok:T75.ok Tryz.prog glob:=T75_s T74_ok
theorem T76_ok:T76.ok Tryz.prog glob:=T76_s T75_ok
theorem T77_ok:T77.ok Tryz.prog glob:=T77_s T76_ok
theorem T78_ok:T78.ok Tryz.prog glob:=T78_s T77_ok
theorem T79_ok:T79.ok Tryz.prog glob:=T79_s T78_ok
theorem T80_ok:T80.ok Tryz.prog glob:=T80_s T79_ok
theorem T81_ok:T81.ok Tryz.prog glob:=T81_s T80_ok
theorem T82_ok:T82.ok Tryz.prog glob:=T82_s T81_ok
theorem T83_ok:T83.ok Tryz.prog glob:=T83_s T82_ok
theorem T84_ok:T84.ok Tryz.prog glob:=T84_s T83_ok
theorem T85_ok:T85.ok Tryz.prog glob:=T85_s T84_ok
theorem T86_ok:T86.ok Tryz.prog glob:=T86_s T85_ok
theorem T87_ok:T87.ok Tryz.prog glob:=T87_s T86_ok
theorem T88_ok:T88.ok Tryz.prog glob:=T88_s T87_ok
theorem T89_ok:T89.ok Tryz.prog glob:=T89_s T88_ok
theorem T90_ok:T90.ok Tryz.prog glob:=T90_s T89_ok
theorem T91_ok:T91.ok Tryz.prog glob:=T91_s T90_ok
theorem T92_ok:T92.ok Tryz.prog glob:=T92_s T91_ok
theorem T93_ok:T93.ok Tryz.prog glob:=T93_s T92_ok
end Go.AM
set_option maxRecDepth 100000
namespace Go.AM
open Go Go.Proofs
def Zml (r:Bool):PV→List Blk→Prop:=fun p K=>p=(vb r)∧K=[]
theorem Ziw (r:Bool) (hF:Ze2=some r):ACall Tryz.prog glob 9 [] [] (Zml r):=by
 have hr:=someb hF
 subst hr
 exact(T93_ok _ (List.mem_cons.2 (.inl rfl))).1
def Zoi (r:Zn):PV→List Blk→Prop:=fun p K=>p=(.ptr 0 0)∧K=[.cells (Zk r)]
theorem Zoj (a:(List Int)) (r:Zn) (hF:Zgj a=some r):ACall Tryz.prog glob 5 [(slc 1 Zi a)] [] (Zoi r):=by
 refine ACall.body Tryz.func5 rfl (by kernel_rfl) ?_
 unfold Zgj at hF
 refine AWP.seq (AWP.rg0 [] [(0,(slc 1 Zi a))] (AWP.seq (AWP.rg [] [(2,(.ptr 0 0))] [.cells (Zk (Zn.mk a (0:Int)))] (AWP.ret ?_))))
 have hr:=someb hF
 subst hr
 exact(FnQ.f0 1 (.inr rfl))
def Zok (r:Int):PV→List Blk→Prop:=fun p K=>p=(i64 r)∧K=[]
theorem Zol (a:Int) (b:Int) (r:Int) (hF:Zfb a b=some r):ACall Tryz.prog glob 25 [(i64 a),(i64 b)] [] (Zok r):=by
 refine ACall.body Tryz.func25 rfl (by kernel_rfl) ?_
 unfold Zfb at hF
 refine AWP.seq (AWP.rg0 [] [(0,(i64 a)),(1,(i64 b))] (AWP.seq ?_))
 obtain⟨c,hF⟩:=chkb hF
 refine AWP.rg0 [(4,.rem c)] [(4,(i64 (ZI (Int.tmod (IntKind.wrap .u64 a) (IntKind.wrap .u64 b)))))] (AWP.ret ?_)
 have hr:=someb hF
 subst hr
 exact(FnQ.f0 0 (.inr rfl))
def Zkf (r:(Int × Zn)):PV→List Blk→Prop:=fun p K=>p=(i64 r.1)∧K=[.cells (Zk r.2)]
theorem Za3 (a:Zn) (b:Int) (r:(Int × Zn)) (hF:Z1 a b=some r):ACall Tryz.prog glob 10 [(.ptr 0 0),(i64 b)] [.cells (Zk a)] (Zkf r):=by
 refine ACall.body Tryz.func10 rfl (by kernel_rfl) ?_
 unfold Z1 at hF
 refine AWP.seq (AWP.rg0 [] [(0,(.ptr 0 0)),(1,(i64 b))] (AWP.seq (AWP.seq ?_)))
 obtain⟨d,c,hF⟩:=bindb hF
 replace c:=someb c
 refine AWP.to [(0,(.ptr 0 0)),(1,(i64 b)),(18,(vb (d || (decide (a.f_i ≥ (List.length a.f_l:Int))))))] [.cells (Zk a)] ?_ ?_
 ·cases d with
  | false=>
   exact AWP.drT [(2,.bool c),(11,.len Zi a.f_l)] 14 [] [] []
  | true=>
   exact AWP.drT [(2,.bool c)] 14 [] [] []
 refine AWP.cif hF (fun g hF=>?_) (fun g hF=>?_)
 ·refine AWP.seq (AWP.rg0 [] [(4,(i64 (0:Int)))] (AWP.ret ?_))
  have hr:=someb hF
  subst hr
  exact(FnQ.f0 1 (.inr rfl))
 ·refine AWP.skip (AWP.seq (AWP.rg [] [(0,(.ptr 0 0)),(1,(i64 b))] [.cells (Zk ({ a with f_i:=(ZI (a.f_i + (1:Int))) }:Zn))] (AWP.seq ?_)))
  obtain⟨i,j,hF⟩:=bindb hF
  obtain⟨f,k,hF⟩:=bindb hF
  refine AWP.dr [(9,.idx Zi j),(12,.call Tryz.func25 [] (Zol i b f k))] 13 [] [] [] [(4,(i64 f))] [.cells (Zk ({ a with f_i:=(ZI (a.f_i + (1:Int))) }:Zn))] (AWP.ret ?_)
  have hr:=someb hF
  subst hr
  exact(FnQ.f0 1 (.inr rfl))
def Zkg (r:(Zu × Zn)):PV→List Blk→Prop:=fun p K=>p=(Zdu r.1)∧K=[.cells (Zk r.2)]
theorem Zkh (b2:Zn) (a:Int) (r:(Zu × Zn)) (hF:Zde b2 a=some r):ACall Tryz.prog glob 11 [(.ptr 0 0),(i64 a)] [.cells (Zk b2)] (Zkg r):=by
 refine ACall.body Tryz.func11 rfl (by kernel_rfl) ?_
 unfold Zde at hF
 refine AWP.seq (AWP.rg [] [(0,(.ptr 0 0)),(1,(i64 a)),(4,(.ptr 1 0))] [.cells (Zk b2),.cells (Zf Zq)] (AWP.seq ?_))
 obtain⟨v,c6,hF⟩:=bindb hF
 refine AWP.rg [(1,.call Tryz.func10 [] (Za3 b2 (2:Int) v c6)),(3,.m),(4,.m),(5,.m)] [(0,(.ptr 0 0)),(1,(i64 a)),(4,(.ptr 1 0)),(5,(.ptr 2 0))] [.cells (Zk v.2),.cells (Zf Zq),.cells [.sc (.bool (v.1 == (0:Int))),nils]] ?_
 refine AWP.gst (.ownF 2 1 1 73) [.cells (Zk v.2),.cells (Zf Zq),.far [.sc (.bool (v.1 == (0:Int))),(.own 3 (List.length ([]:(List (List Zg)))))],bf 1 73 Zj ([]:(List (List Zg))) false] ?_
 refine AWP.seq ?_
 obtain⟨c7,hF⟩:=chkb hF
 refine AWP.rg [(1,.mkN Zi (0:Int) c7)] [(0,(.ptr 0 0)),(1,(i64 a)),(4,(.ptr 1 0)),(5,(.ptr 2 0)),(6,(.own 4 (List.length (List.replicate (Int.toNat a) (0:Int)))))] [.cells (Zk v.2),.cells (Zf Zq),.far [.sc (.bool (v.1 == (0:Int))),(.own 3 (List.length ([]:(List (List Zg)))))],bf 1 73 Zj ([]:(List (List Zg))) false,bf 1 3 Zi (List.replicate (Int.toNat a) (0:Int)) false] (AWP.seq (AWP.seq ?_))
 obtain⟨a6,c8,hF⟩:=bindb hF
 refine AWP.rg [(1,.call Tryz.func10 [] (Za3 v.2 (4:Int) a6 c8))] [(0,(.ptr 0 0)),(1,(i64 a)),(4,(.ptr 1 0)),(5,(.ptr 2 0)),(6,(.own 4 (List.length (List.replicate (Int.toNat a) (0:Int))))),(7,(i64 a6.1))] [.cells (Zk a6.2),.cells (Zf Zq),.far [.sc (.bool (v.1 == (0:Int))),(.own 3 (List.length ([]:(List (List Zg)))))],bf 1 73 Zj ([]:(List (List Zg))) false,bf 1 3 Zi (List.replicate (Int.toNat a) (0:Int)) false] ?_
 obtain⟨b9,c9,hF⟩:=bindb hF
 refine AWP.mid (fun e st H=>(e=.normal∧∃ y,∃ w,∃ k,∃ z,b9=(y,w,k,z)∧st=[(4,(.ptr 1 0)),(5,(.ptr 2 0))]∧H=[.cells (Zk y),.cells (Zf Zq),.far [.sc (.bool w),(.own 3 (List.length k))],bf 1 73 Zj k false,bf 1 3 Zi z false])) ?_ ?_
 ·clear hF
  refine AWP.kp [0,1,4,5,6,7] 5 ?_
  refine AWP.bround (fun n st H=>∃ a0,∃ j,∃ c,∃ p,∃ b,Zbn a n a0 j c p b=some b9∧st=[(0,(.ptr 0 0)),(1,(i64 a)),(4,(.ptr 1 0)),(5,(.ptr 2 0)),(6,(.own 4 (List.length p))),(7,(i64 b))]∧H=[.cells (Zk a0),.cells (Zf Zq),.far [.sc (.bool j),(.own 3 (List.length c))],bf 1 73 Zj c false,bf 1 3 Zi p false]) fuel ⟨a6.2,(v.1 == (0:Int)),([]:(List (List Zg))),(List.replicate (Int.toNat a) (0:Int)),a6.1,c9,by kernel_rfl,by kernel_rfl⟩ ?_
  rintro b7 st H ⟨a0,j,c,p,b,hF,rfl,rfl⟩
  cases b7 with
  | zero=>exact noneb hF
  | succ b7=>
   rw [Zbn] at hF
   refine AWP.seq (AWP.seq (AWP.rg0 [] [(0,(.ptr 0 0)),(1,(i64 a)),(4,(.ptr 1 0)),(5,(.ptr 2 0)),(6,(.own 4 (List.length p))),(7,(i64 b)),(20,(vb (decide (b > (0:Int)))))] ?_))
   refine AWP.cif hF (fun d0 hF=>?_) (fun d0 hF=>?_)
   ·refine AWP.skip ?_
    obtain⟨d1,d2,hF⟩:=bindb hF
    refine AWP.seq ?_
    refine AWP.mid (fun e st H=>(e=.normal∧∃ b3,∃ a7,∃ a1,d1=(b3,a7,a1)∧st=[(0,(.ptr 0 0)),(1,(i64 a)),(4,(.ptr 1 0)),(5,(.ptr 2 0)),(6,(.own 4 (List.length a1))),(7,(i64 b))]∧H=[.cells (Zk b3),.cells (Zf Zq),.far [.sc (.bool j),(.own 3 (List.length a7))],bf 1 73 Zj a7 false,bf 1 3 Zi a1 false])) ?_ ?_
    ·clear hF
     have hF:=d2
     refine AWP.block (AWP.seq (AWP.rg0 [] [(0,(.ptr 0 0)),(1,(i64 a)),(4,(.ptr 1 0)),(5,(.ptr 2 0)),(6,(.own 4 (List.length p))),(7,(i64 b)),(8,nils)] ?_))
     refine AWP.own (H':=[.cells (Zk a0),.cells (Zf Zq),.far [.sc (.bool j),(.own 3 (List.length c))],bf 1 73 Zj c false,bf 1 3 Zi p false,bf 2 77 Zh ([]:(List Zg)) false]) (st':=[(8,(.own 5 (List.length ([]:(List Zg))))),(0,(.ptr 0 0)),(1,(i64 a)),(4,(.ptr 1 0)),(5,(.ptr 2 0)),(6,(.own 4 (List.length p))),(7,(i64 b))]) 8 2 77 (by kernel_rfl) (by kernel_rfl) (by kernel_rfl) ?_
     refine AWP.pick (st':=[(0,(.ptr 0 0)),(1,(i64 a)),(4,(.ptr 1 0)),(5,(.ptr 2 0)),(6,(.own 4 (List.length p))),(7,(i64 b)),(8,(.own 5 (List.length ([]:(List Zg)))))]) (ks:=[0,1,4,5,6,7,8]) (by kernel_rfl) ?_
     refine AWP.seq (AWP.seq (AWP.rg0 [] [(0,(.ptr 0 0)),(1,(i64 a)),(4,(.ptr 1 0)),(5,(.ptr 2 0)),(6,(.own 4 (List.length p))),(7,(i64 b)),(8,(.own 5 (List.length ([]:(List Zg))))),(9,(i64 (0:Int)))] ?_))
     obtain⟨c0,d3,hF⟩:=bindb hF
     refine AWP.mid (fun e st H=>(e=.normal∧∃ a2,∃ x,∃ u,c0=(a2,x,u)∧st=[(0,(.ptr 0 0)),(1,(i64 a)),(4,(.ptr 1 0)),(5,(.ptr 2 0)),(6,(.own 4 (List.length x))),(7,(i64 b)),(8,(.own 5 (List.length u)))]∧H=[.cells (Zk a2),.cells (Zf Zq),.far [.sc (.bool j),(.own 3 (List.length c))],bf 1 73 Zj c false,bf 1 3 Zi x false,bf 2 77 Zh u false])) ?_ ?_
     ·clear hF
      refine AWP.kp [0,1,4,5,6,7,8,9] 6 ?_
      refine AWP.bround (fun n st H=>∃ a8,∃ f,∃ g,∃ d,Zbm a j n a8 f g d=some c0∧st=[(0,(.ptr 0 0)),(1,(i64 a)),(4,(.ptr 1 0)),(5,(.ptr 2 0)),(6,(.own 4 (List.length f))),(7,(i64 b)),(8,(.own 5 (List.length g))),(9,(i64 d))]∧H=[.cells (Zk a8),.cells (Zf Zq),.far [.sc (.bool j),(.own 3 (List.length c))],bf 1 73 Zj c false,bf 1 3 Zi f false,bf 2 77 Zh g false]) fuel ⟨a0,p,([]:(List Zg)),(0:Int),d3,by kernel_rfl,by kernel_rfl⟩ ?_
      rintro b8 st H ⟨a8,f,g,d,hF,rfl,rfl⟩
      cases b8 with
      | zero=>exact noneb hF
      | succ b8=>
       rw [Zbm] at hF
       refine AWP.seq (AWP.seq (AWP.rg0 [] [(0,(.ptr 0 0)),(1,(i64 a)),(4,(.ptr 1 0)),(5,(.ptr 2 0)),(6,(.own 4 (List.length f))),(7,(i64 b)),(8,(.own 5 (List.length g))),(9,(i64 d)),(25,(vb (decide (d<a))))] ?_))
       refine AWP.cif hF (fun d4 hF=>?_) (fun d4 hF=>?_)
       ·refine AWP.skip ?_
        obtain⟨d5,d6,hF⟩:=bindb hF
        refine AWP.seq ?_
        refine AWP.mid (fun e st H=>(e=.normal∧∃ b4,∃ a3,∃ a4,d5=(b4,a3,a4)∧st=[(0,(.ptr 0 0)),(1,(i64 a)),(4,(.ptr 1 0)),(5,(.ptr 2 0)),(6,(.own 4 (List.length a3))),(7,(i64 b)),(8,(.own 5 (List.length a4))),(9,(i64 d))]∧H=[.cells (Zk b4),.cells (Zf Zq),.far [.sc (.bool j),(.own 3 (List.length c))],bf 1 73 Zj c false,bf 1 3 Zi a3 false,bf 2 77 Zh a4 false])) ?_ ?_
        ·clear hF
         have hF:=d6
         refine AWP.block (AWP.seq (AWP.seq ?_))
         obtain⟨f1,b5,hF⟩:=bindb hF
         obtain⟨d7,b6,hF⟩:=bindb hF
         replace b6:=someb b6
         obtain⟨a9,c1,hF⟩:=bindb hF
         refine AWP.to [(0,(.ptr 0 0)),(1,(i64 a)),(4,(.ptr 1 0)),(5,(.ptr 2 0)),(6,(.own 4 (List.length f))),(7,(i64 b)),(8,(.own 5 (List.length g))),(9,(i64 d)),(37,(vb a9.1))] [.cells (Zk a9.2),.cells (Zf Zq),.far [.sc (.bool j),(.own 3 (List.length c))],bf 1 73 Zj c false,bf 1 3 Zi f false,bf 2 77 Zh g false] ?_ ?_
         ·cases d7 with
          | false=>
           have b0:=ifF c1 rfl
           obtain⟨d8,d9,b0⟩:=bindb b0
           replace b0:=someb b0
           subst b0
           exact AWP.rgT [(2,.idx Zi b5),(3,.ldE Zi b5),(5,.bool b6),(7,.call Tryz.func10 [] (Za3 a8 (2:Int) d8 d9))]
          | true=>
           have e0:=someb (ifT c1 rfl)
           subst e0
           exact AWP.rgT [(2,.idx Zi b5),(3,.ldE Zi b5),(5,.bool b6)]
         refine AWP.cif hF (fun e1 hF=>?_) (fun e1 hF=>?_)
         ·refine AWP.exit (LeQ.start (LeQ.pk [0,1,4,5,6,7,8,9] 6 ?_))
          exact⟨rfl,a9.2,f,g,(someb hF).symm,by kernel_rfl,by kernel_rfl⟩
         ·refine AWP.skip (AWP.seq (AWP.rg0 [] [(0,(.ptr 0 0)),(1,(i64 a)),(4,(.ptr 1 0)),(5,(.ptr 2 0)),(6,(.own 4 (List.length f))),(7,(i64 b)),(8,(.own 5 (List.length g))),(9,(i64 d)),(10,(i64 (3:Int)))] ?_))
          obtain⟨e2,e3,hF⟩:=bindb hF
          refine AWP.seq ?_
          refine AWP.mid (fun e st H=>(e=.normal∧∃ a5,∃ o,e2=(a5,o)∧st=[(0,(.ptr 0 0)),(1,(i64 a)),(4,(.ptr 1 0)),(5,(.ptr 2 0)),(6,(.own 4 (List.length f))),(7,(i64 b)),(8,(.own 5 (List.length g))),(9,(i64 d)),(10,(i64 o))]∧H=[.cells (Zk a5),.cells (Zf Zq),.far [.sc (.bool j),(.own 3 (List.length c))],bf 1 73 Zj c false,bf 1 3 Zi f false,bf 2 77 Zh g false])) ?_ ?_
          ·clear hF
           have hF:=e3
           refine AWP.seq (AWP.rg0 [(1,.q)] [(0,(.ptr 0 0)),(1,(i64 a)),(4,(.ptr 1 0)),(5,(.ptr 2 0)),(6,(.own 4 (List.length f))),(7,(i64 b)),(8,(.own 5 (List.length g))),(9,(i64 d)),(10,(i64 (3:Int))),(39,(vb j))] ?_)
           refine AWP.cif hF (fun e4 hF=>?_) (fun e4 hF=>?_)
           ·obtain⟨c2,c3,hF⟩:=bindb hF
            obtain⟨e5,c4,hF⟩:=bindb hF
            obtain⟨b1,e6,hF⟩:=bindb hF
            refine AWP.dr [(2,.idx Zi c3),(3,.ldE Zi c3),(8,.idx Zi c4),(9,.ldE Zi c4),(11,.call Tryz.func10 [] (Za3 a9.2 (ZI ((3:Int) - e5)) b1 e6))] 13 [] [11] [] [(0,(.ptr 0 0)),(1,(i64 a)),(4,(.ptr 1 0)),(5,(.ptr 2 0)),(6,(.own 4 (List.length f))),(7,(i64 b)),(8,(.own 5 (List.length g))),(9,(i64 d)),(10,(i64 (ZI ((ZI (c2 + (1:Int))) + b1.1))))] [.cells (Zk b1.2),.cells (Zf Zq),.far [.sc (.bool j),(.own 3 (List.length c))],bf 1 73 Zj c false,bf 1 3 Zi f false,bf 2 77 Zh g false] (LeQ.start (LeQ.pk [0,1,4,5,6,7,8,9,10] 6 ?_))
            exact⟨rfl,b1.2,(ZI ((ZI (c2 + (1:Int))) + b1.1)),(someb hF).symm,by kernel_rfl,by kernel_rfl⟩
           ·refine AWP.skip (LeQ.start (LeQ.pk [0,1,4,5,6,7,8,9,10] 6 ?_))
            exact⟨rfl,a9.2,(3:Int),(someb hF).symm,by kernel_rfl,by kernel_rfl⟩
          ·rintro _ _ _ ⟨rfl,a5,o,rfl,rfl,rfl⟩
           refine AWP.seq ?_
           obtain⟨f2,c5,hF⟩:=bindb hF
           refine AWP.rg [(3,.idx Zi c5),(4,.stE Zi c5 o)] [(0,(.ptr 0 0)),(1,(i64 a)),(4,(.ptr 1 0)),(5,(.ptr 2 0)),(6,(.own 4 (List.length f))),(7,(i64 b)),(8,(.own 5 (List.length g))),(9,(i64 d)),(10,(i64 o))] [.cells (Zk a5),.cells (Zf Zq),.far [.sc (.bool j),(.own 3 (List.length c))],bf 1 73 Zj c false,bf 1 3 Zi (List.set f (Int.toNat d) o) false,bf 2 77 Zh g false] ?_
           rw [show ([(0,(.ptr 0 0)),(1,(i64 a)),(4,(.ptr 1 0)),(5,(.ptr 2 0)),(6,(.own 4 (List.length f))),(7,(i64 b)),(8,(.own 5 (List.length g))),(9,(i64 d)),(10,(i64 o))]:St)=[(0,(.ptr 0 0)),(1,(i64 a)),(4,(.ptr 1 0)),(5,(.ptr 2 0)),(6,(.own 4 (List.length (List.set f (Int.toNat d) o)))),(7,(i64 b)),(8,(.own 5 (List.length g))),(9,(i64 d)),(10,(i64 o))] by simp only [List.length_set]]
           obtain⟨e7,hF⟩:=chkb hF
           refine AWP.rg [(5,.app Zh (fun _=>by kernel_rfl) e7)] [(0,(.ptr 0 0)),(1,(i64 a)),(4,(.ptr 1 0)),(5,(.ptr 2 0)),(6,(.own 4 (List.length (List.set f (Int.toNat d) o)))),(7,(i64 b)),(8,(.own 5 (List.length (g++[(Zg.mk d o)])))),(9,(i64 d))] [.cells (Zk a5),.cells (Zf Zq),.far [.sc (.bool j),(.own 3 (List.length c))],bf 1 73 Zj c false,bf 1 3 Zi (List.set f (Int.toNat d) o) false,bf 2 77 Zh (g++[(Zg.mk d o)]) false] (LeQ.start (LeQ.pk [0,1,4,5,6,7,8,9] 6 ?_))
           exact⟨rfl,a5,(List.set f (Int.toNat d) o),(g++[(Zg.mk d o)]),(someb hF).symm,by kernel_rfl,by kernel_rfl⟩
        ·rintro _ _ _ ⟨rfl,b4,a3,a4,rfl,rfl,rfl⟩
         refine AWP.rg0 [] [(0,(.ptr 0 0)),(1,(i64 a)),(4,(.ptr 1 0)),(5,(.ptr 2 0)),(6,(.own 4 (List.length a3))),(7,(i64 b)),(8,(.own 5 (List.length a4))),(9,(i64 (ZI (d + (1:Int)))))] (LeQ.start (LeQ.pk [0,1,4,5,6,7,8,9] 6 ?_))
         exact⟨b8,Nat.lt_succ_self _,b4,a3,a4,(ZI (d + (1:Int))),hF,by kernel_rfl,by kernel_rfl⟩
       ·refine AWP.exit (LeQ.start (LeQ.pk [0,1,4,5,6,7,8] 6 ?_))
        exact⟨rfl,a8,f,g,(someb hF).symm,by kernel_rfl,by kernel_rfl⟩
     ·rintro _ _ _ ⟨rfl,a2,x,u,rfl,rfl,rfl⟩
      refine AWP.seq (AWP.rg0 [(1,.len Zh u)] [(0,(.ptr 0 0)),(1,(i64 a)),(4,(.ptr 1 0)),(5,(.ptr 2 0)),(6,(.own 4 (List.length x))),(7,(i64 b)),(8,(.own 5 (List.length u))),(65,(vb (decide ((List.length u:Int) > (0:Int)))))] ?_)
      refine AWP.cif hF (fun e8 hF=>?_) (fun e8 hF=>?_)
      ·obtain⟨e9,hF⟩:=chkb hF
       refine AWP.rg [(1,.q),(3,.pre (.share 5) (.wkO 5 Zh u (.s))),(4,.app Zj (fun _=>by kernel_rfl) e9),(6,.m)] [(0,(.ptr 0 0)),(1,(i64 a)),(4,(.ptr 1 0)),(5,(.ptr 2 0)),(6,(.own 4 (List.length x))),(7,(i64 b))] [.cells (Zk a2),.cells (Zf Zq),.far [.sc (.bool j),(.own 3 (List.length (c++[u])))],bf 1 73 Zj (c++[u]) false,bf 1 3 Zi x false,bf 2 77 Zh u true] (LeQ.start (LeQ.pk [0,1,4,5,6,7] 5 ?_))
       exact⟨rfl,a2,(c++[u]),x,(someb hF).symm,by kernel_rfl,by kernel_rfl⟩
      ·refine AWP.skip (LeQ.start (LeQ.pk [0,1,4,5,6,7] 5 ?_))
       exact⟨rfl,a2,c,x,(someb hF).symm,by kernel_rfl,by kernel_rfl⟩
    ·rintro _ _ _ ⟨rfl,b3,a7,a1,rfl,rfl,rfl⟩
     refine AWP.rg0 [] [(0,(.ptr 0 0)),(1,(i64 a)),(4,(.ptr 1 0)),(5,(.ptr 2 0)),(6,(.own 4 (List.length a1))),(7,(i64 (ZI (b - (1:Int)))))] (LeQ.start (LeQ.pk [0,1,4,5,6,7] 5 ?_))
     exact⟨b7,Nat.lt_succ_self _,b3,j,a7,a1,(ZI (b - (1:Int))),hF,by kernel_rfl,by kernel_rfl⟩
   ·refine AWP.exit (LeQ.start (LeQ.pk [4,5] 5 ?_))
    exact⟨rfl,a0,j,c,p,(someb hF).symm,by kernel_rfl,by kernel_rfl⟩
 ·rintro _ _ _ ⟨rfl,y,w,k,z,rfl,rfl,rfl⟩
  refine AWP.seq ?_
  refine AWP.share (s:=1) (t:=73) (xs:=List.map Zj k) (sh:=false) (H':=[.cells (Zk y),.cells (Zf Zq),.far [.sc (.bool w),(.own 3 (List.length k))],bf 1 73 Zj k true,bf 1 3 Zi z false]) 3 (by kernel_rfl) (by kernel_rfl) ?_
  refine AWP.frF (H':=[.cells (Zk y),.cells (Zf Zq),.cells (Zf (Zu.mk w k)),bf 1 73 Zj k true,bf 1 3 Zi z false]) (cs:=[.sc (.bool w),(.own 3 (List.length k))]) (cs':=Zf (Zu.mk w k)) 2 (by kernel_rfl) (.cons _ _ _ _ (.refl _) (.cons _ _ _ _ (Wk.ownT (i:=3) (s:=1) (t:=73) (l:=k) (sh:=true) (row:=Zj) (by kernel_rfl) (.inr rfl)) .nil)) (by kernel_rfl) (by kernel_rfl) ?_
  refine AWP.rg [] [(4,(.ptr 1 0))] [.cells (Zk y),.cells (Zf (Zu.mk w k)),.cells (Zf (Zu.mk w k)),bf 1 73 Zj k true,bf 1 3 Zi z false] (AWP.ret ?_)
  have hr:=someb hF
  subst hr
  exact(FnQ.f0 1 (.inr rfl))
def Zil (r:(Zu × Zn)):PV→List Blk→Prop:=fun p K=>p=(Zdu r.1)∧K=[.cells (Zk r.2)]
theorem Zim (z:Zn) (b:Zu) (r:(Zu × Zn)) (hF:Zci z b=some r):ACall Tryz.prog glob 12 [(.ptr 0 0),(Zdu b)] [.cells (Zk z)] (Zil r):=by
 refine ACall.body Tryz.func12 rfl (by kernel_rfl) ?_
 unfold Zci at hF
 refine AWP.seq (AWP.rg [] [(0,(.ptr 0 0)),(3,(.ptr 1 0)),(4,(.ptr 2 0))] [.cells (Zk z),.cells (Zf b),.cells (Zf Zq)] (AWP.seq (AWP.rg [(2,.m),(3,.m),(4,.m)] [(0,(.ptr 0 0)),(3,(.ptr 1 0)),(4,(.ptr 2 0)),(5,(.ptr 3 0))] [.cells (Zk z),.cells (Zf b),.cells (Zf Zq),.cells [.sc (.bool b.Staged),nils]] ?_)))
 refine AWP.gst (.ownF 3 1 1 73) [.cells (Zk z),.cells (Zf b),.cells (Zf Zq),.far [.sc (.bool b.Staged),(.own 4 (List.length ([]:(List (List Zg)))))],bf 1 73 Zj ([]:(List (List Zg))) false] ?_
 refine AWP.gst (.toTr 4 Zl Zj ([]:(List (List Zg))) rfl) [.cells (Zk z),.cells (Zf b),.cells (Zf Zq),.far [.sc (.bool b.Staged),(.own 4 (List.length ([]:(List (List Zg)))))],.tr 73 1 (List.length ([]:(List (List Zg)))) (cellsO Zl ([]:(List (List Zg))))] ?_
 refine AWP.seq (AWP.seq (AWP.rg0 [] [(0,(.ptr 0 0)),(3,(.ptr 1 0)),(4,(.ptr 2 0)),(5,(.ptr 3 0)),(6,(i64 (0:Int)))] ?_))
 obtain⟨a9,b4,hF⟩:=bindb hF
 refine AWP.mid (fun e st H=>(e=.normal∧∃ d,∃ a,a9=(d,a)∧st=[(0,(.ptr 0 0)),(4,(.ptr 2 0)),(5,(.ptr 3 0))]∧H=[.cells (Zk z),.cells (Zf b),.cells (Zf Zq),.far [.sc (.bool d),(.own 4 (List.length a))],.tr 73 1 (List.length a) (cellsO Zl a)])) ?_ ?_
 ·clear hF
  refine AWP.kp [0,3,4,5,6] 5 ?_ (hfar:=(farC (by kernel_rfl) (farC (by kernel_rfl) (farC (by kernel_rfl) (farC (by kernel_rfl) (farC (farT (fun z_=>(OVids.c (Ze0 (row:=Zh) (fun _=>rfl) _) OVids.n))) farN))))))
  refine AWP.bround (fun n st H=>∃ a4,∃ v,∃ a1,Zao b n a4 v a1=some a9∧st=[(0,(.ptr 0 0)),(3,(.ptr 1 0)),(4,(.ptr 2 0)),(5,(.ptr 3 0)),(6,(i64 a1))]∧H=[.cells (Zk z),.cells (Zf b),.cells (Zf Zq),.far [.sc (.bool a4),(.own 4 (List.length v))],.tr 73 1 (List.length v) (cellsO Zl v)]) fuel ⟨b.Staged,([]:(List (List Zg))),(0:Int),b4,by kernel_rfl,by kernel_rfl⟩ ?_
  rintro a8 st H ⟨a4,v,a1,hF,rfl,rfl⟩
  cases a8 with
  | zero=>exact noneb hF
  | succ a8=>
   rw [Zao] at hF
   refine AWP.seq (AWP.seq (AWP.rg0 [(3,.len Zj b.Rounds)] [(0,(.ptr 0 0)),(3,(.ptr 1 0)),(4,(.ptr 2 0)),(5,(.ptr 3 0)),(6,(i64 a1)),(14,(vb (decide (a1<(List.length b.Rounds:Int)))))] ?_))
   refine AWP.cif hF (fun b5 hF=>?_) (fun b5 hF=>?_)
   ·refine AWP.skip (AWP.seq (AWP.block ?_))
    obtain⟨x,b6,hF⟩:=bindb hF
    obtain⟨b7,hF⟩:=chkb hF
    obtain⟨b8,hF⟩:=chkb hF
    refine AWP.dr [(1,.q),(2,.m),(6,.idx Zj b6),(8,.app Zh (fun _=>by kernel_rfl) b7),(9,.litFb),(10,.post (.post (.appT Zl v [(([]:(List Zg))++x)] [.pv (.own 5 (List.length (([]:(List Zg))++x)))] b8) (.giveA 4 5 Zl v [.pv (.own 5 (List.length (([]:(List Zg))++x)))] 0 Zh 2 (([]:(List Zg))++x) 77 (List.length (([]:(List Zg))++x)) rfl rfl)) (.eqC 4 (ca:=cellsO Zl v++[owB 77 2 Zh (([]:(List Zg))++x)]) (cb:=cellsO Zl (v++[(([]:(List Zg))++x)])) (Zj8 (m:=[(([]:(List Zg))++x)])))),(12,.m)] 11 [] [2,8,9,10] [] [(0,(.ptr 0 0)),(3,(.ptr 1 0)),(4,(.ptr 2 0)),(5,(.ptr 3 0)),(6,(i64 a1))] [.cells (Zk z),.cells (Zf b),.cells (Zf Zq),.far [.sc (.bool a4),(.own 4 (List.length (v++[(([]:(List Zg))++x)])))],.tr 73 1 (List.length (v++[(([]:(List Zg))++x)])) (cellsO Zl (v++[(([]:(List Zg))++x)])),.dead,.fb 1 73 [[(.own 5 (List.length (([]:(List Zg))++x)))]]] (AWP.rg0 [] [(0,(.ptr 0 0)),(3,(.ptr 1 0)),(4,(.ptr 2 0)),(5,(.ptr 3 0)),(6,(i64 (ZI (a1 + (1:Int)))))] (LeQ.start ?_))
    refine LeQ.pk [0,3,4,5,6] 5 ?_ (hfar:=(farC (by kernel_rfl) (farC (by kernel_rfl) (farC (by kernel_rfl) (farC (by kernel_rfl) (farC (farT (fun z_=>(OVids.c (Ze0 (row:=Zh) (fun _=>rfl) _) OVids.n))) farN))))))
    exact⟨a8,Nat.lt_succ_self _,a4,(v++[(([]:(List Zg))++x)]),(ZI (a1 + (1:Int))),hF,by kernel_rfl,by kernel_rfl⟩
   ·refine AWP.exit (LeQ.start ?_)
    refine LeQ.pk [0,4,5] 5 ?_ (hfar:=(farC (by kernel_rfl) (farC (by kernel_rfl) (farC (by kernel_rfl) (farC (by kernel_rfl) (farC (farT (fun z_=>(OVids.c (Ze0 (row:=Zh) (fun _=>rfl) _) OVids.n))) farN))))))
    exact⟨rfl,a4,v,(someb hF).symm,by kernel_rfl,by kernel_rfl⟩
 ·rintro _ _ _ ⟨rfl,d,a,rfl,rfl,rfl⟩
  obtain⟨b9,c0,hF⟩:=bindb hF
  refine AWP.seq ?_
  refine AWP.mid (fun e st H=>(e=.normal∧∃ a3,∃ a0,∃ k,b9=(a3,a0,k)∧st=[(4,(.ptr 2 0)),(5,(.ptr 3 0))]∧H=[.cells (Zk a3),.cells (Zf b),.cells (Zf Zq),.far [.sc (.bool a0),(.own 4 (List.length k))],.tr 73 1 (List.length k) (cellsO Zl k)])) ?_ ?_
  ·clear hF
   have hF:=c0
   refine AWP.seq ?_
   obtain⟨f,c1,hF⟩:=bindb hF
   refine AWP.rg [(1,.call Tryz.func10 [] (Za3 z (5:Int) f c1))] [(0,(.ptr 0 0)),(4,(.ptr 2 0)),(5,(.ptr 3 0)),(30,(i64 f.1))] [.cells (Zk f.2),.cells (Zf b),.cells (Zf Zq),.far [.sc (.bool d),(.own 4 (List.length a))],.tr 73 1 (List.length a) (cellsO Zl a)] (AWP.block (AWP.seq (AWP.rg0 [] [(0,(.ptr 0 0)),(4,(.ptr 2 0)),(5,(.ptr 3 0)),(30,(i64 f.1)),(52,(vb (f.1 == (0:Int))))] ?_)))
   refine AWP.cif hF (fun c2 hF=>?_) (fun c2 hF=>?_)
   ·obtain⟨c3,hF⟩:=chkb hF
    refine AWP.rg [(1,.q),(2,.litFb),(3,.post (.post (.appT Zl a [([]:(List Zg))] [.pv (nils)] c3) (.nilA 4 Zl a [.pv (nils)] 0 77 2 rfl)) (.eqC 4 (ca:=cellsO Zl a++[owB 77 2 Zh ([]:(List Zg))]) (cb:=cellsO Zl (a++[([]:(List Zg))])) (Zj8 (m:=[([]:(List Zg))])))),(5,.m)] [(4,(.ptr 2 0)),(5,(.ptr 3 0))] [.cells (Zk f.2),.cells (Zf b),.cells (Zf Zq),.far [.sc (.bool d),(.own 4 (List.length (a++[([]:(List Zg))])))],.tr 73 1 (List.length (a++[([]:(List Zg))])) (cellsO Zl (a++[([]:(List Zg))])),.fb 1 73 [[nils]]] (LeQ.start ?_)
    refine LeQ.pk [4,5] 5 ?_ (hfar:=(farC (by kernel_rfl) (farC (by kernel_rfl) (farC (by kernel_rfl) (farC (by kernel_rfl) (farC (farT (fun z_=>(OVids.c (Ze0 (row:=Zh) (fun _=>rfl) _) OVids.n))) farN))))))
    exact⟨rfl,f.2,d,(a++[([]:(List Zg))]),(someb hF).symm,by kernel_rfl,by kernel_rfl⟩
   ·refine AWP.seq (AWP.rg0 [] [(0,(.ptr 0 0)),(4,(.ptr 2 0)),(5,(.ptr 3 0)),(30,(i64 f.1)),(59,(vb (f.1 == (1:Int))))] ?_)
    refine AWP.cif hF (fun c4 hF=>?_) (fun c4 hF=>?_)
    ·refine AWP.rg [(1,.q),(4,.m)] [(4,(.ptr 2 0)),(5,(.ptr 3 0))] [.cells (Zk f.2),.cells (Zf b),.cells (Zf Zq),.far [.sc (.bool (!d)),(.own 4 (List.length a))],.tr 73 1 (List.length a) (cellsO Zl a)] (LeQ.start ?_)
     refine LeQ.pk [4,5] 5 ?_ (hfar:=(farC (by kernel_rfl) (farC (by kernel_rfl) (farC (by kernel_rfl) (farC (by kernel_rfl) (farC (farT (fun z_=>(OVids.c (Ze0 (row:=Zh) (fun _=>rfl) _) OVids.n))) farN))))))
     exact⟨rfl,f.2,(!d),a,(someb hF).symm,by kernel_rfl,by kernel_rfl⟩
    ·refine AWP.seq (AWP.rg0 [] [(0,(.ptr 0 0)),(4,(.ptr 2 0)),(5,(.ptr 3 0)),(30,(i64 f.1)),(65,(vb (f.1 == (2:Int))))] ?_)
     refine AWP.cif hF (fun c5 hF=>?_) (fun c5 hF=>?_)
     ·obtain⟨u,c6,hF⟩:=bindb hF
      obtain⟨p,c7,hF⟩:=bindb hF
      obtain⟨c8,hF⟩:=chkb hF
      refine AWP.dr [(1,.q),(3,.call Tryz.func10 [] (Za3 f.2 (6:Int) u c6)),(6,.call Tryz.func10 [] (Za3 u.2 (6:Int) p c7)),(9,.m),(10,.litFb),(11,.post (.post (.appT Zl a [[(Zg.mk (ZI (u.1 - (1:Int))) (ZI (p.1 - (1:Int))))]] [.pv (.own 5 (List.length [(Zg.mk (ZI (u.1 - (1:Int))) (ZI (p.1 - (1:Int))))]))] c8) (.giveA 4 5 Zl a [.pv (.own 5 (List.length [(Zg.mk (ZI (u.1 - (1:Int))) (ZI (p.1 - (1:Int))))]))] 0 Zh 2 [(Zg.mk (ZI (u.1 - (1:Int))) (ZI (p.1 - (1:Int))))] 77 (List.length [(Zg.mk (ZI (u.1 - (1:Int))) (ZI (p.1 - (1:Int))))]) rfl rfl)) (.eqC 4 (ca:=cellsO Zl a++[owB 77 2 Zh [(Zg.mk (ZI (u.1 - (1:Int))) (ZI (p.1 - (1:Int))))]]) (cb:=cellsO Zl (a++[[(Zg.mk (ZI (u.1 - (1:Int))) (ZI (p.1 - (1:Int))))]])) (Zj8 (m:=[[(Zg.mk (ZI (u.1 - (1:Int))) (ZI (p.1 - (1:Int))))]])))),(13,.m)] 12 [] [3,6,7,8,9,10,11] [] [(4,(.ptr 2 0)),(5,(.ptr 3 0))] [.cells (Zk p.2),.cells (Zf b),.cells (Zf Zq),.far [.sc (.bool d),(.own 4 (List.length (a++[[(Zg.mk (ZI (u.1 - (1:Int))) (ZI (p.1 - (1:Int))))]])))],.tr 73 1 (List.length (a++[[(Zg.mk (ZI (u.1 - (1:Int))) (ZI (p.1 - (1:Int))))]])) (cellsO Zl (a++[[(Zg.mk (ZI (u.1 - (1:Int))) (ZI (p.1 - (1:Int))))]])),.dead,.fb 1 73 [[(.own 5 (List.length [(Zg.mk (ZI (u.1 - (1:Int))) (ZI (p.1 - (1:Int))))]))]]] (LeQ.start ?_)
      refine LeQ.pk [4,5] 5 ?_ (hfar:=(farC (by kernel_rfl) (farC (by kernel_rfl) (farC (by kernel_rfl) (farC (by kernel_rfl) (farC (farT (fun z_=>(OVids.c (Ze0 (row:=Zh) (fun _=>rfl) _) OVids.n))) farN))))))
      exact⟨rfl,p.2,d,(a++[[(Zg.mk (ZI (u.1 - (1:Int))) (ZI (p.1 - (1:Int))))]]),(someb hF).symm,by kernel_rfl,by kernel_rfl⟩
     ·refine AWP.seq (AWP.rg0 [] [(0,(.ptr 0 0)),(4,(.ptr 2 0)),(5,(.ptr 3 0)),(80,(vb (f.1 == (3:Int))))] ?_)
      refine AWP.cif hF (fun c9 hF=>?_) (fun c9 hF=>?_)
      ·refine AWP.seq (AWP.rg0 [(1,.q),(2,.lenT a)] [(4,(.ptr 2 0)),(5,(.ptr 3 0)),(85,(vb (decide ((List.length a:Int) > (0:Int)))))] ?_)
       refine AWP.cif hF (fun d0 hF=>?_) (fun d0 hF=>?_)
       ·obtain⟨o,a2,hF⟩:=bindb hF
        refine AWP.gst (.takeB 4 Zl (fun _=>rfl) a2 (off:=0) (by decide) Zh (fun _=>rfl) (fun _=>rfl) o 77 rfl) [.cells (Zk f.2),.cells (Zf b),.cells (Zf Zq),.far [.sc (.bool d),(.own 4 (List.length a))],.tr 73 1 (List.length a) (List.set (cellsO Zl a) (Int.toNat (0:Int) * 1 + 0) (.pv (.own 5 (List.length o)))),bf 2 77 Zh o false] ?_
        obtain⟨y,b0,hF⟩:=bindb hF
        obtain⟨d1,hF⟩:=chkb hF
        refine AWP.dr [(1,.q),(3,.q),(4,.idxT a2),(5,.ldH Zl (fun _=>rfl) a2 (.own 5 (List.length o))),(7,.q),(8,.idxT a2),(9,.ldH Zl (fun _=>rfl) a2 (.own 5 (List.length o))),(10,.idx Zh b0),(11,.ldE Zh b0),(13,.app Zh (fun _=>by kernel_rfl) d1),(14,.idxT a2),(15,.stO Zl (fun _=>rfl) a2 0 (some (.own 5 (List.length o))))] 14 [] [11,12,13] [] [(4,(.ptr 2 0)),(5,(.ptr 3 0))] [.cells (Zk f.2),.cells (Zf b),.cells (Zf Zq),.far [.sc (.bool d),(.own 4 (List.length a))],.tr 73 1 (List.length a) (List.set (cellsO Zl a) (Int.toNat (0:Int) * 1 + 0) (.pv (.own 5 (List.length (o++[y]))))),bf 2 77 Zh (o++[y]) false] (LeQ.start ?_)
        refine LeQ.gst (.giveB 4 5 Zl (fun _=>rfl) a2 (off:=0) (by decide) Zh 2 (o++[y]) 77 (List.length (o++[y])) rfl (o++[y]) rfl) [.cells (Zk f.2),.cells (Zf b),.cells (Zf Zq),.far [.sc (.bool d),(.own 4 (List.length a))],.tr 73 1 (List.length a) (cellsO Zl (List.set a (Int.toNat (0:Int)) (o++[y]))),.dead] ?_
        rw [show ([.cells (Zk f.2),.cells (Zf b),.cells (Zf Zq),.far [.sc (.bool d),(.own 4 (List.length a))],.tr 73 1 (List.length a) (cellsO Zl (List.set a (Int.toNat (0:Int)) (o++[y]))),.dead]:List Blk)=[.cells (Zk f.2),.cells (Zf b),.cells (Zf Zq),.far [.sc (.bool d),(.own 4 (List.length (List.set a (Int.toNat (0:Int)) (o++[y]))))],.tr 73 1 (List.length (List.set a (Int.toNat (0:Int)) (o++[y]))) (cellsO Zl (List.set a (Int.toNat (0:Int)) (o++[y]))),.dead] by simp only [List.length_set]]
        refine LeQ.pk [4,5] 5 ?_ (hfar:=(farC (by kernel_rfl) (farC (by kernel_rfl) (farC (by kernel_rfl) (farC (by kernel_rfl) (farC (farT (fun z_=>(OVids.c (Ze0 (row:=Zh) (fun _=>rfl) _) OVids.n))) farN))))))
        exact⟨rfl,f.2,d,(List.set a (Int.toNat (0:Int)) (o++[y])),(someb hF).symm,by kernel_rfl,by kernel_rfl⟩
       ·refine AWP.skip (LeQ.start ?_)
        refine LeQ.pk [4,5] 5 ?_ (hfar:=(farC (by kernel_rfl) (farC (by kernel_rfl) (farC (by kernel_rfl) (farC (by kernel_rfl) (farC (farT (fun z_=>(OVids.c (Ze0 (row:=Zh) (fun _=>rfl) _) OVids.n))) farN))))))
        exact⟨rfl,f.2,d,a,(someb hF).symm,by kernel_rfl,by kernel_rfl⟩
      ·refine AWP.seq ?_
       obtain⟨d2,a6,hF⟩:=bindb hF
       replace a6:=someb a6
       obtain⟨d3,b1,hF⟩:=bindb hF
       refine AWP.to [(0,(.ptr 0 0)),(4,(.ptr 2 0)),(5,(.ptr 3 0)),(42,(vb d3))] [.cells (Zk f.2),.cells (Zf b),.cells (Zf Zq),.far [.sc (.bool d),(.own 4 (List.length a))],.tr 73 1 (List.length a) (cellsO Zl a)] ?_ ?_
       ·cases d2 with
        | false=>
         have d4:=someb (ifF b1 rfl)
         subst d4
         exact AWP.rgT [(1,.q),(2,.lenT a),(4,.bool a6)]
        | true=>
         have a5:=ifT b1 rfl
         obtain⟨d7,b2,a5⟩:=bindb a5
         replace a5:=someb a5
         subst a5
         exact AWP.rgT [(1,.q),(2,.lenT a),(4,.bool a6),(6,.q),(7,.idxT b2),(8,.ldT Zl (fun _=>rfl) b2),(9,.lenL)]
       refine AWP.cif hF (fun d5 hF=>?_) (fun d5 hF=>?_)
       ·obtain⟨j,a7,hF⟩:=bindb hF
        refine AWP.gst (.takeB 4 Zl (fun _=>rfl) a7 (off:=0) (by decide) Zh (fun _=>rfl) (fun _=>rfl) j 77 rfl) [.cells (Zk f.2),.cells (Zf b),.cells (Zf Zq),.far [.sc (.bool d),(.own 4 (List.length a))],.tr 73 1 (List.length a) (List.set (cellsO Zl a) (Int.toNat (0:Int) * 1 + 0) (.pv (.own 5 (List.length j)))),bf 2 77 Zh j false] ?_
        obtain⟨g,d6,hF⟩:=bindb hF
        obtain⟨w,b3,hF⟩:=bindb hF
        refine AWP.dr [(1,.q),(2,.idxT a7),(3,.ldH Zl (fun _=>rfl) a7 (.own 5 (List.length j))),(5,.call Tryz.func10 [] (Za3 f.2 (6:Int) g d6)),(7,.idx Zh b3),(8,.fdE Zh j (0:Int)),(9,.stE Zh b3 ({ w with Version:=(ZI (g.1 - (1:Int))) }:Zg))] 7 [] [5] [] [(4,(.ptr 2 0)),(5,(.ptr 3 0))] [.cells (Zk g.2),.cells (Zf b),.cells (Zf Zq),.far [.sc (.bool d),(.own 4 (List.length a))],.tr 73 1 (List.length a) (List.set (cellsO Zl a) (Int.toNat (0:Int) * 1 + 0) (.pv (.own 5 (List.length j)))),bf 2 77 Zh (List.set j (Int.toNat (0:Int)) ({ w with Version:=(ZI (g.1 - (1:Int))) }:Zg)) false] ?_
        rw [show ([.cells (Zk g.2),.cells (Zf b),.cells (Zf Zq),.far [.sc (.bool d),(.own 4 (List.length a))],.tr 73 1 (List.length a) (List.set (cellsO Zl a) (Int.toNat (0:Int) * 1 + 0) (.pv (.own 5 (List.length j)))),bf 2 77 Zh (List.set j (Int.toNat (0:Int)) ({ w with Version:=(ZI (g.1 - (1:Int))) }:Zg)) false]:List Blk)=[.cells (Zk g.2),.cells (Zf b),.cells (Zf Zq),.far [.sc (.bool d),(.own 4 (List.length a))],.tr 73 1 (List.length a) (List.set (cellsO Zl a) (Int.toNat (0:Int) * 1 + 0) (.pv (.own 5 (List.length (List.set j (Int.toNat (0:Int)) ({ w with Version:=(ZI (g.1 - (1:Int))) }:Zg)))))),bf 2 77 Zh (List.set j (Int.toNat (0:Int)) ({ w with Version:=(ZI (g.1 - (1:Int))) }:Zg)) false] by simp only [List.length_set]]
        refine LeQ.start ?_
        refine LeQ.gst (.giveB 4 5 Zl (fun _=>rfl) a7 (off:=0) (by decide) Zh 2 (List.set j (Int.toNat (0:Int)) ({ w with Version:=(ZI (g.1 - (1:Int))) }:Zg)) 77 (List.length (List.set j (Int.toNat (0:Int)) ({ w with Version:=(ZI (g.1 - (1:Int))) }:Zg))) rfl (List.set j (Int.toNat (0:Int)) ({ w with Version:=(ZI (g.1 - (1:Int))) }:Zg)) rfl) [.cells (Zk g.2),.cells (Zf b),.cells (Zf Zq),.far [.sc (.bool d),(.own 4 (List.length a))],.tr 73 1 (List.length a) (cellsO Zl (List.set a (Int.toNat (0:Int)) (List.set j (Int.toNat (0:Int)) ({ w with Version:=(ZI (g.1 - (1:Int))) }:Zg)))),.dead] ?_
        rw [show ([.cells (Zk g.2),.cells (Zf b),.cells (Zf Zq),.far [.sc (.bool d),(.own 4 (List.length a))],.tr 73 1 (List.length a) (cellsO Zl (List.set a (Int.toNat (0:Int)) (List.set j (Int.toNat (0:Int)) ({ w with Version:=(ZI (g.1 - (1:Int))) }:Zg)))),.dead]:List Blk)=[.cells (Zk g.2),.cells (Zf b),.cells (Zf Zq),.far [.sc (.bool d),(.own 4 (List.length (List.set a (Int.toNat (0:Int)) (List.set j (Int.toNat (0:Int)) ({ w with Version:=(ZI (g.1 - (1:Int))) }:Zg)))))],.tr 73 1 (List.length (List.set a (Int.toNat (0:Int)) (List.set j (Int.toNat (0:Int)) ({ w with Version:=(ZI (g.1 - (1:Int))) }:Zg)))) (cellsO Zl (List.set a (Int.toNat (0:Int)) (List.set j (Int.toNat (0:Int)) ({ w with Version:=(ZI (g.1 - (1:Int))) }:Zg)))),.dead] by simp only [List.length_set]]
        refine LeQ.pk [4,5] 5 ?_ (hfar:=(farC (by kernel_rfl) (farC (by kernel_rfl) (farC (by kernel_rfl) (farC (by kernel_rfl) (farC (farT (fun z_=>(OVids.c (Ze0 (row:=Zh) (fun _=>rfl) _) OVids.n))) farN))))))
        exact⟨rfl,g.2,d,(List.set a (Int.toNat (0:Int)) (List.set j (Int.toNat (0:Int)) ({ w with Version:=(ZI (g.1 - (1:Int))) }:Zg))),(someb hF).symm,by kernel_rfl,by kernel_rfl⟩
       ·refine AWP.skip (LeQ.start ?_)
        refine LeQ.pk [4,5] 5 ?_ (hfar:=(farC (by kernel_rfl) (farC (by kernel_rfl) (farC (by kernel_rfl) (farC (by kernel_rfl) (farC (farT (fun z_=>(OVids.c (Ze0 (row:=Zh) (fun _=>rfl) _) OVids.n))) farN))))))
        exact⟨rfl,f.2,d,a,(someb hF).symm,by kernel_rfl,by kernel_rfl⟩
  ·rintro _ _ _ ⟨rfl,a3,a0,k,rfl,rfl,rfl⟩
   refine AWP.seq ?_
   refine AWP.gst (.toBuf 4 Zl Zj (fun _=>rfl) (fun z_=>(FZs.c (FZ.owB (row:=Zh) (s:=2) (fun _=>rfl) (fun _=>rfl) _) FZs.n)) k) [.cells (Zk a3),.cells (Zf b),.cells (Zf Zq),.far [.sc (.bool a0),(.own 4 (List.length k))],bf 1 73 Zj k false] ?_
   refine AWP.share (s:=1) (t:=73) (xs:=List.map Zj k) (sh:=false) (H':=[.cells (Zk a3),.cells (Zf b),.cells (Zf Zq),.far [.sc (.bool a0),(.own 4 (List.length k))],bf 1 73 Zj k true]) 4 (by kernel_rfl) (by kernel_rfl) ?_
   refine AWP.frF (H':=[.cells (Zk a3),.cells (Zf b),.cells (Zf Zq),.cells (Zf (Zu.mk a0 k)),bf 1 73 Zj k true]) (cs:=[.sc (.bool a0),(.own 4 (List.length k))]) (cs':=Zf (Zu.mk a0 k)) 3 (by kernel_rfl) (.cons _ _ _ _ (.refl _) (.cons _ _ _ _ (Wk.ownT (i:=4) (s:=1) (t:=73) (l:=k) (sh:=true) (row:=Zj) (by kernel_rfl) (.inr rfl)) .nil)) (by kernel_rfl) (by kernel_rfl) ?_
   refine AWP.rg [] [(4,(.ptr 2 0))] [.cells (Zk a3),.cells (Zf b),.cells (Zf (Zu.mk a0 k)),.cells (Zf (Zu.mk a0 k)),bf 1 73 Zj k true] (AWP.ret ?_)
   have hr:=someb hF
   subst hr
   exact(FnQ.f0 1 (.inr rfl))
def Zif (r:((List (List Int)) × Int)):PV→List Blk→Prop:=fun p K=>p=(.tup [(slc 1 Zp r.1),(i64 r.2)])∧K=[]
abbrev Zig (r:((List (List Int)) × Int)):Exit→St→List Blk→Prop:=FnQ Tryz.prog Tryz.f23.results 0 (Zif r)
theorem Zlt (a:Zu) (b:Int) (r:((List (List Int)) × Int)) (hF:Zdv a b=some r):ACall Tryz.prog glob 23 [(Zdu a),(i64 b)] [] (Zif r):=by
 refine ACall.body Tryz.func23 rfl (by kernel_rfl) ?_
 unfold Zdv at hF
 refine AWP.seq (AWP.rg [] [(1,(i64 b)),(2,(.ptr 0 0))] [.cells (Zf a)] (AWP.seq (AWP.seq ?_)))
 obtain⟨b2,a5,hF⟩:=bindb hF
 replace a5:=someb a5
 refine AWP.to [(1,(i64 b)),(2,(.ptr 0 0)),(18,(vb (b2 || (decide (b > (12:Int))))))] [.cells (Zf a)] ?_ ?_
 ·cases b2 with
  | false=>
   exact AWP.rgT [(2,.bool a5)]
  | true=>
   exact AWP.rgT [(2,.bool a5)]
 refine AWP.cif hF (fun b4 hF=>?_) (fun b4 hF=>?_)
 ·refine AWP.seq (AWP.rg0 [] [(4,nils),(5,(i64 (1:Int)))] (AWP.ret ?_))
  have hr:=someb hF
  subst hr
  exact(FnQ.f1 0 (.inr rfl) (.inr ⟨_,_,rfl,rfl,(.cons _ _ _ _ (.nil 1) (.cons _ _ _ _ (.refl _) .nil))⟩))
 ·refine AWP.skip (AWP.seq ?_)
  obtain⟨b5,hF⟩:=chkb hF
  refine AWP.rg [(1,.mkN Zi (0:Int) b5)] [(1,(i64 b)),(2,(.ptr 0 0)),(6,(.own 1 (List.length (List.replicate (Int.toNat b) (0:Int)))))] [.cells (Zf a),bf 1 3 Zi (List.replicate (Int.toNat b) (0:Int)) false] (AWP.seq (AWP.rg [(1,.pre (.share 1) (.wkO 1 Zi (List.replicate (Int.toNat b) (0:Int)) (.m)))] [(1,(i64 b)),(2,(.ptr 0 0)),(6,(.own 1 (List.length (List.replicate (Int.toNat b) (0:Int))))),(7,(.own 2 (List.length [(List.replicate (Int.toNat b) (0:Int))])))] [.cells (Zf a),bf 1 3 Zi (List.replicate (Int.toNat b) (0:Int)) true,bf 1 22 Zp [(List.replicate (Int.toNat b) (0:Int))] false] (AWP.seq (AWP.seq (AWP.rg0 [(2,.len Zj a.Rounds)] [(1,(i64 b)),(2,(.ptr 0 0)),(6,(.own 1 (List.length (List.replicate (Int.toNat b) (0:Int))))),(7,(.own 2 (List.length [(List.replicate (Int.toNat b) (0:Int))]))),(24,(slc 1 Zj a.Rounds)),(25,(i64 (List.length a.Rounds:Int))),(26,(i64 (0:Int)))] ?_)))))
  obtain⟨a7,b6,hF⟩:=bindb hF
  refine AWP.mid (fun e st H=>(e=.normal∧∃ a0,a7=(.inl a0)∧st=[(7,(.own 2 (List.length a0)))]∧H=[.cells (Zf a),bf 1 3 Zi (List.replicate (Int.toNat b) (0:Int)) true,bf 1 22 Zp a0 false])∨(e=.ret∧∃ r,a7=(.inr r)∧Zig r e st H)) ?_ ?_
  ·clear hF
   refine AWP.wk (p:=(.own 1 (List.length (List.replicate (Int.toNat b) (0:Int))))) (q:=(slc 1 Zi (List.replicate (Int.toNat b) (0:Int)))) (st':=[(6,(slc 1 Zi (List.replicate (Int.toNat b) (0:Int)))),(1,(i64 b)),(2,(.ptr 0 0)),(7,(.own 2 (List.length [(List.replicate (Int.toNat b) (0:Int))]))),(24,(slc 1 Zj a.Rounds)),(25,(i64 (List.length a.Rounds:Int))),(26,(i64 (0:Int)))]) 6 (by kernel_rfl) (Wk.ownT (i:=1) (s:=1) (t:=3) (l:=(List.replicate (Int.toNat b) (0:Int))) (sh:=true) (row:=Zi) (by kernel_rfl) (.inr rfl)) (by kernel_rfl) ?_
   refine AWP.kp [1,2,6,7,24,25,26] 3 ?_
   refine AWP.bround (fun n st H=>∃ c,∃ u,∃ f,Zb1 a b n c u f=some a7∧st=[(1,(i64 b)),(2,(.ptr 0 0)),(6,(slc 1 Zi u)),(7,(.own 2 (List.length c))),(24,(slc 1 Zj a.Rounds)),(25,(i64 (List.length a.Rounds:Int))),(26,(i64 f))]∧H=[.cells (Zf a),bf 1 3 Zi (List.replicate (Int.toNat b) (0:Int)) true,bf 1 22 Zp c false]) fuel ⟨[(List.replicate (Int.toNat b) (0:Int))],(List.replicate (Int.toNat b) (0:Int)),(0:Int),b6,by kernel_rfl,by kernel_rfl⟩ ?_
   rintro a8 st H ⟨c,u,f,hF,rfl,rfl⟩
   cases a8 with
   | zero=>exact noneb hF
   | succ a8=>
    rw [Zb1] at hF
    refine AWP.seq (AWP.rg0 [] [(1,(i64 b)),(2,(.ptr 0 0)),(6,(slc 1 Zi u)),(7,(.own 2 (List.length c))),(24,(slc 1 Zj a.Rounds)),(25,(i64 (List.length a.Rounds:Int))),(26,(i64 f)),(27,(vb (decide (f<(List.length a.Rounds:Int)))))] (AWP.seq ?_))
    refine AWP.cif hF (fun b7 hF=>?_) (fun b7 hF=>?_)
    ·refine AWP.skip (AWP.seq (AWP.block (AWP.seq ?_)))
     obtain⟨d,b8,hF⟩:=bindb hF
     refine AWP.rg0 [(0,.idx Zj b8)] [(1,(i64 b)),(2,(.ptr 0 0)),(6,(slc 1 Zi u)),(7,(.own 2 (List.length c))),(9,(slc 2 Zh d)),(24,(slc 1 Zj a.Rounds)),(25,(i64 (List.length a.Rounds:Int))),(26,(i64 f))] (AWP.seq (AWP.seq (AWP.rg0 [(1,.len Zh d)] [(1,(i64 b)),(2,(.ptr 0 0)),(6,(slc 1 Zi u)),(7,(.own 2 (List.length c))),(9,(slc 2 Zh d)),(24,(slc 1 Zj a.Rounds)),(25,(i64 (List.length a.Rounds:Int))),(26,(i64 f)),(32,(vb ((List.length d:Int) == (0:Int))))] ?_)))
     refine AWP.cif hF (fun b9 hF=>?_) (fun b9 hF=>?_)
     ·refine AWP.seq (AWP.rg0 [] [(4,nils),(5,(i64 (1:Int)))] (AWP.ret ?_))
      exact LeQ.of (.inr ⟨rfl,(([]:(List (List Int))),(1:Int)),(someb hF).symm,(FnQ.f1 0 (.inr rfl) (.inr ⟨_,_,rfl,rfl,(.cons _ _ _ _ (.nil 1) (.cons _ _ _ _ (.refl _) .nil))⟩))⟩)
     ·refine AWP.skip (AWP.seq ?_)
      obtain⟨c0,hF⟩:=chkb hF
      refine AWP.rg [(1,.clone Tryz.func38 Zi (fun _=>by kernel_rfl) c0)] [(1,(i64 b)),(2,(.ptr 0 0)),(6,(.own 3 (List.length u))),(7,(.own 2 (List.length c))),(9,(slc 2 Zh d)),(24,(slc 1 Zj a.Rounds)),(25,(i64 (List.length a.Rounds:Int))),(26,(i64 f))] [.cells (Zf a),bf 1 3 Zi (List.replicate (Int.toNat b) (0:Int)) true,bf 1 22 Zp c false,bf 1 3 Zi u false] (AWP.seq (AWP.rg0 [] [(1,(i64 b)),(2,(.ptr 0 0)),(6,(.own 3 (List.length u))),(7,(.own 2 (List.length c))),(9,(slc 2 Zh d)),(10,(i64 (-1:Int))),(24,(slc 1 Zj a.Rounds)),(25,(i64 (List.length a.Rounds:Int))),(26,(i64 f))] (AWP.seq (AWP.seq (AWP.rg0 [(1,.len Zh d)] [(1,(i64 b)),(2,(.ptr 0 0)),(6,(.own 3 (List.length u))),(7,(.own 2 (List.length c))),(10,(i64 (-1:Int))),(24,(slc 1 Zj a.Rounds)),(25,(i64 (List.length a.Rounds:Int))),(26,(i64 f)),(35,(slc 2 Zh d)),(36,(i64 (List.length d:Int))),(37,(i64 (0:Int)))] ?_)))))
      obtain⟨a9,c1,hF⟩:=bindb hF
      refine AWP.mid (fun e st H=>(e=.normal∧∃ g,a9=(.inl g)∧st=[(1,(i64 b)),(2,(.ptr 0 0)),(6,(.own 3 (List.length g))),(7,(.own 2 (List.length c))),(24,(slc 1 Zj a.Rounds)),(25,(i64 (List.length a.Rounds:Int))),(26,(i64 f))]∧H=[.cells (Zf a),bf 1 3 Zi (List.replicate (Int.toNat b) (0:Int)) true,bf 1 22 Zp c false,bf 1 3 Zi g false])∨(e=.ret∧∃ r,a9=(.inr r)∧Zig r e st H)) ?_ ?_
      ·clear hF
       refine AWP.kp [1,2,6,7,10,24,25,26,35,36,37] 4 ?_
       refine AWP.bround (fun n st H=>∃ j,∃ a1,∃ o,Zb0 a b d n j a1 o=some a9∧st=[(1,(i64 b)),(2,(.ptr 0 0)),(6,(.own 3 (List.length j))),(7,(.own 2 (List.length c))),(10,(i64 a1)),(24,(slc 1 Zj a.Rounds)),(25,(i64 (List.length a.Rounds:Int))),(26,(i64 f)),(35,(slc 2 Zh d)),(36,(i64 (List.length d:Int))),(37,(i64 o))]∧H=[.cells (Zf a),bf 1 3 Zi (List.replicate (Int.toNat b) (0:Int)) true,bf 1 22 Zp c false,bf 1 3 Zi j false]) fuel ⟨u,(-1:Int),(0:Int),c1,by kernel_rfl,by kernel_rfl⟩ ?_
       rintro b0 st H ⟨j,a1,o,hF,rfl,rfl⟩
       cases b0 with
       | zero=>exact noneb hF
       | succ b0=>
        rw [Zb0] at hF
        refine AWP.seq (AWP.rg0 [] [(1,(i64 b)),(2,(.ptr 0 0)),(6,(.own 3 (List.length j))),(7,(.own 2 (List.length c))),(10,(i64 a1)),(24,(slc 1 Zj a.Rounds)),(25,(i64 (List.length a.Rounds:Int))),(26,(i64 f)),(35,(slc 2 Zh d)),(36,(i64 (List.length d:Int))),(37,(i64 o)),(38,(vb (decide (o<(List.length d:Int)))))] (AWP.seq ?_))
        refine AWP.cif hF (fun c2 hF=>?_) (fun c2 hF=>?_)
        ·refine AWP.skip (AWP.seq (AWP.block (AWP.seq ?_)))
         obtain⟨k,c3,hF⟩:=bindb hF
         refine AWP.rg [(0,.idx Zh c3)] [(1,(i64 b)),(2,(.ptr 0 0)),(6,(.own 3 (List.length j))),(7,(.own 2 (List.length c))),(10,(i64 a1)),(12,(.ptr 4 0)),(24,(slc 1 Zj a.Rounds)),(25,(i64 (List.length a.Rounds:Int))),(26,(i64 f)),(35,(slc 2 Zh d)),(36,(i64 (List.length d:Int))),(37,(i64 o))] [.cells (Zf a),bf 1 3 Zi (List.replicate (Int.toNat b) (0:Int)) true,bf 1 22 Zp c false,bf 1 3 Zi j false,.cells (Zh k)] (AWP.seq (AWP.seq ?_))
         obtain⟨c4,v,hF⟩:=bindb hF
         replace v:=someb v
         obtain⟨c5,w,hF⟩:=bindb hF
         replace w:=someb w
         obtain⟨d9,b1,hF⟩:=bindb hF
         obtain⟨c6,x,hF⟩:=bindb hF
         replace x:=someb x
         obtain⟨c7,y,hF⟩:=bindb hF
         replace y:=someb y
         obtain⟨c8,a2,hF⟩:=bindb hF
         refine AWP.to [(1,(i64 b)),(2,(.ptr 0 0)),(6,(.own 3 (List.length j))),(7,(.own 2 (List.length c))),(12,(.ptr 4 0)),(24,(slc 1 Zj a.Rounds)),(25,(i64 (List.length a.Rounds:Int))),(26,(i64 f)),(35,(slc 2 Zh d)),(36,(i64 (List.length d:Int))),(37,(i64 o)),(75,(vb c8))] [.cells (Zf a),bf 1 3 Zi (List.replicate (Int.toNat b) (0:Int)) true,bf 1 22 Zp c false,bf 1 3 Zi j false,.cells (Zh k)] ?_ ?_
         ·cases c4 with
          | false=>
           cases c5 with
           | false=>
            have a3:=ifF b1 rfl
            obtain⟨e0,z,a3⟩:=bindb a3
            replace a3:=someb a3
            subst a3
            cases c6 with
            | false=>
             cases c7 with
             | false=>
              have a4:=ifF a2 rfl
              obtain⟨c9,a6,a4⟩:=bindb a4
              replace a6:=someb a6
              replace a4:=someb a4
              subst a4
              cases c9 with
              | false=>
               exact AWP.drT [(4,.bool v),(10,.bool w),(16,.idx Zi z),(17,.ldE Zi z),(20,.bool x),(25,.bool y),(29,.bool a6)] 35 [] [] []
              | true=>
               exact AWP.drT [(4,.bool v),(10,.bool w),(16,.idx Zi z),(17,.ldE Zi z),(20,.bool x),(25,.bool y),(29,.bool a6)] 35 [] [] []
             | true=>
              have d0:=someb (ifT a2 rfl)
              subst d0
              exact AWP.drT [(4,.bool v),(10,.bool w),(16,.idx Zi z),(17,.ldE Zi z),(20,.bool x),(25,.bool y)] 35 [] [] []
            | true=>
             subst y
             have d1:=someb (ifT a2 rfl)
             subst d1
             exact AWP.drT [(4,.bool v),(10,.bool w),(16,.idx Zi z),(17,.ldE Zi z),(20,.bool x)] 35 [] [] []
           | true=>
            have d2:=someb (ifT b1 rfl)
            subst d2
            subst x
            subst y
            have d3:=someb (ifT a2 rfl)
            subst d3
            exact AWP.drT [(4,.bool v),(10,.bool w)] 35 [] [] []
          | true=>
           subst w
           have d4:=someb (ifT b1 rfl)
           subst d4
           subst x
           subst y
           have d5:=someb (ifT a2 rfl)
           subst d5
           exact AWP.drT [(4,.bool v)] 35 [] [] []
         refine AWP.cif hF (fun d6 hF=>?_) (fun d6 hF=>?_)
         ·refine AWP.seq (AWP.rg0 [] [(4,nils),(5,(i64 (1:Int)))] (AWP.ret ?_))
          exact LeQ.of (.inr ⟨rfl,(([]:(List (List Int))),(1:Int)),(someb hF).symm,(FnQ.f1 0 (.inr rfl) (.inr ⟨_,_,rfl,rfl,(.cons _ _ _ _ (.nil 1) (.cons _ _ _ _ (.refl _) .nil))⟩))⟩)
         ·refine AWP.skip (AWP.seq ?_)
          obtain⟨e1,b3,hF⟩:=bindb hF
          refine AWP.rg [(5,.idx Zi b3),(6,.stE Zi b3 k.Version)] [(1,(i64 b)),(2,(.ptr 0 0)),(6,(.own 3 (List.length j))),(7,(.own 2 (List.length c))),(12,(.ptr 4 0)),(24,(slc 1 Zj a.Rounds)),(25,(i64 (List.length a.Rounds:Int))),(26,(i64 f)),(35,(slc 2 Zh d)),(36,(i64 (List.length d:Int))),(37,(i64 o))] [.cells (Zf a),bf 1 3 Zi (List.replicate (Int.toNat b) (0:Int)) true,bf 1 22 Zp c false,bf 1 3 Zi (List.set j (Int.toNat k.Device) k.Version) false,.cells (Zh k)] ?_
          rw [show ([(1,(i64 b)),(2,(.ptr 0 0)),(6,(.own 3 (List.length j))),(7,(.own 2 (List.length c))),(12,(.ptr 4 0)),(24,(slc 1 Zj a.Rounds)),(25,(i64 (List.length a.Rounds:Int))),(26,(i64 f)),(35,(slc 2 Zh d)),(36,(i64 (List.length d:Int))),(37,(i64 o))]:St)=[(1,(i64 b)),(2,(.ptr 0 0)),(6,(.own 3 (List.length (List.set j (Int.toNat k.Device) k.Version)))),(7,(.own 2 (List.length c))),(12,(.ptr 4 0)),(24,(slc 1 Zj a.Rounds)),(25,(i64 (List.length a.Rounds:Int))),(26,(i64 f)),(35,(slc 2 Zh d)),(36,(i64 (List.length d:Int))),(37,(i64 o))] by simp only [List.length_set]]
          refine AWP.rg0 [] [(1,(i64 b)),(2,(.ptr 0 0)),(6,(.own 3 (List.length (List.set j (Int.toNat k.Device) k.Version)))),(7,(.own 2 (List.length c))),(10,(i64 k.Device)),(24,(slc 1 Zj a.Rounds)),(25,(i64 (List.length a.Rounds:Int))),(26,(i64 f)),(35,(slc 2 Zh d)),(36,(i64 (List.length d:Int))),(37,(i64 o))] (AWP.rg0 [] [(1,(i64 b)),(2,(.ptr 0 0)),(6,(.own 3 (List.length (List.set j (Int.toNat k.Device) k.Version)))),(7,(.own 2 (List.length c))),(10,(i64 k.Device)),(24,(slc 1 Zj a.Rounds)),(25,(i64 (List.length a.Rounds:Int))),(26,(i64 f)),(35,(slc 2 Zh d)),(36,(i64 (List.length d:Int))),(37,(i64 (ZI (o + (1:Int)))))] (LeQ.start (LeQ.pk [1,2,6,7,10,24,25,26,35,36,37] 4 ?_)))
          exact⟨b0,Nat.lt_succ_self _,(List.set j (Int.toNat k.Device) k.Version),k.Device,(ZI (o + (1:Int))),hF,by kernel_rfl,by kernel_rfl⟩
        ·refine AWP.exit (LeQ.start (LeQ.pk [1,2,6,7,24,25,26] 4 ?_))
         exact(.inl ⟨rfl,j,(someb hF).symm,by kernel_rfl,by kernel_rfl⟩)
      ·rintro _ _ _ (⟨rfl,g,rfl,rfl,rfl⟩ | ⟨rfl,d7,rfl,hq⟩)
       ·obtain⟨d8,hF⟩:=chkb hF
        refine AWP.rg [(2,.pre (.share 3) (.wkO 3 Zi g (.s))),(3,.app Zp (fun _=>by kernel_rfl) d8)] [(1,(i64 b)),(2,(.ptr 0 0)),(6,(.own 3 (List.length g))),(7,(.own 2 (List.length (c++[g])))),(24,(slc 1 Zj a.Rounds)),(25,(i64 (List.length a.Rounds:Int))),(26,(i64 f))] [.cells (Zf a),bf 1 3 Zi (List.replicate (Int.toNat b) (0:Int)) true,bf 1 22 Zp (c++[g]) false,bf 1 3 Zi g true] (AWP.rg0 [] [(1,(i64 b)),(2,(.ptr 0 0)),(6,(.own 3 (List.length g))),(7,(.own 2 (List.length (c++[g])))),(24,(slc 1 Zj a.Rounds)),(25,(i64 (List.length a.Rounds:Int))),(26,(i64 (ZI (f + (1:Int)))))] (LeQ.start ?_))
        refine LeQ.wk (p:=(.own 3 (List.length g))) (q:=(slc 1 Zi g)) (st':=[(6,(slc 1 Zi g)),(1,(i64 b)),(2,(.ptr 0 0)),(7,(.own 2 (List.length (c++[g])))),(24,(slc 1 Zj a.Rounds)),(25,(i64 (List.length a.Rounds:Int))),(26,(i64 (ZI (f + (1:Int)))))]) 6 (by kernel_rfl) (Wk.ownT (i:=3) (s:=1) (t:=3) (l:=g) (sh:=true) (row:=Zi) (by kernel_rfl) (.inr rfl)) (by kernel_rfl) ?_
        refine LeQ.pk [1,2,6,7,24,25,26] 3 ?_
        exact⟨a8,Nat.lt_succ_self _,(c++[g]),g,(ZI (f + (1:Int))),hF,by kernel_rfl,by kernel_rfl⟩
       ·exact LeQ.of (.inr ⟨rfl,d7,(someb hF).symm,hq⟩)
    ·refine AWP.exit (LeQ.start (LeQ.pk [7] 3 ?_))
     exact(.inl ⟨rfl,c,(someb hF).symm,by kernel_rfl,by kernel_rfl⟩)
  ·rintro _ _ _ (⟨rfl,a0,rfl,rfl,rfl⟩ | ⟨rfl,e2,rfl,hq⟩)
   ·refine AWP.seq (AWP.rg0 [] [(4,(.own 2 (List.length a0))),(5,(i64 (0:Int)))] (AWP.ret ?_))
    have hr:=someb hF
    subst hr
    exact(FnQ.f1 0 (.inr rfl) (.inr ⟨_,_,rfl,rfl,(.cons _ _ _ _ (Wk.ownT (i:=2) (s:=1) (t:=22) (l:=a0) (sh:=false) (row:=Zp) (by kernel_rfl) (.inl rfl)) (.cons _ _ _ _ (.refl _) .nil))⟩))
   ·have hr:=someb hF
    subst hr
    exact hq
def Zhn (r:((List (List Int)) × Int)):PV→List Blk→Prop:=fun p K=>p=(.tup [(slc 1 Zp r.1),(i64 r.2)])∧K=[]
abbrev Zho (r:((List (List Int)) × Int)):Exit→St→List Blk→Prop:=FnQ Tryz.prog Tryz.f26.results 0 (Zhn r)
theorem Zk0 (d:Zu) (a:Int) (r:((List (List Int)) × Int)) (hF:Zdo d a=some r):ACall Tryz.prog glob 26 [(Zdu d),(i64 a)] [] (Zhn r):=by
 refine ACall.body Tryz.func26 rfl (by kernel_rfl) ?_
 unfold Zdo at hF
 refine AWP.seq (AWP.rg [] [(1,(i64 a)),(2,(.ptr 0 0))] [.cells (Zf d)] (AWP.seq (AWP.seq ?_)))
 obtain⟨c0,b3,hF⟩:=bindb hF
 replace b3:=someb b3
 refine AWP.to [(1,(i64 a)),(2,(.ptr 0 0)),(17,(vb (c0 || (decide (a > (12:Int))))))] [.cells (Zf d)] ?_ ?_
 ·cases c0 with
  | false=>
   exact AWP.rgT [(2,.bool b3)]
  | true=>
   exact AWP.rgT [(2,.bool b3)]
 refine AWP.cif hF (fun c5 hF=>?_) (fun c5 hF=>?_)
 ·refine AWP.seq (AWP.rg0 [] [(4,nils),(5,(i64 (1:Int)))] (AWP.ret ?_))
  have hr:=someb hF
  subst hr
  exact(FnQ.f1 0 (.inr rfl) (.inr ⟨_,_,rfl,rfl,(.cons _ _ _ _ (.nil 1) (.cons _ _ _ _ (.refl _) .nil))⟩))
 ·refine AWP.skip (AWP.seq ?_)
  obtain⟨c6,hF⟩:=chkb hF
  refine AWP.rg [(1,.mkN Zi (0:Int) c6)] [(1,(i64 a)),(2,(.ptr 0 0)),(6,(.own 1 (List.length (List.replicate (Int.toNat a) (0:Int)))))] [.cells (Zf d),bf 1 3 Zi (List.replicate (Int.toNat a) (0:Int)) false] (AWP.seq (AWP.rg [(1,.pre (.share 1) (.wkO 1 Zi (List.replicate (Int.toNat a) (0:Int)) (.m)))] [(1,(i64 a)),(2,(.ptr 0 0)),(6,(.own 1 (List.length (List.replicate (Int.toNat a) (0:Int))))),(7,(.own 2 (List.length [(List.replicate (Int.toNat a) (0:Int))])))] [.cells (Zf d),bf 1 3 Zi (List.replicate (Int.toNat a) (0:Int)) true,bf 1 22 Zp [(List.replicate (Int.toNat a) (0:Int))] false] (AWP.seq (AWP.seq (AWP.rg0 [] [(1,(i64 a)),(2,(.ptr 0 0)),(6,(.own 1 (List.length (List.replicate (Int.toNat a) (0:Int))))),(7,(.own 2 (List.length [(List.replicate (Int.toNat a) (0:Int))]))),(8,(i64 (0:Int)))] ?_)))))
  obtain⟨b4,c7,hF⟩:=bindb hF
  refine AWP.mid (fun e st H=>(e=.normal∧∃ a5,b4=(.inl a5)∧st=[(7,(.own 2 (List.length a5)))]∧H=[.cells (Zf d),bf 1 3 Zi (List.replicate (Int.toNat a) (0:Int)) true,bf 1 22 Zp a5 false])∨(e=.ret∧∃ r,b4=(.inr r)∧Zho r e st H)) ?_ ?_
  ·clear hF
   refine AWP.wk (p:=(.own 1 (List.length (List.replicate (Int.toNat a) (0:Int))))) (q:=(slc 1 Zi (List.replicate (Int.toNat a) (0:Int)))) (st':=[(6,(slc 1 Zi (List.replicate (Int.toNat a) (0:Int)))),(1,(i64 a)),(2,(.ptr 0 0)),(7,(.own 2 (List.length [(List.replicate (Int.toNat a) (0:Int))]))),(8,(i64 (0:Int)))]) 6 (by kernel_rfl) (Wk.ownT (i:=1) (s:=1) (t:=3) (l:=(List.replicate (Int.toNat a) (0:Int))) (sh:=true) (row:=Zi) (by kernel_rfl) (.inr rfl)) (by kernel_rfl) ?_
   refine AWP.kp [1,2,6,7,8] 3 ?_
   refine AWP.bround (fun n st H=>∃ b,∃ a0,∃ c,Zbu d a n b a0 c=some b4∧st=[(1,(i64 a)),(2,(.ptr 0 0)),(6,(slc 1 Zi a0)),(7,(.own 2 (List.length b))),(8,(i64 c))]∧H=[.cells (Zf d),bf 1 3 Zi (List.replicate (Int.toNat a) (0:Int)) true,bf 1 22 Zp b false]) fuel ⟨[(List.replicate (Int.toNat a) (0:Int))],(List.replicate (Int.toNat a) (0:Int)),(0:Int),c7,by kernel_rfl,by kernel_rfl⟩ ?_
   rintro b5 st H ⟨b,a0,c,hF,rfl,rfl⟩
   cases b5 with
   | zero=>exact noneb hF
   | succ b5=>
    rw [Zbu] at hF
    refine AWP.seq (AWP.seq (AWP.rg0 [(3,.len Zj d.Rounds)] [(1,(i64 a)),(2,(.ptr 0 0)),(6,(slc 1 Zi a0)),(7,(.own 2 (List.length b))),(8,(i64 c)),(26,(vb (decide (c<(List.length d.Rounds:Int)))))] ?_))
    refine AWP.cif hF (fun c8 hF=>?_) (fun c8 hF=>?_)
    ·refine AWP.skip (AWP.seq (AWP.block (AWP.seq ?_)))
     obtain⟨g,c9,hF⟩:=bindb hF
     refine AWP.rg0 [(3,.idx Zj c9)] [(1,(i64 a)),(2,(.ptr 0 0)),(6,(slc 1 Zi a0)),(7,(.own 2 (List.length b))),(8,(i64 c)),(9,(slc 2 Zh g))] (AWP.seq ?_)
     obtain⟨d0,hF⟩:=chkb hF
     refine AWP.rg [(0,.m),(2,.app Zi (fun _=>by kernel_rfl) d0)] [(1,(i64 a)),(2,(.ptr 0 0)),(6,(.own 3 (List.length (([]:(List Int))++a0)))),(7,(.own 2 (List.length b))),(8,(i64 c)),(9,(slc 2 Zh g))] [.cells (Zf d),bf 1 3 Zi (List.replicate (Int.toNat a) (0:Int)) true,bf 1 22 Zp b false,bf 1 3 Zi (([]:(List Int))++a0) false] (AWP.seq (AWP.seq (AWP.rg0 [(1,.len Zh g)] [(1,(i64 a)),(2,(.ptr 0 0)),(6,(.own 3 (List.length (([]:(List Int))++a0)))),(7,(.own 2 (List.length b))),(8,(i64 c)),(9,(slc 2 Zh g)),(39,(vb ((List.length g:Int) == (0:Int))))] ?_)))
     refine AWP.cif hF (fun d1 hF=>?_) (fun d1 hF=>?_)
     ·refine AWP.seq (AWP.rg0 [] [(4,nils),(5,(i64 (1:Int)))] (AWP.ret ?_))
      exact LeQ.of (.inr ⟨rfl,(([]:(List (List Int))),(1:Int)),(someb hF).symm,(FnQ.f1 0 (.inr rfl) (.inr ⟨_,_,rfl,rfl,(.cons _ _ _ _ (.nil 1) (.cons _ _ _ _ (.refl _) .nil))⟩))⟩)
     ·refine AWP.skip (AWP.seq (AWP.seq (AWP.rg0 [] [(1,(i64 a)),(2,(.ptr 0 0)),(6,(.own 3 (List.length (([]:(List Int))++a0)))),(7,(.own 2 (List.length b))),(8,(i64 c)),(9,(slc 2 Zh g)),(10,(i64 (0:Int)))] ?_)))
      obtain⟨b6,d2,hF⟩:=bindb hF
      refine AWP.mid (fun e st H=>(e=.normal∧∃ f,b6=(.inl f)∧st=[(1,(i64 a)),(2,(.ptr 0 0)),(6,(.own 3 (List.length f))),(7,(.own 2 (List.length b))),(8,(i64 c))]∧H=[.cells (Zf d),bf 1 3 Zi (List.replicate (Int.toNat a) (0:Int)) true,bf 1 22 Zp b false,bf 1 3 Zi f false])∨(e=.ret∧∃ r,b6=(.inr r)∧Zho r e st H)) ?_ ?_
      ·clear hF
       refine AWP.kp [1,2,6,7,8,9,10] 4 ?_
       refine AWP.bround (fun n st H=>∃ k,∃ x,Zbt d a g n k x=some b6∧st=[(1,(i64 a)),(2,(.ptr 0 0)),(6,(.own 3 (List.length k))),(7,(.own 2 (List.length b))),(8,(i64 c)),(9,(slc 2 Zh g)),(10,(i64 x))]∧H=[.cells (Zf d),bf 1 3 Zi (List.replicate (Int.toNat a) (0:Int)) true,bf 1 22 Zp b false,bf 1 3 Zi k false]) fuel ⟨(([]:(List Int))++a0),(0:Int),d2,by kernel_rfl,by kernel_rfl⟩ ?_
       rintro b7 st H ⟨k,x,hF,rfl,rfl⟩
       cases b7 with
       | zero=>exact noneb hF
       | succ b7=>
        rw [Zbt] at hF
        refine AWP.seq (AWP.seq (AWP.rg0 [(2,.len Zh g)] [(1,(i64 a)),(2,(.ptr 0 0)),(6,(.own 3 (List.length k))),(7,(.own 2 (List.length b))),(8,(i64 c)),(9,(slc 2 Zh g)),(10,(i64 x)),(43,(vb (decide (x<(List.length g:Int)))))] ?_))
        refine AWP.cif hF (fun d3 hF=>?_) (fun d3 hF=>?_)
        ·refine AWP.skip (AWP.seq (AWP.block (AWP.seq ?_)))
         obtain⟨y,d4,hF⟩:=bindb hF
         refine AWP.rg [(2,.idx Zh d4)] [(1,(i64 a)),(2,(.ptr 0 0)),(6,(.own 3 (List.length k))),(7,(.own 2 (List.length b))),(8,(i64 c)),(9,(slc 2 Zh g)),(10,(i64 x)),(11,(.ptr 4 0))] [.cells (Zf d),bf 1 3 Zi (List.replicate (Int.toNat a) (0:Int)) true,bf 1 22 Zp b false,bf 1 3 Zi k false,.cells (Zh y)] (AWP.seq (AWP.seq ?_))
         obtain⟨d5,o,hF⟩:=bindb hF
         replace o:=someb o
         obtain⟨d6,u,hF⟩:=bindb hF
         replace u:=someb u
         obtain⟨f8,b8,hF⟩:=bindb hF
         obtain⟨d7,a1,hF⟩:=bindb hF
         replace a1:=someb a1
         obtain⟨f9,a6,hF⟩:=bindb hF
         obtain⟨c1,v,hF⟩:=bindb hF
         replace v:=someb v
         obtain⟨c2,w,hF⟩:=bindb hF
         replace w:=someb w
         obtain⟨d8,a2,hF⟩:=bindb hF
         refine AWP.to [(1,(i64 a)),(2,(.ptr 0 0)),(6,(.own 3 (List.length k))),(7,(.own 2 (List.length b))),(8,(i64 c)),(9,(slc 2 Zh g)),(10,(i64 x)),(11,(.ptr 4 0)),(98,(vb d8))] [.cells (Zf d),bf 1 3 Zi (List.replicate (Int.toNat a) (0:Int)) true,bf 1 22 Zp b false,bf 1 3 Zi k false,.cells (Zh y)] ?_ ?_
         ·cases d5 with
          | false=>
           cases d6 with
           | false=>
            have a4:=ifF b8 rfl
            obtain⟨d9,z,a4⟩:=bindb a4
            replace z:=someb z
            obtain⟨g0,c3,a4⟩:=bindb a4
            replace a4:=someb a4
            subst a4
            cases d9 with
            | false=>
             have e0:=someb (ifF c3 rfl)
             subst e0
             subst a1
             have a7:=ifF a6 rfl
             obtain⟨e1,j,a7⟩:=bindb a7
             replace a7:=someb a7
             subst a7
             cases c1 with
             | false=>
              cases c2 with
              | false=>
               have a8:=ifF a2 rfl
               obtain⟨b9,a3,a8⟩:=bindb a8
               replace a3:=someb a3
               replace a8:=someb a8
               subst a8
               cases b9 with
               | false=>
                exact AWP.drT [(3,.bool o),(9,.bool u),(12,.bool z),(30,.idx Zi j),(31,.ldE Zi j),(34,.bool v),(39,.bool w),(43,.bool a3)] 49 [] [] []
               | true=>
                exact AWP.drT [(3,.bool o),(9,.bool u),(12,.bool z),(30,.idx Zi j),(31,.ldE Zi j),(34,.bool v),(39,.bool w),(43,.bool a3)] 49 [] [] []
              | true=>
               have e2:=someb (ifT a2 rfl)
               subst e2
               exact AWP.drT [(3,.bool o),(9,.bool u),(12,.bool z),(30,.idx Zi j),(31,.ldE Zi j),(34,.bool v),(39,.bool w)] 49 [] [] []
             | true=>
              subst w
              have e3:=someb (ifT a2 rfl)
              subst e3
              exact AWP.drT [(3,.bool o),(9,.bool u),(12,.bool z),(30,.idx Zi j),(31,.ldE Zi j),(34,.bool v)] 49 [] [] []
            | true=>
             have a9:=ifT c3 rfl
             obtain⟨g1,b0,a9⟩:=bindb a9
             replace a9:=someb a9
             subst a9
             cases d7 with
             | false=>
              have b1:=ifF a6 rfl
              obtain⟨e1,j,b1⟩:=bindb b1
              replace b1:=someb b1
              subst b1
              cases c1 with
              | false=>
               cases c2 with
               | false=>
                have b2:=ifF a2 rfl
                obtain⟨b9,a3,b2⟩:=bindb b2
                replace a3:=someb a3
                replace b2:=someb b2
                subst b2
                cases b9 with
                | false=>
                 exact AWP.drT [(3,.bool o),(9,.bool u),(12,.bool z),(16,.idx Zh b0),(24,.bool a1),(30,.idx Zi j),(31,.ldE Zi j),(34,.bool v),(39,.bool w),(43,.bool a3)] 49 [] [] []
                | true=>
                 exact AWP.drT [(3,.bool o),(9,.bool u),(12,.bool z),(16,.idx Zh b0),(24,.bool a1),(30,.idx Zi j),(31,.ldE Zi j),(34,.bool v),(39,.bool w),(43,.bool a3)] 49 [] [] []
               | true=>
                have e4:=someb (ifT a2 rfl)
                subst e4
                exact AWP.drT [(3,.bool o),(9,.bool u),(12,.bool z),(16,.idx Zh b0),(24,.bool a1),(30,.idx Zi j),(31,.ldE Zi j),(34,.bool v),(39,.bool w)] 49 [] [] []
              | true=>
               subst w
               have e5:=someb (ifT a2 rfl)
               subst e5
               exact AWP.drT [(3,.bool o),(9,.bool u),(12,.bool z),(16,.idx Zh b0),(24,.bool a1),(30,.idx Zi j),(31,.ldE Zi j),(34,.bool v)] 49 [] [] []
             | true=>
              have e6:=someb (ifT a6 rfl)
              subst e6
              subst v
              subst w
              have e7:=someb (ifT a2 rfl)
              subst e7
              exact AWP.drT [(3,.bool o),(9,.bool u),(12,.bool z),(16,.idx Zh b0),(24,.bool a1)] 49 [] [] []
           | true=>
            have e8:=someb (ifT b8 rfl)
            subst e8
            subst a1
            have e9:=someb (ifT a6 rfl)
            subst e9
            subst v
            subst w
            have f0:=someb (ifT a2 rfl)
            subst f0
            exact AWP.drT [(3,.bool o),(9,.bool u)] 49 [] [] []
          | true=>
           subst u
           have f2:=someb (ifT b8 rfl)
           subst f2
           subst a1
           have f3:=someb (ifT a6 rfl)
           subst f3
           subst v
           subst w
           have f4:=someb (ifT a2 rfl)
           subst f4
           exact AWP.drT [(3,.bool o)] 49 [] [] []
         refine AWP.cif hF (fun f5 hF=>?_) (fun f5 hF=>?_)
         ·refine AWP.seq (AWP.rg0 [] [(4,nils),(5,(i64 (1:Int)))] (AWP.ret ?_))
          exact LeQ.of (.inr ⟨rfl,(([]:(List (List Int))),(1:Int)),(someb hF).symm,(FnQ.f1 0 (.inr rfl) (.inr ⟨_,_,rfl,rfl,(.cons _ _ _ _ (.nil 1) (.cons _ _ _ _ (.refl _) .nil))⟩))⟩)
         ·refine AWP.skip ?_
          obtain⟨g2,c4,hF⟩:=bindb hF
          refine AWP.rg [(5,.idx Zi c4),(6,.stE Zi c4 y.Version)] [(1,(i64 a)),(2,(.ptr 0 0)),(6,(.own 3 (List.length k))),(7,(.own 2 (List.length b))),(8,(i64 c)),(9,(slc 2 Zh g)),(10,(i64 x))] [.cells (Zf d),bf 1 3 Zi (List.replicate (Int.toNat a) (0:Int)) true,bf 1 22 Zp b false,bf 1 3 Zi (List.set k (Int.toNat y.Device) y.Version) false,.cells (Zh y)] ?_
          rw [show ([(1,(i64 a)),(2,(.ptr 0 0)),(6,(.own 3 (List.length k))),(7,(.own 2 (List.length b))),(8,(i64 c)),(9,(slc 2 Zh g)),(10,(i64 x))]:St)=[(1,(i64 a)),(2,(.ptr 0 0)),(6,(.own 3 (List.length (List.set k (Int.toNat y.Device) y.Version)))),(7,(.own 2 (List.length b))),(8,(i64 c)),(9,(slc 2 Zh g)),(10,(i64 x))] by simp only [List.length_set]]
          refine AWP.rg0 [] [(1,(i64 a)),(2,(.ptr 0 0)),(6,(.own 3 (List.length (List.set k (Int.toNat y.Device) y.Version)))),(7,(.own 2 (List.length b))),(8,(i64 c)),(9,(slc 2 Zh g)),(10,(i64 (ZI (x + (1:Int)))))] (LeQ.start (LeQ.pk [1,2,6,7,8,9,10] 4 ?_))
          exact⟨b7,Nat.lt_succ_self _,(List.set k (Int.toNat y.Device) y.Version),(ZI (x + (1:Int))),hF,by kernel_rfl,by kernel_rfl⟩
        ·refine AWP.exit (LeQ.start (LeQ.pk [1,2,6,7,8] 4 ?_))
         exact(.inl ⟨rfl,k,(someb hF).symm,by kernel_rfl,by kernel_rfl⟩)
      ·rintro _ _ _ (⟨rfl,f,rfl,rfl,rfl⟩ | ⟨rfl,f6,rfl,hq⟩)
       ·obtain⟨f7,hF⟩:=chkb hF
        refine AWP.rg [(2,.pre (.share 3) (.wkO 3 Zi f (.s))),(3,.app Zp (fun _=>by kernel_rfl) f7)] [(1,(i64 a)),(2,(.ptr 0 0)),(6,(.own 3 (List.length f))),(7,(.own 2 (List.length (b++[f])))),(8,(i64 c))] [.cells (Zf d),bf 1 3 Zi (List.replicate (Int.toNat a) (0:Int)) true,bf 1 22 Zp (b++[f]) false,bf 1 3 Zi f true] (AWP.rg0 [] [(1,(i64 a)),(2,(.ptr 0 0)),(6,(.own 3 (List.length f))),(7,(.own 2 (List.length (b++[f])))),(8,(i64 (ZI (c + (1:Int)))))] (LeQ.start ?_))
        refine LeQ.wk (p:=(.own 3 (List.length f))) (q:=(slc 1 Zi f)) (st':=[(6,(slc 1 Zi f)),(1,(i64 a)),(2,(.ptr 0 0)),(7,(.own 2 (List.length (b++[f])))),(8,(i64 (ZI (c + (1:Int)))))]) 6 (by kernel_rfl) (Wk.ownT (i:=3) (s:=1) (t:=3) (l:=f) (sh:=true) (row:=Zi) (by kernel_rfl) (.inr rfl)) (by kernel_rfl) ?_
        refine LeQ.pk [1,2,6,7,8] 3 ?_
        exact⟨b5,Nat.lt_succ_self _,(b++[f]),f,(ZI (c + (1:Int))),hF,by kernel_rfl,by kernel_rfl⟩
       ·exact LeQ.of (.inr ⟨rfl,f6,(someb hF).symm,hq⟩)
    ·refine AWP.exit (LeQ.start (LeQ.pk [7] 3 ?_))
     exact(.inl ⟨rfl,b,(someb hF).symm,by kernel_rfl,by kernel_rfl⟩)
  ·rintro _ _ _ (⟨rfl,a5,rfl,rfl,rfl⟩ | ⟨rfl,g3,rfl,hq⟩)
   ·refine AWP.seq (AWP.rg0 [] [(4,(.own 2 (List.length a5))),(5,(i64 (0:Int)))] (AWP.ret ?_))
    have hr:=someb hF
    subst hr
    exact(FnQ.f1 0 (.inr rfl) (.inr ⟨_,_,rfl,rfl,(.cons _ _ _ _ (Wk.ownT (i:=2) (s:=1) (t:=22) (l:=a5) (sh:=false) (row:=Zp) (by kernel_rfl) (.inl rfl)) (.cons _ _ _ _ (.refl _) .nil))⟩))
   ·have hr:=someb hF
    subst hr
    exact hq
def Zhp (r:Bool):PV→List Blk→Prop:=fun p K=>p=(vb r)∧K=[]
abbrev Zhq (r:Bool):Exit→St→List Blk→Prop:=FnQ Tryz.prog Tryz.f13.results 0 (Zhp r)
theorem Z4 (d:Zu) (g:Int) (r:Bool) (hF:Zbz d g=some r):ACall Tryz.prog glob 13 [(Zdu d),(i64 g)] [] (Zhp r):=by
 refine ACall.body Tryz.func13 rfl (by kernel_rfl) ?_
 unfold Zbz at hF
 refine AWP.seq (AWP.rg [] [(1,(i64 g)),(2,(.ptr 0 0))] [.cells (Zf d)] (AWP.seq ?_))
 obtain⟨a,t,hF⟩:=bindb hF
 refine AWP.rg0 [(2,.call Tryz.func23 [] (Zlt d g a t))] [(1,(i64 g)),(2,(.ptr 0 0)),(5,(slc 1 Zp a.1)),(6,(i64 a.2))] (AWP.seq ?_)
 obtain⟨b,u,hF⟩:=bindb hF
 refine AWP.rg0 [(2,.call Tryz.func26 [] (Zk0 d g b u))] [(5,(slc 1 Zp a.1)),(6,(i64 a.2)),(7,(slc 1 Zp b.1)),(8,(i64 b.2))] (AWP.seq (AWP.seq ?_))
 obtain⟨o,i,hF⟩:=bindb hF
 replace i:=someb i
 refine AWP.to [(5,(slc 1 Zp a.1)),(7,(slc 1 Zp b.1)),(32,(vb (o || ((List.length a.1:Int) != (List.length b.1:Int)))))] [.cells (Zf d)] ?_ ?_
 ·cases o with
  | false=>
   exact AWP.rgT [(3,.bool i),(5,.len Zp a.1),(7,.len Zp b.1)]
  | true=>
   exact AWP.rgT [(3,.bool i)]
 refine AWP.cif hF (fun v hF=>?_) (fun v hF=>?_)
 ·refine AWP.seq (AWP.rg0 [] [(4,(vb false))] (AWP.ret ?_))
  have hr:=someb hF
  subst hr
  exact(FnQ.f0 0 (.inr rfl))
 ·refine AWP.skip (AWP.seq (AWP.seq (AWP.rg0 [] [(5,(slc 1 Zp a.1)),(7,(slc 1 Zp b.1)),(9,(i64 (0:Int)))] ?_)))
  obtain⟨j,w,hF⟩:=bindb hF
  refine AWP.mid (fun e st H=>(e=.normal∧j=(.inl ())∧st=[]∧H=[.cells (Zf d)])∨(e=.ret∧∃ r,j=(.inr r)∧Zhq r e st H)) ?_ ?_
  ·clear hF
   refine AWP.kp [5,7,9] 1 ?_
   refine AWP.bround (fun n st H=>∃ c,Zcg a b n c=some j∧st=[(5,(slc 1 Zp a.1)),(7,(slc 1 Zp b.1)),(9,(i64 c))]∧H=[.cells (Zf d)]) fuel ⟨(0:Int),w,by kernel_rfl,by kernel_rfl⟩ ?_
   rintro k st H ⟨c,hF,rfl,rfl⟩
   cases k with
   | zero=>exact noneb hF
   | succ k=>
    rw [Zcg] at hF
    refine AWP.seq (AWP.seq (AWP.rg0 [(2,.len Zp a.1)] [(5,(slc 1 Zp a.1)),(7,(slc 1 Zp b.1)),(9,(i64 c)),(36,(vb (decide (c<(List.length a.1:Int)))))] ?_))
    refine AWP.cif hF (fun x hF=>?_) (fun x hF=>?_)
    ·refine AWP.skip (AWP.seq (AWP.block (AWP.seq (AWP.seq ?_))))
     obtain⟨p,y,hF⟩:=bindb hF
     obtain⟨q,z,hF⟩:=bindb hF
     refine AWP.dr [(2,.idx Zp y),(4,.len Zi p),(7,.idx Zp z),(9,.len Zi q)] 11 [] [] [] [(5,(slc 1 Zp a.1)),(7,(slc 1 Zp b.1)),(9,(i64 c)),(49,(vb ((List.length p:Int) != (List.length q:Int))))] [.cells (Zf d)] ?_
     refine AWP.cif hF (fun a0 hF=>?_) (fun a0 hF=>?_)
     ·refine AWP.seq (AWP.rg0 [] [(4,(vb false))] (AWP.ret ?_))
      exact LeQ.of (.inr ⟨rfl,false,(someb hF).symm,(FnQ.f0 0 (.inr rfl))⟩)
     ·refine AWP.skip (AWP.seq (AWP.rg0 [] [(5,(slc 1 Zp a.1)),(7,(slc 1 Zp b.1)),(9,(i64 c)),(10,(i64 (0:Int)))] ?_))
      obtain⟨l,a1,hF⟩:=bindb hF
      refine AWP.mid (fun e st H=>(e=.normal∧l=(.inl ())∧st=[(5,(slc 1 Zp a.1)),(7,(slc 1 Zp b.1)),(9,(i64 c))]∧H=[.cells (Zf d)])∨(e=.ret∧∃ r,l=(.inr r)∧Zhq r e st H)) ?_ ?_
      ·clear hF
       refine AWP.kp [5,7,9,10] 1 ?_
       refine AWP.bround (fun n st H=>∃ f,Zcf a b c n f=some l∧st=[(5,(slc 1 Zp a.1)),(7,(slc 1 Zp b.1)),(9,(i64 c)),(10,(i64 f))]∧H=[.cells (Zf d)]) fuel ⟨(0:Int),a1,by kernel_rfl,by kernel_rfl⟩ ?_
       rintro m st H ⟨f,hF,rfl,rfl⟩
       cases m with
       | zero=>exact noneb hF
       | succ m=>
        rw [Zcf] at hF
        refine AWP.seq (AWP.seq ?_)
        obtain⟨s,a2,hF⟩:=bindb hF
        refine AWP.rg0 [(3,.idx Zp a2),(5,.len Zi s)] [(5,(slc 1 Zp a.1)),(7,(slc 1 Zp b.1)),(9,(i64 c)),(10,(i64 f)),(56,(vb (decide (f<(List.length s:Int)))))] ?_
        refine AWP.cif hF (fun a3 hF=>?_) (fun a3 hF=>?_)
        ·refine AWP.skip (AWP.seq (AWP.block (AWP.seq ?_)))
         obtain⟨b2,a4,hF⟩:=bindb hF
         obtain⟨a5,a6,hF⟩:=bindb hF
         obtain⟨b3,a7,hF⟩:=bindb hF
         obtain⟨a8,a9,hF⟩:=bindb hF
         refine AWP.dr [(2,.idx Zp a4),(5,.idx Zi a6),(9,.idx Zp a7),(12,.idx Zi a9)] 15 [] [] [] [(5,(slc 1 Zp a.1)),(7,(slc 1 Zp b.1)),(9,(i64 c)),(10,(i64 f)),(73,(vb (a5 != a8)))] [.cells (Zf d)] ?_
         refine AWP.cif hF (fun b0 hF=>?_) (fun b0 hF=>?_)
         ·refine AWP.seq (AWP.rg0 [] [(4,(vb false))] (AWP.ret ?_))
          exact LeQ.of (.inr ⟨rfl,false,(someb hF).symm,(FnQ.f0 0 (.inr rfl))⟩)
         ·refine AWP.skip (AWP.rg0 [] [(5,(slc 1 Zp a.1)),(7,(slc 1 Zp b.1)),(9,(i64 c)),(10,(i64 (ZI (f + (1:Int)))))] (LeQ.start (LeQ.pk [5,7,9,10] 1 ?_)))
          exact⟨m,Nat.lt_succ_self _,(ZI (f + (1:Int))),hF,by kernel_rfl,by kernel_rfl⟩
        ·refine AWP.exit (LeQ.start (LeQ.pk [5,7,9] 1 ?_))
         exact(.inl ⟨rfl,(someb hF).symm,by kernel_rfl,by kernel_rfl⟩)
      ·rintro _ _ _ (⟨rfl,rfl,rfl,rfl⟩ | ⟨rfl,b1,rfl,hq⟩)
       ·refine AWP.rg0 [] [(5,(slc 1 Zp a.1)),(7,(slc 1 Zp b.1)),(9,(i64 (ZI (c + (1:Int)))))] (LeQ.start (LeQ.pk [5,7,9] 1 ?_))
        exact⟨k,Nat.lt_succ_self _,(ZI (c + (1:Int))),hF,by kernel_rfl,by kernel_rfl⟩
       ·exact LeQ.of (.inr ⟨rfl,b1,(someb hF).symm,hq⟩)
    ·refine AWP.exit (LeQ.start (LeQ.pk [] 1 ?_))
     exact(.inl ⟨rfl,(someb hF).symm,by kernel_rfl,by kernel_rfl⟩)
  ·rintro _ _ _ (⟨rfl,rfl,rfl,rfl⟩ | ⟨rfl,b4,rfl,hq⟩)
   ·refine AWP.seq (AWP.rg0 [] [(4,(vb true))] (AWP.ret ?_))
    have hr:=someb hF
    subst hr
    exact(FnQ.f0 0 (.inr rfl))
   ·have hr:=someb hF
    subst hr
    exact hq
def Zih (r:Bool):PV→List Blk→Prop:=fun p K=>p=(vb r)∧K=[]
theorem Zii (t:(List Int)) (c:Zu) (d:Int) (r:Bool) (hF:Zb8 t c d=some r):ACall Tryz.prog glob 4 [(slc 1 Zi t),(Zdu c),(i64 d)] [] (Zih r):=by
 refine ACall.body Tryz.func4 rfl (by kernel_rfl) ?_
 unfold Zb8 at hF
 refine AWP.seq (AWP.rg [] [(0,(slc 1 Zi t)),(2,(i64 d)),(4,(.ptr 0 0))] [.cells (Zf c)] (AWP.seq ?_))
 obtain⟨x,a5,hF⟩:=bindb hF
 refine AWP.rg [(1,.call Tryz.func5 [] (Zoj t x a5))] [(2,(i64 d)),(4,(.ptr 0 0)),(7,(.ptr 1 0))] [.cells (Zf c),.cells (Zk x)] (AWP.seq ?_)
 obtain⟨a,a6,hF⟩:=bindb hF
 refine AWP.rg [(1,.call Tryz.func10 [] (Za3 x (4:Int) a a6))] [(2,(i64 d)),(4,(.ptr 0 0)),(7,(.ptr 1 0)),(8,(i64 (ZI ((1:Int) + a.1))))] [.cells (Zf c),.cells (Zk a.2)] (AWP.seq ?_)
 obtain⟨b,a7,hF⟩:=bindb hF
 refine AWP.rg [(2,.call Tryz.func11 [] (Zkh a.2 (ZI ((1:Int) + a.1)) b a7))] [(2,(i64 d)),(4,(.ptr 0 0)),(7,(.ptr 1 0)),(8,(i64 (ZI ((1:Int) + a.1)))),(9,(.ptr 2 0))] [.cells (Zf c),.cells (Zk b.2),.cells (Zf b.1)] (AWP.seq ?_)
 obtain⟨f,a8,hF⟩:=bindb hF
 refine AWP.rg [(2,.call Tryz.func12 [] (Zim b.2 b.1 f a8))] [(2,(i64 d)),(4,(.ptr 0 0)),(8,(i64 (ZI ((1:Int) + a.1)))),(9,(.ptr 2 0)),(10,(.ptr 3 0))] [.cells (Zf c),.cells (Zk f.2),.cells (Zf b.1),.cells (Zf f.1)] (AWP.seq (AWP.seq (AWP.rg0 [(2,.len Zj c.Rounds)] [(2,(i64 d)),(4,(.ptr 0 0)),(8,(i64 (ZI ((1:Int) + a.1)))),(9,(.ptr 2 0)),(10,(.ptr 3 0)),(25,(vb (decide ((List.length c.Rounds:Int) > (20:Int)))))] ?_)))
 refine AWP.cif hF (fun a9 hF=>?_) (fun a9 hF=>?_)
 ·refine AWP.seq ?_
  obtain⟨a1,b0,hF⟩:=bindb hF
  refine AWP.rg0 [(0,.call Tryz.func9 [] (Ziw a1 b0))] [(6,(vb a1))] (AWP.ret ?_)
  have hr:=someb hF
  subst hr
  exact(FnQ.f0 0 (.inr rfl))
 ·refine AWP.skip (AWP.seq ?_)
  obtain⟨l,m,hF⟩:=bindb hF
  obtain⟨b1,g,hF⟩:=bindb hF
  replace g:=someb g
  obtain⟨c8,a2,hF⟩:=bindb hF
  obtain⟨b2,i,hF⟩:=bindb hF
  replace i:=someb i
  obtain⟨c9,y,hF⟩:=bindb hF
  obtain⟨b3,j,hF⟩:=bindb hF
  replace j:=someb j
  obtain⟨d0,u,hF⟩:=bindb hF
  obtain⟨b4,k,hF⟩:=bindb hF
  replace k:=someb k
  obtain⟨b5,n,hF⟩:=bindb hF
  refine AWP.to [(6,(vb b5))] [.cells (Zf c),.cells (Zk f.2),.cells (Zf b.1),.cells (Zf f.1)] ?_ ?_
  ·cases b1 with
   | false=>
    have b6:=someb (ifF a2 rfl)
    subst b6
    subst i
    have b7:=someb (ifF y rfl)
    subst b7
    subst j
    have b8:=someb (ifF u rfl)
    subst b8
    subst k
    have b9:=someb (ifF n rfl)
    subst b9
    exact AWP.rgT [(2,.call Tryz.func13 [] (Z4 b.1 (ZI ((1:Int) + a.1)) l m)),(3,.bool g)]
   | true=>
    have o:=ifT a2 rfl
    obtain⟨v,w,o⟩:=bindb o
    replace o:=someb o
    subst o
    cases b2 with
    | false=>
     have c0:=someb (ifF y rfl)
     subst c0
     subst j
     have c1:=someb (ifF u rfl)
     subst c1
     subst k
     have c2:=someb (ifF n rfl)
     subst c2
     exact AWP.rgT [(2,.call Tryz.func13 [] (Z4 b.1 (ZI ((1:Int) + a.1)) l m)),(3,.bool g),(6,.call Tryz.func13 [] (Z4 f.1 (ZI ((1:Int) + a.1)) v w)),(8,.bool i)]
    | true=>
     have p:=ifT y rfl
     obtain⟨z,a0,p⟩:=bindb p
     replace p:=someb p
     subst p
     cases b3 with
     | false=>
      have c3:=someb (ifF u rfl)
      subst c3
      subst k
      have c4:=someb (ifF n rfl)
      subst c4
      exact AWP.rgT [(2,.call Tryz.func13 [] (Z4 b.1 (ZI ((1:Int) + a.1)) l m)),(3,.bool g),(6,.call Tryz.func13 [] (Z4 f.1 (ZI ((1:Int) + a.1)) v w)),(8,.bool i),(12,.call Tryz.func13 [] (Z4 b.1 (ZI ((ZI ((1:Int) + a.1)) - (1:Int))) z a0)),(14,.bool j)]
     | true=>
      have q:=ifT u rfl
      obtain⟨a3,a4,q⟩:=bindb q
      replace q:=someb q
      subst q
      cases b4 with
      | false=>
       have c5:=someb (ifF n rfl)
       subst c5
       exact AWP.rgT [(2,.call Tryz.func13 [] (Z4 b.1 (ZI ((1:Int) + a.1)) l m)),(3,.bool g),(6,.call Tryz.func13 [] (Z4 f.1 (ZI ((1:Int) + a.1)) v w)),(8,.bool i),(12,.call Tryz.func13 [] (Z4 b.1 (ZI ((ZI ((1:Int) + a.1)) - (1:Int))) z a0)),(14,.bool j),(17,.call Tryz.func13 [] (Z4 c d a3 a4)),(19,.bool k)]
      | true=>
       have s:=ifT n rfl
       obtain⟨c6,c7,s⟩:=bindb s
       replace s:=someb s
       subst s
       exact AWP.rgT [(2,.call Tryz.func13 [] (Z4 b.1 (ZI ((1:Int) + a.1)) l m)),(3,.bool g),(6,.call Tryz.func13 [] (Z4 f.1 (ZI ((1:Int) + a.1)) v w)),(8,.bool i),(12,.call Tryz.func13 [] (Z4 b.1 (ZI ((ZI ((1:Int) + a.1)) - (1:Int))) z a0)),(14,.bool j),(17,.call Tryz.func13 [] (Z4 c d a3 a4)),(19,.bool k),(20,.call Tryz.func9 [] (Ziw c6 c7))]
  refine AWP.ret ?_
  have hr:=someb hF
  subst hr
  exact(FnQ.f0 0 (.inr rfl))
end Go.AM
set_option maxRecDepth 100000
namespace Go.AM
open Go
def Ok {α:Type} (x:Option α) (p:α→Prop):Prop:=∃ r,x=some r∧p r
theorem Ok.bind {α γ:Type} {x:Option α} {p:α→Prop} {f:α→Option γ} {q:γ→Prop} (h:Ok x p) (k:∀ v,p v→Ok (f v) q):Ok (x.bind f) q:=by
 obtain⟨v,rfl,hv⟩:=h
 exact k v hv
theorem Ok.ret {α:Type} {r:α} {p:α→Prop} (h:p r):Ok (some r) p:=⟨r,rfl,h⟩
theorem Ok.chk {α:Type} {c:Prop} [Decidable c] {x:Option α} {p:α→Prop} (hc:c) (h:Ok x p):Ok (if c then x else none) p:=by rw [if_pos hc]; exact h
theorem Ok.ite {α:Type} {c:Prop} [Decidable c] {x y:Option α} {p:α→Prop} (h1:c→Ok x p) (h2:¬ c→Ok y p):Ok (if c then x else y) p:=by
 split
 ·exact h1 (by assumption)
 ·exact h2 (by assumption)
theorem Ok.lift {α γ:Type} {b:α} {f:α→Option γ} {q:γ→Prop} (h:Ok (f b) q):Ok ((Option.some b).bind f) q:=h
theorem Ok.mono {α:Type} {x:Option α} {p q:α→Prop} (h:Ok x p) (k:∀ v,p v→q v):Ok x q:=by
 obtain⟨v,h1,h2⟩:=h
 exact⟨v,h1,k v h2⟩
theorem Ok.get {α:Type} {x:Option α} {p:α→Prop} (h:Ok x p) {r:α} (e:x=some r):p r:=by
 obtain⟨v,h1,h2⟩:=h
 rw [h1] at e; cases e; exact h2
theorem Ok.eq {α:Type} {x:Option α} {r:α} (h:Ok x (·=r)):x=some r:=by
 obtain⟨v,h1,rfl⟩:=h; exact h1
theorem Ok.idx {α:Type} {l:List α} {i:Int} {p:α→Prop} (h0:0≤i) (h1:i<l.length) (h:∀ x∈l,p x):Ok (idx l i) p:=by
 have hi:i.toNat<l.length:=by omega
 exact⟨l[i.toNat],by simp [AM.idx,h0,hi],h _ (List.getElem_mem hi)⟩
theorem Zpb {α:Type} {l:List α} {i:Nat} (h:i<l.length):AM.idx l (i:Int)=some l[i]:=by simp [AM.idx,h]
theorem wi64 {x:Int} (h0:-9223372036854775808≤x) (h1:x<9223372036854775808):IntKind.wrap .i64 x=x:=by
 simp only [IntKind.wrap,IntKind.bits,IntKind.signed]
 simp
 omega
theorem wu64 {x:Int} (h0:0≤x) (h1:x<18446744073709551616):IntKind.wrap .u64 x=x:=by
 simp only [IntKind.wrap,IntKind.bits,IntKind.signed]
 simp
 omega
theorem Zpn (x:Int):0≤IntKind.wrap .u64 x∧IntKind.wrap .u64 x<18446744073709551616:=by
 simp only [IntKind.wrap,IntKind.bits,IntKind.signed]
 simp
 omega
structure TOk (t:Zn):Prop where
 h0:0≤t.f_i
 h1:t.f_i≤t.f_l.length
 h2:(t.f_l.length:Int)<9223372036854775808
theorem New_ok {l:List Int} (h:(l.length:Int)<9223372036854775808):Ok (Zgj l) TOk:=Ok.ret ⟨Int.le_refl 0,by simp,h⟩
theorem Mod_ok {x n:Int} (h1:1≤n) (h2:n<9223372036854775808):Ok (Zfb x n) fun v=>0≤v∧v<n:=by
 unfold Zfb
 have hn:IntKind.wrap .u64 n=n:=wu64 (by omega) (by omega)
 rw [hn]
 have hx:=Zpn x
 have h3:0≤Int.tmod (IntKind.wrap .u64 x) n:=Int.tmod_nonneg _ hx.1
 have h4:Int.tmod (IntKind.wrap .u64 x) n<n:=Int.tmod_lt_of_pos _ (by omega)
 refine Ok.chk (by omega) (Ok.ret ?_)
 rw [wi64 (by omega) (by omega)]
 exact⟨h3,h4⟩
theorem Zg7 {t:Zn} (ht:TOk t) (n:Int) (h2:n<9223372036854775808):Ok (Z1 t n) fun r=>(0≤r.1∧(r.1<n∨r.1=0))∧TOk r.2:=by
 unfold Z1
 refine Ok.lift (Ok.ite (fun hc=>Ok.ret ⟨⟨by simp,.inr rfl⟩,ht⟩) fun hc=>?_)
 simp only [Bool.or_eq_true,decide_eq_true_eq] at hc
 have hc1:¬ n≤1:=fun h=>hc (.inl h)
 have hc2:¬ t.f_i ≥ t.f_l.length:=fun h=>hc (.inr h)
 have h0:=ht.h0
 have h1:=ht.h2
 have e1:IntKind.wrap .i64 (t.f_i + 1)=t.f_i + 1:=wi64 (by omega) (by omega)
 rw [e1]
 have e2:IntKind.wrap .i64 (t.f_i + 1 - 1)=t.f_i:=by rw [Int.add_sub_cancel]; exact wi64 (by omega) (by omega)
 rw [e2]
 refine Ok.bind (Ok.idx (p:=fun _=>True) h0 (by omega) fun _ _=>trivial) fun x _=>?_
 refine Ok.bind (Mod_ok (by omega) h2) fun v hv=>Ok.ret ⟨⟨hv.1,.inl hv.2⟩,?_⟩
 exact⟨by show 0≤t.f_i + 1; omega,by show t.f_i + 1≤t.f_l.length; omega,h1⟩
theorem Zmt {t:Zn} (ht:TOk t) (n:Int) (h1:1≤n) (h2:n<9223372036854775808):Ok (Z1 t n) fun r=>(0≤r.1∧r.1<n)∧TOk r.2:=
 (Zg7 ht n h2).mono fun r ⟨⟨h3,h4⟩,h5⟩=>⟨⟨h3,by omega⟩,h5⟩
structure ROk (top:Int) (r:Zb):Prop where
 h0:0≤r.Lo
 h1:r.Lo≤r.Hi
 h2:r.Hi≤top
structure RIn (r:Zb):Prop where
 h0:0≤r.Lo
 h1:r.Lo<4294967296
 h2:0≤r.Hi
 h3:r.Hi<4294967296
structure BOk (b:Arr5 Zb):Prop where
 h0:ROk 4294967295 b.x0
 h1:ROk 4294967295 b.x1
 h2:ROk 255 b.x2
 h3:ROk 65535 b.x3
 h4:ROk 65535 b.x4
structure BIn (b:Arr5 Zb):Prop where
 h0:RIn b.x0
 h1:RIn b.x1
 h2:RIn b.x2
 h3:RIn b.x3
 h4:RIn b.x4
theorem BIn.get {b:Arr5 Zb} (h:BIn b) (k:Int):RIn (b.get k):=by
 unfold Arr5.get
 split
 ·exact h.h0
 split
 ·exact h.h1
 split
 ·exact h.h2
 split
 ·exact h.h3
 ·exact h.h4
theorem BIn.set {b:Arr5 Zb} (h:BIn b) {r:Zb} (hr:RIn r) (k:Int):BIn (b.set k r):=by
 unfold Arr5.set
 split
 ·exact⟨hr,h.h1,h.h2,h.h3,h.h4⟩
 split
 ·exact⟨h.h0,hr,h.h2,h.h3,h.h4⟩
 split
 ·exact⟨h.h0,h.h1,hr,h.h3,h.h4⟩
 split
 ·exact⟨h.h0,h.h1,h.h2,hr,h.h4⟩
 ·exact⟨h.h0,h.h1,h.h2,h.h3,hr⟩
theorem Zq6 {t:List Int} (h:Zlo t):(t.length:Int)<9223372036854775808:=by have:=h.1; omega
end Go.AM
set_option maxRecDepth 100000
namespace Go.AM
open Go
def badC (st:Bool) (d last:Int) (now:List Int) (c:Zg):Bool:=
 decide (c.Device≤last) || decide (c.Device ≥ d) || decide (c.Version≤now.getD c.Device.toNat 0) || decide (c.Version > 3) || (!st && c.Version != 3)
def goC (st:Bool) (d:Int):List Zg→Int→List Int→Option (List Int)
 | [],_,now=>some now
 | c :: cs,last,now=>if badC st d last now c=true then none else goC st d cs c.Device (now.set c.Device.toNat c.Version)
def resC:Option (List Int)→(List Int) ⊕ (List (List Int) × Int)
 | some v=>.inl v
 | none=>.inr ([],1)
theorem Zko {st:Bool} {d:Int}:∀(cs:List Zg) (last:Int) (now v:List Int),goC st d cs last now=some v→v.length=now.length
 | [],_,now,v,h=>by simp only [goC,Option.some.injEq] at h; rw [h]
 | c :: cs,last,now,v,h=>by
  simp only [goC] at h
  split at h
  ·cases h
  ·have:=Zko cs _ _ v h
   simpa using this
theorem Zh1 {α:Type} (pre:List α) (c:α) (cs:List α):idx (pre++c :: cs) (pre.length:Int)=some c:=by simp [AM.idx]
theorem Zja {now:List Int} {d x:Int} (hn:(now.length:Int)=d) (h0:0≤x) (h1:x<d):idx now x=some (now.getD x.toNat 0):=by
 have hx:x.toNat<now.length:=by omega
 simp [AM.idx,h0,hx]
theorem pL2 (a0:Zu) {d:Int} {l:List Zg} (hl:(l.length:Int)<9223372036854775808):∀(cs pre:List Zg) (n:Nat) (now:List Int) (last:Int),l=pre++cs→cs.length<n→(now.length:Int)=d→-1≤last →
  Zb0 a0 d l n now last (pre.length:Int)=some (resC (goC a0.Staged d cs last now))
 | [],pre,n + 1,now,last,hp,hn,hd,h1=>by
  subst hp
  rw [Zb0]
  simp [goC,resC]
 | c :: cs,pre,n + 1,now,last,hp,hn,hd,h1=>by
  have hi:idx l (pre.length:Int)=some c:=by rw [hp]; exact Zh1 pre c cs
  have hlen:(pre.length:Int) + 1≤l.length:=by rw [hp]; simp; omega
  rw [Zb0]
  rw [if_pos (by simp; omega),hi]
  simp only [Option.bind_some,goC]
  have hbad:∀ b:Bool,badC a0.Staged d last now c=b→(if (decide (c.Device≤last) || decide (c.Device ≥ d))=true then some true else (idx now c.Device).bind fun x302=>some (decide (c.Version≤x302))) =
    some (decide (c.Device≤last) || decide (c.Device ≥ d) || decide (c.Version≤now.getD c.Device.toNat 0)):=fun b _=>by
   by_cases h2:c.Device≤last
   ·simp [h2]
   ·by_cases h3:c.Device ≥ d
    ·simp [h3]
    ·rw [if_neg (by simp; omega),Zja hd (by omega) (by omega)]
     simp [h2,h3]
  rw [hbad _ rfl]
  simp only [Option.bind_some]
  have h12:∀ x:Bool,(if (x || decide (c.Version > 3))=true then some true else some ((!a0.Staged) && (c.Version != 3)))=some (x || decide (c.Version > 3) || ((!a0.Staged) && (c.Version != 3))):=fun x=>by
   cases hx:(x || decide (c.Version > 3)) <;> simp
  rw [h12]
  simp only [Option.bind_some]
  by_cases hb:badC a0.Staged d last now c=true
  ·have hb':=hb
   unfold badC at hb'
   rw [if_pos hb',if_pos hb]; rfl
  ·have hb':=hb
   unfold badC at hb'
   rw [if_neg hb',if_neg hb]
   have h2:¬ c.Device≤last:=fun h=>hb (by simp [badC,h])
   have h3:¬ c.Device ≥ d:=fun h=>hb (by simp [badC,h])
   rw [Zja hd (by omega) (by omega)]
   simp only [Option.bind_some]
   rw [wi64 (by omega) (by omega)]
   have:=pL2 a0 hl cs (pre++[c]) n (now.set c.Device.toNat c.Version) c.Device (by rw [hp]; simp) (by simpa using hn) (by simpa using hd) (by omega)
   simpa using this
 | _,_,0,_,_,_,hn,_,_=>by omega
def lastC (pre:List Zg):Int:=match pre.getLast? with | some c=>c.Device | none=>-1
theorem rL2 (a0:Zu) {d:Int} {l:List Zg} (hl:(l.length:Int)<9223372036854775808):∀(cs pre:List Zg) (n:Nat) (now:List Int),l=pre++cs→cs.length<n→(now.length:Int)=d→-1≤lastC pre→(pre=[]∨0≤lastC pre) →
  Zbt a0 d l n now (pre.length:Int)=some (resC (goC a0.Staged d cs (lastC pre) now))
 | [],pre,n + 1,now,hp,hn,hd,h1,_=>by
  subst hp
  rw [Zbt]
  simp [goC,resC]
 | c :: cs,pre,n + 1,now,hp,hn,hd,h1,hpre=>by
  have hi:idx l (pre.length:Int)=some c:=by rw [hp]; exact Zh1 pre c cs
  have hlen:(pre.length:Int) + 1≤l.length:=by rw [hp]; simp; omega
  rw [Zbt]
  rw [if_pos (by simp; omega),hi]
  simp only [Option.bind_some,goC]
  have hprev:(if (decide ((pre.length:Int) > 0))=true then (idx l (IntKind.wrap .i64 ((pre.length:Int) - 1))).bind fun x=>some (decide (x.Device ≥ c.Device)) else some false)=some (decide ((pre.length:Int) > 0) && decide (lastC pre ≥ c.Device)):=by
   rcases List.eq_nil_or_concat pre with h | ⟨ps,p,h⟩
   ·subst h; simp
   ·rw [List.concat_eq_append] at h
    subst h
    rw [wi64 (by omega) (by omega)]
    have:idx l (((ps++[p]).length:Int) - 1)=some p:=by
     rw [hp]
     have h:=Zh1 ps p (c :: cs)
     simpa using h
    rw [this]
    simp [lastC]
  rw [hprev]
  simp only [Option.bind_some]
  have hfirst:(if (decide (c.Device<0) || decide (c.Device ≥ d))=true then some true else some (decide ((pre.length:Int) > 0) && decide (lastC pre ≥ c.Device)))=some (decide (c.Device≤lastC pre) || decide (c.Device ≥ d)):=by
   by_cases h0:c.Device<0
   ·have:c.Device≤lastC pre:=by rcases hpre with h | h <;> omega
    simp [h0,this]
   ·by_cases h3:c.Device ≥ d
    ·simp [h3]
    ·rw [if_neg (by simp; omega)]
     rcases hpre with h | h
     ·subst h
      have:¬ c.Device≤lastC []:=by simp [lastC]; omega
      simp [h3,this]
     ·by_cases hpn:pre=[]
      ·subst hpn
       have:¬ c.Device≤lastC []:=by simp [lastC]; omega
       simp [h3,this]
      ·have:(pre.length:Int) > 0:=by have:=List.length_pos_iff.2 hpn; omega
       simp [h3,this]
       intro _; omega
  rw [hfirst]
  simp only [Option.bind_some]
  have hbad:(if (decide (c.Device≤lastC pre) || decide (c.Device ≥ d))=true then some true else (idx now c.Device).bind fun x302=>some (decide (c.Version≤x302))) =
    some (decide (c.Device≤lastC pre) || decide (c.Device ≥ d) || decide (c.Version≤now.getD c.Device.toNat 0)):=by
   by_cases h2:c.Device≤lastC pre
   ·simp [h2]
   ·by_cases h3:c.Device ≥ d
    ·simp [h3]
    ·rw [if_neg (by simp; omega),Zja hd (by omega) (by omega)]
     simp [h2,h3]
  rw [hbad]
  simp only [Option.bind_some]
  have h12:∀ x:Bool,(if (x || decide (c.Version > 3))=true then some true else some ((!a0.Staged) && (c.Version != 3)))=some (x || decide (c.Version > 3) || ((!a0.Staged) && (c.Version != 3))):=fun x=>by
   cases hx:(x || decide (c.Version > 3)) <;> simp
  rw [h12]
  simp only [Option.bind_some]
  by_cases hb:badC a0.Staged d (lastC pre) now c=true
  ·have hb':=hb
   unfold badC at hb'
   rw [if_pos hb',if_pos hb]; rfl
  ·have hb':=hb
   unfold badC at hb'
   rw [if_neg hb',if_neg hb]
   have h2:¬ c.Device≤lastC pre:=fun h=>hb (by simp [badC,h])
   have h3:¬ c.Device ≥ d:=fun h=>hb (by simp [badC,h])
   rw [Zja hd (by omega) (by omega)]
   simp only [Option.bind_some]
   rw [wi64 (by omega) (by omega)]
   have hl1:lastC (pre++[c])=c.Device:=by simp [lastC]
   have:=rL2 a0 hl cs (pre++[c]) n (now.set c.Device.toNat c.Version) (by rw [hp]; simp) (by simpa using hn) (by simpa using hd) (by rw [hl1]; omega) (.inr (by rw [hl1]; omega))
   rw [hl1] at this
   simpa using this
 | _,_,0,_,_,hn,_,_,_=>by omega
def goR (st:Bool) (d:Int):List (List Zg)→List Int→List (List Int)→Option (List (List Int))
 | [],_,out=>some out
 | r :: rs,now,out=>match r with
  | []=>none
  | _ :: _=>match goC st d r (-1) now with
   | some v=>goR st d rs v (out++[v])
   | none=>none
def resR:Option (List (List Int))→(List (List Int)) ⊕ (List (List Int) × Int)
 | some v=>.inl v
 | none=>.inr ([],1)
theorem Zom {n:Nat} (h:(n:Int)<9223372036854775808):n<fuel:=by unfold fuel; omega
theorem pL1 (a0:Zu) {d:Int} (hd0:d≤1000) (hl:∀ r∈a0.Rounds,(r.length:Int)<9223372036854775808):∀(rs pre:List (List Zg)) (n:Nat) (now:List Int) (out:List (List Int)),a0.Rounds=pre++rs→rs.length<n→(now.length:Int)=d→out.length + rs.length≤10000→pre.length + rs.length≤10000 →
  Zb1 a0 d n out now (pre.length:Int)=some (resR (goR a0.Staged d rs now out))
 | [],pre,n + 1,now,out,hp,hn,hd,h1,_=>by
  rw [Zb1]
  simp [hp,goR,resR]
 | r :: rs,pre,n + 1,now,out,hp,hn,hd,h1,h2=>by
  have hi:idx a0.Rounds (pre.length:Int)=some r:=by rw [hp]; exact Zh1 pre r rs
  simp only [List.length_cons] at h1 h2 hn
  rw [Zb1]
  rw [if_pos (by rw [hp]; simp; omega),hi]
  simp only [Option.bind_some]
  cases r with
  | nil=>simp [goR,resR]
  | cons c cs=>
   rw [if_neg (by simp; omega),if_pos (by unfold lim; omega)]
   have hr:=hl (c :: cs) (by rw [hp]; simp)
   have:=pL2 a0 (d:=d) hr (c :: cs) [] fuel now (-1) rfl (Zom hr) hd (Int.le_refl _)
   simp only [List.length_nil,Int.ofNat_zero] at this
   try rw [show ((0:Nat):Int)=0 from rfl] at this
   rw [this]
   simp only [Option.bind_some,goR]
   cases hg:goC a0.Staged d (c :: cs) (-1) now with
   | none=>simp [resC,resR]
   | some v=>
    simp only [resC]
    rw [if_pos (by simp only [List.length_cons,List.length_nil]; unfold lim; omega),wi64 (by omega) (by omega)]
    have hv:=Zko _ _ _ _ hg
    have:=pL1 a0 hd0 hl rs (pre++[c :: cs]) n v (out++[v]) (by rw [hp]; simp) (by omega) (by omega) (by simp; omega) (by simp; omega)
    simpa using this
 | _,_,0,_,_,_,hn,_,_,_=>by omega
theorem rL1 (a0:Zu) {d:Int} (hd0:d≤1000) (hl:∀ r∈a0.Rounds,(r.length:Int)<9223372036854775808):∀(rs pre:List (List Zg)) (n:Nat) (now:List Int) (out:List (List Int)),a0.Rounds=pre++rs→rs.length<n→(now.length:Int)=d→out.length + rs.length≤10000→pre.length + rs.length≤10000 →
  Zbu a0 d n out now (pre.length:Int)=some (resR (goR a0.Staged d rs now out))
 | [],pre,n + 1,now,out,hp,hn,hd,h1,_=>by
  rw [Zbu]
  simp [hp,goR,resR]
 | r :: rs,pre,n + 1,now,out,hp,hn,hd,h1,h2=>by
  have hi:idx a0.Rounds (pre.length:Int)=some r:=by rw [hp]; exact Zh1 pre r rs
  simp only [List.length_cons] at h1 h2 hn
  rw [Zbu]
  rw [if_pos (by rw [hp]; simp; omega),hi]
  simp only [Option.bind_some]
  rw [if_pos (by simp only [List.length_nil]; unfold lim; omega)]
  cases r with
  | nil=>simp [goR,resR]
  | cons c cs=>
   rw [if_neg (by simp; omega)]
   have hr:=hl (c :: cs) (by rw [hp]; simp)
   have:=rL2 a0 (d:=d) hr (c :: cs) [] fuel now rfl (Zom hr) hd (by simp [lastC]) (.inl rfl)
   simp only [List.length_nil] at this
   try rw [show ((0:Nat):Int)=0 from rfl] at this
   rw [show lastC []=-1 from rfl] at this
   rw [List.nil_append,this]
   simp only [Option.bind_some,goR]
   cases hg:goC a0.Staged d (c :: cs) (-1) now with
   | none=>simp [resC,resR]
   | some v=>
    simp only [resC]
    rw [if_pos (by simp only [List.length_cons,List.length_nil]; unfold lim; omega),wi64 (by omega) (by omega)]
    have hv:=Zko _ _ _ _ hg
    have:=rL1 a0 hd0 hl rs (pre++[c :: cs]) n v (out++[v]) (by rw [hp]; simp) (by omega) (by omega) (by simp; omega) (by simp; omega)
    simpa using this
 | _,_,0,_,_,_,hn,_,_,_=>by omega
theorem Zpc {st:Bool} {d:Int}:∀(rs:List (List Zg)) (now:List Int) (out v:List (List Int)),goR st d rs now out=some v→v.length=out.length + rs.length∧((∀ x∈out,x.length=now.length)→∀ x∈v,x.length=now.length)
 | [],_,out,v,h=>by
  simp only [goR,Option.some.injEq] at h
  subst h
  exact⟨by simp,fun h=>h⟩
 | r :: rs,now,out,v,h=>by
  simp only [goR] at h
  split at h
  ·cases h
  ·split at h
   ·rename_i c cs _ w hw
    have hwl:=Zko _ _ _ _ hw
    obtain⟨h1,h2⟩:=Zpc rs w (out++[w]) v h
    refine⟨by simp at h1 ⊢; omega,fun ho x hx=>?_⟩
    rw [← hwl]
    refine h2 (fun y hy=>?_) x hx
    rcases List.mem_append.1 hy with hy | hy
    ·rw [hwl]; exact ho y hy
    ·rw [List.mem_singleton.1 hy]
   ·cases h
structure PlanOk (p:Zu):Prop where
 n:p.Rounds.length≤5000
 rs:∀ r∈p.Rounds,(r.length:Int)<9223372036854775808
theorem Zp8 {p:Zu} (hp:PlanOk p) (d:Int):∃ r:List (List Int) × Int,Zdv p d=some r∧Zdo p d=some r∧r.1.length≤6000∧∀ x∈r.1,x.length≤12:=by
 unfold Zdv Zdo
 simp only [Option.bind_some]
 by_cases hd:(decide (d<1) || decide (d > 12))=true
 ·rw [if_pos hd,if_pos hd]
  exact⟨_,rfl,rfl,by simp,by simp⟩
 ·rw [if_neg hd,if_neg hd]
  simp only [Bool.or_eq_true,decide_eq_true_eq,not_or] at hd
  have hlim:0≤d∧d≤(lim:Int):=by unfold lim; omega
  rw [if_pos hlim,if_pos hlim]
  have hn:=hp.n
  have h0:((List.replicate d.toNat (0:Int)).length:Int)=d:=by rw [List.length_replicate]; omega
  have hf:p.Rounds.length<fuel:=by unfold fuel; omega
  have e1:=pL1 p (d:=d) (by omega) hp.rs p.Rounds [] fuel (List.replicate d.toNat 0) [List.replicate d.toNat 0] rfl hf h0 (by simp; omega) (by simp; omega)
  have e2:=rL1 p (d:=d) (by omega) hp.rs p.Rounds [] fuel (List.replicate d.toNat 0) [List.replicate d.toNat 0] rfl hf h0 (by simp; omega) (by simp; omega)
  simp only [List.length_nil] at e1 e2
  try rw [show ((0:Nat):Int)=0 from rfl] at e1 e2
  rw [e1,e2]
  simp only [Option.bind_some]
  cases hg:goR p.Staged d p.Rounds (List.replicate d.toNat 0) [List.replicate d.toNat 0] with
  | none=>exact⟨_,rfl,rfl,by simp,by simp⟩
  | some v=>
   obtain⟨h1,h2⟩:=Zpc _ _ _ _ hg
   refine⟨_,rfl,rfl,by simp only [h1,List.length_cons,List.length_nil]; omega,fun x hx=>?_⟩
   have:=h2 (by simp) x hx
   rw [List.length_replicate] at this
   omega
theorem Znk {r:List (List Int) × Int} {i:Nat} {x:List Int} (hx:r.1[i]? = some x) (hl:x.length≤12):∀(k n j:Nat),j + k=x.length→k<n→Zcf r r (i:Int) n (j:Int)=some (.inl ())
 | k,0,j,hj,hn=>by omega
 | k,n + 1,j,hj,hn=>by
  have hi:idx r.1 (i:Int)=some x:=by simp [AM.idx,hx]
  rw [Zcf,hi]
  simp only [Option.bind_some]
  cases k with
  | zero=>rw [if_neg (by simp; omega)]
  | succ k=>
   have hj':j<x.length:=by omega
   rw [if_pos (by simp; omega),Zpb hj']
   simp only [Option.bind_some]
   rw [if_neg (by simp),wi64 (by omega) (by omega)]
   have:=Znk hx hl k n (j + 1) (by omega) (by omega)
   simpa using this
theorem Znl {r:List (List Int) × Int} (h1:r.1.length≤6000) (h2:∀ x∈r.1,x.length≤12):∀(k n i:Nat),i + k=r.1.length→k<n→Zcg r r n (i:Int)=some (.inl ())
 | k,0,j,hj,hn=>by omega
 | k,n + 1,i,hj,hn=>by
  rw [Zcg]
  cases k with
  | zero=>rw [if_neg (by simp; omega)]
  | succ k=>
   have hi:i<r.1.length:=by omega
   rw [if_pos (by simp; omega),Zpb hi]
   simp only [Option.bind_some]
   rw [if_neg (by simp)]
   have hx:=h2 _ (List.getElem_mem hi)
   have:=Znk (r:=r) (i:=i) (List.getElem?_eq_getElem hi) hx r.1[i].length fuel 0 (by omega) (by unfold fuel; omega)
   try rw [show ((0:Nat):Int)=0 from rfl] at this
   rw [this]
   simp only [Option.bind_some]
   rw [wi64 (by omega) (by omega)]
   have:=Znl h1 h2 k n (i + 1) (by omega) (by omega)
   simpa using this
theorem Zha {p:Zu} (hp:PlanOk p) (d:Int):Zbz p d=some true:=by
 obtain⟨r,e1,e2,h1,h2⟩:=Zp8 hp d
 unfold Zbz
 rw [e1,e2]
 simp only [Option.bind_some]
 rw [if_neg (by simp)]
 have:=Znl h1 h2 r.1.length fuel 0 (by omega) (by unfold fuel; omega)
 try rw [show ((0:Nat):Int)=0 from rfl] at this
 rw [this]
 rfl
end Go.AM
set_option maxRecDepth 100000
namespace Go.AM
open Go
theorem Zqr {l:List Int} {i:Nat} (h:i<l.length):l.getD i 0∈l:=by
 simp [h]
theorem Znm {n:Int} (hn:1≤n∧n≤4) (st:Bool):∀(k f:Nat) (t:Zn) (state:List Int) (l:List Zg) (d:Int),TOk t→(state.length:Int)=n→(∀ x∈state,0≤x∧x≤3)→0≤d→d + k=n→(l.length:Int)≤d→k<f →
  Ok (Zbm n st f t state l d) fun r=>TOk r.1∧(r.2.1.length:Int)=n∧(∀ x∈r.2.1,0≤x∧x≤3)∧(r.2.2.length:Int)≤4
 | k,0,_,_,_,_,_,_,_,_,_,_,h=>by omega
 | 0,f + 1,t,state,l,d,ht,hs,hx,h0,hd,hl,_=>by
  rw [Zbm,if_neg (by simp; omega)]
  exact Ok.ret ⟨ht,hs,hx,by simp only; omega⟩
 | k + 1,f + 1,t,state,l,d,ht,hs,hx,h0,hd,hl,hk=>by
  rw [Zbm,if_pos (by simp; omega)]
  have hi:=Zja (now:=state) (d:=n) (x:=d) hs h0 (by omega)
  have hr:=hx _ (Zqr (l:=state) (i:=d.toNat) (by omega))
  generalize hxv:state.getD d.toNat 0=x at hi hr
  rw [hi]
  simp only [Option.bind_some]
  refine Ok.bind (p:=fun r=>TOk r.1∧(r.2.1.length:Int)=n∧(∀ x∈r.2.1,0≤x∧x≤3)∧(r.2.2.length:Int)≤d + 1) ?_ fun r hr=>?_
  ·refine Ok.bind (p:=fun v:Bool × Zn=>TOk v.2∧(v.1=false→x ≠ 3)) ?_ fun v hv=>?_
   ·by_cases h3:x=3
    ·rw [if_pos (by simp [h3])]
     exact Ok.ret ⟨ht,fun h=>by cases h⟩
    ·rw [if_neg (by simp [h3])]
     exact Ok.bind (Zg7 ht 2 (by omega)) fun r hr=>Ok.ret ⟨hr.2,fun _=>h3⟩
   ·refine Ok.ite (fun _=>Ok.ret ⟨hv.1,hs,hx,by simp only; omega⟩) fun hv1=>?_
    have h3:=hv.2 (by simpa using hv1)
    refine Ok.bind (p:=fun o:Zn × Int=>TOk o.1∧0≤o.2∧o.2≤3) ?_ fun o ho=>?_
    ·refine Ok.ite (fun _=>?_) fun _=>Ok.ret ⟨hv.1,(by show (0:Int)≤3; decide),(by show (3:Int)≤3; decide)⟩
     rw [wi64 (x:=3 - x) (by omega) (by omega)]
     refine Ok.bind (Zmt hv.1 (3 - x) (by omega) (by omega)) fun r hr=>Ok.ret ⟨hr.2,?_⟩
     rw [wi64 (x:=x + 1) (by omega) (by omega),wi64 (by omega) (by omega)]
     simp only
     omega
    ·obtain⟨t',v'⟩:=o
     simp only
     refine Ok.chk (by simp only [List.length_cons,List.length_nil]; unfold lim; omega) (Ok.ret ⟨ho.1,by simpa using hs,fun y hy=>?_,by simp; omega⟩)
     rcases List.mem_or_eq_of_mem_set hy with hy | hy
     ·exact hx y hy
     ·rw [hy]; exact ho.2
  ·obtain⟨t',s',l'⟩:=r
   simp only
   rw [wi64 (by omega) (by omega)]
   exact Znm hn st k f t' s' l' (d + 1) hr.1 hr.2.1 hr.2.2.1 (by omega) (by omega) hr.2.2.2 (by omega)
def RoundsOk (m:Nat) (l:List (List Zg)):Prop:=l.length≤m∧∀ r∈l,1≤r.length∧r.length≤4
theorem Znn {n:Int} (hn:1≤n∧n≤4):∀(k f:Nat) (t:Zn) (st:Bool) (out:List (List Zg)) (state:List Int),TOk t→(state.length:Int)=n→(∀ x∈state,0≤x∧x≤3)→k≤10→RoundsOk (10 - k) out→k<f →
  Ok (Zbn n f t st out state (k:Int)) fun r=>TOk r.1∧RoundsOk 10 r.2.2.1
 | k,0,_,_,_,_,_,_,_,_,_,h=>by omega
 | 0,f + 1,t,st,out,state,ht,hs,hx,hk,ho,_=>by
  rw [Zbn,if_neg (by simp)]
  exact Ok.ret ⟨ht,⟨by have:=ho.1; first | omega | (simp only; omega),ho.2⟩⟩
 | k + 1,f + 1,t,st,out,state,ht,hs,hx,hk,ho,hf=>by
  rw [Zbn,if_pos (by simp only [decide_eq_true_eq]; omega)]
  refine Ok.bind (p:=fun r=>TOk r.1∧RoundsOk (10 - k) r.2.1∧(r.2.2.length:Int)=n∧(∀ x∈r.2.2,0≤x∧x≤3)) ?_ fun r hr=>?_
  ·refine Ok.bind (Znm hn st n.toNat fuel t state [] 0 ht hs hx (Int.le_refl _) (by omega) (by simp) (by unfold fuel; omega)) fun o hp=>?_
   obtain⟨t',s',l⟩:=o
   simp only at hp ⊢
   refine Ok.ite (fun h=>?_) fun _=>Ok.ret ⟨hp.1,⟨by have:=ho.1; simp only; omega,ho.2⟩,hp.2.1,hp.2.2.1⟩
   have h1:=ho.1
   refine Ok.chk (by simp only [List.length_cons,List.length_nil]; unfold lim; omega) (Ok.ret ⟨hp.1,⟨by simp; omega,fun r hr=>?_⟩,hp.2.1,hp.2.2.1⟩)
   rcases List.mem_append.1 hr with hr | hr
   ·exact ho.2 r hr
   ·rw [List.mem_singleton.1 hr]
    simp only [decide_eq_true_eq] at h
    omega
  ·obtain⟨t',out',s'⟩:=r
   simp only at hr ⊢
   rw [wi64 (by omega) (by omega)]
   have:=Znn hn k f t' st out' s' hr.1 hr.2.2.1 hr.2.2.2 (by omega) hr.2.1 (by omega)
   rwa [show ((k + 1:Nat):Int) - 1=(k:Int) by omega]
theorem Zq7 {t:Zn} (ht:TOk t) {n:Int} (hn:1≤n∧n≤4):Ok (Zde t n) fun r=>RoundsOk 10 r.1.Rounds∧TOk r.2:=by
 unfold Zde
 refine Ok.bind (Zg7 ht 2 (by omega)) fun r hr=>?_
 refine Ok.chk (by unfold lim; omega) ?_
 refine Ok.bind (Zmt hr.2 4 (by omega) (by omega)) fun q hq=>?_
 have:=Znn hn q.1.toNat fuel q.2 (r.1 == 0) [] (List.replicate n.toNat 0) hq.2 (by rw [List.length_replicate]; omega) (fun x hx=>by rw [List.eq_of_mem_replicate hx]; omega) (by omega) ⟨by simp,by simp⟩ (by unfold fuel; omega)
 rw [show ((q.1.toNat:Nat):Int)=q.1 by omega] at this
 refine Ok.bind this fun o ho=>?_
 obtain⟨a,b,c,d⟩:=o
 exact Ok.ret ⟨ho.2,ho.1⟩
theorem SpoilL1 (p:Zu) (hr:p.Rounds.length≤1000) (hl:∀ r∈p.Rounds,r.length≤1000):∀(rs pre:List (List Zg)) (f:Nat),p.Rounds=pre++rs→rs.length<f→Zao p f p.Staged pre (pre.length:Int)=some (p.Staged,p.Rounds)
 | _,_,0,_,h=>by omega
 | [],pre,f + 1,hp,_=>by
  rw [Zao,if_neg (by simp [hp]),hp]; simp
 | r :: rs,pre,f + 1,hp,hf=>by
  have hlen:pre.length + (rs.length + 1)≤1000:=by rw [hp] at hr; simpa using hr
  have hr1:=hl r (by rw [hp]; simp)
  rw [Zao,if_pos (by rw [hp]; simp; omega),show idx p.Rounds (pre.length:Int)=some r by rw [hp]; exact Zh1 pre r rs]
  simp only [Option.bind_some]
  rw [if_pos (by simp only [List.length_nil]; unfold lim; omega),if_pos (by unfold lim; omega),wi64 (by omega) (by omega)]
  have:=SpoilL1 p hr hl rs (pre++[r]) f (by rw [hp]; simp) (by simpa using hf)
  simpa using this
theorem Zqs {t:Zn} (ht:TOk t) {p:Zu} (hp:RoundsOk 10 p.Rounds):Ok (Zci t p) fun r=>PlanOk r.1∧TOk r.2:=by
 have hp1:=hp.1
 have h0:=SpoilL1 p (by omega) (fun r hr=>by have:=hp.2 r hr; omega) p.Rounds [] fuel rfl (by unfold fuel; omega)
 simp only [List.length_nil] at h0
 try rw [show ((0:Nat):Int)=0 from rfl] at h0
 unfold Zci
 rw [h0]
 simp only [Option.bind_some]
 refine Ok.bind (p:=fun o:Zn × Bool × List (List Zg)=>TOk o.1∧o.2.2.length≤100∧∀ r∈o.2.2,r.length≤100) ?_ fun o ho=>?_
 ·have hbase:p.Rounds.length≤100∧∀ r∈p.Rounds,r.length≤100:=⟨by omega,fun r hr=>by have:=hp.2 r hr; omega⟩
  refine Ok.bind (Zg7 ht 5 (by omega)) fun r hr=>?_
  refine Ok.ite (fun _=>?_) fun _=>Ok.ite (fun _=>Ok.ret ⟨hr.2,hbase⟩) fun _=>Ok.ite (fun _=>?_) fun _=>Ok.ite (fun _=>?_) fun _=>?_
  ·refine Ok.chk (by unfold lim; omega) (Ok.ret ⟨hr.2,by simp; omega,fun x hx=>?_⟩)
   rcases List.mem_append.1 hx with hx | hx
   ·exact hbase.2 x hx
   ·rw [List.mem_singleton.1 hx]; simp
  ·refine Ok.bind (Zg7 hr.2 6 (by omega)) fun q hq=>Ok.bind (Zg7 hq.2 6 (by omega)) fun q2 hq2=>?_
   refine Ok.chk (by unfold lim; omega) (Ok.ret ⟨hq2.2,by simp; omega,fun x hx=>?_⟩)
   rcases List.mem_append.1 hx with hx | hx
   ·exact hbase.2 x hx
   ·rw [List.mem_singleton.1 hx]; simp
  ·refine Ok.ite (fun h=>?_) fun _=>Ok.ret ⟨hr.2,hbase⟩
   simp only [decide_eq_true_eq] at h
   refine Ok.bind (Ok.idx (p:=fun x:List Zg=>1≤x.length∧x.length≤4) (Int.le_refl _) (by omega) hp.2) fun x hx=>?_
   refine Ok.bind (Ok.idx (p:=fun _=>True) (Int.le_refl _) (by omega) (fun _ _=>trivial)) fun y _=>?_
   refine Ok.chk (by simp only [List.length_cons,List.length_nil]; unfold lim; omega) (Ok.ret ⟨hr.2,by simpa using hbase.1,fun z hz=>?_⟩)
   rcases List.mem_or_eq_of_mem_set hz with hz | hz
   ·exact hbase.2 z hz
   ·rw [hz]; simp; omega
  ·refine Ok.bind (p:=fun v:Bool=>v=true→(p.Rounds.length:Int) > 0) ?_ fun v hv=>?_
   ·refine Ok.ite (fun h=>?_) fun _=>Ok.ret (fun h=>by cases h)
    have h1:(p.Rounds.length:Int) > 0:=by simpa using h
    exact Ok.bind (Ok.idx (p:=fun _=>True) (Int.le_refl _) (by omega) (fun _ _=>trivial)) fun x _=>Ok.ret (fun _=>h1)
   ·refine Ok.ite (fun h=>?_) fun _=>Ok.ret ⟨hr.2,hbase⟩
    have h1:=hv h
    refine Ok.bind (Ok.idx (p:=fun x:List Zg=>1≤x.length∧x.length≤4) (Int.le_refl _) (by omega) hp.2) fun x hx=>?_
    refine Ok.bind (Zg7 hr.2 6 (by omega)) fun q hq=>?_
    refine Ok.bind (Ok.idx (p:=fun _=>True) (Int.le_refl _) (by omega) (fun _ _=>trivial)) fun y _=>?_
    refine Ok.ret ⟨hq.2,by simpa using hbase.1,fun z hz=>?_⟩
    rcases List.mem_or_eq_of_mem_set hz with hz | hz
    ·exact hbase.2 z hz
    ·rw [hz]; simp; omega
 ·obtain⟨a,b,c⟩:=o
  simp only at ho ⊢
  exact Ok.ret ⟨⟨by simp only; omega,fun r hr=>by have:=ho.2.2 r hr; omega⟩,ho.1⟩
theorem Zki {a0:List Int} {a1:Zu} {a2:Int} (h0:Zlo a0) (h1:Zk7 a1) (_:Zh4 a2):Zb8 a0 a1 a2=some true:=by
 have hsane:Ze2=some true:=rfl
 suffices hT:Ok (Zb8 a0 a1 a2) (·=true) from hT.eq
 unfold Zb8
 refine Ok.bind (New_ok (Zq6 h0)) fun t ht=>?_
 refine Ok.bind (Zmt ht 4 (by omega) (by omega)) fun r hr=>?_
 rw [wi64 (x:=1 + r.1) (by omega) (by omega)]
 refine Ok.bind (Zq7 hr.2 (n:=1 + r.1) (by omega)) fun p hp=>?_
 refine Ok.bind (Zqs hp.2 hp.1) fun q hq=>?_
 have hp1:PlanOk p.1:=⟨by have:=hp.1.1; omega,fun r hr=>by have:=hp.1.2 r hr; omega⟩
 by_cases h:(decide ((a1.Rounds.length:Int) > 20))=true
 ·rw [if_pos h,hsane]
  exact Ok.ret rfl
 ·rw [if_neg h]
  simp only [decide_eq_true_eq] at h
  have hp2:PlanOk a1:=⟨by omega,fun r hr=>by have:=(h1.2.1.2 r hr).1; omega⟩
  rw [Zha hp1,Zha hq.1,Zha hp1,Zha hp2]
  simp only [Option.bind_some,hsane,if_true]
  exact Ok.ret rfl
end Go.AM

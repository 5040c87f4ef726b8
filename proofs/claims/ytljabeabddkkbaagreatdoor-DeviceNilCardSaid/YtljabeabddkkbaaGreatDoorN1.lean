/- DeviceNil: the law, followed over all arguments. No condition. -/
import Derived.Test.YtljabeabddkkbaaGreatDoorS
import Derived.Test.YtljabeabddkkbaaGreatDoorA39
set_option maxRecDepth 1000000
namespace Go.AM
open Go Go.Proofs
def F_nsglaw26_DeviceNil (_ : Int) (_ : List Int) (_ : api_Frame) (_ : Int) : Option Bool := some true
theorem K_nsglaw26_DeviceNil (a0 : Int) (a1 : List Int) (a2 : api_Frame) (a3 : Int) (r : Bool) (hF : F_nsglaw26_DeviceNil a0 a1 a2 a3 = some r) : ACall Tryz.prog glob 3 [.sc (.int .i64 a0), slc 1 row_u8 a1, pv_api_Frame a2, .sc (.int .i64 a3)] [] (fun q K => q = .sc (.bool r) ∧ K = []) := by
  simp only [F_nsglaw26_DeviceNil, Option.some.injEq] at hF
  subst hF
  exact ACall.execL (p := .sc (.bool true)) T69_ok 100000 100 (by kernel_rfl)
theorem DeviceNil_card {a0 : Int} {a1 : List Int} {a2 : api_Frame} {a3 : Int} (_ : ok_i64 a0) (_ : ok_s_u8 a1) (_ : ok_api_Frame a2) (_ : ok_i64 a3) : F_nsglaw26_DeviceNil a0 a1 a2 a3 = some true := rfl
end Go.AM

/- ConntrackNil: the law, followed over all arguments. No condition. -/
import Derived.Test.YtainggmhdmocfaaDoorS
set_option maxRecDepth 1000000
namespace Go.AM
open Go Go.Proofs
def F_nsglaw25_ConntrackNil (_ : Int) (_ : api_Header) (_ : Bool) (_ : Int) : Option Bool := some true
theorem K_nsglaw25_ConntrackNil (a0 : Int) (a1 : api_Header) (a2 : Bool) (a3 : Int) (r : Bool) (hF : F_nsglaw25_ConntrackNil a0 a1 a2 a3 = some r) : ACall Tryd.prog glob 5 [.sc (.int .i64 a0), pv_api_Header a1, .sc (.bool a2), .sc (.int .i64 a3)] [] (fun q K => q = .sc (.bool r) ∧ K = []) := by
  simp only [F_nsglaw25_ConntrackNil, Option.some.injEq] at hF
  subst hF
  exact (ACall.exec (p := .sc (.bool true)) T3_ok 100000 (by kernel_rfl)).1
theorem ConntrackNil_card {a0 : Int} {a1 : api_Header} {a2 : Bool} {a3 : Int} (_ : ok_i64 a0) (_ : ok_api_Header a1) (_ : True) (_ : ok_i64 a3) : F_nsglaw25_ConntrackNil a0 a1 a2 a3 = some true := rfl
end Go.AM

/- NetworkNil: the law, followed over all arguments. No condition. -/
import Derived.Test.YteondmdcbhhbfaaGreatDoorS
set_option maxRecDepth 1000000
namespace Go.AM
open Go Go.Proofs
def F_nsglaw27_NetworkNil (_ : Int) (_ : List Int) (_ : Int) : Option Bool := some true
theorem K_nsglaw27_NetworkNil (a0 : Int) (a1 : List Int) (a2 : Int) (r : Bool) (hF : F_nsglaw27_NetworkNil a0 a1 a2 = some r) : ACall Tryz.prog glob 3 [.sc (.int .i64 a0), slc 1 row_u8 a1, .sc (.int .i64 a2)] [] (fun q K => q = .sc (.bool r) ∧ K = []) := by
  simp only [F_nsglaw27_NetworkNil, Option.some.injEq] at hF
  subst hF
  exact (ACall.exec (p := .sc (.bool true)) T98_ok 100000 (by kernel_rfl)).1
theorem NetworkNil_card {a0 : Int} {a1 : List Int} {a2 : Int} (_ : ok_i64 a0) (_ : ok_s_u8 a1) (_ : ok_i64 a2) : F_nsglaw27_NetworkNil a0 a1 a2 = some true := rfl
end Go.AM

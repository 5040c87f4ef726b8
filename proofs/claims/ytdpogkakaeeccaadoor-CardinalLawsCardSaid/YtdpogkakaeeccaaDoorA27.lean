/- Calls of functions without a body, for numbers that are not known. No condition. -/
import Derived.Test.YtdpogkakaeeccaaDoorA26
import Derived.Laws.Externs
namespace Go.AM
section
variable {P : Program} {G : Glob} {n0 nt : Nat} {o : Oper} {st : St} {H : List Blk}
theorem OpT.add64 {cl : Call} {f : FuncId} {fn : Func} {x y z : Operand} {ts : Array TypeId} {a b c : Int} (ho : o.op = .call cl) (hcl : cl = { callee := .value (.func f), args := #[x, y, z], argTypes := ts }) (hfn : P.funcs[f]? = some fn) (hname : (fn.name == "runtime.NumGoroutine") = false)
    (hb : fn.body.isNone = true) (hn : Extern.findNext fn = none) (he : Extern.find fn = some add64Entry) (hx : opd G st x = some (.sc (.int .u64 a))) (hy : opd G st y = some (.sc (.int .u64 b))) (hz : opd G st z = some (.sc (.int .u64 c)))
    (ha : 0 ≤ a) (hb' : 0 ≤ b) (hc0 : 0 ≤ c) (hc : c ≤ 1) : OpT P G n0 o st H (.tup [.sc (.int .u64 ((a + b + c) % 18446744073709551616)), .sc (.int .u64 ((a + b + c) / 18446744073709551616))]) H :=
  OpT.value fun ct ac w β h0 hr => by
    have h1 := hr.opd hx
    have h2 := hr.opd hy
    have h3 := hr.opd hz
    simp only [VR] at h1 h2 h3
    have hrun := run_callFunc_extern hfn hname hb hn he #[.int .u64 a, .int .u64 b, .int .u64 c] w
    rw [run_add64 a b c ha hb' hc0 hc] at hrun
    refine ⟨.tuple #[.int .u64 ((a + b + c) % 18446744073709551616), .int .u64 ((a + b + c) / 18446744073709551616)], ?_, ?_⟩
    · have hfe : ac.eval (.func f) = .func (.func f) #[] #[] := rfl
      simp [execOp, ho, hcl, resolve, Deferred.ofValue, invoke, h1, h2, h3, hfe, hrun]
    · simp only [VR, VRs]
      exact ⟨_, rfl, rfl, rfl, trivial⟩
end
end Go.AM

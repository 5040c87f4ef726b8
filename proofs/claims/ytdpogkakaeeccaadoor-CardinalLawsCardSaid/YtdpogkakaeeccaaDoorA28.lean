/- Calls of functions without a body, for numbers that are not known: a handler. No condition. -/
import Derived.Test.YtdpogkakaeeccaaDoorA27
namespace Go.AM
section
variable {P : Program} {G : Glob} {n0 nt : Nat} {o : Oper} {st : St} {H : List Blk}
theorem OpT.exn {cl : Call} {f : FuncId} {fn : Func} {e : Array Value → Sem Value} {cs : List Value} {p : PV} (ho : o.op = .call cl) (hc : cl.callee = .value (.func f)) (hfn : P.funcs[f]? = some fn) (hname : (fn.name == "runtime.NumGoroutine") = false)
    (hb : fn.body.isNone = true) (hn : Extern.findNext fn = none) (he : Extern.find fn = some e) (hargs : cl.args.toList.map (opd G st) = (cs.map PV.sc).map some)
    (hrun : ∀ w, ∃ v, (e cs.toArray).run P w = .ok v w ∧ ∀ S β, VR S β w p v) : OpT P G n0 o st H p H :=
  OpT.value fun c a w β h0 hr => by
    have h1 := VRs.scs_iff _ _ (VRs.of_opds hr cl.args.toList _ hargs)
    have h2 : cl.args.map a.eval = cs.toArray := by
      apply Array.toList_inj.1
      simpa using h1
    obtain ⟨v, h3, h4⟩ := hrun w
    refine ⟨v, ?_, h4 _ _⟩
    have h5 := run_callFunc_extern hfn hname hb hn he cs.toArray w
    rw [h3] at h5
    have hfe : a.eval (.func f) = .func (.func f) #[] #[] := rfl
    simp [execOp, ho, resolve, hc, hfe, Deferred.ofValue, invoke, h2, h5]
/-- A function without a body. -/
def Hnd.ext {f : FuncId} {fn : Func} {e : Array Value → Sem Value} {cs : List Value} {p : PV} (hrun : ∀ (P : Program) w, ∃ v, (e cs.toArray).run P w = .ok v w ∧ ∀ S β, VR S β w p v)
    (hfn : P.funcs[f]? = some fn) (hname : (fn.name == "runtime.NumGoroutine") = false) (hb : fn.body.isNone = true) (hn : Extern.findNext fn = none) (he : Extern.find fn = some e) : Hnd P G where
  run o st H := match o.op with
    | .call cl => match cl.callee with
      | .value (.func g) => match opdL G st cl.args.toList with
        | some ps => if Nat.beq g f then some ⟨p, H, [.ps ps], [.ps (cs.map PV.sc)]⟩ else none
        | none => none
      | _ => none
    | _ => none
  sound := by
    intro n0 o st H x h he'
    suffices hT : OpT P G n0 o st H x.p x.H from hT.weak
    split at h
    · rename_i cl ho
      split at h
      · rename_i g hc
        split at h
        · rename_i ps hps
          split at h
          · rename_i hg
            have hg := Nat.eq_of_beq_eq_true hg
            subst hg
            simp only [Option.some.injEq] at h
            subst h
            simp only [List.cons.injEq, T.ps.injEq, and_true] at he'
            subst he'
            exact OpT.exn ho hc hfn hname hb hn he (opdL_spec _ _ hps) (hrun P)
          · cases h
        · cases h
      · cases h
    · cases h
end
theorem ext_add64 {a b c : Int} (h : 0 ≤ a ∧ 0 ≤ b ∧ 0 ≤ c ∧ c ≤ 1) (P : Program) (w : World) : ∃ v, (add64Entry [Value.int .u64 a, .int .u64 b, .int .u64 c].toArray).run P w = .ok v w ∧
    ∀ S β, VR S β w (.tup [u64 ((a + b + c) % 18446744073709551616), u64 ((a + b + c) / 18446744073709551616)]) v :=
  ⟨_, run_add64 a b c h.1 h.2.1 h.2.2.1 h.2.2.2 w, fun S β => by simp only [VR, VRs]; exact ⟨_, rfl, rfl, rfl, trivial⟩⟩

def sub64Entry : Array Value → Sem Value := fun args => do
  let (x, y, b) ← Extern.MathBitsCarry.three "Sub64" args
  pure (Extern.MathBitsCarry.pair ((x + Extern.MathBitsCarry.m64 - y - b) % Extern.MathBitsCarry.m64) (if x < y + b then 1 else 0))
theorem ext_sub64 {a b c : Int} (h : 0 ≤ a ∧ 0 ≤ b ∧ b ≤ 18446744073709551615 ∧ 0 ≤ c ∧ c ≤ 1) (P : Program) (w : World) : ∃ v, (sub64Entry [Value.int .u64 a, .int .u64 b, .int .u64 c].toArray).run P w = .ok v w ∧
    ∀ S β, VR S β w (.tup [u64 ((a + 18446744073709551616 - b - c) % 18446744073709551616), u64 (if a < b + c then 1 else 0)]) v := by
  obtain ⟨h1, h2, h3, h4, h5⟩ := h
  have key : ∀ k : Nat, k ≤ 1 → (sub64Entry [Value.int .u64 a, .int .u64 b, .int .u64 (k : Int)].toArray).run P w =
      .ok (Extern.MathBitsCarry.pair ((a.toNat + Extern.MathBitsCarry.m64 - b.toNat - k) % Extern.MathBitsCarry.m64) (if a.toNat < b.toNat + k then 1 else 0)) w := by
    intro k hk
    have : k = 0 ∨ k = 1 := by omega
    rcases this with rfl | rfl <;> rfl
  obtain ⟨k, rfl⟩ := Int.eq_ofNat_of_zero_le h4
  refine ⟨_, key k (by omega), fun S β => ?_⟩
  obtain ⟨X, rfl⟩ := Int.eq_ofNat_of_zero_le h1
  obtain ⟨Y, rfl⟩ := Int.eq_ofNat_of_zero_le h2
  simp only [VR, VRs, Extern.MathBitsCarry.pair, Extern.MathBitsCarry.m64, Int.toNat_natCast]
  refine ⟨_, rfl, ?_, ?_, trivial⟩
  · congr 1
    simp only [Int.ofNat_eq_natCast]
    omega
  · congr 1
    simp only [Int.ofNat_eq_natCast]
    split <;> split <;> simp <;> omega
end Go.AM

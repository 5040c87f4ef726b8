/- Calls of functions without a body, for numbers that are not known. No condition. -/
import Derived.Laws.Externs
import Derived.Test.YtainggmhdmocfaaDoorBC
namespace Go.AM
section
variable {P : Program} {G : Glob} {n0 nt : Nat} {o : Oper} {st : St} {H : List Blk}
theorem OpT.add64 {cl : Call} {f : FuncId} {fn : Func} {x y z : Operand} {ts : Array TypeId} {a b c : Int} (ho : o.op = .call cl) (hcl : cl = { callee := .value (.func f), args := #[x, y, z], argTypes := ts }) (hfn : P.funcs[f]? = some fn) (hname : (fn.name == "runtime.NumGoroutine") = false)
    (hb : fn.body.isNone = true) (hn : Extern.findNext fn = none) (he : Extern.find fn = some add64Entry) (hx : opd G st x = some (.sc (.int .u64 a))) (hy : opd G st y = some (.sc (.int .u64 b))) (hz : opd G st z = some (.sc (.int .u64 c)))
    (ha : 0 ≤ a) (hb' : 0 ≤ b) (hc0 : 0 ≤ c) (hc : c ≤ 1) : OpT P G n0 o st H (.tup [.sc (.int .u64 ((a + b + c) % 18446744073709551616)), .sc (.int .u64 ((a + b + c) / 18446744073709551616))]) H :=
  OpT.value fun ct ac w β h0 hr => by
    have h1 := hr.opd hx
    have h2 := hr.opd hy
    have h3 := hr.opd hz
    simp only [VR] at h1 h2 h3
    have hrun := run_callFunc_extern hfn hname hb hn he #[.int .u64 a, .int .u64 b, .int .u64 c] w
    rw [run_add64 a b c ha hb' hc0 hc] at hrun
    refine ⟨.tuple #[.int .u64 ((a + b + c) % 18446744073709551616), .int .u64 ((a + b + c) / 18446744073709551616)], ?_, ?_⟩
    · have hfe : ac.eval (.func f) = .func (.func f) #[] #[] := rfl
      simp [execOp, ho, hcl, resolve, Deferred.ofValue, invoke, h1, h2, h3, hfe, hrun]
    · simp only [VR]
      exact ⟨_, rfl, rfl, rfl, trivial⟩
end
end Go.AM
/- Calls of functions without a body, for numbers that are not known: a handler. No condition. -/
namespace Go.AM
section
variable {P : Program} {G : Glob} {n0 nt : Nat} {o : Oper} {st : St} {H : List Blk}
theorem OpT.exn {cl : Call} {f : FuncId} {fn : Func} {e : Array Value → Sem Value} {cs : List Value} {p : PV} (ho : o.op = .call cl) (hc : cl.callee = .value (.func f)) (hfn : P.funcs[f]? = some fn) (hname : (fn.name == "runtime.NumGoroutine") = false)
    (hb : fn.body.isNone = true) (hn : Extern.findNext fn = none) (he : Extern.find fn = some e) (hargs : cl.args.toList.map (opd G st) = (cs.map PV.sc).map some)
    (hrun : ∀ w, ∃ v, (e cs.toArray).run P w = .ok v w ∧ ∀ S β, VR S β w p v) : OpT P G n0 o st H p H :=
  OpT.value fun c a w β h0 hr => by
    have h1 := VRs.scs_iff _ _ (VRs.of_opds hr cl.args.toList _ hargs)
    have h2 : cl.args.map a.eval = cs.toArray := by
      apply Array.toList_inj.1
      simpa using h1
    obtain ⟨v, h3, h4⟩ := hrun w
    refine ⟨v, ?_, h4 _ _⟩
    have h5 := run_callFunc_extern hfn hname hb hn he cs.toArray w
    rw [h3] at h5
    have hfe : a.eval (.func f) = .func (.func f) #[] #[] := rfl
    simp [execOp, ho, resolve, hc, hfe, Deferred.ofValue, invoke, h2, h5]
/-- A function without a body. -/
def Hnd.ext {f : FuncId} {fn : Func} {e : Array Value → Sem Value} {cs : List Value} {p : PV} (hrun : ∀ (P : Program) w, ∃ v, (e cs.toArray).run P w = .ok v w ∧ ∀ S β, VR S β w p v)
    (hfn : P.funcs[f]? = some fn) (hname : (fn.name == "runtime.NumGoroutine") = false) (hb : fn.body.isNone = true) (hn : Extern.findNext fn = none) (he : Extern.find fn = some e) : Hnd P G where
  run o st H := match o.op with
    | .call cl => match cl.callee with
      | .value (.func g) => match opdL G st cl.args.toList with
        | some ps => if Nat.beq g f then some ⟨p, H, [.ps ps], [.ps (cs.map PV.sc)]⟩ else none
        | none => none
      | _ => none
    | _ => none
  sound := by
    intro n0 o st H x h he'
    suffices hT : OpT P G n0 o st H x.p x.H from hT.weak
    split at h
    · rename_i cl ho
      split at h
      · rename_i g hc
        split at h
        · rename_i ps hps
          split at h
          · rename_i hg
            have hg := Nat.eq_of_beq_eq_true hg
            subst hg
            simp only [Option.some.injEq] at h
            subst h
            simp only [List.cons.injEq, T.ps.injEq, and_true] at he'
            subst he'
            exact OpT.exn ho hc hfn hname hb hn he (opdL_spec _ _ hps) (hrun P)
          · cases h
        · cases h
      · cases h
    · cases h
end
theorem ext_add64 {a b c : Int} (h : 0 ≤ a ∧ 0 ≤ b ∧ 0 ≤ c ∧ c ≤ 1) (P : Program) (w : World) : ∃ v, (add64Entry [Value.int .u64 a, .int .u64 b, .int .u64 c].toArray).run P w = .ok v w ∧
    ∀ S β, VR S β w (.tup [u64 ((a + b + c) % 18446744073709551616), u64 ((a + b + c) / 18446744073709551616)]) v :=
  ⟨_, run_add64 a b c h.1 h.2.1 h.2.2.1 h.2.2.2 w, fun S β => by simp only [VR]; exact ⟨_, rfl, rfl, rfl, trivial⟩⟩

def sub64Entry : Array Value → Sem Value := fun args => do
  let (x, y, b) ← Extern.MathBitsCarry.three "Sub64" args
  pure (Extern.MathBitsCarry.pair ((x + Extern.MathBitsCarry.m64 - y - b) % Extern.MathBitsCarry.m64) (if x < y + b then 1 else 0))
theorem ext_sub64 {a b c : Int} (h : 0 ≤ a ∧ 0 ≤ b ∧ b ≤ 18446744073709551615 ∧ 0 ≤ c ∧ c ≤ 1) (P : Program) (w : World) : ∃ v, (sub64Entry [Value.int .u64 a, .int .u64 b, .int .u64 c].toArray).run P w = .ok v w ∧
    ∀ S β, VR S β w (.tup [u64 ((a + 18446744073709551616 - b - c) % 18446744073709551616), u64 (if a < b + c then 1 else 0)]) v := by
  obtain ⟨h1, h2, h3, h4, h5⟩ := h
  have key : ∀ k : Nat, k ≤ 1 → (sub64Entry [Value.int .u64 a, .int .u64 b, .int .u64 (k : Int)].toArray).run P w =
      .ok (Extern.MathBitsCarry.pair ((a.toNat + Extern.MathBitsCarry.m64 - b.toNat - k) % Extern.MathBitsCarry.m64) (if a.toNat < b.toNat + k then 1 else 0)) w := by
    intro k hk
    have : k = 0 ∨ k = 1 := by omega
    rcases this with rfl | rfl <;> rfl
  obtain ⟨k, rfl⟩ := Int.eq_ofNat_of_zero_le h4
  refine ⟨_, key k (by omega), fun S β => ?_⟩
  obtain ⟨X, rfl⟩ := Int.eq_ofNat_of_zero_le h1
  obtain ⟨Y, rfl⟩ := Int.eq_ofNat_of_zero_le h2
  simp only [VR, Extern.MathBitsCarry.pair, Extern.MathBitsCarry.m64, Int.toNat_natCast]
  refine ⟨_, rfl, ?_, ?_, trivial⟩
  · congr 1
    simp only [Int.ofNat_eq_natCast]
    omega
  · congr 1
    simp only [Int.ofNat_eq_natCast]
    split <;> split <;> simp <;> omega
end Go.AM
/- Calls that hand over the elements of a buffer as cells; elements of a view of cells. No condition. -/
namespace Go.AM
section
variable {P : Program} {G : Glob} {c : Ctx} {β : List Bnd} {st : St} {H : List Blk} {a : Act} {w : World} {n0 nt : Nat} {o : Oper}

theorem VR.closed {S S' : Nat → Nat → Prop} {w' : World} {β' : List Bnd} (hx : Ext S w S' w') {p : PV} {u : Value} (hp : p.ids (fun _ => false) = true) (h : VR S β w p u) : VR S' β' w' p u :=
  VR.ext hx (q := fun _ => false) (fun i e hq _ => by cases hq) p u hp h
theorem VRs.closed {S S' : Nat → Nat → Prop} {w' : World} {β' : List Bnd} (hx : Ext S w S' w') {ps : List PV} {us : List Value} (hp : PV.idss (fun _ => false) ps = true) (h : VRs S β w ps us) : VRs S' β' w' ps us :=
  VRs.ext hx (q := fun _ => false) (fun i e hq _ => by cases hq) ps us hp h

theorem OpT.asH {p : PV} {H1 H' : List Blk} (h : OpT P G n0 o st H p H1) (e : H1 = H') : OpT P G n0 o st H p H' := by subst e; exact h
/-- The elements of a buffer as cells of a block of their own, for the time of a call. -/
theorem RelB.callB (h : RelB G c β st H a w) {i s t : Nat} {xs ys : List (List PV)} {e : Bnd} (he : β[i]? = some e) (hb : H[i]? = some (.buf s t xs false)) (hne : xs ≠ []) (hlen : ys.length = xs.length) (hys : ∀ y ∈ ys, y.length = s) :
    ∃ (g cap : Nat) (sp : List Value), xs.length ≤ cap ∧ e.v = .slice (some ⟨g, 0, none⟩) xs.length cap ∧ InOk G (stab c β H w) [⟨g, undef, 0, 0⟩] [.cells (xs.flatten ++ sp.map .sc)] w ∧
      ∀ γ w', OutOk (stab c β H w) [⟨g, undef, 0, 0⟩] γ [.cells (ys.flatten ++ sp.map .sc)] w w' →
        γ = [] ∧ RelB G c (β.set i ⟨e.b, e.v, ys.length, s⟩) st (H.set i (.buf s t ys false)) a w' ∧
        Ext (stab c β H w) w (stab c (β.set i ⟨e.b, e.v, ys.length, s⟩) (H.set i (.buf s t ys false)) w') w' ∧ BExt (fun _ => true) β (β.set i ⟨e.b, e.v, ys.length, s⟩) ∧
        Ext (stab1 (stab c β H w) γ w w') w' (stab c (β.set i ⟨e.b, e.v, ys.length, s⟩) (H.set i (.buf s t ys false)) w') w' := by
  obtain ⟨q1, q2, q3, vals0, ⟨q4, q4'⟩, q5⟩ := h.blk i e _ he hb
  rcases q4' with ⟨_, q6⟩ | ⟨g, cap, cur, e1, e2, e3, e4, e5, e6, e7⟩
  · exact absurd (List.eq_nil_of_length_eq_zero q6) hne
  have hg : e.v.ownBlock = some g := by rw [e1]; rfl
  have hn0 : c.β0.length ≤ i := by
    rcases Nat.lt_or_ge i c.β0.length with hlt | hge
    · obtain ⟨cs, hc, hcf⟩ := h.cel i hlt
      rw [hb] at hc; cases hc; cases hcf
    · exact hge
  obtain ⟨hg0, hgl⟩ := h.loc i e _ g hn0 he hb hg
  have hgs : ∀ b hi, stab c β H w b hi → g ≠ b := fun b hi hs => by
    rcases hs with hs | ⟨_, _, h3⟩
    · have := (h.ok.old b hi hs).1; omega
    · intro hgb
      have := (h3 i e _ he hb (by rw [hg, hgb])).1
      cases this
  have hfl : xs.flatten.length = xs.length * s := flat_length xs q3
  have hfy : ys.flatten.length = ys.length * s := flat_length ys hys
  let sp := cur.toList.drop (xs.length * s)
  have hcur : cur.toList = vals0 ++ sp := by rw [← e7]; exact (List.take_append_drop _ _).symm
  have hidx : PV.idss (fun _ => false) xs.flatten = true := by
    have := VRs.idsLt _ _ q5
    refine PV.idss_mono (fun j hj => ?_) _ this
    simp at hj
  refine ⟨g, cap, sp, e4, e1, ⟨⟨fun b hi hs => ⟨stab_lt h hs, fun f hf => ?_⟩, fun gl cs hgl' => ?_, fun f hf => ?_, fun b hi hi' h1 h2 => h.ok.stab h1 h2⟩, rfl, fun j f k hj hk => ?_, fun j k f f' hjk hf hf' => ?_⟩, fun γ w' ho => ?_⟩
  · simp only [List.mem_singleton] at hf; subst hf; exact hgs b hi hs
  · obtain ⟨h1, h2⟩ := h.ok.glob gl cs hgl'
    exact ⟨h.ext0.stab _ _ h1, VRow.ext h.ext0 (BExt.refl _ _) gl cs.length h1 cs 0 (by omega) (PV.idss_true cs) h2⟩
  · simp only [List.mem_singleton] at hf; subst hf; exact hgl
  · cases j with
    | succ j => simp at hj
    | zero =>
      simp at hj hk; subst hj hk
      refine ⟨_, rfl, ?_, cur, t, e3, ?_⟩
      · rw [PV.idss_append, idss_scs, Bool.and_true]
        exact PV.idss_mono (fun _ hf => by cases hf) _ hidx
      · rw [hcur]
        exact VRs.append _ _ _ _ (VRs.closed (Ext.refl _ _) hidx q5) (VRs.scs sp)
  · cases j with
    | succ j => simp at hf
    | zero => cases k with
      | zero => exact absurd rfl hjk
      | succ k => simp at hf'
  · have hγ : γ = [] := by
      have := ho.len
      simp at this
      exact this
    subst hγ
    obtain ⟨cs, hcs, hid, vs, t', k2, k3⟩ := ho.blk 0 ⟨g, undef, 0, 0⟩ _ rfl rfl
    cases hcs
    obtain ⟨vs1, k4⟩ := ho.frm.typ g cur t e3
    rw [k2] at k4
    cases k4
    have hvl := VRs.length _ _ k3
    have k5 := VRs.take ys.flatten.length _ _ k3
    have k6 := VRs.drop ys.flatten.length _ _ k3
    rw [List.take_left] at k5
    rw [List.drop_left] at k6
    have hspl : sp.length = cap * s - xs.length * s := by simp only [sp, List.length_drop, Array.length_toList, e6]
    have hmul : xs.length * s ≤ cap * s := Nat.mul_le_mul_right s e4
    have hvsz : vs.size = cap * s := by
      simp only [List.length_append, List.length_map, Array.length_toList] at hvl
      rw [hvl, hfy, hspl, hlen]; omega
    have hidy : PV.idss (fun _ => false) ys.flatten = true := by
      rw [PV.idss_append, Bool.and_eq_true] at hid
      refine PV.idss_mono (fun j hj => ?_) _ hid.1
      simp at hj
    have hst : ∀ (β' : List Bnd) (H' : List Blk), (∀ (j : Nat) f k, β'[j]? = some f → H'[j]? = some k → (j ≠ i ∧ β[j]? = some f ∧ H[j]? = some k) ∨ (j = i ∧ f.v = e.v ∧ ∃ s' t' xs' , k = .buf s' t' xs' false)) →
        Ext (stab c β H w) w (stab c β' H' w') w' → Ext (stab1 (stab c β H w) [] w w') w' (stab c β' H' w') w' := fun β' H' hk hx => by
      refine ⟨fun b hi hs => ?_, fun _ _ _ _ _ _ h => h⟩
      rcases hs with hs | ⟨h1, h2, _⟩
      · exact hx.stab b hi hs
      · refine .inr ⟨Nat.le_trans h.frm.size h1, h2, fun j f k hj hj' => ?_⟩
        rcases hk j f k hj hj' with ⟨_, g1, g2⟩ | ⟨rfl, g1, s', t', xs', rfl⟩
        · cases k with
          | cells cs => exact fun hb' => by have := at_lt (h.blk j f _ g1 g2) (b := b) (by simp [Blk.at, hb']); omega
          | map es cl => exact fun hb' => by have := at_lt (h.blk j f _ g1 g2) (b := b) (by simp [Blk.at, hb']); omega
          | far cs => exact fun hb' => by have := at_lt (h.blk j f _ g1 g2) (b := b) (by simp [Blk.at, hb']); omega
          | iter m since seen last => exact fun hb' => by have := at_lt (h.blk j f _ g1 g2) (b := b) (by simp [Blk.at, hb']); omega
          | buf s' t' xs' sh => exact fun hb' => by have := at_lt (h.blk j f _ g1 g2) (b := b) hb'; omega
        · intro hb'
          rw [g1, hg] at hb'
          cases hb'; omega
    have hkey : ∀ (j : Nat) f k, (β.set i ⟨e.b, e.v, ys.length, s⟩)[j]? = some f → (H.set i (.buf s t ys false))[j]? = some k → (j ≠ i ∧ β[j]? = some f ∧ H[j]? = some k) ∨ (j = i ∧ f.v = e.v ∧ ∃ s' t' xs' , k = .buf s' t' xs' false) := fun j f k hf hk => by
      rcases get_set hf with ⟨hji, hf⟩ | ⟨rfl, rfl⟩
      · rcases get_set hk with ⟨_, hk⟩ | ⟨e, _⟩
        · exact .inl ⟨hji, hf, hk⟩
        · exact absurd e hji
      · rcases get_set hk with ⟨e, _⟩ | ⟨_, rfl⟩
        · exact absurd rfl e
        · exact .inr ⟨rfl, rfl, s, t, ys, rfl⟩
    have hre := h.rebuf' he hb (w' := w') (v' := e.v) (xs' := ys) (vals := vs.toList.take ys.flatten.length) ho.frm.os ho.frm.tape ho.frm.output ho.frm.size
      (fun b hlt hne' => ho.frm.block b hlt fun f hf => by simp only [List.mem_singleton] at hf; subst hf; exact fun hgb => hne' (by rw [hg]; exact congrArg some hgb))
      (by omega) (fun _ => rfl) (fun h => by cases h)
      ⟨by rw [List.length_take, hfy, show vs.toList.length = cap * s by simpa using hvsz, hlen]; omega, .inr ⟨g, cap, vs, by rw [hlen]; exact e1, e2, k2, by omega, e5, hvsz, by rw [hfy]⟩⟩
      (fun g' hg' => .inl hg') hys
      (fun hx => VRs.closed (hst _ _ hkey hx) hidy k5)
    exact ⟨rfl, hre.1, hre.2.1, hre.2.2, hst _ _ hkey hre.2.1⟩

/-- A call of a function that turns the elements of a buffer. -/
theorem OpT.callB {cl : Call} {x : Operand} {f : FuncId} {fn : Func} {i s t : Nat} {xs ys : List (List PV)} {rest : List PV} {p : PV}
    (ho : o.op = .call cl) (hc : cl.callee = .value x) (hx : opd G st x = some (.sc (.func (.func f) #[] #[])))
    (hfn : P.funcs[f]? = some fn) (hbody : fn.body.isNone = false) (hname : (fn.name == "runtime.NumGoroutine") = false)
    (hargs : cl.args.toList.map (opd G st) = (.own i xs.length :: rest).map some) (hrest : PV.idss (fun _ => false) rest = true) (hb : H[i]? = some (.buf s t xs false)) (hne : xs ≠ [])
    (hlen : ys.length = xs.length) (hys : ∀ y ∈ ys, y.length = s)
    (hcall : ∀ sp : List Value, ACall P G f (.vw 0 0 xs.length :: rest) [.cells (xs.flatten ++ sp.map .sc)] (fun q K => q = p ∧ K = [.cells (ys.flatten ++ sp.map .sc)])) (hp : p.ids (fun _ => false) = true) :
    OpT P G n0 o st H p (H.set i (.buf s t ys false)) := by
  intro c a w β h0 hr
  have hv := VRs.of_opds hr cl.args.toList _ hargs
  have hlv := VRs.length _ _ hv
  obtain ⟨u, us, hus⟩ : ∃ u us, cl.args.toList.map a.eval = u :: us := by
    cases hq : cl.args.toList.map a.eval with
    | nil => rw [hq] at hlv; simp at hlv
    | cons u us => exact ⟨u, us, rfl⟩
  rw [hus] at hv
  simp only [VRs] at hv
  obtain ⟨hv1, hv2⟩ := hv
  simp only [VR] at hv1
  obtain ⟨_, e, he, _, hve⟩ := hv1
  obtain ⟨q1, _⟩ := hr.blk i e _ he hb
  have hve := hve q1.symm
  obtain ⟨g, cap, sp, k1, k2, k3, k4⟩ := hr.callB he hb hne hlen hys
  have hxe := hr.opd hx
  simp only [VR] at hxe
  have hex : (execOp a.eval o).run P w = .ok (.enter f (cl.args.map a.eval)) w := by
    have hn : ¬ fn.name = "runtime.NumGoroutine" := by simpa using hname
    have hb : ¬ fn.body = none := by cases hq : fn.body <;> simp [hq] at hbody ⊢
    simp [execOp, ho, resolve, hc, hxe, Deferred.ofValue, invoke, callFunc, hfn, hn, hb]
  simp only [wpv, hex]
  refine (hcall sp _ _ w (cl.args.map a.eval) k3 ?_).mono ?_
  · have : (cl.args.map a.eval).toList = u :: us := by simpa using hus
    rw [this]
    simp only [VRs]
    refine ⟨?_, VRs.closed (Ext.refl _ _) hrest hv2⟩
    simp only [VR]
    exact ⟨_, rfl, cap, _, k1, by rw [hve, k2], fun _ => rfl⟩
  · rintro ex w' ⟨v, q, K, γ, rfl, ⟨rfl, rfl⟩, hout, hvr⟩
    obtain ⟨rfl, g1, g2, g3, g4⟩ := k4 γ w' hout
    exact ⟨v, rfl, _, g1, VR.closed g4 hp hvr, g3, g2⟩

variable {α : Type}
/-- The cells of elements, and what lies behind them. -/
def cel (row : α → List PV) (l : List α) (sp : List Value) : List PV := (l.map row).flatten ++ sp.map .sc

def Hnd.callB {f : FuncId} {fn : Func} (row : α → List PV) {s : Nat} {l l' : List α} {rest : List PV} {p1 : PV} (hfn : P.funcs[f]? = some fn) (hrow : ∀ z, (row z).length = s) (hne : l ≠ []) (hlen : l'.length = l.length)
    (hc : ∀ sp, ACall P G f (.vw 0 0 l.length :: rest) [.cells (cel row l sp)] (fun q K => q = p1 ∧ K = [.cells (cel row l' sp)])) : Hnd P G where
  run o st H := match o.op with
    | .call cl => match cl.callee with
      | .value x => match opd G st x, opdL G st cl.args.toList with
        | some px, some (.own i n :: rest') => match H[i]? with
          | some (.buf s' t xs false) =>
            if fn.body.isNone = false ∧ (fn.name == "runtime.NumGoroutine") = false ∧ PV.idss (fun _ => false) rest = true ∧ p1.ids (fun _ => false) = true ∧ Nat.beq s s' = true then
              some ⟨p1, H.set i (.buf s' t (l'.map row) false), [.p px, .n n, .ps rest', .rs xs], [.p (.sc (.func (.func f) #[] #[])), .n l.length, .ps rest, .rs (l.map row)]⟩
            else none
          | _ => none
        | _, _ => none
      | _ => none
    | _ => none
  sound := by
    intro n0 o st H x h he
    suffices hT : OpT P G n0 o st H x.p x.H from hT.weak
    split at h
    · rename_i cl ho
      split at h
      · rename_i x hcl
        split at h
        · rename_i px i n rest' hx hps
          split at h
          · rename_i s' t xs hb
            split at h
            · rename_i hcond
              obtain ⟨c1, c2, c3, c4, c5⟩ := hcond
              simp only [Option.some.injEq] at h
              subst h
              simp only [List.cons.injEq, T.p.injEq, T.ps.injEq, T.n.injEq, T.rs.injEq, and_true] at he
              obtain ⟨rfl, rfl, rfl, rfl⟩ := he
              have c5 := Nat.eq_of_beq_eq_true c5
              subst c5
              have hl1 : (l.map row).length = l.length := List.length_map ..
              refine OpT.callB (xs := l.map row) (ys := l'.map row) ho hcl hx hfn c1 c2 (by rw [hl1]; exact opdL_spec _ _ hps) c3 hb (by simpa using hne) (by simpa using hlen) ?_ (fun sp => ?_) c4
              · intro y hy
                obtain ⟨z, _, rfl⟩ := List.mem_map.1 hy
                exact hrow z
              · rw [hl1]; exact hc sp
            · cases h
          · cases h
        · cases h
      · cases h
    · cases h

/-- An element of a view of n elements, or of a part of one that begins at lo. -/
def idxn (n : Nat) (l : List α) (j : Int) : Option α := if 0 ≤ j ∧ j < (n : Int) then idx l j else none
theorem idxn_lt {n : Nat} {l : List α} {j : Int} {z : α} (h : idxn n l j = some z) : 0 ≤ j ∧ j < (n : Int) := by
  unfold idxn at h; split at h
  · assumption
  · cases h
theorem idxn_idx {n : Nat} {l : List α} {j : Int} {z : α} (h : idxn n l j = some z) : idx l j = some z := by
  unfold idxn at h; split at h
  · exact h
  · cases h
def idxv (n : Nat) (l : List α) (lo j : Int) : Option α := if 0 ≤ j ∧ j < (n : Int) then idx l (lo + j) else none
theorem idxv_lt {n : Nat} {l : List α} {lo j : Int} {z : α} (h : idxv n l lo j = some z) : 0 ≤ j ∧ j < (n : Int) := by
  unfold idxv at h; split at h
  · assumption
  · cases h
theorem idxv_idx {n : Nat} {l : List α} {lo j : Int} {z : α} (h : idxv n l lo j = some z) : idx l (lo + j) = some z := by
  unfold idxv at h; split at h
  · exact h
  · cases h
theorem off_add {lo j : Int} (h0 : 0 ≤ lo) (h1 : 0 ≤ j) (s : Nat) : (0 + lo.toNat * s) + j.toNat * s = (lo + j).toNat * s := by
  rw [Nat.zero_add, ← Nat.add_mul]; congr 1; omega
/-- The address of an element of a view. -/
def Hnd.idxV {n : Nat} {j : Int} (h : 0 ≤ j ∧ j < (n : Int)) : Hnd P G where
  run o st H := match o.op with
    | .indexAddr t x y => match P.underlying t, opd G st x, opd G st y with
      | some (.slice e), some (.vw i off n'), some (.sc (.int _ j')) => if Nat.beq (P.cellsOf e) 0 then none else some ⟨.ptr i (off + j.toNat * P.cellsOf e), H, [.n n', .i j'], [.n n, .i j]⟩
      | _, _, _ => none
    | _ => none
  sound := by
    intro n0 o st H x hr he
    suffices hT : OpT P G n0 o st H x.p x.H from hT.weak
    split at hr
    · rename_i t x y ho
      split at hr
      · rename_i e i off n' k j' hu hx hy
        split at hr
        · cases hr
        · rename_i hz
          simp only [Option.some.injEq] at hr; subst hr
          simp only [List.cons.injEq, T.n.injEq, T.i.injEq, and_true] at he
          obtain ⟨rfl, rfl⟩ := he
          exact OpT.index_vw ho hu (fun h0 => hz (by rw [h0]; rfl)) hx hy h.1 h.2
      · cases hr
    · cases hr

theorem flat_get {row : α → List PV} {s : Nat} (hrow : ∀ z, (row z).length = s) : ∀ {l : List α} {k : Nat} {z : α} (sp : List PV), l[k]? = some z → (((l.map row).flatten ++ sp).drop (k * s)).take s = row z ∧ (k + 1) * s ≤ ((l.map row).flatten ++ sp).length
  | [], k, z, sp, h => by simp at h
  | y :: l, 0, z, sp, h => by
    simp at h; subst h
    simp only [List.map_cons, List.flatten_cons, Nat.zero_mul, List.drop_zero, List.append_assoc]
    refine ⟨?_, by simp [hrow]⟩
    rw [← hrow y, List.take_left]
  | y :: l, k + 1, z, sp, h => by
    simp at h
    obtain ⟨h1, h2⟩ := flat_get hrow (l := l) sp h
    simp only [List.map_cons, List.flatten_cons, List.append_assoc]
    have hd : ((k + 1) * s) = (row y).length + k * s := by rw [hrow, Nat.add_mul, Nat.one_mul, Nat.add_comm]
    refine ⟨?_, ?_⟩
    · rw [hd, List.drop_append, List.drop_of_length_le (by omega), List.nil_append]
      simp only [Nat.add_sub_cancel_left]
      exact h1
    · have hd2 : (k + 1 + 1) * s = s + (k + 1) * s := by rw [Nat.add_mul (k + 1), Nat.one_mul, Nat.add_comm]
      rw [List.length_append, hrow, hd2]
      omega
theorem flat_set {row : α → List PV} {s : Nat} (hrow : ∀ z, (row z).length = s) (z' : α) : ∀ {l : List α} {k : Nat} (sp : List PV), k < l.length →
    ((l.set k z').map row).flatten ++ sp = ((l.map row).flatten ++ sp).take (k * s) ++ row z' ++ ((l.map row).flatten ++ sp).drop (k * s + s)
  | [], k, sp, h => by simp at h
  | y :: l, 0, sp, h => by
    simp only [List.set_cons_zero, List.map_cons, List.flatten_cons, Nat.zero_mul, List.take_zero, List.nil_append, Nat.zero_add, List.append_assoc]
    rw [← hrow y, List.drop_left]
  | y :: l, k + 1, sp, h => by
    simp only [List.length_cons] at h
    have ih := flat_set hrow z' (l := l) (k := k) sp (by omega)
    have hd : ((k + 1) * s) = (row y).length + k * s := by rw [hrow, Nat.add_mul, Nat.one_mul, Nat.add_comm]
    simp only [List.set_cons_succ, List.map_cons, List.flatten_cons, List.append_assoc]
    rw [ih, hd, Nat.add_assoc, List.take_length_add_append, List.drop_length_add_append]
    simp only [List.append_assoc]

/-- A part of an element of a view is read. -/
def Hnd.ldV (row : α → List PV) {s : Nat} (hrow : ∀ z, (row z).length = s) (sp : List Value) {l : List α} {j : Int} {z : α} (hz : AM.idx l j = some z) (off0 : Nat) (hoff0 : off0 = j.toNat * s) (ds : List Nat) : Hnd P G where
  run o st H := match o.op with
    | .load t x => match opd G st x with
      | some (.ptr i off) => match H[i]? with
        | some (.cells cs) => if P.cellsOf t + ds.foldl (· + ·) 0 ≤ s ∧ ds.foldl (· + ·) 0 < s then (ldPV P t ((row z).drop (ds.foldl (· + ·) 0))).map fun p => ⟨p, H, [.n off, .ps cs], [.n (ds.foldl (· + ·) off0), .ps (cel row l sp)]⟩ else none
        | _ => none
      | _ => none
    | _ => none
  sound := by
    intro n0 o st H x hr he
    suffices hT : OpT P G n0 o st H x.p x.H from hT.weak
    split at hr
    · rename_i t x ho
      split at hr
      · rename_i i off hx
        split at hr
        · rename_i cs hb
          split at hr
          · rename_i hc
            simp only [Option.map_eq_some_iff] at hr
            obtain ⟨p, hp, rfl⟩ := hr
            simp only [List.cons.injEq, T.n.injEq, T.ps.injEq, and_true] at he
            obtain ⟨rfl, rfl⟩ := he
            obtain ⟨_, _, hget⟩ := idx_spec hz
            have hfold : ∀ (ds : List Nat) (m : Nat), ds.foldl (· + ·) m = m + ds.foldl (· + ·) 0 := by
              intro ds
              induction ds with
              | nil => intro m; simp
              | cons d ds ih => intro m; simp only [List.foldl_cons]; rw [ih (m + d), ih (0 + d)]; omega
            refine OpT.load_ptr ho hx hb ?_
            rw [hfold, hoff0]
            rw [← (flat_get hrow (sp.map .sc) hget).1, List.drop_take, List.drop_drop] at hp
            exact ldPV_take (m := s - ds.foldl (· + ·) 0) (by omega) (by omega) hp
          · cases hr
        · cases hr
      · cases hr
    · cases hr
/-- A part of an element of a view is written. -/
def Hnd.stV (row : α → List PV) {s : Nat} (hrow : ∀ z, (row z).length = s) (sp : List Value) {l : List α} {j : Int} {z : α} (hz : AM.idx l j = some z) (z' : α) (off0 : Nat) (hoff0 : off0 = j.toNat * s) (ds : List Nat) : Hnd P G where
  run o st H := match o.op with
    | .store t x y => match opd G st x, opd G st y with
      | some (.ptr i off), some p => match H[i]? with
        | some (.cells cs) => if Nat.beq (P.cellsOf t) p.cells.length = true ∧ (P.info? t).isSome = true ∧ p.cells.length + ds.foldl (· + ·) 0 ≤ s ∧ p.cells.all PV.one = true ∧ PV.idss (fun j => decide (j < i)) p.cells = true then
            some ⟨.sc undef, H.set i (.cells (cel row (l.set j.toNat z') sp)), [.n off, .ps cs, .ps ((row z).take (ds.foldl (· + ·) 0) ++ p.cells ++ (row z).drop (ds.foldl (· + ·) 0 + p.cells.length))], [.n (ds.foldl (· + ·) off0), .ps (cel row l sp), .ps (row z')]⟩ else none
        | _ => none
      | _, _ => none
    | _ => none
  sound := by
    intro n0 o st H x hr he
    suffices hT : OpT P G n0 o st H x.p x.H from hT.weak
    split at hr
    · rename_i t x y ho
      split at hr
      · rename_i i off p hx hy
        split at hr
        · rename_i cs hb
          split at hr
          · rename_i hc
            obtain ⟨c1, c2, c3, c4, c5⟩ := hc
            have c1 := Nat.eq_of_beq_eq_true c1
            simp only [Option.some.injEq] at hr; subst hr
            simp only [List.cons.injEq, T.n.injEq, T.ps.injEq, and_true] at he
            obtain ⟨rfl, rfl, hz'⟩ := he
            obtain ⟨_, _, hget⟩ := idx_spec hz
            have hlt := (List.getElem?_eq_some_iff.1 hget).1
            have hfold : ∀ (ds : List Nat) (m : Nat), ds.foldl (· + ·) m = m + ds.foldl (· + ·) 0 := by
              intro ds
              induction ds with
              | nil => intro m; simp
              | cons d ds ih => intro m; simp only [List.foldl_cons]; rw [ih (m + d), ih (0 + d)]; omega
            obtain ⟨g1, g2⟩ := flat_get hrow (sp.map .sc) hget
            rw [Nat.add_mul, Nat.one_mul] at g2
            have hoff : ds.foldl (· + ·) off0 = j.toNat * s + ds.foldl (· + ·) 0 := by rw [hfold, hoff0]
            have hst := OpT.store (P := P) (G := G) (n0 := n0) ho hx hy hb c1 c2 (by rw [hoff]; unfold AM.cel; omega) c4 c5
            refine OpT.asH hst ?_
            refine congrArg (fun cs => H.set i (.cells cs)) ?_
            unfold AM.cel
            rw [flat_set hrow z' (sp.map .sc) hlt, ← hz', ← g1, hoff]
            generalize (l.map row).flatten ++ sp.map PV.sc = cs at g2
            generalize ds.foldl (· + ·) 0 = d at c3
            generalize p.cells = ps at c3
            generalize j.toNat * s = m at g2
            rw [List.take_take, List.drop_take, List.drop_drop, Nat.min_eq_left (by omega), List.take_add (i := m) (j := d)]
            have h1 : List.drop (m + d + ps.length) cs = List.take (s - (d + ps.length)) (List.drop (m + (d + ps.length)) cs) ++ List.drop (m + s) cs := by
              rw [show List.drop (m + s) cs = List.drop (s - (d + ps.length)) (List.drop (m + (d + ps.length)) cs) by rw [List.drop_drop]; congr 1; omega, List.take_append_drop, Nat.add_assoc]
            rw [h1]
            simp only [List.append_assoc]
          · cases hr
        · cases hr
      · cases hr
    · cases hr
/-- The length of a view. -/
def Hnd.lenV (n : Nat) : Hnd P G where
  run o st H := match o.op with
    | .call cl => match cl.callee, cl.args.toList, cl.argTypes.toList with
      | .builtin .len, [x], [ty] => match P.underlying ty, opd G st x with
        | some (.slice _), some (.vw _ _ n') => some ⟨.sc (.int .i64 n), H, [.n n'], [.n n]⟩
        | _, _ => none
      | _, _, _ => none
    | _ => none
  sound := by
    intro n0 o st H x hr he
    suffices hT : OpT P G n0 o st H x.p x.H from hT.weak
    split at hr
    · rename_i cl ho
      split at hr
      · rename_i x ty hc ha ht
        split at hr
        · rename_i e i off n' hu hx
          simp only [Option.some.injEq] at hr; subst hr
          simp only [List.cons.injEq, T.n.injEq, and_true] at he
          subst he
          have hcl : cl = { callee := .builtin .len, args := #[x], argTypes := #[ty] } := by
            cases cl with
            | mk callee args argTypes =>
              simp only at hc ha ht
              subst hc
              have h1 : args = #[x] := by apply Array.toList_inj.1; exact ha
              have h2 : argTypes = #[ty] := by apply Array.toList_inj.1; exact ht
              subst h1 h2
              rfl
          exact OpT.len_vw ho hcl hu hx
        · cases hr
      · cases hr
    · cases hr
end
end Go.AM
/- Handlers of operations that leave the blocks, and of make. No condition. -/
namespace Go.AM
section
variable {P : Program} {G : Glob} {n0 nt : Nat} {o : Oper} {st : St} {H : List Blk}
/-- An operation that leaves the blocks. -/
def Hnd.q : Hnd P G where
  run o st H := (quietx P G true st H o).map fun p => ⟨p, H, [], []⟩
  sound := by
    intro n0 o st H x h he
    simp only [Option.map_eq_some_iff] at h
    obtain ⟨p, h1, rfl⟩ := h
    exact (OpT.of_quiet (Sub.refl H) h1).weak
variable {α : Type}
theorem bounded {m : Int} {b : Nat} (h0 : 0 ≤ m) (hm : m ≤ (lim : Int)) (hb : b ≤ 65536) : (b : Int) * m ≤ 281474976710656 ∧ Nat.ble m.toNat maxLen = true := by
  have h1 : (b : Int) * m ≤ 65536 * 2147483648 := by
    have h2 : m ≤ 2147483648 := hm
    exact Int.mul_le_mul (by omega) h2 h0 (by decide)
  refine ⟨by omega, Nat.ble_eq_true_of_le ?_⟩
  have h2 : m ≤ 2147483648 := hm
  unfold maxLen
  omega
/-- make of a slice of length 0 with room. -/
def Hnd.mk0 (row : α → List PV) {m : Int} (hm : 0 ≤ m ∧ m ≤ (lim : Int)) : Hnd P G where
  run o st H := match o.op with
    | .makeSlice t x y => match P.underlying t, opd G st x, opd G st y with
      | some (.slice e), some (.sc (.int _ l)), some (.sc (.int _ m')) => match P.info? e with
        | some ti => match ti.zero with
          | some _ => if l = 0 ∧ Nat.ble ti.bytes 65536 = true then some ⟨.own H.length 0, H ++ [.buf ti.size e (List.map row []) false], [.i m'], [.i m]⟩ else none
          | none => none
        | none => none
      | _, _, _ => none
    | _ => none
  sound := by
    intro n0 o st H x h he
    suffices hT : OpT P G n0 o st H x.p x.H from hT.weak
    split at h
    · rename_i t x y ho
      split at h
      · rename_i e k l k' m' hu hx hy
        split at h
        · rename_i ti hti
          split at h
          · rename_i z hz
            split at h
            · rename_i hc
              obtain ⟨rfl, hb⟩ := hc
              simp only [Option.some.injEq] at h
              subst h
              simp only [List.cons.injEq, T.i.injEq, and_true] at he
              subst he
              obtain ⟨h1, h2⟩ := bounded hm.1 hm.2 (Nat.le_of_ble_eq_true hb)
              have := OpT.makeSlice (n0 := n0) (H := H) ho hu hti hz hx hy (Int.le_refl 0) hm.1 h1 (Nat.le_of_ble_eq_true h2)
              exact this
            · cases h
          · cases h
        · cases h
      · cases h
    · cases h
end
end Go.AM
/- Parts of views, clearing them; a call that turns a buffer and returns a part of it; slice literals that are owned. No condition. -/
namespace Go.AM
section
variable {P : Program} {G : Glob} {n0 nt : Nat} {o : Oper} {st : St} {H : List Blk}
/-- Operations on the blocks, as the follower of code carries them out. -/
def Hnd.m : Hnd P G where
  run o st H := (memx P G #[] st H o).map fun r => ⟨r.1, r.2, [], []⟩
  sound := by
    intro n0 o st H x h he
    simp only [Option.map_eq_some_iff] at h
    obtain ⟨p, h1, rfl⟩ := h
    exact (OpT.of_memx h1).weak

theorem OpT.slice_vw {t e : TypeId} {x : Operand} {lo hi : Option Operand} {i off n : Nat} {l h : Int} (ho : o.op = .slice t x lo hi none) (hu : P.underlying t = some (.slice e)) (hz : P.cellsOf e ≠ 0)
    (hx : opd G st x = some (.vw i off n)) (hlo : loOf G st lo = some l) (hhi : hiOf G st n hi = some h) (h0 : 0 ≤ l) (h1 : l ≤ h) (h2 : h ≤ n) : OpT P G n0 o st H (.vw i (off + l.toNat * P.cellsOf e) (h.toNat - l.toNat)) H :=
  OpT.value fun c a w β hn0 hr => by
    have g1 := hr.opd hx
    simp only [VR] at g1
    obtain ⟨ed, he, cap, ad, hc, hv, ha⟩ := g1
    have hsb := slice_bounds (P := P) hr hlo hhi h0 h1 h2 hc
    refine ⟨.slice (if cap = l.toNat then ad else ad.map (·.add (l.toNat * P.cellsOf e))) (h.toNat - l.toNat) (cap - l.toNat), ?_, ?_⟩
    · simp [execOp, ho, Instr.sliceAt, run_underlying hu, Instr.slice, hv, hsb, run_size rfl hz]
    · simp only [VR]
      refine ⟨ed, he, _, _, by omega, rfl, fun hne => ?_⟩
      have hl : ¬ cap = l.toNat := by omega
      rw [if_neg hl, ha (by omega)]
      simp [addr_add]

/-- A part of a view. -/
def Hnd.sliceV {n : Nat} {a b : Int} (h : 0 ≤ a ∧ a ≤ b ∧ b ≤ (n : Int)) : Hnd P G where
  run o st H := match o.op with
    | .slice t x lo hi none => match P.underlying t, opd G st x, loOf G st lo with
      | some (.slice e), some (.vw i off n'), some l => match hiOf G st n' hi with
        | some h => if Nat.beq (P.cellsOf e) 0 then none else some ⟨.vw i (off + a.toNat * P.cellsOf e) (b.toNat - a.toNat), H, [.n n', .i l, .i h], [.n n, .i a, .i b]⟩
        | none => none
      | _, _, _ => none
    | _ => none
  sound := by
    intro n0 o st H x hr he
    suffices hT : OpT P G n0 o st H x.p x.H from hT.weak
    split at hr
    · rename_i t x lo hi ho
      split at hr
      · rename_i e i off n' l hu hx hlo
        split at hr
        · rename_i hh hhi
          split at hr
          · cases hr
          · rename_i hz
            simp only [Option.some.injEq] at hr; subst hr
            simp only [List.cons.injEq, T.n.injEq, T.i.injEq, and_true] at he
            obtain ⟨rfl, rfl, rfl⟩ := he
            exact OpT.slice_vw ho hu (fun h0 => hz (by rw [h0]; rfl)) hx hlo hhi h.1 h.2.1 h.2.2
        · cases hr
      · cases hr
    · cases hr

theorem zeroCells_list (z : Array Value) : ∀ n, (Builtin.zeroCells z n).toList = (List.replicate n z.toList).flatten
  | 0 => by simp [Builtin.zeroCells]
  | n + 1 => by
    have ih := zeroCells_list z n
    have hs : (List.range z.size).map (fun i => z[i]!) = z.toList := by
      refine List.ext_getElem (by simp) fun i h1 h2 => ?_
      simp at h1
      simp [h1]
    simp only [Builtin.zeroCells, Array.toList_map, Array.toList_range] at ih ⊢
    rw [Nat.add_mul, Nat.one_mul, List.range_add, List.map_append, ih, List.replicate_succ', List.flatten_append, List.map_map]
    congr 1
    simp only [List.flatten_singleton]
    rw [← hs]
    refine List.map_congr_left fun i hi => ?_
    have hi := List.mem_range.1 hi
    simp only [Function.comp_apply]
    rw [Nat.mul_comm, Nat.mul_add_mod, Nat.mod_eq_of_lt hi]
/-- The elements of a view become zero. -/
theorem OpT.clearV {cl : Call} {x : Operand} {T e i off n : Nat} {cs : List PV} {ti : TypeInfo} {z : Value} (ho : o.op = .call cl) (hcl : cl = { callee := .builtin .clear, args := #[x], argTypes := #[T] }) (hT : P.underlying T = some (.slice e)) (hti : P.info? e = some ti) (hz : ti.zero = some z)
    (hone : z.cells.toList.all Value.oneCell' = true) (hx : opd G st x = some (.vw i off n)) (hb : H[i]? = some (.cells cs)) (hl : off + n * z.cells.size ≤ cs.length) :
    OpT P G n0 o st H (.sc (.tuple #[])) (H.set i (.cells (cs.take off ++ (List.replicate n (z.cells.toList.map PV.sc)).flatten ++ cs.drop (off + n * z.cells.size)))) := by
  intro c a w β h0 hr
  have g1 := hr.opd hx
  simp only [VR] at g1
  obtain ⟨ed, he, cap, ad, hc, hv, ha⟩ := g1
  have hzv : ∀ w : World, (zeroValue e).run P w = .ok z w := fun w => by simp [zeroValue, typeInfo, hti, hz]
  obtain ⟨hq, vs, ty, h4, h5⟩ := hr.blk i ed _ he hb
  have hlv := VRs.length _ _ h5
  rw [Array.length_toList] at hlv
  by_cases hn : n = 0
  · subst hn
    have hex : (execOp a.eval o).run P w = .ok (.value (.tuple #[])) w := by
      cases ad <;> simp [execOp, ho, hcl, resolve, invoke, builtin, hv, Builtin.clear_, run_underlying hT]
    have hset : H.set i (.cells (cs.take off ++ (List.replicate 0 (z.cells.toList.map PV.sc)).flatten ++ cs.drop (off + 0 * z.cells.size))) = H := by
      have : cs.take off ++ (List.replicate 0 (z.cells.toList.map PV.sc)).flatten ++ cs.drop (off + 0 * z.cells.size) = cs := by simp
      rw [this]
      refine List.ext_getElem? fun j => ?_
      by_cases hji : j = i
      · subst hji; rw [List.getElem?_set_self (List.getElem?_eq_some_iff.1 hb).1, hb]
      · rw [List.getElem?_set_ne (Ne.symm hji)]
    simp only [wpv, hex]
    rw [hset]
    exact ⟨β, hr, by simp only [VR], BExt.refl _ _, Ext.refl _ _⟩
  · rw [ha hn] at hv
    have hzc : (Builtin.zeroCells z.cells n).toList = (List.replicate n z.cells.toList).flatten := by
      exact zeroCells_list _ _
    have hall : ∀ v ∈ (Builtin.zeroCells z.cells n).toList, v.oneCell' = true := fun v hv => by
      rw [hzc] at hv
      obtain ⟨l, hl1, hl2⟩ := List.mem_flatten.1 hv
      rw [(List.mem_replicate.1 hl1).2] at hl2
      exact List.all_eq_true.1 hone v hl2
    have hzl : (Builtin.zeroCells z.cells n).toList.length = n * z.cells.size := by rw [Array.length_toList, size_zeroCells]
    have hrun := run_storeCells_at P ed.b off ty (Builtin.zeroCells z.cells n).toList 0 vs w h4 (by rw [hzl]; omega) hall
    have hex : (execOp a.eval o).run P w = .ok (.value (.tuple #[])) (w.setRow ed.b (vs.toList.take (off + 0) ++ (Builtin.zeroCells z.cells n).toList ++ vs.toList.drop (off + 0 + (Builtin.zeroCells z.cells n).toList.length)).toArray) := by
      obtain ⟨m, rfl⟩ : ∃ m, n = m + 1 := ⟨n - 1, by omega⟩
      simp [execOp, ho, hcl, resolve, invoke, builtin, hv, Builtin.clear_, run_underlying hT, hzv] at hrun ⊢
      simp [hrun]
    simp only [wpv, hex]
    have hfl : ((List.replicate n (z.cells.toList.map PV.sc)).flatten : List PV) = (Builtin.zeroCells z.cells n).toList.map PV.sc := by
      rw [hzc, List.map_flatten, List.map_replicate]
    have hwr := hr.write he hb (us := (vs.toList.take (off + 0) ++ (Builtin.zeroCells z.cells n).toList ++ vs.toList.drop (off + 0 + (Builtin.zeroCells z.cells n).toList.length)).toArray)
      (cs' := cs.take off ++ (List.replicate n (z.cells.toList.map PV.sc)).flatten ++ cs.drop (off + n * z.cells.size)) ?_ ?_
    · exact ⟨β, hwr.1, by simp only [VR], BExt.refl _ _, hwr.2⟩
    · simp only [Nat.add_zero]
      rw [hfl, hzl]
      exact VRs.append _ _ _ _ (VRs.append _ _ _ _ (VRs.take _ _ _ h5) (VRs.scs _)) (VRs.drop _ _ _ h5)
    · rw [PV.idss_append, PV.idss_append, hfl, idss_scs]
      have h6 := (PV.idss_mem _ cs).1 hq
      simp only [Bool.and_true, Bool.and_eq_true]
      exact ⟨(PV.idss_mem _ _).2 fun p hp => h6 p (List.mem_of_mem_take hp), (PV.idss_mem _ _).2 fun p hp => h6 p (List.mem_of_mem_drop hp)⟩

theorem wks_rep {any : Bool} {ps qs : List PV} (h : Wks H any ps qs) : ∀ n, Wks H any (List.replicate n ps).flatten (List.replicate n qs).flatten
  | 0 => .nil
  | n + 1 => by simp only [List.replicate_succ, List.flatten_cons]; exact Wks.append h (wks_rep h n)

variable {α : Type}
theorem flat_put {row : α → List PV} {s : Nat} (hrow : ∀ z, (row z).length = s) (m : List α) (sp : List PV) : ∀ (l : List α) (k : Nat), k + m.length ≤ l.length →
    ((l.take k ++ m ++ l.drop (k + m.length)).map row).flatten ++ sp = ((l.map row).flatten ++ sp).take (k * s) ++ (m.map row).flatten ++ ((l.map row).flatten ++ sp).drop (k * s + m.length * s)
  | l, 0, h => by
    have hm : (m.map row).flatten.length = m.length * s := by rw [flat_length (s := s) _ (by intro x hx; obtain ⟨z, _, rfl⟩ := List.mem_map.1 hx; exact hrow z), List.length_map]
    have hl : ((l.take m.length).map row).flatten.length = m.length * s := by
      rw [flat_length (s := s) _ (by intro x hx; obtain ⟨z, _, rfl⟩ := List.mem_map.1 hx; exact hrow z), List.length_map, List.length_take, Nat.min_eq_left (by omega)]
    have he : (l.map row).flatten = ((l.take m.length).map row).flatten ++ ((l.drop m.length).map row).flatten := by rw [← List.flatten_append, ← List.map_append, List.take_append_drop]
    simp only [List.take_zero, List.nil_append, Nat.zero_add, Nat.zero_mul, List.map_append, List.flatten_append, List.append_assoc]
    congr 1
    rw [he, List.append_assoc, ← hl, List.drop_left]
  | [], k + 1, h => by simp at h
  | y :: l, k + 1, h => by
    simp only [List.length_cons] at h
    have ih := flat_put hrow m sp l k (by omega)
    have hd : ((k + 1) * s) = (row y).length + k * s := by rw [hrow, Nat.add_mul, Nat.one_mul, Nat.add_comm]
    simp only [List.take_succ_cons, Nat.succ_add, List.drop_succ_cons, List.cons_append, List.map_cons, List.flatten_cons, List.append_assoc] at ih ⊢
    rw [ih, hd, Nat.add_assoc, List.take_length_add_append, List.drop_length_add_append]
    simp only [List.append_assoc]
theorem cel_closed {row : α → List PV} (hcl : ∀ z, PV.idss (fun _ => false) (row z) = true) (l : List α) (sp : List Value) : PV.idss (fun _ => false) (cel row l sp) = true := by
  unfold AM.cel
  rw [PV.idss_append, idss_scs, Bool.and_true]
  refine (PV.idss_mem _ _).2 fun p hp => ?_
  obtain ⟨r, hr, hpr⟩ := List.mem_flatten.1 hp
  obtain ⟨y, hy, rfl⟩ := List.mem_map.1 hr
  exact (PV.idss_mem _ _).1 (hcl y) p hpr
/-- A view is cleared; z0 is what a zero is read as. -/
def Hnd.clrV (row : α → List PV) {s : Nat} (hrow : ∀ z, (row z).length = s) (hclosed : ∀ z, PV.idss (fun _ => false) (row z) = true) (sp : List Value) (l : List α) (z0 : α) {lo n : Nat} (h : lo + n ≤ l.length) (off0 : Nat) (hoff0 : off0 = lo * s) : Hnd P G where
  run o st H := match o.op with
    | .call cl => match cl with
      | { callee := .builtin .clear, args := ⟨[x]⟩, argTypes := ⟨[ty]⟩ } => match P.underlying ty, opd G st x with
        | some (.slice e), some (.vw i off n') => match P.info? e, H[i]? with
          | some ti, some (.cells cs) => match ti.zero with
            | some z => if z.cells.toList.all Value.oneCell' = true ∧ Nat.beq z.cells.size s = true then
                some ⟨.sc (.tuple #[]), H.set i (.cells (cel row (l.take lo ++ List.replicate n z0 ++ l.drop (lo + n)) sp)), [.n off, .n n', .ps cs, .ps (lows P e (z.cells.toList.map .sc))], [.n off0, .n n, .ps (cel row l sp), .ps (row z0)]⟩ else none
            | none => none
          | _, _ => none
        | _, _ => none
      | _ => none
    | _ => none
  sound := by
    intro n0 o st H x hr he
    suffices hT : OpT P G n0 o st H x.p x.H from hT.weak
    split at hr
    · rename_i cl ho
      split at hr
      · rename_i x ty
        split at hr
        · rename_i e i off n' hu hx
          split at hr
          · rename_i ti cs hti hb
            split at hr
            · rename_i z hz
              split at hr
              · rename_i hc
                obtain ⟨c1, c2⟩ := hc
                have c2 := Nat.eq_of_beq_eq_true c2
                simp only [Option.some.injEq] at hr; subst hr
                simp only [List.cons.injEq, T.n.injEq, T.ps.injEq, and_true] at he
                obtain ⟨rfl, rfl, rfl, hz0⟩ := he
                subst hoff0
                have hlen : (cel row l sp).length = l.length * s + sp.length := by
                  unfold AM.cel
                  rw [List.length_append, List.length_map, flat_length (s := s) _ (by intro x hx; obtain ⟨z, _, rfl⟩ := List.mem_map.1 hx; exact hrow z), List.length_map]
                have hle : lo * s + n' * s ≤ l.length * s := by rw [← Nat.add_mul]; exact Nat.mul_le_mul_right s h
                have hcl := OpT.clearV (P := P) (G := G) (n0 := n0) ho rfl hu hti hz c1 hx hb (by rw [hlen, c2]; omega)
                have hw : Wks (H.set i (.cells ((cel row l sp).take (lo * s) ++ (List.replicate n' (z.cells.toList.map PV.sc)).flatten ++ (cel row l sp).drop (lo * s + n' * z.cells.size)))) false
                    ((cel row l sp).take (lo * s) ++ (List.replicate n' (z.cells.toList.map PV.sc)).flatten ++ (cel row l sp).drop (lo * s + n' * z.cells.size)) (cel row (l.take lo ++ List.replicate n' z0 ++ l.drop (lo + n')) sp) := by
                  have hp := flat_put hrow (List.replicate n' z0) (sp.map PV.sc) l lo (by rw [List.length_replicate]; exact h)
                  rw [List.length_replicate] at hp
                  unfold AM.cel
                  rw [hp, c2, List.map_replicate]
                  refine Wks.append (Wks.append (Wks.refl _ _ _) (wks_rep ?_ n')) (Wks.refl _ _ _)
                  rw [← hz0]
                  exact lows_wks _ _ _ _
                have hil := (List.getElem?_eq_some_iff.1 hb).1
                refine OpT.wkc i hcl (List.getElem?_set_self hil) hw ?_ ?_
                · exact PV.idss_mono (fun _ hf => by cases hf) _ (cel_closed hclosed _ _)
                · rw [List.set_set]
              · cases hr
            · cases hr
          · cases hr
        · cases hr
      · cases hr
    · cases hr
end
end Go.AM
/- A call that turns the elements of a buffer and returns a first part of it, which is only read from then on. No condition. -/
namespace Go.AM
section
variable {P : Program} {G : Glob} {n0 nt : Nat} {o : Oper} {st : St} {H : List Blk}
theorem OpW.callBs {cl : Call} {x : Operand} {f : FuncId} {fn : Func} {i s t k : Nat} {xs ys : List (List PV)} {rest : List PV}
    (ho : o.op = .call cl) (hc : cl.callee = .value x) (hx : opd G st x = some (.sc (.func (.func f) #[] #[])))
    (hfn : P.funcs[f]? = some fn) (hbody : fn.body.isNone = false) (hname : (fn.name == "runtime.NumGoroutine") = false)
    (hargs : cl.args.toList.map (opd G st) = (.own i xs.length :: rest).map some) (hrest : PV.idss (fun _ => false) rest = true) (hb : H[i]? = some (.buf s t xs false)) (hne : xs ≠ [])
    (hlen : ys.length = xs.length) (hys : ∀ y ∈ ys, y.length = s) (hk : k ≤ ys.length)
    (hcall : ∀ sp : List Value, ACall P G f (.vw 0 0 xs.length :: rest) [.cells (xs.flatten ++ sp.map .sc)] (fun q K => q = .vw 0 0 k ∧ K = [.cells (ys.flatten ++ sp.map .sc)])) :
    OpW P G n0 o st H (.sl s (ys.take k)) (H.set i (.buf s t ys true)) := by
  intro c a w β h0 hr
  have hv := VRs.of_opds hr cl.args.toList _ hargs
  have hlv := VRs.length _ _ hv
  obtain ⟨u, us, hus⟩ : ∃ u us, cl.args.toList.map a.eval = u :: us := by
    cases hq : cl.args.toList.map a.eval with
    | nil => rw [hq] at hlv; simp at hlv
    | cons u us => exact ⟨u, us, rfl⟩
  rw [hus] at hv
  simp only [VRs] at hv
  obtain ⟨hv1, hv2⟩ := hv
  simp only [VR] at hv1
  obtain ⟨_, e, he, _, hve⟩ := hv1
  obtain ⟨q1, _⟩ := hr.blk i e _ he hb
  have hve := hve q1.symm
  obtain ⟨g, cap, sp, k1, k2, k3, k4⟩ := hr.callB he hb hne hlen hys
  have hxe := hr.opd hx
  simp only [VR] at hxe
  have hex : (execOp a.eval o).run P w = .ok (.enter f (cl.args.map a.eval)) w := by
    have hn : ¬ fn.name = "runtime.NumGoroutine" := by simpa using hname
    have hb : ¬ fn.body = none := by cases hq : fn.body <;> simp [hq] at hbody ⊢
    simp [execOp, ho, resolve, hc, hxe, Deferred.ofValue, invoke, callFunc, hfn, hn, hb]
  simp only [wpv, hex]
  refine (hcall sp _ _ w (cl.args.map a.eval) k3 ?_).mono ?_
  · have : (cl.args.map a.eval).toList = u :: us := by simpa using hus
    rw [this]
    simp only [VRs]
    refine ⟨?_, VRs.closed (Ext.refl _ _) hrest hv2⟩
    simp only [VR]
    exact ⟨_, rfl, cap, _, k1, by rw [hve, k2], fun _ => rfl⟩
  · rintro ex w' ⟨v, q, K, γ, rfl, ⟨rfl, rfl⟩, hout, hvr⟩
    obtain ⟨rfl, g1, g2, g3, g4⟩ := k4 γ w' hout
    have hil := (List.getElem?_eq_some_iff.1 hb).1
    have hs := g1.share (List.getElem?_set_self hil)
    rw [List.set_set] at hs
    refine ⟨v, rfl, _, hs, ?_⟩
    simp only [VR] at hvr
    obtain ⟨e1, he1, cap', ad, hcap, rfl, had⟩ := hvr
    simp at he1
    subst he1
    by_cases hk0 : k = 0
    · subst hk0
      simp only [VR]
      exact ⟨ad, cap', by simp, by simp, .inl (by simp)⟩
    · have hbl : i < β.length := (List.getElem?_eq_some_iff.1 he).1
      have := hs.ow_sl (i := i) (n := ys.length) (lo := 0) (hi := k) (List.getElem?_set_self hil) rfl (by omega) hk (u := .slice ad k cap') (by
        simp only [VR]
        refine ⟨rfl, _, List.getElem?_set_self hbl, Nat.le_refl _, fun _ => ⟨g, cap', by rw [k2]; rfl, hcap, ?_⟩⟩
        rw [had hk0]
        simp)
      simpa using this
variable {α : Type}
def Hnd.callBs {f : FuncId} {fn : Func} (row : α → List PV) {s k : Nat} {l l' : List α} {rest : List PV} (hfn : P.funcs[f]? = some fn) (hrow : ∀ z, (row z).length = s) (hne : l ≠ []) (hlen : l'.length = l.length) (hk : k ≤ l'.length)
    (hc : ∀ sp, ACall P G f (.vw 0 0 l.length :: rest) [.cells (cel row l sp)] (fun q K => q = .vw 0 0 k ∧ K = [.cells (cel row l' sp)])) : Hnd P G where
  run o st H := match o.op with
    | .call cl => match cl.callee with
      | .value x => match opd G st x, opdL G st cl.args.toList with
        | some px, some (.own i n :: rest') => match H[i]? with
          | some (.buf s' t xs false) =>
            if fn.body.isNone = false ∧ (fn.name == "runtime.NumGoroutine") = false ∧ PV.idss (fun _ => false) rest = true ∧ Nat.beq s s' = true then
              some ⟨.sl s' ((l'.take k).map row), H.set i (.buf s' t (l'.map row) true), [.p px, .n n, .ps rest', .rs xs], [.p (.sc (.func (.func f) #[] #[])), .n l.length, .ps rest, .rs (l.map row)]⟩
            else none
          | _ => none
        | _, _ => none
      | _ => none
    | _ => none
  sound := by
    intro n0 o st H x h he
    split at h
    · rename_i cl ho
      split at h
      · rename_i x hcl
        split at h
        · rename_i px i n rest' hx hps
          split at h
          · rename_i s' t xs hb
            split at h
            · rename_i hcond
              obtain ⟨c1, c2, c3, c5⟩ := hcond
              simp only [Option.some.injEq] at h
              subst h
              simp only [List.cons.injEq, T.p.injEq, T.ps.injEq, T.n.injEq, T.rs.injEq, and_true] at he
              obtain ⟨rfl, rfl, rfl, rfl⟩ := he
              have c5 := Nat.eq_of_beq_eq_true c5
              subst c5
              have hl1 : (l.map row).length = l.length := List.length_map ..
              have := OpW.callBs (n0 := n0) (xs := l.map row) (ys := l'.map row) (k := k) ho hcl hx hfn c1 c2 (by rw [hl1]; exact opdL_spec _ _ hps) c3 hb (by simpa using hne) (by simpa using hlen) (by
                intro y hy
                obtain ⟨z, _, rfl⟩ := List.mem_map.1 hy
                exact hrow z) (by simpa using hk) (fun sp => by rw [hl1]; exact hc sp)
              rw [← List.map_take] at this
              exact this
            · cases h
          · cases h
        · cases h
      · cases h
    · cases h
end
end Go.AM
/- Calls of closures; places known at run time only, within elements of owned buffers. No condition. -/
namespace Go.AM
section
variable {P : Program} {G : Glob} {n0 nt : Nat} {o : Oper} {st : St} {H : List Blk}
/-- A call of a closure, by its promise. -/
def Hnd.callF {f : FuncId} {fn : Func} {args0 : List PV} {H0 H1 : List Blk} {p1 : PV} (hfn : P.funcs[f]? = some fn) (ws : List Ow) (hc : ACall P G f args0 H0 (fun q K => q = p1 ∧ K = H1)) : Hnd P G where
  run o st H := match o.op with
    | .call cl => match cl.callee with
      | .value x => match opd G st x, opdL G st cl.args.toList with
        | some (.fn f' caps), some ps => match wkArgs P H false fn.params.toList ps ws with
          | some (qs, l, r) =>
            let σ := ptrsOf (ps ++ caps)
            if fn.body.isNone = false ∧ (fn.name == "runtime.NumGoroutine") = false ∧ σ.Pairwise (· < ·) ∧ H0.all Blk.isCells = true then
              some ⟨p1.ren (renId σ H.length), setAll σ (H1.map (Blk.ren (renId σ H.length))) H, .n f' :: .ps (qs ++ caps) :: .bs (H0.map (fun k => some (k.ren (renId σ H.length)))) :: l,
                .n f :: .ps (PV.rens (renId σ H.length) args0) :: .bs (σ.map (H[·]?)) :: r⟩
            else none
          | _ => none
        | _, _ => none
      | _ => none
    | _ => none
  sound := by
    intro n0 o st H x h he
    suffices hT : OpT P G n0 o st H x.p x.H from hT.weak
    split at h
    · rename_i cl ho
      split at h
      · rename_i x hcl
        split at h
        · rename_i f' caps ps hx hps
          split at h
          · rename_i qs l r hw
            simp only [] at h
            split at h
            · rename_i hcond
              obtain ⟨c1, c2, c3, c4⟩ := hcond
              simp only [Option.some.injEq] at h
              subst h
              simp only [List.cons.injEq, T.n.injEq, T.ps.injEq, T.bs.injEq] at he
              obtain ⟨h1, h2, h3, h4⟩ := he
              subst h1
              exact OpT.call (caps := caps) ho hcl (.inr hx) hfn c1 c2 (opdL_spec _ _ hps) (Wks.append (wkArgs_wks _ _ _ _ hw h4) (Wks.refl _ _ _)) h2 c3 c4 h3 hc rfl rfl
            · cases h
          · cases h
        · cases h
      · cases h
    · cases h
variable {α β : Type}
/-- A place of an array within an element of an owned buffer. -/
def Hnd.ixE (row : α → List PV) (l : List α) (k : Int) {n : Nat} {j : Int} (h : 0 ≤ j ∧ j < (n : Int)) {m0 : Nat} (hm : l.length = m0 := by rfl) : Hnd P G where
  run o st H := match o.op with
    | .indexAddr t x y => match P.underlying t, opd G st x, opd G st y with
      | some (.array n' e), some (.ept i m q off), some (.sc (.int _ j')) => match H[i]? with
        | some (.buf _ _ xs _) => if Nat.beq (P.cellsOf e) 0 then none else some ⟨.ept i m0 k.toNat (off + j.toNat * P.cellsOf e), H, [.n m, .n q, .rs xs, .n n', .i j'], [.n m0, .n k.toNat, .rs (l.map row), .n n, .i j]⟩
        | _ => none
      | _, _, _ => none
    | _ => none
  sound := by
    intro n0 o st H x hr he
    subst hm
    suffices hT : OpT P G n0 o st H x.p x.H from hT.weak
    split at hr
    · rename_i t x y ho
      split at hr
      · rename_i n' e i m q off k' j' hu hx hy
        split at hr
        · rename_i s ty xs sh hb
          split at hr
          · cases hr
          · rename_i hz
            simp only [Option.some.injEq] at hr; subst hr
            simp only [List.cons.injEq, T.n.injEq, T.i.injEq, T.rs.injEq, and_true] at he
            obtain ⟨rfl, rfl, rfl, rfl, rfl⟩ := he
            exact OpT.index_ept ho hu (fun h0 => hz (by rw [h0]; rfl)) hy h.1 h.2 hx hb (by rw [List.length_map])
        · cases hr
      · cases hr
    · cases hr
/-- What is read there. -/
def Hnd.ldEd (row : α → List PV) {l : List α} {k : Int} {z : α} (hz : AM.idx l k = some z) (rowe : β → List PV) (get : Int → β) (off s d : Nat) {n : Nat} {j : Int} (h : 0 ≤ j ∧ j < (n : Int)) {m0 : Nat} (hm : l.length = m0 := by rfl) : Hnd P G where
  run o st H := match o.op with
    | .load t x => match opd G st x with
      | some (.ept i m q off') => match H[i]? with
        | some (.buf _ _ xs _) => if P.cellsOf t + d ≤ s ∧ d < s then (ldPV P t ((rowe (get j)).drop d)).map fun p => ⟨p, H, [.n m, .n q, .rs xs, .n off', .rs (elemsL (row z) off s n)], [.n m0, .n k.toNat, .rs (l.map row), .n (off + j.toNat * s + d), .rs (elemsR rowe get n)]⟩ else none
        | _ => none
      | _ => none
    | _ => none
  sound := by
    intro n0 o st H x hr he
    subst hm
    suffices hT : OpT P G n0 o st H x.p x.H from hT.weak
    split at hr
    · rename_i t x ho
      split at hr
      · rename_i i m q off' hx
        split at hr
        · rename_i s' ty xs sh hb
          split at hr
          · rename_i hc
            simp only [Option.map_eq_some_iff] at hr
            obtain ⟨p, hp, rfl⟩ := hr
            simp only [List.cons.injEq, T.rs.injEq, T.n.injEq, and_true] at he
            obtain ⟨rfl, rfl, rfl, rfl, h5⟩ := he
            exact OpT.loadEptT ho hx hb hz (ld_of h h5 hc.1 hc.2 hp)
          · cases hr
        · cases hr
      · cases hr
    · cases hr
/-- What is written there. -/
def Hnd.stEd (row : α → List PV) {l : List α} {k : Int} {z : α} (hz : AM.idx l k = some z) (nz : Int → α) (off s d : Nat) {n : Nat} {j : Int} (h : 0 ≤ j ∧ j < (n : Int)) {m0 : Nat} (hm : l.length = m0 := by rfl) : Hnd P G where
  run o st H := match o.op with
    | .store t x y => match opd G st x, opd G st y with
      | some (.ept i m q off'), some p => match H[i]? with
        | some (.buf s' ty xs false) => if Nat.beq (P.cellsOf t) p.cells.length && (P.info? t).isSome && Nat.ble (off + n * s) (row z).length && Nat.ble (d + p.cells.length) s && p.cells.all PV.one && PV.idss (fun _ => false) p.cells then
            some ⟨.sc undef, H.set i (.buf s' ty ((l.set k.toNat (nz j)).map row) false), [.n m, .n q, .rs xs, .n off', .rs ((List.range n).map fun q : Nat => row (nz (q : Int)))],
              [.n m0, .n k.toNat, .rs (l.map row), .n (off + j.toNat * s + d), .rs ((List.range n).map fun q : Nat => (row z).take (off + q * s + d) ++ p.cells ++ (row z).drop (off + q * s + d + p.cells.length))]⟩ else none
        | _ => none
      | _, _ => none
    | _ => none
  sound := by
    intro n0 o st H x hr he
    subst hm
    suffices hT : OpT P G n0 o st H x.p x.H from hT.weak
    split at hr
    · rename_i t x y ho
      split at hr
      · rename_i i m q off' p hx hy
        split at hr
        · rename_i s' ty xs hb
          split at hr
          · rename_i hc
            simp only [Bool.and_eq_true] at hc
            obtain ⟨⟨⟨⟨⟨c1, c2⟩, c3⟩, c3'⟩, c4⟩, c5⟩ := hc
            simp only [Option.some.injEq] at hr
            subst hr
            simp only [List.cons.injEq, T.rs.injEq, T.n.injEq, and_true] at he
            obtain ⟨rfl, rfl, rfl, rfl, h5⟩ := he
            have hq : j.toNat < n := by omega
            have h6 := map_range_inj h5 hq
            rw [show ((j.toNat : Nat) : Int) = j by omega] at h6
            have hm : (j.toNat + 1) * s ≤ n * s := Nat.mul_le_mul_right s hq
            rw [Nat.add_mul, Nat.one_mul] at hm
            have c3 := Nat.le_of_ble_eq_true c3
            have c3' := Nat.le_of_ble_eq_true c3'
            exact OpT.storeEptT ho hx hy hb hz c1 c2 (Nat.ble_eq_true_of_le (by omega)) c4 c5 h6 rfl rfl
          · cases hr
        · cases hr
      · cases hr
    · cases hr
end
end Go.AM
/- Parts of arrays as views; slice literals with nil slices in them. No condition. -/
namespace Go.AM
section
variable {P : Program} {G : Glob} {n0 nt : Nat} {o : Oper} {st : St} {H : List Blk}
theorem OpT.sliceArr0 {t e : TypeId} {n : Nat} {x : Operand} {lo hi : Option Operand} {l h : Int} {i off : Nat} (ho : o.op = .slice t x lo hi none) (hu : P.underlying t = some (.array n e)) (hz : P.cellsOf e ≠ 0)
    (hx : opd G st x = some (.ptr i off)) (hlo : loOf G st lo = some l) (hhi : hiOf G st n hi = some h) (h0 : 0 ≤ l) (h1 : l ≤ h) (h2 : h ≤ n) : OpT P G n0 o st H (.vw i (off + l.toNat * P.cellsOf e) (h.toNat - l.toNat)) H := by
  by_cases hl : l < n
  · exact OpT.sliceArr ho hu hz hx hlo hhi h0 h1 (.inr ⟨h2, hl⟩)
  · have hlh : h = l := by omega
    have hln : l = n := by omega
    subst hlh
    intro c a w β hn0 hr
    refine wpv_mono (OpT.sliceArr_empty ho hu hz hx hlo hhi h0 h2 c a w β hn0 hr) fun v w' ⟨β', g1, g2, g3, g4⟩ => ⟨β', g1, ?_, g3, g4⟩
    have hp := hr.opd hx
    simp only [VR] at hp g2 ⊢
    obtain ⟨ed, he, _⟩ := hp
    obtain ⟨e', he', _⟩ := g3 i ed rfl he
    obtain ⟨ad, cap, hv, hc, _⟩ := g2
    exact ⟨e', he', cap, ad, by omega, by rw [hv]; simp, fun hne => by omega⟩
/-- A part of an array that a pointer names. -/
def Hnd.sliceA {n : Nat} {a b : Int} (h : 0 ≤ a ∧ a ≤ b ∧ b ≤ (n : Int)) : Hnd P G where
  run o st H := match o.op with
    | .slice t x lo hi none => match P.underlying t, opd G st x, loOf G st lo with
      | some (.array n' e), some (.ptr i off), some l => match hiOf G st n' hi with
        | some h => if Nat.beq (P.cellsOf e) 0 then none else some ⟨.vw i (off + a.toNat * P.cellsOf e) (b.toNat - a.toNat), H, [.n n', .i l, .i h], [.n n, .i a, .i b]⟩
        | none => none
      | _, _, _ => none
    | _ => none
  sound := by
    intro n0 o st H x hr he
    suffices hT : OpT P G n0 o st H x.p x.H from hT.weak
    split at hr
    · rename_i t x lo hi ho
      split at hr
      · rename_i n' e i off l hu hx hlo
        split at hr
        · rename_i hh hhi
          split at hr
          · cases hr
          · rename_i hz
            simp only [Option.some.injEq] at hr; subst hr
            simp only [List.cons.injEq, T.n.injEq, T.i.injEq, and_true] at he
            obtain ⟨rfl, rfl, rfl⟩ := he
            exact OpT.sliceArr0 ho hu (fun h0 => hz (by rw [h0]; rfl)) hx hlo hhi h.1 h.2.1 h.2.2
        · cases hr
      · cases hr
    · cases hr
theorem off_add' {lo j : Int} (h0 : 0 ≤ lo) (h1 : 0 ≤ j) (s : Nat) : (0 + lo.toNat * s) + j.toNat * s = 0 + (lo + j).toNat * s := by
  rw [Nat.zero_add, Nat.zero_add, ← Nat.add_mul]; congr 1; omega
/-- The address of an element of a view, as a place of what is viewed. -/
def Hnd.idxVA {n off0 off1 s : Nat} {j : Int} (h : 0 ≤ j ∧ j < (n : Int)) (hoff : off0 + j.toNat * s = off1) : Hnd P G where
  run o st H := match o.op with
    | .indexAddr t x y => match P.underlying t, opd G st x, opd G st y with
      | some (.slice e), some (.vw i off n'), some (.sc (.int _ j')) => if Nat.beq (P.cellsOf e) 0 then none else if Nat.beq (P.cellsOf e) s then some ⟨.ptr i off1, H, [.n n', .i j', .n off], [.n n, .i j, .n off0]⟩ else none
      | _, _, _ => none
    | _ => none
  sound := by
    intro n0 o st H x hr he
    suffices hT : OpT P G n0 o st H x.p x.H from hT.weak
    split at hr
    · rename_i t x y ho
      split at hr
      · rename_i e i off n' k j' hu hx hy
        split at hr
        · cases hr
        · rename_i hz
          split at hr
          · rename_i hs
            have hs := Nat.eq_of_beq_eq_true hs
            simp only [Option.some.injEq] at hr; subst hr
            simp only [List.cons.injEq, T.n.injEq, T.i.injEq, and_true] at he
            obtain ⟨rfl, rfl, rfl⟩ := he
            have := OpT.index_vw (n0 := n0) (H := H) ho hu (fun h0 => hz (by rw [h0]; rfl)) hx hy h.1 h.2
            rw [hs] at this
            rw [← hoff]
            exact this
          · cases hr
      · cases hr
    · cases hr
/-! ### Nil slices within slices -/
theorem VRow.wks {S : Nat → Nat → Prop} {w : World} {b : Nat} {ps qs : List PV} (h : Wks [] false ps qs) : ∀ o, VRow S [] w b o ps → VRow S [] w b o qs := by
  induction h with
  | nil => exact fun _ h => h
  | cons p q ps qs h1 h2 ih =>
    intro o hr
    simp only [VRow] at hr ⊢
    obtain ⟨⟨u, g1, g2⟩, g3⟩ := hr
    refine ⟨⟨u, g1, ?_⟩, ih _ g3⟩
    cases h1 with
    | refl => exact g2
    | nil s => simp only [VR] at g2 ⊢; subst g2; exact ⟨none, 0, rfl, Nat.le_refl _, .inl trivial⟩
    | own i s t xs sh hb hs => simp at hb
theorem Wks.length {H : List Blk} {any : Bool} {ps qs : List PV} (h : Wks H any ps qs) : qs.length = ps.length := by
  induction h with
  | nil => rfl
  | cons p q ps qs h1 h2 ih => simp [ih]
theorem VRows.lows {S : Nat → Nat → Prop} {w : World} {b s : Nat} {e : TypeId} : ∀ (xs : List (List PV)) (o : Nat), VRows S [] w b s o xs → VRows S [] w b s o (xs.map (lows P e))
  | [], o, h => by simp only [List.map_nil, VRows]
  | x :: xs, o, h => by
    simp only [VRows, List.map_cons] at h ⊢
    exact ⟨⟨by rw [(lows_wks (P := P) [] false e x).length]; exact h.1.1, VRow.wks (lows_wks [] false e x) o h.1.2⟩, VRows.lows xs _ h.2⟩
theorem OpT.litN {t len e : Nat} {parts : Array (Nat × Operand)} {ps : List (Nat × PV)} {out : List PV} (ho : o.op = .buildSlice t len parts) (hp : opds G st parts.toList = some ps) (hl : litPV P t len ps = some (e, out)) (hcl : PV.idss (fun _ => false) out = true) :
    OpT P G n0 o st H (.sl (P.cellsOf e) ((rowsOf (P.cellsOf e) len out).map (lows P e))) H := by
  intro c a w β h0 hr
  refine wpv_mono (OpT.lit ho hp hl hcl rfl c a w β h0 hr) fun v w' ⟨β', g1, g2, g3, g4⟩ => ⟨β', g1, ?_, g3, g4⟩
  simp only [VR] at g2 ⊢
  obtain ⟨ad, cap, hv, hc, h⟩ := g2
  refine ⟨ad, cap, by rw [List.length_map]; exact hv, by rw [List.length_map]; exact hc, ?_⟩
  rcases h with h | ⟨b, off, h1, h2, h3⟩
  · exact .inl (by rw [h]; rfl)
  · exact .inr ⟨b, off, h1, by rw [List.length_map]; exact h2, VRows.lows _ _ h3⟩
/-- A slice literal, nil slices in it read as empty ones. -/
def Hnd.litN : Hnd P G where
  run o st H := match o.op with
    | .buildSlice t len parts => match opds G st parts.toList with
      | some ps => match litPV P t len ps with
        | some (e, out) => if PV.idss (fun _ => false) out then some ⟨.sl (P.cellsOf e) ((rowsOf (P.cellsOf e) len out).map (lows P e)), H, [], []⟩ else none
        | none => none
      | none => none
    | _ => none
  sound := by
    intro n0 o st H x hr he
    suffices hT : OpT P G n0 o st H x.p x.H from hT.weak
    split at hr
    · rename_i t len parts ho
      split at hr
      · rename_i ps hp
        split at hr
        · rename_i e out hl
          split at hr
          · rename_i hc
            simp only [Option.some.injEq] at hr; subst hr
            exact OpT.litN ho hp hl hc
          · cases hr
        · cases hr
      · cases hr
    · cases hr
end
end Go.AM
/- Bytes of strings; strings out of bytes. No condition. -/
namespace Go.AM
section
variable {P : Program} {G : Glob} {n0 nt : Nat} {o : Oper} {st : St} {H : List Blk}
/-- A byte of a string. -/
def sidx (s : ByteArray) (i : Int) : Option Int := if h : 0 ≤ i ∧ i < s.size then some ((s[i.toNat]'(by omega)).toNat : Int) else none
def Hnd.str {s : ByteArray} {i z : Int} (hz : sidx s i = some z) : Hnd P G where
  run o st H := match o.op with
    | .index t x y => match P.underlying t, opd G st x, opd G st y with
      | some .string, some (.sc v), some (.sc (.int _ i')) => some ⟨.sc (.int .u8 z), H, [.v v, .i i'], [.v (.string s), .i i]⟩
      | _, _, _ => none
    | _ => none
  sound := by
    intro n0 o st H x hr he
    suffices hT : OpT P G n0 o st H x.p x.H from hT.weak
    split at hr
    · rename_i t x y ho
      split at hr
      · rename_i v k i' hu hx hy
        simp only [Option.some.injEq] at hr; subst hr
        simp only [List.cons.injEq, T.v.injEq, T.i.injEq, and_true] at he
        obtain ⟨rfl, rfl⟩ := he
        refine OpT.value fun c a w β hn hr => ⟨.int .u8 z, ?_, by simp only [VR]⟩
        have g1 := hr.opd hx
        have g2 := hr.opd hy
        simp only [VR] at g1 g2
        unfold sidx at hz
        split at hz
        · rename_i hi
          simp only [Option.some.injEq] at hz
          have := run_index_string (P := P) w t s k i' hu
          rw [dif_pos hi, hz] at this
          simp [execOp, ho, g1, g2, this]
        · cases hz
      · cases hr
    · cases hr
theorem bytes_flat (l : List Int) : (l.map fun n => [PV.sc (.int .u8 n)]).flatten = (l.map (Value.int .u8)).map PV.sc := by
  induction l with
  | nil => rfl
  | cons n l ih => simp only [List.map_cons, List.flatten_cons, List.singleton_append]; rw [ih]
/-- A string out of bytes. -/
def Hnd.toStr (l : List Int) : Hnd P G where
  run o st H := match o.op with
    | .convert s d x => match P.underlying s, P.underlying d, opd G st x with
      | some (.slice e), some .string, some q => match P.underlying e, srcT H 1 q with
        | some (.int .u8), some (xs, l1, r1) => some ⟨.sc (.string (strOf l)), H, .rs xs :: l1, .rs (l.map fun n => [PV.sc (.int .u8 n)]) :: r1⟩
        | _, _ => none
      | _, _, _ => none
    | _ => none
  sound := by
    intro n0 o st H x hr he
    suffices hT : OpT P G n0 o st H x.p x.H from hT.weak
    split at hr
    · rename_i s d x ho
      split at hr
      · rename_i e q hs hd hx
        split at hr
        · rename_i xs l1 r1 he' hq
          simp only [Option.some.injEq] at hr; subst hr
          simp only [List.cons.injEq, T.rs.injEq] at he
          obtain ⟨rfl, hl1⟩ := he
          have hsrc := srcT_ok hq hl1
          refine OpT.value fun c a w β hn hr => ⟨.string (strOf l), ?_, by simp only [VR]⟩
          rcases src_cells hr hsrc (hr.opd hx) with ⟨h1, ad, cap, h2⟩ | ⟨b, off, cap, vals, h2, h3, h4, h5⟩
          · have hl : l = [] := by simpa using h1
            subst hl
            have h7 := run_convert_bytes_string (P := P) w s d e ad 0 cap hs he' hd
            cases ad with
            | none =>
              simp [Conv.bytesToString] at h7
              simp [execOp, ho, h2, h7, strOf]
            | some ad =>
              have h8 := run_bytesToString (P := P) w ad 0 cap [] (run_loadCells_list (P := P) w ad [] (by simp))
              rw [h8] at h7
              simp [execOp, ho, h2, h7, strOf]
          · have hfl := bytes_flat l
            rw [hfl] at h3
            have hvals := VRs.scs_iff _ _ h3
            subst hvals
            rw [List.length_map] at h2
            have hld : (loadCells ⟨b, off, none⟩ l.length).run P w = .ok (l.map (Value.int .u8)).toArray w := by
              have := run_loadCells_list (P := P) w ⟨b, off, none⟩ (l.map (Value.int .u8)) h5
              rwa [List.length_map] at this
            have h7 := run_bytesToString (P := P) w ⟨b, off, none⟩ l.length cap l hld
            rw [← run_convert_bytes_string w s d e _ _ _ hs he' hd] at h7
            simp [execOp, ho, h2, h7, strOf]
        · cases hr
      · cases hr
    · cases hr
end
end Go.AM
/- Calls over blocks that name no block: nothing is renamed in them. No condition. -/
namespace Go.AM
section
variable {P : Program} {G : Glob} {n0 nt : Nat} {o : Oper} {st : St} {H : List Blk}
def closedH : List Blk → Prop
  | [] => True
  | .cells cs :: ks => PV.idss (fun _ => false) cs = true ∧ closedH ks
  | .buf .. :: ks => closedH ks
  | .map .. :: _ => False
  | .far _ :: _ => False
  | .iter .. :: _ => False
theorem closedH.n : closedH [] := trivial
theorem closedH.c {cs : List PV} {ks : List Blk} (h : PV.idss (fun _ => false) cs = true) (hk : closedH ks) : closedH (.cells cs :: ks) := ⟨h, hk⟩
theorem closedH_ren (f : Nat → Nat) : ∀ {H : List Blk}, closedH H → H.map (Blk.ren f) = H
  | [], _ => rfl
  | .cells cs :: ks, h => by
    simp only [List.map_cons, Blk.ren, PV.rens_same (f := f) (q := fun _ => false) (fun _ hf => by cases hf) cs h.1, closedH_ren f h.2]
  | .buf .. :: ks, h => by
    simp only [List.map_cons, Blk.ren, closedH_ren f (H := ks) h]
  | .map .. :: _, h => h.elim
  | .far _ :: _, h => h.elim
  | .iter .. :: _, h => h.elim
def Hnd.callC {f : FuncId} {fn : Func} {args0 : List PV} {H0 H1 : List Blk} {p1 : PV} (hfn : P.funcs[f]? = some fn) (ws : List Ow) (h0 : closedH H0) (h1 : closedH H1) (hc : ACall P G f args0 H0 (fun q K => q = p1 ∧ K = H1)) : Hnd P G where
  run o st H := match o.op with
    | .call cl => match cl.callee with
      | .value x => match opd G st x, opdL G st cl.args.toList with
        | some px, some ps => match wkArgs P H false fn.params.toList ps ws with
          | some (qs, l, r) =>
            let σ := ptrsOf ps
            if fn.body.isNone = false ∧ (fn.name == "runtime.NumGoroutine") = false ∧ σ.Pairwise (· < ·) ∧ H0.all Blk.isCells = true then
              some ⟨p1.ren (renId σ H.length), setAll σ H1 H, .p px :: .ps qs :: .bs (H0.map some) :: l, .p (.sc (.func (.func f) #[] #[])) :: .ps (PV.rens (renId σ H.length) args0) :: .bs (σ.map (H[·]?)) :: r⟩
            else none
          | _ => none
        | _, _ => none
      | _ => none
    | _ => none
  sound := by
    intro n0 o st H x h he
    suffices hT : OpT P G n0 o st H x.p x.H from hT.weak
    split at h
    · rename_i cl ho
      split at h
      · rename_i x hcl
        split at h
        · rename_i px ps hx hps
          split at h
          · rename_i qs l r hw
            simp only [] at h
            split at h
            · rename_i hcond
              obtain ⟨c1, c2, c3, c4⟩ := hcond
              simp only [Option.some.injEq] at h
              subst h
              simp only [List.cons.injEq, T.p.injEq, T.ps.injEq, T.bs.injEq] at he
              obtain ⟨h1', h2, h3, h4⟩ := he
              subst h1'
              refine OpT.call (caps := []) ho hcl (.inl ⟨hx, rfl⟩) hfn c1 c2 (opdL_spec _ _ hps) (by rw [List.append_nil]; exact wkArgs_wks _ _ _ _ hw h4) h2 c3 c4 ?_ hc rfl ?_
              · rw [← h3]
                have := congrArg (List.map some) (closedH_ren (renId (ptrsOf ps) H.length) h0)
                rw [List.map_map] at this
                exact this
              · rw [closedH_ren _ h1]
            · cases h
          · cases h
        · cases h
      · cases h
    · cases h
/-- A call of a closure, by its promise. -/
def Hnd.callFC {f : FuncId} {fn : Func} {args0 : List PV} {H0 H1 : List Blk} {p1 : PV} (hfn : P.funcs[f]? = some fn) (ws : List Ow) (h0 : closedH H0) (h1 : closedH H1) (hc : ACall P G f args0 H0 (fun q K => q = p1 ∧ K = H1)) : Hnd P G where
  run o st H := match o.op with
    | .call cl => match cl.callee with
      | .value x => match opd G st x, opdL G st cl.args.toList with
        | some (.fn f' caps), some ps => match wkArgs P H false fn.params.toList ps ws with
          | some (qs, l, r) =>
            let σ := ptrsOf (ps ++ caps)
            if fn.body.isNone = false ∧ (fn.name == "runtime.NumGoroutine") = false ∧ σ.Pairwise (· < ·) ∧ H0.all Blk.isCells = true then
              some ⟨p1.ren (renId σ H.length), setAll σ H1 H, .n f' :: .ps (qs ++ caps) :: .bs (H0.map some) :: l, .n f :: .ps (PV.rens (renId σ H.length) args0) :: .bs (σ.map (H[·]?)) :: r⟩
            else none
          | _ => none
        | _, _ => none
      | _ => none
    | _ => none
  sound := by
    intro n0 o st H x h he
    suffices hT : OpT P G n0 o st H x.p x.H from hT.weak
    split at h
    · rename_i cl ho
      split at h
      · rename_i x hcl
        split at h
        · rename_i f' caps ps hx hps
          split at h
          · rename_i qs l r hw
            simp only [] at h
            split at h
            · rename_i hcond
              obtain ⟨c1, c2, c3, c4⟩ := hcond
              simp only [Option.some.injEq] at h
              subst h
              simp only [List.cons.injEq, T.n.injEq, T.ps.injEq, T.bs.injEq] at he
              obtain ⟨h1', h2, h3, h4⟩ := he
              subst h1'
              refine OpT.call (caps := caps) ho hcl (.inr hx) hfn c1 c2 (opdL_spec _ _ hps) (Wks.append (wkArgs_wks _ _ _ _ hw h4) (Wks.refl _ _ _)) h2 c3 c4 ?_ hc rfl ?_
              · rw [← h3]
                have := congrArg (List.map some) (closedH_ren (renId (ptrsOf (ps ++ caps)) H.length) h0)
                rw [List.map_map] at this
                exact this
              · rw [closedH_ren _ h1]
            · cases h
          · cases h
        · cases h
      · cases h
    · cases h
end
end Go.AM
/- A call that turns the elements of a buffer and returns a first part of it, where the buffer may be empty (then its slice may be nil: another promise of the function serves). No condition. -/
namespace Go.AM
section
variable {P : Program} {G : Glob} {n0 nt : Nat} {o : Oper} {st : St} {H : List Blk}
variable {α : Type}
/-- What comes back: for elements by the first computation, for none by the second. -/
def handB (l : List α) (x : Option (Nat × List α)) (y : Option (List α)) : Option (Nat × List α) := match l with
  | [] => y.bind fun z => if z.length = 0 then some (0, []) else none
  | _ :: _ => x.bind fun r => if r.2.length = l.length ∧ r.1 ≤ r.2.length then some r else none
theorem handB_cons {l : List α} {x : Option (Nat × List α)} {y : Option (List α)} {r : Nat × List α} (h : handB l x y = some r) (hl : l ≠ []) : x = some r ∧ r.2.length = l.length ∧ r.1 ≤ r.2.length := by
  cases l with
  | nil => exact absurd rfl hl
  | cons a l =>
    simp only [handB, Option.bind_eq_some_iff] at h
    obtain ⟨q, h1, h2⟩ := h
    split at h2
    · rename_i hc
      simp only [Option.some.injEq] at h2
      subst h2
      exact ⟨h1, hc⟩
    · cases h2
theorem handB_nil {l : List α} {x : Option (Nat × List α)} {y : Option (List α)} {r : Nat × List α} (h : handB l x y = some r) (hl : l = []) : y = some [] ∧ r = (0, []) := by
  subst hl
  simp only [handB, Option.bind_eq_some_iff] at h
  obtain ⟨z, h1, h2⟩ := h
  split at h2
  · rename_i hc
    rw [List.length_eq_zero_iff] at hc
    subst hc
    simp only [Option.some.injEq] at h2
    exact ⟨h1, h2.symm⟩
  · cases h2
def Hnd.callBE {f : FuncId} {fn : Func} (row : α → List PV) {s : Nat} {l : List α} {x0 : Option (Nat × List α)} {y0 : Option (List α)} {r : Nat × List α} {rest : List PV} (hfn : P.funcs[f]? = some fn) (hrow : ∀ z, (row z).length = s) (hr : handB l x0 y0 = some r)
    (hc : x0 = some r → ∀ sp, ACall P G f (.vw 0 0 l.length :: rest) [.cells (cel row l sp)] (fun q K => q = .vw 0 0 r.1 ∧ K = [.cells (cel row r.2 sp)]))
    (he : y0 = some [] → ACall P G f (.sl s [] :: rest) [] (fun q K => q = .sl s [] ∧ K = [])) : Hnd P G where
  run o st H := match o.op with
    | .call cl => match cl.callee with
      | .value x => match opd G st x, opdL G st cl.args.toList with
        | some px, some (.own i n :: rest') => match H[i]? with
          | some (.buf s' t xs false) =>
            if fn.body.isNone = false ∧ (fn.name == "runtime.NumGoroutine") = false ∧ PV.idss (fun _ => false) rest = true ∧ Nat.beq s s' = true then
              some ⟨.sl s' ((r.2.take r.1).map row), H.set i (.buf s' t (r.2.map row) true), [.p px, .n n, .ps rest', .rs xs], [.p (.sc (.func (.func f) #[] #[])), .n l.length, .ps rest, .rs (l.map row)]⟩
            else none
          | _ => none
        | _, _ => none
      | _ => none
    | _ => none
  sound := by
    intro n0 o st H x h he'
    split at h
    · rename_i cl ho
      split at h
      · rename_i x hcl
        split at h
        · rename_i px i n rest' hx hps
          split at h
          · rename_i s' t xs hb
            split at h
            · rename_i hcond
              obtain ⟨c1, c2, c3, c5⟩ := hcond
              simp only [Option.some.injEq] at h
              subst h
              simp only [List.cons.injEq, T.p.injEq, T.ps.injEq, T.n.injEq, T.rs.injEq, and_true] at he'
              obtain ⟨rfl, rfl, rfl, rfl⟩ := he'
              have c5 := Nat.eq_of_beq_eq_true c5
              subst c5
              by_cases hl : l = []
              · obtain ⟨hy, rfl⟩ := handB_nil hr hl
                subst hl
                have hk := he hy
                intro c a w β h0 hrl
                have hrs := hrl.share hb
                have hil := (List.getElem?_eq_some_iff.1 hb).1
                have hw : Wks (H.set i (.buf s t [] true)) false ((.own i ([] : List (List PV)).length :: rest') ++ []) (.sl s [] :: rest') := by
                  rw [List.append_nil]
                  exact .cons _ _ _ _ (.own i s t [] true (List.getElem?_set_self hil) (.inr rfl)) (Wks.refl _ _ _)
                exact (OpT.callV (n0 := n0) (H := H.set i (.buf s t [] true)) ho hcl (.inl ⟨hx, rfl⟩) hfn c1 c2 (opdL_spec _ _ hps) hw (by simpa [PV.idss, PV.ids] using c3) (by simp [PV.ids]) hk).weak c a w β (by simpa using h0) hrs
              · obtain ⟨h1, h2, h3⟩ := handB_cons hr hl
                have hl1 : (l.map row).length = l.length := List.length_map ..
                have := OpW.callBs (n0 := n0) (xs := l.map row) (ys := r.2.map row) (k := r.1) ho hcl hx hfn c1 c2 (by rw [hl1]; exact opdL_spec _ _ hps) c3 hb (by simpa using hl) (by simpa using h2) (by
                  intro y hy
                  obtain ⟨z, _, rfl⟩ := List.mem_map.1 hy
                  exact hrow z) (by simpa using h3) (fun sp => by rw [hl1]; exact hc h1 sp)
                rw [← List.map_take] at this
                exact this
            · cases h
          · cases h
        · cases h
      · cases h
    · cases h
end
end Go.AM

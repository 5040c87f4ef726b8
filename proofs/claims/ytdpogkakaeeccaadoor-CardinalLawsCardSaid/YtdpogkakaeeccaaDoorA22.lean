/- Still more operations: parts of arrays as slices, elements of elements, nil slices compared, slices that are made; states that are turned ahead of an operation. No condition. -/
import Derived.Test.YtdpogkakaeeccaaDoorA21
import Derived.Laws.OwnMore
import Derived.Laws.Cover3
import Derived.Laws.Pointers
import Derived.Laws.BytesString
namespace Go.AM
section
variable {P : Program} {G : Glob} {n0 nt : Nat} {o : Oper} {st : St} {H : List Blk} {ops : Array Oper} {Q : Exit → St → List Blk → Prop}

/-- A state that says less, or that reads a buffer as shared, ahead of an operation. -/
theorem OpW.pre {st1 : St} {H1 H' : List Blk} {p : PV} (hle : ∀ c a w β, RelB G c β st H a w → ∃ β', RelB G c β' st1 H1 a w) (h : OpW P G n0 o st1 H1 p H') : OpW P G n0 o st H p H' := by
  intro c a w β h0 hr
  have hr1 := hr.ghost (g := st.map fun x => (x.2, a.tmps.getD x.1 undef)) (fun x hx => by
    obtain ⟨y, hy, rfl⟩ := List.mem_map.1 hx
    exact (hr.slots y hy).2)
  obtain ⟨β1, hr2⟩ := hle _ a w β hr1
  refine wpv_mono (h { c with gh := (st.map fun x => (x.2, a.tmps.getD x.1 undef)) ++ c.gh } a w β1 h0 hr2) fun v w' ⟨β', h1, h2⟩ => ?_
  obtain ⟨h3, h4⟩ := h1.unghost
  exact ⟨β', ⟨h3.ok, h3.len, h3.pre, h3.blk, h3.inj, h3.loc, h3.cel, fun x hx => ⟨(hr.slots x hx).1, h4 _ (List.mem_map_of_mem hx)⟩, h3.nt, h3.dfr, h3.frm, h3.gh⟩, h2⟩
theorem RelB.ow_sl {c : Ctx} {β : List Bnd} {a : Act} {w : World} (h : RelB G c β st H a w) {i n lo hi s t : Nat} {xs : List (List PV)} {u : Value} (hb : H[i]? = some (.buf s t xs true)) (hn : n = xs.length) (hl : lo < hi) (hh : hi ≤ n) (hp : VR (stab c β H w) β w (.ow i n lo hi) u) :
    VR (stab c β H w) β w (.sl s ((xs.take hi).drop lo)) u := by
  simp only [VR] at hp
  obtain ⟨_, ed, he, k1, k2⟩ := hp
  obtain ⟨q1, q2, q3, vals, ⟨q4, q5⟩, q6⟩ := h.blk i ed _ he hb
  obtain ⟨g, cap, k3, k4, hv⟩ := k2 (by omega)
  rcases q5 with ⟨q5, q7⟩ | ⟨g', cp, cur, e1, e2, e3, e4, e5, e6, e7⟩
  · omega
  · rw [e1] at k3
    simp [Value.ownBlock] at k3
    subst k3
    have hw : VR (stab c β H w) β w (.sl s xs) ed.v := h.wk (p := .own i xs.length) (by simp only [VR]; exact ⟨by rw [e1]; rfl, ed, he, by omega, fun _ => rfl⟩) (.own i s t xs true hb (.inr rfl))
    simp only [VR] at hw
    obtain ⟨ad, cp', g1, g2, g3⟩ := hw
    rcases g3 with rfl | ⟨b, off, g4, g5, g6⟩
    · simp at hn; omega
    · rw [e1, g4] at g1
      simp at g1
      obtain ⟨⟨rfl, rfl⟩, _⟩ := g1
      have hlen : ((xs.take hi).drop lo).length = hi - lo := by rw [List.length_drop, List.length_take, Nat.min_eq_left (by omega)]
      have hpart := rows_part xs 0 hi lo g6
      simp only [VR]
      refine ⟨_, cap, by rw [hlen]; exact hv, by rw [hlen]; exact k4, .inr ⟨g', lo * ed.s, rfl, h.ok.stab g5 ?_, by rw [Nat.zero_add] at hpart; rw [q2]; exact hpart⟩⟩
      rw [hlen, q2, Nat.zero_add, ← Nat.add_mul]
      exact Nat.mul_le_mul_right s (by omega)
theorem VRs.zip {S : Nat → Nat → Prop} {β : List Bnd} {w : World} : ∀ (ps : List PV) (us : List Value), VRs S β w ps us → ∀ x ∈ ps.zip us, VR S β w x.1 x.2
  | [], _, _, x, hx => by simp at hx
  | _ :: _, [], h, _, _ => by simp only [VRs] at h
  | p :: ps, u :: us, h, x, hx => by
    simp only [VRs] at h
    simp only [List.zip_cons_cons, List.mem_cons] at hx
    rcases hx with rfl | hx
    · exact h.1
    · exact VRs.zip ps us h.2 x hx
theorem VRs.of_zip {S : Nat → Nat → Prop} {β : List Bnd} {w : World} : ∀ (ps : List PV) (us : List Value), ps.length = us.length → (∀ x ∈ ps.zip us, VR S β w x.1 x.2) → VRs S β w ps us
  | [], [], _, _ => by simp only [VRs]
  | [], _ :: _, h, _ => by simp at h
  | _ :: _, [], h, _ => by simp at h
  | p :: ps, u :: us, h, k => by
    simp only [VRs]
    exact ⟨k (p, u) (by simp), VRs.of_zip ps us (by simpa using h) fun x hx => k x (by simp [hx])⟩
/-- An owned slice in a slot becomes one that nobody writes. -/
def shareT (k : Nat) (st : St) (H : List Blk) : St × List Blk := match st.get k with
  | some (.own i n) => match H[i]? with
    | some (.buf s t xs _) => if Nat.beq n xs.length then (st.put k (.sl s xs), H.set i (.buf s t xs true)) else (st, H)
    | _ => (st, H)
  | some (.ow i n lo hi) => match H[i]? with
    | some (.buf s t xs _) => if Nat.beq n xs.length && Nat.blt lo hi && Nat.ble hi n then (st.put k (.sl s ((xs.take hi).drop lo)), H.set i (.buf s t xs true)) else (st, H)
    | _ => (st, H)
  | _ => (st, H)
theorem shareT_ok (k : Nat) (st : St) (H : List Blk) : ∀ c a w β, RelB G c β st H a w → ∃ β', RelB G c β' (shareT k st H).1 (shareT k st H).2 a w := by
  intro c a w β hr
  unfold shareT
  split
  · rename_i i n hk
    split
    · rename_i s t xs sh hb
      split
      · rename_i hn
        have hn := Nat.eq_of_beq_eq_true hn
        subst hn
        have h1 := hr.share hb
        have hil := (List.getElem?_eq_some_iff.1 hb).1
        obtain ⟨h3, h4⟩ := h1.slots (k, _) (lookup_mem st k _ hk)
        exact ⟨β, h1.slot h3 (h1.wk h4 (.own i s t xs true (by rw [List.getElem?_set_self hil]) (.inr rfl)))⟩
      · exact ⟨β, hr⟩
    · exact ⟨β, hr⟩
  · rename_i i n lo hi hk
    split
    · rename_i s t xs sh hb
      split
      · rename_i hc
        simp only [Bool.and_eq_true] at hc
        have hn := Nat.eq_of_beq_eq_true hc.1.1
        have h2 := Nat.le_of_ble_eq_true hc.2
        have h3 := Nat.le_of_ble_eq_true (show Nat.ble (lo + 1) hi = true from hc.1.2)
        have h1 := hr.share hb
        have hil := (List.getElem?_eq_some_iff.1 hb).1
        obtain ⟨h4, h5⟩ := h1.slots (k, _) (lookup_mem st k _ hk)
        exact ⟨β, h1.slot h4 (h1.ow_sl (by rw [List.getElem?_set_self hil]) hn (by omega) h2 h5)⟩
      · exact ⟨β, hr⟩
    · exact ⟨β, hr⟩
  · exact ⟨β, hr⟩
def shareTs : List Nat → St → List Blk → St × List Blk
  | [], st, H => (st, H)
  | k :: ks, st, H => shareTs ks (shareT k st H).1 (shareT k st H).2
theorem shareTs_ok : ∀ (ks : List Nat) (st : St) (H : List Blk), ∀ c a w β, RelB G c β st H a w → ∃ β', RelB G c β' (shareTs ks st H).1 (shareTs ks st H).2 a w
  | [], st, H => fun c a w β hr => ⟨β, hr⟩
  | k :: ks, st, H => fun c a w β hr => by
    obtain ⟨β1, h1⟩ := shareT_ok k st H c a w β hr
    exact shareTs_ok ks _ _ c a w β1 h1
/-- A nil slice in a slot becomes a buffer, empty. -/
theorem OpW.preOwn {k s t : Nat} {p : PV} {H' : List Blk} (hk : st.get k = some (.sc (.slice none 0 0))) (h : OpW P G n0 o (st.put k (.own H.length 0)) (H ++ [.buf s t [] false]) p H') : OpW P G n0 o st H p H' :=
  OpW.pre (fun c a w β hr => by
    obtain ⟨h1, h2⟩ := hr.own s t
    obtain ⟨h3, h4⟩ := hr.slots (k, _) (lookup_mem st k _ hk)
    simp only [VR] at h4
    refine ⟨_, h1.slot h3 ?_⟩
    simp only [VR]
    refine ⟨by rw [h4]; rfl, ⟨0, .slice none 0 0, 0, s⟩, by rw [← hr.len]; simp, Nat.le_refl _, fun _ => h4⟩) h

/-- An element of an array within an element of a buffer. -/
theorem OpT.index_ept {t e : TypeId} {n : Nat} {x y : Operand} {k : IntKind} {j : Int} {i m q off s ty : Nat} {xs : List (List PV)} {sh : Bool} (ho : o.op = .indexAddr t x y) (hu : P.underlying t = some (.array n e)) (hz : P.cellsOf e ≠ 0) (hy : opd G st y = some (.sc (.int k j)))
    (h0 : 0 ≤ j) (h1 : j < n) (hx : opd G st x = some (.ept i m q off)) (hb : H[i]? = some (.buf s ty xs sh)) (hn : m = xs.length) : OpT P G n0 o st H (.ept i m q (off + j.toNat * P.cellsOf e)) H :=
  OpT.value fun c a w β hn0 hr => by
    have g1 := hr.opd hx
    have g2 := hr.opd hy
    simp only [VR] at g1 g2
    obtain ⟨g0, ed, h2, h3, h4⟩ := g1
    obtain ⟨h5, _⟩ := hr.blk i ed _ h2 hb
    obtain ⟨g, h6, h7⟩ := h4 (by omega)
    have run : (execOp a.eval o).run P w = .ok (.value (.pointer (some ⟨g, q * ed.s + off + j.toNat * P.cellsOf e, none⟩))) w := by
      simp [execOp, ho, Instr.indexAt, asIntOf, run_underlying hu, h7, g2, Instr.sureAddr, run_size rfl hz, addr_add, h0, h1]
    refine ⟨_, run, ?_⟩
    simp only [VR]
    refine ⟨rfl, ed, h2, h3, fun _ => ⟨g, h6, ?_⟩⟩
    rw [Nat.add_assoc]
theorem OpT.nilCheck_ept {x : Operand} {i n k off s t : Nat} {xs : List (List PV)} {sh : Bool} (ho : o.op = .nilCheck x) (hx : opd G st x = some (.ept i n k off)) (hb : H[i]? = some (.buf s t xs sh)) (hn : n = xs.length) : OpT P G n0 o st H (.ept i n k off) H :=
  OpT.value fun c a w β hn0 hr => by
    have h1 := hr.opd hx
    refine ⟨a.eval x, ?_, h1⟩
    simp only [VR] at h1
    obtain ⟨_, ed, h2, h3, h4⟩ := h1
    obtain ⟨h5, _⟩ := hr.blk i ed _ h2 hb
    obtain ⟨g, h6, h7⟩ := h4 (by omega)
    simp [execOp, ho, h7]
/-- A part of an array, as a slice of its cells. -/
theorem OpT.sliceArr {t e : TypeId} {n : Nat} {x : Operand} {lo hi : Option Operand} {l h : Int} {i off : Nat} (ho : o.op = .slice t x lo hi none) (hu : P.underlying t = some (.array n e)) (hz : P.cellsOf e ≠ 0)
    (hx : opd G st x = some (.ptr i off)) (hlo : loOf G st lo = some l) (hhi : hiOf G st n hi = some h) (h0 : 0 ≤ l) (h1 : l ≤ h) (h2 : h < n ∨ (h ≤ n ∧ l < n)) : OpT P G n0 o st H (.vw i (off + l.toNat * P.cellsOf e) (h.toNat - l.toNat)) H :=
  OpT.value fun c a w β hn hr => by
    have g0 := hr.opd hx
    simp only [VR] at g0
    obtain ⟨ed, g1, g2⟩ := g0
    have hlv : ∀ x, lo = some x → ∃ k, a.eval x = .int k l := fun x hx' => by
      subst hx'
      simp only [loOf] at hlo
      cases hox : opd G st x with
      | none => simp [hox] at hlo
      | some r =>
        have := hr.opd hox
        cases r <;> simp only [hox] at hlo <;> try (cases hlo; done)
        case sc v =>
          cases v <;> simp only [Option.some.injEq] at hlo <;> try (cases hlo; done)
          case int k i =>
            simp only [VR] at this
            exact ⟨k, by rw [this, hlo]⟩
    have hhv : ∀ x, hi = some x → ∃ k, a.eval x = .int k h := fun x hx' => by
      subst hx'
      simp only [hiOf] at hhi
      cases hox : opd G st x with
      | none => simp [hox] at hhi
      | some r =>
        have := hr.opd hox
        cases r <;> simp only [hox] at hhi <;> try (cases hhi; done)
        case sc v =>
          cases v <;> simp only [Option.some.injEq] at hhi <;> try (cases hhi; done)
          case int k i =>
            simp only [VR] at this
            exact ⟨k, by rw [this, hhi]⟩
    have hsb : (Instr.sliceBounds false n n (lo.map a.eval) (hi.map a.eval) none).run P w = .ok (l.toNat, h.toNat, n) w := by
      have hh : h ≤ n := by omega
      cases lo with
      | none =>
        simp only [loOf, Option.some.injEq] at hlo
        subst hlo
        cases hi with
        | none =>
          simp only [hiOf, Option.some.injEq] at hhi
          subst hhi
          simp [Instr.sliceBounds]
        | some y =>
          obtain ⟨k, hy⟩ := hhv y rfl
          simp [Instr.sliceBounds, hy, Instr.sliceBound, asIntOf, hh, h1]
      | some x' =>
        obtain ⟨k', hx''⟩ := hlv x' rfl
        cases hi with
        | none =>
          simp only [hiOf, Option.some.injEq] at hhi
          subst hhi
          simp [Instr.sliceBounds, hx'', Instr.sliceBound, asIntOf, h0, h1]
        | some y =>
          obtain ⟨k, hy⟩ := hhv y rfl
          have h0h : 0 ≤ h := by omega
          simp [Instr.sliceBounds, hx'', hy, Instr.sliceBound, asIntOf, hh, h0, h0h]
          omega
    have hne : ¬ n = l.toNat := by omega
    refine ⟨.slice (some ⟨ed.b, off + l.toNat * P.cellsOf e, none⟩) (h.toNat - l.toNat) (n - l.toNat), ?_, ?_⟩
    · simp [execOp, ho, Instr.sliceAt, run_underlying hu, g2, Instr.sureAddr, hsb, run_size rfl hz, hne, addr_add]
    · simp only [VR]
      exact ⟨ed, g1, _, _, by omega, rfl, fun _ => rfl⟩
theorem OpT.index_vw {t e : TypeId} {x y : Operand} {k : IntKind} {j : Int} {i off n : Nat} (ho : o.op = .indexAddr t x y) (hu : P.underlying t = some (.slice e)) (hz : P.cellsOf e ≠ 0)
    (hx : opd G st x = some (.vw i off n)) (hy : opd G st y = some (.sc (.int k j))) (h0 : 0 ≤ j) (h1 : j < n) : OpT P G n0 o st H (.ptr i (off + j.toNat * P.cellsOf e)) H :=
  OpT.value fun c a w β hn hr => by
    have g1 := hr.opd hx
    have g2 := hr.opd hy
    simp only [VR] at g1 g2
    obtain ⟨ed, he, cap, ad, hc, hv, ha⟩ := g1
    rw [ha (by omega)] at hv
    refine ⟨.pointer (some ⟨ed.b, off + j.toNat * P.cellsOf e, none⟩), ?_, ?_⟩
    · simp [execOp, ho, Instr.indexAt, asIntOf, run_underlying hu, hv, g2, run_size rfl hz, addr_add, h0, h1]
    · simp only [VR]
      exact ⟨ed, he, rfl⟩
theorem OpT.len_vw {cl : Call} {x : Operand} {T e i off n : Nat} (ho : o.op = .call cl) (hcl : cl = { callee := .builtin .len, args := #[x], argTypes := #[T] }) (hT : P.underlying T = some (.slice e)) (hx : opd G st x = some (.vw i off n)) :
    OpT P G n0 o st H (.sc (.int .i64 n)) H :=
  OpT.value fun c a w β h0 hr => by
    have h1 := hr.opd hx
    simp only [VR] at h1
    obtain ⟨ed, he, cap, ad, hc, hv, ha⟩ := h1
    exact ⟨.int .i64 n, by simp [execOp, ho, hcl, resolve, invoke, builtin, hv, Builtin.len_, run_underlying hT, goInt], by simp only [VR]⟩
/-- A slice that is not nil, against nil. -/
def notNil (H : List Blk) : PV → Bool
  | .own i n => match H[i]? with
    | some (.buf _ _ xs _) => Nat.beq n xs.length && !(Nat.beq n 0)
    | _ => false
  | .sl _ (_ :: _) => true
  | .vw _ _ n => !(Nat.beq n 0)
  | .ow i n _ _ => match H[i]? with
    | some (.buf _ _ xs _) => Nat.beq n xs.length
    | _ => false
  | .z => false
  | _ => false
theorem notNil_spec {c : Ctx} {β : List Bnd} {a : Act} {w : World} (hr : RelB G c β st H a w) {p : PV} {u : Value} (hp : notNil H p = true) (h : VR (stab c β H w) β w p u) : ∃ ad n cap, u = .slice (some ad) n cap := by
  unfold notNil at hp
  split at hp
  · rename_i i n
    split at hp
    · rename_i s t xs sh hb
      simp only [Bool.and_eq_true, Bool.not_eq_true'] at hp
      have hn := Nat.eq_of_beq_eq_true hp.1
      simp only [VR] at h
      obtain ⟨_, ed, h2, h3, h4⟩ := h
      obtain ⟨h5, _, _, vals, ⟨_, h6⟩, _⟩ := hr.blk i ed _ h2 hb
      have := h4 (by omega)
      rcases h6 with ⟨h7, h8⟩ | ⟨g, cap, cur, h7, _⟩
      · rw [hn, h8] at hp; exact absurd hp.2 (by decide)
      · rw [h7] at this; exact ⟨_, _, _, this⟩
    · cases hp
  · rename_i s x xs
    simp only [VR] at h
    obtain ⟨ad, cap, rfl, _, h | ⟨b, of, rfl, _⟩⟩ := h
    · cases h
    · exact ⟨_, _, _, rfl⟩
  · rename_i n
    simp only [VR] at h
    obtain ⟨ed, _, cap, ad, _, rfl, ha⟩ := h
    cases n with
    | zero => cases hp
    | succ n => exact ⟨_, _, _, by rw [ha (by omega)]⟩
  · rename_i i n lo hi
    split at hp
    · rename_i s t xs sh hb
      have hn := Nat.eq_of_beq_eq_true hp
      simp only [VR] at h
      obtain ⟨_, ed, h2, h3, h4⟩ := h
      obtain ⟨h5, _⟩ := hr.blk i ed _ h2 hb
      obtain ⟨g, cap, _, _, hv⟩ := h4 (by omega)
      exact ⟨_, _, _, hv⟩
    · cases hp
  · cases hp
  · cases hp
theorem OpT.eqNil {t t' e : TypeId} {x y : Operand} {p : PV} (ho : o.op = .binOp .eql t x y t') (hu : P.underlying t = some (.slice e)) (hx : opd G st x = some p) (hp : notNil H p = true) (hy : opd G st y = some (.sc (.slice none 0 0))) : OpT P G n0 o st H (.sc (.bool false)) H :=
  OpT.value fun c a w β hn hr => by
    have h2 := hr.opd hy
    simp only [VR] at h2
    obtain ⟨ad, n, cap, h1⟩ := notNil_spec hr hp (hr.opd hx)
    exact ⟨.bool false, by simp [execOp, ho, h1, h2, eqGuard, binOp, run_equal_slice_nil w t e _ _ _ hu], by simp only [VR]⟩
theorem OpT.neqNil {t t' e : TypeId} {x y : Operand} {p : PV} (ho : o.op = .binOp .neq t x y t') (hu : P.underlying t = some (.slice e)) (hx : opd G st x = some p) (hp : notNil H p = true) (hy : opd G st y = some (.sc (.slice none 0 0))) : OpT P G n0 o st H (.sc (.bool true)) H :=
  OpT.value fun c a w β hn hr => by
    have h2 := hr.opd hy
    simp only [VR] at h2
    obtain ⟨ad, n, cap, h1⟩ := notNil_spec hr hp (hr.opd hx)
    exact ⟨.bool true, by simp [execOp, ho, h1, h2, eqGuard, binOp, run_equal_slice_nil w t e _ _ _ hu], by simp only [VR]⟩
/-- A pointer against nil. -/
theorem OpT.ptrNil {t t' e : TypeId} {x y : Operand} {p : PV} (ho : o.op = .binOp .eql t x y t') (hu : P.underlying t = some (.pointer e)) (hx : opd G st x = some p) (hp : match p with | .ptr _ _ | .ro _ _ => True | _ => False) (hy : opd G st y = some (.sc (.pointer none))) : OpT P G n0 o st H (.sc (.bool false)) H :=
  OpT.value fun c a w β hn hr => by
    have h2 := hr.opd hy
    simp only [VR] at h2
    have h1 : ∃ ad : Addr, a.eval x = .pointer (some ad) := by
      have h3 := hr.opd hx
      cases p with
      | ptr i off => simp only [VR] at h3; obtain ⟨ed, _, h4⟩ := h3; exact ⟨_, h4⟩
      | ro cs off => simp only [VR] at h3; obtain ⟨b, of, h4, _⟩ := h3; exact ⟨_, h4⟩
      | _ => simp only at hp
    obtain ⟨ad, h1⟩ := h1
    have hu' : P.underlying t = some (.pointer (P.pointee t)) := by simp [Program.pointee, hu]
    exact ⟨.bool false, by simp [execOp, ho, h1, h2, eqGuard, binOp, run_equal_pointer_nil w t _ hu'], by simp only [VR]⟩
theorem OpT.ptrNotNil {t t' e : TypeId} {x y : Operand} {p : PV} (ho : o.op = .binOp .neq t x y t') (hu : P.underlying t = some (.pointer e)) (hx : opd G st x = some p) (hp : match p with | .ptr _ _ | .ro _ _ => True | _ => False) (hy : opd G st y = some (.sc (.pointer none))) : OpT P G n0 o st H (.sc (.bool true)) H :=
  OpT.value fun c a w β hn hr => by
    have h2 := hr.opd hy
    simp only [VR] at h2
    have h1 : ∃ ad : Addr, a.eval x = .pointer (some ad) := by
      have h3 := hr.opd hx
      cases p with
      | ptr i off => simp only [VR] at h3; obtain ⟨ed, _, h4⟩ := h3; exact ⟨_, h4⟩
      | ro cs off => simp only [VR] at h3; obtain ⟨b, of, h4, _⟩ := h3; exact ⟨_, h4⟩
      | _ => simp only at hp
    obtain ⟨ad, h1⟩ := h1
    have hu' : P.underlying t = some (.pointer (P.pointee t)) := by simp [Program.pointee, hu]
    exact ⟨.bool true, by simp [execOp, ho, h1, h2, eqGuard, binOp, run_equal_pointer_nil w t _ hu'], by simp only [VR]⟩

/-! ### Views of buffers -/
theorem lo_eval {c : Ctx} {β : List Bnd} {a : Act} {w : World} (hr : RelB G c β st H a w) {lo : Option Operand} {l : Int} (hlo : loOf G st lo = some l) : ∀ x, lo = some x → ∃ k, a.eval x = .int k l := fun x hx' => by
  subst hx'
  simp only [loOf] at hlo
  cases hox : opd G st x with
  | none => simp [hox] at hlo
  | some r =>
    have := hr.opd hox
    cases r <;> simp only [hox] at hlo <;> try (cases hlo; done)
    case sc v =>
      cases v <;> simp only [Option.some.injEq] at hlo <;> try (cases hlo; done)
      case int k i =>
        simp only [VR] at this
        exact ⟨k, by rw [this, hlo]⟩
theorem hi_eval {c : Ctx} {β : List Bnd} {a : Act} {w : World} (hr : RelB G c β st H a w) {hi : Option Operand} {n : Nat} {h : Int} (hhi : hiOf G st n hi = some h) : ∀ x, hi = some x → ∃ k, a.eval x = .int k h := fun x hx' => by
  subst hx'
  simp only [hiOf] at hhi
  cases hox : opd G st x with
  | none => simp [hox] at hhi
  | some r =>
    have := hr.opd hox
    cases r <;> simp only [hox] at hhi <;> try (cases hhi; done)
    case sc v =>
      cases v <;> simp only [Option.some.injEq] at hhi <;> try (cases hhi; done)
      case int k i =>
        simp only [VR] at this
        exact ⟨k, by rw [this, hhi]⟩
theorem slice_bounds {c : Ctx} {β : List Bnd} {a : Act} {w : World} (hr : RelB G c β st H a w) {lo hi : Option Operand} {n cap : Nat} {l h : Int} (hlo : loOf G st lo = some l) (hhi : hiOf G st n hi = some h) (h0 : 0 ≤ l) (h1 : l ≤ h) (h2 : h ≤ n) (h3 : n ≤ cap) :
    (Instr.sliceBounds true n cap (lo.map a.eval) (hi.map a.eval) none).run P w = .ok (l.toNat, h.toNat, cap) w := by
  have hlv := lo_eval hr hlo
  have hhv := hi_eval hr hhi
  have hh : h ≤ cap := by omega
  cases lo with
  | none =>
    simp only [loOf, Option.some.injEq] at hlo
    subst hlo
    cases hi with
    | none =>
      simp only [hiOf, Option.some.injEq] at hhi
      subst hhi
      simp [Instr.sliceBounds]
    | some y =>
      obtain ⟨k, hy⟩ := hhv y rfl
      simp [Instr.sliceBounds, hy, Instr.sliceBound, asIntOf, hh, h1]
  | some x' =>
    obtain ⟨k', hx''⟩ := hlv x' rfl
    cases hi with
    | none =>
      simp only [hiOf, Option.some.injEq] at hhi
      subst hhi
      simp [Instr.sliceBounds, hx'', Instr.sliceBound, asIntOf, h0, h1]
    | some y =>
      obtain ⟨k, hy⟩ := hhv y rfl
      have h0h : 0 ≤ h := by omega
      simp [Instr.sliceBounds, hx'', hy, Instr.sliceBound, asIntOf, hh, h0, h0h]
      omega
theorem OpT.slice_own {t e s ty i n : Nat} {x : Operand} {lo hi : Option Operand} {l h : Int} {xs : List (List PV)} {sh : Bool} (ho : o.op = .slice t x lo hi none) (hu : P.underlying t = some (.slice e)) (hz : P.cellsOf e = s) (hs0 : s ≠ 0)
    (hx : opd G st x = some (.own i n)) (hb : H[i]? = some (.buf s ty xs sh)) (hn : n = xs.length) (hlo : loOf G st lo = some l) (hhi : hiOf G st n hi = some h) (h0 : 0 ≤ l) (h1 : l < h) (h2 : h ≤ n) : OpT P G n0 o st H (.ow i n l.toNat h.toNat) H :=
  OpT.value fun c a w β hn0 hr => by
    have g1 := hr.opd hx
    simp only [VR] at g1
    obtain ⟨_, ed, he, k1, k2⟩ := g1
    obtain ⟨q1, q2, q3, vals, ⟨q4, q5⟩, q6⟩ := hr.blk i ed _ he hb
    have hv := k2 (by omega)
    rcases q5 with ⟨q5, q7⟩ | ⟨g, cap, cur, e1, e2, e3, e4, e5, e6, e7⟩
    · omega
    · have hsb := slice_bounds (P := P) hr hlo hhi h0 (by omega) h2 (show n ≤ cap by omega)
      have hne : ¬ cap = l.toNat := by omega
      rw [e1, ← hn] at hv
      refine ⟨.slice (some ⟨g, l.toNat * s, none⟩) (h.toNat - l.toNat) (cap - l.toNat), ?_, ?_⟩
      · simp [execOp, ho, Instr.sliceAt, run_underlying hu, Instr.slice, hv, hsb, run_size hz hs0, hne, addr_add]
      · simp only [VR]
        exact ⟨by rfl, ed, he, k1, fun _ => ⟨g, cap - l.toNat, by rw [e1]; rfl, by omega, by rw [q2]⟩⟩
theorem OpT.slice_ow {t e s ty i n a0 b0 : Nat} {x : Operand} {lo hi : Option Operand} {l h : Int} {xs : List (List PV)} {sh : Bool} (ho : o.op = .slice t x lo hi none) (hu : P.underlying t = some (.slice e)) (hz : P.cellsOf e = s) (hs0 : s ≠ 0)
    (hx : opd G st x = some (.ow i n a0 b0)) (hb : H[i]? = some (.buf s ty xs sh)) (hn : n = xs.length) (hab : a0 < b0) (hlo : loOf G st lo = some l) (hhi : hiOf G st (b0 - a0) hi = some h) (h0 : 0 ≤ l) (h1 : l < h) (h2 : h ≤ (b0 - a0 : Nat)) : OpT P G n0 o st H (.ow i n (a0 + l.toNat) (a0 + h.toNat)) H :=
  OpT.value fun c a w β hn0 hr => by
    have g1 := hr.opd hx
    simp only [VR] at g1
    obtain ⟨_, ed, he, k1, k2⟩ := g1
    obtain ⟨q1, q2, q3, vals, ⟨q4, q5⟩, q6⟩ := hr.blk i ed _ he hb
    obtain ⟨g, cap, k3, k4, hv⟩ := k2 (by omega)
    have hsb := slice_bounds (P := P) hr hlo hhi h0 (by omega) h2 k4
    have hne : ¬ cap = l.toNat := by omega
    refine ⟨.slice (some ⟨g, a0 * ed.s + l.toNat * s, none⟩) (h.toNat - l.toNat) (cap - l.toNat), ?_, ?_⟩
    · simp [execOp, ho, Instr.sliceAt, run_underlying hu, Instr.slice, hv, hsb, run_size hz hs0, hne, addr_add]
    · simp only [VR]
      refine ⟨by rfl, ed, he, k1, fun _ => ⟨g, cap - l.toNat, k3, by omega, ?_⟩⟩
      rw [q2, show a0 + h.toNat - (a0 + l.toNat) = h.toNat - l.toNat by omega, Nat.add_mul]
theorem OpT.index_ow {t e : TypeId} {x y : Operand} {k : IntKind} {j : Int} {i s ty n a0 b0 : Nat} {xs : List (List PV)} {sh : Bool} (ho : o.op = .indexAddr t x y) (hu : P.underlying t = some (.slice e)) (hz : P.cellsOf e = s) (hs0 : s ≠ 0)
    (hx : opd G st x = some (.ow i n a0 b0)) (hb : H[i]? = some (.buf s ty xs sh)) (hn : n = xs.length) (hy : opd G st y = some (.sc (.int k j))) (h0 : 0 ≤ j) (h1 : j < (b0 - a0 : Nat)) : OpT P G n0 o st H (.ept i n (a0 + j.toNat) 0) H :=
  OpT.value fun c a w β hn0 hr => by
    have g1 := hr.opd hx
    have g2 := hr.opd hy
    simp only [VR] at g1 g2
    obtain ⟨_, ed, he, k1, k2⟩ := g1
    obtain ⟨q1, q2, q3, vals, ⟨q4, q5⟩, q6⟩ := hr.blk i ed _ he hb
    obtain ⟨g, cap, k3, k4, hv⟩ := k2 (by omega)
    refine ⟨.pointer (some ⟨g, a0 * ed.s + j.toNat * s, none⟩), ?_, ?_⟩
    · simp [execOp, ho, Instr.indexAt, asIntOf, run_underlying hu, hv, g2, run_size hz hs0, addr_add, h0, h1]
    · simp only [VR]
      exact ⟨rfl, ed, he, k1, fun _ => ⟨g, k3, by rw [q2, Nat.add_mul]; simp⟩⟩
theorem OpT.len_ow {cl : Call} {x : Operand} {T e i n a0 b0 s ty : Nat} {xs : List (List PV)} {sh : Bool} (ho : o.op = .call cl) (hcl : cl = { callee := .builtin .len, args := #[x], argTypes := #[T] }) (hT : P.underlying T = some (.slice e)) (hx : opd G st x = some (.ow i n a0 b0))
    (hb : H[i]? = some (.buf s ty xs sh)) (hn : n = xs.length) : OpT P G n0 o st H (.sc (.int .i64 (b0 - a0 : Nat))) H :=
  OpT.value fun c a w β h0 hr => by
    have h1 := hr.opd hx
    simp only [VR] at h1
    obtain ⟨_, ed, he, k1, k2⟩ := h1
    obtain ⟨q1, q2, q3, vals, ⟨q4, q5⟩, q6⟩ := hr.blk i ed _ he hb
    obtain ⟨g, cap, k3, k4, hv⟩ := k2 (by omega)
    exact ⟨.int .i64 (b0 - a0 : Nat), by simp [execOp, ho, hcl, resolve, invoke, builtin, hv, Builtin.len_, run_underlying hT, goInt], by simp only [VR]⟩
/-- A part of a slice, that is empty. -/
theorem OpT.slice_empty {t e s ty i n a0 b0 : Nat} {p : PV} {x : Operand} {lo hi : Option Operand} {l : Int} {xs : List (List PV)} {sh : Bool} (ho : o.op = .slice t x lo hi none) (hu : P.underlying t = some (.slice e)) (hz : P.cellsOf e = s) (hs0 : s ≠ 0)
    (hx : opd G st x = some p) (hp : (p = .own i n ∧ a0 = 0 ∧ b0 = n) ∨ p = .ow i n a0 b0) (hb : H[i]? = some (.buf s ty xs sh)) (hn : n = xs.length) (hlo : loOf G st lo = some l) (hhi : hiOf G st (b0 - a0) hi = some l) (h0 : 0 ≤ l) (h2 : l ≤ (b0 - a0 : Nat)) : OpT P G n0 o st H (.sl s []) H :=
  OpT.value fun c a w β hn0 hr => by
    have g1 := hr.opd hx
    have key : ∃ ad cap, (b0 - a0 : Nat) ≤ cap ∧ a.eval x = .slice ad (b0 - a0) cap := by
      rcases hp with ⟨rfl, rfl, rfl⟩ | rfl
      · simp only [VR] at g1
        obtain ⟨_, ed, he, k1, k2⟩ := g1
        obtain ⟨q1, q2, q3, vals, ⟨q4, q5⟩, q6⟩ := hr.blk i ed _ he hb
        have hv := k2 (by omega)
        rcases q5 with ⟨q5, q7⟩ | ⟨g, cap, cur, e1, e2, e3, e4, e5, e6, e7⟩
        · exact ⟨none, 0, by omega, by rw [hv, q5, hn, q7]⟩
        · exact ⟨_, cap, by omega, by rw [hv, e1, hn]; rfl⟩
      · simp only [VR] at g1
        obtain ⟨_, ed, he, k1, k2⟩ := g1
        obtain ⟨q1, q2, q3, vals, ⟨q4, q5⟩, q6⟩ := hr.blk i ed _ he hb
        obtain ⟨g, cap, k3, k4, hv⟩ := k2 (by omega)
        exact ⟨_, cap, k4, hv⟩
    obtain ⟨ad, cap, k4, hv⟩ := key
    have hsb := slice_bounds (P := P) hr hlo hhi h0 (by omega) h2 k4
    refine ⟨.slice (if cap = l.toNat then ad else ad.map (·.add (l.toNat * s))) (l.toNat - l.toNat) (cap - l.toNat), ?_, ?_⟩
    · simp [execOp, ho, Instr.sliceAt, run_underlying hu, Instr.slice, hv, hsb, run_size hz hs0]
    · simp only [VR]
      exact ⟨(if cap = l.toNat then ad else ad.map (·.add (l.toNat * s))), cap - l.toNat, by simp, by simp, .inl trivial⟩
/-- All of a buffer. -/
theorem OpT.slice_full {t e s ty i n : Nat} {x : Operand} {lo hi : Option Operand} {xs : List (List PV)} {sh : Bool} (ho : o.op = .slice t x lo hi none) (hu : P.underlying t = some (.slice e)) (hz : P.cellsOf e = s) (hs0 : s ≠ 0)
    (hx : opd G st x = some (.own i n)) (hb : H[i]? = some (.buf s ty xs sh)) (hn : n = xs.length) (hlo : loOf G st lo = some 0) (hhi : hiOf G st n hi = some (n : Int)) (h1 : 0 < n) : OpT P G n0 o st H (.own i n) H :=
  OpT.value fun c a w β hn0 hr => by
    have g1 := hr.opd hx
    refine ⟨a.eval x, ?_, g1⟩
    simp only [VR] at g1
    obtain ⟨_, ed, he, k1, k2⟩ := g1
    obtain ⟨q1, q2, q3, vals, ⟨q4, q5⟩, q6⟩ := hr.blk i ed _ he hb
    have hv := k2 (by omega)
    rcases q5 with ⟨q5, q7⟩ | ⟨g, cap, cur, e1, e2, e3, e4, e5, e6, e7⟩
    · omega
    · have hsb := slice_bounds (P := P) hr hlo hhi (by omega) (by omega) (by omega) (show n ≤ cap by omega)
      have hne : ¬ cap = 0 := by omega
      rw [e1, ← hn] at hv
      simp at hsb
      simp [execOp, ho, Instr.sliceAt, run_underlying hu, Instr.slice, hv, hsb, run_size hz hs0, hne, addr_add]
/-! ### What an operation yields, read as shared -/
def share1 (p : PV) (H : List Blk) : PV × List Blk := match p with
  | .own i n => match H[i]? with
    | some (.buf s t xs _) => if Nat.beq n xs.length then (.sl s xs, H.set i (.buf s t xs true)) else (p, H)
    | _ => (p, H)
  | .ow i n lo hi => match H[i]? with
    | some (.buf s t xs _) => if Nat.beq n xs.length && Nat.blt lo hi && Nat.ble hi n then (.sl s ((xs.take hi).drop lo), H.set i (.buf s t xs true)) else (p, H)
    | _ => (p, H)
  | _ => (p, H)
theorem share1_ok {c : Ctx} {β : List Bnd} {a : Act} {w : World} {p : PV} {u : Value} (hr : RelB G c β st H a w) (hp : VR (stab c β H w) β w p u) : RelB G c β st (share1 p H).2 a w ∧ VR (stab c β (share1 p H).2 w) β w (share1 p H).1 u := by
  have hg := hr.ghost (g := [(p, u)]) (fun x hx => by rw [List.mem_singleton.1 hx]; exact hp)
  unfold share1
  split
  · rename_i i n
    split
    · rename_i s t xs sh hb
      split
      · rename_i hn
        have hn := Nat.eq_of_beq_eq_true hn
        subst hn
        have h1 := hg.share hb
        have hil := (List.getElem?_eq_some_iff.1 hb).1
        obtain ⟨h3, h4⟩ := h1.unghost
        exact ⟨h3, h3.wk (h4 _ (List.mem_singleton.2 rfl)) (.own i s t xs true (by rw [List.getElem?_set_self hil]) (.inr rfl))⟩
      · exact ⟨hr, hp⟩
    · exact ⟨hr, hp⟩
  · rename_i i n lo hi
    split
    · rename_i s t xs sh hb
      split
      · rename_i hc
        simp only [Bool.and_eq_true] at hc
        have hn := Nat.eq_of_beq_eq_true hc.1.1
        have h2 := Nat.le_of_ble_eq_true hc.2
        have h3 := Nat.le_of_ble_eq_true (show Nat.ble (lo + 1) hi = true from hc.1.2)
        have h1 := hg.share hb
        have hil := (List.getElem?_eq_some_iff.1 hb).1
        obtain ⟨h5, h4⟩ := h1.unghost
        exact ⟨h5, h5.ow_sl (by rw [List.getElem?_set_self hil]) hn (by omega) h2 (h4 _ (List.mem_singleton.2 rfl))⟩
      · exact ⟨hr, hp⟩
    · exact ⟨hr, hp⟩
  · exact ⟨hr, hp⟩
def shareL : List PV → List Blk → List PV × List Blk
  | [], H => ([], H)
  | p :: ps, H => ((share1 p H).1 :: (shareL ps (share1 p H).2).1, (shareL ps (share1 p H).2).2)
theorem shareL_ok {a : Act} {w : World} : ∀ (ps : List PV) (us : List Value) (c : Ctx) (β : List Bnd) (st : St) (H : List Blk), RelB G c β st H a w → VRs (stab c β H w) β w ps us →
    RelB G c β st (shareL ps H).2 a w ∧ VRs (stab c β (shareL ps H).2 w) β w (shareL ps H).1 us
  | [], us, c, β, st, H, hr, hp => ⟨hr, hp⟩
  | p :: ps, [], c, β, st, H, hr, hp => by simp only [VRs] at hp
  | p :: ps, u :: us, c, β, st, H, hr, hp => by
    simp only [VRs] at hp
    have hl := VRs.length _ _ hp.2
    have hg := hr.ghost (g := ps.zip us) (fun x hx => VRs.zip _ _ hp.2 x hx)
    obtain ⟨h1, h2⟩ := share1_ok hg (p := p) (u := u) hp.1
    obtain ⟨h3, h4⟩ := h1.unghost
    have hg2 := h3.ghost (g := [((share1 p H).1, u)]) (fun x hx => by rw [List.mem_singleton.1 hx]; exact h2)
    obtain ⟨h5, h6⟩ := shareL_ok ps us _ β st _ hg2 (VRs.of_zip _ _ hl.symm h4)
    obtain ⟨h7, h8⟩ := h5.unghost
    refine ⟨h7, ?_⟩
    simp only [shareL, VRs]
    exact ⟨h8 _ (List.mem_singleton.2 rfl), h6⟩
def shareP (p : PV) (H : List Blk) : PV × List Blk := match p with
  | .tup ps => (.tup (shareL ps H).1, (shareL ps H).2)
  | _ => share1 p H
theorem shareP_ok {c : Ctx} {β : List Bnd} {a : Act} {w : World} {p : PV} {u : Value} (hr : RelB G c β st H a w) (hp : VR (stab c β H w) β w p u) : RelB G c β st (shareP p H).2 a w ∧ VR (stab c β (shareP p H).2 w) β w (shareP p H).1 u := by
  unfold shareP
  split
  · simp only [VR] at hp ⊢
    obtain ⟨us, h1, h2⟩ := hp
    obtain ⟨h3, h4⟩ := shareL_ok _ _ c β st H hr h2
    exact ⟨h3, us, h1, h4⟩
  · exact share1_ok hr hp
theorem OpW.shared {p : PV} {H' : List Blk} (h : OpW P G n0 o st H p H') : OpW P G n0 o st H (shareP p H').1 (shareP p H').2 := by
  intro c a w β h0 hr
  refine wpv_mono (h c a w β h0 hr) fun v w' ⟨β', h1, h2⟩ => ?_
  obtain ⟨h3, h4⟩ := shareP_ok h1 h2
  exact ⟨β', h3, h4⟩
/-! ### Rows written in a buffer -/
theorem flat_take {s : Nat} : ∀ (xs : List (List PV)) (k : Nat), (∀ x ∈ xs, x.length = s) → (xs.take k).flatten = xs.flatten.take (k * s)
  | [], k, _ => by simp
  | x :: xs, 0, _ => by simp
  | x :: xs, k + 1, h => by
    have hx : x.length = s := h x (by simp)
    simp only [List.take_succ_cons, List.flatten_cons]
    rw [flat_take xs k fun y hy => h y (by simp [hy]), show (k + 1) * s = x.length + k * s by rw [hx, Nat.succ_mul]; omega, List.take_length_add_append]
theorem flat_drop {s : Nat} : ∀ (xs : List (List PV)) (k : Nat), (∀ x ∈ xs, x.length = s) → (xs.drop k).flatten = xs.flatten.drop (k * s)
  | [], k, _ => by simp
  | x :: xs, 0, _ => by simp
  | x :: xs, k + 1, h => by
    have hx : x.length = s := h x (by simp)
    simp only [List.drop_succ_cons, List.flatten_cons]
    rw [flat_drop xs k fun y hy => h y (by simp [hy]), show (k + 1) * s = x.length + k * s by rw [hx, Nat.succ_mul]; omega, List.drop_length_add_append]
theorem RelB.setRows {c : Ctx} {β : List Bnd} {a : Act} {w : World} (hr : RelB G c β st H a w) {i s ty lo : Nat} {xs ys : List (List PV)} {ed : Bnd} (he : β[i]? = some ed) (hb : H[i]? = some (.buf s ty xs false)) (hl : lo + ys.length ≤ xs.length) (hys : ∀ y ∈ ys, y.length = s)
    {us : List Value} (hus : VRs (stab c β H w) [] w ys.flatten us) (h1 : ∀ v ∈ us, v.oneCell' = true) {g : Nat} (hg : ed.v.ownBlock = some g) :
    ∃ w', (storeCells ⟨g, lo * s, none⟩ us 0).run P w = .ok () w' ∧ RelB G c β st (H.set i (.buf s ty (xs.take lo ++ ys ++ xs.drop (lo + ys.length)) false)) a w' := by
  obtain ⟨q1, q2, q3, vals, ⟨q4, q5⟩, q6⟩ := hr.blk i ed _ he hb
  rcases q5 with ⟨q5, q7⟩ | ⟨g', cap, cur, e1, e2, e3, e4, e5, e6, e7⟩
  · rw [q5] at hg; simp [Value.ownBlock] at hg
  · rw [e1] at hg
    simp [Value.ownBlock] at hg
    subst hg
    have hul : us.length = ys.length * s := by rw [VRs.length _ _ hus, flat_length ys hys]
    have hls : lo * s + us.length ≤ xs.length * s := by rw [hul, ← Nat.add_mul]; exact Nat.mul_le_mul_right s hl
    have hcurs : xs.length * s ≤ cur.size := by rw [e6]; exact Nat.mul_le_mul_right s e4
    have hrun := run_storeCells_at P g' (lo * s) ty us 0 cur w e3 (by omega) h1
    refine ⟨_, hrun, ?_⟩
    let vals' := vals.take (lo * s) ++ us ++ vals.drop (lo * s + us.length)
    have hvl : vals.length = xs.length * s := q4
    have hlen' : (xs.take lo ++ ys ++ xs.drop (lo + ys.length)).length = xs.length := by simp only [List.length_append, List.length_take, List.length_drop]; omega
    have hrow := setRow_heap w g' cur (cur.toList.take (lo * s + 0) ++ us ++ cur.toList.drop (lo * s + 0 + us.length)).toArray ty (0, 0) e3
    have hrb := hr.rebuf he hb (xs' := xs.take lo ++ ys ++ xs.drop (lo + ys.length)) (w' := w.setRow g' (cur.toList.take (lo * s + 0) ++ us ++ cur.toList.drop (lo * s + 0 + us.length)).toArray) (v' := ed.v) (vals := vals')
      rfl rfl rfl (by rw [size_setRow]; exact Nat.le_refl _) (fun b hb' hne => ?_) (by rw [hlen']; exact Nat.le_refl _) (fun _ => rfl) (fun hsh => by cases hsh) ?_ (fun g hg => .inl hg) (fun x hx' => ?_) (fun S' hx' => ?_)
    · obtain ⟨r1, r2, r3⟩ := hrb
      have hset : β.set i ⟨ed.b, ed.v, (xs.take lo ++ ys ++ xs.drop (lo + ys.length)).length, s⟩ = β := by
        rw [hlen', ← q1, ← q2]
        refine List.ext_getElem? fun j => ?_
        by_cases hji : j = i
        · subst hji; rw [List.getElem?_set_self (List.getElem?_eq_some_iff.1 he).1, he]
        · rw [List.getElem?_set_ne (Ne.symm hji)]
      rw [hset] at r1
      exact r1
    · have : b ≠ g' := fun eq => hne (by rw [e1, eq]; rfl)
      simp only [World.setRow, Array.getElem?_modify]
      rw [if_neg (Ne.symm this)]
    · refine ⟨by simp only [hlen', vals', List.length_append, List.length_take, List.length_drop]; omega, .inr ⟨g', cap, _, by rw [e1, hlen'], e2, hrow, by rw [hlen']; exact e4, e5, ?_, ?_⟩⟩
      · simp only [List.size_toArray, List.length_append, List.length_take, List.length_drop, Array.length_toList, Nat.add_zero]; omega
      · simp only [hlen', vals', Nat.add_zero]
        have hv2 : vals = cur.toList.take (xs.length * s) := e7.symm
        rw [hv2, List.take_take, Nat.min_eq_left (by omega : lo * s ≤ xs.length * s), List.drop_take, List.take_append, List.take_of_length_le (by simp only [List.length_append, List.length_take, Array.length_toList]; omega)]
        congr 1
        congr 1
        simp only [List.length_append, List.length_take, Array.length_toList]
        omega
    · rcases List.mem_append.1 hx' with h3 | h3
      · rcases List.mem_append.1 h3 with h3 | h3
        · exact q3 x (List.mem_of_mem_take h3)
        · exact hys x h3
      · exact q3 x (List.mem_of_mem_drop h3)
    · have hfl : (xs.take lo ++ ys ++ xs.drop (lo + ys.length)).flatten = xs.flatten.take (lo * s) ++ ys.flatten ++ xs.flatten.drop (lo * s + us.length) := by
        rw [List.flatten_append, List.flatten_append, flat_take xs lo q3, flat_drop xs _ q3, hul, Nat.add_mul]
      rw [hfl]
      have h4 := VRs.ext_all hx' (BExt.refl (fun _ => true) ([] : List Bnd)) q6
      have h5 := VRs.ext_all hx' (BExt.refl (fun _ => true) ([] : List Bnd)) hus
      exact VRs.append _ _ _ _ (VRs.append _ _ _ _ (VRs.take _ _ _ h4) h5) (VRs.drop _ _ _ h4)
/-- Where an owned slice, or a view, lies. -/
theorem own_place {c : Ctx} {β : List Bnd} {a : Act} {w : World} (hr : RelB G c β st H a w) {p : PV} {u : Value} {i n a0 b0 s t : Nat} {xs : List (List PV)} {sh : Bool} (hb : H[i]? = some (.buf s t xs sh)) (hn : n = xs.length)
    (hp : (p = .own i n ∧ a0 = 0 ∧ b0 = n ∧ 0 < n) ∨ (p = .ow i n a0 b0 ∧ a0 < b0)) (hv : VR (stab c β H w) β w p u) : ∃ ed g cap, β[i]? = some ed ∧ ed.v.ownBlock = some g ∧ (b0 - a0) ≤ cap ∧ u = .slice (some ⟨g, a0 * s, none⟩) (b0 - a0) cap := by
  rcases hp with ⟨rfl, rfl, rfl, h0⟩ | ⟨rfl, h0⟩
  · simp only [VR] at hv
    obtain ⟨_, ed, he, k1, k2⟩ := hv
    obtain ⟨q1, q2, q3, vals, ⟨q4, q5⟩, q6⟩ := hr.blk i ed _ he hb
    have hv := k2 (by omega)
    rcases q5 with ⟨q5, q7⟩ | ⟨g, cap, cur, e1, e2, e3, e4, e5, e6, e7⟩
    · omega
    · exact ⟨ed, g, cap, he, by rw [e1]; rfl, by omega, by rw [hv, e1, ← hn]; simp⟩
  · simp only [VR] at hv
    obtain ⟨_, ed, he, k1, k2⟩ := hv
    obtain ⟨q1, q2, q3, vals, ⟨q4, q5⟩, q6⟩ := hr.blk i ed _ he hb
    obtain ⟨g, cap, k3, k4, hv⟩ := k2 (by omega)
    exact ⟨ed, g, cap, he, k3, k4, by rw [hv, q2]⟩
theorem OpW.clear {cl : Call} {x : Operand} {T e i n a0 b0 s ty : Nat} {xs : List (List PV)} {p : PV} {ti : TypeInfo} {z : Value} (ho : o.op = .call cl) (hcl : cl = { callee := .builtin .clear, args := #[x], argTypes := #[T] }) (hT : P.underlying T = some (.slice e)) (hti : P.info? e = some ti) (hz : ti.zero = some z)
    (hzs : z.cells.size = s) (hone : (Builtin.zeroCells z.cells (b0 - a0)).toList.all Value.oneCell' = true) (hx : opd G st x = some p) (hb : H[i]? = some (.buf s ty xs false)) (hn : n = xs.length) (hbn : b0 ≤ n) (hp : (p = .own i n ∧ a0 = 0 ∧ b0 = n ∧ 0 < n) ∨ (p = .ow i n a0 b0 ∧ a0 < b0)) :
    OpW P G n0 o st H (.sc (.tuple #[])) (H.set i (.buf s ty (xs.take a0 ++ rowsOf s (b0 - a0) ((Builtin.zeroCells z.cells (b0 - a0)).toList.map .sc) ++ xs.drop b0) false)) := by
  intro c a w β h0 hr
  obtain ⟨ed, g, cap, he, hg, _, hv⟩ := own_place hr hb hn hp (hr.opd hx)
  have hab : a0 < b0 := by rcases hp with ⟨_, rfl, rfl, h⟩ | ⟨_, h⟩ <;> omega
  have hzl : (Builtin.zeroCells z.cells (b0 - a0)).toList.length = (b0 - a0) * s := by rw [Array.length_toList, size_zeroCells, hzs]
  obtain ⟨r1, r2, r3⟩ := rowsOf_spec s (b0 - a0) ((Builtin.zeroCells z.cells (b0 - a0)).toList.map .sc) (by rw [List.length_map, hzl])
  obtain ⟨w', h1, h2⟩ := hr.setRows (P := P) he hb (lo := a0) (ys := rowsOf s (b0 - a0) ((Builtin.zeroCells z.cells (b0 - a0)).toList.map .sc)) (by rw [r2]; omega) r3 (us := (Builtin.zeroCells z.cells (b0 - a0)).toList) (by rw [r1]; exact VRs.scs _) (fun v hv => List.all_eq_true.1 hone v hv) hg
  have hzv : ∀ w : World, (zeroValue e).run P w = .ok z w := fun w => by simp [zeroValue, typeInfo, hti, hz]
  have hex : (execOp a.eval o).run P w = .ok (.value (.tuple #[])) w' := by
    obtain ⟨m, hm⟩ : ∃ m, b0 - a0 = m + 1 := ⟨b0 - a0 - 1, by omega⟩
    rw [hm] at hv h1
    simp [execOp, ho, hcl, resolve, invoke, builtin, hv, Builtin.clear_, run_underlying hT, hzv, h1]
  simp only [wpv, hex]
  rw [r2, show a0 + (b0 - a0) = b0 by omega] at h2
  exact ⟨β, h2, by simp only [VR]⟩
theorem OpW.copy {cl : Call} {x y : Operand} {T U e i n a0 b0 s ty : Nat} {xs ys : List (List PV)} {p q : PV} (ho : o.op = .call cl) (hcl : cl = { callee := .builtin .copy, args := #[x, y], argTypes := #[T, U] }) (hT : P.underlying T = some (.slice e)) (hz : P.cellsOf e = s) (hs0 : s ≠ 0)
    (hx : opd G st x = some p) (hb : H[i]? = some (.buf s ty xs false)) (hn : n = xs.length) (hbn : b0 ≤ n) (hp : (p = .own i n ∧ a0 = 0 ∧ b0 = n ∧ 0 < n) ∨ (p = .ow i n a0 b0 ∧ a0 < b0)) (hy : opd G st y = some q) (hq : Src H s q ys) (hne : ys ≠ []) (h1 : (ys.flatten.all PV.one) = true) :
    OpW P G n0 o st H (.sc (.int .i64 (min ys.length (b0 - a0) : Nat))) (H.set i (.buf s ty (xs.take a0 ++ ys.take (min ys.length (b0 - a0)) ++ xs.drop (a0 + min ys.length (b0 - a0))) false)) := by
  intro c a w β h0 hr
  obtain ⟨ed, g, cap, he, hg, _, hv⟩ := own_place hr hb hn hp (hr.opd hx)
  have hab : a0 < b0 := by rcases hp with ⟨_, rfl, rfl, h⟩ | ⟨_, h⟩ <;> omega
  rcases src_cells hr hq (hr.opd hy) with ⟨hy0, _⟩ | ⟨b, off, cap', vals, hya, k1, k2, k3⟩
  · exact absurd hy0 hne
  · have hm : (ys.take (min ys.length (b0 - a0))).length = min ys.length (b0 - a0) := by rw [List.length_take]; omega
    have hfl : (ys.take (min ys.length (b0 - a0))).flatten = ys.flatten.take (min ys.length (b0 - a0) * s) := flat_take ys _ k2
    have hvl : vals.length = ys.length * s := by rw [VRs.length _ _ k1, flat_length ys k2]
    have hone : ∀ v ∈ vals.take (min ys.length (b0 - a0) * s), v.oneCell' = true := fun v hv => VRs.one h1 k1 v (List.mem_of_mem_take hv)
    obtain ⟨w', g1, g2⟩ := hr.setRows (P := P) he hb (lo := a0) (ys := ys.take (min ys.length (b0 - a0))) (by rw [hm]; omega) (fun y hy => k2 y (List.mem_of_mem_take hy)) (us := vals.take (min ys.length (b0 - a0) * s)) (by rw [hfl]; exact VRs.take _ _ _ k1) hone hg
    have hms : min ys.length (b0 - a0) * s ≤ vals.length := by rw [hvl]; exact Nat.mul_le_mul_right s (Nat.min_le_left _ _)
    have hld : (loadCells ⟨b, off, none⟩ (min ys.length (b0 - a0) * s)).run P w = .ok (vals.take (min ys.length (b0 - a0) * s)).toArray w := by
      have := run_loadCells_list (P := P) w ⟨b, off, none⟩ (vals.take (min ys.length (b0 - a0) * s)) (fun j v hj => by
        rw [List.getElem?_take] at hj
        split at hj
        · exact k3 j v hj
        · cases hj)
      rwa [List.length_take, Nat.min_eq_left hms] at this
    have hex : (execOp a.eval o).run P w = .ok (.value (.int .i64 (min ys.length (b0 - a0) : Nat))) w' := by
      have hmin : Nat.min ys.length (b0 - a0) = min ys.length (b0 - a0) := rfl
      simp [execOp, ho, hcl, resolve, invoke, builtin, hv, hya, Builtin.copy_, run_underlying hT, Builtin.lenOf, Builtin.firstCells, run_size hz hs0, hmin, hld, g1, goInt]
    simp only [wpv, hex]
    rw [hm] at g2
    exact ⟨β, g2, by simp only [VR]⟩
theorem OpT.makeSlice {t e : TypeId} {x y : Operand} {kl kc : IntKind} {l m : Int} {ti : TypeInfo} {z : Value} (ho : o.op = .makeSlice t x y) (hu : P.underlying t = some (.slice e)) (hti : P.info? e = some ti) (hz : ti.zero = some z) (hx : opd G st x = some (.sc (.int kl l))) (hy : opd G st y = some (.sc (.int kc m)))
    (h0 : 0 ≤ l) (hlm : l ≤ m) (hbytes : (ti.bytes : Int) * m ≤ 281474976710656) (h63 : m.toNat ≤ maxLen) :
    OpT P G n0 o st H (.own H.length l.toNat) (H ++ [.buf ti.size e (rowsOf ti.size l.toNat (((madeCells z.cells (m.toNat * ti.size)).toList.take (l.toNat * ti.size)).map .sc)) false]) := by
  intro c a w β hn0 hr
  have g1 := hr.opd hx
  have g2 := hr.opd hy
  simp only [VR] at g1 g2
  have hrun := run_make (P := P) w t e ti z hu hti hz kl kc l m h0 hlm hbytes (by simp [maxLen] at h63; omega)
  have hsz : (madeCells z.cells (m.toNat * ti.size)).size = m.toNat * ti.size := size_madeCells _ _
  have hle : l.toNat * ti.size ≤ m.toNat * ti.size := Nat.mul_le_mul_right _ (by omega)
  have hlen : (((madeCells z.cells (m.toNat * ti.size)).toList.take (l.toNat * ti.size)).map PV.sc).length = l.toNat * ti.size := by
    rw [List.length_map, List.length_take, Array.length_toList, hsz, Nat.min_eq_left hle]
  obtain ⟨r1, r2, r3⟩ := rowsOf_spec ti.size l.toNat _ hlen
  obtain ⟨k1, k2⟩ := hr.newbuf (s := ti.size) (t := e) (n := l.toNat) (cap := m.toNat) (cs := madeCells z.cells (m.toNat * ti.size)) (xs := rowsOf ti.size l.toNat (((madeCells z.cells (m.toNat * ti.size)).toList.take (l.toNat * ti.size)).map .sc)) hsz (by omega) h63 r2 r3 (by rw [r1]; exact VRs.scs _)
  have hex : (execOp a.eval o).run P w = .ok (.value (.slice (some ⟨w.heap.size, 0, none⟩) l.toNat m.toNat)) (w.alloc (.cells (madeCells z.cells (m.toNat * ti.size)) e)) := by
    simp [execOp, ho, g1, g2, hrun]
  simp only [wpv, hex]
  refine ⟨_, k1, ?_, BExt.app _ _, k2⟩
  simp only [VR]
  exact ⟨rfl, ⟨0, .slice (some ⟨w.heap.size, 0, none⟩) l.toNat m.toNat, l.toNat, ti.size⟩, by rw [← hr.len]; simp, Nat.le_refl _, fun _ => rfl⟩
theorem OpT.sliceArr_empty {t e : TypeId} {n : Nat} {x : Operand} {lo hi : Option Operand} {l : Int} {i off : Nat} (ho : o.op = .slice t x lo hi none) (hu : P.underlying t = some (.array n e)) (hz : P.cellsOf e ≠ 0)
    (hx : opd G st x = some (.ptr i off)) (hlo : loOf G st lo = some l) (hhi : hiOf G st n hi = some l) (h0 : 0 ≤ l) (h2 : l ≤ n) : OpT P G n0 o st H (.sl (P.cellsOf e) []) H :=
  OpT.value fun c a w β hn hr => by
    have g0 := hr.opd hx
    simp only [VR] at g0
    obtain ⟨ed, g1, g2⟩ := g0
    have hlv := lo_eval hr hlo
    have hhv := hi_eval hr hhi
    have hsb : (Instr.sliceBounds false n n (lo.map a.eval) (hi.map a.eval) none).run P w = .ok (l.toNat, l.toNat, n) w := by
      cases lo with
      | none =>
        simp only [loOf, Option.some.injEq] at hlo
        subst hlo
        cases hi with
        | none =>
          simp only [hiOf, Option.some.injEq] at hhi
          have : n = 0 := by omega
          subst this
          simp [Instr.sliceBounds]
        | some y =>
          obtain ⟨k, hy⟩ := hhv y rfl
          simp [Instr.sliceBounds, hy, Instr.sliceBound, asIntOf]
      | some x' =>
        obtain ⟨k', hx''⟩ := hlv x' rfl
        cases hi with
        | none =>
          simp only [hiOf, Option.some.injEq] at hhi
          subst hhi
          simp [Instr.sliceBounds, hx'', Instr.sliceBound, asIntOf]
        | some y =>
          obtain ⟨k, hy⟩ := hhv y rfl
          simp [Instr.sliceBounds, hx'', hy, Instr.sliceBound, asIntOf, h0, h2]
          omega
    by_cases hne : n = l.toNat
    · refine ⟨.slice (some ⟨ed.b, off, none⟩) (l.toNat - l.toNat) (n - l.toNat), ?_, ?_⟩
      · simp [execOp, ho, Instr.sliceAt, run_underlying hu, g2, Instr.sureAddr, hsb, run_size rfl hz, ← hne]
      · simp only [VR]
        exact ⟨_, n - l.toNat, by simp; rfl, by simp, .inl trivial⟩
    · refine ⟨.slice (some ⟨ed.b, off + l.toNat * P.cellsOf e, none⟩) (l.toNat - l.toNat) (n - l.toNat), ?_, ?_⟩
      · simp [execOp, ho, Instr.sliceAt, run_underlying hu, g2, Instr.sureAddr, hsb, run_size rfl hz, hne, addr_add]
      · simp only [VR]
        exact ⟨_, n - l.toNat, by simp; rfl, by simp, .inl trivial⟩
end
end Go.AM

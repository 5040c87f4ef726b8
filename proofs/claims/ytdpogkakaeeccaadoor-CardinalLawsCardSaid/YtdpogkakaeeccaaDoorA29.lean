/- Calls that hand over the elements of a buffer as cells; elements of a view of cells. No condition. -/
import Derived.Test.YtdpogkakaeeccaaDoorA28
namespace Go.AM
section
variable {P : Program} {G : Glob} {c : Ctx} {β : List Bnd} {st : St} {H : List Blk} {a : Act} {w : World} {n0 nt : Nat} {o : Oper}

theorem VR.closed {S S' : Nat → Nat → Prop} {w' : World} {β' : List Bnd} (hx : Ext S w S' w') {p : PV} {u : Value} (hp : p.ids (fun _ => false) = true) (h : VR S β w p u) : VR S' β' w' p u :=
  VR.ext hx (q := fun _ => false) (fun i e hq _ => by cases hq) p u hp h
theorem VRs.closed {S S' : Nat → Nat → Prop} {w' : World} {β' : List Bnd} (hx : Ext S w S' w') {ps : List PV} {us : List Value} (hp : PV.idss (fun _ => false) ps = true) (h : VRs S β w ps us) : VRs S' β' w' ps us :=
  VRs.ext hx (q := fun _ => false) (fun i e hq _ => by cases hq) ps us hp h

theorem OpT.asH {p : PV} {H1 H' : List Blk} (h : OpT P G n0 o st H p H1) (e : H1 = H') : OpT P G n0 o st H p H' := by subst e; exact h
/-- The elements of a buffer as cells of a block of their own, for the time of a call. -/
theorem RelB.callB (h : RelB G c β st H a w) {i s t : Nat} {xs ys : List (List PV)} {e : Bnd} (he : β[i]? = some e) (hb : H[i]? = some (.buf s t xs false)) (hne : xs ≠ []) (hlen : ys.length = xs.length) (hys : ∀ y ∈ ys, y.length = s) :
    ∃ (g cap : Nat) (sp : List Value), xs.length ≤ cap ∧ e.v = .slice (some ⟨g, 0, none⟩) xs.length cap ∧ InOk G (stab c β H w) [⟨g, undef, 0, 0⟩] [.cells (xs.flatten ++ sp.map .sc)] w ∧
      ∀ γ w', OutOk (stab c β H w) [⟨g, undef, 0, 0⟩] γ [.cells (ys.flatten ++ sp.map .sc)] w w' →
        γ = [] ∧ RelB G c (β.set i ⟨e.b, e.v, ys.length, s⟩) st (H.set i (.buf s t ys false)) a w' ∧
        Ext (stab c β H w) w (stab c (β.set i ⟨e.b, e.v, ys.length, s⟩) (H.set i (.buf s t ys false)) w') w' ∧ BExt (fun _ => true) β (β.set i ⟨e.b, e.v, ys.length, s⟩) ∧
        Ext (stab1 (stab c β H w) γ w w') w' (stab c (β.set i ⟨e.b, e.v, ys.length, s⟩) (H.set i (.buf s t ys false)) w') w' := by
  obtain ⟨q1, q2, q3, vals0, ⟨q4, q4'⟩, q5⟩ := h.blk i e _ he hb
  rcases q4' with ⟨_, q6⟩ | ⟨g, cap, cur, e1, e2, e3, e4, e5, e6, e7⟩
  · exact absurd (List.eq_nil_of_length_eq_zero q6) hne
  have hg : e.v.ownBlock = some g := by rw [e1]; rfl
  have hn0 : c.β0.length ≤ i := by
    rcases Nat.lt_or_ge i c.β0.length with hlt | hge
    · obtain ⟨cs, hc⟩ := h.cel i hlt
      rw [hb] at hc; cases hc
    · exact hge
  obtain ⟨hg0, hgl⟩ := h.loc i e _ g hn0 he hb hg
  have hgs : ∀ b hi, stab c β H w b hi → g ≠ b := fun b hi hs => by
    rcases hs with hs | ⟨_, _, h3⟩
    · have := (h.ok.old b hi hs).1; omega
    · intro hgb
      have := (h3 i e _ he hb (by rw [hg, hgb])).1
      cases this
  have hfl : xs.flatten.length = xs.length * s := flat_length xs q3
  have hfy : ys.flatten.length = ys.length * s := flat_length ys hys
  let sp := cur.toList.drop (xs.length * s)
  have hcur : cur.toList = vals0 ++ sp := by rw [← e7]; exact (List.take_append_drop _ _).symm
  have hidx : PV.idss (fun _ => false) xs.flatten = true := by
    have := VRs.idsLt _ _ q5
    refine PV.idss_mono (fun j hj => ?_) _ this
    simp at hj
  refine ⟨g, cap, sp, e4, e1, ⟨⟨fun b hi hs => ⟨stab_lt h hs, fun f hf => ?_⟩, fun gl cs hgl' => ?_, fun f hf => ?_, fun b hi hi' h1 h2 => h.ok.stab h1 h2⟩, rfl, fun j f k hj hk => ?_, fun j k f f' hjk hf hf' => ?_⟩, fun γ w' ho => ?_⟩
  · simp only [List.mem_singleton] at hf; subst hf; exact hgs b hi hs
  · obtain ⟨h1, h2⟩ := h.ok.glob gl cs hgl'
    exact ⟨h.ext0.stab _ _ h1, VRow.ext h.ext0 (BExt.refl _ _) gl cs.length h1 cs 0 (by omega) (PV.idss_true cs) h2⟩
  · simp only [List.mem_singleton] at hf; subst hf; exact hgl
  · cases j with
    | succ j => simp at hj
    | zero =>
      simp at hj hk; subst hj hk
      refine ⟨_, rfl, ?_, cur, t, e3, ?_⟩
      · rw [PV.idss_append, idss_scs, Bool.and_true]
        exact PV.idss_mono (fun _ hf => by cases hf) _ hidx
      · rw [hcur]
        exact VRs.append _ _ _ _ (VRs.closed (Ext.refl _ _) hidx q5) (VRs.scs sp)
  · cases j with
    | succ j => simp at hf
    | zero => cases k with
      | zero => exact absurd rfl hjk
      | succ k => simp at hf'
  · have hγ : γ = [] := by
      have := ho.len
      simp at this
      exact this
    subst hγ
    obtain ⟨cs, hcs, hid, vs, t', k2, k3⟩ := ho.blk 0 ⟨g, undef, 0, 0⟩ _ rfl rfl
    cases hcs
    obtain ⟨vs1, k4⟩ := ho.frm.typ g cur t e3
    rw [k2] at k4
    cases k4
    have hvl := VRs.length _ _ k3
    have k5 := VRs.take ys.flatten.length _ _ k3
    have k6 := VRs.drop ys.flatten.length _ _ k3
    rw [List.take_left] at k5
    rw [List.drop_left] at k6
    have hspl : sp.length = cap * s - xs.length * s := by simp only [sp, List.length_drop, Array.length_toList, e6]
    have hmul : xs.length * s ≤ cap * s := Nat.mul_le_mul_right s e4
    have hvsz : vs.size = cap * s := by
      simp only [List.length_append, List.length_map, Array.length_toList] at hvl
      rw [hvl, hfy, hspl, hlen]; omega
    have hidy : PV.idss (fun _ => false) ys.flatten = true := by
      rw [PV.idss_append, Bool.and_eq_true] at hid
      refine PV.idss_mono (fun j hj => ?_) _ hid.1
      simp at hj
    have hst : ∀ (β' : List Bnd) (H' : List Blk), (∀ (j : Nat) f k, β'[j]? = some f → H'[j]? = some k → (j ≠ i ∧ β[j]? = some f ∧ H[j]? = some k) ∨ (j = i ∧ f.v = e.v ∧ ∃ s' t' xs' , k = .buf s' t' xs' false)) →
        Ext (stab c β H w) w (stab c β' H' w') w' → Ext (stab1 (stab c β H w) [] w w') w' (stab c β' H' w') w' := fun β' H' hk hx => by
      refine ⟨fun b hi hs => ?_, fun _ _ _ _ _ _ h => h⟩
      rcases hs with hs | ⟨h1, h2, _⟩
      · exact hx.stab b hi hs
      · refine .inr ⟨Nat.le_trans h.frm.size h1, h2, fun j f k hj hj' => ?_⟩
        rcases hk j f k hj hj' with ⟨_, g1, g2⟩ | ⟨rfl, g1, s', t', xs', rfl⟩
        · cases k with
          | cells cs => exact fun hb' => by have := at_lt (h.blk j f _ g1 g2) (b := b) (by simp [Blk.at, hb']); omega
          | buf s' t' xs' sh => exact fun hb' => by have := at_lt (h.blk j f _ g1 g2) (b := b) hb'; omega
        · intro hb'
          rw [g1, hg] at hb'
          cases hb'; omega
    have hkey : ∀ (j : Nat) f k, (β.set i ⟨e.b, e.v, ys.length, s⟩)[j]? = some f → (H.set i (.buf s t ys false))[j]? = some k → (j ≠ i ∧ β[j]? = some f ∧ H[j]? = some k) ∨ (j = i ∧ f.v = e.v ∧ ∃ s' t' xs' , k = .buf s' t' xs' false) := fun j f k hf hk => by
      rcases get_set hf with ⟨hji, hf⟩ | ⟨rfl, rfl⟩
      · rcases get_set hk with ⟨_, hk⟩ | ⟨e, _⟩
        · exact .inl ⟨hji, hf, hk⟩
        · exact absurd e hji
      · rcases get_set hk with ⟨e, _⟩ | ⟨_, rfl⟩
        · exact absurd rfl e
        · exact .inr ⟨rfl, rfl, s, t, ys, rfl⟩
    have hre := h.rebuf' he hb (w' := w') (v' := e.v) (xs' := ys) (vals := vs.toList.take ys.flatten.length) ho.frm.os ho.frm.tape ho.frm.output ho.frm.size
      (fun b hlt hne' => ho.frm.block b hlt fun f hf => by simp only [List.mem_singleton] at hf; subst hf; exact fun hgb => hne' (by rw [hg]; exact congrArg some hgb))
      (by omega) (fun _ => rfl) (fun h => by cases h)
      ⟨by rw [List.length_take, hfy, show vs.toList.length = cap * s by simpa using hvsz, hlen]; omega, .inr ⟨g, cap, vs, by rw [hlen]; exact e1, e2, k2, by omega, e5, hvsz, by rw [hfy]⟩⟩
      (fun g' hg' => .inl hg') hys
      (fun hx => VRs.closed (hst _ _ hkey hx) hidy k5)
    exact ⟨rfl, hre.1, hre.2.1, hre.2.2, hst _ _ hkey hre.2.1⟩

/-- A call of a function that turns the elements of a buffer. -/
theorem OpT.callB {cl : Call} {x : Operand} {f : FuncId} {fn : Func} {i s t : Nat} {xs ys : List (List PV)} {rest : List PV} {p : PV}
    (ho : o.op = .call cl) (hc : cl.callee = .value x) (hx : opd G st x = some (.sc (.func (.func f) #[] #[])))
    (hfn : P.funcs[f]? = some fn) (hbody : fn.body.isNone = false) (hname : (fn.name == "runtime.NumGoroutine") = false)
    (hargs : cl.args.toList.map (opd G st) = (.own i xs.length :: rest).map some) (hrest : PV.idss (fun _ => false) rest = true) (hb : H[i]? = some (.buf s t xs false)) (hne : xs ≠ [])
    (hlen : ys.length = xs.length) (hys : ∀ y ∈ ys, y.length = s)
    (hcall : ∀ sp : List Value, ACall P G f (.vw 0 0 xs.length :: rest) [.cells (xs.flatten ++ sp.map .sc)] (fun q K => q = p ∧ K = [.cells (ys.flatten ++ sp.map .sc)])) (hp : p.ids (fun _ => false) = true) :
    OpT P G n0 o st H p (H.set i (.buf s t ys false)) := by
  intro c a w β h0 hr
  have hv := VRs.of_opds hr cl.args.toList _ hargs
  have hlv := VRs.length _ _ hv
  obtain ⟨u, us, hus⟩ : ∃ u us, cl.args.toList.map a.eval = u :: us := by
    cases hq : cl.args.toList.map a.eval with
    | nil => rw [hq] at hlv; simp at hlv
    | cons u us => exact ⟨u, us, rfl⟩
  rw [hus] at hv
  simp only [VRs] at hv
  obtain ⟨hv1, hv2⟩ := hv
  simp only [VR] at hv1
  obtain ⟨_, e, he, _, hve⟩ := hv1
  obtain ⟨q1, _⟩ := hr.blk i e _ he hb
  have hve := hve q1.symm
  obtain ⟨g, cap, sp, k1, k2, k3, k4⟩ := hr.callB he hb hne hlen hys
  have hxe := hr.opd hx
  simp only [VR] at hxe
  have hex : (execOp a.eval o).run P w = .ok (.enter f (cl.args.map a.eval)) w := by
    have hn : ¬ fn.name = "runtime.NumGoroutine" := by simpa using hname
    have hb : ¬ fn.body = none := by cases hq : fn.body <;> simp [hq] at hbody ⊢
    simp [execOp, ho, resolve, hc, hxe, Deferred.ofValue, invoke, callFunc, hfn, hn, hb]
  simp only [wpv, hex]
  refine (hcall sp _ _ w (cl.args.map a.eval) k3 ?_).mono ?_
  · have : (cl.args.map a.eval).toList = u :: us := by simpa using hus
    rw [this]
    simp only [VRs]
    refine ⟨?_, VRs.closed (Ext.refl _ _) hrest hv2⟩
    simp only [VR]
    exact ⟨_, rfl, cap, _, k1, by rw [hve, k2], fun _ => rfl⟩
  · rintro ex w' ⟨v, q, K, γ, rfl, ⟨rfl, rfl⟩, hout, hvr⟩
    obtain ⟨rfl, g1, g2, g3, g4⟩ := k4 γ w' hout
    exact ⟨v, rfl, _, g1, VR.closed g4 hp hvr, g3, g2⟩

variable {α : Type}
/-- The cells of elements, and what lies behind them. -/
def cel (row : α → List PV) (l : List α) (sp : List Value) : List PV := (l.map row).flatten ++ sp.map .sc

def Hnd.callB {f : FuncId} {fn : Func} (row : α → List PV) {s : Nat} {l l' : List α} {rest : List PV} {p1 : PV} (hfn : P.funcs[f]? = some fn) (hrow : ∀ z, (row z).length = s) (hne : l ≠ []) (hlen : l'.length = l.length)
    (hc : ∀ sp, ACall P G f (.vw 0 0 l.length :: rest) [.cells (cel row l sp)] (fun q K => q = p1 ∧ K = [.cells (cel row l' sp)])) : Hnd P G where
  run o st H := match o.op with
    | .call cl => match cl.callee with
      | .value x => match opd G st x, opdL G st cl.args.toList with
        | some px, some (.own i n :: rest') => match H[i]? with
          | some (.buf s' t xs false) =>
            if fn.body.isNone = false ∧ (fn.name == "runtime.NumGoroutine") = false ∧ PV.idss (fun _ => false) rest = true ∧ p1.ids (fun _ => false) = true ∧ Nat.beq s s' = true then
              some ⟨p1, H.set i (.buf s' t (l'.map row) false), [.p px, .n n, .ps rest', .rs xs], [.p (.sc (.func (.func f) #[] #[])), .n l.length, .ps rest, .rs (l.map row)]⟩
            else none
          | _ => none
        | _, _ => none
      | _ => none
    | _ => none
  sound := by
    intro n0 o st H x h he
    suffices hT : OpT P G n0 o st H x.p x.H from hT.weak
    split at h
    · rename_i cl ho
      split at h
      · rename_i x hcl
        split at h
        · rename_i px i n rest' hx hps
          split at h
          · rename_i s' t xs hb
            split at h
            · rename_i hcond
              obtain ⟨c1, c2, c3, c4, c5⟩ := hcond
              simp only [Option.some.injEq] at h
              subst h
              simp only [List.cons.injEq, T.p.injEq, T.ps.injEq, T.n.injEq, T.rs.injEq, and_true] at he
              obtain ⟨rfl, rfl, rfl, rfl⟩ := he
              have c5 := Nat.eq_of_beq_eq_true c5
              subst c5
              have hl1 : (l.map row).length = l.length := List.length_map ..
              refine OpT.callB (xs := l.map row) (ys := l'.map row) ho hcl hx hfn c1 c2 (by rw [hl1]; exact opdL_spec _ _ hps) c3 hb (by simpa using hne) (by simpa using hlen) ?_ (fun sp => ?_) c4
              · intro y hy
                obtain ⟨z, _, rfl⟩ := List.mem_map.1 hy
                exact hrow z
              · rw [hl1]; exact hc sp
            · cases h
          · cases h
        · cases h
      · cases h
    · cases h

/-- An element of a view of n elements, or of a part of one that begins at lo. -/
def idxn (n : Nat) (l : List α) (j : Int) : Option α := if 0 ≤ j ∧ j < (n : Int) then idx l j else none
theorem idxn_lt {n : Nat} {l : List α} {j : Int} {z : α} (h : idxn n l j = some z) : 0 ≤ j ∧ j < (n : Int) := by
  unfold idxn at h; split at h
  · assumption
  · cases h
theorem idxn_idx {n : Nat} {l : List α} {j : Int} {z : α} (h : idxn n l j = some z) : idx l j = some z := by
  unfold idxn at h; split at h
  · exact h
  · cases h
def idxv (n : Nat) (l : List α) (lo j : Int) : Option α := if 0 ≤ j ∧ j < (n : Int) then idx l (lo + j) else none
theorem idxv_lt {n : Nat} {l : List α} {lo j : Int} {z : α} (h : idxv n l lo j = some z) : 0 ≤ j ∧ j < (n : Int) := by
  unfold idxv at h; split at h
  · assumption
  · cases h
theorem idxv_idx {n : Nat} {l : List α} {lo j : Int} {z : α} (h : idxv n l lo j = some z) : idx l (lo + j) = some z := by
  unfold idxv at h; split at h
  · exact h
  · cases h
theorem off_add {lo j : Int} (h0 : 0 ≤ lo) (h1 : 0 ≤ j) (s : Nat) : (0 + lo.toNat * s) + j.toNat * s = (lo + j).toNat * s := by
  rw [Nat.zero_add, ← Nat.add_mul]; congr 1; omega
/-- The address of an element of a view. -/
def Hnd.idxV {n : Nat} {j : Int} (h : 0 ≤ j ∧ j < (n : Int)) : Hnd P G where
  run o st H := match o.op with
    | .indexAddr t x y => match P.underlying t, opd G st x, opd G st y with
      | some (.slice e), some (.vw i off n'), some (.sc (.int _ j')) => if Nat.beq (P.cellsOf e) 0 then none else some ⟨.ptr i (off + j.toNat * P.cellsOf e), H, [.n n', .i j'], [.n n, .i j]⟩
      | _, _, _ => none
    | _ => none
  sound := by
    intro n0 o st H x hr he
    suffices hT : OpT P G n0 o st H x.p x.H from hT.weak
    split at hr
    · rename_i t x y ho
      split at hr
      · rename_i e i off n' k j' hu hx hy
        split at hr
        · cases hr
        · rename_i hz
          simp only [Option.some.injEq] at hr; subst hr
          simp only [List.cons.injEq, T.n.injEq, T.i.injEq, and_true] at he
          obtain ⟨rfl, rfl⟩ := he
          exact OpT.index_vw ho hu (fun h0 => hz (by rw [h0]; rfl)) hx hy h.1 h.2
      · cases hr
    · cases hr

theorem flat_get {row : α → List PV} {s : Nat} (hrow : ∀ z, (row z).length = s) : ∀ {l : List α} {k : Nat} {z : α} (sp : List PV), l[k]? = some z → (((l.map row).flatten ++ sp).drop (k * s)).take s = row z ∧ (k + 1) * s ≤ ((l.map row).flatten ++ sp).length
  | [], k, z, sp, h => by simp at h
  | y :: l, 0, z, sp, h => by
    simp at h; subst h
    simp only [List.map_cons, List.flatten_cons, Nat.zero_mul, List.drop_zero, List.append_assoc]
    refine ⟨?_, by simp [hrow]⟩
    rw [← hrow y, List.take_left]
  | y :: l, k + 1, z, sp, h => by
    simp at h
    obtain ⟨h1, h2⟩ := flat_get hrow (l := l) sp h
    simp only [List.map_cons, List.flatten_cons, List.append_assoc]
    have hd : ((k + 1) * s) = (row y).length + k * s := by rw [hrow, Nat.add_mul, Nat.one_mul, Nat.add_comm]
    refine ⟨?_, ?_⟩
    · rw [hd, List.drop_append, List.drop_of_length_le (by omega), List.nil_append]
      simp only [Nat.add_sub_cancel_left]
      exact h1
    · have hd2 : (k + 1 + 1) * s = s + (k + 1) * s := by rw [Nat.add_mul (k + 1), Nat.one_mul, Nat.add_comm]
      rw [List.length_append, hrow, hd2]
      omega
theorem flat_set {row : α → List PV} {s : Nat} (hrow : ∀ z, (row z).length = s) (z' : α) : ∀ {l : List α} {k : Nat} (sp : List PV), k < l.length →
    ((l.set k z').map row).flatten ++ sp = ((l.map row).flatten ++ sp).take (k * s) ++ row z' ++ ((l.map row).flatten ++ sp).drop (k * s + s)
  | [], k, sp, h => by simp at h
  | y :: l, 0, sp, h => by
    simp only [List.set_cons_zero, List.map_cons, List.flatten_cons, Nat.zero_mul, List.take_zero, List.nil_append, Nat.zero_add, List.append_assoc]
    rw [← hrow y, List.drop_left]
  | y :: l, k + 1, sp, h => by
    simp only [List.length_cons] at h
    have ih := flat_set hrow z' (l := l) (k := k) sp (by omega)
    have hd : ((k + 1) * s) = (row y).length + k * s := by rw [hrow, Nat.add_mul, Nat.one_mul, Nat.add_comm]
    simp only [List.set_cons_succ, List.map_cons, List.flatten_cons, List.append_assoc]
    rw [ih, hd, Nat.add_assoc, List.take_length_add_append, List.drop_length_add_append]
    simp only [List.append_assoc]

/-- A part of an element of a view is read. -/
def Hnd.ldV (row : α → List PV) {s : Nat} (hrow : ∀ z, (row z).length = s) (sp : List Value) {l : List α} {j : Int} {z : α} (hz : AM.idx l j = some z) (off0 : Nat) (hoff0 : off0 = j.toNat * s) (ds : List Nat) : Hnd P G where
  run o st H := match o.op with
    | .load t x => match opd G st x with
      | some (.ptr i off) => match H[i]? with
        | some (.cells cs) => if P.cellsOf t + ds.foldl (· + ·) 0 ≤ s ∧ ds.foldl (· + ·) 0 < s then (ldPV P t ((row z).drop (ds.foldl (· + ·) 0))).map fun p => ⟨p, H, [.n off, .ps cs], [.n (ds.foldl (· + ·) off0), .ps (cel row l sp)]⟩ else none
        | _ => none
      | _ => none
    | _ => none
  sound := by
    intro n0 o st H x hr he
    suffices hT : OpT P G n0 o st H x.p x.H from hT.weak
    split at hr
    · rename_i t x ho
      split at hr
      · rename_i i off hx
        split at hr
        · rename_i cs hb
          split at hr
          · rename_i hc
            simp only [Option.map_eq_some_iff] at hr
            obtain ⟨p, hp, rfl⟩ := hr
            simp only [List.cons.injEq, T.n.injEq, T.ps.injEq, and_true] at he
            obtain ⟨rfl, rfl⟩ := he
            obtain ⟨_, _, hget⟩ := idx_spec hz
            have hfold : ∀ (ds : List Nat) (m : Nat), ds.foldl (· + ·) m = m + ds.foldl (· + ·) 0 := by
              intro ds
              induction ds with
              | nil => intro m; simp
              | cons d ds ih => intro m; simp only [List.foldl_cons]; rw [ih (m + d), ih (0 + d)]; omega
            refine OpT.load_ptr ho hx hb ?_
            rw [hfold, hoff0]
            rw [← (flat_get hrow (sp.map .sc) hget).1, List.drop_take, List.drop_drop] at hp
            exact ldPV_take (m := s - ds.foldl (· + ·) 0) (by omega) (by omega) hp
          · cases hr
        · cases hr
      · cases hr
    · cases hr
/-- A part of an element of a view is written. -/
def Hnd.stV (row : α → List PV) {s : Nat} (hrow : ∀ z, (row z).length = s) (sp : List Value) {l : List α} {j : Int} {z : α} (hz : AM.idx l j = some z) (z' : α) (off0 : Nat) (hoff0 : off0 = j.toNat * s) (ds : List Nat) : Hnd P G where
  run o st H := match o.op with
    | .store t x y => match opd G st x, opd G st y with
      | some (.ptr i off), some p => match H[i]? with
        | some (.cells cs) => if Nat.beq (P.cellsOf t) p.cells.length = true ∧ (P.info? t).isSome = true ∧ p.cells.length + ds.foldl (· + ·) 0 ≤ s ∧ p.cells.all PV.one = true ∧ PV.idss (fun j => decide (j < i)) p.cells = true then
            some ⟨.sc undef, H.set i (.cells (cel row (l.set j.toNat z') sp)), [.n off, .ps cs, .ps ((row z).take (ds.foldl (· + ·) 0) ++ p.cells ++ (row z).drop (ds.foldl (· + ·) 0 + p.cells.length))], [.n (ds.foldl (· + ·) off0), .ps (cel row l sp), .ps (row z')]⟩ else none
        | _ => none
      | _, _ => none
    | _ => none
  sound := by
    intro n0 o st H x hr he
    suffices hT : OpT P G n0 o st H x.p x.H from hT.weak
    split at hr
    · rename_i t x y ho
      split at hr
      · rename_i i off p hx hy
        split at hr
        · rename_i cs hb
          split at hr
          · rename_i hc
            obtain ⟨c1, c2, c3, c4, c5⟩ := hc
            have c1 := Nat.eq_of_beq_eq_true c1
            simp only [Option.some.injEq] at hr; subst hr
            simp only [List.cons.injEq, T.n.injEq, T.ps.injEq, and_true] at he
            obtain ⟨rfl, rfl, hz'⟩ := he
            obtain ⟨_, _, hget⟩ := idx_spec hz
            have hlt := (List.getElem?_eq_some_iff.1 hget).1
            have hfold : ∀ (ds : List Nat) (m : Nat), ds.foldl (· + ·) m = m + ds.foldl (· + ·) 0 := by
              intro ds
              induction ds with
              | nil => intro m; simp
              | cons d ds ih => intro m; simp only [List.foldl_cons]; rw [ih (m + d), ih (0 + d)]; omega
            obtain ⟨g1, g2⟩ := flat_get hrow (sp.map .sc) hget
            rw [Nat.add_mul, Nat.one_mul] at g2
            have hoff : ds.foldl (· + ·) off0 = j.toNat * s + ds.foldl (· + ·) 0 := by rw [hfold, hoff0]
            have hst := OpT.store (P := P) (G := G) (n0 := n0) ho hx hy hb c1 c2 (by rw [hoff]; unfold AM.cel; omega) c4 c5
            refine OpT.asH hst ?_
            refine congrArg (fun cs => H.set i (.cells cs)) ?_
            unfold AM.cel
            rw [flat_set hrow z' (sp.map .sc) hlt, ← hz', ← g1, hoff]
            generalize (l.map row).flatten ++ sp.map PV.sc = cs at g2
            generalize ds.foldl (· + ·) 0 = d at c3
            generalize p.cells = ps at c3
            generalize j.toNat * s = m at g2
            rw [List.take_take, List.drop_take, List.drop_drop, Nat.min_eq_left (by omega), List.take_add (i := m) (j := d)]
            have h1 : List.drop (m + d + ps.length) cs = List.take (s - (d + ps.length)) (List.drop (m + (d + ps.length)) cs) ++ List.drop (m + s) cs := by
              rw [show List.drop (m + s) cs = List.drop (s - (d + ps.length)) (List.drop (m + (d + ps.length)) cs) by rw [List.drop_drop]; congr 1; omega, List.take_append_drop, Nat.add_assoc]
            rw [h1]
            simp only [List.append_assoc]
          · cases hr
        · cases hr
      · cases hr
    · cases hr
/-- The length of a view. -/
def Hnd.lenV (n : Nat) : Hnd P G where
  run o st H := match o.op with
    | .call cl => match cl.callee, cl.args.toList, cl.argTypes.toList with
      | .builtin .len, [x], [ty] => match P.underlying ty, opd G st x with
        | some (.slice _), some (.vw _ _ n') => some ⟨.sc (.int .i64 n), H, [.n n'], [.n n]⟩
        | _, _ => none
      | _, _, _ => none
    | _ => none
  sound := by
    intro n0 o st H x hr he
    suffices hT : OpT P G n0 o st H x.p x.H from hT.weak
    split at hr
    · rename_i cl ho
      split at hr
      · rename_i x ty hc ha ht
        split at hr
        · rename_i e i off n' hu hx
          simp only [Option.some.injEq] at hr; subst hr
          simp only [List.cons.injEq, T.n.injEq, and_true] at he
          subst he
          have hcl : cl = { callee := .builtin .len, args := #[x], argTypes := #[ty] } := by
            cases cl with
            | mk callee args argTypes =>
              simp only at hc ha ht
              subst hc
              have h1 : args = #[x] := by apply Array.toList_inj.1; exact ha
              have h2 : argTypes = #[ty] := by apply Array.toList_inj.1; exact ht
              subst h1 h2
              rfl
          exact OpT.len_vw ho hcl hu hx
        · cases hr
      · cases hr
    · cases hr
end
end Go.AM

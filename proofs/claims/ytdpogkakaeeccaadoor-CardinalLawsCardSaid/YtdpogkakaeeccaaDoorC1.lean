/- slices.Clone over abstract states: a new buffer with the same elements, whatever the slice. No condition. -/
import Derived.Test.YtdpogkakaeeccaaDoorA25
namespace Go.AM
section
variable {P : Program} {G : Glob} {n0 nt : Nat} {o : Oper} {st : St} {H : List Blk} {ops : Array Oper} {Q : Exit → St → List Blk → Prop}

theorem src_addr {c : Ctx} {β : List Bnd} {a : Act} {w : World} (h : RelB G c β st H a w) {s : Nat} {q : PV} {ys : List (List PV)} {u : Value} (hs : Src H s q ys) (hu : VR (stab c β H w) β w q u) :
    ∃ ad n cap, u = .slice ad n cap ∧ (ad = none → ys = []) := by
  rcases src_cells h hs hu with ⟨rfl, ad, cap, rfl⟩ | ⟨b, off, cap, vals, rfl, _⟩
  · exact ⟨ad, 0, cap, rfl, fun _ => rfl⟩
  · exact ⟨_, _, _, rfl, fun h => by cases h⟩

/-- A slice against nil: either way, and nil only where there are no elements. -/
theorem AOps.nilTest {i : Nat} {l : List Nat} {t t' e s : Nat} {x : Operand} {q : PV} {xs : List (List PV)} (ho : ops[i]? = some o) (hop : o.op = .binOp .eql t x (.const (.slice none 0 0)) t') (hd : dstOk nt o = true) (hw : wantA ops st o = some true)
    (hu : P.underlying t = some (.slice e)) (hx : opd G st x = some q) (hs : Src H s q xs)
    (h1 : xs = [] → AOps P G n0 nt ops l Q (st.putD o.dst (.sc (.bool true))) H) (h2 : AOps P G n0 nt ops l Q (st.putD o.dst (.sc (.bool false))) H) : AOps P G n0 nt ops (i :: l) Q st H := by
  intro c a w β h0 hnt hr
  obtain ⟨ad, n, cap, hv, hnil⟩ := src_addr hr hs (hr.opd hx)
  simp only [wpOps, ho, want_of hr hw, if_true]
  have hex : (execOp a.eval o).run P w = .ok (.value (.bool ad.isNone)) w := by
    have hc : a.eval (.const (.slice none 0 0)) = .slice none 0 0 := rfl
    simp [execOp, hop, hv, hc, eqGuard, binOp, run_equal_slice_nil w t e _ _ _ hu]
  refine .inl (wp_of_wpv (K := fun v w' => v = .bool ad.isNone ∧ w' = w) (by simp only [wpv, hex, and_self]) ?_)
  rintro v w' ⟨rfl, rfl⟩
  cases ad with
  | none =>
    exact h1 (hnil rfl) c _ _ β h0 hnt (hr.put (p := .sc (.bool true)) (by simp only [VR]; rfl) o.dst (by rw [hnt]; exact dstOk_spec hd))
  | some ad =>
    exact h2 c _ _ β h0 hnt (hr.put (p := .sc (.bool false)) (by simp only [VR]; rfl) o.dst (by rw [hnt]; exact dstOk_spec hd))

/-- The code of slices.Clone: the types that it names. -/
def cloneOf : Code → Option (TypeId × TypeId × TypeId × TypeId)
  | .seq (.region _ ⟨[{ dst := some 2, op := .assign (.const (.slice none 0 0)), guard := none, .. }]⟩ false)
      (.seq (.seq (.region _ ⟨[{ dst := some 3, op := .move (.tmp 0), guard := none, .. }, { dst := some 4, op := .binOp .eql t1 (.tmp 3) (.const (.slice none 0 0)) _, guard := none, .. }]⟩ false)
          (.cond (.tmp 4) (.seq (.region _ ⟨[{ dst := some 2, op := .assign (.const (.slice none 0 0)), guard := none, .. }]⟩ false) .ret) .skip))
        (.seq (.region _ ⟨[{ dst := some 5, op := .buildSlice t2 0 ⟨[]⟩, guard := none, .. }, { dst := some 6, op := .move (.tmp 0), guard := none, .. },
            { dst := some 7, op := .call { callee := .builtin .append, args := ⟨[.tmp 5, .tmp 6]⟩, argTypes := ⟨[t3, t4]⟩ }, guard := none, .. }, { dst := some 2, op := .assign (.tmp 7), guard := none, .. }]⟩ false) .ret)) => some (t1, t2, t3, t4)
  | _ => none

theorem get_snoc_new {α : Type} (l : List α) (x : α) : (l ++ [x])[l.length]? = some x := by simp
theorem AWP.clone {code : Code} {t1 t2 t3 t4 e : TypeId} {ti : TypeInfo} {z : Value} {q : PV} {xs : List (List PV)} {rs : Array ResultVar} (hc : cloneOf code = some (t1, t2, t3, t4)) (hnt : Nat.ble 8 nt = true)
    (h1 : P.underlying t1 = some (.slice e)) (h2 : P.underlying t2 = some (.slice e)) (h3 : P.underlying t3 = some (.slice e)) (h4 : P.underlying t4 = some (.slice e)) (hti : P.info? e = some ti) (hz : ti.zero = some z)
    (hs : P.cellsOf e = ti.size) (hzs : z.cells.size = ti.size) (hz0 : ti.size ≠ 0) (hq : Src H ti.size q xs) (hone : (xs.flatten.all PV.one) = true) (hn : xs.length * ti.bytes ≤ 140737488355328) (hn2 : xs.length ≤ 140737488355328) (hrs : rs = #[.tmp 2]) :
    AWP P G H.length nt code (InQ P rs H.length (.own H.length xs.length) (H ++ [.buf ti.size e xs false])) (numb 0 [q]) H := by
  unfold cloneOf at hc
  split at hc
  · simp only [Option.some.injEq, Prod.mk.injEq] at hc
    obtain ⟨rfl, rfl, rfl, rfl⟩ := hc
    have hnt := Nat.le_of_ble_eq_true hnt
    have hd : ∀ (o : Oper) (k : Nat), o.dst = some k → k < 8 → dstOk nt o = true := fun o k h1 h2 => by unfold dstOk; rw [h1]; exact decide_eq_true (Nat.lt_of_lt_of_le h2 hnt)
    have hfin : ∀ (st : St), st.get 2 = some (.own H.length xs.length) → InQ P rs H.length (.own H.length xs.length) (H ++ [.buf ti.size e xs false]) .ret st (H ++ [.buf ti.size e xs false]) := fun st hst => by
      refine ⟨.inr rfl, by subst hrs; simp [ares, aresL, hst], H.length + 1, by omega, by simp [PV.ids], ?_⟩
      rw [List.take_of_length_le (by simp)]
    refine AWP.seq (AWP.region (l := [0]) rfl ?_)
    refine AOps.cons (p := .sc (.slice none 0 0)) (H' := H) rfl (hd _ 2 rfl (by omega)) rfl (OpT.move (.inr rfl) rfl).weak (AOps.nil ?_)
    refine AWP.seq (AWP.seq (AWP.region (l := [0, 1]) rfl ?_))
    refine AOps.cons (p := q) (H' := H) rfl (hd _ 3 rfl (by omega)) rfl (OpT.move (.inl rfl) rfl).weak ?_
    refine AOps.nilTest rfl rfl (hd _ 4 rfl (by omega)) rfl h1 rfl hq (fun hnil => AOps.nil ?_) (AOps.nil ?_)
    · refine AWP.cond (b := true) rfl (fun _ => ?_) (fun h => by cases h)
      refine AWP.seq (AWP.region (l := [0]) rfl ?_)
      refine AOps.cons (p := .sc (.slice none 0 0)) (H' := H) rfl (hd _ 2 rfl (by omega)) rfl (OpT.move (.inr rfl) rfl).weak (AOps.nil ?_)
      refine AWP.own 2 ti.size e rfl rfl rfl (AWP.ret ?_)
      subst hnil
      exact hfin _ rfl
    · refine AWP.cond (b := false) rfl (fun h => by cases h) (fun _ => AWP.skip ?_)
      refine AWP.seq (AWP.region (l := [0, 1, 2, 3]) rfl ?_)
      refine AOps.cons (p := .own H.length 0) (H' := H ++ [.buf ti.size e [] false]) rfl (hd _ 5 rfl (by omega)) rfl ?_ ?_
      · rw [← hs]
        refine (OpT.litOwn (ps := []) (out := []) rfl rfl ?_ rfl).weak
        simp [litPV, h2, hti, hz, hs, hzs, fillPV]
        omega
      refine AOps.cons (p := q) rfl (hd _ 6 rfl (by omega)) rfl (OpT.move (.inl rfl) rfl).weak ?_
      have hsrc : Src (H ++ [.buf ti.size e [] false]) ti.size q xs := by
        cases hq with
        | sl => exact .sl _
        | nil => exact .nil
        | own i t ys sh h => exact .own i t _ sh (by rw [List.getElem?_append_left (List.getElem?_eq_some_iff.1 h).1]; exact h)
        | ow i t lo hi ys sh h hl hh => exact .ow i t lo hi ys sh (by rw [List.getElem?_append_left (List.getElem?_eq_some_iff.1 h).1]; exact h) hl hh
      refine AOps.cons (p := .own H.length ([] ++ xs).length) (H' := (H ++ [Blk.buf ti.size e [] false]).set H.length (.buf ti.size e ([] ++ xs) false)) rfl (hd _ 7 rfl (by omega)) rfl ?_ ?_
      · exact (OpT.append rfl rfl h3 h4 hti hz rfl hzs rfl (get_snoc_new _ _) rfl hsrc hone (by simpa using hn) (by simpa using hn2)).weak
      refine AOps.cons (p := .own H.length xs.length) (H' := H ++ [.buf ti.size e xs false]) rfl (hd _ 2 rfl (by omega)) rfl ?_ (AOps.nil ?_)
      · have hset : (H ++ [Blk.buf ti.size e [] false]).set H.length (.buf ti.size e ([] ++ xs) false) = H ++ [.buf ti.size e xs false] := by
          rw [List.set_append_right _ _ (Nat.le_refl _)]; simp
        rw [hset]
        exact (OpT.move (.inr rfl) rfl).weak
      · exact AWP.ret (hfin _ rfl)
  · cases hc
/-- A call of slices.Clone, of known elements. -/
def clonex (P : Program) (f : Nat) (args : List PV) (H : List Blk) : Option (PV × List Blk) := match args, P.funcs[f]? with
  | [q], some fn => match fn.body with
    | some code => match cloneOf code with
      | some (t1, t2, t3, t4) => match P.underlying t1, P.underlying t2, P.underlying t3, P.underlying t4 with
        | some (.slice e), some (.slice e2), some (.slice e3), some (.slice e4) => match P.info? e with
          | some ti => match ti.zero, srcx H ti.size q, fn.results.toList with
            | some z, some xs, [.tmp 2] =>
              if Nat.beq e e2 && Nat.beq e e3 && Nat.beq e e4 && Nat.beq (P.cellsOf e) ti.size && Nat.beq z.cells.size ti.size && !(Nat.beq ti.size 0) && xs.flatten.all PV.one && Nat.ble (xs.length * ti.bytes) 140737488355328 && Nat.ble xs.length 140737488355328 && Nat.ble 8 fn.ntmps && !(fn.name == "runtime.NumGoroutine") then
                some (.own H.length xs.length, H ++ [.buf ti.size e xs false]) else none
            | _, _, _ => none
          | none => none
        | _, _, _, _ => none
      | none => none
    | none => none
  | _, _ => none
theorem clonex_ok {f : Nat} {args : List PV} {p : PV} {H' : List Blk} (h : clonex P f args H = some (p, H')) : ICall P G f args H p H' := by
  unfold clonex at h
  split at h
  · rename_i q fn hfn
    split at h
    · rename_i code hb
      split at h
      · rename_i t1 t2 t3 t4 hc
        split at h
        · rename_i e e2 e3 e4 h1 h2 h3 h4
          split at h
          · rename_i ti hti
            split at h
            · rename_i z xs hz hx hr
              split at h
              · rename_i hcond
                simp only [Bool.and_eq_true, Bool.not_eq_true'] at hcond
                obtain ⟨⟨⟨⟨⟨⟨⟨⟨⟨⟨c1, c2⟩, c3⟩, c4⟩, c5⟩, c6⟩, c7⟩, c8⟩, c9⟩, c10⟩, c11⟩ := hcond
                have c1 := Nat.eq_of_beq_eq_true c1
                have c2 := Nat.eq_of_beq_eq_true c2
                have c3 := Nat.eq_of_beq_eq_true c3
                subst c1 c2 c3
                simp only [Option.some.injEq, Prod.mk.injEq] at h
                obtain ⟨rfl, rfl⟩ := h
                exact .run fn code hfn hb c11 (by have := Nat.le_of_ble_eq_true c10; simp; omega)
                  (AWP.clone hc c10 h1 h2 h3 h4 hti hz (Nat.eq_of_beq_eq_true c4) (Nat.eq_of_beq_eq_true c5) (fun h0 => by rw [h0] at c6; cases c6) (srcx_ok (Sub.refl H) hx) c7 (Nat.le_of_ble_eq_true c8) (Nat.le_of_ble_eq_true c9) (Array.toList_inj.1 hr))
              · cases h
            · cases h
          · cases h
        · cases h
      · cases h
    · cases h
  · cases h

variable {α : Type}
/-- What is read, and what must be equal for that. -/
def srcT (H : List Blk) (s : Nat) : PV → Option (List (List PV) × List T × List T)
  | .sl s' xs => match Nat.beq s' s with
    | true => some (xs, [], [])
    | false => none
  | .sc (.slice none 0 0) => some ([], [], [])
  | .own i n => match H[i]? with
    | some (.buf s' _ xs _) => match Nat.beq s' s with
      | true => some (xs, [.n n], [.n xs.length])
      | false => none
    | _ => none
  | _ => none
theorem srcT_ok {s : Nat} {q : PV} {xs : List (List PV)} {l r : List T} (h : srcT H s q = some (xs, l, r)) (he : l = r) : Src H s q xs := by
  unfold srcT at h
  split at h
  · split at h
    · rename_i hs
      simp only [Option.some.injEq, Prod.mk.injEq] at h
      obtain ⟨rfl, rfl, rfl⟩ := h
      have hs := Nat.eq_of_beq_eq_true hs
      subst hs
      exact .sl _
    · cases h
  · simp only [Option.some.injEq, Prod.mk.injEq] at h
    obtain ⟨rfl, rfl, rfl⟩ := h
    exact .nil
  · split at h
    · rename_i hb
      split at h
      · rename_i hs
        simp only [Option.some.injEq, Prod.mk.injEq] at h
        obtain ⟨rfl, rfl, rfl⟩ := h
        have hs := Nat.eq_of_beq_eq_true hs
        subst hs
        simp only [List.cons.injEq, T.n.injEq, and_true] at he
        subst he
        exact .own _ _ _ _ hb
      · cases h
    · cases h
  · cases h
/-- A call of slices.Clone: a new buffer. -/
def Hnd.clone {f : FuncId} {fn : Func} (hfn : P.funcs[f]? = some fn) (row : α → List PV) (hrow : ∀ z, ((row z).all PV.one) = true) {l : List α} (hn : l.length ≤ lim) : Hnd P G where
  run o st H := match o.op with
    | .call cl => match cl.callee, cl.args.toList, fn.body with
      | .value x, [y], some code => match opd G st x, opd G st y, cloneOf code with
        | some px, some q, some (t1, t2, t3, t4) => match P.underlying t1, P.underlying t2, P.underlying t3, P.underlying t4 with
          | some (.slice e), some (.slice e2), some (.slice e3), some (.slice e4) => match P.info? e with
            | some ti => match ti.zero, srcT H ti.size q, fn.results.toList with
              | some z, some (xs, l1, r1), [.tmp 2] =>
                if Nat.beq e e2 && Nat.beq e e3 && Nat.beq e e4 && Nat.beq (P.cellsOf e) ti.size && Nat.beq z.cells.size ti.size && !(Nat.beq ti.size 0) && Nat.ble ti.bytes 65536 && Nat.ble 8 fn.ntmps && !(fn.name == "runtime.NumGoroutine") then
                  some ⟨.own H.length l.length, H ++ [.buf ti.size e (l.map row) false], .p px :: .rs xs :: l1, .p (.sc (.func (.func f) #[] #[])) :: .rs (l.map row) :: r1⟩ else none
              | _, _, _ => none
            | none => none
          | _, _, _, _ => none
        | _, _, _ => none
      | _, _, _ => none
    | _ => none
  sound := by
    intro n0 o st H x h he
    split at h
    · rename_i cl ho
      split at h
      · rename_i x y code hcl hargs hb
        split at h
        · rename_i px q t1 t2 t3 t4 hx hy hc
          split at h
          · rename_i e e2 e3 e4 h1 h2 h3 h4
            split at h
            · rename_i ti hti
              split at h
              · rename_i z xs l1 r1 hz hsrc hr
                split at h
                · rename_i hcond
                  simp only [Bool.and_eq_true, Bool.not_eq_true'] at hcond
                  obtain ⟨⟨⟨⟨⟨⟨⟨⟨c1, c2⟩, c3⟩, c4⟩, c5⟩, c6⟩, c7⟩, c8⟩, c9⟩ := hcond
                  have c1 := Nat.eq_of_beq_eq_true c1
                  have c2 := Nat.eq_of_beq_eq_true c2
                  have c3 := Nat.eq_of_beq_eq_true c3
                  subst c1 c2 c3
                  simp only [Option.some.injEq] at h
                  subst h
                  simp only [List.cons.injEq, T.p.injEq, T.rs.injEq] at he
                  obtain ⟨rfl, rfl, hl1⟩ := he
                  have hs := srcT_ok hsrc hl1
                  have hall : ((l.map row).flatten.all PV.one) = true := by
                    rw [List.all_eq_true]
                    intro p hp
                    obtain ⟨r, hr, hpr⟩ := List.mem_flatten.1 hp
                    obtain ⟨z, _, rfl⟩ := List.mem_map.1 hr
                    exact List.all_eq_true.1 (hrow z) p hpr
                  have hlim : (l.map row).length * ti.bytes ≤ 140737488355328 := by
                    rw [List.length_map]
                    have h2 : l.length * ti.bytes ≤ 2147483648 * 65536 := Nat.mul_le_mul hn (Nat.le_of_ble_eq_true c7)
                    omega
                  have hA := AWP.clone (P := P) (G := G) (H := H) (nt := fn.ntmps) (rs := fn.results) hc c8 h1 h2 h3 h4 hti hz (Nat.eq_of_beq_eq_true c4) (Nat.eq_of_beq_eq_true c5) (fun h0 => by rw [h0] at c6; cases c6) hs hall hlim (by rw [List.length_map]; unfold lim at hn; omega) (Array.toList_inj.1 hr)
                  have hl : (l.map row).length = l.length := List.length_map ..
                  rw [hl] at hA
                  exact OpW.inline (ps := [q]) (caps := []) ho hcl (.inl ⟨hx, rfl⟩) hfn hb c9 (by rw [hargs]; simp [hy]) (by have := Nat.le_of_ble_eq_true c8; simp; omega) hA
                · cases h
              · cases h
            · cases h
          · cases h
        · cases h
      · cases h
    · cases h
end
end Go.AM

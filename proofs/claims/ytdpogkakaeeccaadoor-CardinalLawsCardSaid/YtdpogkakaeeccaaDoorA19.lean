/- Calls by a handler; regions in one step, in the order of the text and in a drawn order. No condition. -/
import Derived.Test.YtdpogkakaeeccaaDoorA18
namespace Go.AM
section
variable {P : Program} {G : Glob} {n0 nt : Nat} {o : Oper} {st : St} {H : List Blk} {ops : Array Oper} {Q : Exit → St → List Blk → Prop}

/-! ### Calls -/
/-- An owned slice of known elements. -/
structure Ow where
  xs : List (List PV)
  n : Nat
  h : xs.length = n
def Ow.of {α : Type} (row : α → List PV) (l : List α) : Ow := ⟨l.map row, l.length, List.length_map ..⟩
def wkArgs (P : Program) (H : List Blk) (any : Bool) : List TypeId → List PV → List Ow → Option (List PV × List T × List T)
  | _, [], _ => some ([], [], [])
  | ts, .own i n :: ps, w :: ws => match H[i]? with
    | some (.buf s _ xs sh) => if any || sh then (wkArgs P H any ts.tail ps ws).map fun r => (.sl s xs :: r.1, .n n :: .rs xs :: r.2.1, .n w.n :: .rs w.xs :: r.2.2) else none
    | _ => none
  | t :: ts, p :: ps, ws => (wkArgs P H any ts ps ws).map fun r => (low P t p :: r.1, r.2.1, r.2.2)
  | [], p :: ps, ws => (wkArgs P H any [] ps ws).map fun r => (p :: r.1, r.2.1, r.2.2)
theorem wkArgs_wks {any : Bool} : ∀ (ts : List TypeId) (ps : List PV) (ws : List Ow) (x : List PV × List T × List T), wkArgs P H any ts ps ws = some x → x.2.1 = x.2.2 → Wks H any ps x.1
  | ts, [], ws, x, h, he => by
    simp only [wkArgs, Option.some.injEq] at h; subst h; exact .nil
  | ts, p :: ps, ws, x, h, he => by
    unfold wkArgs at h
    split at h
    · rename_i heq; cases heq
    · rename_i heq1
      rename_i i n ps' w ws'
      cases heq1
      split at h
      · rename_i s t xs sh hb
        split at h
        · rename_i hs
          simp only [Option.map_eq_some_iff] at h
          obtain ⟨r, hr, rfl⟩ := h
          simp only [List.cons.injEq, T.n.injEq, T.rs.injEq] at he
          obtain ⟨h1, h2, h3⟩ := he
          have hw : n = xs.length := by rw [h1, ← w.h, h2]
          subst hw
          exact .cons _ _ _ _ (.own i s t xs sh hb (by simpa using hs)) (wkArgs_wks _ _ _ r hr h3)
        · cases h
      · cases h
    · rename_i heq1 _
      cases heq1
      simp only [Option.map_eq_some_iff] at h
      obtain ⟨r, hr, rfl⟩ := h
      exact .cons _ _ _ _ (low_wk _ _ _ _) (wkArgs_wks _ _ _ r hr he)
    · rename_i heq1 _
      cases heq1
      simp only [Option.map_eq_some_iff] at h
      obtain ⟨r, hr, rfl⟩ := h
      exact .cons _ _ _ _ (.refl _) (wkArgs_wks _ _ _ r hr he)
def opdL (G : Glob) (st : St) : List Operand → Option (List PV)
  | [] => some []
  | x :: xs => match opd G st x, opdL G st xs with
    | some p, some ps => some (p :: ps)
    | _, _ => none
theorem opdL_spec : ∀ (xs : List Operand) (ps : List PV), opdL G st xs = some ps → xs.map (opd G st) = ps.map some
  | [], ps, h => by simp only [opdL, Option.some.injEq] at h; subst h; rfl
  | x :: xs, ps, h => by
    simp only [opdL] at h
    split at h
    · rename_i p qs h1 h2
      simp only [Option.some.injEq] at h; subst h
      simp only [List.map_cons, h1, opdL_spec xs qs h2]
    · cases h
def ptrs1 : List PV → List Nat
  | [] => []
  | .ptr i _ :: ps => i :: ptrs1 ps
  | .vw i _ _ :: ps => i :: ptrs1 ps
  | _ :: ps => ptrs1 ps
def ptrsOf : List PV → List Nat
  | [] => []
  | .fn _ cs :: ps => ptrs1 cs ++ ptrsOf ps
  | .ptr i _ :: ps => i :: ptrsOf ps
  | .vw i _ _ :: ps => i :: ptrsOf ps
  | _ :: ps => ptrsOf ps
/-- A call of a function, by its promise. -/
def Hnd.call {f : FuncId} {fn : Func} {args0 : List PV} {H0 H1 : List Blk} {p1 : PV} (hfn : P.funcs[f]? = some fn) (ws : List Ow) (hc : ACall P G f args0 H0 (fun q K => q = p1 ∧ K = H1)) : Hnd P G where
  run o st H := match o.op with
    | .call cl => match cl.callee with
      | .value x => match opd G st x, opdL G st cl.args.toList with
        | some px, some ps => match wkArgs P H false fn.params.toList ps ws with
          | some (qs, l, r) =>
            let σ := ptrsOf ps
            if fn.body.isNone = false ∧ (fn.name == "runtime.NumGoroutine") = false ∧ σ.Pairwise (· < ·) ∧ H0.all Blk.isCells = true then
              some ⟨p1.ren (renId σ H.length), setAll σ (H1.map (Blk.ren (renId σ H.length))) H, .p px :: .ps qs :: .bs (H0.map (fun k => some (k.ren (renId σ H.length)))) :: l,
                .p (.sc (.func (.func f) #[] #[])) :: .ps (PV.rens (renId σ H.length) args0) :: .bs (σ.map (H[·]?)) :: r⟩
            else none
          | _ => none
        | _, _ => none
      | _ => none
    | _ => none
  sound := by
    intro n0 o st H x h he
    suffices hT : OpT P G n0 o st H x.p x.H from hT.weak
    split at h
    · rename_i cl ho
      split at h
      · rename_i x hcl
        split at h
        · rename_i px ps hx hps
          split at h
          · rename_i qs l r hw
            simp only [] at h
            split at h
            · rename_i hcond
              obtain ⟨c1, c2, c3, c4⟩ := hcond
              simp only [Option.some.injEq] at h
              subst h
              simp only [List.cons.injEq, T.p.injEq, T.ps.injEq, T.bs.injEq] at he
              obtain ⟨h1, h2, h3, h4⟩ := he
              subst h1
              exact OpT.call (caps := []) ho hcl (.inl ⟨hx, rfl⟩) hfn c1 c2 (opdL_spec _ _ hps) (by rw [List.append_nil]; exact wkArgs_wks _ _ _ _ hw h4) h2 c3 c4 h3 hc rfl rfl
            · cases h
          · cases h
        · cases h
      · cases h
    · cases h
/-! ### Regions -/
def one2 (hs : List (Nat × Hnd P G)) (i : Nat) (o : Oper) (st : St) (H : List Blk) : Option Out := match hs.lookup i with
  | some h => h.run o st H
  | none => (stdRun P G o st H).map fun r => ⟨r.1, r.2, [], []⟩
theorem OpT.of_one2 {hs : List (Nat × Hnd P G)} {i : Nat} {x : Out} (h : one2 hs i o st H = some x) (he : x.l = x.r) : OpW P G n0 o st H x.p x.H := by
  unfold one2 at h
  split at h
  · rename_i k _; exact k.sound h he
  · simp only [Option.map_eq_some_iff] at h
    obtain ⟨r, h1, rfl⟩ := h
    exact (OpT.of_std h1).weak
abbrev Eqs := List (List T × List T)
def Eqs.ok (es : Eqs) : Prop := ∀ e ∈ es, e.1 = e.2
theorem Eqs.of {es : Eqs} (h : es.map (·.1) = es.map (·.2)) : es.ok := by
  intro e he
  induction es with
  | nil => cases he
  | cons d ds ih =>
    simp only [List.map_cons, List.cons.injEq] at h
    rcases List.mem_cons.1 he with rfl | he
    · exact h.1
    · exact ih h.2 he
theorem Eqs.cons {e : List T × List T} {es : Eqs} (h : Eqs.ok (e :: es)) : e.1 = e.2 ∧ Eqs.ok es := ⟨h e (by simp), fun x hx => h x (by simp [hx])⟩
theorem Eqs.app {es fs : Eqs} (h : Eqs.ok (es ++ fs)) : Eqs.ok es ∧ Eqs.ok fs := ⟨fun x hx => h x (by simp [hx]), fun x hx => h x (by simp [hx])⟩
def rseg (nt : Nat) (ops : Array Oper) (hs : List (Nat × Hnd P G)) : List Nat → St → List Blk → Option (St × List Blk × Eqs)
  | [], st, H => some (st, H, [])
  | i :: l, st, H => match ops[i]? with
    | none => none
    | some o => if dstOk nt o then match wantA ops st o with
      | some true => match one2 hs i o st H with
        | some x => (rseg nt ops hs l (st.putD o.dst x.p) x.H).map fun r => (r.1, r.2.1, (x.l, x.r) :: r.2.2)
        | none => none
      | some false => rseg nt ops hs l (st.putD o.dst (.sc undef)) H
      | none => none
      else none
theorem AOps.rseg {hs : List (Nat × Hnd P G)} {l2 : List Nat} : ∀ {l1 : List Nat} {st : St} {H : List Blk} {r : St × List Blk × Eqs}, rseg nt ops hs l1 st H = some r → Eqs.ok r.2.2 → AOps P G n0 nt ops l2 Q r.1 r.2.1 → AOps P G n0 nt ops (l1 ++ l2) Q st H
  | [], st, H, r, hr, _, h => by simp only [AM.rseg, Option.some.injEq] at hr; subst hr; exact h
  | i :: l, st, H, r, hr, he, h => by
    simp only [AM.rseg] at hr
    cases ho : ops[i]? with
    | none => simp [ho] at hr
    | some o =>
      simp only [ho] at hr
      by_cases hd : dstOk nt o = true
      · simp only [hd, if_true] at hr
        cases hw : wantA ops st o with
        | none => simp [hw] at hr
        | some b =>
          cases b with
          | false => simp only [hw] at hr; exact AOps.skip ho hd hw (AOps.rseg hr he h)
          | true =>
            simp only [hw] at hr
            cases hx : one2 hs i o st H with
            | none => simp [hx] at hr
            | some x =>
              simp only [hx, Option.map_eq_some_iff] at hr
              obtain ⟨r', h1, rfl⟩ := hr
              obtain ⟨e1, e2⟩ := Eqs.cons he
              exact AOps.cons ho hd hw (OpT.of_one2 hx e1) (AOps.rseg h1 e2 h)
      · simp [hd] at hr
/-- A region in the order of its text: what is kept of its end. -/
def Reg (nt : Nat) (ops : Array Oper) (hs : List (Nat × Hnd P G)) (ks : List Nat) (st : St) (H : List Blk) : Option (St × List Blk × Eqs) :=
  (rseg nt ops hs (List.range ops.size) st H).map fun r => (r.1.pick ks, r.2.1, r.2.2)
def endOf (r : Option (St × List Blk × Eqs)) : Option (St × List Blk) := r.map fun r => (r.1, r.2.1)
def lefts (r : Option (St × List Blk × Eqs)) : List (List T) := match r with | some r => r.2.2.map (·.1) | none => []
def rights (r : Option (St × List Blk × Eqs)) : List (List T) := match r with | some r => r.2.2.map (·.2) | none => []
theorem endOf_some {r : Option (St × List Blk × Eqs)} {st' : St} {H' : List Blk} (h : endOf r = some (st', H')) (he : lefts r = rights r) : ∃ es, r = some (st', H', es) ∧ Eqs.ok es := by
  cases r with
  | none => cases h
  | some r =>
    simp only [endOf, Option.map_some, Option.some.injEq, Prod.mk.injEq] at h
    obtain ⟨rfl, rfl⟩ := h
    exact ⟨_, rfl, Eqs.of he⟩
theorem AWP.rg {id : Nat} (hs : List (Nat × Hnd P G)) (st' : St) (H' : List Blk) (hq : Q .normal st' H') (h : endOf (Reg nt ops hs (st'.map (·.1)) st H) = some (st', H') := by kernel_rfl)
    (he : lefts (Reg nt ops hs (st'.map (·.1)) st H) = rights (Reg nt ops hs (st'.map (·.1)) st H) := by kernel_rfl) : AWP P G n0 nt (.region id ops false) Q st H := by
  obtain ⟨es, h1, h2⟩ := endOf_some h he
  unfold Reg at h1
  simp only [Option.map_eq_some_iff, Prod.mk.injEq] at h1
  obtain ⟨r, h3, h4, h5, h6⟩ := h1
  refine AWP.region rfl ?_
  have := AOps.rseg (n0 := n0) (Q := Q) (l2 := []) h3 (by rw [h6]; exact h2) (AOps.sub (st' := st') (by rw [← h4]; exact St.pick_sub _ _) (by rw [h5]; exact AOps.nil hq))
  rwa [List.append_nil] at this
/-- Nothing of the memory turns. -/
theorem AWP.rg0 {id : Nat} (hs : List (Nat × Hnd P G)) (st' : St) (hq : Q .normal st' H) (h : endOf (Reg nt ops hs (st'.map (·.1)) st H) = some (st', H) := by kernel_rfl)
    (he : lefts (Reg nt ops hs (st'.map (·.1)) st H) = rights (Reg nt ops hs (st'.map (·.1)) st H) := by kernel_rfl) : AWP P G n0 nt (.region id ops false) Q st H := AWP.rg hs st' H hq h he

/-! ### Drawn regions -/
/-- The free operations, one after the other in an order that the edges allow: what each yields, and the blocks after each of the chain. -/
def dseq (nt : Nat) (ops : Array Oper) (hs : List (Nat × Hnd P G)) (ch : List Nat) : List Nat → St → List Blk → Option (List (Nat × PV) × List (List Blk))
  | [], _, H => some ([], [H])
  | i :: l, st, H => match ops[i]? with
    | none => none
    | some o => match wantA ops st o with
      | some true => match one2 hs i o st H with
        | some x => if ch.contains i then (dseq nt ops hs ch l (st.putD o.dst x.p) x.H).map fun r => ((i, x.p) :: r.1, H :: r.2) else (dseq nt ops hs ch l (st.putD o.dst x.p) H).map fun r => ((i, x.p) :: r.1, r.2)
        | none => none
      | some false => (dseq nt ops hs ch l (st.putD o.dst (.sc undef)) H).map fun r => ((i, .sc undef) :: r.1, r.2)
      | none => none
def quietEqs (ops : Array Oper) (hs : List (Nat × Hnd P G)) (ch : List Nat) (i : Nat) (o : Oper) (st : St) (p : PV) : Nat → List (List Blk) → Option Eqs
  | _, [] => some []
  | t, H :: Hs => match quietEqs ops hs ch i o st p (t + 1) Hs with
    | none => none
    | some es => if posOk ops ch i t then (one2 hs i o st H).map fun x => (x.l, x.r) :: ([.p x.p, .bs (x.H.map some)], [.p p, .bs (H.map some)]) :: es else some es
def freeEqs (ops : Array Oper) (hs : List (Nat × Hnd P G)) (st0 : St) (res : List PV) (ch : List Nat) (Hs : List (List Blk)) (k i : Nat) : Option Eqs :=
  match ops[i]?, res[i]? with
  | some o, some p => match wantA ops (stAt ops k st0 res i) o with
    | some false => if ch.contains i then none else some [([.p p], [.p (.sc undef)])]
    | some true => if ch.contains i then (match ch[ch.idxOf i]?, Hs[ch.idxOf i]?, Hs[ch.idxOf i + 1]? with
        | some i', some H, some H' => if Nat.beq i' i then (one2 hs i o (stAt ops k st0 res i) H).map fun x => [(x.l, x.r), ([.p x.p, .bs (x.H.map some)], [.p p, .bs (H'.map some)])] else none
        | _, _, _ => none)
      else quietEqs ops hs ch i o (stAt ops k st0 res i) p 0 Hs
    | none => none
  | _, _ => none
def allEqs (f : Nat → Option Eqs) : Nat → Option Eqs
  | 0 => some []
  | k + 1 => match allEqs f k, f k with
    | some es, some fs => some (es ++ fs)
    | _, _ => none
theorem map_some_inj {α : Type} {l m : List α} (h : l.map some = m.map some) : l = m := by
  induction l generalizing m with
  | nil => cases m with | nil => rfl | cons => cases h
  | cons x l ih => cases m with
    | nil => cases h
    | cons y m => simp only [List.map_cons, List.cons.injEq, Option.some.injEq] at h; rw [h.1, ih h.2]
theorem quiet_ok {hs : List (Nat × Hnd P G)} {ch : List Nat} {i : Nat} {p : PV} : ∀ {t : Nat} {Hs : List (List Blk)} {es : Eqs}, quietEqs ops hs ch i o st p t Hs = some es → es.ok → AllT ops ch i (fun H => OpW P G n0 o st H p H) t Hs
  | t, [], es, _, _ => .nil t
  | t, H :: Hs, es, h, he => by
    simp only [quietEqs] at h
    cases hr : quietEqs ops hs ch i o st p (t + 1) Hs with
    | none => simp [hr] at h
    | some fs =>
      simp only [hr] at h
      by_cases hp : posOk ops ch i t = true
      · simp only [hp, if_true, Option.map_eq_some_iff] at h
        obtain ⟨x, hx, rfl⟩ := h
        obtain ⟨e1, e2⟩ := Eqs.cons he
        obtain ⟨e3, e4⟩ := Eqs.cons e2
        simp only [List.cons.injEq, T.p.injEq, T.bs.injEq, and_true] at e3
        have := OpT.of_one2 (n0 := n0) hx e1
        rw [e3.1, map_some_inj e3.2] at this
        exact .yes this (quiet_ok hr e4)
      · simp only [hp, if_false] at h
        simp only [Bool.false_eq_true, if_false, Option.some.injEq] at h
        subst h
        exact .no (by simpa using hp) (quiet_ok hr he)
theorem free_ok {hs : List (Nat × Hnd P G)} {st0 : St} {res : List PV} {ch : List Nat} {Hs : List (List Blk)} {k i : Nat} {es : Eqs} (h : freeEqs ops hs st0 res ch Hs k i = some es) (he : es.ok) : FreeOk P G n0 nt ops st0 res ch Hs k i := by
  unfold freeEqs at h
  split at h
  · rename_i o p ho hp
    have hopn : opn ops i = o := by simp [opn, ho]
    have hi : (ops[i]?).isSome = true := by simp [ho]
    split at h
    · rename_i hw
      split at h
      · cases h
      · rename_i hc
        simp only [Option.some.injEq] at h; subst h
        have := he _ (List.mem_singleton.2 rfl)
        simp only [List.cons.injEq, T.p.injEq, and_true] at this
        exact FreeOk.s hi (by simpa using hc) (by rw [hopn]; exact hw) (by rw [hp, this])
    · rename_i hw
      split at h
      · rename_i hc
        split at h
        · rename_i i' H H' g1 g2 g3
          split at h
          · rename_i hb
            have hb := Nat.eq_of_beq_eq_true hb
            subst hb
            simp only [Option.map_eq_some_iff] at h
            obtain ⟨x, hx, rfl⟩ := h
            obtain ⟨e1, e2⟩ := Eqs.cons he
            obtain ⟨e3, _⟩ := Eqs.cons e2
            simp only [List.cons.injEq, T.p.injEq, T.bs.injEq, and_true] at e3
            have := OpT.of_one2 (n0 := n0) hx e1
            rw [e3.1, map_some_inj e3.2] at this
            exact FreeOk.c _ p H H' hi g1 (by rw [hopn]; exact hw) hp g2 g3 (by rw [hopn]; exact this)
          · cases h
        · cases h
      · rename_i hc
        exact FreeOk.q p hi (by simpa using hc) (by rw [hopn]; exact hw) hp (by rw [hopn]; exact quiet_ok h he)
    · cases h
  · cases h
theorem all_ok {hs : List (Nat × Hnd P G)} {st0 : St} {res : List PV} {ch : List Nat} {Hs : List (List Blk)} {K : Nat} : ∀ {k : Nat} {es : Eqs}, allEqs (freeEqs ops hs st0 res ch Hs K) k = some es → es.ok → FreeUpTo P G n0 nt ops st0 res ch Hs K k
  | 0, _, _, _ => trivial
  | k + 1, es, h, he => by
    simp only [allEqs] at h
    split at h
    · rename_i es' fs h1 h2
      simp only [Option.some.injEq] at h; subst h
      obtain ⟨e1, e2⟩ := Eqs.app he
      exact ⟨all_ok h1 e1, free_ok h2 e2⟩
    · cases h
/-- Blocks change places. -/
def swaps (n0 : Nat) : List (Nat × Nat) → St → List Blk → Option (St × List Blk)
  | [], st, H => some (st, H)
  | (i, j) :: r, st, H => match H[i]?, H[j]? with
    | some x, some y => if Nat.ble n0 i && Nat.ble n0 j && okIds (swapB i j x y H) then swaps n0 r (st.map fun z => (z.1, z.2.ren (sw i j))) (swapB i j x y H) else none
    | _, _ => none
theorem AOps.swaps {l : List Nat} : ∀ {sws : List (Nat × Nat)} {st : St} {H : List Blk} {r : St × List Blk}, swaps n0 sws st H = some r → AOps P G n0 nt ops l Q r.1 r.2 → AOps P G n0 nt ops l Q st H
  | [], st, H, r, hr, h => by simp only [AM.swaps, Option.some.injEq] at hr; subst hr; exact h
  | (i, j) :: s, st, H, r, hr, h => by
    simp only [AM.swaps] at hr
    split at hr
    · rename_i x y hi hj
      split at hr
      · rename_i hc
        simp only [Bool.and_eq_true] at hc
        exact AOps.swap i j hi hj hc.1.1 hc.1.2 hc.2 rfl rfl (AOps.swaps hr h)
      · cases hr
    · cases hr
def orderOf (k : Nat) (ord : List Nat) : List Nat := if ord.isEmpty then List.range k else ord
def rkOf (k : Nat) (ord : List Nat) : List Nat := if ord.isEmpty then [] else (List.range k).map fun i => ord.idxOf i
/-- A drawn region: k free operations, then the rest. ord: an order that the edges allow (nothing: that of the text); ch: those that change blocks, in their order. -/
def Dr (n0 nt : Nat) (ops : Array Oper) (hs : List (Nat × Hnd P G)) (k : Nat) (ord ch : List Nat) (sws : List (Nat × Nat)) (ks : List Nat) (st : St) (H : List Blk) : Option (St × List Blk × Eqs) :=
  match dseq nt ops hs ch (orderOf k ord) st H with
  | none => none
  | some (rs, Hs) =>
    let res := (List.range k).map fun i => (rs.lookup i).getD (.sc undef)
    let st0 := st.pick (st.map (·.1))
    if drawOk nt ops ch k (rkOf k ord) && Nat.beq Hs.length (ch.length + 1) then
      match allEqs (freeEqs ops hs st0 res ch Hs k) k, Hs[0]?, Hs[ch.length]? with
      | some es, some H0, some Hf =>
        let st1 := stL ops st0 res (List.range k)
        match rseg nt ops hs (List.range' k (ops.size - k)) (st1.pick (st1.map (·.1))) Hf with
        | some r => match swaps n0 sws r.1 r.2.1 with
          | some q => some (q.1.pick ks, q.2, ([.bs (H0.map some)], [.bs (H.map some)]) :: (es ++ r.2.2))
          | none => none
        | none => none
      | _, _, _ => none
    else none
theorem ADraw.dr (hs : List (Nat × Hnd P G)) (k : Nat) (ord ch : List Nat) (sws : List (Nat × Nat)) (st' : St) (H' : List Blk) (hq : Q .normal st' H') (h : endOf (Dr n0 nt ops hs k ord ch sws (st'.map (·.1)) st H) = some (st', H') := by kernel_rfl)
    (he : lefts (Dr n0 nt ops hs k ord ch sws (st'.map (·.1)) st H) = rights (Dr n0 nt ops hs k ord ch sws (st'.map (·.1)) st H) := by kernel_rfl) : ADraw P G n0 nt ops Q st H := by
  obtain ⟨es, h1, h2⟩ := endOf_some h he
  unfold Dr at h1
  split at h1
  · cases h1
  · rename_i rs Hs hd
    simp only [] at h1
    split at h1
    · rename_i hc
      simp only [Bool.and_eq_true] at hc
      split at h1
      · rename_i es' H0 Hf g1 g2 g3
        split at h1
        · rename_i r hr
          split at h1
          · rename_i q hsw
            simp only [Option.some.injEq, Prod.mk.injEq] at h1
            obtain ⟨k1, k2, k3⟩ := h1
            subst k3
            obtain ⟨e1, e2⟩ := Eqs.cons h2
            obtain ⟨e3, e4⟩ := Eqs.app e2
            simp only [List.cons.injEq, T.bs.injEq, and_true] at e1
            have hH0 := map_some_inj e1
            subst hH0
            have tail := AOps.rseg (n0 := n0) (Q := Q) (l2 := []) hr e4 (AOps.swaps hsw (AOps.sub (st' := st') (by rw [← k1]; exact St.pick_sub _ _) (by rw [k2]; exact AOps.nil hq)))
            rw [List.append_nil] at tail
            exact ADraw.drawn (rkOf k ord) k (st.map (·.1)) _ _ rfl hc.1 (all_ok g1 e3) g2 g3 rfl rfl tail
          · cases h1
        · cases h1
      · cases h1
    · cases h1
end
end Go.AM

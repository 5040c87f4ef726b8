/- Code followed by a function over known values: its soundness. No condition. -/
import Derived.Test.YtdpogkakaeeccaaDoorC1
namespace Go.AM
section
variable {P : Program} {G : Glob} {n0 nt : Nat} {o : Oper} {st : St} {H : List Blk} {ops : Array Oper} {Q : Exit → St → List Blk → Prop} {E : Eval}

theorem key_lt {α : Type} : ∀ (rs : List (Nat × α)) (j : Nat) (p : α), rs.lookup j = some p → j < rs.foldr (fun x n => max (x.1 + 1) n) 0
  | [], _, _, h => by simp at h
  | (i, q) :: rs, j, p, h => by
    simp only [List.lookup] at h
    simp only [List.foldr_cons]
    split at h
    · rename_i hj
      have : j = i := by simpa using hj
      omega
    · have := key_lt rs j p h
      omega
mutual
/-- Above all blocks that a value names. -/
def PV.top : PV → Nat
  | .ptr i _ => i + 1
  | .own i _ => i + 1
  | .ept i _ _ _ => i + 1
  | .mp i => i + 1
  | .vw i _ _ => i + 1
  | .ow i _ _ _ => i + 1
  | .agg cs => PV.tops cs
  | .tup cs => PV.tops cs
  | .fn _ cs => PV.tops cs
  | _ => 0
def PV.tops : List PV → Nat
  | [] => 0
  | p :: ps => max p.top (PV.tops ps)
end
theorem one_get {α : Type} {x y : α} {t : Nat} (h : [x][t]? = some y) : y = x := by
  cases t with
  | zero => simpa using h.symm
  | succ t => simp at h
theorem gox_done' {k : Nat} {cand give : List Nat} {t0 : Tr} {rs : List (Nat × PV)} {Hs : List (List Blk)} {Hf : List Blk} {ch late : List Nat} :
    ∀ (l : List Nat) (rs0 : List (Nat × PV)) (Hs0 : List (List Blk)) (H0 : List Blk) (ch0 late0 : List Nat), gox P G E ops k cand give t0 l rs0 Hs0 H0 ch0 late0 = some (rs, Hs, Hf, ch, late) →
    (∀ j ∈ l, ∃ p, rs.lookup j = some p) ∧ (∀ j p, rs0.lookup j = some p → ∃ q, rs.lookup j = some q)
  | [], rs0, Hs0, H0, ch0, late0, h => by
    simp only [gox, Option.some.injEq, Prod.mk.injEq] at h
    obtain ⟨rfl, _⟩ := h
    exact ⟨fun j hj => by (cases hj), fun j p hp => ⟨p, hp⟩⟩
  | i :: l, rs0, Hs0, H0, ch0, late0, h => by
    have key : ∀ {p : PV} {Hs1 : List (List Blk)} {H1 : List Blk} {ch1 late1 : List Nat}, gox P G E ops k cand give t0 l ((i, p) :: rs0) Hs1 H1 ch1 late1 = some (rs, Hs, Hf, ch, late) →
        (∀ j ∈ i :: l, ∃ p, rs.lookup j = some p) ∧ (∀ j p, rs0.lookup j = some p → ∃ q, rs.lookup j = some q) := fun {p _ _ _ _} h => by
      obtain ⟨h1, h2⟩ := gox_done' l _ _ _ _ _ h
      refine ⟨fun j hj => ?_, fun j q hq => ?_⟩
      · rcases List.mem_cons.1 hj with rfl | hj
        · exact h2 j p (by simp)
        · exact h1 j hj
      · by_cases hji : j = i
        · subst hji; exact h2 j p (by simp)
        · exact h2 j q (by rw [lookup_cons_ne hji]; exact hq)
    simp only [gox] at h
    split at h
    · cases h
    · split at h
      · cases h
      · exact key h
      · split at h
        · split at h
          · exact key h
          · cases h
        · split at h
          · exact key h
          · split at h
            · exact key h
            · cases h
theorem gox_done {k : Nat} {cand give : List Nat} {t0 : Tr} {rs : List (Nat × PV)} {Hs : List (List Blk)} {Hf : List Blk} {ch late : List Nat} (l : List Nat) (rs0 : List (Nat × PV)) (Hs0 : List (List Blk)) (H0 : List Blk) (ch0 late0 : List Nat)
    (h : gox P G E ops k cand give t0 l rs0 Hs0 H0 ch0 late0 = some (rs, Hs, Hf, ch, late)) : ∀ j ∈ l, ∃ p, rs.lookup j = some p := (gox_done' l _ _ _ _ _ h).1
theorem putsX_mem {rs : List (Nat × PV)} : ∀ (l : List Nat) (t : Tr), (∀ j ∈ l, match dstJ ops j with | some d => Nat.blt d 512 = true | none => True) → ∀ x ∈ (putsX ops rs l t).st, (∃ j ∈ l, dstJ ops j = some x.1 ∧ rs.lookup j = some x.2) ∨ (x ∈ t.st ∧ ∀ j ∈ l, ∀ p, rs.lookup j = some p → dstJ ops j ≠ some x.1)
  | [], t, _, x, hx => .inr ⟨hx, fun j hj => by cases hj⟩
  | j :: l, t, hd, x, hx => by
    unfold putsX at hx
    have hd' : ∀ j ∈ l, match dstJ ops j with | some d => Nat.blt d 512 = true | none => True := fun j hj => hd j (List.mem_cons_of_mem _ hj)
    split at hx
    · rename_i d p h1 h2
      have hlt : d < 512 := by have := hd j (by simp); rw [h1] at this; exact Nat.blt_eq ▸ this
      rcases putsX_mem l _ hd' x hx with ⟨i, hi, h3⟩ | ⟨h3, h4⟩
      · exact .inl ⟨i, List.mem_cons_of_mem _ hi, h3⟩
      · rcases List.mem_cons.1 (put_mem hlt x h3) with h5 | h5
        · exact .inl ⟨j, by simp, by rw [h5]; exact h1, by rw [h5]; exact h2⟩
        · obtain ⟨h6, h7⟩ := List.mem_filter.1 h5
          refine .inr ⟨h6, fun i hi q hq => ?_⟩
          rcases List.mem_cons.1 hi with rfl | hi
          · rw [h1]; intro e; simp at e; rw [e] at h7; simp at h7
          · exact h4 i hi q hq
    · rename_i hno
      rcases putsX_mem l t hd' x hx with ⟨i, hi, h3⟩ | ⟨h3, h4⟩
      · exact .inl ⟨i, List.mem_cons_of_mem _ hi, h3⟩
      · refine .inr ⟨h3, fun i hi q hq => ?_⟩
        rcases List.mem_cons.1 hi with rfl | hi
        · intro e; exact hno _ _ e hq
        · exact h4 i hi q hq
theorem AWP.drx {id : Nat} (hE : E.ok P G) (hm : P.follows .mixedOrders = true) {t t' : Tr} {H' : List Blk} (h : drx P G E nt ops t H = some (t', H')) (hq : Q .normal t'.st H') : AWP P G n0 nt (.region id ops true) Q t.st H := by
  unfold AM.drx at h
  split at h
  · rename_i hp
    unfold planS at hp
    simp only [Bool.and_eq_true] at hp
    obtain ⟨hd, hnd, hall, hds⟩ := hp
    generalize hk : (planOf ops).k = k at *
    generalize ho : (planOf ops).ord = ord at *
    generalize hr : (planOf ops).rk = rk at *
    generalize (planOf ops).cand = cand at *
    generalize (planOf ops).give = give at *
    generalize hs : shareX (planOf ops).keep t H = r at *
    obtain ⟨t0, H0⟩ := r
    simp only [] at h
    split at h
    · cases h
    · rename_i rs Hs Hf ch late hg
      split at h
      · rename_i hc
        simp only [Bool.and_eq_true, Bool.or_eq_true, List.isEmpty_iff] at hc
        refine AWP.le (st' := t0.st) (H' := H0) (fun c a w β _ _ hr => by
          have := shareX_ok (G := G) (planOf ops).keep t H c a w β hr
          rw [hs] at this
          exact this) ?_
        let N := rs.foldr (fun x n => max (x.1 + 1) n) 0
        let res : List PV := (List.range N).map fun i => (rs.lookup i).getD (.sc undef)
        have hres : ∀ j p, rs.lookup j = some p → res[j]? = some p := fun j p hp => by
          have : j < N := key_lt rs j p hp
          simp [res, this, hp]
        have hchk : chOk ops ch.reverse k = true := by
          rcases hc.1 with rfl | h1
          · simp [chOk]
          · exact h1
        obtain ⟨_, ⟨t, g2⟩, ⟨c, g3, g3'⟩, _, g5, g6⟩ := gox_ok (n0 := n0) hE hres rfl rfl ord [] [] H0 [] [] hg (of_decide_eq_true hnd) (fun _ _ => rfl) (fun _ h => by cases h) rfl
        have hdone := gox_done ord [] [] H0 [] [] hg
        have hfree : ∀ i, i < k → FreeOk P G n0 nt ops t0.st res ch.reverse (Hf :: Hs).reverse k i := fun i hi => by
          have hio : i ∈ ord := by
            have := List.all_eq_true.1 hall i (List.mem_range.2 hi)
            simpa using this
          rcases g6 i hio with h1 | ⟨hl, o, p, t, H1, ho, hni, hw, hp, ht, hop⟩
          · exact h1
          · refine .quiet o p ho hni hw hp fun t' H' ht' hpos => ?_
            rcases hc.2 with rfl | h2
            · have hs0 : Hs = [] := List.eq_nil_of_length_eq_zero (by rw [← g5]; rfl)
              subst hs0
              simp only [List.reverse_cons, List.reverse_nil, List.nil_append] at ht ht'
              have e1 : H1 = Hf := one_get ht
              have e2 : H' = Hf := one_get ht'
              subst e1 e2
              exact hop
            · have := List.all_eq_true.1 h2 i hl
              unfold lateOne at this
              rw [ho] at this
              split at this
              · rename_i o' p' ho' hp'
                simp only [Option.some.injEq] at ho'; subst ho'
                have h3 := hres _ _ hp'
                rw [hp] at h3
                simp only [Option.some.injEq] at h3; subst h3
                exact lateAll_ok hres _ 0 this t' H' ht' (by rw [Nat.zero_add]; exact hpos)
              · cases this
        refine AWP.draw (st0 := t0.st) (res := res) (ch := ch.reverse) (Hs := (Hf :: Hs).reverse) (k := k) (Hf := Hf) (rk := rk) hm (fun _ h => h) (drawOk_of hd hchk) hfree ?_ ?_ ?_
        · rw [g2]; simp
        · simp [g5]
        · refine AOps.sub ?_ (AOps.sqx hE _ _ _ _ _ h hq)
          intro x hx
          have hall' : ∀ j ∈ List.range k, match dstJ ops j with | some d => Nat.blt d 512 = true | none => True := fun j hj => by
            have h3 := List.all_eq_true.1 hds j hj
            cases hdj : dstJ ops j with
            | none => trivial
            | some d => rw [hdj] at h3; exact h3
          rcases putsX_mem _ _ hall' x hx with ⟨j, hj, h1, h2⟩ | ⟨h1, h2⟩
          · refine List.mem_append_left _ (List.mem_filterMap.2 ⟨j, hj, ?_⟩)
            have h1' : (ops[j]?).bind (·.dst) = some x.1 := h1
            rw [h1', hres _ _ h2]
          · refine List.mem_append_right _ (List.mem_filter.2 ⟨h1, List.all_eq_true.2 fun j hj => ?_⟩)
            have hjk : j < k := List.mem_range.1 hj
            obtain ⟨p, hp⟩ := hdone j (by have := List.all_eq_true.1 hall j hj; simpa using this)
            have h9 : ¬ ((ops[j]?).bind (·.dst) = some x.1) := h2 j hj p hp
            simpa using h9
      · cases h
  · cases h

/-! ### Code -/
/-- The end of a function: what it yields, and the blocks that are left. -/
def slotsOf (rs : Array ResultVar) : List Nat := rs.toList.map fun r => match r with
  | .tmp t => t
  | .cell t _ => t
def finx (P : Program) (rs : Array ResultVar) (m0 : Nat) (t : Tr) (K : List Blk) : Option (PV × List Blk) := match ares P (t.pick (slotsOf rs)) K rs with
  | some p => if p.ids (fun j => Nat.blt j (max m0 p.top)) then some (p, K.take (max m0 p.top)) else none
  | none => none
def ofArgs : Nat → List PV → Tr
  | _, [] => Tr.e
  | i, p :: ps => Tr.put (ofArgs (i + 1) ps) p (path i)
theorem ofArgs_mem : ∀ (ps : List PV) (i : Nat), i + ps.length ≤ 512 → ∀ x ∈ (ofArgs i ps).st, x ∈ numb i ps
  | [], i, _, x, hx => by
    obtain ⟨_, h⟩ := mem_st.1 hx
    simp [ofArgs, Tr.get_e] at h
  | p :: ps, i, hl, x, hx => by
    simp only [List.length_cons] at hl
    rcases List.mem_cons.1 (put_mem (by omega) x hx) with h | h
    · rw [h]; simp [numb]
    · have := ofArgs_mem ps (i + 1) (by omega) x (List.mem_filter.1 h).1
      simp [numb, this]
def callx (P : Program) (X : Ev) : Eval := fun f args H => match P.funcs[f]? with
  | none => none
  | some fn => match fn.body with
    | none => none
    | some code => match !(fn.name == "runtime.NumGoroutine") && Nat.ble args.length fn.ntmps && Nat.ble args.length 512 with
      | true => match X H.length fn.ntmps code (ofArgs 0 args) H with
        | some (.ret, st, K) => finx P fn.results H.length st K
        | some (.normal, st, K) => finx P fn.results H.length st K
        | _ => none
      | false => none
/-! ### Calls that are known already -/
abbrev Tab := List (Nat × List PV × PV)
def Tab.ok (P : Program) (G : Glob) (T : Tab) : Prop := ∀ x ∈ T, ACall P G x.1 x.2.1 [] (fun q K => q = x.2.2 ∧ K = []) ∧ x.2.2.ids (fun _ => false) = true
def shareA : List PV → List Blk → Option (List PV × List Blk)
  | [], H => some ([], H)
  | p :: ps, H => match p with
    | .own i n => match H[i]? with
      | some (.buf s t xs _) => match Nat.beq n xs.length with
        | true => match shareA ps (H.set i (.buf s t xs true)) with
          | some (qs, H') => some (.sl s xs :: qs, H')
          | none => none
        | false => none
      | _ => none
    | p => match p.ids (fun _ => false) with
      | true => match shareA ps H with
        | some (qs, H') => some (p :: qs, H')
        | none => none
      | false => none
theorem shareA_ok : ∀ (ps : List PV) (H : List Blk) (qs : List PV) (H' : List Blk), shareA ps H = some (qs, H') → (∀ st c a w β, RelB G c β st H a w → ∃ β', RelB G c β' st H' a w) ∧ (∀ (i : Nat) s t xs, H[i]? = some (.buf s t xs true) → H'[i]? = some (.buf s t xs true)) ∧ Wks H' false ps qs ∧ PV.idss (fun _ => false) qs = true
  | [], H, qs, H', h => by
    simp only [shareA, Option.some.injEq, Prod.mk.injEq] at h
    obtain ⟨rfl, rfl⟩ := h
    exact ⟨fun _ _ _ _ β hr => ⟨β, hr⟩, fun _ _ _ _ h => h, .nil, rfl⟩
  | p :: ps, H, qs, H', h => by
    unfold shareA at h
    split at h
    · rename_i i n
      split at h
      · rename_i s t xs sh hb
        have hil := (List.getElem?_eq_some_iff.1 hb).1
        split at h
        · rename_i hn
          have hn := Nat.eq_of_beq_eq_true hn
          subst hn
          split at h
          · rename_i qs' K hq
            simp only [Option.some.injEq, Prod.mk.injEq] at h
            obtain ⟨rfl, rfl⟩ := h
            obtain ⟨g1, g2, g3, g4⟩ := shareA_ok ps _ _ _ hq
            refine ⟨fun st c a w β hr => g1 st c a w β (hr.share hb), fun j s' t' xs' hj => g2 j s' t' xs' ?_, .cons _ _ _ _ (.own i s t xs true (g2 i s t xs (by rw [List.getElem?_set_self hil])) (.inr rfl)) g3, by simp only [PV.idss, PV.ids, g4, Bool.and_self]⟩
            by_cases hji : j = i
            · subst hji; rw [List.getElem?_set_self hil]; rw [hb] at hj; simp at hj ⊢; obtain ⟨rfl, rfl, rfl, _⟩ := hj; exact ⟨rfl, rfl, rfl⟩
            · rw [List.getElem?_set_ne (Ne.symm hji)]; exact hj
          · cases h
        · cases h
      · cases h
    · split at h
      · rename_i hc
        split at h
        · rename_i qs' K hq
          simp only [Option.some.injEq, Prod.mk.injEq] at h
          obtain ⟨rfl, rfl⟩ := h
          obtain ⟨g1, g2, g3, g4⟩ := shareA_ok ps _ _ _ hq
          exact ⟨g1, g2, .cons _ _ _ _ (.refl _) g3, by simp only [PV.idss, hc, g4, Bool.and_self]⟩
        · cases h
      · cases h
def findT (f : Nat) (args : List PV) : Tab → Option PV
  | [] => none
  | x :: T => match Nat.beq x.1 f with
    | true => match peqs x.2.1 args with
      | true => some x.2.2
      | false => findT f args T
    | false => findT f args T
theorem findT_mem {f : Nat} {args : List PV} {q : PV} : ∀ (T : Tab), findT f args T = some q → (f, args, q) ∈ T
  | [], h => by simp [findT] at h
  | (g, as, r) :: T, h => by
    unfold findT at h
    split at h
    · rename_i hf
      split at h
      · rename_i ha
        simp only [Option.some.injEq] at h
        have h1 := Nat.eq_of_beq_eq_true hf
        have h2 := peqs_eq _ _ ha
        simp only at h1 h2
        rw [← h, h1, h2]; simp
      · exact List.mem_cons_of_mem _ (findT_mem T h)
    · exact List.mem_cons_of_mem _ (findT_mem T h)
def hasT (f : Nat) : Tab → Bool
  | [] => false
  | x :: T => match Nat.beq x.1 f with
    | true => true
    | false => hasT f T
def plainFn (P : Program) (f : Nat) : Bool := match P.funcs[f]? with
  | some fn => !fn.body.isNone && !(fn.name == "runtime.NumGoroutine")
  | none => false
def tabx (P : Program) (T : Tab) (E : Eval) : Eval := fun f args H => match clonex P f args H with
  | some r => some r
  | none => match hasT f T with
  | true => match shareA args H with
    | some (qs, H') => match findT f qs T with
      | some q => match plainFn P f with
        | true => some (q, H')
        | false => E f args H
      | none => E f args H
    | none => E f args H
  | false => E f args H
theorem tabx_ok {T : Tab} (hT : T.ok P G) {E : Eval} (hE : E.ok P G) : (tabx P T E).ok P G := by
  intro f args H p H' h
  unfold tabx at h
  split at h
  · rename_i r hr
    simp only [Option.some.injEq] at h
    subst h
    exact clonex_ok hr
  split at h
  · split at h
    · rename_i qs K hs
      split at h
      · rename_i q hq
        split at h
        · rename_i hp
          simp only [Option.some.injEq, Prod.mk.injEq] at h
          obtain ⟨rfl, rfl⟩ := h
          obtain ⟨g1, _, g3, g4⟩ := shareA_ok (G := G) _ _ _ _ hs
          obtain ⟨k1, k2⟩ := hT _ (findT_mem T hq)
          unfold plainFn at hp
          split at hp
          · rename_i fn hfn
            simp only [Bool.and_eq_true, Bool.not_eq_true'] at hp
            exact .known fn qs hfn hp.1 hp.2 g1 g3 g4 k2 k1
          · cases hp
        · exact hE _ _ _ _ _ h
      · exact hE _ _ _ _ _ h
    · exact hE _ _ _ _ _ h
  · exact hE _ _ _ _ _ h
def condSt (t : Tr) : Operand → St
  | .tmp k => t.pick [k]
  | _ => []
theorem condSt_opd {t : Tr} {c : Operand} {p : PV} (h : opd G (condSt t c) c = some p) : opd G t.st c = some p := by
  cases c with
  | tmp k => exact pick_get h
  | _ => exact h
def execS (P : Program) (G : Glob) (T : Tab) (X : Ev) : Ev := fun n0 nt code st H => match code with
  | .skip => some (.normal, st, H)
  | .region _ ops draw => match draw with
    | false => match sqx P G (tabx P T (callx P X)) nt ops (List.range ops.size) st H with
      | some (st', H') => some (.normal, st', H')
      | none => none
    | true => if P.follows .mixedOrders then match drx P G (tabx P T (callx P X)) nt ops st H with
        | some (st', H') => some (.normal, st', H')
        | none => none
      else none
  | .seq x y => match X n0 nt x st H with
    | some (.normal, st', H') => X n0 nt y st' H'
    | r => r
  | .cond c t e => match opd G (condSt st c) c with
    | some (.sc (.bool true)) => X n0 nt t st H
    | some (.sc (.bool false)) => X n0 nt e st H
    | _ => none
  | .block id x => match X n0 nt x st H with
    | some (.exit j, st', H') => match Nat.beq j id with
      | true => some (.normal, st', H')
      | false => some (.exit j, st', H')
    | r => r
  | .loop x => match X n0 nt x st H with
    | some (.normal, st', H') => X n0 nt (.loop x) st' H'
    | r => r
  | .exit id => some (.exit id, st, H)
  | .ret => some (.ret, st, H)
  | _ => none
def exec (P : Program) (G : Glob) (T : Tab) : Nat → Ev
  | 0 => fun _ _ _ _ _ => none
  | n + 1 => execS P G T (exec P G T n)

def Ev.ok (P : Program) (G : Glob) (X : Ev) : Prop := ∀ n0 nt code st H e st' H', X n0 nt code st H = some (e, st', H') → AWP P G n0 nt code (fun e1 s1 h1 => e1 = e ∧ s1 = st'.st ∧ h1 = H') st.st H
theorem finx_ok {rs : Array ResultVar} {m0 : Nat} {t : Tr} {K : List Blk} {p : PV} {H' : List Blk} {e : Exit} (he : e = .normal ∨ e = .ret) (h : finx P rs m0 t K = some (p, H')) : LeQ G n0 nt (InQ P rs m0 p H') e t.st K := by
  refine ⟨t.pick (slotsOf rs), K, fun c a w β _ _ hr => ⟨β, hr.sub pick_sub⟩, ?_⟩
  unfold finx at h
  split at h
  · rename_i q hq
    split at h
    · rename_i hc
      simp only [Option.some.injEq, Prod.mk.injEq] at h
      obtain ⟨rfl, rfl⟩ := h
      refine ⟨he, hq, _, Nat.le_max_left _ _, ?_, rfl⟩
      exact PV.ids_mono (fun j hj => (by have hj' : Nat.ble (j + 1) (max m0 q.top) = true := hj; have := Nat.le_of_ble_eq_true hj'; simp only [decide_eq_true_eq]; omega)) _ hc
    · cases h
  · cases h
theorem callx_run {X : Ev} (hX : X.ok P G) {f : FuncId} {args : List PV} {H : List Blk} {p : PV} {H' : List Blk} (h : callx P X f args H = some (p, H')) : ∃ fn code, P.funcs[f]? = some fn ∧ fn.body = some code ∧ (fn.name == "runtime.NumGoroutine") = false ∧ args.length ≤ fn.ntmps ∧ AWP P G H.length fn.ntmps code (InQ P fn.results H.length p H') (numb 0 args) H := by
  unfold callx at h
  split at h
  · cases h
  · rename_i fn hfn
    split at h
    · cases h
    · rename_i code hb
      split at h
      · rename_i hc
        simp only [Bool.and_eq_true, Bool.not_eq_true'] at hc
        refine ⟨fn, code, hfn, hb, hc.1.1, Nat.le_of_ble_eq_true hc.1.2, AWP.sub (ofArgs_mem args 0 (by have := Nat.le_of_ble_eq_true hc.2; omega)) (AWP.mid _ ?_ fun _ _ _ h => h)⟩
        split at h
        · rename_i st K hx
          exact (hX _ _ _ _ _ _ _ _ hx).mono fun e s k ⟨h1, h2, h3⟩ => by subst h1 h2 h3; exact finx_ok (.inr rfl) h
        · rename_i st K hx
          exact (hX _ _ _ _ _ _ _ _ hx).mono fun e s k ⟨h1, h2, h3⟩ => by subst h1 h2 h3; exact finx_ok (.inl rfl) h
        · cases h
      · cases h
theorem callx_ok {X : Ev} (hX : X.ok P G) : (callx P X).ok P G := fun f args H p H' h => by
  obtain ⟨fn, code, h1, h2, h3, h4, h5⟩ := callx_run hX h
  exact .run fn code h1 h2 h3 h4 h5
theorem exec_ok {T : Tab} (hT : T.ok P G) : ∀ (N m : Nat), m ≤ N → (exec P G T m).ok P G
  | N, 0, _ => fun _ _ _ _ _ _ _ _ h => by simp [exec] at h
  | 0, m + 1, hm => absurd hm (by omega)
  | N + 1, m + 1, hm => by
    have ih : ∀ m', m' ≤ m → (exec P G T m').ok P G := fun m' h' => exec_ok hT N m' (by omega)
    have hX := ih m (Nat.le_refl _)
    have hE := tabx_ok hT (callx_ok hX)
    intro n0 nt code st H e st' H' h
    simp only [exec] at h
    unfold execS at h
    split at h
    · simp only [Option.some.injEq, Prod.mk.injEq] at h
      obtain ⟨rfl, rfl, rfl⟩ := h
      exact AWP.skip ⟨rfl, rfl, rfl⟩
    · split at h
      · split at h
        · rename_i s1 h1 hs
          simp only [Option.some.injEq, Prod.mk.injEq] at h
          obtain ⟨rfl, rfl, rfl⟩ := h
          exact AWP.region rfl (AOps.sqx hE _ _ _ _ _ hs ⟨rfl, rfl, rfl⟩)
        · cases h
      · split at h
        · rename_i hm
          split at h
          · rename_i s1 h1 hs
            simp only [Option.some.injEq, Prod.mk.injEq] at h
            obtain ⟨rfl, rfl, rfl⟩ := h
            exact AWP.drx hE hm hs ⟨rfl, rfl, rfl⟩
          · cases h
        · cases h
    · rename_i x y
      refine AWP.seq ?_
      split at h
      · rename_i s1 h1 hx
        refine (hX _ _ _ _ _ _ _ _ hx).mono fun e1 s k ⟨g1, g2, g3⟩ => ?_
        subst g1 g2 g3
        exact hX _ _ _ _ _ _ _ _ h
      · rename_i r hne
        refine (hX _ _ _ _ _ _ _ _ h).mono fun e1 s k ⟨g1, g2, g3⟩ => ?_
        subst g1 g2 g3
        cases e1 with
        | normal => exact absurd h (hne _ _)
        | _ => exact ⟨rfl, rfl, rfl⟩
    · rename_i c t e'
      split at h
      · rename_i hc; exact AWP.cT (hX _ _ _ _ _ _ _ _ h) (condSt_opd hc)
      · rename_i hc; exact AWP.cF (hX _ _ _ _ _ _ _ _ h) (condSt_opd hc)
      · cases h
    · rename_i id x
      refine AWP.block ?_
      split at h
      · rename_i j s1 h1 hx
        refine (hX _ _ _ _ _ _ _ _ hx).mono fun e1 s k ⟨g1, g2, g3⟩ => ?_
        subst g1 g2 g3
        simp only [blockQ]
        split at h
        · rename_i hb
          simp only [Option.some.injEq, Prod.mk.injEq] at h
          obtain ⟨rfl, rfl, rfl⟩ := h
          rw [hb]; exact ⟨rfl, rfl, rfl⟩
        · rename_i hb
          simp only [Option.some.injEq, Prod.mk.injEq] at h
          obtain ⟨rfl, rfl, rfl⟩ := h
          rw [hb]; exact ⟨rfl, rfl, rfl⟩
      · rename_i r hne
        refine (hX _ _ _ _ _ _ _ _ h).mono fun e1 s k ⟨g1, g2, g3⟩ => ?_
        subst g1 g2 g3
        cases e1 with
        | exit j => exact absurd h (hne _ _ _)
        | _ => exact ⟨rfl, rfl, rfl⟩
    · rename_i x
      refine AWP.loop (fun n s k => n ≤ m + 1 ∧ ∃ t : Tr, s = t.st ∧ exec P G T n n0 nt (.loop x) t k = some (e, st', H')) (m + 1) ⟨Nat.le_refl _, st, rfl, by simp only [exec]; unfold execS; exact h⟩ ?_
      intro n s k ⟨hn, t, hs, hx⟩
      subst hs
      cases n with
      | zero => simp [exec] at hx
      | succ n =>
        simp only [exec] at hx
        unfold execS at hx
        simp only [] at hx
        split at hx
        · rename_i s1 h1 hb
          refine (ih n (by omega) _ _ _ _ _ _ _ _ hb).mono fun e1 s k ⟨g1, g2, g3⟩ => ?_
          subst g1 g2 g3
          exact ⟨n, by omega, by omega, _, rfl, hx⟩
        · rename_i r hne
          refine (ih n (by omega) _ _ _ _ _ _ _ _ hx).mono fun e1 s k ⟨g1, g2, g3⟩ => ?_
          subst g1 g2 g3
          cases e1 with
          | normal => exact absurd hx (hne _ _)
          | _ => exact ⟨rfl, rfl, rfl⟩
    · simp only [Option.some.injEq, Prod.mk.injEq] at h
      obtain ⟨rfl, rfl, rfl⟩ := h
      exact AWP.exit ⟨rfl, rfl, rfl⟩
    · simp only [Option.some.injEq, Prod.mk.injEq] at h
      obtain ⟨rfl, rfl, rfl⟩ := h
      exact AWP.ret ⟨rfl, rfl, rfl⟩
    · cases h
/-- A function at known arguments, without blocks. -/
def known (P : Program) (G : Glob) (T : Tab) (N : Nat) (f : FuncId) (args : List PV) : Option PV := match callx P (exec P G T N) f args [] with
  | some (p, K) => pureOf K p
  | none => none
theorem ACall.exec {f : FuncId} {args : List PV} {p : PV} {T : Tab} (hT : T.ok P G) (N : Nat) (h : known P G T N f args = some p) : ACall P G f args [] (fun q K => q = p ∧ K = []) ∧ p.ids (fun _ => false) = true := by
  unfold known at h
  split at h
  · rename_i q K hc
    refine ⟨?_, (pureOf_ok (Sub.refl K) h).2⟩
    obtain ⟨fn, code, h1, h2, h3, h4, h5⟩ := callx_run (exec_ok hT N N (Nat.le_refl _)) hc
    refine ACall.of_AWP h1 h2 h4 (h5.mono fun e s k ⟨g1, g2, m, g3, g4, g5⟩ => ?_)
    subst g5
    obtain ⟨k1, k2⟩ := pureOf_ok (take_sub k m) h
    exact ⟨g1, q, p, 0, g2, k1, Nat.le_refl _, Nat.zero_le _, PV.ids_mono (fun j hj => by cases hj) _ k2, by simp, rfl, by simp⟩
  · cases h
theorem Tab.nil : Tab.ok P G [] := fun _ h => by cases h
theorem Tab.cons {f : FuncId} {args : List PV} {p : PV} {T : Tab} (hT : T.ok P G) (N : Nat) (h : known P G T N f args = some p) : Tab.ok P G ((f, args, p) :: T) := fun x hx => by
  rcases List.mem_cons.1 hx with rfl | hx
  · exact ACall.exec hT N h
  · exact hT x hx
end
end Go.AM

/- Code followed by a function over known values, of which a drawn region may end in several ways: every end is followed. No condition. -/
import Derived.Test.YtljabeabddkkbaaGreatDoorBC
namespace Go.AM
section
variable {P : Program} {G : Glob} {n0 nt : Nat} {ops : Array Oper} {st : St} {H : List Blk} {E : Eval}
/-- The text of a drawn region, followed; what is read late is told in pairs. -/
def lateAllE (P : Program) (G : Glob) (ops : Array Oper) (k : Nat) (st0 : Tr) (rs : List (Nat × PV)) (ch : List Nat) (o : Oper) (i : Nat) (p : PV) : Nat → List (List Blk) → Option (List (PV × PV))
  | _, [] => some []
  | t, H :: Hs => match lateAllE P G ops k st0 rs ch o i p (t + 1) Hs with
    | none => none
    | some l => match posOk ops ch i t with
      | false => some l
      | true => match quietx P G true (stx st0 rs (srcs ops k i)) H o with
        | some q => some ((q, p) :: l)
        | none => none
theorem lateAllE_ok {k : Nat} {st0 : Tr} {rs : List (Nat × PV)} {ch : List Nat} {o : Oper} {i : Nat} {p : PV} {res : List PV} (hres : ∀ j p, rs.lookup j = some p → res[j]? = some p) : ∀ (Hs : List (List Blk)) (t0 : Nat) (l : List (PV × PV)), lateAllE P G ops k st0 rs ch o i p t0 Hs = some l → (∀ x ∈ l, x.1 = x.2) →
    ∀ t H, Hs[t]? = some H → posOk ops ch i (t0 + t) = true → OpW P G n0 o (stAt ops k st0.st res i) H p H
  | [], t0, l, _, _, t, H, ht, _ => by simp at ht
  | H0 :: Hs, t0, l, h, hl, t, H, ht, hp => by
    simp only [lateAllE] at h
    split at h
    · cases h
    · rename_i l1 h1
      have key : ∀ x ∈ l1, x ∈ l := fun x hx => by
        split at h
        · simp only [Option.some.injEq] at h; subst h; exact hx
        · split at h
          · simp only [Option.some.injEq] at h; subst h; exact List.mem_cons_of_mem _ hx
          · cases h
      cases t with
      | zero =>
        simp only [List.getElem?_cons_zero, Option.some.injEq] at ht
        subst ht
        rw [Nat.add_zero] at hp
        rw [hp] at h
        simp only [] at h
        split at h
        · rename_i q hq
          simp only [Option.some.injEq] at h; subst h
          have h9 : q = p := hl (q, p) (by simp)
          subst h9
          exact OpW.sub (stx_sub hres) (OpT.of_quiet (Sub.refl _) hq).weak
        · cases h
      | succ t => exact lateAllE_ok hres Hs (t0 + 1) l1 h1 (fun x hx => hl x (key x hx)) t H (by simpa using ht) (by rw [← hp]; congr 1; omega)
def lateOneE (P : Program) (G : Glob) (ops : Array Oper) (k : Nat) (st0 : Tr) (rs : List (Nat × PV)) (ch : List Nat) (Hs : List (List Blk)) (i : Nat) : Option (List (PV × PV)) := match ops[i]?, rs.lookup i with
  | some o, some p => lateAllE P G ops k st0 rs ch o i p 0 Hs
  | _, _ => none
def latesE (f : Nat → Option (List (PV × PV))) : List Nat → Option (List (PV × PV))
  | [] => some []
  | i :: l => match f i with
    | some a => match latesE f l with
      | some b => some (a ++ b)
      | none => none
    | none => none
theorem latesE_ok {f : Nat → Option (List (PV × PV))} : ∀ (l : List Nat) (r : List (PV × PV)), latesE f l = some r → ∀ i ∈ l, ∃ a, f i = some a ∧ ∀ x ∈ a, x ∈ r
  | [], _, _, i, hi => by cases hi
  | j :: l, r, h, i, hi => by
    unfold latesE at h
    split at h
    · rename_i a ha
      split at h
      · rename_i b hb
        simp only [Option.some.injEq] at h; subst h
        rcases List.mem_cons.1 hi with rfl | hi
        · exact ⟨a, ha, fun x hx => List.mem_append_left _ hx⟩
        · obtain ⟨c, h1, h2⟩ := latesE_ok l b hb i hi
          exact ⟨c, h1, fun x hx => List.mem_append_right _ (h2 x hx)⟩
      · cases h
    · cases h
def lateChk (ch : List Nat) (ok : Bool) (f : Nat → Option (List (PV × PV))) (late : List Nat) : Option (List (PV × PV)) := match ch with
  | [] => some []
  | _ => match ok with
    | true => latesE f late
    | false => none
theorem lateChk_ok {ch : List Nat} {ok : Bool} {f : Nat → Option (List (PV × PV))} {late : List Nat} {r : List (PV × PV)} (h : lateChk ch ok f late = some r) : (ch = [] ∨ ok = true) ∧ (ch = [] ∨ ∀ i ∈ late, ∃ a, f i = some a ∧ ∀ x ∈ a, x ∈ r) := by
  unfold lateChk at h
  split at h
  · exact ⟨.inl rfl, .inl rfl⟩
  · split at h
    · exact ⟨.inr rfl, .inr (latesE_ok _ _ h)⟩
    · cases h
def drxE (P : Program) (G : Glob) (E : Eval) (nt : Nat) (ops : Array Oper) (t : Tr) (H : List Blk) : Option ((Tr × List Blk) × List (PV × PV)) :=
  match planS nt ops (planOf ops).k (planOf ops).ord (planOf ops).rk with
  | true => match shareX (planOf ops).keep t H with
    | (t0, H0) => match gox P G E ops (planOf ops).k (planOf ops).cand (planOf ops).give t0 (planOf ops).ord [] [] H0 [] [] with
      | none => none
      | some (rs, Hs, Hf, ch, late) =>
        match lateChk ch (chOk ops ch.reverse (planOf ops).k) (lateOneE P G ops (planOf ops).k t0 rs ch.reverse (Hf :: Hs).reverse) late with
        | some lp => match sqx P G E nt ops (List.range' (planOf ops).k (ops.size - (planOf ops).k)) (putsX ops rs (List.range (planOf ops).k) t0) Hf with
          | some r => some (r, lp)
          | none => none
        | none => none
  | false => none
theorem ADraw.drxE {Q : Exit → St → List Blk → Prop} (hE : E.ok P G) {t t' : Tr} {H' : List Blk} {prs : List (PV × PV)} (h : drxE P G E nt ops t H = some ((t', H'), prs)) (hp9 : ∀ x ∈ prs, x.1 = x.2) (hq : Q .normal t'.st H') : ADraw P G n0 nt ops Q t.st H := by
  unfold AM.drxE at h
  split at h
  · rename_i hp
    unfold planS at hp
    simp only [Bool.and_eq_true] at hp
    obtain ⟨hd, hnd, hall, hds⟩ := hp
    generalize hk : (planOf ops).k = k at *
    generalize ho : (planOf ops).ord = ord at *
    generalize hr : (planOf ops).rk = rk at *
    generalize (planOf ops).cand = cand at *
    generalize (planOf ops).give = give at *
    generalize hs : shareX (planOf ops).keep t H = r at *
    obtain ⟨t0, H0⟩ := r
    simp only [] at h
    split at h
    · cases h
    · rename_i rs Hs Hf ch late hg
      split at h
      · rename_i lp hlp
        split at h
        rotate_left
        · cases h
        rename_i tH hsq
        simp only [Option.some.injEq, Prod.mk.injEq] at h
        obtain ⟨rfl, rfl⟩ := h
        have hc := lateChk_ok hlp
        refine ADraw.le (st' := t0.st) (H' := H0) (fun c a w β _ _ hr => by
          have := shareX_ok (G := G) (planOf ops).keep t H c a w β hr
          rw [hs] at this
          exact this) ?_
        let N := rs.foldr (fun x n => max (x.1 + 1) n) 0
        let res : List PV := (List.range N).map fun i => (rs.lookup i).getD (.sc undef)
        have hres : ∀ j p, rs.lookup j = some p → res[j]? = some p := fun j p hp => by
          have : j < N := key_lt rs j p hp
          simp [res, this, hp]
        have hchk : chOk ops ch.reverse k = true := by
          rcases hc.1 with rfl | h1
          · simp [chOk]
          · exact h1
        obtain ⟨_, ⟨t, g2⟩, ⟨c, g3, g3'⟩, _, g5, g6⟩ := gox_ok (n0 := n0) hE hres rfl rfl ord [] [] H0 [] [] hg (of_decide_eq_true hnd) (fun _ _ => rfl) (fun _ h => by cases h) rfl
        have hdone := gox_done ord [] [] H0 [] [] hg
        have hfree : ∀ i, i < k → FreeOk P G n0 nt ops t0.st res ch.reverse (Hf :: Hs).reverse k i := fun i hi => by
          have hio : i ∈ ord := by
            have := List.all_eq_true.1 hall i (List.mem_range.2 hi)
            simpa using this
          rcases g6 i hio with h1 | ⟨hl, o, p, t, H1, ho, hni, hw, hp, ht, hop⟩
          · exact h1
          · refine .quiet o p ho hni hw hp fun t' H' ht' hpos => ?_
            rcases hc.2 with rfl | h2
            · have hs0 : Hs = [] := List.eq_nil_of_length_eq_zero (by rw [← g5]; rfl)
              subst hs0
              simp only [List.reverse_cons, List.reverse_nil, List.nil_append] at ht ht'
              have e1 : H1 = Hf := one_get ht
              have e2 : H' = Hf := one_get ht'
              subst e1 e2
              exact hop
            · obtain ⟨l1, k1, k2⟩ := h2 i hl
              unfold lateOneE at k1
              rw [ho] at k1
              split at k1
              · rename_i o' p' ho' hp'
                simp only [Option.some.injEq] at ho'; subst ho'
                have h3 := hres _ _ hp'
                rw [hp] at h3
                simp only [Option.some.injEq] at h3; subst h3
                exact lateAllE_ok hres _ 0 l1 k1 (fun x hx => hp9 x (k2 x hx)) t' H' ht' (by rw [Nat.zero_add]; exact hpos)
              · cases k1
        refine ADraw.draw (st0 := t0.st) (res := res) (ch := ch.reverse) (Hs := (Hf :: Hs).reverse) (k := k) (Hf := Hf) (rk := rk) (fun _ h => h) (drawOk_of hd hchk) hfree ?_ ?_ ?_
        · rw [g2]; simp
        · simp [g5]
        · refine AOps.sub ?_ (AOps.sqx hE _ _ _ _ _ hsq hq)
          intro x hx
          have hall' : ∀ j ∈ List.range k, match dstJ ops j with | some d => Nat.blt d 512 = true | none => True := fun j hj => by
            have h3 := List.all_eq_true.1 hds j hj
            cases hdj : dstJ ops j with
            | none => trivial
            | some d => rw [hdj] at h3; exact h3
          rcases putsX_mem _ _ hall' x hx with ⟨j, hj, h1, h2⟩ | ⟨h1, h2⟩
          · refine List.mem_append_left _ (List.mem_filterMap.2 ⟨j, hj, ?_⟩)
            have h1' : (ops[j]?).bind (·.dst) = some x.1 := h1
            rw [h1', hres _ _ h2]
          · refine List.mem_append_right _ (List.mem_filter.2 ⟨h1, List.all_eq_true.2 fun j hj => ?_⟩)
            have hjk : j < k := List.mem_range.1 hj
            obtain ⟨p, hp⟩ := hdone j (by have := List.all_eq_true.1 hall j hj; simpa using this)
            have h9 : ¬ ((ops[j]?).bind (·.dst) = some x.1) := h2 j hj p hp
            simpa using h9
      · cases h
  · cases h

def freePair (ops : Array Oper) : List Nat → Option (Nat × Nat)
  | x :: y :: l => match ops[x]?, ops[y]? with
    | some a, some b => if (bindsOn b).contains x || (bindsOn a).contains y then freePair ops (y :: l) else some (x, y)
    | _, _ => none
  | _ => none
def memsU (ops : Array Oper) : List Nat := (memsOf ops).filter fun i => match ops[i]? with | some o => !isUser o | none => false
def pairOf (ops : Array Oper) : Option (Nat × Nat) := match freePair ops (memsU ops) with
  | some r => some r
  | none => freePair ops (memsOf ops)
/-- A drawn region with all its ends. -/
def drL (P : Program) (G : Glob) (E : Eval) (nt : Nat) : Nat → Array Oper → Tr → List Blk → Option (List (Tr × List Blk) × List (PV × PV))
  | 0, ops, t, H => match drxE P G E nt ops t H with
    | some r => some ([r.1], r.2)
    | none => none
  | f + 1, ops, t, H => match drxE P G E nt ops t H with
    | some r => some ([r.1], r.2)
    | none => match pairOf ops with
      | some (x, y) => match Nat.beq x y with
        | true => none
        | false => match drL P G E nt f (addEdge ops x y) t H with
          | some l1 => match drL P G E nt f (addEdge ops y x) t H with
            | some l2 => some (l1.1 ++ l2.1, l1.2 ++ l2.2)
            | none => none
          | none => none
      | none => none
theorem ADraw.drL (hE : E.ok P G) {Q : Exit → St → List Blk → Prop} : ∀ (f : Nat) (ops : Array Oper) (t : Tr) (H : List Blk) (l : List (Tr × List Blk)) (ps : List (PV × PV)), drL P G E nt f ops t H = some (l, ps) → (∀ x ∈ ps, x.1 = x.2) → (∀ r ∈ l, Q .normal r.1.st r.2) → ADraw P G n0 nt ops Q t.st H
  | 0, ops, t, H, l, ps, h, hps, hq => by
    unfold AM.drL at h
    split at h
    · rename_i r hr
      simp only [Option.some.injEq, Prod.mk.injEq] at h
      obtain ⟨rfl, rfl⟩ := h
      exact ADraw.drxE hE hr hps (hq r.1 (by simp))
    · cases h
  | f + 1, ops, t, H, l, ps, h, hps, hq => by
    unfold AM.drL at h
    split at h
    · rename_i r hr
      simp only [Option.some.injEq, Prod.mk.injEq] at h
      obtain ⟨rfl, rfl⟩ := h
      exact ADraw.drxE hE hr hps (hq r.1 (by simp))
    · split at h
      · rename_i x y _
        split at h
        · cases h
        · rename_i hxy
          split at h
          · rename_i l1 h1
            split at h
            · rename_i l2 h2
              simp only [Option.some.injEq, Prod.mk.injEq] at h
              obtain ⟨rfl, rfl⟩ := h
              exact ADraw.either x y hxy (ADraw.drL hE f _ _ _ _ _ h1 (fun x hx => hps x (List.mem_append_left _ hx)) fun r hr => hq r (List.mem_append_left _ hr)) (ADraw.drL hE f _ _ _ _ _ h2 (fun x hx => hps x (List.mem_append_right _ hx)) fun r hr => hq r (List.mem_append_right _ hr))
            · cases h
          · cases h
      · cases h
abbrev LP := List (Exit × Tr × List Blk) × List (PV × PV)
abbrev EvL := Nat → Nat → Code → Tr → List Blk → Option LP
/-- Every end of the first is followed by the second. -/
def seqL (Y : Tr → List Blk → Option LP) : List (Exit × Tr × List Blk) → Option LP
  | [] => some ([], [])
  | r :: l => match (match r.1 with | .normal => Y r.2.1 r.2.2 | _ => some ([r], [])) with
    | some a => match seqL Y l with
      | some b => some (a.1 ++ b.1, a.2 ++ b.2)
      | none => none
    | none => none
def execL (P : Program) (G : Glob) (T : Tab) (N : Nat) : Nat → EvL
  | 0 => fun _ _ _ _ _ => none
  | n + 1 => fun n0 nt code st H => match code with
    | .seq x y => match execL P G T N n n0 nt x st H with
      | some l => match seqL (execL P G T N n n0 nt y) l.1 with
        | some m => some (m.1, l.2 ++ m.2)
        | none => none
      | none => none
    | .region _ ops true => if P.follows .mixedOrders then match drL P G (tabx P T (callx P (exec P G T N))) nt 8 ops st H with
        | some l => some (l.1.map fun r => (.normal, r.1, r.2), l.2)
        | none => none
      else none
    | .cond c t e => match opd G (condSt st c) c with
      | some (.sc (.bool true)) => execL P G T N n n0 nt t st H
      | some (.sc (.bool false)) => execL P G T N n n0 nt e st H
      | _ => none
    | code => match exec P G T N n0 nt code st H with
      | some r => some ([r], [])
      | none => none
def EvL.ok (P : Program) (G : Glob) (X : EvL) : Prop := ∀ n0 nt code st H l, X n0 nt code st H = some l → (∀ x ∈ l.2, x.1 = x.2) → AWP P G n0 nt code (fun e1 s1 h1 => ∃ r ∈ l.1, e1 = r.1 ∧ s1 = r.2.1.st ∧ h1 = r.2.2) st.st H
theorem seqL_ok {Y : Tr → List Blk → Option LP} : ∀ (l : List (Exit × Tr × List Blk)) (m : LP), seqL Y l = some m → ∀ r ∈ l, (r.1 = .normal → ∃ a, Y r.2.1 r.2.2 = some a ∧ (∀ q ∈ a.1, q ∈ m.1) ∧ ∀ x ∈ a.2, x ∈ m.2) ∧ (r.1 ≠ .normal → r ∈ m.1)
  | [], m, h, r, hr => by cases hr
  | x :: l, m, h, r, hr => by
    unfold seqL at h
    split at h
    · rename_i a ha
      split at h
      · rename_i b hb
        simp only [Option.some.injEq] at h
        subst h
        rcases List.mem_cons.1 hr with rfl | hr
        · refine ⟨fun hn => ?_, fun hn => ?_⟩
          · rw [hn] at ha
            exact ⟨a, ha, fun q hq => List.mem_append_left _ hq, fun q hq => List.mem_append_left _ hq⟩
          · split at ha
            · rename_i he; exact absurd he hn
            · simp only [Option.some.injEq] at ha
              subst ha
              simp
        · obtain ⟨h1, h2⟩ := seqL_ok l b hb r hr
          exact ⟨fun hn => by obtain ⟨c, hc, hd, he⟩ := h1 hn; exact ⟨c, hc, fun q hq => List.mem_append_right _ (hd q hq), fun q hq => List.mem_append_right _ (he q hq)⟩, fun hn => List.mem_append_right _ (h2 hn)⟩
      · cases h
    · cases h
theorem execL_ok {T : Tab} (hT : T.ok P G) (N : Nat) : ∀ (m : Nat), (execL P G T N m).ok P G
  | 0 => fun _ _ _ _ _ _ h => by simp [execL] at h
  | m + 1 => by
    have ih := execL_ok hT N m
    intro n0 nt code st H l h hps
    unfold execL at h
    split at h
    · rename_i x y
      split at h
      · rename_i l1 h1
        split at h
        · rename_i m1 hm1
          simp only [Option.some.injEq] at h
          subst h
          refine AWP.seq ((ih _ _ _ _ _ _ h1 fun x hx => hps x (List.mem_append_left _ hx)).mono fun e1 s k ⟨r, hr, g1, g2, g3⟩ => ?_)
          subst g1 g2 g3
          obtain ⟨k1, k2⟩ := seqL_ok _ _ hm1 r hr
          obtain ⟨e1, t1, H1⟩ := r
          simp only [] at k1 k2 ⊢
          cases e1 with
          | normal =>
            obtain ⟨a, ha, hb, hc⟩ := k1 rfl
            exact (ih _ _ _ _ _ _ ha fun x hx => hps x (List.mem_append_right _ (hc x hx))).mono fun e2 s2 k2 ⟨q, hq, g⟩ => ⟨q, hb q hq, g⟩
          | _ => exact ⟨_, k2 (by simp), rfl, rfl, rfl⟩
        · cases h
      · cases h
    · split at h
      · rename_i hm
        split at h
        · rename_i l1 h1
          simp only [Option.some.injEq] at h
          subst h
          exact AWP.of_draw hm (ADraw.drL (tabx_ok hT (callx_ok (exec_ok hT N N (Nat.le_refl _)))) _ _ _ _ _ _ h1 hps fun r hr => ⟨_, List.mem_map.2 ⟨r, hr, rfl⟩, rfl, rfl, rfl⟩)
        · cases h
      · cases h
    · rename_i c t e'
      split at h
      · rename_i hc; exact AWP.cT (ih _ _ _ _ _ _ h hps) (condSt_opd hc)
      · rename_i hc; exact AWP.cF (ih _ _ _ _ _ _ h hps) (condSt_opd hc)
      · cases h
    · split at h
      · rename_i r hr
        simp only [Option.some.injEq] at h
        subst h
        obtain ⟨e, s, k⟩ := r
        exact (exec_ok hT N N (Nat.le_refl _) _ _ _ _ _ _ _ _ hr).mono fun e1 s1 k1 ⟨g1, g2, g3⟩ => ⟨(e, s, k), by simp, g1, g2, g3⟩
      · cases h
def plainE : Exit → Bool
  | .normal => true
  | .ret => true
  | _ => false
theorem plainE_or {e : Exit} (h : plainE e = true) : e = .normal ∨ e = .ret := by cases e <;> simp_all [plainE]
def endsL (P : Program) (rs : Array ResultVar) (n0 : Nat) (p : PV) : List (Exit × Tr × List Blk) → Bool
  | [] => true
  | r :: l => (match plainE r.1 with
    | false => false
    | true => match finx P rs n0 r.2.1 r.2.2 with
      | some (q, K) => match pureOf K q with
        | some q' => peq q' p
        | none => false
      | none => false) && endsL P rs n0 p l
theorem endsL_ok {rs : Array ResultVar} {p : PV} : ∀ (l : List (Exit × Tr × List Blk)), endsL P rs n0 p l = true → ∀ r ∈ l, (r.1 = .normal ∨ r.1 = .ret) ∧ ∃ q K, finx P rs n0 r.2.1 r.2.2 = some (q, K) ∧ pureOf K q = some p
  | [], _, r, hr => by cases hr
  | x :: l, h, r, hr => by
    unfold endsL at h
    simp only [Bool.and_eq_true] at h
    rcases List.mem_cons.1 hr with rfl | hr
    · have h1 := h.1
      split at h1
      · cases h1
      · rename_i hne
        split at h1
        · rename_i q K hf
          split at h1
          · rename_i q' hq
            exact ⟨plainE_or hne, q, K, hf, by rw [hq, peq_eq _ _ h1]⟩
          · cases h1
        · cases h1
    · exact endsL_ok l h.2 r hr
def knownL (P : Program) (G : Glob) (T : Tab) (N m : Nat) (f : FuncId) (args : List PV) (p : PV) : Option (List (PV × PV)) := match P.funcs[f]? with
  | none => none
  | some fn => match fn.body with
    | none => none
    | some code => match Nat.ble args.length fn.ntmps && Nat.ble args.length 512 with
      | true => match execL P G T N m 0 fn.ntmps code (ofArgs 0 args) [] with
        | some l => match endsL P fn.results 0 p l.1 with
          | true => some l.2
          | false => none
        | none => none
      | false => none
def fsts : List (PV × PV) → List PV
  | [] => []
  | x :: l => x.1 :: fsts l
def snds : List (PV × PV) → List PV
  | [] => []
  | x :: l => x.2 :: snds l
def fstsO (l : Option (List (PV × PV))) : Option (List PV) := match l with
  | some l => some (fsts l)
  | none => none
def sndsO (l : Option (List (PV × PV))) : List PV := match l with
  | some l => snds l
  | none => []
theorem fsts_eq : ∀ (l : List (PV × PV)), fsts l = snds l → ∀ x ∈ l, x.1 = x.2
  | [], _, x, hx => by cases hx
  | y :: l, h, x, hx => by
    simp only [fsts, snds, List.cons.injEq] at h
    rcases List.mem_cons.1 hx with rfl | hx
    · exact h.1
    · exact fsts_eq l h.2 x hx
theorem ACall.execL {f : FuncId} {args : List PV} {p : PV} {T : Tab} (hT : T.ok P G) (N m : Nat) (h : fstsO (knownL P G T N m f args p) = some (sndsO (knownL P G T N m f args p))) : ACall P G f args [] (fun q K => q = p ∧ K = []) := by
  generalize hr : knownL P G T N m f args p = r at h
  cases r with
  | none => simp [fstsO] at h
  | some prs =>
  simp only [fstsO, sndsO, Option.some.injEq] at h
  have hps := fsts_eq _ h
  clear h
  rename knownL P G T N m f args p = some prs => h
  unfold knownL at h
  split at h
  · cases h
  · rename_i fn hfn
    split at h
    · cases h
    · rename_i code hb
      split at h
      · rename_i hc
        simp only [Bool.and_eq_true] at hc
        split at h
        · rename_i l hl
          split at h
          rotate_left
          · cases h
          rename_i hends
          simp only [Option.some.injEq] at h
          subst h
          have h5 := execL_ok hT N m _ _ _ _ _ _ hl hps
          have h6 : AWP P G 0 fn.ntmps code (fun e s k => ∃ q K, InQ P fn.results 0 q K e s k ∧ pureOf K q = some p) (numb 0 args) [] :=
            AWP.sub (ofArgs_mem args 0 (by have := Nat.le_of_ble_eq_true hc.2; omega)) (AWP.mid _ (h5.mono fun e s k ⟨r, hr, g1, g2, g3⟩ => by
              subst g1 g2 g3
              obtain ⟨k1, q, K, k2, k3⟩ := endsL_ok l.1 hends r hr
              obtain ⟨s2, K2, k4, k5⟩ := finx_ok (G := G) (nt := fn.ntmps) (n0 := 0) k1 k2
              exact ⟨s2, K2, k4, q, K, k5, k3⟩) fun _ _ _ h => h)
          refine ACall.of_AWP hfn hb (Nat.le_of_ble_eq_true hc.1) (h6.mono fun e s k ⟨q, K, ⟨g1, g2, m, g3, g4, _, g5⟩, hp⟩ => ?_)
          subst g5
          obtain ⟨k1, k2⟩ := pureOf_ok (take_sub k m) hp
          exact ⟨g1, q, p, 0, g2, k1, Nat.le_refl _, Nat.zero_le _, PV.ids_mono (fun j hj => by cases hj) _ k2, by simp, rfl, by simp⟩
        · cases h
      · cases h
end
end Go.AM

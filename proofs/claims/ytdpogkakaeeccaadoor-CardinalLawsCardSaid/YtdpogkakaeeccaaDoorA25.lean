/- Code followed by a function over known values: regions in order and drawn ones, calls in place. No condition. -/
import Derived.Test.YtdpogkakaeeccaaDoorA24
namespace Go.AM
/-! ### States as trees -/
inductive D8 where
  | d0 | d1 | d2 | d3 | d4 | d5 | d6 | d7
inductive N8 (α : Type) where
  | mk (a b c d e f g h : α)
def N8.get {α : Type} (t : N8 α) (i : D8) : α := N8.casesOn (motive := fun _ => α) t fun a b c d e f g h => D8.casesOn (motive := fun _ => α) i a b c d e f g h
def N8.set {α : Type} (t : N8 α) (i : D8) (x : α) : N8 α := N8.casesOn (motive := fun _ => N8 α) t fun a b c d e f g h => D8.casesOn (motive := fun _ => N8 α) i (.mk x b c d e f g h) (.mk a x c d e f g h) (.mk a b x d e f g h) (.mk a b c x e f g h) (.mk a b c d x f g h) (.mk a b c d e x g h) (.mk a b c d e f x h) (.mk a b c d e f g x)
theorem N8.get_set {α : Type} (t : N8 α) (i : D8) (x : α) : (t.set i x).get i = x := by cases t; cases i <;> rfl
theorem N8.get_set_ne {α : Type} (t : N8 α) {i j : D8} (x : α) (h : j ≠ i) : (t.set i x).get j = t.get j := by
  cases t; cases i <;> cases j <;> first | rfl | exact absurd rfl h
inductive Pa where
  | mk (x y z : D8)
abbrev Tr := N8 (N8 (N8 (Option PV)))
def N8.all {α : Type} (x : α) : N8 α := .mk x x x x x x x x
def Tr.e : Tr := .all (.all (.all none))
def Tr.get (t : Tr) (π : Pa) : Option PV := Pa.casesOn (motive := fun _ => Option PV) π fun x y z => N8.get (N8.get (N8.get t x) y) z
def Tr.put (t : Tr) (p : PV) (π : Pa) : Tr := Pa.casesOn (motive := fun _ => Tr) π fun x y z => N8.set t x (N8.set (N8.get t x) y (N8.set (N8.get (N8.get t x) y) z (some p)))
def dig : Nat → D8
  | 0 => .d0
  | 1 => .d1
  | 2 => .d2
  | 3 => .d3
  | 4 => .d4
  | 5 => .d5
  | 6 => .d6
  | _ => .d7
def undig : D8 → Nat
  | .d0 => 0 | .d1 => 1 | .d2 => 2 | .d3 => 3 | .d4 => 4 | .d5 => 5 | .d6 => 6 | .d7 => 7
theorem undig_dig : ∀ (n : Nat), n < 8 → undig (dig n) = n
  | 0, _ => rfl
  | 1, _ => rfl
  | 2, _ => rfl
  | 3, _ => rfl
  | 4, _ => rfl
  | 5, _ => rfl
  | 6, _ => rfl
  | 7, _ => rfl
  | n + 8, h => by omega
theorem dig_inj {m n : Nat} (hm : m < 8) (hn : n < 8) (h : dig m = dig n) : m = n := by rw [← undig_dig m hm, ← undig_dig n hn, h]
def path (k : Nat) : Pa := .mk (dig (k / 64)) (dig (k / 8 % 8)) (dig (k % 8))
theorem path_inj {j k : Nat} (hj : j < 512) (hk : k < 512) (h : path j = path k) : j = k := by
  simp only [path, Pa.mk.injEq] at h
  have h1 := dig_inj (by omega) (by omega) h.1
  have h2 := dig_inj (by omega) (by omega) h.2.1
  have h3 := dig_inj (by omega) (by omega) h.2.2
  omega
theorem Tr.get_e (π : Pa) : Tr.get .e π = none := by cases π with | mk x y z => cases x <;> cases y <;> cases z <;> rfl
theorem Tr.get_put (π : Pa) (t : Tr) (p : PV) : (t.put p π).get π = some p := by
  cases π with | mk x y z => simp only [Tr.get, Tr.put, N8.get_set]
theorem Tr.get_put_ne (π π' : Pa) (t : Tr) (p : PV) (h : π' ≠ π) : (t.put p π).get π' = t.get π' := by
  cases π with | mk x y z =>
  cases π' with | mk x' y' z' =>
  simp only [Tr.get, Tr.put]
  by_cases hx : x' = x
  · subst hx
    rw [N8.get_set]
    by_cases hy : y' = y
    · subst hy
      rw [N8.get_set, N8.get_set_ne]
      intro hz
      exact h (by rw [hz])
    · rw [N8.get_set_ne _ _ hy]
  · rw [N8.get_set_ne _ _ hx]
def Tr.stN (N : Nat) (t : Tr) : St := (List.range N).filterMap fun k => (t.get (path k)).map fun p => (k, p)
/-- The state that a tree stands for. -/
@[irreducible] def Tr.st (t : Tr) : St := t.stN 512
theorem mem_stN {t : Tr} {N : Nat} {x : Nat × PV} : x ∈ t.stN N ↔ x.1 < N ∧ t.get (path x.1) = some x.2 := by
  simp only [Tr.stN, List.mem_filterMap, List.mem_range, Option.map_eq_some_iff]
  constructor
  · rintro ⟨k, h1, p, h2, rfl⟩; exact ⟨h1, h2⟩
  · rintro ⟨h1, h2⟩; exact ⟨x.1, h1, x.2, h2, rfl⟩
theorem mem_st {t : Tr} {x : Nat × PV} : x ∈ t.st ↔ x.1 < 512 ∧ t.get (path x.1) = some x.2 := by
  unfold Tr.st; exact mem_stN
theorem lookup_range {g : Nat → Option PV} {k : Nat} : ∀ (N : Nat), ((List.range N).filterMap fun k => (g k).map fun p => (k, p)).lookup k = if k < N then g k else none
  | 0 => by simp
  | N + 1 => by
    rw [List.range_succ, List.filterMap_append, List.lookup_append, lookup_range N]
    by_cases hk : k < N
    · simp only [hk, if_true, show k < N + 1 by omega]
      cases hg : g k with
      | some p => rfl
      | none =>
        simp only [List.filterMap_cons, List.filterMap_nil, Option.none_or]
        cases hN : g N with
        | none => rfl
        | some q =>
          have : (k == N) = false := by simpa using (by omega : k ≠ N)
          simp [List.lookup, this]
    · simp only [hk, if_false, Option.none_or, List.filterMap_cons, List.filterMap_nil]
      by_cases hkN : k = N
      · subst hkN
        cases hg : g k with
        | none => simp
        | some q => simp
      · have h2 : ¬ k < N + 1 := by omega
        simp only [h2, if_false]
        cases hN : g N with
        | none => rfl
        | some q =>
          have : (k == N) = false := by simpa using hkN
          simp [List.lookup, this]
theorem get_stN {t : Tr} {N k : Nat} : (t.stN N).get k = if k < N then t.get (path k) else none := lookup_range N
theorem get_st {t : Tr} {k : Nat} : t.st.get k = if k < 512 then t.get (path k) else none := by unfold Tr.st; exact get_stN
/-- What is read in a slot. -/
def Tr.at (t : Tr) (k : Nat) : Option PV := match Nat.blt k 512 with
  | true => t.get (path k)
  | false => none
theorem at_st {t : Tr} {k : Nat} : t.at k = t.st.get k := by
  rw [get_st]
  unfold Tr.at
  split
  · rename_i h; rw [if_pos (Nat.blt_eq ▸ h)]
  · rename_i h; rw [if_neg fun hk => by have hk' : Nat.blt k 512 = true := Nat.blt_eq ▸ hk; rw [h] at hk'; cases hk']
theorem at_mem {t : Tr} {k : Nat} {p : PV} (h : t.at k = some p) : (k, p) ∈ t.st := lookup_mem _ _ _ (by rw [at_st] at h; exact h)
def Tr.pick (t : Tr) (ks : List Nat) : St := ks.filterMap fun k => (t.at k).map fun p => (k, p)
theorem pick_mem {t : Tr} {ks : List Nat} : ∀ x ∈ t.pick ks, t.at x.1 = some x.2 := fun x hx => by
  obtain ⟨k, _, h⟩ := List.mem_filterMap.1 hx
  simp only [Option.map_eq_some_iff] at h
  obtain ⟨p, hp, rfl⟩ := h
  exact hp
theorem pick_sub {t : Tr} {ks : List Nat} : ∀ x ∈ t.pick ks, x ∈ t.st := fun x hx => at_mem (pick_mem x hx)
theorem pick_get {t : Tr} {ks : List Nat} {k : Nat} {p : PV} (h : (t.pick ks).get k = some p) : t.st.get k = some p := by
  rw [← at_st]; exact pick_mem (k, p) (lookup_mem _ _ _ h)
def Tr.putD (t : Tr) (d : Option Nat) (p : PV) : Tr := match d with
  | some k => t.put p (path k)
  | none => t
def dstT (o : Oper) : Bool := match o.dst with | some d => Nat.blt d 512 | none => true
theorem put_mem {t : Tr} {k : Nat} {p : PV} (hk : k < 512) : ∀ x ∈ (t.put p (path k)).st, x ∈ t.st.put k p := fun x hx => by
  obtain ⟨h1, h2⟩ := mem_st.1 hx
  by_cases he : x.1 = k
  · rw [he, Tr.get_put] at h2
    simp only [Option.some.injEq] at h2
    exact List.mem_cons.2 (.inl (by rw [← he, h2]))
  · rw [Tr.get_put_ne _ _ _ _ fun e => he (path_inj h1 hk e)] at h2
    refine List.mem_cons_of_mem _ (List.mem_filter.2 ⟨mem_st.2 ⟨h1, h2⟩, by simpa using he⟩)
theorem putD_mem {t : Tr} {o : Oper} {p : PV} (hk : dstT o = true) : ∀ x ∈ (t.putD o.dst p).st, x ∈ t.st.putD o.dst p := by
  unfold dstT at hk
  unfold Tr.putD St.putD
  cases hd : o.dst with
  | none => exact fun x hx => hx
  | some d => rw [hd] at hk; exact put_mem (by have := Nat.blt_eq ▸ hk; simpa using this)
abbrev Ev := Nat → Nat → Code → Tr → List Blk → Option (Exit × Tr × List Blk)
section
variable {P : Program} {G : Glob} {n0 nt : Nat} {o : Oper} {st : St} {H : List Blk} {ops : Array Oper} {Q : Exit → St → List Blk → Prop} {E : Eval}

/-! ### Regions in order -/
def opx (P : Program) (G : Glob) (E : Eval) (ops : Array Oper) (lit : Bool) (st : St) (H : List Blk) (o : Oper) : Option (PV × List Blk) := match quietx P G lit st H o with
  | some p => some (p, H)
  | none => chainx P G E ops st H o
theorem OpW.of_opx (hE : E.ok P G) {lit : Bool} {p : PV} {H' : List Blk} (h : opx P G E ops lit st H o = some (p, H')) : OpW P G n0 o st H p H' := by
  unfold opx at h
  split at h
  · rename_i q hq
    simp only [Option.some.injEq, Prod.mk.injEq] at h
    obtain ⟨rfl, rfl⟩ := h
    exact (OpT.of_quiet (Sub.refl _) hq).weak
  · exact OpW.of_chain hE h
theorem OpW.sub {st' : St} {p : PV} {H' : List Blk} (hs : ∀ x ∈ st', x ∈ st) (h : OpW P G n0 o st' H p H') : OpW P G n0 o st H p H' := OpW.pre (fun _ _ _ β hr => ⟨β, hr.sub hs⟩) h
theorem wantA_mono {st' : St} {b : Bool} (hg : ∀ t p, st'.get t = some p → st.get t = some p) (h : wantA ops st' o = some b) : wantA ops st o = some b := by
  unfold wantA at h ⊢
  split at h
  · exact h
  · rename_i j want hgd
    split at h
    · rename_i d hd
      split at h
      · rename_i b' hb; rw [hg _ _ hb]; exact h
      · rename_i ts hb; rw [hg _ _ hb]; exact h
      · cases h
    · cases h
def bnd (ops : Array Oper) (i : Nat) : List Nat := ((ops[i]?).map bindsOn).getD []
def dstJ (ops : Array Oper) (j : Nat) : Option Nat := (ops[j]?).bind (·.dst)
def keysOf (ops : Array Oper) (o : Oper) : List Nat := match o.guard with
  | none => readsOf o
  | some (j, _) => match dstJ ops j with
    | some d => d :: readsOf o
    | none => readsOf o
def sqx (P : Program) (G : Glob) (E : Eval) (nt : Nat) (ops : Array Oper) : List Nat → Tr → List Blk → Option (Tr × List Blk)
  | [], t, H => some (t, H)
  | i :: l, t, H => match ops[i]? with
    | none => none
    | some o => match dstOk nt o && dstT o with
      | true => match wantA ops (t.pick (keysOf ops o)) o with
        | some true => match opx P G E ops (tempLit ops o) (t.pick (keysOf ops o)) H o with
          | some (p, H') => sqx P G E nt ops l (t.putD o.dst p) H'
          | none => none
        | some false => sqx P G E nt ops l (t.putD o.dst (.sc undef)) H
        | none => none
      | false => none
theorem AOps.sqx (hE : E.ok P G) : ∀ (l : List Nat) (t : Tr) (H : List Blk) (t' : Tr) (H' : List Blk), sqx P G E nt ops l t H = some (t', H') → Q .normal t'.st H' → AOps P G n0 nt ops l Q t.st H
  | [], t, H, t', H', h, hq => by
    simp only [AM.sqx, Option.some.injEq, Prod.mk.injEq] at h
    obtain ⟨rfl, rfl⟩ := h
    exact AOps.nil hq
  | i :: l, t, H, t', H', h, hq => by
    simp only [AM.sqx] at h
    split at h
    · cases h
    · rename_i o ho
      split at h
      · rename_i hd
        simp only [Bool.and_eq_true] at hd
        split at h
        · rename_i hw
          split at h
          · rename_i p H1 hp
            exact AOps.cons ho hd.1 (wantA_mono (fun _ _ => pick_get) hw) (OpW.sub pick_sub (OpW.of_opx hE hp)) (AOps.sub (putD_mem hd.2) (AOps.sqx hE l _ _ _ _ h hq))
          · cases h
        · rename_i hw; exact AOps.skip ho hd.1 (wantA_mono (fun _ _ => pick_get) hw) (AOps.sub (putD_mem hd.2) (AOps.sqx hE l _ _ _ _ h hq))
        · cases h
      · cases h

/-! ### Calls that need no blocks -/
def pure1 (K : List Blk) (p : PV) : Option PV := match p with
  | .own i n => match K[i]? with
    | some (.buf s _ xs _) => if Nat.beq n xs.length then some (.sl s xs) else none
    | _ => none
  | p => if p.ids (fun _ => false) then some p else none
def pureL (K : List Blk) : List PV → Option (List PV)
  | [] => some []
  | p :: ps => match pure1 K p, pureL K ps with
    | some q, some qs => some (q :: qs)
    | _, _ => none
def pureOf (K : List Blk) (p : PV) : Option PV := match p with
  | .tup ps => (pureL K ps).map .tup
  | _ => pure1 K p
theorem pure1_ok {K K' : List Blk} (hK : Sub K K') {p q : PV} (h : pure1 K p = some q) : Wk K' true p q ∧ q.ids (fun _ => false) = true := by
  unfold pure1 at h
  split at h
  · rename_i i n
    split at h
    · rename_i s t xs sh hb
      split at h
      · rename_i hn
        have hn := Nat.eq_of_beq_eq_true hn
        simp only [Option.some.injEq] at h; subst h
        subst hn
        exact ⟨.own i s t xs sh (hK _ _ hb) (.inl rfl), rfl⟩
      · cases h
    · cases h
  · split at h
    · rename_i hc
      simp only [Option.some.injEq] at h; subst h
      exact ⟨.refl _, hc⟩
    · cases h
theorem pureL_ok {K K' : List Blk} (hK : Sub K K') : ∀ (ps qs : List PV), pureL K ps = some qs → Wks K' true ps qs ∧ PV.idss (fun _ => false) qs = true
  | [], qs, h => by
    simp only [pureL, Option.some.injEq] at h; subst h
    exact ⟨.nil, rfl⟩
  | p :: ps, qs, h => by
    simp only [pureL] at h
    split at h
    · rename_i q qs' h1 h2
      simp only [Option.some.injEq] at h; subst h
      obtain ⟨g1, g2⟩ := pure1_ok hK h1
      obtain ⟨g3, g4⟩ := pureL_ok hK ps _ h2
      exact ⟨.cons _ _ _ _ g1 g3, by simp only [PV.idss, g2, g4, Bool.and_self]⟩
    · cases h
theorem pureOf_ok {K K' : List Blk} (hK : Sub K K') {p q : PV} (h : pureOf K p = some q) : WkR K' p q ∧ q.ids (fun _ => false) = true := by
  unfold pureOf at h
  split at h
  · simp only [Option.map_eq_some_iff] at h
    obtain ⟨qs, h1, rfl⟩ := h
    obtain ⟨g1, g2⟩ := pureL_ok hK _ _ h1
    exact ⟨.inr ⟨_, _, rfl, rfl, g1⟩, by simpa only [PV.ids] using g2⟩
  · obtain ⟨g1, g2⟩ := pure1_ok hK h
    exact ⟨.inl g1, g2⟩
theorem take_sub (K : List Blk) (m : Nat) : Sub (K.take m) K := fun i b h => by
  rw [List.getElem?_take] at h
  split at h
  · exact h
  · cases h
theorem wks_free {K H : List Blk} {any : Bool} : ∀ (ps qs : List PV), PV.idss (fun _ => false) ps = true → Wks K any ps qs → Wks H any ps qs
  | [], _, _, h => by cases h; exact .nil
  | p :: ps, _, hi, h => by
    cases h with
    | cons p q ps qs h1 h2 =>
      simp only [PV.idss, Bool.and_eq_true] at hi
      refine .cons _ _ _ _ ?_ (wks_free ps qs hi.2 h2)
      cases h1 with
      | refl => exact .refl _
      | nil s => exact .nil s
      | own i s t xs sh hb hs => exact absurd hi.1 (by simp [PV.ids])
theorem pure1_free {K : List Blk} {p q : PV} (hp : p.ids (fun _ => false) = true) (h : pure1 K p = some q) : q = p := by
  unfold pure1 at h
  split at h
  · simp [PV.ids] at hp
  · rw [if_pos hp] at h; simpa using h.symm
theorem pureL_free {K : List Blk} : ∀ (ps qs : List PV), PV.idss (fun _ => false) ps = true → pureL K ps = some qs → qs = ps
  | [], qs, _, h => by simpa [pureL] using h.symm
  | p :: ps, qs, hi, h => by
    simp only [PV.idss, Bool.and_eq_true] at hi
    simp only [pureL] at h
    split at h
    · rename_i q qs' h1 h2
      simp only [Option.some.injEq] at h; subst h
      rw [pure1_free hi.1 h1, pureL_free ps _ hi.2 h2]
    · cases h
theorem pureOf_free {K : List Blk} {p q : PV} (hp : p.ids (fun _ => false) = true) (h : pureOf K p = some q) : q = p := by
  unfold pureOf at h
  split at h
  · simp only [Option.map_eq_some_iff] at h
    obtain ⟨qs, h1, rfl⟩ := h
    simp only [PV.ids] at hp
    rw [pureL_free _ _ hp h1]
  · exact pure1_free hp h
theorem ICall.toA {f : FuncId} {args : List PV} {p q : PV} {K : List Blk} (h : ICall P G f args [] p K) (hp : pureOf K p = some q) : ∃ fn qs, P.funcs[f]? = some fn ∧ fn.body.isNone = false ∧ (fn.name == "runtime.NumGoroutine") = false ∧
    (∀ H : List Blk, PV.idss (fun _ => false) args = true → Wks H false args qs) ∧ (PV.idss (fun _ => false) args = true → PV.idss (fun _ => false) qs = true) ∧ ACall P G f qs [] (fun r K => r = q ∧ K = []) := by
  cases h with
  | run fn code h1 h2 h3 h4 h5 =>
    refine ⟨fn, args, h1, by rw [h2]; rfl, h3, fun H _ => Wks.refl _ _ _, fun h => h, ACall.of_AWP h1 h2 h4 (h5.mono fun e s k ⟨g1, g2, m, g3, g4, g5⟩ => ?_)⟩
    subst g5
    obtain ⟨k1, k2⟩ := pureOf_ok (take_sub k m) hp
    exact ⟨g1, p, q, 0, g2, k1, Nat.le_refl _, Nat.zero_le _, PV.ids_mono (fun j hj => by cases hj) _ k2, by simp, rfl, by simp⟩
  | known fn qs h1 h2 h3 hle hw h4 h5 ha =>
    refine ⟨fn, qs, h1, h2, h3, fun H hi => wks_free args qs hi hw, fun _ => h4, ?_⟩
    have : q = p := by
      obtain ⟨g1, g2⟩ := pureOf_ok (Sub.refl K) hp
      exact pureOf_free h5 hp
    rw [this]; exact ha
/-- A call that needs no blocks. -/
def pcall (P : Program) (G : Glob) (E : Eval) (st : St) (o : Oper) : Option PV := match o.op with
  | .call cl => match cl.callee with
    | .value x => match opd G st x, opdL G st cl.args.toList with
      | some px, some ps => match funOf px with
        | some (f, caps) => if PV.idss (fun _ => false) (ps ++ caps) then match E f (ps ++ caps) [] with
            | some (p, K) => pureOf K p
            | none => none
          else none
        | none => none
      | _, _ => none
    | _ => none
  | _ => none
theorem OpT.pcall (hE : E.ok P G) {p : PV} (h : pcall P G E st o = some p) : OpT P G n0 o st H p H := by
  unfold AM.pcall at h
  split at h
  · rename_i cl ho
    split at h
    · rename_i x hcl
      split at h
      · rename_i px ps hx hps
        split at h
        · rename_i f caps hf
          split at h
          · rename_i hids
            split at h
            · rename_i q K he
              obtain ⟨fn, qs, h1, h2, h3, h4, h5, ha⟩ := (hE _ _ _ _ _ he).toA h
              have hq : p.ids (fun _ => false) = true := (pureOf_ok (Sub.refl _) h).2
              refine OpT.callV ho hcl ?_ h1 h2 h3 (opdL_spec _ _ hps) (h4 H hids) (h5 hids) hq ha
              unfold funOf at hf
              split at hf
              · simp only [Option.some.injEq, Prod.mk.injEq] at hf
                obtain ⟨rfl, rfl⟩ := hf
                exact .inl ⟨hx, rfl⟩
              · simp only [Option.some.injEq, Prod.mk.injEq] at hf
                obtain ⟨rfl, rfl⟩ := hf
                exact .inr hx
              · cases hf
            · cases h
          · cases h
        · cases h
      · cases h
    · cases h
  · cases h
/-- An operation that needs no blocks and leaves them. -/
def freex (P : Program) (G : Glob) (E : Eval) (st : St) (o : Oper) : Option PV := match quietx P G true st [] o with
  | some p => some p
  | none => pcall P G E st o
theorem OpW.of_free (hE : E.ok P G) {p : PV} (h : freex P G E st o = some p) : OpW P G n0 o st H p H := by
  unfold freex at h
  split at h
  · rename_i q hq
    simp only [Option.some.injEq] at h; subst h
    exact (OpT.of_quiet (Sub.nil _) hq).weak
  · exact (OpT.pcall hE h).weak

/-! ### Drawn regions -/
/-- Where operation i reads a slot: in what an operation before it yields, or in the state before the region. -/
def srcOf (ops : Array Oper) (k i t : Nat) : Option (Option Nat) := match (bnd ops i).find? (fun j => dstJ ops j == some t) with
  | some j => some (some j)
  | none => if (List.range k).all (fun j => dstJ ops j != some t || (bnd ops j).contains i) then some none else none
def srcs (ops : Array Oper) (k i : Nat) : List (Nat × Option Nat) := match ops[i]? with
  | none => []
  | some o => (keysOf ops o).filterMap fun t => (srcOf ops k i t).map fun s => (t, s)
def stx (t0 : Tr) (rs : List (Nat × PV)) (l : List (Nat × Option Nat)) : St := l.filterMap fun x => match x.2 with
  | some j => (rs.lookup j).map fun p => (x.1, p)
  | none => (t0.at x.1).map fun p => (x.1, p)
theorem find_lookup {f : Nat → Option Nat} {r : Nat → Option PV} {t j : Nat} {p : PV} : ∀ (l : List Nat), l.find? (fun j => f j == some t) = some j → r j = some p →
    (l.filterMap fun j => match f j, r j with | some d, some p => some (d, p) | _, _ => none).lookup t = some p
  | [], h, _ => by simp at h
  | b :: l, h, hr => by
    simp only [List.find?_cons] at h
    by_cases hb : f b = some t
    · simp only [hb, beq_self_eq_true, Option.some.injEq] at h
      subst h
      simp [List.filterMap_cons, hb, hr]
    · have hb' : (f b == some t) = false := by simpa using hb
      simp only [hb'] at h
      have ih := find_lookup l h hr
      rw [List.filterMap_cons]
      cases hf : f b with
      | none => simpa [hf] using ih
      | some d =>
        cases hr' : r b with
        | none => simpa [hf, hr'] using ih
        | some q =>
          have : (t == d) = false := by
            have : d ≠ t := fun e => hb (by rw [hf, e])
            simpa using fun e : t = d => this e.symm
          simp only [List.lookup, this]
          exact ih
theorem find_none {f : Nat → Option Nat} {r : Nat → Option PV} {t : Nat} : ∀ (l : List Nat), l.find? (fun j => f j == some t) = none →
    (l.filterMap fun j => match f j, r j with | some d, some p => some (d, p) | _, _ => none).lookup t = none
  | [], _ => by simp
  | b :: l, h => by
    simp only [List.find?_cons] at h
    by_cases hb : f b = some t
    · simp [hb] at h
    · have hb' : (f b == some t) = false := by simpa using hb
      simp only [hb'] at h
      have ih := find_none (r := r) l h
      rw [List.filterMap_cons]
      cases hf : f b with
      | none => simpa [hf] using ih
      | some d =>
        cases hr' : r b with
        | none => simpa [hf, hr'] using ih
        | some q =>
          have : (t == d) = false := by
            have : d ≠ t := fun e => hb (by rw [hf, e])
            simpa using fun e : t = d => this e.symm
          simp only [List.lookup, this]
          exact ih
theorem lookup_filter {g : Nat → Bool} {t : Nat} (hg : g t = true) : ∀ (l : St), (l.filter fun x => g x.1).lookup t = l.lookup t
  | [] => rfl
  | (j, q) :: l => by
    have ih := lookup_filter hg l
    by_cases hj : g j = true
    · rw [List.filter_cons_of_pos (by simpa using hj)]
      simp only [List.lookup]
      rw [ih]
    · rw [List.filter_cons_of_neg (by simpa using hj), ih]
      have : (t == j) = false := by simpa using fun e : t = j => hj (e ▸ hg)
      simp only [List.lookup, this]
theorem lookup_app {α : Type} {t : Nat} : ∀ (a b : List (Nat × α)), (a ++ b).lookup t = match a.lookup t with | some p => some p | none => b.lookup t
  | [], b => by simp
  | (j, q) :: a, b => by
    simp only [List.cons_append, List.lookup]
    split
    · rfl
    · exact lookup_app a b
theorem src_get {st0 : St} {res : List PV} {rs : List (Nat × PV)} {k i t : Nat} (hres : ∀ j p, rs.lookup j = some p → res[j]? = some p) {s : Option Nat} {p : PV} (hs : srcOf ops k i t = some s)
    (hp : (match s with | some j => rs.lookup j | none => st0.get t) = some p) : (stAt ops k st0 res i).get t = some p := by
  have hA : stAt ops k st0 res i = ((bnd ops i).filterMap fun j => match dstJ ops j, res[j]? with | some d, some p => some (d, p) | _, _ => none) ++ st0.filter fun x => (List.range k).all fun j => dstJ ops j != some x.1 || (bnd ops j).contains i := rfl
  unfold srcOf at hs
  rw [hA, St.get, lookup_app]
  split at hs
  · rename_i j hj
    simp only [Option.some.injEq] at hs; subst hs
    rw [find_lookup (r := fun j => res[j]?) _ hj (hres _ _ hp)]
  · rename_i hn
    split at hs
    · rename_i hc
      simp only [Option.some.injEq] at hs; subst hs
      rw [find_none (r := fun j => res[j]?) _ hn]
      simp only []
      rw [lookup_filter (g := fun y => (List.range k).all fun j => dstJ ops j != some y || (bnd ops j).contains i) hc]
      exact hp
    · cases hs
theorem stx_mem {st0 : Tr} {res : List PV} {rs : List (Nat × PV)} {k i : Nat} (hres : ∀ j p, rs.lookup j = some p → res[j]? = some p) : ∀ x ∈ stx st0 rs (srcs ops k i), (stAt ops k st0.st res i).get x.1 = some x.2 := by
  intro x hx
  obtain ⟨y, hy, hxy⟩ := List.mem_filterMap.1 hx
  unfold srcs at hy
  split at hy
  · cases hy
  · rename_i o ho
    obtain ⟨t, ht, hty⟩ := List.mem_filterMap.1 hy
    simp only [Option.map_eq_some_iff] at hty
    obtain ⟨s, hs, rfl⟩ := hty
    simp only [] at hxy
    cases s with
    | none => simp only [Option.map_eq_some_iff] at hxy; obtain ⟨p, hp, rfl⟩ := hxy; exact src_get hres hs (by rw [← at_st]; exact hp)
    | some j => simp only [Option.map_eq_some_iff] at hxy; obtain ⟨p, hp, rfl⟩ := hxy; exact src_get hres hs hp
theorem stx_get {st0 : Tr} {res : List PV} {rs : List (Nat × PV)} {k i : Nat} (hres : ∀ j p, rs.lookup j = some p → res[j]? = some p) {t : Nat} {p : PV} (h : (stx st0 rs (srcs ops k i)).get t = some p) : (stAt ops k st0.st res i).get t = some p :=
  stx_mem hres _ (lookup_mem _ _ _ h)
theorem stx_sub {st0 : Tr} {res : List PV} {rs : List (Nat × PV)} {k i : Nat} (hres : ∀ j p, rs.lookup j = some p → res[j]? = some p) : ∀ x ∈ stx st0 rs (srcs ops k i), x ∈ stAt ops k st0.st res i := fun x hx =>
  lookup_mem _ _ _ (stx_mem hres x hx)
def opy (P : Program) (G : Glob) (E : Eval) (ops : Array Oper) (give : Bool) (st : St) (H : List Blk) (o : Oper) : Option (PV × List Blk) := match opx P G E ops false st H o with
  | some (p, H') => match give with
    | true => some (shareP p H')
    | false => some (p, H')
  | none => none
theorem OpW.of_opy (hE : E.ok P G) {give : Bool} {p : PV} {H' : List Blk} (h : opy P G E ops give st H o = some (p, H')) : OpW P G n0 o st H p H' := by
  unfold opy at h
  split at h
  · rename_i q K hq
    split at h
    · have := (OpW.of_opx (n0 := n0) hE hq).shared
      simp only [Option.some.injEq] at h
      rw [h] at this
      exact this
    · simp only [Option.some.injEq, Prod.mk.injEq] at h
      obtain ⟨rfl, rfl⟩ := h
      exact OpW.of_opx hE hq
  · cases h
/-- The free operations of a drawn region: yields, blocks before each of the chain (the last first), blocks now, the chain (the last first), those that read blocks. -/
def gox (P : Program) (G : Glob) (E : Eval) (ops : Array Oper) (k : Nat) (cand give : List Nat) (st0 : Tr) : List Nat → List (Nat × PV) → List (List Blk) → List Blk → List Nat → List Nat → Option (List (Nat × PV) × List (List Blk) × List Blk × List Nat × List Nat)
  | [], rs, Hs, H, ch, late => some (rs, Hs, H, ch, late)
  | i :: l, rs, Hs, H, ch, late => match ops[i]? with
    | none => none
    | some o => match wantA ops (stx st0 rs (srcs ops k i)) o with
      | none => none
      | some false => gox P G E ops k cand give st0 l ((i, .sc undef) :: rs) Hs H ch late
      | some true => if cand.contains i then (match opy P G E ops (give.contains i) (stx st0 rs (srcs ops k i)) H o with
          | some (p, H') => gox P G E ops k cand give st0 l ((i, p) :: rs) (H :: Hs) H' (i :: ch) late
          | none => none)
        else match freex P G E (stx st0 rs (srcs ops k i)) o with
          | some p => gox P G E ops k cand give st0 l ((i, p) :: rs) Hs H ch late
          | none => match quietx P G true (stx st0 rs (srcs ops k i)) H o with
            | some p => gox P G E ops k cand give st0 l ((i, p) :: rs) Hs H ch (i :: late)
            | none => none
def LateOk (P : Program) (G : Glob) (n0 : Nat) (ops : Array Oper) (k : Nat) (st0 : Tr) (res : List PV) (ch : List Nat) (Hs : List (List Blk)) (i : Nat) : Prop :=
  ∃ o p, ∃ t : Nat, ∃ H, ops[i]? = some o ∧ i ∉ ch ∧ wantA ops (stAt ops k st0.st res i) o = some true ∧ res[i]? = some p ∧ Hs[t]? = some H ∧ OpW P G n0 o (stAt ops k st0.st res i) H p H
theorem lookup_cons_ne {α : Type} {i j : Nat} {p : α} {l : List (Nat × α)} (h : j ≠ i) : ((i, p) :: l).lookup j = l.lookup j := by
  have : (j == i) = false := by simpa using h
  simp only [List.lookup, this]
theorem gox_ok (hE : E.ok P G) {k : Nat} {cand give : List Nat} {st0 : Tr} {res : List PV} {HsF : List (List Blk)} {chF : List Nat} {rs : List (Nat × PV)} {Hs : List (List Blk)} {Hf : List Blk} {ch late : List Nat}
    (hres : ∀ j p, rs.lookup j = some p → res[j]? = some p) (hHs : HsF = (Hf :: Hs).reverse) (hch : chF = ch.reverse) :
    ∀ (l : List Nat) (rs0 : List (Nat × PV)) (Hs0 : List (List Blk)) (H0 : List Blk) (ch0 late0 : List Nat), gox P G E ops k cand give st0 l rs0 Hs0 H0 ch0 late0 = some (rs, Hs, Hf, ch, late) → l.Nodup → (∀ j ∈ l, rs0.lookup j = none) → (∀ x ∈ ch0, x ∉ l) → ch0.length = Hs0.length →
    (∀ j p, rs0.lookup j = some p → rs.lookup j = some p) ∧ (∃ t, Hf :: Hs = t ++ H0 :: Hs0) ∧ (∃ c, ch = c ++ ch0 ∧ ∀ x ∈ c, x ∈ l) ∧ (∀ x ∈ late0, x ∈ late) ∧ ch.length = Hs.length ∧
    (∀ i ∈ l, FreeOk P G n0 nt ops st0.st res chF HsF k i ∨ (i ∈ late ∧ LateOk P G n0 ops k st0 res chF HsF i))
  | [], rs0, Hs0, H0, ch0, late0, h, _, _, _, hl => by
    simp only [gox, Option.some.injEq, Prod.mk.injEq] at h
    obtain ⟨rfl, rfl, rfl, rfl, rfl⟩ := h
    exact ⟨fun _ _ h => h, ⟨[], rfl⟩, ⟨[], rfl, fun _ h => by cases h⟩, fun _ h => h, hl, fun _ h => by cases h⟩
  | i :: l, rs0, Hs0, H0, ch0, late0, h, hnd, hrs0, hch0, hl => by
    have hnd' := List.nodup_cons.1 hnd
    have ext : ∀ {p : PV}, (∀ j q, ((i, p) :: rs0).lookup j = some q → rs.lookup j = some q) → (∀ j q, rs0.lookup j = some q → rs.lookup j = some q) ∧ rs.lookup i = some p := fun {p} hx =>
      ⟨fun j q hj => hx j q (by
        have : j ≠ i := fun e => by subst e; rw [hrs0 j (by simp)] at hj; cases hj
        rw [lookup_cons_ne this]; exact hj), hx i p (by simp)⟩
    have hn' : ∀ {p : PV}, ∀ j ∈ l, ((i, p) :: rs0).lookup j = none := fun {p} j hj => by
      have : j ≠ i := fun e => hnd'.1 (e ▸ hj)
      rw [lookup_cons_ne this]; exact hrs0 j (List.mem_cons_of_mem _ hj)
    have hc' : ∀ x ∈ ch0, x ∉ l := fun x hx hxl => hch0 x hx (List.mem_cons_of_mem _ hxl)
    have notin : ∀ c, ch = c ++ ch0 → (∀ x ∈ c, x ∈ l) → i ∉ chF := fun c h1 h2 hi => by
      rw [hch, List.mem_reverse, h1, List.mem_append] at hi
      rcases hi with hi | hi
      · exact hnd'.1 (h2 i hi)
      · exact hch0 i hi (by simp)
    simp only [gox] at h
    split at h
    · cases h
    · rename_i o ho
      have hopn : opn ops i = o := by simp [opn, ho]
      have hsome : (ops[i]?).isSome = true := by simp [ho]
      split at h
      · cases h
      · rename_i hw
        obtain ⟨g1, g2, ⟨c, g3, g3'⟩, g4, g5, g6⟩ := gox_ok hE hres hHs hch l _ _ _ _ _ h hnd'.2 hn' hc' hl
        obtain ⟨e1, e2⟩ := ext g1
        refine ⟨e1, g2, ⟨c, g3, fun x hx => List.mem_cons_of_mem _ (g3' x hx)⟩, g4, g5, fun j hj => ?_⟩
        rcases List.mem_cons.1 hj with rfl | hj
        · exact .inl (.skip o ho (notin c g3 g3') (wantA_mono (fun t p hp => stx_get (fun j p hp => hres j p (e1 j p hp)) hp) hw) (hres _ _ e2))
        · exact g6 j hj
      · rename_i hw
        split at h
        · split at h
          · rename_i p H1 hp
            obtain ⟨g1, ⟨t, g2⟩, ⟨c, g3, g3'⟩, g4, g5, g6⟩ := gox_ok hE hres hHs hch l _ _ _ _ _ h hnd'.2 hn' (fun x hx => by
              rcases List.mem_cons.1 hx with rfl | hx
              · exact hnd'.1
              · exact hc' x hx) (by simp [hl])
            obtain ⟨e1, e2⟩ := ext g1
            refine ⟨e1, ⟨t ++ [H1], by rw [g2]; simp⟩, ⟨c ++ [i], by rw [g3]; simp, fun x hx => ?_⟩, g4, g5, fun j hj => ?_⟩
            · rcases List.mem_append.1 hx with hx | hx
              · exact List.mem_cons_of_mem _ (g3' x hx)
              · rw [List.mem_singleton.1 hx]; simp
            · rcases List.mem_cons.1 hj with rfl | hj
              · have hsub := stx_sub (ops := ops) (k := k) (i := j) (st0 := st0) (res := res) (rs := rs0) (fun j p hp => hres j p (e1 j p hp))
                refine .inl (.chain o p ch0.length H0 H1 ho ?_ (wantA_mono (fun t p hp => stx_get (fun j p hp => hres j p (e1 j p hp)) hp) hw) (hres _ _ e2) ?_ ?_ (OpW.sub hsub (OpW.of_opy hE hp)))
                · rw [hch, g3]; simp
                · rw [hHs, g2, hl]; simp
                · rw [hHs, g2, hl]; simp
              · exact g6 j hj
          · cases h
        · split at h
          · rename_i p hp
            obtain ⟨g1, g2, ⟨c, g3, g3'⟩, g4, g5, g6⟩ := gox_ok hE hres hHs hch l _ _ _ _ _ h hnd'.2 hn' hc' hl
            obtain ⟨e1, e2⟩ := ext g1
            refine ⟨e1, g2, ⟨c, g3, fun x hx => List.mem_cons_of_mem _ (g3' x hx)⟩, g4, g5, fun j hj => ?_⟩
            rcases List.mem_cons.1 hj with rfl | hj
            · exact .inl (.quiet o p ho (notin c g3 g3') (wantA_mono (fun t p hp => stx_get (fun j p hp => hres j p (e1 j p hp)) hp) hw) (hres _ _ e2) fun t H _ _ =>
                OpW.sub (stx_sub fun j p hp => hres j p (e1 j p hp)) (OpW.of_free hE hp))
            · exact g6 j hj
          · split at h
            · rename_i p hp
              obtain ⟨g1, g2, ⟨c, g3, g3'⟩, g4, g5, g6⟩ := gox_ok hE hres hHs hch l _ _ _ _ _ h hnd'.2 hn' hc' hl
              obtain ⟨e1, e2⟩ := ext g1
              refine ⟨e1, g2, ⟨c, g3, fun x hx => List.mem_cons_of_mem _ (g3' x hx)⟩, fun x hx => g4 x (List.mem_cons_of_mem _ hx), g5, fun j hj => ?_⟩
              rcases List.mem_cons.1 hj with rfl | hj
              · obtain ⟨t, g2⟩ := g2
                exact .inr ⟨g4 j (by simp), o, p, ch0.length, H0, ho, notin c g3 g3', wantA_mono (fun t p hp => stx_get (fun j p hp => hres j p (e1 j p hp)) hp) hw, hres _ _ e2, by rw [hHs, g2, hl]; simp,
                  OpW.sub (stx_sub fun j p hp => hres j p (e1 j p hp)) (OpT.of_quiet (Sub.refl _) hp).weak⟩
              · exact g6 j hj
            · cases h

/-- Those that read blocks, at each of the blocks at which they may come up. -/
def lateAll (P : Program) (G : Glob) (ops : Array Oper) (k : Nat) (st0 : Tr) (rs : List (Nat × PV)) (ch : List Nat) (o : Oper) (i : Nat) (p : PV) : Nat → List (List Blk) → Bool
  | _, [] => true
  | t, H :: Hs => (!posOk ops ch i t || (match quietx P G true (stx st0 rs (srcs ops k i)) H o with | some q => peq q p | none => false)) && lateAll P G ops k st0 rs ch o i p (t + 1) Hs
theorem lateAll_ok {k : Nat} {st0 : Tr} {rs : List (Nat × PV)} {ch : List Nat} {i : Nat} {p : PV} {res : List PV} (hres : ∀ j p, rs.lookup j = some p → res[j]? = some p) : ∀ (Hs : List (List Blk)) (t0 : Nat), lateAll P G ops k st0 rs ch o i p t0 Hs = true →
    ∀ t H, Hs[t]? = some H → posOk ops ch i (t0 + t) = true → OpW P G n0 o (stAt ops k st0.st res i) H p H
  | [], t0, _, t, H, ht, _ => by simp at ht
  | H0 :: Hs, t0, h, t, H, ht, hp => by
    simp only [lateAll, Bool.and_eq_true, Bool.or_eq_true, Bool.not_eq_true'] at h
    cases t with
    | zero =>
      simp only [List.getElem?_cons_zero, Option.some.injEq] at ht
      subst ht
      rw [Nat.add_zero] at hp
      rcases h.1 with h1 | h1
      · rw [hp] at h1; cases h1
      · split at h1
        · rename_i q hq
          have := peq_eq _ _ h1
          subst this
          exact OpW.sub (stx_sub hres) (OpT.of_quiet (Sub.refl _) hq).weak
        · cases h1
    | succ t => exact lateAll_ok hres Hs (t0 + 1) h.2 t H (by simpa using ht) (by rw [← hp]; congr 1; omega)
def lateOne (P : Program) (G : Glob) (ops : Array Oper) (k : Nat) (st0 : Tr) (rs : List (Nat × PV)) (ch : List Nat) (Hs : List (List Blk)) (i : Nat) : Bool := match ops[i]?, rs.lookup i with
  | some o, some p => lateAll P G ops k st0 rs ch o i p 0 Hs
  | _, _ => false

/-! ### What the text of a drawn region says -/
def isMem (o : Oper) : Bool := match o.op with
  | .move _ | .assign _ | .pick .. | .load .. | .nilCheck _ | .extract .. | .fieldAddr .. | .indexAddr .. | .field .. | .index .. | .build .. | .buildSlice .. | .makeFunc .. | .slice .. | .binOp .. | .unOp .. | .convert .. => false
  | .call cl => match cl.callee with
    | .builtin .len | .builtin .cap | .builtin .min | .builtin .max => false
    | _ => true
  | _ => true
def isCall (o : Oper) : Bool := match o.op with
  | .call _ => true
  | _ => false
def isKeep (o : Oper) : Bool := match o.op with
  | .build .. | .buildSlice .. | .box .. | .store .. | .makeFunc .. => true
  | _ => false
def tailFrom (ops : Array Oper) : Nat → Nat
  | 0 => 0
  | i + 1 => if (bnd ops (i + 1)).contains i then tailFrom ops i else i + 1
def kOf (ops : Array Oper) : Nat := ((List.range' (tailFrom ops (ops.size - 1)) (ops.size - tailFrom ops (ops.size - 1))).find? fun k => (List.range k).all (bnd ops k).contains).getD ops.size
def topo (ops : Array Oper) (k : Nat) : Nat → List Nat → List Nat
  | 0, done => done.reverse
  | f + 1, done => match (List.range k).find? fun i => !done.contains i && (bnd ops i).all done.contains with
    | some i => topo ops k f (i :: done)
    | none => done.reverse
structure Plan where
  k : Nat
  ord : List Nat
  rk : List Nat
  cand : List Nat
  keep : List Nat
  give : List Nat
def chOk (ops : Array Oper) (ch : List Nat) (k : Nat) : Bool :=
  ((List.range ch.length).all fun t => t == 0 || match ch[t]?, ch[t - 1]? with
    | some x, some y => match ops[x]? with | some o => (bindsOn o).contains y && decide (x < k) && decide (y < k) | none => false
    | _, _ => false) && (ch.all fun x => decide (x < k)) && decide (ch.Nodup)
def passes (o : Oper) : Bool := match o.op with
  | .slice .. | .move _ | .assign _ | .pick .. => true
  | _ => false
def moreK (ops : Array Oper) (k : Nat) (l : List Nat) : List Nat := l ++ (List.range k).flatMap fun i => match ops[i]? with
  | some o => (match o.dst with
    | some d => if passes o && l.contains d then readsOf o else []
    | none => [])
  | none => []
def planOf (ops : Array Oper) : Plan :=
  let k := kOf ops
  let nat := (List.range k).all fun i => (bnd ops i).all fun j => Nat.blt j i
  let ord := if nat then List.range k else topo ops k k []
  let cand0 := ord.filter fun i => match ops[i]? with | some o => isMem o | none => false
  let good := chOk ops cand0 k
  let keep0 := (List.range k).flatMap fun i => match ops[i]? with | some o => if isKeep o || (!good && isCall o) then readsOf o else [] | none => []
  let keep := moreK ops k (moreK ops k keep0)
  { k := k, ord := ord, rk := if nat then [] else (List.range k).map fun i => ord.idxOf i, cand := if good then cand0 else cand0.filter fun i => match ops[i]? with | some o => !isCall o | none => false, keep := keep,
    give := (List.range k).filter fun i => match dstJ ops i with
      | some d => keep.contains d || ((List.range k).any fun j => match ops[j]? with | some o => (match o.op, o.dst with | .extract (.tmp t) _, some d' => Nat.beq t d && keep.contains d' | _, _ => false) | none => false)
      | none => false }
def drawS (nt : Nat) (ops : Array Oper) (k : Nat) (rk : List Nat) : Bool :=
  decide (k ≤ ops.size) &&
  ((List.range ops.size).all fun i => match ops[i]? with
    | none => false
    | some o => dstOk nt o && (bindsOn o).all (fun j => if i < k then decide (j < k) && decide (rk.getD j j < rk.getD i i) else decide (j < i)) &&
      (if i < k then (match o.dst with | none => true | some d => (List.range k).all fun j => j == i || ((ops[j]?).bind (·.dst)) != some d)
       else if i = k then (List.range k).all fun j => (bindsOn o).contains j
       else (bindsOn o).contains (i - 1)))
theorem drawOk_of {ch : List Nat} {k : Nat} {rk : List Nat} (h1 : drawS nt ops k rk = true) (h2 : chOk ops ch k = true) : drawOk nt ops ch k rk = true := by
  unfold drawS at h1
  unfold chOk at h2
  unfold drawOk
  simp only [Bool.and_eq_true] at h1 h2 ⊢
  exact ⟨⟨⟨h1, h2.1.1⟩, h2.1.2⟩, h2.2⟩
def planS (nt : Nat) (ops : Array Oper) (k : Nat) (ord rk : List Nat) : Bool :=
  drawS nt ops k rk && (decide ord.Nodup && ((List.range k).all ord.contains && (List.range k).all fun j => match dstJ ops j with | some d => Nat.blt d 512 | none => true))
/-- Owned slices in slots become ones that nobody writes. -/
def shareX : List Nat → Tr → List Blk → Tr × List Blk
  | [], t, H => (t, H)
  | k :: ks, t, H => match t.at k with
    | some (.own i n) => match H[i]? with
      | some (.buf s ty xs _) => if Nat.beq n xs.length then shareX ks (t.put (.sl s xs) (path k)) (H.set i (.buf s ty xs true)) else shareX ks t H
      | _ => shareX ks t H
    | some (.ow i n lo hi) => match H[i]? with
      | some (.buf s ty xs _) => if Nat.beq n xs.length && Nat.blt lo hi && Nat.ble hi n then shareX ks (t.put (.sl s ((xs.take hi).drop lo)) (path k)) (H.set i (.buf s ty xs true)) else shareX ks t H
      | _ => shareX ks t H
    | _ => shareX ks t H
theorem at_small {t : Tr} {k : Nat} {p : PV} (h : t.at k = some p) : k < 512 := (mem_st.1 (at_mem h)).1
theorem shareX_ok : ∀ (ks : List Nat) (t : Tr) (H : List Blk), ∀ c a w β, RelB G c β t.st H a w → ∃ β', RelB G c β' (shareX ks t H).1.st (shareX ks t H).2 a w
  | [], t, H => fun c a w β hr => ⟨β, hr⟩
  | k :: ks, t, H => fun c a w β hr => by
    have h1 := shareT_ok k t.st H c a w β hr
    unfold shareT at h1
    unfold shareX
    split
    · rename_i i n hk
      have hlt := at_small hk
      rw [at_st] at hk
      rw [hk] at h1
      simp only [] at h1
      split
      · rename_i s ty xs sh hb
        rw [hb] at h1
        simp only [] at h1
        split
        · rename_i hn
          rw [if_pos hn] at h1
          obtain ⟨β1, h2⟩ := h1
          exact shareX_ok ks _ _ c a w β1 (h2.sub (put_mem hlt))
        · exact shareX_ok ks _ _ c a w β hr
      · exact shareX_ok ks _ _ c a w β hr
    · rename_i i n lo hi hk
      have hlt := at_small hk
      rw [at_st] at hk
      rw [hk] at h1
      simp only [] at h1
      split
      · rename_i s ty xs sh hb
        rw [hb] at h1
        simp only [] at h1
        split
        · rename_i hn
          rw [if_pos hn] at h1
          obtain ⟨β1, h2⟩ := h1
          exact shareX_ok ks _ _ c a w β1 (h2.sub (put_mem hlt))
        · exact shareX_ok ks _ _ c a w β hr
      · exact shareX_ok ks _ _ c a w β hr
    · exact shareX_ok ks _ _ c a w β hr
def putsX (ops : Array Oper) (rs : List (Nat × PV)) : List Nat → Tr → Tr
  | [], t => t
  | j :: l, t => match dstJ ops j, rs.lookup j with
    | some d, some p => putsX ops rs l (t.put p (path d))
    | _, _ => putsX ops rs l t
/-- A drawn region. -/
def drx (P : Program) (G : Glob) (E : Eval) (nt : Nat) (ops : Array Oper) (t : Tr) (H : List Blk) : Option (Tr × List Blk) :=
  match planS nt ops (planOf ops).k (planOf ops).ord (planOf ops).rk with
  | true => match shareX (planOf ops).keep t H with
    | (t0, H0) => match gox P G E ops (planOf ops).k (planOf ops).cand (planOf ops).give t0 (planOf ops).ord [] [] H0 [] [] with
      | none => none
      | some (rs, Hs, Hf, ch, late) =>
        match (ch.isEmpty || chOk ops ch.reverse (planOf ops).k) && (ch.isEmpty || late.all (lateOne P G ops (planOf ops).k t0 rs ch.reverse (Hf :: Hs).reverse)) with
        | true => sqx P G E nt ops (List.range' (planOf ops).k (ops.size - (planOf ops).k)) (putsX ops rs (List.range (planOf ops).k) t0) Hf
        | false => none
  | false => none
theorem freeUp {st0 : St} {res : List PV} {ch : List Nat} {Hs : List (List Blk)} {K : Nat} : ∀ (k : Nat), (∀ i, i < k → FreeOk P G n0 nt ops st0 res ch Hs K i) → FreeUpTo P G n0 nt ops st0 res ch Hs K k
  | 0, _ => trivial
  | k + 1, h => ⟨freeUp k fun i hi => h i (by omega), h k (by omega)⟩
end
end Go.AM

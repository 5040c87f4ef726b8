/- Regions over abstract states: in the order of the text, and in whatever order is drawn. No condition. -/
import Derived.Test.YtdpogkakaeeccaaDoorA4
namespace Go.AM

def Lift (G : Glob) (c : Ctx) (Q : Exit → St → List Blk → Prop) (e : Exit) (a : Act) (w : World) : Prop := ∃ st H β, Q e st H ∧ RelB G c β st H a w

/-- The operations of a region, from an abstract state. -/
def AOps (P : Program) (G : Glob) (n0 nt : Nat) (ops : Array Oper) (l : List Nat) (Q : Exit → St → List Blk → Prop) (st : St) (H : List Blk) : Prop :=
  ∀ c a w β, c.fit n0 → c.nt = nt → RelB G c β st H a w → wpOps P ops (Lift G c Q) l a w

def AWP (P : Program) (G : Glob) (n0 nt : Nat) (code : Code) (Q : Exit → St → List Blk → Prop) (st : St) (H : List Blk) : Prop :=
  ∀ c a w β, c.fit n0 → c.nt = nt → RelB G c β st H a w → code.wp P (Lift G c Q) a w

/-- Is the operation carried out? (where its guard is known) -/
def wantA (ops : Array Oper) (st : St) (o : Oper) : Option Bool :=
  match o.guard with
  | none => some true
  | some (j, want) => match (ops[j]?).bind (·.dst) with
    | some d => match st.get d with
      | some (.sc (.bool b)) => some (b == want)
      | some (.sc (.tuple _)) => some false
      | _ => none
    | none => none

def dstOk (nt : Nat) (o : Oper) : Bool := match o.dst with | some d => decide (d < nt) | none => true
theorem dstOk_spec {nt : Nat} {o : Oper} (h : dstOk nt o = true) : ∀ k, o.dst = some k → k < nt := fun k hk => by simpa [dstOk, hk] using h

section
variable {P : Program} {G : Glob} {n0 nt : Nat} {o : Oper} {st : St} {H : List Blk} {ops : Array Oper} {Q : Exit → St → List Blk → Prop}

theorem want_of {c : Ctx} {β : List Bnd} {a : Act} {w : World} {b : Bool} (h : RelB G c β st H a w) (hw : wantA ops st o = some b) : Region.wanted o (yielded ops a.tmps) = b := by
  unfold wantA at hw
  unfold Region.wanted
  cases hg : o.guard with
  | none => simp [hg] at hw; simp [hw]
  | some jw =>
    obtain ⟨j, want⟩ := jw
    simp only [hg] at hw
    cases hd : (ops[j]?).bind (·.dst) with
    | none => simp [hd] at hw
    | some d =>
      simp only [hd] at hw
      cases hs : st.get d with
      | none => simp [hs] at hw
      | some p =>
        simp only [hs] at hw
        split at hw
        · rename_i b' hp
          simp only [Option.some.injEq] at hp hw
          subst hp
          obtain ⟨h1, h2⟩ := h.slots (d, _) (lookup_mem st d _ hs)
          simp only [VR] at h2
          have h3 : a.tmps[d]? = some (.bool b') := by
            have : d < a.tmps.size := by rw [h.nt]; exact h1
            rw [Array.getElem?_eq_getElem this]
            simp [Array.getD, this] at h2
            rw [h2]
          simp only [yielded, hd, Option.bind_some, h3]
          rw [← hw]; cases b' <;> cases want <;> rfl
        · rename_i ts hp
          simp only [Option.some.injEq] at hp hw
          subst hp
          obtain ⟨h1, h2⟩ := h.slots (d, _) (lookup_mem st d _ hs)
          simp only [VR] at h2
          have h3 : a.tmps[d]? = some (.tuple ts) := by
            have : d < a.tmps.size := by rw [h.nt]; exact h1
            rw [Array.getElem?_eq_getElem this]
            simp [Array.getD, this] at h2
            rw [h2]
          simp only [yielded, hd, Option.bind_some, h3]
          rw [← hw]; rfl
        · cases hw

theorem wp_of_wpv {a : Act} {w : World} {next : Act → World → Prop} {R : Exit → Act → World → Prop} {K : Value → World → Prop} (h : wpv P o a w K) (hk : ∀ v w', K v w' → next (a.put o.dst v) w') : o.wp P a w next R := by
  unfold wpv at h
  unfold Oper.wp
  generalize (execOp a.eval o).run P w = r at *
  cases r with
  | halt x w' => simp only at h
  | ok n w' =>
    cases n <;> simp only [Oper.upon] at h ⊢
    case value v => exact hk _ _ h
    case skip => exact hk _ _ h
    case enter f args => exact h.mono fun e w'' ⟨v, he, hv⟩ => by subst he; exact hk _ _ hv

theorem AOps.nil (h : Q .normal st H) : AOps P G n0 nt ops [] Q st H := fun _ _ _ β _ _ hr => ⟨st, H, β, h, hr⟩

theorem AOps.cons {i : Nat} {l : List Nat} {p : PV} {H' : List Blk} (ho : ops[i]? = some o) (hd : dstOk nt o = true) (hw : wantA ops st o = some true) (hop : OpW P G n0 o st H p H')
    (h : AOps P G n0 nt ops l Q (st.putD o.dst p) H') : AOps P G n0 nt ops (i :: l) Q st H := by
  intro c a w β h0 h1 hr
  simp only [wpOps, ho, want_of hr hw, if_true]
  refine .inl (wp_of_wpv (hop c a w β h0.len hr) fun v w' ⟨β', h2, h3⟩ => ?_)
  exact h c _ w' β' h0 h1 (h2.put h3 o.dst (by rw [h1]; exact dstOk_spec hd))

theorem AOps.skip {i : Nat} {l : List Nat} (ho : ops[i]? = some o) (hd : dstOk nt o = true) (hw : wantA ops st o = some false)
    (h : AOps P G n0 nt ops l Q (st.putD o.dst (.sc undef)) H) : AOps P G n0 nt ops (i :: l) Q st H := by
  intro c a w β h0 h1 hr
  simp only [wpOps, ho, want_of hr hw, Bool.false_eq_true, if_false]
  exact h c _ w β h0 h1 (hr.put (by simp only [VR]) o.dst (by rw [h1]; exact dstOk_spec hd))

theorem AOps.sub {l : List Nat} {st' : St} (hs : ∀ x ∈ st', x ∈ st) (h : AOps P G n0 nt ops l Q st' H) : AOps P G n0 nt ops l Q st H :=
  fun c a w β h0 h1 hr => h c a w β h0 h1 (hr.sub hs)

/-- Operations that 'step' carries out, one after the other. -/
def seg (P : Program) (G : Glob) (nt : Nat) (ops : Array Oper) : List Nat → St → List Blk → Option (St × List Blk)
  | [], st, H => some (st, H)
  | i :: l, st, H => match ops[i]? with
    | none => none
    | some o => if dstOk nt o then match wantA ops st o with
      | some true => match step P G st H o with
        | some (p, H') => seg P G nt ops l (st.putD o.dst p) H'
        | none => none
      | some false => seg P G nt ops l (st.putD o.dst (.sc undef)) H
      | none => none
      else none

def St.pick (ks : List Nat) (st : St) : St := ks.filterMap fun k => (st.get k).map fun p => (k, p)
theorem St.pick_sub (ks : List Nat) (st : St) : ∀ x ∈ st.pick ks, x ∈ st := fun x hx => by
  simp only [St.pick, List.mem_filterMap, Option.map_eq_some_iff] at hx
  obtain ⟨k, _, p, h1, rfl⟩ := hx
  exact lookup_mem st k p h1

theorem AOps.seg {l1 l2 : List Nat} {st' : St} {H' : List Blk} (hs : seg P G nt ops l1 st H = some (st', H')) (h : AOps P G n0 nt ops l2 Q st' H') : AOps P G n0 nt ops (l1 ++ l2) Q st H := by
  induction l1 generalizing st H with
  | nil => simp only [AM.seg, Option.some.injEq, Prod.mk.injEq] at hs; obtain ⟨rfl, rfl⟩ := hs; exact h
  | cons i l ih =>
    simp only [AM.seg] at hs
    cases ho : ops[i]? with
    | none => simp [ho] at hs
    | some o =>
      simp only [ho] at hs
      by_cases hd : dstOk nt o = true
      · simp only [hd, if_true] at hs
        cases hw : wantA ops st o with
        | none => simp [hw] at hs
        | some b =>
          cases b with
          | false => simp only [hw] at hs; exact AOps.skip ho hd hw (ih hs)
          | true =>
            simp only [hw] at hs
            cases hst : step P G st H o with
            | none => simp [hst] at hs
            | some r =>
              obtain ⟨p, H1⟩ := r
              simp only [hst] at hs
              exact AOps.cons ho hd hw (OpT.of_step hst).weak (ih hs)
      · simp [hd] at hs

/-- The same, of which only some slots are kept. -/
def segK (P : Program) (G : Glob) (nt : Nat) (ops : Array Oper) (l : List Nat) (ks : List Nat) (st : St) (H : List Blk) : Option (St × List Blk) :=
  (AM.seg P G nt ops l st H).map fun r => (r.1.pick ks, r.2)
theorem AOps.segK {l1 l2 ks : List Nat} {st' : St} {H' : List Blk} (hs : segK P G nt ops l1 ks st H = some (st', H')) (h : AOps P G n0 nt ops l2 Q st' H') : AOps P G n0 nt ops (l1 ++ l2) Q st H := by
  simp only [AM.segK, Option.map_eq_some_iff, Prod.mk.injEq] at hs
  obtain ⟨⟨s1, H1⟩, h1, h2, h3⟩ := hs
  simp only at h2 h3
  subst h2 h3
  exact AOps.seg h1 (h.sub (St.pick_sub ks s1))

theorem AOps.pick {l ks : List Nat} {st' : St} (hs : st.pick ks = st') (h : AOps P G n0 nt ops l Q st' H) : AOps P G n0 nt ops l Q st H :=
  h.sub (by subst hs; exact St.pick_sub ks st)

/-! ### A region whose order is drawn -/
section draw
variable {st0 : St} {res : List PV} {ch : List Nat} {Hs : List (List Blk)} {k : Nat}

def bindsOn (o : Oper) : List Nat := (o.after.toList.filter (Region.binds .any)).map (·.on)
/-- What is known when operation i comes up: the state before the region, and what those before it have yielded. -/
def stAt (ops : Array Oper) (k : Nat) (st0 : St) (res : List PV) (i : Nat) : St :=
  ((ops[i]?).map bindsOn).getD [] |>.filterMap (fun j => match (ops[j]?).bind (·.dst), res[j]? with | some d, some p => some (d, p) | _, _ => none) |> (· ++ st0.filter fun x => (List.range k).all fun j => (ops[j]?).bind (·.dst) != some x.1 || (((ops[j]?).map bindsOn).getD []).contains i)
def stL (ops : Array Oper) (st0 : St) (res : List PV) (l : List Nat) : St :=
  l.filterMap (fun j => match (ops[j]?).bind (·.dst), res[j]? with | some d, some p => some (d, p) | _, _ => none) ++ st0.filter fun x => l.all fun j => (ops[j]?).bind (·.dst) != some x.1

/-- May operation i come up when t of the chain are done? -/
def posOk (ops : Array Oper) (ch : List Nat) (i t : Nat) : Bool := (List.range ch.length).all fun s => match ch[s]? with
  | some x => if s < t then !(((ops[x]?).map bindsOn).getD []).contains i else !(((ops[i]?).map bindsOn).getD []).contains x
  | none => true
/-- Operation i, whenever it comes up. -/
inductive FreeOk (P : Program) (G : Glob) (n0 nt : Nat) (ops : Array Oper) (st0 : St) (res : List PV) (ch : List Nat) (Hs : List (List Blk)) (k i : Nat) : Prop where
  | skip (o : Oper) (ho : ops[i]? = some o) (hc : i ∉ ch) (hw : wantA ops (stAt ops k st0 res i) o = some false) (hp : res[i]? = some (.sc undef))
  | quiet (o : Oper) (p : PV) (ho : ops[i]? = some o) (hc : i ∉ ch) (hw : wantA ops (stAt ops k st0 res i) o = some true) (hp : res[i]? = some p) (h : ∀ t H, Hs[t]? = some H → posOk ops ch i t = true → OpW P G n0 o (stAt ops k st0 res i) H p H)
  | chain (o : Oper) (p : PV) (t : Nat) (H H' : List Blk) (ho : ops[i]? = some o) (hc : ch[t]? = some i) (hw : wantA ops (stAt ops k st0 res i) o = some true) (hp : res[i]? = some p)
      (h1 : Hs[t]? = some H) (h2 : Hs[t + 1]? = some H') (h : OpW P G n0 o (stAt ops k st0 res i) H p H')

/-- The region's own text: k operations whose order is open but for the chain, then some in order. -/
def drawOk (nt : Nat) (ops : Array Oper) (ch : List Nat) (k : Nat) (rk : List Nat := []) : Bool :=
  decide (k ≤ ops.size) &&
  ((List.range ops.size).all fun i => match ops[i]? with
    | none => false
    | some o => dstOk nt o && (bindsOn o).all (fun j => if i < k then decide (j < k) && decide (rk.getD j j < rk.getD i i) else decide (j < i)) &&
      (if i < k then (match o.dst with | none => true | some d => (List.range k).all fun j => j == i || ((ops[j]?).bind (·.dst)) != some d)
       else if i = k then (List.range k).all fun j => (bindsOn o).contains j
       else (bindsOn o).contains (i - 1))) &&
  ((List.range ch.length).all fun t => t == 0 || match ch[t]?, ch[t - 1]? with
    | some x, some y => match ops[x]? with | some o => (bindsOn o).contains y && decide (x < k) && decide (y < k) | none => false
    | _, _ => false) && (ch.all fun x => decide (x < k)) && decide (ch.Nodup)

theorem mem_bindsOn {o : Oper} {j : Nat} : j ∈ bindsOn o ↔ ∃ e ∈ o.after, Region.binds .any e = true ∧ e.on = j := by
  simp [bindsOn, and_assoc]

theorem tail_any {R : Exit → Act → World → Prop} (hk : ∀ (i : Nat) o, ops[i]? = some o → k < i → i - 1 ∈ bindsOn o) (hlt : ∀ (i : Nat) o, ops[i]? = some o → k ≤ i → ∀ j ∈ bindsOn o, j < i) :
    ∀ (f m : Nat) (listed : Array Bool) (a : Act) (w : World), k ≤ m → m + f = ops.size → (∀ i, i < m → listed.getD i false = true) → (∀ i, m ≤ i → i < ops.size → listed.getD i true = false) → listed.size = ops.size →
    wpOps P ops R (List.range' m f) a w → wpAny P .any ops R f listed a w
  | 0, m, listed, a, w, hm, hs, hl, hu, hsz, h => by
    refine ⟨?_, by simpa [wpOps] using h⟩
    by_cases he : Region.ready .any ops listed = []
    · exact he
    · obtain ⟨i, hi⟩ := List.exists_mem_of_ne_nil _ he
      obtain ⟨h1, o, ho, h2⟩ := mem_ready.1 hi
      have hil : i < ops.size := (Array.getElem?_eq_some_iff.1 ho).1
      have h3 := hl i (by omega)
      have : i < listed.size := by omega
      simp [Array.getD, this] at h1 h3
      rw [h1] at h3; cases h3
  | f + 1, m, listed, a, w, hm, hs, hl, hu, hsz, h => by
    have hready : m ∈ Region.ready .any ops listed := by
      refine mem_ready.2 ⟨hu m (Nat.le_refl _) (by omega), ops[m]'(by omega), by simp [show m < ops.size by omega], fun e he hb => ?_⟩
      exact hl e.on (hlt m _ (by simp [show m < ops.size by omega]) hm e.on (mem_bindsOn.2 ⟨e, he, hb, rfl⟩))
    refine ⟨fun he => (by rw [he] at hready; cases hready), fun i hi => ?_⟩
    obtain ⟨h1, o, ho, h2⟩ := mem_ready.1 hi
    have hil : i < ops.size := (Array.getElem?_eq_some_iff.1 ho).1
    have him : i = m := by
      rcases Nat.lt_trichotomy i m with hlt' | rfl | hgt
      · have h3 := hl i hlt'
        have : i < listed.size := by omega
        simp [Array.getD, this] at h1 h3
        rw [h1] at h3; cases h3
      · rfl
      · have := hk i o ho (by omega)
        obtain ⟨e, he, hb, hon⟩ := mem_bindsOn.1 this
        have h3 := h2 e he hb
        rw [hon] at h3
        have h4 := hu (i - 1) (by omega) (by omega)
        have : i - 1 < listed.size := by omega
        simp [Array.getD, this] at h3 h4
        rw [h3] at h4; cases h4
    subst him
    rw [List.range'_succ, wpOps_cons] at h
    refine wpOp_mono (fun a' w' h' => ?_) h
    refine tail_any hk hlt f (i + 1) _ a' w' (by omega) (by omega) (fun j hj => ?_) (fun j hj hj2 => ?_) (by simp [hsz]) h'
    · by_cases hji : j = i
      · subst hji; simp [Array.getD, hsz, hil]
      · have := hl j (by omega)
        have hjs : j < listed.size := by omega
        simp [Array.getD, hjs] at this ⊢
        rw [Array.getElem_setIfInBounds_ne (h := Ne.symm hji)]; exact this
    · have := hu j (by omega) hj2
      have hjs : j < listed.size := by omega
      simp [Array.getD, hjs] at this ⊢
      rw [Array.getElem_setIfInBounds_ne (h := by omega)]; exact this

theorem filter_one (p : Nat → Bool) (i : Nat) (hi : p i = false) : ∀ (l : List Nat), l.Nodup → i ∈ l → (l.filter fun j => p j || j == i).length = (l.filter p).length + 1
  | [], _, h => by cases h
  | x :: l, hn, h => by
    have hn' := List.nodup_cons.1 hn
    by_cases hx : x = i
    · subst hx
      have h1 : (l.filter fun j => p j || j == x) = l.filter p := List.filter_congr fun j hj => by
        have : j ≠ x := fun e => hn'.1 (e ▸ hj)
        simp [this]
      rw [List.filter_cons_of_pos (by simp), List.filter_cons_of_neg (by simp [hi])]
      simp [h1]
    · have hil : i ∈ l := by rcases List.mem_cons.1 h with e | e; exact absurd e.symm hx; exact e
      have ih := filter_one p i hi l hn'.2 hil
      have hxi : (x == i) = false := by simpa using hx
      by_cases hp : p x = true
      · rw [List.filter_cons_of_pos (by simp [hp]), List.filter_cons_of_pos hp]; simp [ih]
      · rw [List.filter_cons_of_neg (by simp [hp, hxi]), List.filter_cons_of_neg hp]; exact ih
theorem lookup_none {α : Type} : ∀ (l : List (Nat × α)) (k : Nat), (l.lookup k).isNone = true → ∀ x ∈ l, x.1 ≠ k
  | [], _, _, _, h => by cases h
  | (j, q) :: l, k, h, x, hx => by
    simp only [List.lookup] at h
    split at h
    · simp at h
    · rename_i hk
      rcases List.mem_cons.1 hx with rfl | hx
      · intro e
        have : (k == j) = true := by simp at e ⊢; exact e.symm
        rw [this] at hk; cases hk
      · exact lookup_none l k h x hx

theorem getD_set {listed : Array Bool} {i j : Nat} (hi : i < listed.size) : (listed.setIfInBounds i true).getD j false = (listed.getD j false || j == i) := by
  by_cases hji : j = i
  · subst hji; simp [Array.getD, hi]
  · have : (j == i) = false := by simpa using hji
    simp only [this, Bool.or_false]
    simp only [Array.getD_eq_getD_getElem?, Array.getElem?_setIfInBounds_ne (Ne.symm hji)]

theorem draw_any {Hf : List Blk} {rk : List Nat} (hok : drawOk nt ops ch k rk = true) (hfree : ∀ i, i < k → FreeOk P G n0 nt ops st0 res ch Hs k i) (hlast : Hs[ch.length]? = some Hf)
    (htail : AOps P G n0 nt ops (List.range' k (ops.size - k)) Q (stL ops st0 res (List.range k)) Hf) :
    ∀ (f : Nat) (listed : Array Bool) (t : Nat) (H : List Blk) (c : Ctx) (a : Act) (w : World) (β : List Bnd), c.fit n0 → c.nt = nt → listed.size = ops.size →
      ((List.range k).filter (listed.getD · false)).length + f = ops.size → (∀ i, k ≤ i → listed.getD i false = false) →
      (∀ j o, listed.getD j false = true → ops[j]? = some o → ∀ b ∈ bindsOn o, listed.getD b false = true) → (∀ s x, ch[s]? = some x → (listed.getD x false = true ↔ s < t)) → t ≤ ch.length → Hs[t]? = some H →
      RelB G c β (stL ops st0 res ((List.range k).filter (listed.getD · false))) H a w → wpAny P .any ops (Lift G c Q) f listed a w := by
  simp only [drawOk, Bool.and_eq_true, decide_eq_true_eq] at hok
  obtain ⟨⟨⟨⟨hkn, hops⟩, hch⟩, hchk⟩, hnd⟩ := hok
  have hop : ∀ (i : Nat) o, ops[i]? = some o → dstOk nt o = true ∧ (∀ j ∈ bindsOn o, if i < k then j < k ∧ rk.getD j j < rk.getD i i else j < i) ∧
      (i < k → ∀ d, o.dst = some d → ∀ j, j < k → j ≠ i → (ops[j]?).bind (·.dst) ≠ some d) ∧ (i = k → ∀ j, j < k → j ∈ bindsOn o) ∧ (k < i → i - 1 ∈ bindsOn o) := by
    intro i o ho
    have h1 := List.all_eq_true.1 hops i (by simpa using (Array.getElem?_eq_some_iff.1 ho).1)
    simp only [ho, Bool.and_eq_true] at h1
    obtain ⟨⟨h2, h3⟩, h4⟩ := h1
    refine ⟨h2, fun j hj => by have := List.all_eq_true.1 h3 j hj; split <;> rename_i hik <;> simp only [hik, if_true, if_false, Bool.and_eq_true, decide_eq_true_eq] at this <;> exact this, fun hik d hd => ?_, fun hik j hj => ?_, fun hik => ?_⟩
    · simp only [hik, if_true, hd] at h4
      intro j hj hji
      have := List.all_eq_true.1 h4 j (by simpa using hj)
      simp only [Bool.or_eq_true, beq_iff_eq, bne_iff_ne] at this
      exact this.resolve_left hji
    · have hik' : ¬ i < k := by omega
      rw [if_neg hik', if_pos hik] at h4
      simpa using List.all_eq_true.1 h4 j (by simpa using hj)
    · have h5 : ¬ i < k := by omega
      have h6 : ¬ i = k := by omega
      simp only [h5, h6, if_false] at h4
      simpa using h4
  have hchain : ∀ s x y o, ch[s + 1]? = some x → ch[s]? = some y → ops[x]? = some o → y ∈ bindsOn o := by
    intro s x y o hx hy ho
    have hs : s + 1 < ch.length := (List.getElem?_eq_some_iff.1 hx).1
    have := List.all_eq_true.1 hch (s + 1) (by simpa using hs)
    simp only [Nat.add_sub_cancel, hx, hy, ho] at this
    simp at this
    exact this.1.1
  have hchlt : ∀ s x, ch[s]? = some x → x < k := fun s x hx => by
    simpa using List.all_eq_true.1 hchk x (List.mem_of_getElem? hx)
  intro f
  induction f with
  | zero =>
    intro listed t H c a w β h0 h1 hsz hcnt hun hcl hcht ht hHt hr
    have hle := List.length_filter_le (listed.getD · false) (List.range k)
    simp only [List.length_range] at hle
    have hkeq : k = ops.size := by omega
    have hall : ∀ x ∈ List.range k, listed.getD x false = true := List.length_filter_eq_length_iff.1 (by rw [List.length_range]; omega)
    have hfil : (List.range k).filter (listed.getD · false) = List.range k := List.filter_eq_self.2 hall
    have htt : t = ch.length := by
      rcases Nat.lt_or_ge t ch.length with hlt | hge
      · obtain ⟨x, hx⟩ : ∃ x, ch[t]? = some x := ⟨ch[t], by simp [hlt]⟩
        have h2 := hall x (by simpa using hchlt t x hx)
        have := (hcht t x hx).1 h2
        omega
      · omega
    subst htt
    rw [hlast, Option.some.injEq] at hHt
    subst hHt
    rw [hfil] at hr
    have h3 := htail c a w β h0 h1 hr
    rw [show ops.size - k = 0 by omega] at h3
    refine tail_any (k := k) (fun i o ho hki => (hop i o ho).2.2.2.2 hki) (fun i o ho hki j hj => by have := (hop i o ho).2.1 j hj; rwa [if_neg (by omega)] at this) 0 k listed a w (Nat.le_refl _) (by omega) (fun i hi => hall i (by simpa using hi)) (fun i hi hi2 => by omega) hsz h3
  | succ f ih =>
    intro listed t H c a w β h0 h1 hsz hcnt hun hcl hcht ht hHt hr
    by_cases hall : ∀ x ∈ List.range k, listed.getD x false = true
    · have hfil : (List.range k).filter (listed.getD · false) = List.range k := List.filter_eq_self.2 hall
      have htt : t = ch.length := by
        rcases Nat.lt_or_ge t ch.length with hlt | hge
        · obtain ⟨x, hx⟩ : ∃ x, ch[t]? = some x := ⟨ch[t], by simp [hlt]⟩
          have h2 := hall x (by simpa using hchlt t x hx)
          have := (hcht t x hx).1 h2
          omega
        · omega
      subst htt
      rw [hlast, Option.some.injEq] at hHt
      subst hHt
      rw [hfil] at hr hcnt
      have h3 := htail c a w β h0 h1 hr
      simp only [List.length_range] at hcnt
      rw [show ops.size - k = f + 1 by omega] at h3
      refine tail_any (k := k) (fun i o ho hki => (hop i o ho).2.2.2.2 hki) (fun i o ho hki j hj => by have := (hop i o ho).2.1 j hj; rwa [if_neg (by omega)] at this) (f + 1) k listed a w (Nat.le_refl _) (by omega) (fun i hi => hall i (by simpa using hi)) (fun i hi hi2 => ?_) hsz h3
      have := hun i hi
      have hil : i < listed.size := by omega
      simp [Array.getD, hil] at this ⊢; exact this
    · -- somebody of the first k has not come up
      have hex : ∃ i, i < k ∧ listed.getD i false = false := by
        simp only [List.mem_range] at hall
        refine Classical.byContradiction fun hne => hall fun x hx => ?_
        cases hb : listed.getD x false with
        | true => rfl
        | false => exact absurd ⟨x, hx, hb⟩ hne
      have hmin : ∃ i, (i < k ∧ listed.getD i false = false) ∧ ∀ j, j < k → rk.getD j j < rk.getD i i → listed.getD j false = true := by
        obtain ⟨i, hi⟩ := hex
        have key : ∀ m i, rk.getD i i = m → i < k ∧ listed.getD i false = false → ∃ i, (i < k ∧ listed.getD i false = false) ∧ ∀ j, j < k → rk.getD j j < rk.getD i i → listed.getD j false = true := by
          intro m
          induction m using Nat.strongRecOn with
          | _ m ihm =>
            intro i hm hi
            by_cases hj : ∃ j, j < k ∧ rk.getD j j < rk.getD i i ∧ listed.getD j false = false
            · obtain ⟨j, hj0, hj1, hj2⟩ := hj
              exact ihm _ (by omega) j rfl ⟨hj0, hj2⟩
            · refine ⟨i, hi, fun j hj0 hj1 => ?_⟩
              cases hb : listed.getD j false with
              | true => rfl
              | false => exact absurd ⟨j, hj0, hj1, hb⟩ hj
        exact key _ i rfl hi
      have unl : ∀ i, i < ops.size → (listed.getD i true = false ↔ listed.getD i false = false) := fun i hi => by
        have hil : i < listed.size := by omega
        simp [Array.getD, hil]
      obtain ⟨i0, ⟨hi0, hi0u⟩, hi0m⟩ := hmin
      have hready0 : i0 ∈ Region.ready .any ops listed := by
        have hil : i0 < ops.size := by omega
        refine mem_ready.2 ⟨(unl i0 hil).2 hi0u, ops[i0], by simp [hil], fun e he hb => ?_⟩
        have h7 := (hop i0 ops[i0] (by simp [hil])).2.1 e.on (mem_bindsOn.2 ⟨e, he, hb, rfl⟩)
        rw [if_pos hi0] at h7
        exact hi0m e.on h7.1 h7.2
      refine ⟨fun he => (by rw [he] at hready0; cases hready0), fun i hi => ?_⟩
      obtain ⟨g1, o, ho, g2⟩ := mem_ready.1 hi
      have hil : i < ops.size := (Array.getElem?_eq_some_iff.1 ho).1
      have hiu : listed.getD i false = false := (unl i hil).1 g1
      have hbl : ∀ j ∈ bindsOn o, listed.getD j false = true := fun j hj => by
        obtain ⟨e, he, hb, hon⟩ := mem_bindsOn.1 hj
        rw [← hon]; exact g2 e he hb
      obtain ⟨hd, hlt, hfr, hk1, hk2⟩ := hop i o ho
      have hik : i < k := by
        rcases Nat.lt_trichotomy i k with h | h | h
        · exact h
        · have := hbl i0 (hk1 h i0 hi0)
          rw [hi0u] at this; cases this
        · have h3 := hbl (i - 1) (hk2 h)
          rw [hun (i - 1) (by omega)] at h3; cases h3
      have hfilset : (List.range k).filter ((listed.setIfInBounds i true).getD · false) = (List.range k).filter (fun j => listed.getD j false || j == i) :=
        List.filter_congr fun j _ => getD_set (by omega)
      have hcnt' : ((List.range k).filter ((listed.setIfInBounds i true).getD · false)).length + f = ops.size := by
        rw [hfilset, filter_one (listed.getD · false) i hiu (List.range k) List.nodup_range (by simpa using hik)]
        omega
      have hun' : ∀ j, k ≤ j → (listed.setIfInBounds i true).getD j false = false := fun j hj => by
        rw [getD_set (by omega), hun j hj]
        have : (j == i) = false := by simp; omega
        simp [this]
      have hstAt : ∀ x ∈ stAt ops k st0 res i, x ∈ stL ops st0 res ((List.range k).filter (listed.getD · false)) := by
        intro x hx
        simp only [stAt, stL, ho, Option.map_some, Option.getD_some, List.mem_append, List.mem_filterMap] at hx ⊢
        rcases hx with ⟨j, hj, hx⟩ | hx
        · refine .inl ⟨j, List.mem_filter.2 ⟨?_, hbl j hj⟩, hx⟩
          have := hlt j hj
          rw [if_pos hik] at this
          simp; omega
        · obtain ⟨hx1, hx2⟩ := List.mem_filter.1 hx
          refine .inr (List.mem_filter.2 ⟨hx1, List.all_eq_true.2 fun j hj => ?_⟩)
          obtain ⟨hj1, hj2⟩ := List.mem_filter.1 hj
          have := List.all_eq_true.1 hx2 j hj1
          rw [Bool.or_eq_true] at this
          rcases this with h | h
          · exact h
          · exfalso
            cases hoj : ops[j]? with
            | none => simp [hoj] at h
            | some oj =>
              simp only [hoj, Option.map_some, Option.getD_some] at h
              have := hcl j oj hj2 hoj i (List.contains_iff_mem.1 h)
              rw [hiu] at this; cases this
      have hcl' : ∀ j oj, (listed.setIfInBounds i true).getD j false = true → ops[j]? = some oj → ∀ b ∈ bindsOn oj, (listed.setIfInBounds i true).getD b false = true := fun j oj hj hoj b hb => by
        rw [getD_set (by omega), Bool.or_eq_true] at hj ⊢
        rcases hj with hj | hj
        · exact .inl (hcl j oj hj hoj b hb)
        · have : j = i := by simpa using hj
          subst this
          rw [ho] at hoj; cases hoj
          exact .inl (hbl b hb)
      have hput : ∀ (p : PV), res[i]? = some p → ∀ x ∈ stL ops st0 res ((List.range k).filter ((listed.setIfInBounds i true).getD · false)), x ∈ (stL ops st0 res ((List.range k).filter (listed.getD · false))).putD o.dst p := by
        intro p hp x hx
        rw [hfilset] at hx
        simp only [stL, List.mem_append, List.mem_filterMap, List.mem_filter, List.mem_range] at hx
        have keep : x ∈ stL ops st0 res ((List.range k).filter (listed.getD · false)) → (∀ d, o.dst = some d → x.1 ≠ d) → x ∈ (stL ops st0 res ((List.range k).filter (listed.getD · false))).putD o.dst p := by
          intro hm hne
          cases hod : o.dst with
          | none => exact hm
          | some d =>
            simp only [St.putD, St.put, St.del, List.mem_cons, List.mem_filter]
            exact .inr ⟨hm, by simpa using hne d hod⟩
        rcases hx with ⟨j, ⟨hjk, hj⟩, hx⟩ | hx
        · by_cases hji : j = i
          · subst hji
            simp only [ho, Option.bind_some, hp] at hx
            cases hod : o.dst with
            | none => simp [hod] at hx
            | some d =>
              simp [hod] at hx
              subst hx
              simp [St.putD, St.put]
          · have hj' : listed.getD j false = true := by simpa [hji] using hj
            refine keep ?_ fun d hod => ?_
            · simp only [stL, List.mem_append, List.mem_filterMap, List.mem_filter, List.mem_range]
              exact .inl ⟨j, ⟨hjk, hj'⟩, hx⟩
            · have h4 := (hfr hik d hod) j hjk hji
              cases hod' : (ops[j]?).bind (·.dst) with
              | none => simp [hod'] at hx
              | some d' =>
                cases hrj : res[j]? with
                | none => simp [hod', hrj] at hx
                | some q =>
                  simp [hod', hrj] at hx
                  subst hx
                  intro e
                  exact h4 (by rw [hod']; exact congrArg some e)
        · obtain ⟨hx1, hx2⟩ := hx
          have hx3 : ∀ j, j < k → (listed.getD j false = true ∨ j = i) → (ops[j]?).bind (·.dst) ≠ some x.1 := fun j hj hj2 => by
            have := List.all_eq_true.1 hx2 j (List.mem_filter.2 ⟨by simpa using hj, by rw [Bool.or_eq_true]; rcases hj2 with h | h; exact .inl h; exact .inr (by simpa using h)⟩)
            simpa using this
          refine keep ?_ fun d hod => ?_
          · simp only [stL, List.mem_append]
            refine .inr (List.mem_filter.2 ⟨hx1, List.all_eq_true.2 fun j hj => ?_⟩)
            obtain ⟨hj1, hj2⟩ := List.mem_filter.1 hj
            simpa using hx3 j (by simpa using hj1) (.inl hj2)
          · have := hx3 i hik (.inr rfl)
            intro e
            exact this (by simp [ho, hod, e])
      unfold wpOp
      simp only [ho]
      have hsz' : (listed.setIfInBounds i true).size = ops.size := by simp [hsz]
      have hdlt : ∀ d, o.dst = some d → d < c.nt := by rw [h1]; exact dstOk_spec hd
      cases hfree i hik with
      | skip o' ho' hc hw hp =>
        rw [ho] at ho'; cases ho'
        rw [want_of (hr.sub hstAt) hw]
        simp only [Bool.false_eq_true, if_false]
        refine ih _ t H c _ w β h0 h1 hsz' hcnt' hun' hcl' (fun s x hx => ?_) ht hHt ((hr.put (p := .sc undef) (by simp only [VR]) o.dst hdlt).sub (hput _ hp))
        rw [getD_set (by omega)]
        have hxi : x ≠ i := fun e => hc (by rw [← e]; exact List.mem_of_getElem? hx)
        simpa [hxi] using hcht s x hx
      | quiet o' p ho' hc hw hp h =>
        rw [ho] at ho'; cases ho'
        rw [want_of (hr.sub hstAt) hw]
        simp only [if_true]
        have hpos : posOk ops ch i t = true := by
          refine List.all_eq_true.2 fun s hs => ?_
          cases hcs : ch[s]? with
          | none => rfl
          | some x =>
            simp only
            split
            · rename_i hst
              have hx := (hcht s x hcs).2 hst
              cases hox : ops[x]? with
              | none => rfl
              | some ox =>
                simp only [Option.map_some, Option.getD_some]
                cases hci : (bindsOn ox).contains i with
                | false => rfl
                | true =>
                  have := hcl x ox hx hox i (List.contains_iff_mem.1 hci)
                  rw [hiu] at this; cases this
            · rename_i hst
              simp only [ho, Option.map_some, Option.getD_some]
              cases hci : (bindsOn o).contains x with
              | false => rfl
              | true => exact absurd ((hcht s x hcs).1 (hbl x (List.contains_iff_mem.1 hci))) hst
        refine .inl (wp_of_wpv ((h t H hHt hpos).at hstAt c a w β h0.len hr) fun v w' ⟨β', e1, e2⟩ => ?_)
        refine ih _ t H c _ w' β' h0 h1 hsz' hcnt' hun' hcl' (fun s x hx => ?_) ht hHt ((e1.put e2 o.dst hdlt).sub (hput _ hp))
        rw [getD_set (by omega)]
        have hxi : x ≠ i := fun e => hc (by rw [← e]; exact List.mem_of_getElem? hx)
        simpa [hxi] using hcht s x hx
      | chain o' p s H1 H2 ho' hc hw hp hh1 hh2 h =>
        rw [ho] at ho'; cases ho'
        rw [want_of (hr.sub hstAt) hw]
        simp only [if_true]
        have hst : s = t := by
          have hnot : ¬ s < t := fun hs => by rw [(hcht s i hc).2 hs] at hiu; cases hiu
          cases s with
          | zero => omega
          | succ s =>
            obtain ⟨y, hy⟩ : ∃ y, ch[s]? = some y := by
              have := (List.getElem?_eq_some_iff.1 hc).1
              exact ⟨ch[s], by simp⟩
            have := (hcht s y hy).1 (hbl y (hchain s i y o hc hy ho))
            omega
        subst hst
        rw [hh1, Option.some.injEq] at hHt
        subst hHt
        refine .inl (wp_of_wpv (h.at hstAt c a w β h0.len hr) fun v w' ⟨β', e1, e2⟩ => ?_)
        have hslt := (List.getElem?_eq_some_iff.1 hc).1
        refine ih _ (s + 1) H2 c _ w' β' h0 h1 hsz' hcnt' hun' hcl' (fun s' x hx => ?_) (by omega) hh2 ((e1.put e2 o.dst hdlt).sub (hput _ hp))
        rw [getD_set (by omega)]
        by_cases hss : s' = s
        · subst hss
          rw [hc] at hx; cases hx
          simp
        · have hxi : x ≠ i := fun e => hss (by
            subst e
            exact (List.getElem?_inj (List.getElem?_eq_some_iff.1 hx).1 hnd).1 (hx.trans hc.symm))
          have := hcht s' x hx
          simp only [hxi, beq_iff_eq, Bool.or_eq_true, or_false]
          rw [this]; omega

/-- A region whose order is drawn. -/
theorem AWP.draw {id : Nat} {st : St} {H Hf : List Blk} {rk : List Nat} (hm : P.follows .mixedOrders = true) (hs : ∀ x ∈ st0, x ∈ st) (hok : drawOk nt ops ch k rk = true) (hfree : ∀ i, i < k → FreeOk P G n0 nt ops st0 res ch Hs k i)
    (hfirst : Hs[0]? = some H) (hlast : Hs[ch.length]? = some Hf)
    (htail : AOps P G n0 nt ops (List.range' k (ops.size - k)) Q (stL ops st0 res (List.range k)) Hf) : AWP P G n0 nt (.region id ops true) Q st H := by
  intro c a w β h0 h1 hr
  refine wp_region_any hm ?_
  have hr' := (hr.sub hs).drew
  have hl : ∀ j, (Array.replicate ops.size false).getD j false = false := fun j => by
    simp [Array.getD]
  have hfil : (List.range k).filter ((Array.replicate ops.size false).getD · false) = [] := List.filter_eq_nil_iff.2 fun x _ => by simp only [hl]; simp
  refine draw_any hok hfree hlast htail ops.size (Array.replicate ops.size false) 0 H c a w.drew β h0 h1 (by simp) (by rw [hfil]; simp) (fun i _ => hl i) (fun j _ hj => by rw [hl] at hj; cases hj) (fun s x hx => ?_) (Nat.zero_le _) hfirst ?_
  · rw [hl]; simp
  · rw [hfil]
    have h9 : stL ops st0 res [] = st0 := by simp [stL]
    rw [h9]; exact hr'
end draw

theorem AWP.region {id : Nat} {l : List Nat} (hl : List.range ops.size = l) (h : AOps P G n0 nt ops l Q st H) : AWP P G n0 nt (.region id ops false) Q st H :=
  fun c a w β h0 h1 hr => wp_region (by rw [hl]; exact h c a w β h0 h1 hr)

/-! ### Code -/
def seqQ (P : Program) (G : Glob) (n0 nt : Nat) (y : Code) (Q : Exit → St → List Blk → Prop) : Exit → St → List Blk → Prop
  | .normal, st, H => AWP P G n0 nt y Q st H
  | e, st, H => Q e st H
def blockQ (id : Nat) (Q : Exit → St → List Blk → Prop) : Exit → St → List Blk → Prop
  | .exit id', st, H => match Nat.beq id' id with | true => Q .normal st H | false => Q (.exit id') st H
  | e, st, H => Q e st H

theorem AWP.seq {x y : Code} (h : AWP P G n0 nt x (seqQ P G n0 nt y Q) st H) : AWP P G n0 nt (.seq x y) Q st H := by
  intro c a w β h0 h1 hr
  refine wp_seq (wp_mono (h c a w β h0 h1 hr) fun e a' w' ⟨st', H', β', hq, hr'⟩ => ?_)
  cases e <;> simp only [seqQ] at hq <;> simp only [Exit.then]
  case normal => exact hq c a' w' β' h0 h1 hr'
  all_goals exact ⟨st', H', β', hq, hr'⟩
theorem AWP.mono {x : Code} {Q' : Exit → St → List Blk → Prop} (h : AWP P G n0 nt x Q st H) (hq : ∀ e st H, Q e st H → Q' e st H) : AWP P G n0 nt x Q' st H :=
  fun c a w β h0 h1 hr => wp_mono (h c a w β h0 h1 hr) fun _ _ _ ⟨st', H', β', h2, hr'⟩ => ⟨st', H', β', hq _ _ _ h2, hr'⟩
theorem AWP.skip (h : Q .normal st H) : AWP P G n0 nt .skip Q st H := fun _ _ _ β _ _ hr => wp_skip ⟨st, H, β, h, hr⟩
theorem AWP.exit {id : Nat} (h : Q (.exit id) st H) : AWP P G n0 nt (.exit id) Q st H := fun _ _ _ β _ _ hr => wp_exit ⟨st, H, β, h, hr⟩
theorem AWP.ret (h : Q .ret st H) : AWP P G n0 nt .ret Q st H := fun _ _ _ β _ _ hr => wp_ret ⟨st, H, β, h, hr⟩
theorem AWP.block {id : Nat} {x : Code} (h : AWP P G n0 nt x (blockQ id Q) st H) : AWP P G n0 nt (.block id x) Q st H := by
  intro c a w β h0 h1 hr
  refine wp_block (wp_mono (h c a w β h0 h1 hr) fun e a' w' ⟨st', H', β', hq, hr'⟩ => ?_)
  cases e <;> simp only [blockQ] at hq <;> simp only [Exit.inBlock]
  case exit id' =>
    split at hq
    · rename_i hid; rw [if_pos (Nat.eq_of_beq_eq_true hid)]; exact ⟨st', H', β', hq, hr'⟩
    · rename_i hid; rw [if_neg (fun h => by subst h; rw [Nat.beq_refl] at hid; cases hid)]; exact ⟨st', H', β', hq, hr'⟩
  all_goals exact ⟨st', H', β', hq, hr'⟩
theorem AWP.cond {x : Operand} {t e : Code} {b : Bool} (hx : opd G st x = some (.sc (.bool b))) (ht : b = true → AWP P G n0 nt t Q st H) (he : b = false → AWP P G n0 nt e Q st H) : AWP P G n0 nt (.cond x t e) Q st H := by
  intro c a w β h0 h1 hr
  have h2 := hr.opd hx
  simp only [VR] at h2
  exact wp_cond_split h2 (fun hb => ht hb c a w β h0 h1 hr) (fun hb => he hb c a w β h0 h1 hr)
theorem AWP.sub {x : Code} {st' : St} (hs : ∀ y ∈ st', y ∈ st) (h : AWP P G n0 nt x Q st' H) : AWP P G n0 nt x Q st H :=
  fun c a w β h0 h1 hr => h c a w β h0 h1 (hr.sub hs)
theorem AWP.pick {x : Code} {ks : List Nat} {st' : St} (hs : st.pick ks = st') (h : AWP P G n0 nt x Q st' H) : AWP P G n0 nt x Q st H :=
  h.sub (by subst hs; exact St.pick_sub ks st)

/-- A loop: I n holds of the states at its head, and a round lowers n. -/
theorem AWP.loop {x : Code} (I : Nat → St → List Blk → Prop) (n : Nat) (hI : I n st H)
    (round : ∀ n st H, I n st H → AWP P G n0 nt x (fun e st' H' => match e with | .normal => ∃ m, m < n ∧ I m st' H' | e => Q e st' H') st H) : AWP P G n0 nt (.loop x) Q st H := by
  intro c a w β h0 h1 hr b k cs
  have key : ∀ n st H a w β, I n st H → RelB G c β st H a w → ∃ e a' w', Lift G c Q e a' w' ∧ Arrives P (lone (b.at a (.code x :: .inLoop x :: k)) cs w) b k cs e a' w' := by
    intro n
    induction n using Nat.strongRecOn with
    | _ n ih =>
      intro st H a w β hI hr
      obtain ⟨e, a1, w1, ⟨st', H', β', hq, hr'⟩, harr⟩ := round n st H hI c a w β h0 h1 hr b (.inLoop x :: k) cs
      cases e with
      | normal =>
        obtain ⟨m, hm, hi⟩ := hq
        obtain ⟨e2, a2, w2, hq2, harr2⟩ := ih m hm st' H' a1 w1 β' hi hr'
        exact ⟨e2, a2, w2, hq2, .of_steps (Steps.trans harr (.one step_inLoop)) harr2⟩
      | exit id => exact ⟨_, a1, w1, ⟨st', H', β', hq, hr'⟩, .pass (x := .inLoop x) rfl (fun _ _ => .inl (by simp)) harr⟩
      | goto l => exact ⟨_, a1, w1, ⟨st', H', β', hq, hr'⟩, .pass (x := .inLoop x) rfl (fun _ _ => .inl (by simp)) harr⟩
      | ret => exact ⟨_, a1, w1, ⟨st', H', β', hq, hr'⟩, .pass (x := .inLoop x) rfl (fun _ _ => .inl (by simp)) harr⟩
      | panic ch => exact ⟨_, a1, w1, ⟨st', H', β', hq, hr'⟩, .pass (x := .inLoop x) rfl (fun _ _ => .inl (by simp)) harr⟩
      | outgrown => exact ⟨_, a1, w1, ⟨st', H', β', hq, hr'⟩, .pass (x := .inLoop x) rfl (fun _ _ => .inl (by simp)) harr⟩
  obtain ⟨e, a', w', hq, harr⟩ := key n st H a w β hI hr
  exact ⟨e, a', w', hq, .of_steps (.one step_loop) harr⟩

/-- A loop that is left by one exit. -/
def loopQ (id : Nat) (I : Nat → St → List Blk → Prop) (n : Nat) (Q : Exit → St → List Blk → Prop) : Exit → St → List Blk → Prop
  | .normal, st, H => ∃ m, m < n ∧ I m st H
  | .exit j, st, H => match Nat.beq j id with | true => Q .normal st H | false => Q (.exit j) st H
  | e, st, H => Q e st H
theorem AWP.bloop {id : Nat} {x : Code} (I : Nat → St → List Blk → Prop) (n : Nat) (hI : I n st H) (round : ∀ n st H, I n st H → AWP P G n0 nt x (loopQ id I n Q) st H) : AWP P G n0 nt (.block id (.loop x)) Q st H := by
  refine AWP.block (AWP.loop I n hI fun n st H h => (round n st H h).mono fun e st' H' hq => ?_)
  cases e <;> simp only [loopQ] at hq <;> simp only [blockQ]
  all_goals exact hq
end
end Go.AM

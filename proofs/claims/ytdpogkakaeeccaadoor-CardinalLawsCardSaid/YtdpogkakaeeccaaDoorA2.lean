/- Abstract states (slots and blocks), when a state of the machine fits one, and the judgement of one operation. No condition. -/
import Derived.Test.YtdpogkakaeeccaaDoorA1
import Derived.Laws.CopyRow
import Derived.ChangeKeysEq
namespace Go.AM

inductive Blk where
  | cells (cs : List PV)
  | buf (s t : Nat) (xs : List (List PV)) (sh : Bool)

abbrev St := List (Nat × PV)
def St.get (st : St) (k : Nat) : Option PV := st.lookup k
def St.del (st : St) (k : Nat) : St := st.filter fun x => x.1 != k
def St.put (st : St) (k : Nat) (p : PV) : St := (k, p) :: st.del k
def St.putD (st : St) (d : Option Nat) (p : PV) : St := match d with | some k => st.put k p | none => st

structure Ctx where
  w0 : World
  S0 : Nat → Nat → Prop
  β0 : List Bnd
  nt : Nat
  gh : List (PV × Value)
/-- Nothing that is kept names a block from n0 on. -/
structure Ctx.fit (c : Ctx) (n0 : Nat) : Prop where
  len : c.β0.length ≤ n0
  gh : ∀ x ∈ c.gh, x.1.ids (fun j => decide (j < n0)) = true

/-- The block of the machine that an abstract block names. -/
def Blk.at (e : Bnd) : Blk → Option Nat
  | .cells _ => some e.b
  | .buf .. => e.v.ownBlock
/-- The cells of b below hi are not written through this abstract block. -/
def Blk.free (e : Bnd) (b hi : Nat) : Blk → Prop
  | .cells _ => e.b ≠ b
  | .buf s _ xs sh => e.v.ownBlock = some b → sh = true ∧ hi ≤ xs.length * s
/-- What nobody writes any more. -/
def stab (c : Ctx) (β : List Bnd) (H : List Blk) (w : World) (b hi : Nat) : Prop :=
  c.S0 b hi ∨ (c.w0.heap.size ≤ b ∧ b < w.heap.size ∧ ∀ (i : Nat) e k, β[i]? = some e → H[i]? = some k → k.free e b hi)

abbrev Glob := List (Nat × List PV)

structure OkCtx (G : Glob) (c : Ctx) : Prop where
  old : ∀ b hi, c.S0 b hi → b < c.w0.heap.size ∧ ∀ e ∈ c.β0, e.b ≠ b
  glob : ∀ g cs, (g, cs) ∈ G → c.S0 g cs.length ∧ VRow c.S0 [] c.w0 g 0 cs
  low : ∀ e ∈ c.β0, e.b < c.w0.heap.size
  down : ∀ b hi hi', c.S0 b hi → hi' ≤ hi → c.S0 b hi'

theorem OkCtx.ghost {G : Glob} {c : Ctx} (h : OkCtx G c) {g : List (PV × Value)} : OkCtx G { c with gh := g } := ⟨h.old, h.glob, h.low, h.down⟩
theorem OkCtx.unghost {G : Glob} {c : Ctx} {g : List (PV × Value)} (h : OkCtx G { c with gh := g }) : OkCtx G c := ⟨h.old, h.glob, h.low, h.down⟩
structure Frm (c : Ctx) (w : World) : Prop where
  os : w.os = c.w0.os
  tape : w.tape = c.w0.tape
  output : w.output = c.w0.output
  size : c.w0.heap.size ≤ w.heap.size
  block : ∀ b, b < c.w0.heap.size → (∀ e ∈ c.β0, e.b ≠ b) → w.heap[b]? = c.w0.heap[b]?
  typ : ∀ (b : Nat) vs t, c.w0.heap[b]? = some (.cells vs t (0, 0)) → ∃ vs', w.heap[b]? = some (.cells vs' t (0, 0))

def BlkR (S : Nat → Nat → Prop) (β : List Bnd) (w : World) (base i : Nat) (e : Bnd) : Blk → Prop
  | .cells cs => PV.idss (fun j => decide (j < i)) cs = true ∧ ∃ vs t, w.heap[e.b]? = some (.cells vs t (0, 0)) ∧ VRs S β w cs vs.toList
  | .buf s t xs _ => e.n = xs.length ∧ e.s = s ∧ (∀ x ∈ xs, x.length = s) ∧ ∃ vals, w.ownsRow base t s e.v xs.length vals ∧ VRs S [] w xs.flatten vals

structure RelB (G : Glob) (c : Ctx) (β : List Bnd) (st : St) (H : List Blk) (a : Act) (w : World) : Prop where
  ok : OkCtx G c
  len : β.length = H.length
  pre : ∃ γ, β = c.β0 ++ γ
  blk : ∀ (i : Nat) e k, β[i]? = some e → H[i]? = some k → BlkR (stab c β H w) β w c.w0.heap.size i e k
  inj : ∀ (i j : Nat) e f k l b, i ≠ j → β[i]? = some e → H[i]? = some k → β[j]? = some f → H[j]? = some l → k.at e = some b → l.at f = some b → False
  loc : ∀ (i : Nat) e k b, c.β0.length ≤ i → β[i]? = some e → H[i]? = some k → k.at e = some b → c.w0.heap.size ≤ b ∧ b < w.heap.size
  cel : ∀ (i : Nat), i < c.β0.length → ∃ cs, H[i]? = some (.cells cs)
  slots : ∀ x ∈ st, x.1 < c.nt ∧ VR (stab c β H w) β w x.2 (a.tmps.getD x.1 undef)
  nt : a.tmps.size = c.nt
  dfr : a.defers = []
  frm : Frm c w
  gh : ∀ x ∈ c.gh, VR (stab c β H w) β w x.1 x.2

theorem lookup_mem {α : Type} : ∀ (l : List (Nat × α)) (k : Nat) (p : α), l.lookup k = some p → (k, p) ∈ l
  | [], _, _, h => by simp at h
  | (j, q) :: l, k, p, h => by
    simp only [List.lookup] at h
    split at h
    · rename_i hk
      have : k = j := by simpa using hk
      subst this
      simp at h; subst h; simp
    · exact List.mem_cons_of_mem _ (lookup_mem l k p h)

section
variable {P : Program} {G : Glob} {c : Ctx} {β : List Bnd} {st : St} {H : List Blk} {a : Act} {w : World}

theorem cell_of_heap {w w' : World} {b o : Nat} (h : w'.heap[b]? = w.heap[b]?) : w'.cell? ⟨b, o, none⟩ = w.cell? ⟨b, o, none⟩ := by simp [World.cell?, h]

theorem RelB.ext0 (h : RelB G c β st H a w) : Ext c.S0 c.w0 (stab c β H w) w :=
  ⟨fun _ _ hs => .inl hs, fun b hi o v hs _ hv => by
    obtain ⟨h1, h2⟩ := h.ok.old b hi hs
    rw [cell_of_heap (h.frm.block b h1 h2)]; exact hv⟩

theorem OkCtx.stab (h : OkCtx G c) {b hi hi' : Nat} (hs : stab c β H w b hi) (hl : hi' ≤ hi) : stab c β H w b hi' := by
  rcases hs with hs | ⟨h1, h2, h3⟩
  · exact .inl (h.down b hi hi' hs hl)
  · refine .inr ⟨h1, h2, fun i e k g1 g2 => ?_⟩
    have := h3 i e k g1 g2
    cases k with
    | cells cs => exact this
    | buf s t xs sh => exact fun hb => ⟨(this hb).1, Nat.le_trans hl (this hb).2⟩

/-- An operand as an abstract value. -/
def opd (G : Glob) (st : St) : Operand → Option PV
  | .tmp t => st.get t
  | .const v => some (.sc v)
  | .global g => (G.lookup g).map fun cs => .ro cs 0
  | .func f => some (.sc (.func (.func f) #[] #[]))

theorem RelB.opd (h : RelB G c β st H a w) {x : Operand} {p : PV} (hx : opd G st x = some p) : VR (stab c β H w) β w p (a.eval x) := by
  cases x with
  | tmp t => exact (h.slots (t, p) (lookup_mem st t p hx)).2
  | const v => simp only [AM.opd, Option.some.injEq] at hx; subst hx; simp only [VR, Act.eval]
  | func f => simp only [AM.opd, Option.some.injEq] at hx; subst hx; simp only [VR, Act.eval]
  | global g =>
    simp only [AM.opd, Option.map_eq_some_iff] at hx
    obtain ⟨cs, h1, rfl⟩ := hx
    obtain ⟨h2, h3⟩ := h.ok.glob g cs (lookup_mem G g cs h1)
    simp only [VR, Act.eval]
    exact ⟨g, 0, rfl, .inl (by simpa using h2), VRow.ext h.ext0 (BExt.refl _ _) g cs.length h2 cs 0 (by omega) (PV.idss_true cs) h3⟩

/-- What is asked once an operation is carried out: a value, or a call that returns one. -/
def wpv (P : Program) (o : Oper) (a : Act) (w : World) (K : Value → World → Prop) : Prop :=
  match (execOp a.eval o).run P w with
  | .ok (.value v) w' => K v w'
  | .ok .skip w' => K undef w'
  | .ok (.enter f args) w' => Calls P f args w' fun e w'' => ∃ v, e = .returned v ∧ K v w''
  | _ => False

def RelV (G : Glob) (c : Ctx) (β : List Bnd) (H : List Blk) (w : World) (st : St) (H' : List Blk) (a : Act) (p : PV) (v : Value) (w' : World) : Prop :=
  ∃ β', RelB G c β' st H' a w' ∧ VR (stab c β' H' w') β' w' p v ∧ BExt (fun _ => true) β β' ∧ Ext (stab c β H w) w (stab c β' H' w') w'

/-- One operation, from an abstract state: its value, and the blocks behind it. -/
def OpT (P : Program) (G : Glob) (n0 : Nat) (o : Oper) (st : St) (H : List Blk) (p : PV) (H' : List Blk) : Prop :=
  ∀ c a w β, c.β0.length ≤ n0 → RelB G c β st H a w → wpv P o a w (fun v w' => RelV G c β H w st H' a p v w')

theorem wpv_mono {o : Oper} {K K' : Value → World → Prop} (h : wpv P o a w K) (hk : ∀ v w', K v w' → K' v w') : wpv P o a w K' := by
  unfold wpv at h ⊢
  split at h
  · exact hk _ _ h
  · exact hk _ _ h
  · exact h.mono fun _ _ ⟨v, h1, h2⟩ => ⟨v, h1, hk _ _ h2⟩
  · exact h.elim
/-- The same, of which only the end is told. -/
def OpW (P : Program) (G : Glob) (n0 : Nat) (o : Oper) (st : St) (H : List Blk) (p : PV) (H' : List Blk) : Prop :=
  ∀ c a w β, c.β0.length ≤ n0 → RelB G c β st H a w → wpv P o a w (fun v w' => ∃ β', RelB G c β' st H' a w' ∧ VR (stab c β' H' w') β' w' p v)
theorem OpT.weak {n0 : Nat} {o : Oper} {p : PV} {H' : List Blk} (h : OpT P G n0 o st H p H') : OpW P G n0 o st H p H' := fun c a w β h0 hr => wpv_mono (h c a w β h0 hr) fun _ _ ⟨β', h1, h2, _, _⟩ => ⟨β', h1, h2⟩
/-- What is kept besides. -/
theorem RelB.ghost (h : RelB G c β st H a w) {g : List (PV × Value)} (hg : ∀ x ∈ g, VR (stab c β H w) β w x.1 x.2) : RelB G { c with gh := g ++ c.gh } β st H a w :=
  ⟨h.ok.ghost, h.len, h.pre, h.blk, h.inj, h.loc, h.cel, h.slots, h.nt, h.dfr, ⟨h.frm.os, h.frm.tape, h.frm.output, h.frm.size, h.frm.block, h.frm.typ⟩, fun x hx => by
    rcases List.mem_append.1 hx with hx | hx
    · exact hg x hx
    · exact h.gh x hx⟩
theorem RelB.unghost {g : List (PV × Value)} (h : RelB G { c with gh := g ++ c.gh } β st H a w) : RelB G c β st H a w ∧ ∀ x ∈ g, VR (stab c β H w) β w x.1 x.2 :=
  ⟨⟨h.ok.unghost, h.len, h.pre, h.blk, h.inj, h.loc, h.cel, h.slots, h.nt, h.dfr, ⟨h.frm.os, h.frm.tape, h.frm.output, h.frm.size, h.frm.block, h.frm.typ⟩, fun x hx => h.gh x (List.mem_append_right _ hx)⟩, fun x hx => h.gh x (List.mem_append_left _ hx)⟩
/-- From a state that says more. -/
theorem OpW.at {n0 : Nat} {o : Oper} {st' : St} {p : PV} {H' : List Blk} (h : OpW P G n0 o st H p H') (hs : ∀ x ∈ st, x ∈ st') : OpW P G n0 o st' H p H' := by
  intro c a w β h0 hr
  have hr' : RelB G c β st H a w := ⟨hr.ok, hr.len, hr.pre, hr.blk, hr.inj, hr.loc, hr.cel, fun x hx => hr.slots x (hs x hx), hr.nt, hr.dfr, hr.frm, hr.gh⟩
  have hr1 := hr'.ghost (g := st'.map fun x => (x.2, a.tmps.getD x.1 undef)) (fun x hx => by
    obtain ⟨y, hy, rfl⟩ := List.mem_map.1 hx
    exact (hr.slots y hy).2)
  refine wpv_mono (h { c with gh := (st'.map fun x => (x.2, a.tmps.getD x.1 undef)) ++ c.gh } a w β h0 hr1) fun v w' ⟨β', h1, h2⟩ => ?_
  obtain ⟨h3, h4⟩ := h1.unghost
  exact ⟨β', ⟨h3.ok, h3.len, h3.pre, h3.blk, h3.inj, h3.loc, h3.cel, fun x hx => ⟨(hr.slots x hx).1, h4 _ (List.mem_map_of_mem hx)⟩, h3.nt, h3.dfr, h3.frm, h3.gh⟩, h2⟩

theorem tmps_put {a : Act} {d : Nat} {v : Value} (k : Nat) (hd : d < a.tmps.size) : (a.put (some d) v).tmps.getD k undef = if k = d then v else a.tmps.getD k undef := by
  simp only [Act.put, Array.getD_eq_getD_getElem?, Array.getElem?_setIfInBounds]
  by_cases hk : k = d
  · subst hk; simp [hd]
  · simp [hk, Ne.symm hk]

theorem RelB.put (h : RelB G c β st H a w) {p : PV} {v : Value} (hv : VR (stab c β H w) β w p v) (d : Option Nat) (hd : ∀ k, d = some k → k < c.nt) :
    RelB G c β (st.putD d p) H (a.put d v) w := by
  cases d with
  | none => exact h
  | some d =>
    have hlt : d < a.tmps.size := by rw [h.nt]; exact hd d rfl
    refine ⟨h.ok, h.len, h.pre, h.blk, h.inj, h.loc, h.cel, ?_, by simp [Act.put, h.nt], h.dfr, h.frm, h.gh⟩
    intro x hx
    rw [tmps_put _ hlt]
    simp only [St.putD, St.put, St.del, List.mem_cons, List.mem_filter] at hx
    rcases hx with rfl | ⟨hx, hne⟩
    · exact ⟨hd _ rfl, by simpa using hv⟩
    · have hne' : x.1 ≠ d := by simpa using hne
      rw [if_neg hne']
      exact h.slots x hx

/-- More may be said again of the slots behind an operation. -/
theorem RelB.more (h : RelB G c β st H a w) {β' : List Bnd} {H' : List Blk} {w' : World} {st0 : St} (h' : RelB G c β' st0 H' a w') (hb : BExt (fun _ => true) β β')
    (hx : Ext (stab c β H w) w (stab c β' H' w') w') : RelB G c β' st H' a w' :=
  ⟨h.ok, h'.len, h'.pre, h'.blk, h'.inj, h'.loc, h'.cel, fun x hx' => ⟨(h.slots x hx').1, VR.ext_all hx hb (h.slots x hx').2⟩, h.nt, h.dfr, h'.frm, h'.gh⟩

/-- A state that says less. -/
theorem RelB.sub (h : RelB G c β st H a w) {st' : St} (hs : ∀ x ∈ st', x ∈ st) : RelB G c β st' H a w :=
  ⟨h.ok, h.len, h.pre, h.blk, h.inj, h.loc, h.cel, fun x hx => h.slots x (hs x hx), h.nt, h.dfr, h.frm, h.gh⟩

theorem VRow.cells {S : Nat → Nat → Prop} {β : List Bnd} {w : World} {b : Nat} : ∀ (ps : List PV) (o : Nat), VRow S β w b o ps →
    ∃ us, VRs S β w ps us ∧ ∀ j u, us[j]? = some u → w.cell? ⟨b, o + j, none⟩ = some u
  | [], o, _ => ⟨[], by simp only [VRs], by simp⟩
  | p :: ps, o, h => by
    simp only [VRow] at h
    obtain ⟨⟨u, h1, h2⟩, h3⟩ := h
    obtain ⟨us, h4, h5⟩ := VRow.cells ps (o + 1) h3
    refine ⟨u :: us, by simp only [VRs]; exact ⟨h2, h4⟩, fun j v hj => ?_⟩
    cases j with
    | zero => simp at hj; subst hj; exact h1
    | succ j => simp at hj; have := h5 j v hj; rwa [show o + 1 + j = o + (j + 1) by omega] at this
theorem VRow.mk {S : Nat → Nat → Prop} {β : List Bnd} {w : World} {b : Nat} : ∀ (ps : List PV) (us : List Value) (o : Nat), VRs S β w ps us →
    (∀ j u, us[j]? = some u → w.cell? ⟨b, o + j, none⟩ = some u) → VRow S β w b o ps
  | [], _, o, _, _ => by simp only [VRow]
  | _ :: _, [], _, h, _ => by simp only [VRs] at h
  | p :: ps, u :: us, o, h, hc => by
    simp only [VRs] at h
    simp only [VRow]
    refine ⟨⟨u, by simpa using hc 0 u rfl, h.1⟩, VRow.mk ps us (o + 1) h.2 fun j v hj => ?_⟩
    have := hc (j + 1) v (by simpa using hj)
    rwa [show o + (j + 1) = o + 1 + j by omega] at this
theorem VRow.drop {S : Nat → Nat → Prop} {β : List Bnd} {w : World} {b : Nat} : ∀ (ps : List PV) (o n : Nat), VRow S β w b o ps → VRow S β w b (o + n) (ps.drop n)
  | ps, o, 0, h => by simpa using h
  | [], o, n + 1, h => by simp [VRow]
  | p :: ps, o, n + 1, h => by
    simp only [VRow] at h
    have := VRow.drop ps (o + 1) n h.2
    simpa [Nat.add_assoc, Nat.add_comm 1 n] using this

/-! ### Values out of cells -/
def PV.vals : List PV → Option (List Value)
  | [] => some []
  | .sc v :: r => (PV.vals r).map (v :: ·)
  | _ :: _ => none
def mkAgg (cs : List PV) : PV := match PV.vals cs with | some vs => .sc (.agg vs.toArray) | none => .agg cs
theorem PV.vals_eq : ∀ (cs : List PV) (vs : List Value), PV.vals cs = some vs → cs = vs.map .sc
  | [], vs, h => by simp [PV.vals] at h; subst h; rfl
  | .sc v :: r, vs, h => by
    simp only [PV.vals, Option.map_eq_some_iff] at h
    obtain ⟨vs', h1, rfl⟩ := h
    simp [PV.vals_eq r vs' h1]
  | .agg _ :: _, _, h | .tup _ :: _, _, h | .ptr _ _ :: _, _, h | .ro _ _ :: _, _, h | .sl _ _ :: _, _, h | .own _ _ :: _, _, h | .ept _ _ _ _ :: _, _, h | .mp _ :: _, _, h | .z :: _, _, h | .vw _ _ _ :: _, _, h | .ow _ _ _ _ :: _, _, h | .fn _ _ :: _, _, h => by simp [PV.vals] at h
theorem VR.mkAgg {S : Nat → Nat → Prop} {β : List Bnd} {w : World} {cs : List PV} {us : List Value} (h : VRs S β w cs us) : VR S β w (mkAgg cs) (.agg us.toArray) := by
  unfold AM.mkAgg
  cases hv : PV.vals cs with
  | none => simp only [VR]; exact ⟨us.toArray, rfl, by simpa using h⟩
  | some vs =>
    simp only [VR]
    have := PV.vals_eq cs vs hv
    subst this
    rw [VRs.scs_iff vs us h]

theorem cells_one {u : Value} (h : u.oneCell' = true) : u.cells.toList = [u] := by
  cases u <;> first | rfl | (simp [Value.oneCell'] at h)
/-- The cells of a value. -/
def PV.cells : PV → List PV
  | .agg cs => cs
  | .sc v => v.cells.toList.map .sc
  | p => [p]
theorem VR.cells {S : Nat → Nat → Prop} {β : List Bnd} {w : World} {p : PV} {u : Value} (h : VR S β w p u) : VRs S β w p.cells u.cells.toList := by
  cases p with
  | sc v => simp only [VR] at h; subst h; exact VRs.scs _
  | agg cs => simp only [VR] at h; obtain ⟨us, rfl, h⟩ := h; exact h
  | tup cs => have h' := h; simp only [VR] at h; obtain ⟨us, rfl, _⟩ := h; simp only [PV.cells, Value.cells, VRs]; exact ⟨h', trivial⟩
  | ptr i off => have h' := h; simp only [VR] at h; obtain ⟨us, _, rfl⟩ := h; simp only [PV.cells, Value.cells, VRs]; exact ⟨h', trivial⟩
  | ro cs off => have h' := h; simp only [VR] at h; obtain ⟨_, _, rfl, _⟩ := h; simp only [PV.cells, Value.cells, VRs]; exact ⟨h', trivial⟩
  | sl s xs => have h' := h; simp only [VR] at h; obtain ⟨_, _, rfl, _⟩ := h; simp only [PV.cells, Value.cells, VRs]; exact ⟨h', trivial⟩
  | mp i => have h' := h; simp only [VR] at h; obtain ⟨us, _, rfl⟩ := h; simp only [PV.cells, Value.cells, VRs]; exact ⟨h', trivial⟩
  | fn f cs => have h' := h; simp only [VR] at h; obtain ⟨us, rfl, _⟩ := h; simp only [PV.cells, Value.cells, VRs]; exact ⟨h', trivial⟩
  | own i n => have h' := h; simp only [VR] at h; simp only [PV.cells, cells_one h.1, VRs]; exact ⟨h', trivial⟩
  | ow i n lo hi => have h' := h; simp only [VR] at h; simp only [PV.cells, cells_one h.1, VRs]; exact ⟨h', trivial⟩
  | z => have h' := h; simp only [VR] at h; obtain ⟨_, rfl⟩ := h; simp only [PV.cells, Value.cells, VRs]; exact ⟨h', trivial⟩
  | vw i off n => have h' := h; simp only [VR] at h; obtain ⟨_, _, _, _, _, rfl, _⟩ := h; simp only [PV.cells, Value.cells, VRs]; exact ⟨h', trivial⟩
  | ept i n k off => have h' := h; simp only [VR] at h; simp only [PV.cells, cells_one h.1, VRs]; exact ⟨h', trivial⟩
end
end Go.AM

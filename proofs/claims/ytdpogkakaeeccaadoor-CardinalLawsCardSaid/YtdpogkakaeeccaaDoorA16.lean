/- Regions whose order is drawn, by their orders: a pair that no edge orders may be taken both ways. Blocks may change places. No condition. -/
import Derived.Test.YtdpogkakaeeccaaDoorA15
namespace Go.AM
section
variable {P : Program} {G : Glob} {n0 nt : Nat} {st : St} {H : List Blk} {Q : Exit → St → List Blk → Prop} {ops : Array Oper} {R : Exit → Act → World → Prop}

/-- An order of the region. -/
def Lin (ops : Array Oper) : Nat → Array Bool → List Nat → Prop
  | 0, _, l => l = []
  | f + 1, listed, l => (Region.ready .any ops listed = [] ∧ l = []) ∨ ∃ i l', l = i :: l' ∧ i ∈ Region.ready .any ops listed ∧ Lin ops f (listed.setIfInBounds i true) l'

theorem Lin.of_go : ∀ (f t : Nat) (listed : Array Bool), Lin ops f listed (Region.linearise.go .any ops f t listed [])
  | 0, t, listed => by simp [Lin, Region.linearise.go]
  | f + 1, t, listed => by
    simp only [Lin, Region.linearise.go]
    change (_ ∧ (match (Region.ready .any ops listed)[t % (Region.ready .any ops listed).length]? with
      | some i => Region.linearise.go .any ops f (t / (Region.ready .any ops listed).length) (listed.setIfInBounds i true) [i]
      | none => [].reverse) = []) ∨ ∃ i l', (match (Region.ready .any ops listed)[t % (Region.ready .any ops listed).length]? with
      | some i => Region.linearise.go .any ops f (t / (Region.ready .any ops listed).length) (listed.setIfInBounds i true) [i]
      | none => [].reverse) = i :: l' ∧ _
    cases hi : (Region.ready .any ops listed)[t % (Region.ready .any ops listed).length]? with
    | none =>
      left
      refine ⟨?_, rfl⟩
      cases hr : Region.ready .any ops listed with
      | nil => rfl
      | cons x xs =>
        rw [hr] at hi
        have hlt : t % (x :: xs).length < (x :: xs).length := Nat.mod_lt _ (by simp)
        simp at hi
        simp at hlt
        omega
    | some i =>
      right
      refine ⟨i, _, ?_, List.mem_of_getElem? hi, Lin.of_go f (t / (Region.ready .any ops listed).length) (listed.setIfInBounds i true)⟩
      simp only []
      rw [linearise_go_acc, List.reverse_singleton, List.singleton_append]

theorem wpAny_lin : ∀ (f : Nat) (listed : Array Bool) (a : Act) (w : World) (l : List Nat), wpAny P .any ops R f listed a w → Lin ops f listed l → wpOps P ops R l a w
  | 0, listed, a, w, l, h, hl => by
    simp only [Lin] at hl; subst hl
    simpa [wpOps] using h.2
  | f + 1, listed, a, w, l, h, hl => by
    simp only [Lin] at hl
    rcases hl with ⟨h1, rfl⟩ | ⟨i, l', rfl, hi, hl⟩
    · simpa [wpOps] using h.1 h1
    · rw [wpOps_cons]
      exact wpOp_mono (fun a w hw => wpAny_lin f _ a w l' hw hl) (h.2 i hi)

/-- The region with one more edge: operation x waits for operation y. -/
def addEdge (ops : Array Oper) (x y : Nat) : Array Oper := ops.setIfInBounds x { (ops[x]?).getD default with after := ((ops[x]?).getD default).after.push { on := y, ground := .data } }
theorem addEdge_ne {x y i : Nat} (h : i ≠ x) : (addEdge ops x y)[i]? = ops[i]? := by
  simp [addEdge, Array.getElem?_setIfInBounds_ne (Ne.symm h)]
theorem addEdge_self {x y : Nat} {o : Oper} (h : ops[x]? = some o) : (addEdge ops x y)[x]? = some { o with after := o.after.push { on := y, ground := .data } } := by
  have hx := (Array.getElem?_eq_some_iff.1 h).1
  unfold addEdge
  rw [h]
  simp [hx]
theorem addEdge_none {x y : Nat} (h : ops[x]? = none) : addEdge ops x y = ops := by
  have hx := Array.getElem?_eq_none_iff.1 h
  simp [addEdge, Array.setIfInBounds, show ¬ x < ops.size by omega]
theorem yielded_edge {x y : Nat} (tmps : Array Value) : yielded (addEdge ops x y) tmps = yielded ops tmps := by
  funext j
  unfold yielded
  by_cases hj : j = x
  · subst hj
    cases h : ops[j]? with
    | none => rw [addEdge_none h, h]
    | some o => rw [addEdge_self h]; rfl
  · rw [addEdge_ne hj]
theorem wpOp_edge {x y i : Nat} {K : Act → World → Prop} {a : Act} {w : World} : wpOp P (addEdge ops x y) R i K a w = wpOp P ops R i K a w := by
  unfold wpOp
  by_cases hj : i = x
  · subst hj
    cases h : ops[i]? with
    | none => rw [addEdge_none h, h]
    | some o => rw [addEdge_self h, yielded_edge]; rfl
  · rw [addEdge_ne hj, yielded_edge]
theorem wpOps_edge {x y : Nat} : ∀ (l : List Nat) (a : Act) (w : World), wpOps P (addEdge ops x y) R l a w → wpOps P ops R l a w
  | [], a, w, h => by simpa [wpOps] using h
  | i :: l, a, w, h => by
    rw [wpOps_cons] at h ⊢
    rw [wpOp_edge] at h
    exact wpOp_mono (fun a w hw => wpOps_edge l a w hw) h

theorem ready_edge {x y i : Nat} {listed : Array Bool} : i ∈ Region.ready .any (addEdge ops x y) listed ↔ i ∈ Region.ready .any ops listed ∧ (i = x → listed.getD y false = true) := by
  rw [mem_ready, mem_ready]
  by_cases hi : i = x
  · subst hi
    cases h : ops[i]? with
    | none => rw [addEdge_none h, h]; simp
    | some o =>
      rw [addEdge_self h]
      simp only [Option.some.injEq, exists_eq_left', Array.mem_push, true_implies]
      constructor
      · rintro ⟨h1, h2⟩
        exact ⟨⟨h1, fun e he hb => h2 e (.inl he) hb⟩, h2 { on := y, ground := .data } (.inr rfl) rfl⟩
      · rintro ⟨⟨h1, h2⟩, h3⟩
        exact ⟨h1, fun e he hb => by rcases he with he | he; exact h2 e he hb; subst he; exact h3⟩
  · rw [addEdge_ne hi]; simp [hi]

theorem getD_true {listed : Array Bool} {i j : Nat} (h : listed.getD j false = true) : (listed.setIfInBounds i true).getD j false = true := by
  by_cases hji : i = j
  · subst hji
    have : i < listed.size := by
      refine Classical.byContradiction fun hn => ?_
      simp [Array.getD, hn] at h
    simp [Array.getD, this]
  · rw [getD_set_ne _ hji]; exact h

/-- Once y is done, the edge says nothing. -/
theorem Lin.done {x y : Nat} : ∀ (f : Nat) (listed : Array Bool) (l : List Nat), listed.getD y false = true → Lin ops f listed l → Lin (addEdge ops x y) f listed l
  | 0, _, _, _, h => h
  | f + 1, listed, l, hy, h => by
    simp only [Lin] at h ⊢
    rcases h with ⟨h1, h2⟩ | ⟨i, l', h1, h2, h3⟩
    · left
      refine ⟨?_, h2⟩
      cases hr : Region.ready .any (addEdge ops x y) listed with
      | nil => rfl
      | cons j js =>
        have : j ∈ Region.ready .any (addEdge ops x y) listed := by rw [hr]; simp
        have := (ready_edge.1 this).1
        rw [h1] at this; cases this
    · exact .inr ⟨i, l', h1, ready_edge.2 ⟨h2, fun _ => hy⟩, Lin.done f _ l' (getD_true hy) h3⟩
theorem Lin.either {x y : Nat} (hxy : x ≠ y) : ∀ (f : Nat) (listed : Array Bool) (l : List Nat), Lin ops f listed l → Lin (addEdge ops x y) f listed l ∨ Lin (addEdge ops y x) f listed l
  | 0, _, _, h => .inl h
  | f + 1, listed, l, h => by
    simp only [Lin] at h
    rcases h with ⟨h1, h2⟩ | ⟨i, l', h1, h2, h3⟩
    · left
      simp only [Lin]
      left
      refine ⟨?_, h2⟩
      cases hr : Region.ready .any (addEdge ops x y) listed with
      | nil => rfl
      | cons j js =>
        have : j ∈ Region.ready .any (addEdge ops x y) listed := by rw [hr]; simp
        have := (ready_edge.1 this).1
        rw [h1] at this; cases this
    · have hsz : i < listed.size := by
        have := (mem_ready.1 h2).1
        refine Classical.byContradiction fun hn => ?_
        simp [Array.getD, hn] at this
      have hset : (listed.setIfInBounds i true).getD i false = true := by simp [Array.getD, hsz]
      by_cases hix : i = x
      · right
        simp only [Lin]
        refine .inr ⟨i, l', h1, ready_edge.2 ⟨h2, fun e => absurd (hix.symm.trans e) hxy⟩, Lin.done f _ l' (by rw [← hix]; exact hset) h3⟩
      · by_cases hiy : i = y
        · left
          simp only [Lin]
          refine .inr ⟨i, l', h1, ready_edge.2 ⟨h2, fun e => absurd e hix⟩, Lin.done f _ l' (by rw [← hiy]; exact hset) h3⟩
        · rcases Lin.either hxy f _ l' h3 with h | h
          · left; simp only [Lin]; exact .inr ⟨i, l', h1, ready_edge.2 ⟨h2, fun e => absurd e hix⟩, h⟩
          · right; simp only [Lin]; exact .inr ⟨i, l', h1, ready_edge.2 ⟨h2, fun e => absurd e hiy⟩, h⟩

/-- A drawn region, whatever its order. -/
def ADraw (P : Program) (G : Glob) (n0 nt : Nat) (ops : Array Oper) (Q : Exit → St → List Blk → Prop) (st : St) (H : List Blk) : Prop :=
  ∀ c a w β l, c.fit n0 → c.nt = nt → RelB G c β st H a w → Lin ops ops.size (Array.replicate ops.size false) l → wpOps P ops (Lift G c Q) l a w
theorem AWP.of_draw {id : Nat} (hm : P.follows .mixedOrders = true) (h : ADraw P G n0 nt ops Q st H) : AWP P G n0 nt (.region id ops true) Q st H := by
  intro c a w β h0 h1 hr
  refine wp_region_draw fun t => ?_
  simp only [Region.schedule, hm, Bool.true_or, if_true]
  exact h c a w.drew β _ h0 h1 hr.drew (Lin.of_go ops.size t _)
theorem ADraw.either (x y : Nat) (hxy : Nat.beq x y = false) (h1 : ADraw P G n0 nt (addEdge ops x y) Q st H) (h2 : ADraw P G n0 nt (addEdge ops y x) Q st H) : ADraw P G n0 nt ops Q st H := by
  intro c a w β l g0 g1 hr hl
  have hne : x ≠ y := fun e => by subst e; rw [Nat.beq_refl] at hxy; cases hxy
  have hs : ∀ x y, (addEdge ops x y).size = ops.size := fun x y => by simp [addEdge]
  rcases Lin.either hne _ _ _ hl with h | h
  · exact wpOps_edge l a w (h1 c a w β l g0 g1 hr (by rw [hs]; exact h))
  · exact wpOps_edge l a w (h2 c a w β l g0 g1 hr (by rw [hs]; exact h))
theorem ADraw.drawn {st0 st1 : St} {res : List PV} {ch : List Nat} {Hs : List (List Blk)} {Hf : List Blk} (rk : List Nat) (k : Nat) (ks ks1 : List Nat) (l : List Nat) (hs : st.pick ks = st0) (hok : drawOk nt ops ch k rk = true) (hfree : FreeUpTo P G n0 nt ops st0 res ch Hs k k)
    (hfirst : Hs[0]? = some H) (hlast : Hs[ch.length]? = some Hf) (hst1 : (stL ops st0 res (List.range k)).pick ks1 = st1) (hl : List.range' k (ops.size - k) = l)
    (htail : AOps P G n0 nt ops l Q st1 Hf) : ADraw P G n0 nt ops Q st H := by
  intro c a w β lo h0 h1 hr hlin
  have hl' : ∀ j, (Array.replicate ops.size false).getD j false = false := fun j => by simp [Array.getD]
  have hfil : (List.range k).filter ((Array.replicate ops.size false).getD · false) = [] := List.filter_eq_nil_iff.2 fun x _ => by simp only [hl']; simp
  refine wpAny_lin _ _ _ _ _ (draw_any hok hfree.get hlast (by rw [hl]; exact htail.sub (by subst hst1; exact St.pick_sub ks1 _)) ops.size (Array.replicate ops.size false) 0 H c a w β h0 h1 (by simp) (by rw [hfil]; simp) (fun i _ => hl' i)
    (fun j _ hj => by rw [hl'] at hj; cases hj) (fun s x hx => ?_) (Nat.zero_le _) hfirst ?_) hlin
  · rw [hl']; simp
  · rw [hfil]
    have h9 : stL ops st0 res [] = st0 := by simp [stL]
    rw [h9]; exact hr.sub (by subst hs; exact St.pick_sub ks st)

/-! ### Blocks change places -/
mutual
theorem PV.ren_same {f : Nat → Nat} {q : Nat → Bool} (h : ∀ j, q j = true → f j = j) : ∀ (p : PV), p.ids q = true → p.ren f = p
  | .sc _, _ | .ro _ _, _ | .sl _ _, _ | .z, _ => by simp only [PV.ren]
  | .ptr _ _, hp | .own _ _, hp | .ept _ _ _ _, hp | .mp _, hp | .vw _ _ _, hp | .ow _ _ _ _, hp => by simp only [PV.ids] at hp; simp only [PV.ren, h _ hp]
  | .agg cs, hp | .tup cs, hp | .fn _ cs, hp => by simp only [PV.ids] at hp; simp only [PV.ren, PV.rens_same h cs hp]
theorem PV.rens_same {f : Nat → Nat} {q : Nat → Bool} (h : ∀ j, q j = true → f j = j) : ∀ (ps : List PV), PV.idss q ps = true → PV.rens f ps = ps
  | [], _ => by simp only [PV.rens]
  | p :: ps, hp => by
    simp only [PV.idss, Bool.and_eq_true] at hp
    simp only [PV.rens, PV.ren_same h p hp.1, PV.rens_same h ps hp.2]
end
def sw (i j k : Nat) : Nat := if k = i then j else if k = j then i else k
theorem sw_sw {i j : Nat} (k : Nat) : sw i j (sw i j k) = k := by
  unfold sw
  by_cases h1 : k = i <;> by_cases h2 : k = j <;> simp [h1, h2] <;> split <;> simp_all
theorem get_swap {α : Type} {l : List α} {i j : Nat} {x y : α} (hi : l[i]? = some x) (hj : l[j]? = some y) (k : Nat) : ((l.set i y).set j x)[sw i j k]? = l[k]? := by
  have li := (List.getElem?_eq_some_iff.1 hi).1
  have lj := (List.getElem?_eq_some_iff.1 hj).1
  unfold sw
  by_cases h1 : k = i
  · subst h1
    simp only [if_true]
    rw [List.getElem?_set_self (by simpa using lj), hi]
  · by_cases h2 : k = j
    · subst h2
      rw [if_neg h1, if_pos rfl, List.getElem?_set_ne h1, List.getElem?_set_self li, hj]
    · rw [if_neg h1, if_neg h2, List.getElem?_set_ne (Ne.symm h2), List.getElem?_set_ne (Ne.symm h1)]
/-- The blocks of a list, i and j in each other's place. -/
def swapB (i j : Nat) (x y : Blk) (H : List Blk) : List Blk := ((H.map (Blk.ren (sw i j))).set i (y.ren (sw i j))).set j (x.ren (sw i j))
def okIds (H : List Blk) : Bool := (List.range H.length).all fun i => match H[i]? with
  | some (.cells cs) => PV.idss (fun j => decide (j < i)) cs
  | _ => true
theorem Blk.ren_at (f : Nat → Nat) (k : Blk) (e : Bnd) : (k.ren f).at e = k.at e := by cases k <;> rfl
theorem Blk.ren_free (f : Nat → Nat) (k : Blk) (e : Bnd) (b hi : Nat) : (k.ren f).free e b hi ↔ k.free e b hi := by cases k <;> exact Iff.rfl

theorem RelB.swap {c : Ctx} {β : List Bnd} {a : Act} {w : World} (h : RelB G c β st H a w) {i j : Nat} {x y : Blk} (hi : H[i]? = some x) (hj : H[j]? = some y) {n0 : Nat} (hfit : c.fit n0) (h1' : n0 ≤ i) (h2' : n0 ≤ j) (hok : okIds (swapB i j x y H) = true) :
    ∃ β', RelB G c β' (st.map fun z => (z.1, z.2.ren (sw i j))) (swapB i j x y H) a w := by
  have h1 : c.β0.length ≤ i := Nat.le_trans hfit.len h1'
  have h2 : c.β0.length ≤ j := Nat.le_trans hfit.len h2'
  have li := (List.getElem?_eq_some_iff.1 hi).1
  have lj := (List.getElem?_eq_some_iff.1 hj).1
  obtain ⟨ei, hei⟩ : ∃ e, β[i]? = some e := ⟨β[i]'(by rw [h.len]; exact li), by simp [h.len, li]⟩
  obtain ⟨ej, hej⟩ : ∃ e, β[j]? = some e := ⟨β[j]'(by rw [h.len]; exact lj), by simp [h.len, lj]⟩
  have hβ : ∀ k, ((β.set i ej).set j ei)[sw i j k]? = β[k]? := get_swap hei hej
  have hβ' : ∀ k, ((β.set i ej).set j ei)[k]? = β[sw i j k]? := fun k => by rw [← hβ (sw i j k), sw_sw]
  have hH' : ∀ k, (swapB i j x y H)[k]? = (H[sw i j k]?).map (Blk.ren (sw i j)) := fun k => by
    have := get_swap (l := H.map (Blk.ren (sw i j))) (i := i) (j := j) (x := x.ren (sw i j)) (y := y.ren (sw i j)) (by simp [hi]) (by simp [hj]) (sw i j k)
    rw [sw_sw] at this
    unfold swapB
    rw [this, List.getElem?_map]
  have hlow : ∀ k, k < c.β0.length → sw i j k = k := fun k hk => by unfold sw; rw [if_neg (by omega), if_neg (by omega)]
  have hup : ∀ k, c.β0.length ≤ k → c.β0.length ≤ sw i j k := fun k hk => by unfold sw; split; exact h2; split; exact h1; exact hk
  have hst : ∀ b hi', stab c β H w b hi' → stab c ((β.set i ej).set j ei) (swapB i j x y H) w b hi' := fun b hi' hs => by
    rcases hs with hs | ⟨g1, g2, g3⟩
    · exact .inl hs
    · refine .inr ⟨g1, g2, fun k e kb he hk => ?_⟩
      rw [hβ'] at he
      rw [hH'] at hk
      cases hk0 : H[sw i j k]? with
      | none => rw [hk0] at hk; cases hk
      | some k0 =>
        rw [hk0] at hk; simp only [Option.map_some, Option.some.injEq] at hk; subst hk
        exact (Blk.ren_free _ _ _ _ _).2 (g3 _ e k0 he hk0)
  have hx : Ext (stab c β H w) w (stab c ((β.set i ej).set j ei) (swapB i j x y H) w) w := ⟨hst, fun _ _ _ _ _ _ h => h⟩
  have get : ∀ k e kb, ((β.set i ej).set j ei)[k]? = some e → (swapB i j x y H)[k]? = some kb → ∃ k0, β[sw i j k]? = some e ∧ H[sw i j k]? = some k0 ∧ kb = k0.ren (sw i j) := fun k e kb he hk => by
    rw [hβ'] at he
    rw [hH'] at hk
    cases hk0 : H[sw i j k]? with
    | none => rw [hk0] at hk; cases hk
    | some k0 => rw [hk0] at hk; simp only [Option.map_some, Option.some.injEq] at hk; exact ⟨k0, he, rfl, hk.symm⟩
  have vr : ∀ p u, VR (stab c β H w) β w p u → VR (stab c ((β.set i ej).set j ei) (swapB i j x y H) w) ((β.set i ej).set j ei) w (p.ren (sw i j)) u := fun p u hv => by
    exact (VR.ren_iff hβ p u).2 (VR.ext_all hx (BExt.refl _ _) hv)
  refine ⟨(β.set i ej).set j ei, h.ok, by simp [swapB, h.len], ?_, fun k e kb he hk => ?_, fun k l e f kb lb b hkl he hk hf hl g1 g2 => ?_, fun k e kb b hk0 he hk hb => ?_, fun k hk => ?_, fun z hz => ?_, h.nt, h.dfr, h.frm, fun x hx => by
    have := vr _ _ (h.gh x hx)
    rwa [PV.ren_same (q := fun k => decide (k < n0)) (fun k hk => by have hk : k < n0 := by simpa using hk
                                                                     unfold sw; rw [if_neg (by omega), if_neg (by omega)]) _ (hfit.gh x hx)] at this⟩
  · obtain ⟨γ, hγ⟩ := h.pre
    refine ⟨((β.set i ej).set j ei).drop c.β0.length, ?_⟩
    conv => lhs; rw [← List.take_append_drop c.β0.length ((β.set i ej).set j ei)]
    congr 1
    refine List.ext_getElem? fun k => ?_
    rw [List.getElem?_take]
    split
    · rename_i hk
      rw [hβ', hlow k hk, hγ, List.getElem?_append_left hk]
    · rename_i hk
      exact (List.getElem?_eq_none (by omega)).symm
  · obtain ⟨k0, g1, g2, rfl⟩ := get k e kb he hk
    have h3 := h.blk _ e k0 g1 g2
    cases k0 with
    | cells cs =>
      obtain ⟨_, vs, t, h5, h6⟩ := h3
      have hkl : k < (swapB i j x y H).length := (List.getElem?_eq_some_iff.1 hk).1
      have hid := List.all_eq_true.1 hok k (by simpa using hkl)
      rw [hk] at hid
      exact ⟨hid, vs, t, h5, (VRs.ren_iff hβ cs _).2 (VRs.ext_all hx (BExt.refl _ _) h6)⟩
    | buf s t xs sh =>
      exact BlkR.keep (k := .buf s t xs sh) hx (BExt.refl _ _) (fun _ _ => rfl) h3
  · obtain ⟨k0, e1, e2, rfl⟩ := get k e kb he hk
    obtain ⟨l0, f1, f2, rfl⟩ := get l f lb hf hl
    rw [Blk.ren_at] at g1 g2
    exact h.inj _ _ e f k0 l0 b (fun hs => hkl (by rw [← sw_sw (i := i) (j := j) k, hs, sw_sw])) e1 e2 f1 f2 g1 g2
  · obtain ⟨k0, e1, e2, rfl⟩ := get k e kb he hk
    rw [Blk.ren_at] at hb
    exact h.loc _ e k0 b (hup k hk0) e1 e2 hb
  · obtain ⟨cs, hc⟩ := h.cel k hk
    exact ⟨PV.rens (sw i j) cs, by rw [hH', hlow k hk, hc]; rfl⟩
  · obtain ⟨z0, hz0, rfl⟩ := List.mem_map.1 hz
    obtain ⟨g1, g2⟩ := h.slots z0 hz0
    exact ⟨g1, vr _ _ g2⟩
theorem AOps.swap {l : List Nat} {st' : St} {H' : List Blk} (i j : Nat) {x y : Blk} (hi : H[i]? = some x) (hj : H[j]? = some y) (h1 : Nat.ble n0 i = true) (h2 : Nat.ble n0 j = true) (hok : okIds H' = true) (hs : (st.map fun z => (z.1, z.2.ren (sw i j))) = st') (hH : swapB i j x y H = H')
    (h : AOps P G n0 nt ops l Q st' H') : AOps P G n0 nt ops l Q st H := by
  subst hs hH
  refine AOps.le (fun c a w β g0 g1 hr => ?_) h
  exact hr.swap hi hj g0 (Nat.le_of_ble_eq_true h1) (Nat.le_of_ble_eq_true h2) hok
end
end Go.AM

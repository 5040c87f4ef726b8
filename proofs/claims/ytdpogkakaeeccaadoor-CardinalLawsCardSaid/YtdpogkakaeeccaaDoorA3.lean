/- How an abstract state is carried over a store, a new block, a load; operations that leave the world alone. No condition. -/
import Derived.Test.YtdpogkakaeeccaaDoorA2
namespace Go.AM
section
variable {P : Program} {G : Glob} {c : Ctx} {β : List Bnd} {st : St} {H : List Blk} {a : Act} {w : World}

theorem RelB.move (h : RelB G c β st H a w) {β' : List Bnd} {H' : List Blk} {w' : World} (hx : Ext (stab c β H w) w (stab c β' H' w') w') (hb : BExt (fun _ => true) β β')
    (len : β'.length = H'.length) (pre : ∃ γ, β' = c.β0 ++ γ) (blk : ∀ (i : Nat) e k, β'[i]? = some e → H'[i]? = some k → BlkR (stab c β' H' w') β' w' c.w0.heap.size i e k)
    (inj : ∀ (i j : Nat) e f k l b, i ≠ j → β'[i]? = some e → H'[i]? = some k → β'[j]? = some f → H'[j]? = some l → k.at e = some b → l.at f = some b → False)
    (loc : ∀ (i : Nat) e k b, c.β0.length ≤ i → β'[i]? = some e → H'[i]? = some k → k.at e = some b → c.w0.heap.size ≤ b ∧ b < w'.heap.size)
    (cel : ∀ (i : Nat), i < c.β0.length → ∃ cs, H'[i]? = some (.cells cs)) (frm : Frm c w') : RelB G c β' st H' a w' :=
  ⟨h.ok, len, pre, blk, inj, loc, cel, fun x hx' => ⟨(h.slots x hx').1, VR.ext_all hx hb (h.slots x hx').2⟩, h.nt, h.dfr, frm, fun x hx' => VR.ext_all hx hb (h.gh x hx')⟩

theorem BlkR.keep {S S' : Nat → Nat → Prop} {β β' : List Bnd} {w w' : World} {base i : Nat} {e : Bnd} {k : Blk} (hx : Ext S w S' w') (hb : BExt (fun _ => true) β β')
    (hs : ∀ b, k.at e = some b → w'.heap[b]? = w.heap[b]?) (h : BlkR S β w base i e k) : BlkR S' β' w' base i e k := by
  cases k with
  | cells cs =>
    obtain ⟨h1, vs, t, h2, h3⟩ := h
    exact ⟨h1, vs, t, by rw [hs e.b rfl]; exact h2, VRs.ext_all hx hb h3⟩
  | buf s t xs sh =>
    obtain ⟨h1, h2, h3, vals, h4, h5⟩ := h
    refine ⟨h1, h2, h3, vals, ?_, VRs.ext_all hx (BExt.refl _ _) h5⟩
    obtain ⟨h6, h7⟩ := h4
    refine ⟨h6, ?_⟩
    rcases h7 with h7 | ⟨g, cap, cur, e1, e2, e3, e4⟩
    · exact .inl h7
    · exact .inr ⟨g, cap, cur, e1, e2, by rw [hs g (by simp [Blk.at, e1, Value.ownBlock])]; exact e3, e4⟩

theorem Frm.alloc (h : Frm c w) (o : Obj) : Frm c (w.alloc o) :=
  ⟨h.os, h.tape, h.output, by have := h.size; simp; omega, fun b hb he => by
    have := h.size
    rw [heap_alloc_old w o b (by omega)]; exact h.block b hb he, fun b vs t hb => by
    obtain ⟨vs', h1⟩ := h.typ b vs t hb
    exact ⟨vs', by rw [heap_alloc_old w o b (Array.getElem?_eq_some_iff.1 h1).1]; exact h1⟩⟩
theorem Frm.drew (h : Frm c w) : Frm c w.drew := ⟨h.os, h.tape, h.output, h.size, h.block, h.typ⟩

theorem at_lt {S : Nat → Nat → Prop} {base i : Nat} {e : Bnd} {k : Blk} {b : Nat} (h : BlkR S β w base i e k) (hb : k.at e = some b) : b < w.heap.size := by
  cases k with
  | cells cs =>
    obtain ⟨_, vs, t, h2, _⟩ := h
    simp only [Blk.at, Option.some.injEq] at hb
    subst hb
    exact (Array.getElem?_eq_some_iff.1 h2).1
  | buf s t xs sh =>
    obtain ⟨_, _, _, vals, h4, _⟩ := h
    exact (h4.lt b hb).2

/-- A new block that no abstract block names: nobody writes it. -/
theorem RelB.anon (h : RelB G c β st H a w) (o : Obj) : RelB G c β st H a (w.alloc o) ∧ Ext (stab c β H w) w (stab c β H (w.alloc o)) (w.alloc o) ∧ stab c β H (w.alloc o) w.heap.size = fun _ => True := by
  have hx : Ext (stab c β H w) w (stab c β H (w.alloc o)) (w.alloc o) := by
    refine ⟨fun b hi hs => ?_, fun b hi o' v hs _ hv => ?_⟩
    · rcases hs with hs | ⟨h1, h2, h3⟩
      · exact .inl hs
      · exact .inr ⟨h1, by simp; omega, h3⟩
    · rw [World.cell?_alloc_lt]; exact hv
      exact World.block_lt_of_cell? w _ hv
  refine ⟨h.move hx (BExt.refl _ _) h.len h.pre (fun i e k h1 h2 => ?_) h.inj (fun i e k b h0 h1 h2 h3 => ?_) h.cel (h.frm.alloc o), hx, ?_⟩
  · exact BlkR.keep hx (BExt.refl _ _) (fun b hb => heap_alloc_old w o b (at_lt (h.blk i e k h1 h2) hb)) (h.blk i e k h1 h2)
  · have := h.loc i e k b h0 h1 h2 h3
    simp; omega
  · funext hi
    simp only [eq_iff_iff, iff_true]
    refine .inr ⟨h.frm.size, by simp, fun i e k h1 h2 => ?_⟩
    have h3 := h.blk i e k h1 h2
    cases k with
    | cells cs => exact fun hb => by have := at_lt h3 (b := w.heap.size) (by simp [Blk.at, hb]); omega
    | buf s t xs sh => exact fun hb => by have := at_lt h3 (b := w.heap.size) (by simp [Blk.at, hb]); omega

theorem Ext.drew {S : Nat → Nat → Prop} (w : World) : Ext S w S w.drew := ⟨fun _ _ h => h, fun _ _ _ _ _ _ h => h⟩
theorem stab_drew : stab c β H w.drew = stab c β H w := rfl
theorem RelB.drew (h : RelB G c β st H a w) : RelB G c β st H a w.drew := by
  have hx : Ext (stab c β H w) w (stab c β H w.drew) w.drew := Ext.drew w
  exact h.move hx (BExt.refl _ _) h.len h.pre (fun i e k h1 h2 => BlkR.keep hx (BExt.refl _ _) (fun _ _ => rfl) (h.blk i e k h1 h2)) h.inj h.loc h.cel h.frm.drew

theorem BExt.app (β γ : List Bnd) : BExt (fun _ => true) β (β ++ γ) := fun i e _ h =>
  ⟨e, by rw [List.getElem?_append_left (List.getElem?_eq_some_iff.1 h).1]; exact h, rfl, rfl, Nat.le_refl _, fun _ => rfl⟩

theorem get_snoc {α : Type} {l : List α} {x y : α} {i : Nat} (h : (l ++ [x])[i]? = some y) : (l[i]? = some y ∧ i < l.length) ∨ (i = l.length ∧ y = x) := by
  rcases Nat.lt_trichotomy i l.length with hi | hi | hi
  · rw [List.getElem?_append_left hi] at h; exact .inl ⟨h, hi⟩
  · subst hi; simp at h; exact .inr ⟨rfl, h.symm⟩
  · rw [List.getElem?_eq_none (by simp; omega)] at h; cases h

/-- A new block of cells, under a new name. -/
theorem RelB.alloc (h : RelB G c β st H a w) {cs : List PV} {us : List Value} (hv : VRs (stab c β H w) β w cs us) (hi : PV.idss (fun j => decide (j < H.length)) cs = true) (t : TypeId) :
    RelB G c (β ++ [⟨w.heap.size, undef, 0, 0⟩]) st (H ++ [.cells cs]) a (w.alloc (.cells us.toArray t)) ∧
    Ext (stab c β H w) w (stab c (β ++ [⟨w.heap.size, undef, 0, 0⟩]) (H ++ [.cells cs]) (w.alloc (.cells us.toArray t))) (w.alloc (.cells us.toArray t)) := by
  have hx : Ext (stab c β H w) w (stab c (β ++ [⟨w.heap.size, undef, 0, 0⟩]) (H ++ [.cells cs]) (w.alloc (.cells us.toArray t))) (w.alloc (.cells us.toArray t)) := by
    refine ⟨fun b hi hs => ?_, fun b hi o' v hs _ hv => ?_⟩
    · rcases hs with hs | ⟨h1, h2, h3⟩
      · exact .inl hs
      · refine .inr ⟨h1, by simp; omega, fun i e k g1 g2 => ?_⟩
        rcases get_snoc g1 with ⟨g1, _⟩ | ⟨g1, rfl⟩
        · rcases get_snoc g2 with ⟨g2, _⟩ | ⟨g2, rfl⟩
          · exact h3 i e k g1 g2
          · have := (List.getElem?_eq_some_iff.1 g1).1
            have := h.len
            omega
        · rcases get_snoc g2 with ⟨g2, _⟩ | ⟨g2, rfl⟩
          · have := (List.getElem?_eq_some_iff.1 g2).1
            have := h.len
            omega
          · simp only [Blk.free]; omega
    · rw [World.cell?_alloc_lt]; exact hv
      exact World.block_lt_of_cell? w _ hv
  have hb := BExt.app β [⟨w.heap.size, undef, 0, 0⟩]
  have both : ∀ {i : Nat} {e : Bnd} {k : Blk}, (β ++ [(⟨w.heap.size, undef, 0, 0⟩ : Bnd)])[i]? = some e → (H ++ [Blk.cells cs])[i]? = some k →
      (β[i]? = some e ∧ H[i]? = some k) ∨ (i = H.length ∧ e = ⟨w.heap.size, undef, 0, 0⟩ ∧ k = .cells cs) := by
    intro i e k g1 g2
    rcases get_snoc g1 with ⟨g1, l1⟩ | ⟨l1, rfl⟩
    · rcases get_snoc g2 with ⟨g2, _⟩ | ⟨g2, _⟩
      · exact .inl ⟨g1, g2⟩
      · have := h.len; omega
    · rcases get_snoc g2 with ⟨_, g3⟩ | ⟨g3, g4⟩
      · have := h.len; omega
      · exact .inr ⟨g3, rfl, g4⟩
  refine ⟨h.move hx hb (by simp [h.len]) ?_ (fun i e k h1 h2 => ?_) (fun i j e f k l b hij h1 h2 h3 h4 h5 h6 => ?_) (fun i e k b h0 h1 h2 h3 => ?_) (fun i hi => ?_) (h.frm.alloc _), hx⟩
  · obtain ⟨γ, hγ⟩ := h.pre
    exact ⟨γ ++ [⟨w.heap.size, undef, 0, 0⟩], by rw [hγ, List.append_assoc]⟩
  · rcases both h1 h2 with ⟨g1, g2⟩ | ⟨rfl, rfl, rfl⟩
    · exact BlkR.keep hx hb (fun b hb => heap_alloc_old w _ b (at_lt (h.blk i e k g1 g2) hb)) (h.blk i e k g1 g2)
    · exact ⟨hi, us.toArray, t, heap_alloc_new w _, VRs.ext_all hx hb (by simpa using hv)⟩
  · rcases both h1 h2 with ⟨g1, g2⟩ | ⟨rfl, rfl, rfl⟩ <;> rcases both h3 h4 with ⟨g3, g4⟩ | ⟨rfl, rfl, rfl⟩
    · exact h.inj i j e f k l b hij g1 g2 g3 g4 h5 h6
    · have := at_lt (h.blk i e k g1 g2) h5
      simp only [Blk.at, Option.some.injEq] at h6; omega
    · have := at_lt (h.blk j f l g3 g4) h6
      simp only [Blk.at, Option.some.injEq] at h5; omega
    · exact hij rfl
  · rcases both h1 h2 with ⟨g1, g2⟩ | ⟨rfl, rfl, rfl⟩
    · have := h.loc i e k b h0 g1 g2 h3
      simp; omega
    · simp only [Blk.at, Option.some.injEq] at h3
      have := h.frm.size
      simp; omega
  · obtain ⟨cs', hc⟩ := h.cel i hi
    exact ⟨cs', by rw [List.getElem?_append_left (List.getElem?_eq_some_iff.1 hc).1]; exact hc⟩

/-- The cells of one abstract block are written anew. -/
theorem RelB.write (h : RelB G c β st H a w) {i : Nat} {e : Bnd} {cs cs' : List PV} (he : β[i]? = some e) (hk : H[i]? = some (.cells cs)) {us : Array Value}
    (hv : VRs (stab c β H w) β w cs' us.toList) (hi : PV.idss (fun j => decide (j < i)) cs' = true) :
    RelB G c β st (H.set i (.cells cs')) a (w.setRow e.b us) ∧ Ext (stab c β H w) w (stab c β (H.set i (.cells cs')) (w.setRow e.b us)) (w.setRow e.b us) := by
  obtain ⟨_, vs, t, hw, _⟩ := h.blk i e _ he hk
  have hil : i < H.length := (List.getElem?_eq_some_iff.1 hk).1
  have hsz : (w.setRow e.b us).heap.size = w.heap.size := size_setRow w e.b us
  have hother : ∀ b, b ≠ e.b → (w.setRow e.b us).heap[b]? = w.heap[b]? := fun b hb => by
    simp only [World.setRow, Array.getElem?_modify]; rw [if_neg (Ne.symm hb)]
  have hget : ∀ (j : Nat) k, (H.set i (.cells cs'))[j]? = some k → (j ≠ i ∧ H[j]? = some k) ∨ (j = i ∧ k = .cells cs') := fun j k hj => by
    by_cases hji : j = i
    · subst hji; rw [List.getElem?_set_self hil] at hj; exact .inr ⟨rfl, by simpa using hj.symm⟩
    · rw [List.getElem?_set_ne (Ne.symm hji)] at hj; exact .inl ⟨hji, hj⟩
  have hfree : ∀ b hi', stab c β H w b hi' → b ≠ e.b := fun b hi' hs => by
    rcases hs with hs | ⟨h1, _, h3⟩
    · obtain ⟨h4, h5⟩ := h.ok.old b hi' hs
      by_cases hl : i < c.β0.length
      · obtain ⟨γ, hγ⟩ := h.pre
        have : e ∈ c.β0 := by
          rw [hγ, List.getElem?_append_left hl] at he
          exact List.mem_of_getElem? he
        exact fun hb => h5 e this hb.symm
      · have := h.loc i e _ e.b (by omega) he hk rfl
        omega
    · exact fun hb => h3 i e _ he hk hb.symm
  have hx : Ext (stab c β H w) w (stab c β (H.set i (.cells cs')) (w.setRow e.b us)) (w.setRow e.b us) := by
    refine ⟨fun b hi' hs => ?_, fun b hi' o v hs _ hv => ?_⟩
    · have hne := hfree b hi' hs
      rcases hs with hs | ⟨h1, h2, h3⟩
      · exact .inl hs
      · refine .inr ⟨h1, by omega, fun j f k g1 g2 => ?_⟩
        rcases hget j k g2 with ⟨_, g2⟩ | ⟨rfl, rfl⟩
        · exact h3 j f k g1 g2
        · rw [he] at g1; cases g1; exact Ne.symm hne
    · rw [cell_of_heap (hother b (hfree b hi' hs))]; exact hv
  refine ⟨h.move hx (BExt.refl _ _) (by simp [h.len]) h.pre (fun j f k h1 h2 => ?_) (fun j j' f f' k l b hij h1 h2 h3 h4 h5 h6 => ?_) (fun j f k b h0 h1 h2 h3 => ?_) (fun j hj => ?_) ?_, hx⟩
  · rcases hget j k h2 with ⟨hne, g2⟩ | ⟨rfl, rfl⟩
    · refine BlkR.keep hx (BExt.refl _ _) (fun b hb => hother b fun hbe => ?_) (h.blk j f k h1 g2)
      subst hbe
      exact h.inj j i f e k _ _ hne h1 g2 he hk hb rfl
    · rw [he] at h1; cases h1
      exact ⟨hi, us, t, setRow_heap w e.b vs us t _ hw, VRs.ext_all hx (BExt.refl _ _) hv⟩
  · have key : ∀ (j : Nat) f k, β[j]? = some f → (H.set i (.cells cs'))[j]? = some k → ∀ b, k.at f = some b → ∃ k', H[j]? = some k' ∧ k'.at f = some b := fun j f k g1 g2 b g3 => by
      rcases hget j k g2 with ⟨_, g2⟩ | ⟨rfl, rfl⟩
      · exact ⟨k, g2, g3⟩
      · exact ⟨_, hk, g3⟩
    obtain ⟨k', g1, g2⟩ := key j f k h1 h2 b h5
    obtain ⟨l', g3, g4⟩ := key j' f' l h3 h4 b h6
    exact h.inj j j' f f' k' l' b hij h1 g1 h3 g3 g2 g4
  · rw [hsz]
    rcases hget j k h2 with ⟨_, g2⟩ | ⟨rfl, rfl⟩
    · exact h.loc j f k b h0 h1 g2 h3
    · exact h.loc j f _ b h0 h1 hk h3
  · by_cases hji : j = i
    · subst hji; exact ⟨cs', List.getElem?_set_self hil⟩
    · obtain ⟨cs0, hc⟩ := h.cel j hj
      exact ⟨cs0, by rw [List.getElem?_set_ne (Ne.symm hji)]; exact hc⟩
  · refine ⟨h.frm.os, h.frm.tape, h.frm.output, by have := h.frm.size; omega, fun b hb hne => ?_, fun b vs' t' hb => ?_⟩
    · have : b ≠ e.b := by
        by_cases hl : i < c.β0.length
        · obtain ⟨γ, hγ⟩ := h.pre
          have hm : e ∈ c.β0 := by
            rw [hγ, List.getElem?_append_left hl] at he
            exact List.mem_of_getElem? he
          exact Ne.symm (hne e hm)
        · have := h.loc i e _ e.b (by omega) he hk rfl
          omega
      rw [hother b this]; exact h.frm.block b hb hne
    · obtain ⟨vs1, h1⟩ := h.frm.typ b vs' t' hb
      by_cases hbe : b = e.b
      · subst hbe
        rw [hw] at h1
        cases h1
        exact ⟨us, setRow_heap w e.b _ us _ _ hw⟩
      · exact ⟨vs1, by rw [hother b hbe]; exact h1⟩

/-! ### Loads -/
def isAggT (P : Program) (t : TypeId) : Option Bool := match P.underlying t with | some (.struct _) | some (.array _ _) => some true | some _ => some false | none => none
def ldPV (P : Program) (t : TypeId) (cs : List PV) : Option PV :=
  match isAggT P t with
  | some true => if P.cellsOf t ≤ cs.length then some (mkAgg (cs.take (P.cellsOf t))) else none
  | some false => cs.head?
  | none => none

theorem info_of_agg {t : TypeId} {b : Bool} (h : isAggT P t = some b) : ∃ i, P.info? t = some i := by
  unfold isAggT Program.underlying at h
  cases hi : P.info? t with
  | none => simp [hi] at h
  | some i => exact ⟨i, rfl⟩

theorem run_isAgg {t : TypeId} {b : Bool} (h : isAggT P t = some b) (w : World) : (isAgg t).run P w = .ok b w := by
  unfold isAggT at h
  cases hu : P.underlying t with
  | none => simp [hu] at h
  | some d => cases d <;> simp [hu] at h <;> subst h <;> simp [isAgg, run_underlying hu]

theorem run_ld {S : Nat → Nat → Prop} {t : TypeId} {b o : Nat} {cs : List PV} {p : PV} (hr : VRow S β w b o cs) (hl : ldPV P t cs = some p) :
    ∃ v, (loadVar t ⟨b, o, none⟩).run P w = .ok v w ∧ VR S β w p v := by
  obtain ⟨us, h1, h2⟩ := VRow.cells cs o hr
  have hlen := VRs.length cs us h1
  unfold ldPV at hl
  cases ht : isAggT P t with
  | none => simp [ht] at hl
  | some g =>
    obtain ⟨i, hi⟩ := info_of_agg ht
    have hadd : ∀ j, (⟨b, o, none⟩ : Addr).add j = ⟨b, o + j, none⟩ := fun j => by unfold Addr.add; split <;> simp_all
    cases g with
    | true =>
      simp only [ht] at hl
      split at hl
      · rename_i hle
        simp only [Option.some.injEq] at hl
        subst hl
        have h3 := run_loadCells_list (P := P) w ⟨b, o, none⟩ (us.take (P.cellsOf t)) (fun j v hj => by
          rw [hadd]
          apply h2
          rw [List.getElem?_take] at hj
          split at hj
          · exact hj
          · cases hj)
        have h4 : (us.take (P.cellsOf t)).length = P.cellsOf t := by rw [List.length_take]; omega
        rw [h4] at h3
        refine ⟨.agg (us.take (P.cellsOf t)).toArray, ?_, VR.mkAgg (VRs.take _ _ _ h1)⟩
        simp [loadVar, run_isAgg ht, run_sizeOf w hi, h3]
      · cases hl
    | false =>
      simp only [ht] at hl
      cases cs with
      | nil => simp at hl
      | cons q cs =>
        simp only [List.head?_cons, Option.some.injEq] at hl
        subst hl
        cases us with
        | nil => simp only [VRs] at h1
        | cons u us =>
          simp only [VRs] at h1
          refine ⟨u, ?_, h1.1⟩
          have := h2 0 u rfl
          simp only [Nat.add_zero] at this
          simp [loadVar, run_isAgg ht, run_load, this]

theorem drop_row {S : Nat → Nat → Prop} {b off : Nat} {cs : List PV} {vs : Array Value} {t : TypeId} {fr : Nat × Nat} (hw : w.heap[b]? = some (.cells vs t fr)) (h : VRs S β w cs vs.toList) :
    VRow S β w b off (cs.drop off) := by
  refine VRow.mk _ (vs.toList.drop off) _ (VRs.drop off _ _ h) fun j u hj => ?_
  rw [cell_of_row w b (off + j) vs t fr hw]
  rw [List.getElem?_drop] at hj
  simpa using hj
end
end Go.AM

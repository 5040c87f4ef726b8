/- A call by its promise, and a promise out of the walk of a body. No condition. -/
import Derived.Test.YtdpogkakaeeccaaDoorA6
namespace Go.AM

def Blk.isCells : Blk → Bool | .cells _ => true | .buf .. => false
section
variable {P : Program} {G : Glob} {c : Ctx} {β : List Bnd} {st : St} {H : List Blk} {a : Act} {w : World} {n0 nt : Nat} {o : Oper}

theorem VRs.of_opds (h : RelB G c β st H a w) : ∀ (xs : List Operand) (ps : List PV), xs.map (opd G st) = ps.map some → VRs (stab c β H w) β w ps (xs.map a.eval)
  | [], [], _ => by simp only [List.map_nil, VRs]
  | [], _ :: _, h => by simp at h
  | _ :: _, [], h => by simp at h
  | x :: xs, p :: ps, hx => by
    simp only [List.map_cons, List.cons.injEq] at hx
    simp only [List.map_cons, VRs]
    exact ⟨h.opd hx.1, VRs.of_opds h xs ps hx.2⟩

theorem sorted_get {σ : List Nat} (h : σ.Pairwise (· < ·)) {j k x y : Nat} (hj : σ[j]? = some x) (hk : σ[k]? = some y) (hlt : j < k) : x < y := by
  obtain ⟨h1, rfl⟩ := List.getElem?_eq_some_iff.1 hj
  obtain ⟨h2, rfl⟩ := List.getElem?_eq_some_iff.1 hk
  exact List.pairwise_iff_getElem.1 h j k h1 h2 hlt

/-- From the caller's state to the callee's premise, and back. -/
theorem RelB.call (h : RelB G c β st H a w) {σ : List Nat} (hs : σ.Pairwise (· < ·)) {H0 : List Blk} (hcl : H0.all Blk.isCells = true)
    (hH0 : H0.map (fun k => some (k.ren (renId σ H.length))) = σ.map (H[·]?)) :
    ∃ β0, (∀ j, β[renId σ H.length j]? = β0[j]?) ∧ InOk G (stab c β H w) β0 H0 w ∧
      ∀ γ H1 w', OutOk (stab c β H w) β0 γ H1 w w' →
        RelB G c (β ++ γ) st (setAll σ (H1.map (Blk.ren (renId σ H.length))) H) a w' ∧
        (∀ j, (β ++ γ)[renId σ H.length j]? = (β0 ++ γ)[j]?) ∧
        Ext (stab c β H w) w (stab c (β ++ γ) (setAll σ (H1.map (Blk.ren (renId σ H.length))) H) w') w' ∧
        Ext (stab1 (stab c β H w) γ w w') w' (stab c (β ++ γ) (setAll σ (H1.map (Blk.ren (renId σ H.length))) H) w') w' := by
  have hlen0 : H0.length = σ.length := by simpa using congrArg List.length hH0
  have hget : ∀ (j i : Nat), σ[j]? = some i → ∃ cs, H0[j]? = some (Blk.cells cs) ∧ H[i]? = some (Blk.cells (PV.rens (renId σ H.length) cs)) := fun j i hj => by
    have h1 := congrArg (fun l : List (Option Blk) => l[j]?) hH0
    simp only [List.getElem?_map, hj, Option.map_some] at h1
    cases h2 : H0[j]? with
    | none => simp [h2] at h1
    | some k =>
      simp only [h2, Option.map_some, Option.some.injEq] at h1
      have h3 := List.all_eq_true.1 hcl k (List.mem_of_getElem? h2)
      cases k with
      | cells cs => exact ⟨cs, rfl, h1.symm⟩
      | buf s t xs sh => simp [Blk.isCells] at h3
  have hσlt : ∀ i ∈ σ, i < H.length := fun i hi => by
    obtain ⟨j, hj⟩ := List.mem_iff_getElem?.1 hi
    obtain ⟨cs, _, h2⟩ := hget j i hj
    exact (List.getElem?_eq_some_iff.1 h2).1
  have hnd : σ.Nodup := hs.imp fun hlt => by omega
  have hβex : ∀ i ∈ σ, ∃ e, β[i]? = some e := fun i hi => by
    have : i < β.length := by rw [h.len]; exact hσlt i hi
    exact ⟨β[i], by simp [this]⟩
  let β0 : List Bnd := σ.filterMap (β[·]?)
  have hβ0 : ∀ (j : Nat), β0[j]? = (σ[j]?).bind (β[·]?) := by
    have key : ∀ (τ : List Nat), (∀ i ∈ τ, ∃ e, β[i]? = some e) → ∀ (j : Nat), (τ.filterMap (β[·]?))[j]? = (τ[j]?).bind (β[·]?) := by
      intro τ
      induction τ with
      | nil => intro _ j; simp
      | cons t τ ih =>
        intro hm j
        obtain ⟨e, he⟩ := hm t (by simp)
        rw [List.filterMap_cons_some he]
        cases j with
        | zero => simp [he]
        | succ j => simpa using ih (fun i hi => hm i (by simp [hi])) j
    exact key σ hβex
  have hβ0len : β0.length = σ.length := by
    have : ∀ (τ : List Nat), (∀ i ∈ τ, ∃ e, β[i]? = some e) → (τ.filterMap (β[·]?)).length = τ.length := by
      intro τ
      induction τ with
      | nil => intro _; simp
      | cons t τ ih =>
        intro hm
        obtain ⟨e, he⟩ := hm t (by simp)
        rw [List.filterMap_cons_some he]
        simpa using ih (fun i hi => hm i (by simp [hi]))
    exact this σ hβex
  have hren : ∀ j, β[renId σ H.length j]? = β0[j]? := fun j => by
    rw [hβ0]
    unfold renId
    cases hj : σ[j]? with
    | some i => simp
    | none => simp only [Option.bind_none]; exact List.getElem?_eq_none (by rw [h.len]; omega)
  have hmem0 : ∀ e ∈ β0, ∃ (i : Nat) (cs : List PV), i ∈ σ ∧ β[i]? = some e ∧ H[i]? = some (Blk.cells cs) := fun e he => by
    obtain ⟨j, hj⟩ := List.mem_iff_getElem?.1 he
    rw [hβ0] at hj
    cases hσ : σ[j]? with
    | none => simp [hσ] at hj
    | some i =>
      simp only [hσ, Option.bind_some] at hj
      obtain ⟨cs, _, h2⟩ := hget j i hσ
      exact ⟨i, _, List.mem_of_getElem? hσ, hj, h2⟩
  have hmono : ∀ (j k x : Nat), σ[j]? = some x → renId σ H.length k < x → k < j := fun j k x hj hlt => by
    rcases Nat.lt_or_ge k j with h1 | h1
    · exact h1
    · exfalso
      unfold renId at hlt
      cases hk : σ[k]? with
      | none =>
        simp only [hk] at hlt
        have := hσlt x (List.mem_of_getElem? hj)
        omega
      | some y =>
        simp only [hk] at hlt
        rcases Nat.lt_or_eq_of_le h1 with h2 | h2
        · have := sorted_get hs hj hk h2; omega
        · subst h2; rw [hj] at hk; cases hk; omega
  refine ⟨β0, hren, ⟨⟨?_, ?_, ?_, ?_⟩, by rw [hβ0len, hlen0], ?_, ?_⟩, ?_⟩
  · exact fun b hi hst => ⟨stab_lt h hst, fun e he => by
      obtain ⟨i, cs, _, h1, h2⟩ := hmem0 e he
      exact stab_cells h hst h1 h2⟩
  · intro g cs hg
    obtain ⟨h1, h2⟩ := h.ok.glob g cs hg
    exact ⟨h.ext0.stab _ _ h1, VRow.ext h.ext0 (BExt.refl _ _) g cs.length h1 cs 0 (by omega) (PV.idss_true cs) h2⟩
  · intro e he
    obtain ⟨i, cs, _, h1, h2⟩ := hmem0 e he
    exact at_lt (h.blk i e _ h1 h2) rfl
  · exact fun b hi hi' h1 h2 => h.ok.stab h1 h2
  · intro j e k he hk
    rw [hβ0] at he
    cases hσ : σ[j]? with
    | none => simp [hσ] at he
    | some i =>
      simp only [hσ, Option.bind_some] at he
      obtain ⟨cs, h1, h2⟩ := hget j i hσ
      rw [h1] at hk; cases hk
      refine ⟨cs, rfl, ?_⟩
      obtain ⟨h3, vs, t, h4, h5⟩ := h.blk i e _ he h2
      refine ⟨PV.idss_ren_inv _ (q' := fun j => decide (j < i)) (fun k hk => ?_) cs h3, vs, t, h4, (VRs.ren_iff hren cs _).1 h5⟩
      have hk' : renId σ H.length k < i := by simpa using hk
      simpa using hmono _ _ _ hσ hk'
  · intro i j e f hij he hf hb
    rw [hβ0] at he hf
    cases hσi : σ[i]? with
    | none => simp [hσi] at he
    | some x =>
      cases hσj : σ[j]? with
      | none => simp [hσj] at hf
      | some y =>
        simp only [hσi, hσj, Option.bind_some] at he hf
        obtain ⟨cs, _, h2⟩ := hget i x hσi
        obtain ⟨ds, _, h3⟩ := hget j y hσj
        have hxy : x ≠ y := fun e => hij (by
          subst e
          exact (List.getElem?_inj (List.getElem?_eq_some_iff.1 hσi).1 hnd).1 (hσi.trans hσj.symm))
        exact h.inj x y e f _ _ e.b hxy he h2 hf h3 rfl (by simp [Blk.at, hb])
  · intro γ H1 w' ho
    have hlH1 : H1.length = σ.length + γ.length := by
      have := ho.len
      rw [List.length_append, hβ0len] at this
      exact this.symm
    let ks := H1.map (Blk.ren (renId σ H.length))
    have hks : ks.length = H1.length := by simp [ks]
    have hset := fun i => setAll_get σ ks H (by omega) hnd hσlt i
    have hfrm := ho.frm
    have hwsz : w.heap.size ≤ w'.heap.size := hfrm.size
    -- what stands at each place behind the call
    have hplace : ∀ (i : Nat) e k, (β ++ γ)[i]? = some e → (setAll σ ks H)[i]? = some k →
        (i ∉ σ ∧ β[i]? = some e ∧ H[i]? = some k) ∨
        (∃ j k0, (renId σ H.length j = i ∧ (i < H.length → σ[j]? = some i) ∧ (H.length ≤ i → σ.length ≤ j)) ∧ (β0 ++ γ)[j]? = some e ∧ H1[j]? = some k0 ∧ k = k0.ren (renId σ H.length)) := by
      intro i e k he hk
      by_cases hi : i < H.length
      · have hiβ : i < β.length := by rw [h.len]; exact hi
        rw [List.getElem?_append_left hiβ] at he
        by_cases hm : i ∈ σ
        · obtain ⟨j, hj⟩ := List.mem_iff_getElem?.1 hm
          rw [(hset i).1 j hj] at hk
          simp only [ks, List.getElem?_map, Option.map_eq_some_iff] at hk
          obtain ⟨k0, h1, rfl⟩ := hk
          refine .inr ⟨j, k0, ⟨by simp [renId, hj], fun _ => hj, fun h => by omega⟩, ?_, h1, rfl⟩
          rw [List.getElem?_append_left (by rw [hβ0len]; exact (List.getElem?_eq_some_iff.1 hj).1), hβ0, hj]
          exact he
        · rw [(hset i).2.1 hi hm] at hk
          exact .inl ⟨hm, he, hk⟩
      · obtain ⟨j, rfl⟩ : ∃ j, i = H.length + j := ⟨i - H.length, by omega⟩
        rw [(hset _).2.2 j rfl] at hk
        simp only [ks, List.getElem?_map, Option.map_eq_some_iff] at hk
        obtain ⟨k0, h1, rfl⟩ := hk
        refine .inr ⟨σ.length + j, k0, ⟨?_, fun h => by omega, fun _ => by omega⟩, ?_, h1, rfl⟩
        · unfold renId
          rw [List.getElem?_eq_none (by omega)]
          simp
        · rw [List.getElem?_append_right (by rw [hβ0len]; omega), hβ0len]
          rw [List.getElem?_append_right (by rw [h.len]; omega), h.len] at he
          rw [show σ.length + j - σ.length = j by omega]
          rwa [show H.length + j - H.length = j by omega] at he
    have hnew : ∀ (i : Nat) e, (β ++ γ)[i]? = some e → β[i]? = some e ∧ i < β.length ∨ e ∈ γ ∧ β.length ≤ i := fun i e he => by
      by_cases hi : i < β.length
      · rw [List.getElem?_append_left hi] at he; exact .inl ⟨he, hi⟩
      · rw [List.getElem?_append_right (by omega)] at he; exact .inr ⟨List.mem_of_getElem? he, by omega⟩
    have hcells : ∀ (j : Nat) k0, H1[j]? = some k0 → ∃ cs, k0 = .cells cs := fun j k0 hk => by
      have hjl : j < (β0 ++ γ).length := by rw [ho.len]; exact (List.getElem?_eq_some_iff.1 hk).1
      obtain ⟨cs, h1, _⟩ := ho.blk j (β0 ++ γ)[j] k0 (by simp) hk
      exact ⟨cs, h1⟩
    have hsame : ∀ b, b < w.heap.size → (∀ e ∈ β0, e.b ≠ b) → w'.heap[b]? = w.heap[b]? := hfrm.block
    have hold : ∀ (i : Nat) e k b, i ∉ σ → β[i]? = some e → H[i]? = some k → k.at e = some b → w'.heap[b]? = w.heap[b]? := fun i e k b hi he hk hb => by
      refine hsame b (at_lt (h.blk i e k he hk) hb) fun f hf hfb => ?_
      obtain ⟨x, cs, hx, h1, h2⟩ := hmem0 f hf
      exact h.inj i x e f k _ b (fun e => hi (e ▸ hx)) he hk h1 h2 hb (by simp [Blk.at, hfb])
    have hx : Ext (stab c β H w) w (stab c (β ++ γ) (setAll σ ks H) w') w' := by
      refine ⟨fun b hi hst => ?_, fun b hi o v hst _ hv => ?_⟩
      · have hblt := stab_lt h hst
        rcases hst with hst' | ⟨g1, g2, g3⟩
        · exact .inl hst'
        · refine .inr ⟨g1, by omega, fun i e k he hk => ?_⟩
          rcases hplace i e k he hk with ⟨_, h1, h2⟩ | ⟨j, k0, ⟨h0, h01, h02⟩, h1, h2, rfl⟩
          · exact g3 i e k h1 h2
          · obtain ⟨cs, rfl⟩ := hcells j k0 h2
            simp only [Blk.ren, Blk.free]
            rcases hnew i e he with ⟨h3, h4⟩ | ⟨h3, h4⟩
            · have hσj := h01 (by rw [h.len] at h4; exact h4)
              obtain ⟨ds, _, h6⟩ := hget j i hσj
              exact g3 i e _ h3 h6
            · have := (ho.loc e h3).1; omega
      · rw [cell_of_heap (hsame b (stab_lt h hst) fun e he => ?_)]
        · exact hv
        · obtain ⟨i, cs, _, h1, h2⟩ := hmem0 e he
          exact stab_cells h hst h1 h2
    have hren' : ∀ j, (β ++ γ)[renId σ H.length j]? = (β0 ++ γ)[j]? := fun j => by
      unfold renId
      cases hj : σ[j]? with
      | some i =>
        have hi := hσlt i (List.mem_of_getElem? hj)
        simp only
        rw [List.getElem?_append_left (by rw [h.len]; exact hi), List.getElem?_append_left (by rw [hβ0len]; exact (List.getElem?_eq_some_iff.1 hj).1), hβ0, hj]
        rfl
      | none =>
        have hjl : σ.length ≤ j := List.getElem?_eq_none_iff.1 hj
        simp only
        rw [List.getElem?_append_right (by rw [h.len]; omega), List.getElem?_append_right (by rw [hβ0len]; exact hjl), h.len, hβ0len]
        congr 1; omega
    have hx1 : Ext (stab1 (stab c β H w) γ w w') w' (stab c (β ++ γ) (setAll σ ks H) w') w' := by
      refine ⟨fun b hi hst => ?_, fun b hi o v _ _ hv => hv⟩
      rcases hst with hst | ⟨g1, g2, g3⟩
      · exact hx.stab b hi hst
      · refine .inr ⟨by have := h.frm.size; omega, g2, fun i e k he hk => ?_⟩
        rcases hplace i e k he hk with ⟨_, h1, h2⟩ | ⟨j, k0, ⟨h0, h01, h02⟩, h1, h2, rfl⟩
        · cases k with
          | cells cs => exact fun hb => by have := at_lt (h.blk i e _ h1 h2) (b := b) (by simp [Blk.at, hb]); omega
          | buf s t xs sh => exact fun hb => by have := at_lt (h.blk i e _ h1 h2) (b := b) hb; omega
        · obtain ⟨cs, rfl⟩ := hcells j k0 h2
          simp only [Blk.ren, Blk.free]
          rcases hnew i e he with ⟨h3, h4⟩ | ⟨h3, h4⟩
          · have hσj := h01 (by rw [h.len] at h4; exact h4)
            obtain ⟨ds, _, h6⟩ := hget j i hσj
            have := at_lt (h.blk i e _ h3 h6) (b := e.b) rfl
            omega
          · exact g3 e h3
    refine ⟨h.move hx (BExt.app β γ) ?_ ?_ (fun i e k he hk => ?_) (fun i j e f k l b hij he hk hf hl hb hb' => ?_) (fun i e k b h0 he hk hb => ?_) (fun i hi => ?_) ?_, hren', hx, hx1⟩
    · rw [List.length_append, h.len, setAll_length σ ks H (by omega), hks, hlH1]; omega
    · obtain ⟨δ, hδ⟩ := h.pre
      exact ⟨δ ++ γ, by rw [hδ, List.append_assoc]⟩
    · rcases hplace i e k he hk with ⟨h0, h1, h2⟩ | ⟨j, k0, ⟨h0, h01, h02⟩, h1, h2, rfl⟩
      · exact BlkR.keep hx (BExt.app β γ) (fun b hb => hold i e k b h0 h1 h2 hb) (h.blk i e k h1 h2)
      · obtain ⟨cs, rfl, g1, vs, t, g2, g3⟩ := ho.blk j e k0 h1 h2
        refine ⟨PV.idss_ren _ (q := fun x => decide (x < j)) (fun x hx' => ?_) cs g1, vs, t, g2, VRs.ext_all hx1 (BExt.refl _ _) ((VRs.ren_iff hren' cs _).2 g3)⟩
        have hxj : x < j := by simpa using hx'
        by_cases hil : i < H.length
        · have hσj := h01 hil
          have hjl := (List.getElem?_eq_some_iff.1 hσj).1
          have hxs : σ[x]? = some σ[x] := by simp [show x < σ.length by omega]
          have := sorted_get hs hxs hσj hxj
          simp only [renId, hxs]
          simpa using this
        · have hjl := h02 (by omega)
          have h0' : i = H.length + (j - σ.length) := by rw [← h0]; unfold renId; rw [List.getElem?_eq_none hjl]
          unfold renId
          cases hxs : σ[x]? with
          | some y => have := hσlt y (List.mem_of_getElem? hxs); simp; omega
          | none => have := List.getElem?_eq_none_iff.1 hxs; simp; omega
    · have key : ∀ (i : Nat) e k b, (β ++ γ)[i]? = some e → (setAll σ ks H)[i]? = some k → k.at e = some b →
          (i < β.length ∧ ∃ k', β[i]? = some e ∧ H[i]? = some k' ∧ k'.at e = some b) ∨ (β.length ≤ i ∧ e ∈ γ ∧ e.b = b) := by
        intro i e k b he hk hb
        rcases hplace i e k he hk with ⟨_, h1, h2⟩ | ⟨j, k0, ⟨h0, h01, h02⟩, h1, h2, rfl⟩
        · exact .inl ⟨(List.getElem?_eq_some_iff.1 h1).1, k, h1, h2, hb⟩
        · obtain ⟨cs, rfl⟩ := hcells j k0 h2
          simp only [Blk.ren, Blk.at, Option.some.injEq] at hb
          rcases hnew i e he with ⟨h3, h4⟩ | ⟨h3, h4⟩
          · obtain ⟨ds, _, h6⟩ := hget j i (h01 (by rw [h.len] at h4; exact h4))
            exact .inl ⟨h4, _, h3, h6, by simp [Blk.at, hb]⟩
          · exact .inr ⟨h4, h3, hb⟩
      rcases key i e k b he hk hb with ⟨g0, k', g1, g2, g3⟩ | ⟨g0, g1, g2⟩ <;> rcases key j f l b hf hl hb' with ⟨q0, l', q1, q2, q3⟩ | ⟨q0, q1, q2⟩
      · exact h.inj i j e f k' l' b hij g1 g2 q1 q2 g3 q3
      · have := at_lt (h.blk i e k' g1 g2) g3; have := (ho.loc f q1).1; omega
      · have := at_lt (h.blk j f l' q1 q2) q3; have := (ho.loc e g1).1; omega
      · rw [List.getElem?_append_right g0] at he
        rw [List.getElem?_append_right q0] at hf
        have hi' : (β0 ++ γ)[β0.length + (i - β.length)]? = some e := by rw [List.getElem?_append_right (by omega)]; simpa using he
        have hj' : (β0 ++ γ)[β0.length + (j - β.length)]? = some f := by rw [List.getElem?_append_right (by omega)]; simpa using hf
        exact ho.inj _ _ e f (by omega) hi' hj' (by omega)
    · rcases hplace i e k he hk with ⟨_, h1, h2⟩ | ⟨j, k0, ⟨_, h01, _⟩, h1, h2, rfl⟩
      · have := h.loc i e k b h0 h1 h2 hb; omega
      · obtain ⟨cs, rfl⟩ := hcells j k0 h2
        simp only [Blk.ren, Blk.at, Option.some.injEq] at hb
        rcases hnew i e he with ⟨h3, h4⟩ | ⟨h3, h4⟩
        · obtain ⟨ds, _, h6⟩ := hget j i (h01 (by rw [h.len] at h4; exact h4))
          have := h.loc i e _ b h0 h3 h6 (by simp [Blk.at, hb]); omega
        · have := ho.loc e h3; have := h.frm.size; omega
    · obtain ⟨cs, hc⟩ := h.cel i hi
      have hil := (List.getElem?_eq_some_iff.1 hc).1
      by_cases hm : i ∈ σ
      · obtain ⟨j, hj⟩ := List.mem_iff_getElem?.1 hm
        have hjl : j < H1.length := by have := (List.getElem?_eq_some_iff.1 hj).1; omega
        obtain ⟨ds, hd⟩ := hcells j H1[j] (by simp [hjl])
        exact ⟨PV.rens (renId σ H.length) ds, by rw [(hset i).1 j hj]; simp [ks, hjl, hd, Blk.ren]⟩
      · exact ⟨cs, by rw [(hset i).2.1 hil hm]; exact hc⟩
    · refine ⟨hfrm.os.trans h.frm.os, hfrm.tape.trans h.frm.tape, hfrm.output.trans h.frm.output, Nat.le_trans h.frm.size hwsz, fun b hb hne => ?_, fun b vs t hb => ?_⟩
      · rw [hsame b (by have := h.frm.size; omega) fun e he heb => ?_]
        · exact h.frm.block b hb hne
        · obtain ⟨i, cs, _, h1, h2⟩ := hmem0 e he
          by_cases hi : i < c.β0.length
          · obtain ⟨δ, hδ⟩ := h.pre
            rw [hδ, List.getElem?_append_left hi] at h1
            exact hne e (List.mem_of_getElem? h1) heb
          · have := h.loc i e _ e.b (by omega) h1 h2 rfl
            omega
      · obtain ⟨vs1, h1⟩ := h.frm.typ b vs t hb
        exact hfrm.typ b vs1 t h1

/-- A call of a function that is named, by its promise. -/
theorem OpT.call {cl : Call} {x : Operand} {f : FuncId} {fn : Func} {ps qs args0 : List PV} {σ : List Nat} {H0 H1 H' : List Blk} {p1 p : PV} {caps : List PV}
    (ho : o.op = .call cl) (hc : cl.callee = .value x) (hx : (opd G st x = some (.sc (.func (.func f) #[] #[])) ∧ caps = []) ∨ opd G st x = some (.fn f caps))
    (hfn : P.funcs[f]? = some fn) (hbody : fn.body.isNone = false) (hname : (fn.name == "runtime.NumGoroutine") = false)
    (hargs : cl.args.toList.map (opd G st) = ps.map some) (hwk : Wks H false (ps ++ caps) qs) (hren : qs = PV.rens (renId σ H.length) args0)
    (hs : σ.Pairwise (· < ·)) (hcl : H0.all Blk.isCells = true) (hH0 : H0.map (fun k => some (k.ren (renId σ H.length))) = σ.map (H[·]?))
    (hcall : ACall P G f args0 H0 (fun q K => q = p1 ∧ K = H1)) (hp : p = p1.ren (renId σ H.length)) (hH' : H' = setAll σ (H1.map (Blk.ren (renId σ H.length))) H) : OpT P G n0 o st H p H' := by
  intro c a w β h0 hr
  obtain ⟨β0, g1, g2, g3⟩ := hr.call hs hcl hH0
  have hxv : ∃ us, a.eval x = .func (.func f) #[] us ∧ VRs (stab c β H w) β w caps us.toList := by
    rcases hx with ⟨hx, rfl⟩ | hx
    · have := hr.opd hx
      simp only [VR] at this
      exact ⟨#[], this, by simp only [VRs]⟩
    · have := hr.opd hx
      simp only [VR] at this
      exact this
  obtain ⟨us, hxe, hus⟩ := hxv
  have hex : (execOp a.eval o).run P w = .ok (.enter f (cl.args.map a.eval ++ us)) w := by
    have hn : ¬ fn.name = "runtime.NumGoroutine" := by simpa using hname
    have hb : ¬ fn.body = none := by cases hq : fn.body <;> simp [hq] at hbody ⊢
    simp [execOp, ho, resolve, hc, hxe, Deferred.ofValue, invoke, callFunc, hfn, hn, hb]
  have hv : VRs (stab c β H w) β0 w args0 (cl.args.map a.eval ++ us).toList := by
    have h1 := VRs.of_opds hr cl.args.toList ps hargs
    have h2 := hr.wks hwk _ (VRs.append _ _ _ _ h1 hus)
    rw [hren] at h2
    have h3 := (VRs.ren_iff g1 args0 _).1 h2
    simpa using h3
  simp only [wpv, hex]
  refine (hcall _ β0 w _ g2 hv).mono ?_
  rintro e w' ⟨v, q, K, γ, rfl, ⟨rfl, rfl⟩, hout, hvr⟩
  obtain ⟨k1, k2, k3, k4⟩ := g3 γ K w' hout
  subst hH' hp
  exact ⟨v, rfl, β ++ γ, k1, VR.ext_all k4 (BExt.refl _ _) ((VR.ren_iff k2 q v).2 hvr), BExt.app β γ, k3⟩
end
end Go.AM

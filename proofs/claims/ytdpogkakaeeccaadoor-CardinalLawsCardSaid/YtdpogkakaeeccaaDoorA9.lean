/- Slices over abstract states: append to a slice that the function owns, a store into its elements, new slices, lengths, parts. No condition. -/
import Derived.Test.YtdpogkakaeeccaaDoorA8
namespace Go.AM
section
variable {P : Program} {G : Glob} {c : Ctx} {β : List Bnd} {st : St} {H : List Blk} {a : Act} {w : World} {n0 nt : Nat} {o : Oper}

theorem get_set {α : Type} {l : List α} {i j : Nat} {x y : α} (h : (l.set i x)[j]? = some y) : (j ≠ i ∧ l[j]? = some y) ∨ (j = i ∧ y = x) := by
  by_cases hji : j = i
  · subst hji
    have hl : j < l.length := by
      have := (List.getElem?_eq_some_iff.1 h).1
      simpa using this
    rw [List.getElem?_set_self hl] at h
    exact .inr ⟨rfl, by simpa using h.symm⟩
  · rw [List.getElem?_set_ne (Ne.symm hji)] at h; exact .inl ⟨hji, h⟩

/-- A buffer is turned: longer, or with other elements. -/
theorem RelB.rebuf' (h : RelB G c β st H a w) {i s t : Nat} {xs xs' : List (List PV)} {sh : Bool} {e : Bnd} (he : β[i]? = some e) (hb : H[i]? = some (.buf s t xs sh)) {w' : World} {v' : Value} {vals : List Value}
    (hos : w'.os = w.os) (htp : w'.tape = w.tape) (hou : w'.output = w.output) (hsz : w.heap.size ≤ w'.heap.size) (hblk : ∀ b, b < w.heap.size → e.v.ownBlock ≠ some b → w'.heap[b]? = w.heap[b]?)
    (hlen : xs.length ≤ xs'.length) (hv : xs'.length = xs.length → v' = e.v) (hk : sh = true → ∀ g o u, e.v.ownBlock = some g → o < xs.length * s → w.cell? ⟨g, o, none⟩ = some u → w'.cell? ⟨g, o, none⟩ = some u)
    (hown : w'.ownsRow c.w0.heap.size t s v' xs'.length vals) (hnew : ∀ g, v'.ownBlock = some g → e.v.ownBlock = some g ∨ (w.heap.size ≤ g ∧ g < w'.heap.size)) (hls : ∀ x ∈ xs', x.length = s)
    (hvals : Ext (stab c β H w) w (stab c (β.set i ⟨e.b, v', xs'.length, s⟩) (H.set i (.buf s t xs' sh)) w') w' → VRs (stab c (β.set i ⟨e.b, v', xs'.length, s⟩) (H.set i (.buf s t xs' sh)) w') [] w' xs'.flatten vals) :
    RelB G c (β.set i ⟨e.b, v', xs'.length, s⟩) st (H.set i (.buf s t xs' sh)) a w' ∧ Ext (stab c β H w) w (stab c (β.set i ⟨e.b, v', xs'.length, s⟩) (H.set i (.buf s t xs' sh)) w') w' ∧ BExt (fun _ => true) β (β.set i ⟨e.b, v', xs'.length, s⟩) := by
  have hil := (List.getElem?_eq_some_iff.1 he).1
  obtain ⟨q1, q2, q3, vals0, q4, q5⟩ := h.blk i e _ he hb
  have hn0 : c.β0.length ≤ i := by
    rcases Nat.lt_or_ge i c.β0.length with hlt | hge
    · obtain ⟨cs, hc⟩ := h.cel i hlt
      rw [hb] at hc; cases hc
    · exact hge
  have hgb : ∀ g, e.v.ownBlock = some g → c.w0.heap.size ≤ g ∧ g < w.heap.size := fun g hg => h.loc i e _ g hn0 he hb hg
  have hx : Ext (stab c β H w) w (stab c (β.set i ⟨e.b, v', xs'.length, s⟩) (H.set i (.buf s t xs' sh)) w') w' := by
    refine ⟨fun b hi hs => ?_, fun b hi o u hs ho hu => ?_⟩
    · have hlt := stab_lt h hs
      rcases hs with hs | ⟨h1, h2, h3⟩
      · exact .inl hs
      · refine .inr ⟨h1, by omega, fun j f k hf hk' => ?_⟩
        rcases get_set hf with ⟨hji, hf⟩ | ⟨rfl, rfl⟩
        · rcases get_set hk' with ⟨_, hk'⟩ | ⟨e, _⟩
          · exact h3 j f k hf hk'
          · exact absurd e hji
        · rcases get_set hk' with ⟨e, _⟩ | ⟨_, rfl⟩
          · exact absurd rfl e
          · intro hbb
            simp only at hbb
            rcases hnew b hbb with hnb | ⟨hnb, _⟩
            · obtain ⟨k1, k2⟩ := h3 j e _ he hb hnb
              exact ⟨k1, Nat.le_trans k2 (Nat.mul_le_mul_right s hlen)⟩
            · omega
    · have hlt := stab_lt h hs
      by_cases hbb : e.v.ownBlock = some b
      · rcases hs with hs | ⟨h1, h2, h3⟩
        · have := (h.ok.old b hi hs).1
          have := (hgb b hbb).1
          omega
        · obtain ⟨k1, k2⟩ := h3 i e _ he hb hbb
          exact hk k1 b o u hbb (by omega) hu
      · rw [cell_of_heap (hblk b hlt hbb)]; exact hu
  have hbx : BExt (fun _ => true) β (β.set i ⟨e.b, v', xs'.length, s⟩) := by
    intro j f _ hf
    by_cases hji : j = i
    · subst hji
      rw [he] at hf; cases hf
      exact ⟨_, List.getElem?_set_self hil, rfl, q2.symm, by simp only; omega, fun hn => hv (by simp only at hn; omega)⟩
    · exact ⟨f, by rw [List.getElem?_set_ne (Ne.symm hji)]; exact hf, rfl, rfl, Nat.le_refl _, fun _ => rfl⟩
  have key : ∀ (j : Nat) f k, (β.set i ⟨e.b, v', xs'.length, s⟩)[j]? = some f → (H.set i (.buf s t xs' sh))[j]? = some k →
      (j ≠ i ∧ β[j]? = some f ∧ H[j]? = some k) ∨ (j = i ∧ f = ⟨e.b, v', xs'.length, s⟩ ∧ k = .buf s t xs' sh) := fun j f k hf hk' => by
    rcases get_set hf with ⟨hji, hf⟩ | ⟨rfl, rfl⟩
    · rcases get_set hk' with ⟨_, hk'⟩ | ⟨e, _⟩
      · exact .inl ⟨hji, hf, hk'⟩
      · exact absurd e hji
    · rcases get_set hk' with ⟨e, _⟩ | ⟨_, rfl⟩
      · exact absurd rfl e
      · exact .inr ⟨rfl, rfl, rfl⟩
  have hother : ∀ (j : Nat) f k b, j ≠ i → β[j]? = some f → H[j]? = some k → k.at f = some b → e.v.ownBlock ≠ some b := fun j f k b hji hf hk' hb' hbb => h.inj j i f e k _ b hji hf hk' he hb hb' hbb
  refine ⟨h.move hx hbx (by simp [h.len]) ?_ (fun j f k hf hk' => ?_) (fun j j' f f' k l b hij hf hk' hf' hl hb1 hb2 => ?_) (fun j f k b h0 hf hk' hb1 => ?_) (fun j hj => ?_) ?_, hx, hbx⟩
  · obtain ⟨γ, hγ⟩ := h.pre
    refine ⟨γ.set (i - c.β0.length) ⟨e.b, v', xs'.length, s⟩, ?_⟩
    rw [hγ, List.set_append_right _ _ hn0]
  · rcases key j f k hf hk' with ⟨hji, g1, g2⟩ | ⟨rfl, rfl, rfl⟩
    · exact BlkR.keep hx hbx (fun b hb' => hblk b (at_lt (h.blk j f k g1 g2) hb') (hother j f k b hji g1 g2 hb')) (h.blk j f k g1 g2)
    · exact ⟨rfl, rfl, hls, vals, hown, hvals hx⟩
  · rcases key j f k hf hk' with ⟨g0, g1, g2⟩ | ⟨rfl, rfl, rfl⟩ <;> rcases key j' f' l hf' hl with ⟨g0', g3, g4⟩ | ⟨rfl, rfl, rfl⟩
    · exact h.inj j j' f f' k l b hij g1 g2 g3 g4 hb1 hb2
    · rcases hnew b hb2 with hnb | ⟨hnb, _⟩
      · exact hother j f k b g0 g1 g2 hb1 hnb
      · have := at_lt (h.blk j f k g1 g2) hb1; omega
    · rcases hnew b hb1 with hnb | ⟨hnb, _⟩
      · exact hother j' f' l b g0' g3 g4 hb2 hnb
      · have := at_lt (h.blk j' f' l g3 g4) hb2; omega
    · exact hij rfl
  · rcases key j f k hf hk' with ⟨g0, g1, g2⟩ | ⟨rfl, rfl, rfl⟩
    · have := h.loc j f k b h0 g1 g2 hb1; omega
    · rcases hnew b hb1 with hnb | ⟨hnb, hnb'⟩
      · have := hgb b hnb; omega
      · have := h.frm.size; omega
  · obtain ⟨cs, hc⟩ := h.cel j hj
    have hne : j ≠ i := fun e => by omega
    exact ⟨cs, by rw [List.getElem?_set_ne (Ne.symm hne)]; exact hc⟩
  · refine ⟨hos.trans h.frm.os, htp.trans h.frm.tape, hou.trans h.frm.output, Nat.le_trans h.frm.size hsz, fun b hb' hne => ?_, fun b vs t' hb' => ?_⟩
    · rw [hblk b (by have := h.frm.size; omega) fun hbb => by have := (hgb b hbb).1; omega]
      exact h.frm.block b hb' hne
    · have hlt := (Array.getElem?_eq_some_iff.1 hb').1
      obtain ⟨vs1, h1⟩ := h.frm.typ b vs t' hb'
      exact ⟨vs1, by rw [hblk b (by have := h.frm.size; omega) fun hbb => by have := (hgb b hbb).1; omega]; exact h1⟩

/-- A buffer is turned: longer, or with other elements. -/
theorem RelB.rebuf (h : RelB G c β st H a w) {i s t : Nat} {xs xs' : List (List PV)} {sh : Bool} {e : Bnd} (he : β[i]? = some e) (hb : H[i]? = some (.buf s t xs sh)) {w' : World} {v' : Value} {vals : List Value}
    (hos : w'.os = w.os) (htp : w'.tape = w.tape) (hou : w'.output = w.output) (hsz : w.heap.size ≤ w'.heap.size) (hblk : ∀ b, b < w.heap.size → e.v.ownBlock ≠ some b → w'.heap[b]? = w.heap[b]?)
    (hlen : xs.length ≤ xs'.length) (hv : xs'.length = xs.length → v' = e.v) (hk : sh = true → ∀ g o u, e.v.ownBlock = some g → o < xs.length * s → w.cell? ⟨g, o, none⟩ = some u → w'.cell? ⟨g, o, none⟩ = some u)
    (hown : w'.ownsRow c.w0.heap.size t s v' xs'.length vals) (hnew : ∀ g, v'.ownBlock = some g → e.v.ownBlock = some g ∨ (w.heap.size ≤ g ∧ g < w'.heap.size)) (hls : ∀ x ∈ xs', x.length = s)
    (hvals : ∀ S', Ext (stab c β H w) w S' w' → VRs S' [] w' xs'.flatten vals) :
    RelB G c (β.set i ⟨e.b, v', xs'.length, s⟩) st (H.set i (.buf s t xs' sh)) a w' ∧ Ext (stab c β H w) w (stab c (β.set i ⟨e.b, v', xs'.length, s⟩) (H.set i (.buf s t xs' sh)) w') w' ∧ BExt (fun _ => true) β (β.set i ⟨e.b, v', xs'.length, s⟩) :=
  h.rebuf' he hb hos htp hou hsz hblk hlen hv hk hown hnew hls fun hx => hvals _ hx

/-- What a slice is read as: cells of its elements, somewhere. -/
theorem cells_of_rows {S : Nat → Nat → Prop} {s b : Nat} : ∀ (xs : List (List PV)) (o : Nat), VRows S [] w b s o xs → (∀ x ∈ xs, x.length = s) ∧ ∃ vals, VRs S [] w xs.flatten vals ∧ ∀ j v, vals[j]? = some v → w.cell? ⟨b, o + j, none⟩ = some v := by
  intro xs
  induction xs with
  | nil => intro o _; exact ⟨by simp, [], by simp only [List.flatten_nil, VRs], by simp⟩
  | cons x xs ih =>
    intro o hr
    simp only [VRows] at hr
    obtain ⟨h3, vs, h4, h5⟩ := ih (o + s) hr.2
    obtain ⟨us, h6, h7⟩ := VRow.cells x o hr.1.2
    have hl := VRs.length _ _ h6
    refine ⟨fun y hy => ?_, us ++ vs, by simp only [List.flatten_cons]; exact VRs.append _ _ _ _ h6 h4, fun j v hj => ?_⟩
    · rcases List.mem_cons.1 hy with rfl | hy
      · exact hr.1.1
      · exact h3 y hy
    · rcases Nat.lt_or_ge j us.length with hlt | hge
      · rw [List.getElem?_append_left hlt] at hj; exact h7 j v hj
      · rw [List.getElem?_append_right hge] at hj
        have := h5 _ v hj
        rwa [show o + s + (j - us.length) = o + j by rw [hl, hr.1.1] at *; omega] at this
theorem cells_of_sl {S : Nat → Nat → Prop} {s : Nat} {xs : List (List PV)} {u : Value} (h : VR S β w (.sl s xs) u) (hne : xs ≠ []) :
    ∃ b off cap vals, u = .slice (some ⟨b, off, none⟩) xs.length cap ∧ VRs S [] w xs.flatten vals ∧ (∀ x ∈ xs, x.length = s) ∧ ∀ j v, vals[j]? = some v → w.cell? ((⟨b, off, none⟩ : Addr).add j) = some v := by
  simp only [VR] at h
  obtain ⟨ad, cap, rfl, _, h⟩ := h
  rcases h with rfl | ⟨b, off, rfl, h1, h2⟩
  · exact absurd rfl hne
  · obtain ⟨k1, vals, k2, k3⟩ := cells_of_rows xs off h2
    exact ⟨b, off, cap, vals, rfl, k2, k1, fun j v hj => by rw [addr_add]; exact k3 j v hj⟩
/-- A part of rows. -/
theorem rows_part {S : Nat → Nat → Prop} {β : List Bnd} {b s : Nat} : ∀ (xs : List (List PV)) (of k m : Nat), VRows S β w b s of xs → VRows S β w b s (of + m * s) ((xs.take k).drop m)
  | [], of, k, m, _ => by simp [VRows]
  | x :: xs, of, 0, m, _ => by simp [VRows]
  | x :: xs, of, k + 1, 0, h => by
    simp only [VRows] at h
    have := rows_part xs (of + s) k 0 h.2
    simp only [List.take_succ_cons, List.drop_zero, VRows]
    refine ⟨by simpa using h.1, by simpa using this⟩
  | x :: xs, of, k + 1, m + 1, h => by
    simp only [VRows] at h
    have := rows_part xs (of + s) k m h.2
    rw [show of + (m + 1) * s = of + s + m * s by rw [Nat.succ_mul]; omega]
    simpa using this

theorem append_type {t u e e' ty : TypeId} {i : TypeInfo} (ht : P.underlying t = some (.slice e)) (hu : P.underlying u = some (.slice e')) (hi : P.info? e = some i) (x y : Value) :
    (Builtin.append_ #[t, u] ty #[x, y]).run P w = (Builtin.append_ #[t, t] ty #[x, y]).run P w := by
  cases x <;> simp [Builtin.append_, run_underlying ht, run_underlying hu, sizeOf, typeInfo, hi]

theorem run_append_none {t e ty : TypeId} {i : TypeInfo} (ht : P.underlying t = some (.slice e)) (hi : P.info? e = some i) (base : Option Addr) (n cap : Nat) (ad : Option Addr) (c : Nat) (h : n ≤ cap) :
    (Builtin.append_ #[t, t] ty #[.slice base n cap, .slice ad 0 c]).run P w = .ok (.slice base n cap) w := by
  cases base <;> cases ad <;> simp [Builtin.append_, run_underlying ht, sizeOf, typeInfo, hi, Builtin.lenOf, h, Builtin.firstCells, loadCells, loadCellsFrom, storeCells]

/-- What may be appended: elements that can be read. -/
inductive Src (H : List Blk) (s : Nat) : PV → List (List PV) → Prop where
  | sl (ys : List (List PV)) : Src H s (.sl s ys) ys
  | nil : Src H s (.sc (.slice none 0 0)) []
  | own (i t : Nat) (ys : List (List PV)) (sh : Bool) (h : H[i]? = some (.buf s t ys sh)) : Src H s (.own i ys.length) ys
  | ow (i t lo hi : Nat) (xs : List (List PV)) (sh : Bool) (h : H[i]? = some (.buf s t xs sh)) (hl : lo < hi) (hh : hi ≤ xs.length) : Src H s (.ow i xs.length lo hi) ((xs.take hi).drop lo)

theorem src_cells (h : RelB G c β st H a w) {s : Nat} {q : PV} {ys : List (List PV)} {u : Value} (hs : Src H s q ys) (hu : VR (stab c β H w) β w q u) :
    (ys = [] ∧ ∃ ad cap, u = .slice ad 0 cap) ∨ ∃ b off cap vals, u = .slice (some ⟨b, off, none⟩) ys.length cap ∧ VRs (stab c β H w) [] w ys.flatten vals ∧ (∀ x ∈ ys, x.length = s) ∧
      ∀ j v, vals[j]? = some v → w.cell? ((⟨b, off, none⟩ : Addr).add j) = some v := by
  cases hs with
  | sl =>
    by_cases hne : ys = []
    · subst hne
      simp only [VR] at hu
      obtain ⟨ad, cap, rfl, _⟩ := hu
      exact .inl ⟨rfl, ad, cap, rfl⟩
    · exact .inr (cells_of_sl hu hne)
  | nil => simp only [VR] at hu; exact .inl ⟨rfl, none, 0, hu⟩
  | own i t ys sh hb =>
    simp only [VR] at hu
    obtain ⟨_, e, he, g1, g2⟩ := hu
    obtain ⟨q1, q2, q3, vals, ⟨q4, q5⟩, q6⟩ := h.blk i e _ he hb
    have := g2 q1.symm
    subst this
    rcases q5 with ⟨q5, q7⟩ | ⟨g, cap, cur, e1, e2, e3, e4, e5, e6, e7⟩
    · exact .inl ⟨List.eq_nil_of_length_eq_zero q7, none, 0, q5⟩
    · refine .inr ⟨g, 0, cap, vals, e1, q6, q3, fun j v hj => ?_⟩
      rw [addr_add, cell_of_row w g (0 + j) cur t (0, 0) e3]
      rw [← e7, List.getElem?_take] at hj
      split at hj
      · simpa using hj
      · cases hj
  | ow i t lo hi xs sh hb hl hh =>
    simp only [VR] at hu
    obtain ⟨_, e, he, g1, g2⟩ := hu
    obtain ⟨q1, q2, q3, vals, ⟨q4, q5⟩, q6⟩ := h.blk i e _ he hb
    obtain ⟨g, cap', g3, g4, rfl⟩ := g2 q1.symm
    rcases q5 with ⟨q5, q7⟩ | ⟨g', cap, cur, e1, e2, e3, e4, e5, e6, e7⟩
    · omega
    · rw [e1] at g3
      simp [Value.ownBlock] at g3
      subst g3
      have hrows := rows_of_flat (w := w) (g := g') xs vals 0 q3 q6 fun j u hj => by
        rw [cell_of_row w g' (0 + j) cur t (0, 0) e3]
        rw [← e7, List.getElem?_take] at hj
        split at hj
        · simpa using hj
        · cases hj
      obtain ⟨k1, vals', k2, k3⟩ := cells_of_rows _ _ (rows_part xs 0 hi lo hrows)
      rw [Nat.zero_add, ← q2] at k3
      refine .inr ⟨g', lo * e.s, cap', vals', by rw [List.length_drop, List.length_take, Nat.min_eq_left hh], k2, k1, fun j v hj => by rw [addr_add]; exact k3 j v hj⟩

theorem OpT.append {cl : Call} {x y : Operand} {T U e : TypeId} {i s t : Nat} {ti : TypeInfo} {z : Value} {xs ys : List (List PV)} {sh : Bool} {q : PV}
    (ho : o.op = .call cl) (hcl : cl = { callee := .builtin .append, args := #[x, y], argTypes := #[T, U] }) (hT : P.underlying T = some (.slice t)) (hU : P.underlying U = some (.slice e)) (hi : P.info? t = some ti) (hz : ti.zero = some z)
    (hs : ti.size = s) (hzs : z.cells.size = s) (hx : opd G st x = some (.own i xs.length)) (hb : H[i]? = some (.buf s t xs sh)) (hy : opd G st y = some q) (hq : Src H s q ys) (h1 : (ys.flatten.all PV.one) = true)
    (hn : (xs.length + ys.length) * ti.bytes ≤ 140737488355328) (hn2 : xs.length + ys.length ≤ 140737488355328) : OpT P G n0 o st H (.own i (xs ++ ys).length) (H.set i (.buf s t (xs ++ ys) sh)) := by
  intro c a w β h0 hr
  have hvx := hr.opd hx
  have hvy := hr.opd hy
  simp only [VR] at hvx
  obtain ⟨ho1, ed, he, g1, g2⟩ := hvx
  obtain ⟨q1, q2, q3, vals, hown, q6⟩ := hr.blk i ed _ he hb
  have hxv := g2 q1.symm
  have hil := (List.getElem?_eq_some_iff.1 hb).1
  have hex : (execOp a.eval o).run P w = ((Builtin.append_ #[T, U] o.type #[ed.v, a.eval y]).run P w).andThen fun v w' => .ok (.value v) w' := by
    simp [execOp, ho, hcl, resolve, invoke, builtin, hxv]
  rw [append_type hT hU hi] at hex
  obtain ⟨hvl, hown'⟩ := hown
  have keep : ys = [] → (∃ ad cap, a.eval y = .slice ad 0 cap) → wpv P o a w (fun v w' => RelV G c β H w st (H.set i (.buf s t (xs ++ ys) sh)) a (.own i (xs ++ ys).length) v w') := by
    rintro rfl ⟨ad, cap, hya⟩
    have hrun : (Builtin.append_ #[T, T] o.type #[ed.v, a.eval y]).run P w = .ok ed.v w := by
      rw [hya]
      rcases hown' with ⟨e1, e2⟩ | ⟨g, cp, cur, e1, e2, e3, e4, _⟩
      · rw [e1]; exact run_append_none hT hi none 0 0 ad cap (Nat.le_refl _)
      · rw [e1]; exact run_append_none hT hi _ _ _ ad cap e4
    simp only [wpv, hex, hrun, Result.andThen_ok]
    have hset : H.set i (.buf s t (xs ++ []) sh) = H := by
      rw [List.append_nil]
      refine List.ext_getElem? fun j => ?_
      by_cases hji : j = i
      · subst hji; rw [List.getElem?_set_self hil, hb]
      · rw [List.getElem?_set_ne (Ne.symm hji)]
    rw [hset]
    refine ⟨β, hr, ?_, BExt.refl _ _, Ext.refl _ _⟩
    simp only [VR, List.append_nil]
    exact ⟨by rw [← hxv]; exact ho1, ed, he, g1, fun _ => rfl⟩
  rcases src_cells hr hq hvy with ⟨hy0, hya⟩ | ⟨b, off, cap, nvals, hya, k1, k2, k3⟩
  · exact keep hy0 hya
  · by_cases hy0 : ys = []
    · exact keep hy0 ⟨_, _, by rw [hya, hy0]; rfl⟩
    · have hyl : 0 < ys.length := List.length_pos_iff.2 hy0
      have hnl : nvals.length = ys.length * s := by rw [VRs.length _ _ k1, flat_length ys k2]
      have hone : ∀ u ∈ nvals, u.oneCell' = true := VRs.one h1 k1
      have hlsx : ∀ x ∈ xs ++ ys, x.length = s := fun x hx => by
        rcases List.mem_append.1 hx with hx | hx
        · exact q3 x hx
        · exact k2 x hx
      have hflat : (xs ++ ys).flatten = xs.flatten ++ ys.flatten := List.flatten_append
      have hfin : ∀ v' w', (Builtin.append_ #[T, T] o.type #[ed.v, a.eval y]).run P w = .ok v' w' → v'.oneCell' = true → w'.os = w.os → w'.tape = w.tape → w'.output = w.output → w.heap.size ≤ w'.heap.size →
          (∀ b, b < w.heap.size → ed.v.ownBlock ≠ some b → w'.heap[b]? = w.heap[b]?) →
          (∀ g o u, ed.v.ownBlock = some g → o < xs.length * s → w.cell? ⟨g, o, none⟩ = some u → w'.cell? ⟨g, o, none⟩ = some u) →
          w'.ownsRow c.w0.heap.size t s v' (xs ++ ys).length (vals ++ nvals) → (∀ g, v'.ownBlock = some g → ed.v.ownBlock = some g ∨ (w.heap.size ≤ g ∧ g < w'.heap.size)) →
          wpv P o a w (fun v w' => RelV G c β H w st (H.set i (.buf s t (xs ++ ys) sh)) a (.own i (xs ++ ys).length) v w') := by
        intro v' w' hrun hv1 m1 m2 m3 m4 m5 m6 m7 m8
        simp only [wpv, hex, hrun, Result.andThen_ok]
        obtain ⟨r1, r2, r3⟩ := hr.rebuf he hb (xs' := xs ++ ys) m1 m2 m3 m4 m5 (by simp) (fun hl => absurd hl (by rw [List.length_append]; omega)) (fun _ => m6) m7 m8 hlsx (fun S' hx' => by
          rw [hflat]
          exact VRs.append _ _ _ _ (VRs.ext_all hx' (BExt.refl _ _) q6) (VRs.ext_all hx' (BExt.refl _ _) k1))
        refine ⟨_, r1, ?_, r3, r2⟩
        simp only [VR]
        exact ⟨hv1, _, List.getElem?_set_self (by rw [hr.len]; exact hil), Nat.le_refl _, fun _ => rfl⟩
      have hmax : xs.length + ys.length ≤ maxLen := by unfold maxLen; omega
      rcases hown' with ⟨e1, e2⟩ | ⟨g, cp, cur, e1, e2, e3, e4, e5, e6, e7⟩
      · have hx0 : xs = [] := List.eq_nil_of_length_eq_zero e2
        have hv0 : vals = [] := List.eq_nil_of_length_eq_zero (by rw [hvl, e2]; simp)
        subst hx0 hv0
        have hn' : ys.length * ti.bytes ≤ 140737488355328 := by simpa using hn
        have hrun := run_append_nil (P := P) w T o.type t ti z hT hi hz ⟨b, off, none⟩ ys.length cap nvals (by rw [hnl, hs]) k3 hyl (by have := hmax; simp [maxLen] at this; omega) (by omega)
        rw [← hya, ← e1] at hrun
        have hcap := grownCap_ge w ys.length 0 t
        have hcap2 := grownCap_le_maxLen w ys.length 0 t (by simpa using hmax)
        refine hfin _ _ hrun rfl rfl rfl rfl (by simp) (fun b' hb' _ => heap_alloc_old _ _ _ (by simpa using hb')) (fun g o u hg => by rw [e1] at hg; simp [Value.ownBlock] at hg) ?_ (fun g hg => ?_)
        · refine ⟨by simp [hnl], .inr ⟨w.heap.size, _, _, by simp, hr.frm.size, heap_alloc_new w.drew _, by simpa using hcap, hcap2, ?_, ?_⟩⟩
          · simp [size_zeroCells, hzs, hnl]; rw [← Nat.add_mul]; congr 1; omega
          · simp [hnl]
        · simp [Value.ownBlock] at hg
          subst hg
          exact .inr ⟨Nat.le_refl _, by simp⟩
      · have hcells : ∀ j u, vals[j]? = some u → w.cell? ((⟨g, 0, none⟩ : Addr).add j) = some u := fun j u hj => by
          rw [addr_add, cell_of_row w g (0 + j) cur t (0, 0) e3]
          rw [← e7, List.getElem?_take] at hj
          split at hj
          · simpa using hj
          · cases hj
        by_cases hroom : xs.length + ys.length ≤ cp
        · have hfit : xs.length * ti.size + nvals.length ≤ cur.size := by
            rw [hs, hnl, e6, ← Nat.add_mul]; exact Nat.mul_le_mul_right s hroom
          have hrun := run_append_room (P := P) w T o.type t ti hT hi g xs.length cp cur e3 ⟨b, off, none⟩ ys.length cap nvals (by rw [hnl, hs]) k3 hone hroom hfit
          rw [← hya, ← e1] at hrun
          have hcl2 : cur.toList.take (xs.length * ti.size) = vals := by rw [hs]; exact e7
          rw [hcl2] at hrun
          have hrow := setRow_heap w g cur (vals ++ nvals ++ cur.toList.drop (xs.length * ti.size + nvals.length)).toArray t (0, 0) e3
          have hvlen : vals.length = xs.length * s := hvl
          refine hfin _ _ hrun rfl rfl rfl rfl (by rw [size_setRow]; exact Nat.le_refl _) (fun b' hb' hne => ?_) (fun g' o' u hg ho' hu => ?_) ?_ (fun g' hg => ?_)
          · have : b' ≠ g := fun eq => hne (by rw [e1, eq]; rfl)
            simp only [World.setRow, Array.getElem?_modify]; rw [if_neg (Ne.symm this)]
          · rw [e1] at hg; simp [Value.ownBlock] at hg; subst hg
            rw [cell_of_row _ g o' _ t (0, 0) hrow]
            rw [cell_of_row w g o' cur t (0, 0) e3] at hu
            have h5 : vals[o']? = cur.toList[o']? := by rw [← e7, List.getElem?_take, if_pos ho']
            rw [List.getElem?_toArray, List.append_assoc, List.getElem?_append_left (by omega), h5]
            simpa using hu
          · refine ⟨by simp only [List.length_append]; rw [hvlen, hnl, ← Nat.add_mul], .inr ⟨g, cp, _, by simp, e2, hrow, by simpa using hroom, e5, ?_, ?_⟩⟩
            · simp only [List.size_toArray, List.length_append, List.length_drop, Array.length_toList]
              rw [hvlen, hnl, hs]
              have : xs.length * s + ys.length * s ≤ cur.size := by rw [hnl, hs] at hfit; exact hfit
              omega
            · simp only []
              rw [List.take_left' (by simp only [List.length_append]; rw [hvlen, hnl, ← Nat.add_mul])]
          · simp [Value.ownBlock] at hg
            subst hg
            exact .inl (by rw [e1]; rfl)
        · have hgr : cp < xs.length + ys.length := by omega
          have hrun := run_append_grow (P := P) w T o.type t ti z hT hi hz ⟨g, 0, none⟩ xs.length cp vals (by rw [hvl, hs]) hcells ⟨b, off, none⟩ ys.length cap nvals (by rw [hnl, hs]) k3 hgr (by have := hmax; simp [maxLen] at this; omega) (growslice_fits hgr hn)
          rw [← hya, ← e1] at hrun
          have hcap := grownCap_ge w (xs.length + ys.length) cp t
          have hcap2 := grownCap_le_maxLen w (xs.length + ys.length) cp t hmax
          refine hfin _ _ hrun rfl rfl rfl rfl (by simp) (fun b' hb' _ => heap_alloc_old _ _ _ (by simpa using hb')) (fun g' o' u hg ho' hu => ?_) ?_ (fun g' hg => ?_)
          · rw [World.cell?_alloc_lt]
            · exact hu
            · exact World.block_lt_of_cell? w _ hu
          · refine ⟨by simp only [List.length_append]; rw [hvl, hnl, ← Nat.add_mul], .inr ⟨w.heap.size, _, _, by simp, hr.frm.size, heap_alloc_new w.drew _, by simpa using hcap, hcap2, ?_, ?_⟩⟩
            · simp [size_zeroCells, hzs, hnl, hvl]; rw [← Nat.add_mul, ← Nat.add_mul]; congr 1; omega
            · simp only [List.length_append]
              rw [Array.toList_append, Array.toList_append, List.take_left' (by simp [hvl, hnl, Nat.add_mul])]
          · simp [Value.ownBlock] at hg
            subst hg
            exact .inr ⟨Nat.le_refl _, by simp⟩
end
end Go.AM

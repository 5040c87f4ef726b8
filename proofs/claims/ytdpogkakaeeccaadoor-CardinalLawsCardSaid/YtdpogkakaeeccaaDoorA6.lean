/- Calls over abstract states: what a function promises, how a promise is proved and how it is used. No condition. -/
import Derived.Test.YtdpogkakaeeccaaDoorA5
namespace Go.AM

/-! ### Renaming of abstract blocks -/
mutual
def PV.ren (f : Nat → Nat) : PV → PV
  | .sc v => .sc v
  | .ro cs o => .ro cs o
  | .sl s xs => .sl s xs
  | .agg cs => .agg (PV.rens f cs)
  | .tup cs => .tup (PV.rens f cs)
  | .fn g cs => .fn g (PV.rens f cs)
  | .ptr i o => .ptr (f i) o
  | .own i n => .own (f i) n
  | .ept i n k o => .ept (f i) n k o
  | .mp i => .mp (f i)
  | .z => .z
  | .vw i o n => .vw (f i) o n
  | .ow i n lo hi => .ow (f i) n lo hi
def PV.rens (f : Nat → Nat) : List PV → List PV
  | [] => []
  | p :: ps => p.ren f :: PV.rens f ps
end
def Blk.ren (f : Nat → Nat) : Blk → Blk
  | .cells cs => .cells (PV.rens f cs)
  | .buf s t xs sh => .buf s t xs sh
/-- The caller's number of the callee's block j: those that were handed over, then new ones. -/
def renId (σ : List Nat) (base j : Nat) : Nat := match σ[j]? with | some i => i | none => base + (j - σ.length)

section
variable {S : Nat → Nat → Prop} {w : World} {f : Nat → Nat} {β1 β2 : List Bnd}
mutual
theorem VR.ren_iff (hf : ∀ j, β2[f j]? = β1[j]?) : ∀ (p : PV) (u : Value), VR S β2 w (p.ren f) u ↔ VR S β1 w p u
  | .sc _, _ => by simp only [PV.ren, VR]
  | .ro _ _, _ => by simp only [PV.ren, VR]
  | .sl _ _, _ => by simp only [PV.ren, VR]
  | .ptr i o, u => by simp only [PV.ren, VR, hf]
  | .own i n, u => by simp only [PV.ren, VR, hf]
  | .ept i n k o, u => by simp only [PV.ren, VR, hf]
  | .mp i, u => by simp only [PV.ren, VR, hf]
  | .z, u => by simp only [PV.ren, VR]
  | .vw i o n, u => by simp only [PV.ren, VR, hf]
  | .ow i n lo hi, u => by simp only [PV.ren, VR, hf]
  | .agg cs, u => by
    simp only [PV.ren, VR]
    exact ⟨fun ⟨us, e, h⟩ => ⟨us, e, (VRs.ren_iff hf cs _).1 h⟩, fun ⟨us, e, h⟩ => ⟨us, e, (VRs.ren_iff hf cs _).2 h⟩⟩
  | .tup cs, u => by
    simp only [PV.ren, VR]
    exact ⟨fun ⟨us, e, h⟩ => ⟨us, e, (VRs.ren_iff hf cs _).1 h⟩, fun ⟨us, e, h⟩ => ⟨us, e, (VRs.ren_iff hf cs _).2 h⟩⟩
  | .fn g cs, u => by
    simp only [PV.ren, VR]
    exact ⟨fun ⟨us, e, h⟩ => ⟨us, e, (VRs.ren_iff hf cs _).1 h⟩, fun ⟨us, e, h⟩ => ⟨us, e, (VRs.ren_iff hf cs _).2 h⟩⟩
theorem VRs.ren_iff (hf : ∀ j, β2[f j]? = β1[j]?) : ∀ (ps : List PV) (us : List Value), VRs S β2 w (PV.rens f ps) us ↔ VRs S β1 w ps us
  | [], [] => by simp only [PV.rens, VRs]
  | [], _ :: _ => by simp only [PV.rens, VRs]
  | _ :: _, [] => by simp only [PV.rens, VRs]
  | p :: ps, u :: us => by simp only [PV.rens, VRs]; rw [VR.ren_iff hf p u, VRs.ren_iff hf ps us]
end
end
mutual
theorem PV.ids_ren (f : Nat → Nat) {q q' : Nat → Bool} (h : ∀ j, q j = true → q' (f j) = true) : ∀ (p : PV), p.ids q = true → (p.ren f).ids q' = true
  | .sc _, _ | .ro _ _, _ | .sl _ _, _ | .z, _ => by simp only [PV.ren, PV.ids]
  | .ptr _ _, hp | .own _ _, hp | .ept _ _ _ _, hp | .mp _, hp | .vw _ _ _, hp | .ow _ _ _ _, hp => by simp only [PV.ren, PV.ids] at hp ⊢; exact h _ hp
  | .agg cs, hp | .tup cs, hp | .fn _ cs, hp => by simp only [PV.ren, PV.ids] at hp ⊢; exact PV.idss_ren f h cs hp
theorem PV.idss_ren (f : Nat → Nat) {q q' : Nat → Bool} (h : ∀ j, q j = true → q' (f j) = true) : ∀ (ps : List PV), PV.idss q ps = true → PV.idss q' (PV.rens f ps) = true
  | [], _ => by simp only [PV.rens, PV.idss]
  | p :: ps, hp => by
    simp only [PV.rens, PV.idss, Bool.and_eq_true] at hp ⊢
    exact ⟨PV.ids_ren f h p hp.1, PV.idss_ren f h ps hp.2⟩
theorem PV.ids_ren_inv (f : Nat → Nat) {q q' : Nat → Bool} (h : ∀ j, q' (f j) = true → q j = true) : ∀ (p : PV), (p.ren f).ids q' = true → p.ids q = true
  | .sc _, _ | .ro _ _, _ | .sl _ _, _ | .z, _ => by simp only [PV.ids]
  | .ptr _ _, hp | .own _ _, hp | .ept _ _ _ _, hp | .mp _, hp | .vw _ _ _, hp | .ow _ _ _ _, hp => by simp only [PV.ren, PV.ids] at hp ⊢; exact h _ hp
  | .agg cs, hp | .tup cs, hp | .fn _ cs, hp => by simp only [PV.ren, PV.ids] at hp ⊢; exact PV.idss_ren_inv f h cs hp
theorem PV.idss_ren_inv (f : Nat → Nat) {q q' : Nat → Bool} (h : ∀ j, q' (f j) = true → q j = true) : ∀ (ps : List PV), PV.idss q' (PV.rens f ps) = true → PV.idss q ps = true
  | [], _ => by simp only [PV.idss]
  | p :: ps, hp => by
    simp only [PV.rens, PV.idss, Bool.and_eq_true] at hp ⊢
    exact ⟨PV.ids_ren_inv f h p hp.1, PV.idss_ren_inv f h ps hp.2⟩
end

/-! ### Promises -/
/-- What a function is handed: blocks of cells that it may write (β0, H), and what nobody writes (S0). -/
structure InOk (G : Glob) (S0 : Nat → Nat → Prop) (β0 : List Bnd) (H : List Blk) (w : World) : Prop where
  ctx : OkCtx G ⟨w, S0, β0, 0, []⟩
  len : β0.length = H.length
  blk : ∀ (i : Nat) e k, β0[i]? = some e → H[i]? = some k → ∃ cs, k = .cells cs ∧ BlkR S0 β0 w 0 i e k
  inj : ∀ (i j : Nat) e f, i ≠ j → β0[i]? = some e → β0[j]? = some f → e.b ≠ f.b
/-- Behind the call: what nobody writes any more. -/
def stab1 (S0 : Nat → Nat → Prop) (γ : List Bnd) (w w' : World) (b hi : Nat) : Prop := S0 b hi ∨ (w.heap.size ≤ b ∧ b < w'.heap.size ∧ ∀ e ∈ γ, e.b ≠ b)
structure OutOk (S0 : Nat → Nat → Prop) (β0 γ : List Bnd) (H : List Blk) (w w' : World) : Prop where
  len : (β0 ++ γ).length = H.length
  blk : ∀ (i : Nat) e k, (β0 ++ γ)[i]? = some e → H[i]? = some k → ∃ cs, k = .cells cs ∧ BlkR (stab1 S0 γ w w') (β0 ++ γ) w' 0 i e k
  inj : ∀ (i j : Nat) e f, i ≠ j → (β0 ++ γ)[i]? = some e → (β0 ++ γ)[j]? = some f → e.b ≠ f.b
  loc : ∀ e ∈ γ, w.heap.size ≤ e.b ∧ e.b < w'.heap.size
  frm : Frm ⟨w, S0, β0, 0, []⟩ w'

/-- Function f, called with these arguments over these blocks, returns a value and blocks that meet R. -/
def ACall (P : Program) (G : Glob) (f : FuncId) (args : List PV) (H : List Blk) (R : PV → List Blk → Prop) : Prop :=
  ∀ S0 β0 w (cargs : Array Value), InOk G S0 β0 H w → VRs S0 β0 w args cargs.toList →
    Calls P f cargs w fun e w' => ∃ v p H' γ, e = .returned v ∧ R p H' ∧ OutOk S0 β0 γ H' w w' ∧ VR (stab1 S0 γ w w') (β0 ++ γ) w' p v

theorem ACall.mono {P : Program} {G : Glob} {f : FuncId} {args : List PV} {H : List Blk} {R R' : PV → List Blk → Prop} (h : ACall P G f args H R) (hr : ∀ p H, R p H → R' p H) : ACall P G f args H R' :=
  fun S0 β0 w cargs h1 h2 => (h S0 β0 w cargs h1 h2).mono fun _ _ ⟨v, p, H', γ, h3, h4, h5⟩ => ⟨v, p, H', γ, h3, hr _ _ h4, h5⟩

/-- A value that says less: a nil slice as an empty one, the owner's slice as one that nobody writes (its buffer being shared, or behind the return). -/
inductive Wk (H : List Blk) (any : Bool) : PV → PV → Prop where
  | refl (p : PV) : Wk H any p p
  | nil (s : Nat) : Wk H any (.sc (.slice none 0 0)) (.sl s [])
  | own (i s t : Nat) (xs : List (List PV)) (sh : Bool) (h : H[i]? = some (.buf s t xs sh)) (hs : any = true ∨ sh = true) : Wk H any (.own i xs.length) (.sl s xs)
inductive Wks (H : List Blk) (any : Bool) : List PV → List PV → Prop where
  | nil : Wks H any [] []
  | cons (p q : PV) (ps qs : List PV) (h : Wk H any p q) (hs : Wks H any ps qs) : Wks H any (p :: ps) (q :: qs)

theorem rows_of_flat {S : Nat → Nat → Prop} {w : World} {g s : Nat} : ∀ (xs : List (List PV)) (vals : List Value) (o : Nat), (∀ x ∈ xs, x.length = s) → VRs S [] w xs.flatten vals →
    (∀ j u, vals[j]? = some u → w.cell? ⟨g, o + j, none⟩ = some u) → VRows S [] w g s o xs
  | [], _, _, _, _, _ => by simp only [VRows]
  | x :: xs, vals, o, hl, h, hc => by
    simp only [VRows]
    have hx := hl x (by simp)
    simp only [List.flatten_cons] at h
    have h1 := VRs.take x.length _ _ h
    have h2 := VRs.drop x.length _ _ h
    rw [List.take_left] at h1
    rw [List.drop_left] at h2
    refine ⟨⟨hx, VRow.mk x _ o h1 fun j u hj => hc j u ?_⟩, ?_⟩
    · rw [List.getElem?_take] at hj
      split at hj
      · exact hj
      · cases hj
    · refine rows_of_flat xs _ (o + s) (fun y hy => hl y (by simp [hy])) h2 fun j u hj => ?_
      rw [List.getElem?_drop] at hj
      have := hc (x.length + j) u hj
      rwa [hx, ← Nat.add_assoc] at this

theorem flat_length {s : Nat} : ∀ (xs : List (List PV)), (∀ x ∈ xs, x.length = s) → xs.flatten.length = xs.length * s
  | [], _ => by simp
  | x :: xs, h => by
    simp only [List.flatten_cons, List.length_append, List.length_cons, Nat.succ_mul]
    rw [flat_length xs fun y hy => h y (by simp [hy]), h x (by simp)]
    omega

section
variable {P : Program} {G : Glob} {c : Ctx} {β : List Bnd} {st : St} {H : List Blk} {a : Act} {w : World} {n0 nt : Nat} {o : Oper}

/-- The slice of a buffer, read in a world in which its block is not written. -/
theorem own_sl {S' : Nat → Nat → Prop} {w : World} {β β' : List Bnd} {base i s t n : Nat} {e : Bnd} {xs : List (List PV)} {sh : Bool} {u : Value} (he : β[i]? = some e)
    (hb : BlkR S' β w base i e (.buf s t xs sh)) {S : Nat → Nat → Prop} (hn : n = xs.length) (h : VR S β w (.own i n) u) (hS : ∀ g, e.v.ownBlock = some g → S' g (xs.length * s)) : VR S' β' w (.sl s xs) u := by
  obtain ⟨h1, h2, h3, vals, h4, h5⟩ := hb
  simp only [VR] at h
  obtain ⟨_, e', g1, g2, g3⟩ := h
  rw [he] at g1; cases g1
  have hu := g3 (by omega)
  subst hu
  obtain ⟨h6, h7⟩ := h4
  simp only [VR]
  rcases h7 with ⟨h7, h8⟩ | ⟨g, cap, cur, e1, e2, e3, e4, e5, e6, e7⟩
  · have : xs = [] := List.eq_nil_of_length_eq_zero h8
    subst this
    exact ⟨none, 0, by rw [h7]; rfl, Nat.le_refl _, .inl rfl⟩
  · refine ⟨some ⟨g, 0, none⟩, cap, e1, e4, .inr ⟨g, 0, rfl, by simpa using hS g (by rw [e1]; rfl), ?_⟩⟩
    refine rows_of_flat xs vals 0 h3 h5 fun j u hj => ?_
    rw [cell_of_row w g (0 + j) cur t (0, 0) e3]
    rw [← e7, List.getElem?_take] at hj
    split at hj
    · simpa using hj
    · cases hj

theorem RelB.wk (h : RelB G c β st H a w) {p q : PV} {u : Value} (hp : VR (stab c β H w) β w p u) (hw : Wk H false p q) : VR (stab c β H w) β w q u := by
  cases hw with
  | refl => exact hp
  | nil s => simp only [VR] at hp ⊢; subst hp; exact ⟨none, 0, rfl, Nat.le_refl _, .inl trivial⟩
  | own i s t xs sh hb hs =>
    have hp' := hp
    simp only [VR] at hp'
    obtain ⟨_, e, g1, g2, g3⟩ := hp'
    refine own_sl g1 (h.blk i e _ g1 hb) rfl hp fun g hg => ?_
    have hlt := at_lt (h.blk i e _ g1 hb) (b := g) hg
    refine .inr ⟨?_, hlt, fun j f k k1 k2 => ?_⟩
    · by_cases hi : i < c.β0.length
      · obtain ⟨cs, hc⟩ := h.cel i hi
        rw [hb] at hc; cases hc
      · exact (h.loc i e _ g (by omega) g1 hb hg).1
    · by_cases hj : j = i
      · subst hj
        rw [g1] at k1; cases k1
        rw [hb] at k2; cases k2
        simp only [Blk.free]
        intro _
        rcases hs with hs | hs
        · cases hs
        · exact ⟨hs, Nat.le_refl _⟩
      · cases k with
        | cells cs => exact fun hbb => h.inj j i f e _ _ g hj k1 k2 g1 hb (by simp [Blk.at, hbb]) hg
        | buf s' t' xs' sh' => exact fun hbb => absurd hg fun hg' => h.inj j i f e _ _ g hj k1 k2 g1 hb hbb hg'

theorem RelB.wks (h : RelB G c β st H a w) {ps qs : List PV} (hw : Wks H false ps qs) : ∀ us : List Value, VRs (stab c β H w) β w ps us → VRs (stab c β H w) β w qs us := by
  induction hw with
  | nil => exact fun us hp => hp
  | cons p q ps qs h1 h2 ih =>
    intro us hp
    cases us with
    | nil => simp only [VRs] at hp
    | cons u us =>
      simp only [VRs] at hp ⊢
      exact ⟨h.wk hp.1 h1, ih us hp.2⟩

theorem stab_cells (h : RelB G c β st H a w) {b hi : Nat} (hs : stab c β H w b hi) {i : Nat} {e : Bnd} {cs : List PV} (he : β[i]? = some e) (hk : H[i]? = some (.cells cs)) : e.b ≠ b := by
  rcases hs with hs | ⟨h1, _, h3⟩
  · obtain ⟨h4, h5⟩ := h.ok.old b hi hs
    by_cases hl : i < c.β0.length
    · obtain ⟨γ, hγ⟩ := h.pre
      have : e ∈ c.β0 := by
        rw [hγ, List.getElem?_append_left hl] at he
        exact List.mem_of_getElem? he
      exact h5 e this
    · have := h.loc i e _ e.b (by omega) he hk rfl
      omega
  · exact h3 i e _ he hk
theorem stab_lt (h : RelB G c β st H a w) {b hi : Nat} (hs : stab c β H w b hi) : b < w.heap.size := by
  rcases hs with hs | ⟨_, h2, _⟩
  · have := (h.ok.old b hi hs).1; have := h.frm.size; omega
  · exact h2

/-- The blocks behind a call. -/
def setAll : List Nat → List Blk → List Blk → List Blk
  | i :: σ, k :: ks, H => setAll σ ks (H.set i k)
  | _, ks, H => H ++ ks

theorem setAll_get : ∀ (σ : List Nat) (ks H : List Blk), σ.length ≤ ks.length → σ.Nodup → (∀ i ∈ σ, i < H.length) → ∀ i,
    (∀ (j : Nat), σ[j]? = some i → (setAll σ ks H)[i]? = ks[j]?) ∧ (i < H.length → i ∉ σ → (setAll σ ks H)[i]? = H[i]?) ∧ (∀ j, i = H.length + j → (setAll σ ks H)[i]? = ks[σ.length + j]?)
  | [], ks, H, _, _, _, i => ⟨fun j hj => by simp at hj, fun hi _ => by simp [setAll, List.getElem?_append_left hi], fun j hj => by subst hj; simp only [setAll, List.length_nil, Nat.zero_add]; rw [List.getElem?_append_right (by omega)]; congr 1; omega⟩
  | s :: σ, [], H, hl, _, _, _ => by simp at hl
  | s :: σ, k :: ks, H, hl, hn, hlt, i => by
    have hn' := List.nodup_cons.1 hn
    have ih := setAll_get σ ks (H.set s k) (by simpa using hl) hn'.2 (fun j hj => by simpa using hlt j (by simp [hj])) i
    refine ⟨fun j hj => ?_, fun hi hni => ?_, fun j hj => ?_⟩
    · cases j with
      | zero =>
        simp at hj; subst hj
        simp only [setAll]
        rw [ih.2.1 (by simpa using hlt s (by simp)) hn'.1, List.getElem?_set_self (hlt s (by simp))]
        simp
      | succ j => simp only [setAll]; rw [ih.1 j (by simpa using hj)]; simp
    · simp only [setAll]
      have hne : i ≠ s := fun e => hni (by simp [e])
      rw [ih.2.1 (by simpa using hi) (fun hm => hni (by simp [hm])), List.getElem?_set_ne (Ne.symm hne)]
    · simp only [setAll]
      rw [ih.2.2 j (by simpa using hj)]
      simp [Nat.add_right_comm]
theorem setAll_length : ∀ (σ : List Nat) (ks H : List Blk), σ.length ≤ ks.length → (setAll σ ks H).length = H.length + (ks.length - σ.length)
  | [], ks, H, _ => by simp [setAll]
  | s :: σ, [], H, hl => by simp at hl
  | s :: σ, k :: ks, H, hl => by
    simp only [setAll]
    rw [setAll_length σ ks (H.set s k) (by simpa using hl)]
    simp
end
end Go.AM

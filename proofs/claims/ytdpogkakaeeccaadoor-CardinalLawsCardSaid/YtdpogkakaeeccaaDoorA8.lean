/- A promise out of the walk of a body. No condition. -/
import Derived.Test.YtdpogkakaeeccaaDoorA7
namespace Go.AM
section
variable {P : Program} {G : Glob} {c : Ctx} {β : List Bnd} {st : St} {H : List Blk} {a : Act} {w : World} {n0 nt : Nat} {o : Oper}

/-- The results of a function, read in a state at its end. -/
def aresL (P : Program) (st : St) (H : List Blk) : List ResultVar → Option (List PV)
  | [] => some []
  | .tmp t :: r => match st.get t, aresL P st H r with
    | some p, some ps => some (p :: ps)
    | _, _ => none
  | .cell ad t :: r => match st.get ad with
    | some (.ptr i off) => match H[i]? with
      | some (.cells cs) => match ldPV P t (cs.drop off), aresL P st H r with
        | some p, some ps => some (p :: ps)
        | _, _ => none
      | _ => none
    | _ => none
def ares (P : Program) (st : St) (H : List Blk) (rs : Array ResultVar) : Option PV :=
  match aresL P st H rs.toList with
  | some [p] => some p
  | some ps => some (.tup ps)
  | none => none

def resOne (tmps : Array Value) : ResultVar → Sem Value
  | .tmp t => pure (tmps.getD t undef)
  | .cell ad t => do loadVar t (← asAddr (tmps.getD ad undef))
theorem results_eq (fn : Func) (tmps : Array Value) : results fn tmps = (do
    let vs ← fn.results.mapM (resOne tmps)
    pure (if h : vs.size = 1 then vs[0] else .tuple vs)) := rfl

theorem run_resL (h : RelB G c β st H a w) : ∀ (rs : List ResultVar) (ps : List PV), aresL P st H rs = some ps →
    ∃ us, (rs.mapM (resOne a.tmps)).run P w = .ok us w ∧ VRs (stab c β H w) β w ps us
  | [], ps, hp => by
    simp only [aresL, Option.some.injEq] at hp
    subst hp
    exact ⟨[], by simp, by simp only [VRs]⟩
  | .tmp t :: rs, ps, hp => by
    simp only [aresL] at hp
    split at hp
    · rename_i p qs h1 h2
      simp only [Option.some.injEq] at hp
      subst hp
      obtain ⟨us, h3, h4⟩ := run_resL h rs qs h2
      refine ⟨a.tmps.getD t undef :: us, by simp only [List.mapM_cons, resOne, pure_bind, Sem.run_bind, h3, Result.andThen_ok, Sem.run_pure], ?_⟩
      simp only [VRs]
      exact ⟨(h.slots (t, p) (lookup_mem st t p h1)).2, h4⟩
    · cases hp
  | .cell ad t :: rs, ps, hp => by
    simp only [aresL] at hp
    split at hp
    · rename_i i off h1
      split at hp
      · rename_i cs h2
        split at hp
        · rename_i p qs h5 h6
          simp only [Option.some.injEq] at hp
          subst hp
          obtain ⟨us, h3, h4⟩ := run_resL h rs qs h6
          have h7 := (h.slots (ad, _) (lookup_mem st ad _ h1)).2
          simp only [VR] at h7
          obtain ⟨e, h8, h9⟩ := h7
          obtain ⟨_, vs, ty, g1, g2⟩ := h.blk i e _ h8 h2
          obtain ⟨v, g3, g4⟩ := run_ld (P := P) (drop_row (off := off) g1 g2) h5
          refine ⟨v :: us, ?_, by simp only [VRs]; exact ⟨g4, h4⟩⟩
          simp only [List.mapM_cons, resOne, h9, asAddr, pure_bind, Sem.run_bind, g3, Result.andThen_ok, h3, Sem.run_pure]
        · cases hp
      · cases hp
    · cases hp

theorem run_res (h : RelB G c β st H a w) {fn : Func} {p : PV} (hp : ares P st H fn.results = some p) : ∃ v, (results fn a.tmps).run P w = .ok v w ∧ VR (stab c β H w) β w p v := by
  unfold ares at hp
  have key : ∀ ps, aresL P st H fn.results.toList = some ps → ∃ us, (results fn a.tmps).run P w = .ok (if h : us.toArray.size = 1 then us.toArray[0] else .tuple us.toArray) w ∧ VRs (stab c β H w) β w ps us := by
    intro ps hps
    obtain ⟨us, h1, h2⟩ := run_resL h fn.results.toList ps hps
    refine ⟨us, ?_, h2⟩
    rw [results_eq, Array.mapM_eq_mapM_toList]
    simp only [bind_pure_comp, Functor.map_map, Sem.run_map, h1, Result.andThen_ok]
  split at hp
  · rename_i q hq
    simp only [Option.some.injEq] at hp
    subst hp
    obtain ⟨us, h1, h2⟩ := key _ hq
    cases us with
    | nil => simp only [VRs] at h2
    | cons u us =>
      simp only [VRs] at h2
      cases us with
      | nil => exact ⟨u, by simpa using h1, h2.1⟩
      | cons _ _ => simp only [VRs] at h2; exact h2.2.elim
  · rename_i ps hne hps
    simp only [Option.some.injEq] at hp
    subst hp
    obtain ⟨us, h1, h2⟩ := key _ hps
    have hl := VRs.length _ _ h2
    refine ⟨.tuple us.toArray, ?_, by simp only [VR]; exact ⟨us.toArray, rfl, by simpa using h2⟩⟩
    have : ¬ us.length = 1 := fun e => by
      rw [hl] at e
      obtain ⟨q, hq⟩ := List.length_eq_one_iff.1 e
      exact hne q hq
    simpa [this] using h1
  · cases hp

/-- The arguments in their slots. -/
def numb : Nat → List PV → St
  | _, [] => []
  | i, p :: ps => (i, p) :: numb (i + 1) ps

theorem numb_slots {S : Nat → Nat → Prop} {β : List Bnd} {w : World} : ∀ (ps : List PV) (us : List Value) (i : Nat), VRs S β w ps us → ∀ x ∈ numb i ps, ∃ j u, x.1 = i + j ∧ us[j]? = some u ∧ VR S β w x.2 u
  | [], _, _, _, x, hx => by simp [numb] at hx
  | _ :: _, [], _, h, _, _ => by simp only [VRs] at h
  | p :: ps, u :: us, i, h, x, hx => by
    simp only [VRs] at h
    simp only [numb, List.mem_cons] at hx
    rcases hx with rfl | hx
    · exact ⟨0, u, rfl, rfl, h.1⟩
    · obtain ⟨j, v, h1, h2, h3⟩ := numb_slots ps us (i + 1) h.2 x hx
      exact ⟨j + 1, v, by omega, by simpa using h2, h3⟩

/-- The result of a function may be read as less. -/
def WkR (K : List Blk) (p q : PV) : Prop := Wk K true p q ∨ ∃ ps qs, p = .tup ps ∧ q = .tup qs ∧ Wks K true ps qs

def FnQ (P : Program) (rs : Array ResultVar) (n0 : Nat) (R : PV → List Blk → Prop) (e : Exit) (st : St) (K : List Blk) : Prop :=
  (e = .normal ∨ e = .ret) ∧ ∃ p q m, ares P st K rs = some p ∧ WkR K p q ∧ n0 ≤ m ∧ m ≤ K.length ∧ q.ids (fun j => decide (j < m)) = true ∧ (K.take m).all Blk.isCells = true ∧ R q (K.take m)

theorem ACall.of_AWP {f : FuncId} {fn : Func} {code : Code} {args : List PV} {R : PV → List Blk → Prop} (hfn : P.funcs[f]? = some fn) (hb : fn.body = some code) (hnt : args.length ≤ fn.ntmps)
    (h : AWP P G H.length fn.ntmps code (FnQ P fn.results H.length R) (numb 0 args) H) : ACall P G f args H R := by
  intro S0 β0 w cargs hin hv
  refine calls_of_wp hfn hb ?_
  let c : Ctx := ⟨w, S0, β0, fn.ntmps, []⟩
  have hstab : ∀ b hi, stab c β0 H w b hi → S0 b hi := fun b hi hs => by
    rcases hs with hs | ⟨h1, h2, _⟩
    · exact hs
    · exact absurd h2 (by simp only [c] at h1; omega)
  have hx : Ext S0 w (stab c β0 H w) w := ⟨fun _ _ hs => .inl hs, fun _ _ _ _ _ _ h => h⟩
  have hcl := VRs.length _ _ hv
  have hok : OkCtx G c := ⟨hin.ctx.old, hin.ctx.glob, hin.ctx.low, hin.ctx.down⟩
  have hrel : RelB G c β0 (numb 0 args) H { tmps := cargs ++ Array.replicate (fn.ntmps - cargs.size) undef, defers := [] } w := by
    refine ⟨hok, hin.len, ⟨[], by simp [c]⟩, fun i e k he hk => ?_, fun i j e f k l b hij he hk hf hl hb hb' => ?_, fun i e k b h0 he => ?_, fun i hi => ?_, fun x hx' => ?_, ?_, rfl, ⟨rfl, rfl, rfl, Nat.le_refl _, fun _ _ _ => rfl, fun _ vs _ h => ⟨vs, h⟩⟩, fun x hx => by cases hx⟩
    · obtain ⟨cs, rfl, h1, vs, t, h2, h3⟩ := hin.blk i e k he hk
      exact ⟨h1, vs, t, h2, VRs.ext_all hx (BExt.refl _ _) h3⟩
    · obtain ⟨cs, rfl, _⟩ := hin.blk i e k he hk
      obtain ⟨ds, rfl, _⟩ := hin.blk j f l hf hl
      simp only [Blk.at, Option.some.injEq] at hb hb'
      exact hin.inj i j e f hij he hf (by omega)
    · have := (List.getElem?_eq_some_iff.1 he).1
      simp only [c] at h0; omega
    · have hi' : i < H.length := by rw [← hin.len]; exact hi
      obtain ⟨cs, h1, _⟩ := hin.blk i β0[i] H[i] (by simp) (by simp [hi'])
      exact ⟨cs, by simp [hi', h1]⟩
    · obtain ⟨j, u, h1, h2, h3⟩ := numb_slots args cargs.toList 0 hv x hx'
      have hj : j < cargs.size := by have := (List.getElem?_eq_some_iff.1 h2).1; simpa using this
      simp only [Nat.zero_add] at h1
      refine ⟨by simp only [c]; simp at hcl; omega, ?_⟩
      have : (cargs ++ Array.replicate (fn.ntmps - cargs.size) undef).getD x.1 undef = u := by
        rw [Array.getD_eq_getD_getElem?, h1, Array.getElem?_append_left hj]
        simp at h2; simp [h2]
      rw [this]
      exact VR.ext_all hx (BExt.refl _ _) h3
    · simp only [c]; simp at hcl ⊢; omega
  refine wp_mono (h c _ w β0 ⟨Nat.le_of_eq hin.len, fun x hx => by cases hx⟩ rfl hrel) fun e a' w' ⟨st', K, β, hq, hr⟩ => ?_
  obtain ⟨he, p, q, m, h1, h2, h3, h4, h5, h6, h7⟩ := hq
  obtain ⟨v, g1, g2⟩ := run_res (P := P) hr h1
  have main : ∃ p H' γ, R p H' ∧ OutOk S0 β0 γ H' w w' ∧ VR (stab1 S0 γ w w') (β0 ++ γ) w' p v := by
    obtain ⟨γ0, hγ0⟩ := hr.pre
    have hβ0 : c.β0 = β0 := rfl
    rw [hβ0] at hγ0
    have hlen := hr.len
    have hβ0l := hin.len
    let γ := γ0.take (m - H.length)
    have htake : β.take m = β0 ++ γ := by
      rw [hγ0, List.take_append, List.take_of_length_le (by omega), hβ0l]
    have hget : ∀ (i : Nat) e, (β0 ++ γ)[i]? = some e → i < m ∧ β[i]? = some e := fun i e he => by
      rw [← htake, List.getElem?_take] at he
      split at he
      · exact ⟨by assumption, he⟩
      · cases he
    have hKget : ∀ (i : Nat) k, (K.take m)[i]? = some k → K[i]? = some k ∧ ∃ cs, k = .cells cs := fun i k hk => by
      have hm := List.all_eq_true.1 h6 k (List.mem_of_getElem? hk)
      rw [List.getElem?_take] at hk
      split at hk
      · refine ⟨hk, ?_⟩
        cases k with
        | cells cs => exact ⟨cs, rfl⟩
        | buf s t xs sh => simp [Blk.isCells] at hm
      · cases hk
    have hKcells : ∀ i, i < m → ∃ cs, K[i]? = some (.cells cs) := fun i hi => by
      have hiK : i < K.length := by omega
      have : (K.take m)[i]? = some K[i] := by rw [List.getElem?_take, if_pos hi]; simp [hiK]
      obtain ⟨h8, cs, h9⟩ := hKget i _ this
      exact ⟨cs, by rw [h8, h9]⟩
    have hγmem : ∀ e ∈ γ, ∃ i, H.length ≤ i ∧ i < m ∧ β[i]? = some e := fun e he => by
      obtain ⟨j, hj⟩ := List.mem_iff_getElem?.1 he
      have : (β0 ++ γ)[β0.length + j]? = some e := by rw [List.getElem?_append_right (by omega)]; simpa using hj
      obtain ⟨k1, k2⟩ := hget _ e this
      exact ⟨β0.length + j, by omega, k1, k2⟩
    have hst : ∀ b hi, stab c β K w' b hi → stab1 S0 γ w w' b hi := fun b hi hs => by
      rcases hs with hs | ⟨k1, k2, k3⟩
      · exact .inl hs
      · refine .inr ⟨k1, k2, fun e he => ?_⟩
        obtain ⟨i, _, hi, hbi⟩ := hγmem e he
        obtain ⟨cs, hc⟩ := hKcells i hi
        exact k3 i e _ hbi hc
    have hx' : Ext (stab c β K w') w' (stab1 S0 γ w w') w' := ⟨hst, fun _ _ _ _ _ _ h => h⟩
    have hbx : ∀ j, j ≤ m → BExt (fun i => decide (i < j)) β (β0 ++ γ) := fun j hj i e hi he => by
      have hi' : i < j := by simpa using hi
      refine ⟨e, ?_, rfl, rfl, Nat.le_refl _, fun _ => rfl⟩
      rw [← htake, List.getElem?_take, if_pos (by omega)]
      exact he
    have hown : ∀ i s t xs sh u, K[i]? = some (.buf s t xs sh) → VR (stab c β K w') β w' (.own i xs.length) u → VR (stab1 S0 γ w w') (β0 ++ γ) w' (.sl s xs) u := by
      intro i s t xs sh u hb hu
      have hu' := hu
      simp only [VR] at hu'
      obtain ⟨_, e, k1, _, _⟩ := hu'
      refine own_sl k1 (BlkR.keep hx' (BExt.refl _ _) (fun _ _ => rfl) (hr.blk i e _ k1 hb)) rfl hu fun g hg => ?_
      have hi : H.length ≤ i := by
        rcases Nat.lt_or_ge i H.length with hlt | hge
        · obtain ⟨cs, hc⟩ := hr.cel i (by rw [hβ0, hβ0l]; exact hlt)
          rw [hb] at hc; cases hc
        · exact hge
      have hl := hr.loc i e _ g (by rw [hβ0, hβ0l]; exact hi) k1 hb hg
      refine .inr ⟨hl.1, hl.2, fun f hf hfg => ?_⟩
      obtain ⟨j, _, hj, hfj⟩ := hγmem f hf
      obtain ⟨cs, hc⟩ := hKcells j hj
      have hij : j ≠ i := fun e => by subst e; rw [hb] at hc; cases hc
      exact hr.inj j i f e _ _ g hij hfj hc k1 hb (by simp [Blk.at, hfg]) hg
    have hwk : ∀ p q u, Wk K true p q → q.ids (fun j => decide (j < m)) = true → VR (stab c β K w') β w' p u → VR (stab1 S0 γ w w') (β0 ++ γ) w' q u := by
      intro p q u hw hq hp
      cases hw with
      | refl => exact VR.ext hx' (hbx m (Nat.le_refl _)) _ _ hq hp
      | nil s => simp only [VR] at hp ⊢; subst hp; exact ⟨none, 0, rfl, Nat.le_refl _, .inl trivial⟩
      | own i s t xs sh hb _ => exact hown i s t xs sh u hb hp
    have hwks : ∀ ps qs, Wks K true ps qs → ∀ us, PV.idss (fun j => decide (j < m)) qs = true → VRs (stab c β K w') β w' ps us → VRs (stab1 S0 γ w w') (β0 ++ γ) w' qs us := by
      intro ps qs hw
      induction hw with
      | nil => intro us _ h8; cases us <;> simp only [VRs] at h8 ⊢
      | cons p q ps qs k1 k2 ih =>
        intro us hq h8
        cases us with
        | nil => simp only [VRs] at h8
        | cons u us =>
          simp only [VRs] at h8 ⊢
          simp only [PV.idss, Bool.and_eq_true] at hq
          exact ⟨hwk p q u k1 hq.1 h8.1, ih us hq.2 h8.2⟩
    refine ⟨q, K.take m, γ, h7, ⟨?_, fun i e k he hk => ?_, fun i j e f hij he hf hb => ?_, fun e he => ?_, ⟨hr.frm.os, hr.frm.tape, hr.frm.output, hr.frm.size, hr.frm.block, hr.frm.typ⟩⟩, ?_⟩
    · rw [← htake, List.length_take, List.length_take]; omega
    · obtain ⟨hi, he'⟩ := hget i e he
      obtain ⟨hk', cs, rfl⟩ := hKget i k hk
      obtain ⟨k1, vs, t, k2, k3⟩ := hr.blk i e _ he' hk'
      exact ⟨cs, rfl, k1, vs, t, k2, VRs.ext hx' (hbx i (by omega)) _ _ k1 k3⟩
    · obtain ⟨hi, he'⟩ := hget i e he
      obtain ⟨hj, hf'⟩ := hget j f hf
      obtain ⟨cs, hc⟩ := hKcells i hi
      obtain ⟨ds, hd⟩ := hKcells j hj
      exact hr.inj i j e f _ _ e.b hij he' hc hf' hd rfl (by simp [Blk.at, hb])
    · obtain ⟨i, hi0, hi, hei⟩ := hγmem e he
      obtain ⟨cs, hc⟩ := hKcells i hi
      exact hr.loc i e _ e.b (by rw [hβ0, hβ0l]; exact hi0) hei hc rfl
    · rcases h2 with h2 | ⟨ps, qs, rfl, rfl, h2⟩
      · exact hwk p q v h2 h5 g2
      · simp only [VR] at g2 ⊢
        obtain ⟨us, rfl, h8⟩ := g2
        exact ⟨us, rfl, hwks ps qs h2 us.toList (by simpa only [PV.ids] using h5) h8⟩
  obtain ⟨p', H', γ, k1, k2, k3⟩ := main
  rcases he with rfl | rfl
  all_goals exact ⟨hr.dfr, v, g1, v, p', H', γ, rfl, k1, k2, k3⟩

/-! ### Changes of the abstract state alone -/
/-- A buffer is shared: nobody writes its elements any more. -/
theorem RelB.share (h : RelB G c β st H a w) {i s t : Nat} {xs : List (List PV)} {sh : Bool} (hb : H[i]? = some (.buf s t xs sh)) : RelB G c β st (H.set i (.buf s t xs true)) a w := by
  have hil := (List.getElem?_eq_some_iff.1 hb).1
  have hget : ∀ (j : Nat) k, (H.set i (.buf s t xs true))[j]? = some k → (j ≠ i ∧ H[j]? = some k) ∨ (j = i ∧ k = .buf s t xs true) := fun j k hj => by
    by_cases hji : j = i
    · subst hji; rw [List.getElem?_set_self hil] at hj; exact .inr ⟨rfl, by simpa using hj.symm⟩
    · rw [List.getElem?_set_ne (Ne.symm hji)] at hj; exact .inl ⟨hji, hj⟩
  have hx : Ext (stab c β H w) w (stab c β (H.set i (.buf s t xs true)) w) w := by
    refine ⟨fun b hi hs => ?_, fun _ _ _ _ _ _ h => h⟩
    rcases hs with hs | ⟨h1, h2, h3⟩
    · exact .inl hs
    · refine .inr ⟨h1, h2, fun j e k he hk => ?_⟩
      rcases hget j k hk with ⟨_, hk⟩ | ⟨rfl, rfl⟩
      · exact h3 j e k he hk
      · have := h3 j e _ he hb
        exact fun hbb => ⟨rfl, (this hbb).2⟩
  have key : ∀ (j : Nat) f k b, (H.set i (.buf s t xs true))[j]? = some k → k.at f = some b → ∃ k', H[j]? = some k' ∧ k'.at f = some b := fun j f k b g2 g3 => by
    rcases hget j k g2 with ⟨_, g2⟩ | ⟨rfl, rfl⟩
    · exact ⟨k, g2, g3⟩
    · exact ⟨_, hb, g3⟩
  refine h.move hx (BExt.refl _ _) (by simp [h.len]) h.pre (fun j e k he hk => ?_) (fun j j' f f' k l b hij h1 h2 h3 h4 h5 h6 => ?_) (fun j f k b h0 h1 h2 h3 => ?_) (fun j hj => ?_) h.frm
  · rcases hget j k hk with ⟨_, hk⟩ | ⟨rfl, rfl⟩
    · exact BlkR.keep hx (BExt.refl _ _) (fun _ _ => rfl) (h.blk j e k he hk)
    · have h0 := h.blk j e _ he hb
      have h1 : BlkR (stab c β H w) β w c.w0.heap.size j e (.buf s t xs true) := h0
      exact BlkR.keep hx (BExt.refl _ _) (fun _ _ => rfl) h1
  · obtain ⟨k', g1, g2⟩ := key j f k b h2 h5
    obtain ⟨l', g3, g4⟩ := key j' f' l b h4 h6
    exact h.inj j j' f f' k' l' b hij h1 g1 h3 g3 g2 g4
  · obtain ⟨k', g1, g2⟩ := key j f k b h2 h3
    exact h.loc j f k' b h0 h1 g1 g2
  · obtain ⟨cs, hc⟩ := h.cel j hj
    have hne : j ≠ i := fun e => by subst e; rw [hb] at hc; cases hc
    exact ⟨cs, by rw [List.getElem?_set_ne (Ne.symm hne)]; exact hc⟩

/-- Blocks that are named no more. -/
theorem RelB.drop (h : RelB G c β st H a w) {m : Nat} (hm : c.β0.length ≤ m) (hg : ∀ x ∈ c.gh, x.1.ids (fun j => decide (j < m)) = true) {st' : St} (hs : ∀ x ∈ st', x ∈ st ∧ x.2.ids (fun j => decide (j < m)) = true) : RelB G c (β.take m) st' (H.take m) a w := by
  have hget : ∀ {α : Type} (l : List α) (i : Nat) x, (l.take m)[i]? = some x → i < m ∧ l[i]? = some x := fun l i x hx => by
    rw [List.getElem?_take] at hx
    split at hx
    · exact ⟨by assumption, hx⟩
    · cases hx
  have hx : Ext (stab c β H w) w (stab c (β.take m) (H.take m) w) w := by
    refine ⟨fun b hi hs => ?_, fun _ _ _ _ _ _ h => h⟩
    rcases hs with hs | ⟨h1, h2, h3⟩
    · exact .inl hs
    · exact .inr ⟨h1, h2, fun j e k he hk => h3 j e k (hget _ _ _ he).2 (hget _ _ _ hk).2⟩
  have hbx : ∀ j, j ≤ m → BExt (fun i => decide (i < j)) β (β.take m) := fun j hj i e hi he => by
    have hi' : i < j := by simpa using hi
    refine ⟨e, ?_, rfl, rfl, Nat.le_refl _, fun _ => rfl⟩
    rw [List.getElem?_take, if_pos (by omega)]
    exact he
  refine ⟨h.ok, by simp [h.len], ?_, fun i e k he hk => ?_, fun i j e f k l b hij he hk hf hl hb hb' => ?_, fun i e k b h0 he hk hb => ?_, fun i hi => ?_, fun x hx' => ?_, h.nt, h.dfr, h.frm, fun x hx' => VR.ext hx (hbx m (Nat.le_refl _)) _ _ (hg x hx') (h.gh x hx')⟩
  · obtain ⟨γ, hγ⟩ := h.pre
    exact ⟨γ.take (m - c.β0.length), by rw [hγ, List.take_append, List.take_of_length_le hm]⟩
  · obtain ⟨hi, he'⟩ := hget _ _ _ he
    obtain ⟨_, hk'⟩ := hget _ _ _ hk
    have h1 := h.blk i e k he' hk'
    cases k with
    | cells cs =>
      obtain ⟨k1, vs, t, k2, k3⟩ := h1
      exact ⟨k1, vs, t, k2, VRs.ext hx (hbx i (by omega)) _ _ k1 k3⟩
    | buf s t xs sh =>
      have h2 := BlkR.keep (k := .buf s t xs sh) hx (BExt.refl _ _) (fun _ _ => rfl) (β := β) h1
      exact h2
  · exact h.inj i j e f k l b hij (hget _ _ _ he).2 (hget _ _ _ hk).2 (hget _ _ _ hf).2 (hget _ _ _ hl).2 hb hb'
  · exact h.loc i e k b h0 (hget _ _ _ he).2 (hget _ _ _ hk).2 hb
  · obtain ⟨cs, hc⟩ := h.cel i hi
    exact ⟨cs, by rw [List.getElem?_take, if_pos (by omega)]; exact hc⟩
  · obtain ⟨h1, h2⟩ := hs x hx'
    exact ⟨(h.slots x h1).1, VR.ext hx (hbx m (Nat.le_refl _)) _ _ h2 (h.slots x h1).2⟩

/-- A new buffer, empty, whose slice is nil. -/
theorem RelB.own (h : RelB G c β st H a w) (s t : Nat) : RelB G c (β ++ [⟨0, .slice none 0 0, 0, s⟩]) st (H ++ [.buf s t [] false]) a w ∧
    Ext (stab c β H w) w (stab c (β ++ [⟨0, .slice none 0 0, 0, s⟩]) (H ++ [.buf s t [] false]) w) w := by
  have both : ∀ {i : Nat} {e : Bnd} {k : Blk}, (β ++ [(⟨0, .slice none 0 0, 0, s⟩ : Bnd)])[i]? = some e → (H ++ [Blk.buf s t [] false])[i]? = some k →
      (β[i]? = some e ∧ H[i]? = some k) ∨ (i = H.length ∧ e = ⟨0, .slice none 0 0, 0, s⟩ ∧ k = .buf s t [] false) := by
    intro i e k g1 g2
    rcases get_snoc g1 with ⟨g1, l1⟩ | ⟨l1, rfl⟩
    · rcases get_snoc g2 with ⟨g2, _⟩ | ⟨g2, _⟩
      · exact .inl ⟨g1, g2⟩
      · have := h.len; omega
    · rcases get_snoc g2 with ⟨_, g3⟩ | ⟨g3, g4⟩
      · have := h.len; omega
      · exact .inr ⟨g3, rfl, g4⟩
  have hx : Ext (stab c β H w) w (stab c (β ++ [⟨0, .slice none 0 0, 0, s⟩]) (H ++ [.buf s t [] false]) w) w := by
    refine ⟨fun b hi hs => ?_, fun _ _ _ _ _ _ h => h⟩
    rcases hs with hs | ⟨h1, h2, h3⟩
    · exact .inl hs
    · refine .inr ⟨h1, h2, fun i e k he hk => ?_⟩
      rcases both he hk with ⟨g1, g2⟩ | ⟨rfl, rfl, rfl⟩
      · exact h3 i e k g1 g2
      · intro hb; simp [Value.ownBlock] at hb
  refine ⟨h.move hx (BExt.app _ _) (by simp [h.len]) ?_ (fun i e k he hk => ?_) (fun i j e f k l b hij he hk hf hl hb hb' => ?_) (fun i e k b h0 he hk hb => ?_) (fun i hi => ?_) h.frm, hx⟩
  · obtain ⟨γ, hγ⟩ := h.pre
    exact ⟨γ ++ [⟨0, .slice none 0 0, 0, s⟩], by rw [hγ, List.append_assoc]⟩
  · rcases both he hk with ⟨g1, g2⟩ | ⟨rfl, rfl, rfl⟩
    · exact BlkR.keep hx (BExt.app _ _) (fun _ _ => rfl) (h.blk i e k g1 g2)
    · exact ⟨rfl, rfl, by simp, [], World.ownsRow_nil _ _ _ _, by simp only [List.flatten_nil, VRs]⟩
  · rcases both he hk with ⟨g1, g2⟩ | ⟨rfl, rfl, rfl⟩
    · rcases both hf hl with ⟨g3, g4⟩ | ⟨rfl, rfl, rfl⟩
      · exact h.inj i j e f k l b hij g1 g2 g3 g4 hb hb'
      · simp [Blk.at, Value.ownBlock] at hb'
    · simp [Blk.at, Value.ownBlock] at hb
  · rcases both he hk with ⟨g1, g2⟩ | ⟨rfl, rfl, rfl⟩
    · exact h.loc i e k b h0 g1 g2 hb
    · simp [Blk.at, Value.ownBlock] at hb
  · obtain ⟨cs, hc⟩ := h.cel i hi
    exact ⟨cs, by rw [List.getElem?_append_left (List.getElem?_eq_some_iff.1 hc).1]; exact hc⟩
end
end Go.AM

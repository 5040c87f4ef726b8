/- Still more operations: structs and slices put together, parts of slices, closures, equality of structs and arrays; changes of the abstract state alone. No condition. -/
import Derived.Test.YtdpogkakaeeccaaDoorA10
import Derived.Laws.StructEq
import Derived.Laws.Tables
namespace Go.AM
section
variable {P : Program} {G : Glob} {c : Ctx} {β : List Bnd} {st : St} {H : List Blk} {a : Act} {w : World} {n0 nt : Nat} {o : Oper}

def opds (G : Glob) (st : St) : List (Nat × Operand) → Option (List (Nat × PV))
  | [] => some []
  | (i, x) :: r => match opd G st x, opds G st r with
    | some p, some ps => some ((i, p) :: ps)
    | _, _ => none
theorem opds_vr (h : RelB G c β st H a w) : ∀ (parts : List (Nat × Operand)) (ps : List (Nat × PV)), opds G st parts = some ps →
    ps.map (·.1) = (parts.map fun x => (x.1, a.eval x.2)).map (·.1) ∧ VRs (stab c β H w) β w (ps.map (·.2)) ((parts.map fun x => (x.1, a.eval x.2)).map (·.2))
  | [], ps, hp => by simp only [opds, Option.some.injEq] at hp; subst hp; simp [VRs]
  | (i, x) :: r, ps, hp => by
    simp only [opds] at hp
    split at hp
    · rename_i p qs h1 h2
      simp only [Option.some.injEq] at hp
      subst hp
      obtain ⟨h3, h4⟩ := opds_vr h r qs h2
      simp only [List.map_cons, VRs, List.cons.injEq, true_and]
      exact ⟨h3, h.opd h1, h4⟩
    · cases hp

/-- A struct or an array out of its parts. -/
def buildPV (P : Program) (t : TypeId) (ps : List (Nat × PV)) : Option PV :=
  match P.info? t with
  | none => none
  | some ti => match ti.zero with
    | none => none
    | some z => match P.underlying t with
      | some (.struct fs) => match fs.toList.mapM (fun f => (P.info? f.type).map fun i => (f.offset, i.size)) with
        | some places => (fillPV (places[·]?) (z.cells.toList.map .sc) ps).map mkAgg
        | none => none
      | some (.array _ e) => if (P.info? e).isSome then (fillPV (fun i => some (i * P.cellsOf e, P.cellsOf e)) (z.cells.toList.map .sc) ps).map mkAgg else none
      | _ => none

theorem OpT.build {t : TypeId} {parts : Array (Nat × Operand)} {ps : List (Nat × PV)} {p : PV} (ho : o.op = .build t parts) (hp : opds G st parts.toList = some ps) (hb : buildPV P t ps = some p) : OpT P G n0 o st H p H :=
  OpT.value fun c a w β h0 hr => by
    obtain ⟨h1, h2⟩ := opds_vr hr _ _ hp
    unfold buildPV at hb
    cases hi : P.info? t with
    | none => simp [hi] at hb
    | some ti =>
      simp only [hi] at hb
      cases hz : ti.zero with
      | none => simp [hz] at hb
      | some z =>
        simp only [hz] at hb
        have hzr : VRs (stab c β H w) β w (z.cells.toList.map .sc) z.cells.toList := VRs.scs _
        cases hu : P.underlying t with
        | none => simp [hu] at hb
        | some d =>
          cases d <;> simp only [hu] at hb <;> try (cases hb; done)
          case struct fs =>
            cases hpl : fs.toList.mapM (fun f => (P.info? f.type).map fun i => (f.offset, i.size)) with
            | none => simp [hpl] at hb
            | some places =>
              simp only [hpl, Option.map_eq_some_iff] at hb
              obtain ⟨out, hf, rfl⟩ := hb
              obtain ⟨cs', h3, h4⟩ := fill_of _ ps _ _ out z.cells h1 h2 hzr hf
              have hrp := run_places (P := P) w fs.toList places hpl
              refine ⟨.agg cs', ?_, by have := VR.mkAgg h4; simpa using this⟩
              have hpl2 : (fs.mapM fun f => Functor.map (Prod.mk f.offset) (sizeOf f.type)).run P w = .ok places.toArray w := by
                rw [Array.mapM_eq_mapM_toList]
                simp only [Sem.run_map, hrp, Result.andThen_ok]
              have h3' : Instr.fill (fun x => places.toArray[x]?) z.cells (parts.toList.map fun x => (x.1, a.eval x.2)) = some cs' := by
                simpa using h3
              simp only [execOp, ho, Instr.build, bind_pure_comp, Sem.run_map, Sem.run_bind, zeroValue, typeInfo, run_program, Result.andThen_ok, hi, Sem.run_pure, hz, run_underlying hu]
              rw [hpl2]
              simp only [Result.andThen_ok, Array.toList_map]
              rw [h3']
              simp only [Sem.run_pure, Result.andThen_ok]
          case array n e =>
            split at hb
            · rename_i hei
              obtain ⟨ei, hei⟩ := Option.isSome_iff_exists.1 hei
              simp only [Option.map_eq_some_iff] at hb
              obtain ⟨out, hf, rfl⟩ := hb
              obtain ⟨cs', h3, h4⟩ := fill_of _ ps _ _ out z.cells h1 h2 hzr hf
              refine ⟨.agg cs', ?_, by have := VR.mkAgg h4; simpa using this⟩
              simp only [execOp, ho, Instr.build, bind_pure_comp, Sem.run_map, Sem.run_bind, zeroValue, typeInfo, run_program, Result.andThen_ok, hi, Sem.run_pure, hz, run_underlying hu, run_sizeOf w hei, Array.toList_map]
              rw [h3]
              simp only [Sem.run_pure, Result.andThen_ok]
            · cases hb

/-- Elements out of cells. -/
def rowsOf (s : Nat) : Nat → List PV → List (List PV)
  | 0, _ => []
  | n + 1, cs => cs.take s :: rowsOf s n (cs.drop s)
theorem rowsOf_spec (s : Nat) : ∀ (n : Nat) (cs : List PV), cs.length = n * s → (rowsOf s n cs).flatten = cs ∧ (rowsOf s n cs).length = n ∧ ∀ x ∈ rowsOf s n cs, x.length = s
  | 0, cs, h => by
    have : cs = [] := List.eq_nil_of_length_eq_zero (by simpa using h)
    subst this; simp [rowsOf]
  | n + 1, cs, h => by
    rw [Nat.succ_mul] at h
    obtain ⟨h1, h2, h3⟩ := rowsOf_spec s n (cs.drop s) (by rw [List.length_drop]; omega)
    simp only [rowsOf, List.flatten_cons, h1, List.take_append_drop, List.length_cons, h2, true_and]
    intro x hx
    rcases List.mem_cons.1 hx with rfl | hx
    · rw [List.length_take]; omega
    · exact h3 x hx

/-- The cells of a slice literal. -/
def litPV (P : Program) (t len : Nat) (ps : List (Nat × PV)) : Option (TypeId × List PV) :=
  match P.underlying t with
  | some (.slice e) => match P.info? e with
    | some ei => match ei.zero with
      | some z => if len * ei.size ≤ 16777216 && ei.size = P.cellsOf e && z.cells.size = ei.size && decide (0 < ei.size)
          then (fillPV (fun i => some (i * ei.size, ei.size)) (((Array.range (len * ei.size)).map (z.cells[· % z.cells.size]!)).toList.map .sc) ps).map fun out => (e, out) else none
      | none => none
    | none => none
  | _ => none
theorem fillPV_length (place : Nat → Option (Nat × Nat)) : ∀ (ps : List (Nat × PV)) (cells out : List PV), fillPV place cells ps = some out → out.length = cells.length
  | [], cells, out, h => by simp only [fillPV, Option.some.injEq] at h; rw [h]
  | (i, p) :: ps, cells, out, h => by
    simp only [fillPV] at h
    split at h
    · cases h
    · split at h
      · cases h
      · rename_i hne
        rw [fillPV_length place ps _ out h]
        simp only [List.length_append, List.length_take, List.length_drop]
        omega

theorem lit_run (hr : RelB G c β st H a w) {t len e : Nat} {parts : Array (Nat × Operand)} {ps : List (Nat × PV)} {out : List PV} (ho : o.op = .buildSlice t len parts) (hp : opds G st parts.toList = some ps) (hl : litPV P t len ps = some (e, out)) :
    ∃ cs, (execOp a.eval o).run P w = .ok (.value (.slice (some ⟨w.heap.size, 0, none⟩) len len)) (w.alloc (.cells cs e)) ∧ VRs (stab c β H w) β w out cs.toList ∧ out.length = len * P.cellsOf e ∧ 0 < P.cellsOf e ∧ len ≤ 16777216 := by
  obtain ⟨h1, h2⟩ := opds_vr hr _ _ hp
  unfold litPV at hl
  cases hu : P.underlying t with
  | none => simp [hu] at hl
  | some d =>
    cases d <;> simp only [hu] at hl <;> try (cases hl; done)
    case slice e' =>
      cases hi : P.info? e' with
      | none => simp [hi] at hl
      | some ei =>
        simp only [hi] at hl
        cases hz : ei.zero with
        | none => simp [hz] at hl
        | some z =>
          simp only [hz] at hl
          split at hl
          · rename_i hc
            simp only [Bool.and_eq_true, decide_eq_true_eq] at hc
            obtain ⟨⟨⟨k1, k2⟩, k3⟩, k4⟩ := hc
            simp only [Option.map_eq_some_iff, Prod.mk.injEq] at hl
            obtain ⟨out', hf, rfl, rfl⟩ := hl
            have hlen := fillPV_length _ _ _ _ hf
            obtain ⟨cs', h3, h4⟩ := fill_of _ ps _ _ out' ((Array.range (len * ei.size)).map (z.cells[· % z.cells.size]!)) h1 h2 (VRs.scs _) hf
            refine ⟨cs', ?_, h4, by rw [hlen, ← k2]; simp, by omega, ?_⟩
            · have hng : ¬ (len * ei.size > 2 ^ 24) := by omega
              by_cases hz0 : len * ei.size = 0
              · have hr0 : ∀ f : Nat → Value, Array.map f (Array.range 0) = #[] := fun f => Array.eq_empty_of_size_eq_zero (by simp)
                rw [hz0, hr0] at h3
                simp [hr0, execOp, ho, Instr.buildSlice, run_underlying hu, run_sizeOf w hi, ← k2, hz0, h3, newRow]
              · simp only [execOp, ho, Instr.buildSlice, bind_pure_comp, Sem.run_map, Sem.run_bind, run_underlying hu, Result.andThen_ok, run_sizeOf w hi, ← k2]
                rw [if_neg hng, if_neg hz0]
                simp only [Sem.run_bind, Sem.run_map, zeroValue, typeInfo, run_program, hi, hz, Result.andThen_ok, Sem.run_pure, Array.toList_map, h3]
                simp [newRow]
            · have : len * 1 ≤ len * ei.size := Nat.mul_le_mul_left len k4
              omega
          · cases hl

/-- A slice literal that nobody will write. -/
theorem OpT.lit {t len e : Nat} {parts : Array (Nat × Operand)} {ps : List (Nat × PV)} {out : List PV} (ho : o.op = .buildSlice t len parts) (hp : opds G st parts.toList = some ps) (hl : litPV P t len ps = some (e, out)) (hcl : PV.idss (fun _ => false) out = true)
    {p : PV} (hpe : p = .sl (P.cellsOf e) (rowsOf (P.cellsOf e) len out)) : OpT P G n0 o st H p H := by
  intro c a w β h0 hr
  obtain ⟨cs, h1, h2, h3, h4, h5⟩ := lit_run hr ho hp hl
  obtain ⟨g1, g2, g3⟩ := hr.anon (.cells cs e)
  obtain ⟨r1, r2, r3⟩ := rowsOf_spec (P.cellsOf e) len out h3
  simp only [wpv, h1]
  refine ⟨β, g1, ?_, BExt.refl _ _, g2⟩
  subst hpe
  simp only [VR]
  refine ⟨_, len, by rw [r2], by rw [r2]; exact Nat.le_refl _, .inr ⟨w.heap.size, 0, rfl, by rw [g3]; trivial, ?_⟩⟩
  refine rows_of_flat _ cs.toList 0 r3 (by rw [r1]; exact VRs.ext g2 (q := fun _ => false) (fun i e hq _ => by cases hq) _ _ hcl h2) fun j u hj => ?_
  rw [World.cell?_alloc_new]
  simpa using hj

/-- A buffer of the function's own over a new block. -/
theorem RelB.newbuf (h : RelB G c β st H a w) {s t n cap : Nat} {cs : Array Value} {xs : List (List PV)} (hcs : cs.size = cap * s) (hn : n ≤ cap) (hm : cap ≤ maxLen) (hxs : xs.length = n) (hls : ∀ x ∈ xs, x.length = s)
    (hv : VRs (stab c β H w) [] w xs.flatten (cs.toList.take (n * s))) :
    RelB G c (β ++ [⟨0, .slice (some ⟨w.heap.size, 0, none⟩) n cap, n, s⟩]) st (H ++ [.buf s t xs false]) a (w.alloc (.cells cs t)) ∧
    Ext (stab c β H w) w (stab c (β ++ [⟨0, .slice (some ⟨w.heap.size, 0, none⟩) n cap, n, s⟩]) (H ++ [.buf s t xs false]) (w.alloc (.cells cs t))) (w.alloc (.cells cs t)) := by
  have both : ∀ {i : Nat} {e : Bnd} {k : Blk}, (β ++ [(⟨0, .slice (some ⟨w.heap.size, 0, none⟩) n cap, n, s⟩ : Bnd)])[i]? = some e → (H ++ [Blk.buf s t xs false])[i]? = some k →
      (β[i]? = some e ∧ H[i]? = some k) ∨ (i = H.length ∧ e = ⟨0, .slice (some ⟨w.heap.size, 0, none⟩) n cap, n, s⟩ ∧ k = .buf s t xs false) := by
    intro i e k g1 g2
    rcases get_snoc g1 with ⟨g1, l1⟩ | ⟨l1, rfl⟩
    · rcases get_snoc g2 with ⟨g2, _⟩ | ⟨g2, _⟩
      · exact .inl ⟨g1, g2⟩
      · have := h.len; omega
    · rcases get_snoc g2 with ⟨_, g3⟩ | ⟨g3, g4⟩
      · have := h.len; omega
      · exact .inr ⟨g3, rfl, g4⟩
  have hx : Ext (stab c β H w) w (stab c (β ++ [⟨0, .slice (some ⟨w.heap.size, 0, none⟩) n cap, n, s⟩]) (H ++ [.buf s t xs false]) (w.alloc (.cells cs t))) (w.alloc (.cells cs t)) := by
    refine ⟨fun b hi hs => ?_, fun b hi o' v hs _ hv => ?_⟩
    · have hlt := stab_lt h hs
      rcases hs with hs | ⟨h1, h2, h3⟩
      · exact .inl hs
      · refine .inr ⟨h1, by simp; omega, fun i e k he hk => ?_⟩
        rcases both he hk with ⟨g1, g2⟩ | ⟨rfl, rfl, rfl⟩
        · exact h3 i e k g1 g2
        · intro hb; simp [Value.ownBlock] at hb; omega
    · rw [World.cell?_alloc_lt]; exact hv
      exact World.block_lt_of_cell? w _ hv
  refine ⟨h.move hx (BExt.app _ _) (by simp [h.len]) ?_ (fun i e k he hk => ?_) (fun i j e f k l b hij he hk hf hl hb hb' => ?_) (fun i e k b h0 he hk hb => ?_) (fun i hi => ?_) (h.frm.alloc _), hx⟩
  · obtain ⟨γ, hγ⟩ := h.pre
    exact ⟨γ ++ [⟨0, .slice (some ⟨w.heap.size, 0, none⟩) n cap, n, s⟩], by rw [hγ, List.append_assoc]⟩
  · rcases both he hk with ⟨g1, g2⟩ | ⟨rfl, rfl, rfl⟩
    · exact BlkR.keep hx (BExt.app _ _) (fun b hb => heap_alloc_old w _ b (at_lt (h.blk i e k g1 g2) hb)) (h.blk i e k g1 g2)
    · refine ⟨hxs.symm, rfl, hls, cs.toList.take (n * s), ⟨?_, .inr ⟨w.heap.size, cap, cs, by rw [hxs], h.frm.size, heap_alloc_new w _, by rw [hxs]; exact hn, hm, hcs, by rw [hxs]⟩⟩, VRs.ext_all hx (BExt.refl _ _) hv⟩
      rw [List.length_take, hxs, Array.length_toList, hcs, Nat.min_eq_left (Nat.mul_le_mul_right s hn)]
  · rcases both he hk with ⟨g1, g2⟩ | ⟨rfl, rfl, rfl⟩
    · rcases both hf hl with ⟨g3, g4⟩ | ⟨rfl, rfl, rfl⟩
      · exact h.inj i j e f k l b hij g1 g2 g3 g4 hb hb'
      · have := at_lt (h.blk i e k g1 g2) hb
        simp [Blk.at, Value.ownBlock] at hb'; omega
    · rcases both hf hl with ⟨g3, g4⟩ | ⟨rfl, rfl, rfl⟩
      · have := at_lt (h.blk j f l g3 g4) hb'
        simp [Blk.at, Value.ownBlock] at hb; omega
      · exact hij rfl
  · rcases both he hk with ⟨g1, g2⟩ | ⟨rfl, rfl, rfl⟩
    · have := h.loc i e k b h0 g1 g2 hb; simp; omega
    · simp [Blk.at, Value.ownBlock] at hb
      have := h.frm.size
      simp; omega
  · obtain ⟨ds, hc⟩ := h.cel i hi
    exact ⟨ds, by rw [List.getElem?_append_left (List.getElem?_eq_some_iff.1 hc).1]; exact hc⟩

/-- A slice literal that the function owns. -/
theorem OpT.litOwn {t len e : Nat} {parts : Array (Nat × Operand)} {ps : List (Nat × PV)} {out : List PV} (ho : o.op = .buildSlice t len parts) (hp : opds G st parts.toList = some ps) (hl : litPV P t len ps = some (e, out)) (hcl : PV.idss (fun _ => false) out = true) :
    OpT P G n0 o st H (.own H.length len) (H ++ [.buf (P.cellsOf e) e (rowsOf (P.cellsOf e) len out) false]) := by
  intro c a w β h0 hr
  obtain ⟨cs, h1, h2, h3, h4, h5⟩ := lit_run hr ho hp hl
  obtain ⟨r1, r2, r3⟩ := rowsOf_spec (P.cellsOf e) len out h3
  have hcs : cs.size = len * P.cellsOf e := by have := VRs.length _ _ h2; simp at this; omega
  obtain ⟨g1, g2⟩ := hr.newbuf (s := P.cellsOf e) (t := e) (n := len) (cap := len) (cs := cs) (xs := rowsOf (P.cellsOf e) len out) hcs (Nat.le_refl _) (by unfold maxLen; omega) r2 r3 (by
    rw [r1, List.take_of_length_le (by simp; omega)]
    exact VRs.ext (Ext.refl _ _) (q := fun _ => false) (fun i e hq _ => by cases hq) _ _ hcl h2)
  simp only [wpv, h1]
  refine ⟨_, g1, ?_, BExt.app _ _, g2⟩
  simp only [VR]
  exact ⟨rfl, ⟨0, .slice (some ⟨w.heap.size, 0, none⟩) len len, len, P.cellsOf e⟩, by rw [← hr.len]; simp, Nat.le_refl _, fun _ => rfl⟩

/-- A part of a slice that nobody writes. -/
def loOf (G : Glob) (st : St) : Option Operand → Option Int
  | none => some 0
  | some x => match opd G st x with | some (.sc (.int _ i)) => some i | _ => none
def hiOf (G : Glob) (st : St) (n : Nat) : Option Operand → Option Int
  | none => some n
  | some x => match opd G st x with | some (.sc (.int _ i)) => some i | _ => none
theorem OpT.slice {t e s : Nat} {x : Operand} {lo hi : Option Operand} {l h : Int} {p q : PV} {xs : List (List PV)} (ho : o.op = .slice t x lo hi none) (hu : P.underlying t = some (.slice e)) (hz : P.cellsOf e = s) (hs0 : s ≠ 0)
    (hx : opd G st x = some q) (hq : Wk H false q (.sl s xs)) (hlo : loOf G st lo = some l) (hhi : hiOf G st xs.length hi = some h) (h0 : 0 ≤ l) (h1 : l ≤ h) (h2 : h ≤ xs.length) (hp : p = .sl s ((xs.take h.toNat).drop l.toNat)) : OpT P G n0 o st H p H :=
  OpT.value fun c a w β hn hr => by
    have g0 := hr.wk (hr.opd hx) hq
    simp only [VR] at g0
    obtain ⟨ad, cap, g1, g2, g3⟩ := g0
    have hlv : ∀ x, lo = some x → ∃ k, a.eval x = .int k l := fun x hx' => by
      subst hx'
      simp only [loOf] at hlo
      cases hox : opd G st x with
      | none => simp [hox] at hlo
      | some r =>
        have := hr.opd hox
        cases r <;> simp only [hox] at hlo <;> try (cases hlo; done)
        case sc v =>
          cases v <;> simp only [Option.some.injEq] at hlo <;> try (cases hlo; done)
          case int k i =>
            simp only [VR] at this
            exact ⟨k, by rw [this, hlo]⟩
    have hhv : ∀ x, hi = some x → ∃ k, a.eval x = .int k h := fun x hx' => by
      subst hx'
      simp only [hiOf] at hhi
      cases hox : opd G st x with
      | none => simp [hox] at hhi
      | some r =>
        have := hr.opd hox
        cases r <;> simp only [hox] at hhi <;> try (cases hhi; done)
        case sc v =>
          cases v <;> simp only [Option.some.injEq] at hhi <;> try (cases hhi; done)
          case int k i =>
            simp only [VR] at this
            exact ⟨k, by rw [this, hhi]⟩
    have hsb : (Instr.sliceBounds true xs.length cap (lo.map a.eval) (hi.map a.eval) none).run P w = .ok (l.toNat, h.toNat, cap) w := by
      have hh : h ≤ cap := by omega
      cases lo with
      | none =>
        simp only [loOf, Option.some.injEq] at hlo
        subst hlo
        cases hi with
        | none =>
          simp only [hiOf, Option.some.injEq] at hhi
          subst hhi
          simp [Instr.sliceBounds]
        | some y =>
          obtain ⟨k, hy⟩ := hhv y rfl
          simp [Instr.sliceBounds, hy, Instr.sliceBound, asIntOf, hh, h1]
      | some x' =>
        obtain ⟨k', hx''⟩ := hlv x' rfl
        cases hi with
        | none =>
          simp only [hiOf, Option.some.injEq] at hhi
          subst hhi
          simp [Instr.sliceBounds, hx'', Instr.sliceBound, asIntOf, h0, h1]
        | some y =>
          obtain ⟨k, hy⟩ := hhv y rfl
          have h0h : 0 ≤ h := by omega
          simp [Instr.sliceBounds, hx'', hy, Instr.sliceBound, asIntOf, hh, h0, h0h]
          omega
    refine ⟨.slice (if cap = l.toNat then ad else ad.map (·.add (l.toNat * s))) (h.toNat - l.toNat) (cap - l.toNat), ?_, ?_⟩
    · simp [execOp, ho, Instr.sliceAt, run_underlying hu, Instr.slice, g1, hsb, run_size hz hs0]
    · subst hp
      have hlen : ((xs.take h.toNat).drop l.toNat).length = h.toNat - l.toNat := by
        rw [List.length_drop, List.length_take]; omega
      simp only [VR]
      refine ⟨_, cap - l.toNat, by rw [hlen], by rw [hlen]; omega, ?_⟩
      by_cases hlh : l.toNat = h.toNat
      · left
        exact List.eq_nil_of_length_eq_zero (by rw [hlen]; omega)
      · rcases g3 with rfl | ⟨b, of, rfl, g4, g5⟩
        · simp at h2; omega
        · right
          refine ⟨b, of + l.toNat * s, ?_, hr.ok.stab g4 ?_, ?_⟩
          · by_cases hc : cap = l.toNat
            · omega
            · rw [if_neg hc]; simp [addr_add]
          · rw [hlen]
            have : l.toNat * s + (h.toNat - l.toNat) * s = h.toNat * s := by rw [← Nat.add_mul]; congr 1; omega
            have h3 : h.toNat * s ≤ xs.length * s := Nat.mul_le_mul_right s (by omega)
            omega
          · have key : ∀ (xs : List (List PV)) (of m : Nat), VRows (stab c β H w) [] w b s of xs → VRows (stab c β H w) [] w b s (of + m * s) (xs.drop m) := by
              intro xs
              induction xs with
              | nil => intro of m _; simp [VRows]
              | cons x xs ih =>
                intro of m hv
                cases m with
                | zero => simpa using hv
                | succ m =>
                  simp only [VRows] at hv
                  have := ih (of + s) m hv.2
                  rw [show of + (m + 1) * s = of + s + m * s by rw [Nat.succ_mul]; omega]
                  simpa using this
            have keyt : ∀ (xs : List (List PV)) (of m : Nat), VRows (stab c β H w) [] w b s of xs → VRows (stab c β H w) [] w b s of (xs.take m) := by
              intro xs
              induction xs with
              | nil => intro of m _; simp [VRows]
              | cons x xs ih =>
                intro of m hv
                cases m with
                | zero => simp [VRows]
                | succ m =>
                  simp only [VRows] at hv
                  simp only [List.take_succ_cons, VRows]
                  exact ⟨hv.1, ih _ m hv.2⟩
            exact key _ _ _ (keyt _ _ _ g5)

theorem OpT.makeFunc {f : FuncId} {captured : Array Operand} {ps : List PV} (ho : o.op = .makeFunc (.func f) #[] captured) (hp : captured.toList.map (opd G st) = ps.map some) : OpT P G n0 o st H (.fn f ps) H :=
  OpT.value fun c a w β hn hr => by
    have h1 := VRs.of_opds hr _ _ hp
    refine ⟨.func (.func f) #[] (captured.map a.eval), by simp [execOp, ho, Instr.makeFunc], ?_⟩
    simp only [VR]
    exact ⟨_, rfl, by simpa using h1⟩
end
end Go.AM

/- More operations over abstract states: places in slices, new slices and structs, equality of structs, lengths. No condition. -/
import Derived.Test.YtdpogkakaeeccaaDoorA9
namespace Go.AM
section
variable {P : Program} {G : Glob} {c : Ctx} {β : List Bnd} {st : St} {H : List Blk} {a : Act} {w : World} {n0 nt : Nat} {o : Oper}

theorem OpT.index_own {t e : TypeId} {x y : Operand} {k : IntKind} {j : Int} {i s ty : Nat} {xs : List (List PV)} {sh : Bool} (ho : o.op = .indexAddr t x y) (hu : P.underlying t = some (.slice e)) (hz : P.cellsOf e = s) (hs0 : s ≠ 0)
    (hx : opd G st x = some (.own i xs.length)) (hb : H[i]? = some (.buf s ty xs sh)) (hy : opd G st y = some (.sc (.int k j))) (h0 : 0 ≤ j) (h1 : j < xs.length) : OpT P G n0 o st H (.ept i xs.length j.toNat 0) H :=
  OpT.value fun c a w β hn hr => by
    have g1 := hr.opd hx
    have g2 := hr.opd hy
    simp only [VR] at g1 g2
    obtain ⟨_, ed, he, k1, k2⟩ := g1
    obtain ⟨q1, q2, q3, vals, ⟨q4, q5⟩, q6⟩ := hr.blk i ed _ he hb
    have hv := k2 q1.symm
    rcases q5 with ⟨q5, q7⟩ | ⟨g, cap, cur, e1, e2, e3, e4, e5, e6, e7⟩
    · omega
    · refine ⟨.pointer (some ⟨g, j.toNat * s, none⟩), ?_, ?_⟩
      · rw [e1] at hv
        simp [execOp, ho, Instr.indexAt, asIntOf, run_underlying hu, hv, g2, run_size hz hs0, addr_add, h0, h1]
      · simp only [VR]
        exact ⟨rfl, ed, he, k1, fun _ => ⟨g, by rw [e1]; rfl, by rw [q2]; simp⟩⟩

theorem OpT.load_ept {t : TypeId} {x : Operand} {i n k off s ty : Nat} {xs : List (List PV)} {row : List PV} {sh : Bool} {p : PV} (ho : o.op = .load t x) (hx : opd G st x = some (.ept i n k off)) (hb : H[i]? = some (.buf s ty xs sh)) (hn : n = xs.length)
    (hk : xs[k]? = some row) (hl : ldPV P t (row.drop off) = some p) : OpT P G n0 o st H p H :=
  OpT.value fun c a w β h0 hr => by
    have h1 := hr.opd hx
    simp only [VR] at h1
    obtain ⟨_, ed, he, k1, k2⟩ := h1
    have hbb := hr.blk i ed _ he hb
    obtain ⟨q1, q2, q3, vals, ⟨q4, q5⟩, q6⟩ := hbb
    obtain ⟨g, k3, k4⟩ := k2 (by omega)
    rcases q5 with ⟨q5, q7⟩ | ⟨g', cap, cur, e1, e2, e3, e4, e5, e6, e7⟩
    · rw [q5] at k3; simp [Value.ownBlock] at k3
    · rw [e1] at k3
      simp [Value.ownBlock] at k3
      subst k3
      have hrows := rows_of_flat (w := w) (g := g') xs vals 0 q3 q6 fun j u hj => by
        rw [cell_of_row w g' (0 + j) cur ty (0, 0) e3]
        rw [← e7, List.getElem?_take] at hj
        split at hj
        · simpa using hj
        · cases hj
      obtain ⟨r1, r2⟩ := VRows.get hrows hk
      obtain ⟨v, h6, h7⟩ := run_ld (P := P) (VRow.nobnd (β := β) (VRow.drop row _ off r2)) hl
      rw [Nat.zero_add, ← q2] at h6
      exact ⟨v, by simp [execOp, ho, Instr.loadAt, k4, Instr.sureAddr, h6], h7⟩

/-- A store into an element of a slice that the function owns and has shared with nobody. -/
theorem OpT.store_ept {t : TypeId} {x y : Operand} {i n k off s ty : Nat} {xs : List (List PV)} {row : List PV} {p : PV} (ho : o.op = .store t x y) (hx : opd G st x = some (.ept i n k off)) (hy : opd G st y = some p) (hb : H[i]? = some (.buf s ty xs false)) (hn : n = xs.length)
    (hk : xs[k]? = some row) (ht : P.cellsOf t = p.cells.length) (hti : (P.info? t).isSome = true) (hl : off + p.cells.length ≤ row.length) (h1 : (p.cells.all PV.one) = true) (hcl : PV.idss (fun _ => false) p.cells = true) :
    OpT P G n0 o st H (.sc undef) (H.set i (.buf s ty (xs.set k (row.take off ++ p.cells ++ row.drop (off + p.cells.length))) false)) := by
  intro c a w β hn0 hr
  have g1 := hr.opd hx
  have g2 := (hr.opd hy).cells
  simp only [VR] at g1
  obtain ⟨_, ed, he, k1, k2⟩ := g1
  obtain ⟨q1, q2, q3, vals, ⟨q4, q5⟩, q6⟩ := hr.blk i ed _ he hb
  obtain ⟨g, k3, k4⟩ := k2 (by omega)
  have hlu := VRs.length _ _ g2
  rcases q5 with ⟨q5, q7⟩ | ⟨g', cap, cur, e1, e2, e3, e4, e5, e6, e7⟩
  · rw [q5] at k3; simp [Value.ownBlock] at k3
  · rw [e1] at k3
    simp [Value.ownBlock] at k3
    subst k3
    have hkl := (List.getElem?_eq_some_iff.1 hk).1
    have hrl : row.length = s := q3 row (List.mem_of_getElem? hk)
    have hks : k * s + s ≤ xs.length * s := by
      have : (k + 1) * s ≤ xs.length * s := Nat.mul_le_mul_right s hkl
      rw [Nat.succ_mul] at this; exact this
    have hcurs : xs.length * s ≤ cur.size := by rw [e6]; exact Nat.mul_le_mul_right s e4
    have hrun := run_storeCells_at P g' (k * s + off) ty (a.eval y).cells.toList 0 cur w e3 (by rw [hlu]; omega) (VRs.one h1 g2)
    obtain ⟨ti, htio⟩ := Option.isSome_iff_exists.1 hti
    have hsz : (sizeOf t).run P w = .ok (a.eval y).cells.size w := by
      rw [run_sizeOf w htio, ht, ← hlu]; simp
    rw [q2] at k4
    have hex : (execOp a.eval o).run P w = .ok .skip (w.setRow g' (cur.toList.take (k * s + off + 0) ++ (a.eval y).cells.toList ++ cur.toList.drop (k * s + off + 0 + (a.eval y).cells.toList.length)).toArray) := by
      simp only [execOp, ho, Instr.storeAt, k4, Instr.sureAddr, storeVar]
      simp [hsz, hrun]
    simp only [wpv, hex]
    let us := (a.eval y).cells.toList
    let vals' := vals.take (k * s + off) ++ us ++ vals.drop (k * s + off + us.length)
    have hvl : vals.length = xs.length * s := q4
    have hflat : ∀ (xs : List (List PV)) (k : Nat), xs[k]? = some row → (∀ x ∈ xs, x.length = s) →
        (xs.set k (row.take off ++ p.cells ++ row.drop (off + p.cells.length))).flatten = xs.flatten.take (k * s + off) ++ p.cells ++ xs.flatten.drop (k * s + off + p.cells.length) := by
      intro xs
      induction xs with
      | nil => intro k hk; simp at hk
      | cons x xs ih =>
        intro k hk hls
        cases k with
        | zero =>
          simp at hk; subst hk
          simp only [List.set_cons_zero, List.flatten_cons, Nat.zero_mul, Nat.zero_add]
          rw [List.take_append_of_le_length (by omega), List.drop_append_of_le_length (by omega)]
          simp
        | succ k =>
          have hxl : x.length = s := hls x (by simp)
          simp only [List.set_cons_succ, List.flatten_cons]
          rw [ih k (by simpa using hk) fun y hy => hls y (by simp [hy])]
          rw [show (k + 1) * s + off = x.length + (k * s + off) by rw [hxl, Nat.succ_mul]; omega]
          rw [List.take_length_add_append, show x.length + (k * s + off) + p.cells.length = x.length + (k * s + off + p.cells.length) by omega, List.drop_length_add_append]
          simp only [List.append_assoc]
    have hrow := setRow_heap w g' cur (cur.toList.take (k * s + off + 0) ++ us ++ cur.toList.drop (k * s + off + 0 + us.length)).toArray ty (0, 0) e3
    have hlen' : (xs.set k (row.take off ++ p.cells ++ row.drop (off + p.cells.length))).length = xs.length := by simp
    have hrb := hr.rebuf he hb (xs' := xs.set k (row.take off ++ p.cells ++ row.drop (off + p.cells.length))) (w' := w.setRow g' (cur.toList.take (k * s + off + 0) ++ us ++ cur.toList.drop (k * s + off + 0 + us.length)).toArray) (v' := ed.v) (vals := vals')
      rfl rfl rfl (by rw [size_setRow]; exact Nat.le_refl _) (fun b hb' hne => ?_) (by rw [hlen']; exact Nat.le_refl _) (fun _ => rfl) (fun hsh => by cases hsh) ?_ (fun g hg => .inl hg) (fun x hx' => ?_) (fun S' hx' => ?_)
    · obtain ⟨r1, r2, r3⟩ := hrb
      have hset : β.set i ⟨ed.b, ed.v, (xs.set k (row.take off ++ p.cells ++ row.drop (off + p.cells.length))).length, s⟩ = β := by
        rw [hlen', ← q1, ← q2]
        refine List.ext_getElem? fun j => ?_
        by_cases hji : j = i
        · subst hji; rw [List.getElem?_set_self (List.getElem?_eq_some_iff.1 he).1, he]
        · rw [List.getElem?_set_ne (Ne.symm hji)]
      rw [hset] at r1 r2 r3
      exact ⟨β, r1, by simp only [VR], r3, r2⟩
    · have : b ≠ g' := fun eq => hne (by rw [e1, eq]; rfl)
      simp only [World.setRow, Array.getElem?_modify]
      rw [if_neg (Ne.symm this)]
    · have hu2 : us.length = p.cells.length := hlu
      refine ⟨by simp only [hlen', vals', List.length_append, List.length_take, List.length_drop]; omega, .inr ⟨g', cap, _, by rw [e1, hlen'], e2, hrow, by rw [hlen']; exact e4, e5, ?_, ?_⟩⟩
      · simp only [List.size_toArray, List.length_append, List.length_take, List.length_drop, Array.length_toList, Nat.add_zero]; omega
      · simp only [hlen', vals', Nat.add_zero]
        have hv2 : vals = cur.toList.take (xs.length * s) := e7.symm
        rw [hv2, List.take_take, Nat.min_eq_left (by omega : k * s + off ≤ xs.length * s), List.drop_take, List.take_append, List.take_of_length_le (by simp only [List.length_append, List.length_take, Array.length_toList]; omega)]
        congr 1
        congr 1
        simp only [List.length_append, List.length_take, Array.length_toList]
        omega
    · rcases List.mem_or_eq_of_mem_set hx' with h3 | h3
      · exact q3 x h3
      · rw [h3]; simp only [List.length_append, List.length_take, List.length_drop]; omega
    · rw [hflat xs k hk q3]
      have h4 := VRs.ext_all hx' (BExt.refl (fun _ => true) ([] : List Bnd)) q6
      have h5 : VRs S' [] (w.setRow g' (cur.toList.take (k * s + off + 0) ++ us ++ cur.toList.drop (k * s + off + 0 + us.length)).toArray) p.cells us :=
        VRs.ext hx' (q := fun _ => false) (fun i e hq _ => by cases hq) _ _ hcl g2
      have h6 : us.length = p.cells.length := hlu
      have h7 : vals.drop (k * s + off + us.length) = vals.drop (k * s + off + p.cells.length) := by rw [h6]
      simp only [vals']
      rw [h7]
      exact VRs.append _ _ _ _ (VRs.append _ _ _ _ (VRs.take _ _ _ h4) h5) (VRs.drop _ _ _ h4)

theorem OpT.len_sl {cl : Call} {x : Operand} {T e s : Nat} {xs : List (List PV)} (ho : o.op = .call cl) (hcl : cl = { callee := .builtin .len, args := #[x], argTypes := #[T] }) (hT : P.underlying T = some (.slice e)) (hx : opd G st x = some (.sl s xs)) :
    OpT P G n0 o st H (.sc (.int .i64 xs.length)) H :=
  OpT.value fun c a w β h0 hr => by
    have h1 := hr.opd hx
    simp only [VR] at h1
    obtain ⟨ad, cap, h2, _⟩ := h1
    exact ⟨.int .i64 xs.length, by simp [execOp, ho, hcl, resolve, invoke, builtin, h2, Builtin.len_, run_underlying hT, goInt], by simp only [VR]⟩

theorem OpT.len_own {cl : Call} {x : Operand} {T e s t i : Nat} {xs : List (List PV)} {sh : Bool} (ho : o.op = .call cl) (hcl : cl = { callee := .builtin .len, args := #[x], argTypes := #[T] }) (hT : P.underlying T = some (.slice e)) (hx : opd G st x = some (.own i xs.length)) (hb : H[i]? = some (.buf s t xs sh)) :
    OpT P G n0 o st H (.sc (.int .i64 xs.length)) H :=
  OpT.value fun c a w β h0 hr => by
    have h1 := hr.opd hx
    simp only [VR] at h1
    obtain ⟨_, ed, he, k1, k2⟩ := h1
    obtain ⟨q1, q2, q3, vals, ⟨q4, q5⟩, q6⟩ := hr.blk i ed _ he hb
    have hv := k2 q1.symm
    refine ⟨.int .i64 xs.length, ?_, by simp only [VR]⟩
    rcases q5 with ⟨q5, q7⟩ | ⟨g', cap, cur, e1, _⟩
    · rw [q5] at hv
      simp [execOp, ho, hcl, resolve, invoke, builtin, hv, Builtin.len_, run_underlying hT, goInt, q7]
    · rw [e1] at hv
      simp [execOp, ho, hcl, resolve, invoke, builtin, hv, Builtin.len_, run_underlying hT, goInt]

/-! ### Values that are put together -/
def fillPV (place : Nat → Option (Nat × Nat)) (cells : List PV) : List (Nat × PV) → Option (List PV)
  | [] => some cells
  | (i, p) :: r => match place i with
    | none => none
    | some (off, size) => if p.cells.length ≠ size ∨ off + p.cells.length > cells.length then none
      else fillPV place (cells.take off ++ p.cells ++ cells.drop (off + p.cells.length)) r

theorem splice (off : Nat) : ∀ (vs : List Value) (j : Nat) (cs : Array Value), off + j + vs.length ≤ cs.size →
    ((vs.zipIdx j).foldl (fun cs x => cs.setIfInBounds (off + x.2) x.1) cs).toList = cs.toList.take (off + j) ++ vs ++ cs.toList.drop (off + j + vs.length)
  | [], j, cs, _ => by simp
  | v :: vs, j, cs, h => by
    simp only [List.length_cons] at h
    simp only [List.zipIdx_cons, List.foldl_cons]
    rw [splice off vs (j + 1) _ (by simp; omega)]
    have h1 : off + j < cs.toList.length := by simp; omega
    simp only [Array.toList_setIfInBounds, List.length_cons]
    rw [show off + (j + 1) = off + j + 1 by omega, List.take_add_one, List.getElem?_set_self h1, List.take_set_of_le (Nat.le_refl _), List.drop_set_of_lt (by omega)]
    simp [Nat.add_comm, Nat.add_left_comm]

theorem fill_of {S : Nat → Nat → Prop} (place : Nat → Option (Nat × Nat)) : ∀ (ps : List (Nat × PV)) (us : List (Nat × Value)) (cells out : List PV) (cs : Array Value),
    ps.map (·.1) = us.map (·.1) → VRs S β w (ps.map (·.2)) (us.map (·.2)) → VRs S β w cells cs.toList → fillPV place cells ps = some out → ∃ cs', Instr.fill place cs us = some cs' ∧ VRs S β w out cs'.toList
  | [], [], cells, out, cs, _, _, hc, hf => by
    simp only [fillPV, Option.some.injEq] at hf
    subst hf
    exact ⟨cs, rfl, hc⟩
  | [], _ :: _, _, _, _, h, _, _, _ => by simp at h
  | _ :: _, [], _, _, _, h, _, _, _ => by simp at h
  | (i, p) :: ps, (i', u) :: us, cells, out, cs, hi, hv, hc, hf => by
    simp only [List.map_cons, List.cons.injEq] at hi
    obtain ⟨rfl, hi⟩ := hi
    simp only [List.map_cons, VRs] at hv
    simp only [fillPV] at hf
    cases hp : place i with
    | none => simp [hp] at hf
    | some os =>
      obtain ⟨off, size⟩ := os
      simp only [hp] at hf
      split at hf
      · cases hf
      · rename_i hne
        have hpc := hv.1.cells
        have hlu := VRs.length _ _ hpc
        have hlc := VRs.length _ _ hc
        have h1 : ¬ (u.cells.size ≠ size ∨ off + u.cells.size > cs.size) := by
          simp only [Array.length_toList] at hlu hlc
          rw [hlu, hlc]; exact hne
        have h2 : off + u.cells.size ≤ cs.size := by omega
        have h3 : u.cells.size = size := by omega
        have h4 := splice off u.cells.toList 0 cs (by simpa using h2)
        have h5 : (u.cells.zipIdx.foldl (fun cs (x : Value × Nat) => cs.setIfInBounds (off + x.2) x.1) cs) = ((u.cells.toList.zipIdx 0).foldl (fun cs x => cs.setIfInBounds (off + x.2) x.1) cs) := by
          rw [← Array.foldl_toList]; simp
        have h6 : VRs S β w (cells.take off ++ p.cells ++ cells.drop (off + p.cells.length)) ((u.cells.zipIdx.foldl (fun cs (x : Value × Nat) => cs.setIfInBounds (off + x.2) x.1) cs)).toList := by
          rw [h5, h4, Nat.add_zero, hlu]
          exact VRs.append _ _ _ _ (VRs.append _ _ _ _ (VRs.take _ _ _ hc) hpc) (VRs.drop _ _ _ hc)
        obtain ⟨cs', h7, h8⟩ := fill_of place ps us _ out _ hi hv.2 h6 hf
        refine ⟨cs', ?_, h8⟩
        simp only [Instr.fill, hp, h3]
        rw [if_neg (by simp; omega)]
        exact h7
end
end Go.AM

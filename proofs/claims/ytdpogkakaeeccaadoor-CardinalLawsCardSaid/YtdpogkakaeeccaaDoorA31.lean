/- Parts of views, clearing them; a call that turns a buffer and returns a part of it; slice literals that are owned. No condition. -/
import Derived.Test.YtdpogkakaeeccaaDoorA30
namespace Go.AM
section
variable {P : Program} {G : Glob} {n0 nt : Nat} {o : Oper} {st : St} {H : List Blk}
/-- Operations on the blocks, as the follower of code carries them out. -/
def Hnd.m : Hnd P G where
  run o st H := (memx P G #[] st H o).map fun r => ⟨r.1, r.2, [], []⟩
  sound := by
    intro n0 o st H x h he
    simp only [Option.map_eq_some_iff] at h
    obtain ⟨p, h1, rfl⟩ := h
    exact (OpT.of_memx h1).weak

theorem OpT.slice_vw {t e : TypeId} {x : Operand} {lo hi : Option Operand} {i off n : Nat} {l h : Int} (ho : o.op = .slice t x lo hi none) (hu : P.underlying t = some (.slice e)) (hz : P.cellsOf e ≠ 0)
    (hx : opd G st x = some (.vw i off n)) (hlo : loOf G st lo = some l) (hhi : hiOf G st n hi = some h) (h0 : 0 ≤ l) (h1 : l ≤ h) (h2 : h ≤ n) : OpT P G n0 o st H (.vw i (off + l.toNat * P.cellsOf e) (h.toNat - l.toNat)) H :=
  OpT.value fun c a w β hn0 hr => by
    have g1 := hr.opd hx
    simp only [VR] at g1
    obtain ⟨ed, he, cap, ad, hc, hv, ha⟩ := g1
    have hsb := slice_bounds (P := P) hr hlo hhi h0 h1 h2 hc
    refine ⟨.slice (if cap = l.toNat then ad else ad.map (·.add (l.toNat * P.cellsOf e))) (h.toNat - l.toNat) (cap - l.toNat), ?_, ?_⟩
    · simp [execOp, ho, Instr.sliceAt, run_underlying hu, Instr.slice, hv, hsb, run_size rfl hz]
    · simp only [VR]
      refine ⟨ed, he, _, _, by omega, rfl, fun hne => ?_⟩
      have hl : ¬ cap = l.toNat := by omega
      rw [if_neg hl, ha (by omega)]
      simp [addr_add]

/-- A part of a view. -/
def Hnd.sliceV {n : Nat} {a b : Int} (h : 0 ≤ a ∧ a ≤ b ∧ b ≤ (n : Int)) : Hnd P G where
  run o st H := match o.op with
    | .slice t x lo hi none => match P.underlying t, opd G st x, loOf G st lo with
      | some (.slice e), some (.vw i off n'), some l => match hiOf G st n' hi with
        | some h => if Nat.beq (P.cellsOf e) 0 then none else some ⟨.vw i (off + a.toNat * P.cellsOf e) (b.toNat - a.toNat), H, [.n n', .i l, .i h], [.n n, .i a, .i b]⟩
        | none => none
      | _, _, _ => none
    | _ => none
  sound := by
    intro n0 o st H x hr he
    suffices hT : OpT P G n0 o st H x.p x.H from hT.weak
    split at hr
    · rename_i t x lo hi ho
      split at hr
      · rename_i e i off n' l hu hx hlo
        split at hr
        · rename_i hh hhi
          split at hr
          · cases hr
          · rename_i hz
            simp only [Option.some.injEq] at hr; subst hr
            simp only [List.cons.injEq, T.n.injEq, T.i.injEq, and_true] at he
            obtain ⟨rfl, rfl, rfl⟩ := he
            exact OpT.slice_vw ho hu (fun h0 => hz (by rw [h0]; rfl)) hx hlo hhi h.1 h.2.1 h.2.2
        · cases hr
      · cases hr
    · cases hr

theorem zeroCells_list (z : Array Value) : ∀ n, (Builtin.zeroCells z n).toList = (List.replicate n z.toList).flatten
  | 0 => by simp [Builtin.zeroCells]
  | n + 1 => by
    have ih := zeroCells_list z n
    have hs : (List.range z.size).map (fun i => z[i]!) = z.toList := by
      refine List.ext_getElem (by simp) fun i h1 h2 => ?_
      simp at h1
      simp [h1]
    simp only [Builtin.zeroCells, Array.toList_map, Array.toList_range] at ih ⊢
    rw [Nat.add_mul, Nat.one_mul, List.range_add, List.map_append, ih, List.replicate_succ', List.flatten_append, List.map_map]
    congr 1
    simp only [List.flatten_singleton]
    rw [← hs]
    refine List.map_congr_left fun i hi => ?_
    have hi := List.mem_range.1 hi
    simp only [Function.comp_apply]
    rw [Nat.mul_comm, Nat.mul_add_mod, Nat.mod_eq_of_lt hi]
/-- The elements of a view become zero. -/
theorem OpT.clearV {cl : Call} {x : Operand} {T e i off n : Nat} {cs : List PV} {ti : TypeInfo} {z : Value} (ho : o.op = .call cl) (hcl : cl = { callee := .builtin .clear, args := #[x], argTypes := #[T] }) (hT : P.underlying T = some (.slice e)) (hti : P.info? e = some ti) (hz : ti.zero = some z)
    (hone : z.cells.toList.all Value.oneCell' = true) (hx : opd G st x = some (.vw i off n)) (hb : H[i]? = some (.cells cs)) (hl : off + n * z.cells.size ≤ cs.length) :
    OpT P G n0 o st H (.sc (.tuple #[])) (H.set i (.cells (cs.take off ++ (List.replicate n (z.cells.toList.map PV.sc)).flatten ++ cs.drop (off + n * z.cells.size)))) := by
  intro c a w β h0 hr
  have g1 := hr.opd hx
  simp only [VR] at g1
  obtain ⟨ed, he, cap, ad, hc, hv, ha⟩ := g1
  have hzv : ∀ w : World, (zeroValue e).run P w = .ok z w := fun w => by simp [zeroValue, typeInfo, hti, hz]
  obtain ⟨hq, vs, ty, h4, h5⟩ := hr.blk i ed _ he hb
  have hlv := VRs.length _ _ h5
  rw [Array.length_toList] at hlv
  by_cases hn : n = 0
  · subst hn
    have hex : (execOp a.eval o).run P w = .ok (.value (.tuple #[])) w := by
      cases ad <;> simp [execOp, ho, hcl, resolve, invoke, builtin, hv, Builtin.clear_, run_underlying hT]
    have hset : H.set i (.cells (cs.take off ++ (List.replicate 0 (z.cells.toList.map PV.sc)).flatten ++ cs.drop (off + 0 * z.cells.size))) = H := by
      have : cs.take off ++ (List.replicate 0 (z.cells.toList.map PV.sc)).flatten ++ cs.drop (off + 0 * z.cells.size) = cs := by simp
      rw [this]
      refine List.ext_getElem? fun j => ?_
      by_cases hji : j = i
      · subst hji; rw [List.getElem?_set_self (List.getElem?_eq_some_iff.1 hb).1, hb]
      · rw [List.getElem?_set_ne (Ne.symm hji)]
    simp only [wpv, hex]
    rw [hset]
    exact ⟨β, hr, by simp only [VR], BExt.refl _ _, Ext.refl _ _⟩
  · rw [ha hn] at hv
    have hzc : (Builtin.zeroCells z.cells n).toList = (List.replicate n z.cells.toList).flatten := by
      exact zeroCells_list _ _
    have hall : ∀ v ∈ (Builtin.zeroCells z.cells n).toList, v.oneCell' = true := fun v hv => by
      rw [hzc] at hv
      obtain ⟨l, hl1, hl2⟩ := List.mem_flatten.1 hv
      rw [(List.mem_replicate.1 hl1).2] at hl2
      exact List.all_eq_true.1 hone v hl2
    have hzl : (Builtin.zeroCells z.cells n).toList.length = n * z.cells.size := by rw [Array.length_toList, size_zeroCells]
    have hrun := run_storeCells_at P ed.b off ty (Builtin.zeroCells z.cells n).toList 0 vs w h4 (by rw [hzl]; omega) hall
    have hex : (execOp a.eval o).run P w = .ok (.value (.tuple #[])) (w.setRow ed.b (vs.toList.take (off + 0) ++ (Builtin.zeroCells z.cells n).toList ++ vs.toList.drop (off + 0 + (Builtin.zeroCells z.cells n).toList.length)).toArray) := by
      obtain ⟨m, rfl⟩ : ∃ m, n = m + 1 := ⟨n - 1, by omega⟩
      simp [execOp, ho, hcl, resolve, invoke, builtin, hv, Builtin.clear_, run_underlying hT, hzv] at hrun ⊢
      simp [hrun]
    simp only [wpv, hex]
    have hfl : ((List.replicate n (z.cells.toList.map PV.sc)).flatten : List PV) = (Builtin.zeroCells z.cells n).toList.map PV.sc := by
      rw [hzc, List.map_flatten, List.map_replicate]
    have hwr := hr.write he hb (us := (vs.toList.take (off + 0) ++ (Builtin.zeroCells z.cells n).toList ++ vs.toList.drop (off + 0 + (Builtin.zeroCells z.cells n).toList.length)).toArray)
      (cs' := cs.take off ++ (List.replicate n (z.cells.toList.map PV.sc)).flatten ++ cs.drop (off + n * z.cells.size)) ?_ ?_
    · exact ⟨β, hwr.1, by simp only [VR], BExt.refl _ _, hwr.2⟩
    · simp only [Nat.add_zero]
      rw [hfl, hzl]
      exact VRs.append _ _ _ _ (VRs.append _ _ _ _ (VRs.take _ _ _ h5) (VRs.scs _)) (VRs.drop _ _ _ h5)
    · rw [PV.idss_append, PV.idss_append, hfl, idss_scs]
      have h6 := (PV.idss_mem _ cs).1 hq
      simp only [Bool.and_true, Bool.and_eq_true]
      exact ⟨(PV.idss_mem _ _).2 fun p hp => h6 p (List.mem_of_mem_take hp), (PV.idss_mem _ _).2 fun p hp => h6 p (List.mem_of_mem_drop hp)⟩

theorem wks_rep {any : Bool} {ps qs : List PV} (h : Wks H any ps qs) : ∀ n, Wks H any (List.replicate n ps).flatten (List.replicate n qs).flatten
  | 0 => .nil
  | n + 1 => by simp only [List.replicate_succ, List.flatten_cons]; exact Wks.append h (wks_rep h n)

variable {α : Type}
theorem flat_put {row : α → List PV} {s : Nat} (hrow : ∀ z, (row z).length = s) (m : List α) (sp : List PV) : ∀ (l : List α) (k : Nat), k + m.length ≤ l.length →
    ((l.take k ++ m ++ l.drop (k + m.length)).map row).flatten ++ sp = ((l.map row).flatten ++ sp).take (k * s) ++ (m.map row).flatten ++ ((l.map row).flatten ++ sp).drop (k * s + m.length * s)
  | l, 0, h => by
    have hm : (m.map row).flatten.length = m.length * s := by rw [flat_length (s := s) _ (by intro x hx; obtain ⟨z, _, rfl⟩ := List.mem_map.1 hx; exact hrow z), List.length_map]
    have hl : ((l.take m.length).map row).flatten.length = m.length * s := by
      rw [flat_length (s := s) _ (by intro x hx; obtain ⟨z, _, rfl⟩ := List.mem_map.1 hx; exact hrow z), List.length_map, List.length_take, Nat.min_eq_left (by omega)]
    have he : (l.map row).flatten = ((l.take m.length).map row).flatten ++ ((l.drop m.length).map row).flatten := by rw [← List.flatten_append, ← List.map_append, List.take_append_drop]
    simp only [List.take_zero, List.nil_append, Nat.zero_add, Nat.zero_mul, List.map_append, List.flatten_append, List.append_assoc]
    congr 1
    rw [he, List.append_assoc, ← hl, List.drop_left]
  | [], k + 1, h => by simp at h
  | y :: l, k + 1, h => by
    simp only [List.length_cons] at h
    have ih := flat_put hrow m sp l k (by omega)
    have hd : ((k + 1) * s) = (row y).length + k * s := by rw [hrow, Nat.add_mul, Nat.one_mul, Nat.add_comm]
    simp only [List.take_succ_cons, Nat.succ_add, List.drop_succ_cons, List.cons_append, List.map_cons, List.flatten_cons, List.append_assoc] at ih ⊢
    rw [ih, hd, Nat.add_assoc, List.take_length_add_append, List.drop_length_add_append]
    simp only [List.append_assoc]
theorem cel_closed {row : α → List PV} (hcl : ∀ z, PV.idss (fun _ => false) (row z) = true) (l : List α) (sp : List Value) : PV.idss (fun _ => false) (cel row l sp) = true := by
  unfold AM.cel
  rw [PV.idss_append, idss_scs, Bool.and_true]
  refine (PV.idss_mem _ _).2 fun p hp => ?_
  obtain ⟨r, hr, hpr⟩ := List.mem_flatten.1 hp
  obtain ⟨y, hy, rfl⟩ := List.mem_map.1 hr
  exact (PV.idss_mem _ _).1 (hcl y) p hpr
/-- A view is cleared; z0 is what a zero is read as. -/
def Hnd.clrV (row : α → List PV) {s : Nat} (hrow : ∀ z, (row z).length = s) (hclosed : ∀ z, PV.idss (fun _ => false) (row z) = true) (sp : List Value) (l : List α) (z0 : α) {lo n : Nat} (h : lo + n ≤ l.length) (off0 : Nat) (hoff0 : off0 = lo * s) : Hnd P G where
  run o st H := match o.op with
    | .call cl => match cl with
      | { callee := .builtin .clear, args := ⟨[x]⟩, argTypes := ⟨[ty]⟩ } => match P.underlying ty, opd G st x with
        | some (.slice e), some (.vw i off n') => match P.info? e, H[i]? with
          | some ti, some (.cells cs) => match ti.zero with
            | some z => if z.cells.toList.all Value.oneCell' = true ∧ Nat.beq z.cells.size s = true then
                some ⟨.sc (.tuple #[]), H.set i (.cells (cel row (l.take lo ++ List.replicate n z0 ++ l.drop (lo + n)) sp)), [.n off, .n n', .ps cs, .ps (lows P e (z.cells.toList.map .sc))], [.n off0, .n n, .ps (cel row l sp), .ps (row z0)]⟩ else none
            | none => none
          | _, _ => none
        | _, _ => none
      | _ => none
    | _ => none
  sound := by
    intro n0 o st H x hr he
    suffices hT : OpT P G n0 o st H x.p x.H from hT.weak
    split at hr
    · rename_i cl ho
      split at hr
      · rename_i x ty
        split at hr
        · rename_i e i off n' hu hx
          split at hr
          · rename_i ti cs hti hb
            split at hr
            · rename_i z hz
              split at hr
              · rename_i hc
                obtain ⟨c1, c2⟩ := hc
                have c2 := Nat.eq_of_beq_eq_true c2
                simp only [Option.some.injEq] at hr; subst hr
                simp only [List.cons.injEq, T.n.injEq, T.ps.injEq, and_true] at he
                obtain ⟨rfl, rfl, rfl, hz0⟩ := he
                subst hoff0
                have hlen : (cel row l sp).length = l.length * s + sp.length := by
                  unfold AM.cel
                  rw [List.length_append, List.length_map, flat_length (s := s) _ (by intro x hx; obtain ⟨z, _, rfl⟩ := List.mem_map.1 hx; exact hrow z), List.length_map]
                have hle : lo * s + n' * s ≤ l.length * s := by rw [← Nat.add_mul]; exact Nat.mul_le_mul_right s h
                have hcl := OpT.clearV (P := P) (G := G) (n0 := n0) ho rfl hu hti hz c1 hx hb (by rw [hlen, c2]; omega)
                have hw : Wks (H.set i (.cells ((cel row l sp).take (lo * s) ++ (List.replicate n' (z.cells.toList.map PV.sc)).flatten ++ (cel row l sp).drop (lo * s + n' * z.cells.size)))) false
                    ((cel row l sp).take (lo * s) ++ (List.replicate n' (z.cells.toList.map PV.sc)).flatten ++ (cel row l sp).drop (lo * s + n' * z.cells.size)) (cel row (l.take lo ++ List.replicate n' z0 ++ l.drop (lo + n')) sp) := by
                  have hp := flat_put hrow (List.replicate n' z0) (sp.map PV.sc) l lo (by rw [List.length_replicate]; exact h)
                  rw [List.length_replicate] at hp
                  unfold AM.cel
                  rw [hp, c2, List.map_replicate]
                  refine Wks.append (Wks.append (Wks.refl _ _ _) (wks_rep ?_ n')) (Wks.refl _ _ _)
                  rw [← hz0]
                  exact lows_wks _ _ _ _
                have hil := (List.getElem?_eq_some_iff.1 hb).1
                refine OpT.wkc i hcl (List.getElem?_set_self hil) hw ?_ ?_
                · exact PV.idss_mono (fun _ hf => by cases hf) _ (cel_closed hclosed _ _)
                · rw [List.set_set]
              · cases hr
            · cases hr
          · cases hr
        · cases hr
      · cases hr
    · cases hr
end
end Go.AM

/- A call whose body is followed in place: the callee works on all blocks of the caller. No condition. -/
import Derived.Test.YtdpogkakaeeccaaDoorA20
namespace Go.AM
mutual
theorem VR.idsLt {S : Nat → Nat → Prop} {β : List Bnd} {w : World} : ∀ (p : PV) (u : Value), VR S β w p u → p.ids (fun j => decide (j < β.length)) = true
  | .sc _, _, _ | .ro _ _, _, _ | .sl _ _, _, _ | .z, _, _ => by simp only [PV.ids]
  | .agg cs, u, h => by
    simp only [VR] at h
    obtain ⟨us, _, h⟩ := h
    simp only [PV.ids]; exact VRs.idsLt cs _ h
  | .tup cs, u, h => by
    simp only [VR] at h
    obtain ⟨us, _, h⟩ := h
    simp only [PV.ids]; exact VRs.idsLt cs _ h
  | .fn f cs, u, h => by
    simp only [VR] at h
    obtain ⟨us, _, h⟩ := h
    simp only [PV.ids]; exact VRs.idsLt cs _ h
  | .ptr i off, u, h => by
    simp only [VR] at h
    obtain ⟨e, h, _⟩ := h
    simpa only [PV.ids, decide_eq_true_eq] using (List.getElem?_eq_some_iff.1 h).1
  | .mp i, u, h => by
    simp only [VR] at h
    obtain ⟨e, h, _⟩ := h
    simpa only [PV.ids, decide_eq_true_eq] using (List.getElem?_eq_some_iff.1 h).1
  | .vw i off n, u, h => by
    simp only [VR] at h
    obtain ⟨e, h, _⟩ := h
    simpa only [PV.ids, decide_eq_true_eq] using (List.getElem?_eq_some_iff.1 h).1
  | .own i n, u, h => by
    simp only [VR] at h
    obtain ⟨_, e, h, _⟩ := h
    simpa only [PV.ids, decide_eq_true_eq] using (List.getElem?_eq_some_iff.1 h).1
  | .ow i n lo hi, u, h => by
    simp only [VR] at h
    obtain ⟨_, e, h, _⟩ := h
    simpa only [PV.ids, decide_eq_true_eq] using (List.getElem?_eq_some_iff.1 h).1
  | .ept i n k off, u, h => by
    simp only [VR] at h
    obtain ⟨_, e, h, _⟩ := h
    simpa only [PV.ids, decide_eq_true_eq] using (List.getElem?_eq_some_iff.1 h).1
theorem VRs.idsLt {S : Nat → Nat → Prop} {β : List Bnd} {w : World} : ∀ (ps : List PV) (us : List Value), VRs S β w ps us → PV.idss (fun j => decide (j < β.length)) ps = true
  | [], _, _ => by simp only [PV.idss]
  | _ :: _, [], h => by simp only [VRs] at h
  | p :: ps, u :: us, h => by
    simp only [VRs] at h
    simp only [PV.idss, Bool.and_eq_true]
    exact ⟨VR.idsLt p u h.1, VRs.idsLt ps us h.2⟩
end
section
variable {P : Program} {G : Glob} {n0 nt : Nat} {o : Oper} {st : St} {H : List Blk} {ops : Array Oper} {Q : Exit → St → List Blk → Prop}
/-- The end of a body that is followed in place. -/
def InQ (P : Program) (rs : Array ResultVar) (n0 : Nat) (p : PV) (H' : List Blk) (e : Exit) (st : St) (K : List Blk) : Prop := (e = .normal ∨ e = .ret) ∧ ares P st K rs = some p ∧ ∃ m, n0 ≤ m ∧ p.ids (fun j => decide (j < m)) = true ∧ H' = K.take m
theorem OpW.inline {cl : Call} {x : Operand} {f : FuncId} {fn : Func} {code : Code} {ps caps : List PV} {p : PV} {H' : List Blk} (ho : o.op = .call cl) (hc : cl.callee = .value x)
    (hx : (opd G st x = some (.sc (.func (.func f) #[] #[])) ∧ caps = []) ∨ opd G st x = some (.fn f caps)) (hfn : P.funcs[f]? = some fn) (hb : fn.body = some code) (hname : (fn.name == "runtime.NumGoroutine") = false)
    (hargs : cl.args.toList.map (opd G st) = ps.map some) (hnt : (ps ++ caps).length ≤ fn.ntmps) (h : AWP P G H.length fn.ntmps code (InQ P fn.results H.length p H') (numb 0 (ps ++ caps)) H) : OpW P G n0 o st H p H' := by
  intro c a w β h0 hr
  have hxv : ∃ us, a.eval x = .func (.func f) #[] us ∧ VRs (stab c β H w) β w caps us.toList := by
    rcases hx with ⟨hx, rfl⟩ | hx
    · have := hr.opd hx
      simp only [VR] at this
      exact ⟨#[], this, by simp only [VRs]⟩
    · have := hr.opd hx
      simp only [VR] at this
      exact this
  obtain ⟨us, hxe, hus⟩ := hxv
  have hex : (execOp a.eval o).run P w = .ok (.enter f (cl.args.map a.eval ++ us)) w := by
    have hn : ¬ fn.name = "runtime.NumGoroutine" := by simpa using hname
    have hb' : ¬ fn.body = none := by rw [hb]; simp
    simp [execOp, ho, resolve, hc, hxe, Deferred.ofValue, invoke, callFunc, hfn, hn, hb']
  have hv : VRs (stab c β H w) β w (ps ++ caps) (cl.args.map a.eval ++ us).toList := by
    have h1 := VRs.of_opds hr cl.args.toList ps hargs
    simpa using VRs.append _ _ _ _ h1 hus
  simp only [wpv, hex]
  refine calls_of_wp hfn hb ?_
  have hg := hr.ghost (g := st.map fun x => (x.2, a.tmps.getD x.1 undef)) (fun x hx => by
    obtain ⟨y, hy, rfl⟩ := List.mem_map.1 hx
    exact (hr.slots y hy).2)
  have hcl := VRs.length _ _ hv
  have hlen : c.β0.length ≤ H.length := by
    obtain ⟨γ, hγ⟩ := hr.pre
    rw [← hr.len, hγ, List.length_append]; omega
  let c' : Ctx := { c with nt := fn.ntmps, gh := (st.map fun x => (x.2, a.tmps.getD x.1 undef)) ++ c.gh }
  have hrel : RelB G c' β (numb 0 (ps ++ caps)) H { tmps := (cl.args.map a.eval ++ us) ++ Array.replicate (fn.ntmps - (cl.args.map a.eval ++ us).size) undef, defers := [] } w := by
    refine ⟨⟨hr.ok.old, hr.ok.glob, hr.ok.low, hr.ok.down⟩, hr.len, hr.pre, hr.blk, hr.inj, hr.loc, hr.cel, fun x hx' => ?_, ?_, rfl, ⟨hr.frm.os, hr.frm.tape, hr.frm.output, hr.frm.size, hr.frm.block, hr.frm.typ⟩, hg.gh⟩
    · obtain ⟨j, u, h1, h2, h3⟩ := numb_slots (ps ++ caps) (cl.args.map a.eval ++ us).toList 0 hv x hx'
      have hj : j < (cl.args.map a.eval ++ us).size := by have := (List.getElem?_eq_some_iff.1 h2).1; simpa using this
      simp only [Nat.zero_add] at h1
      refine ⟨?_, ?_⟩
      · show x.1 < fn.ntmps
        rw [Array.length_toList] at hcl; omega
      · have : ((cl.args.map a.eval ++ us) ++ Array.replicate (fn.ntmps - (cl.args.map a.eval ++ us).size) undef).getD x.1 undef = u := by
          rw [Array.getD_eq_getD_getElem?, h1, Array.getElem?_append_left hj]
          rw [Array.getElem?_toList] at h2; rw [h2]; rfl
        rw [this]
        exact h3
    · show ((cl.args.map a.eval ++ us) ++ Array.replicate (fn.ntmps - (cl.args.map a.eval ++ us).size) undef).size = fn.ntmps
      rw [Array.size_append, Array.size_replicate]
      rw [Array.length_toList] at hcl; omega
  have hfit : c'.fit H.length := ⟨hlen, fun x hx => by
    have := VR.idsLt _ _ (hg.gh x hx)
    rwa [hr.len] at this⟩
  refine wp_mono (h c' _ w β hfit rfl hrel) fun e a' w' ⟨st', K, β', hq, hr'⟩ => ?_
  obtain ⟨he, hp, m, hm, hpm, rfl⟩ := hq
  obtain ⟨v, g1, g2⟩ := run_res (P := P) hr' hp
  have hg2 := hr'.ghost (g := [(p, v)]) (fun x hx => by rw [List.mem_singleton.1 hx]; exact g2)
  have hd := hg2.drop (m := m) (st' := []) (Nat.le_trans hlen hm) (fun x hx => by
    rcases List.mem_append.1 hx with hx | hx
    · rw [List.mem_singleton.1 hx]; exact hpm
    · have hx' : x ∈ (st.map fun x => (x.2, a.tmps.getD x.1 undef)) ++ c.gh := hx
      have := VR.idsLt _ _ (hg.gh x hx')
      exact PV.ids_mono (fun j hj => by simp only [decide_eq_true_eq] at hj ⊢; rw [hr.len] at hj; omega) _ this) (fun x hx => by cases hx)
  have fin : ∃ β', RelB G c β' st (K.take m) a w' ∧ VR (stab c β' (K.take m) w') β' w' p v :=
    ⟨_, ⟨⟨hd.ok.old, hd.ok.glob, hd.ok.low, hd.ok.down⟩, hd.len, hd.pre, hd.blk, hd.inj, hd.loc, hd.cel, fun x hx => ⟨(hr.slots x hx).1, hd.gh (x.2, a.tmps.getD x.1 undef) (List.mem_append_right _ (List.mem_append_left _ (List.mem_map_of_mem hx)))⟩, hr.nt, hr.dfr,
      ⟨hd.frm.os, hd.frm.tape, hd.frm.output, hd.frm.size, hd.frm.block, hd.frm.typ⟩, fun x hx => hd.gh x (List.mem_append_right _ (List.mem_append_right _ hx))⟩, hd.gh (p, v) (List.mem_append_left _ (List.mem_singleton.2 rfl))⟩
  rcases he with rfl | rfl
  all_goals exact ⟨hr'.dfr, v, g1, v, rfl, fin⟩
end
end Go.AM

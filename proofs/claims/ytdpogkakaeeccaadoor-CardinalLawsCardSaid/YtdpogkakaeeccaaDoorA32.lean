/- A call that turns the elements of a buffer and returns a first part of it, which is only read from then on. No condition. -/
import Derived.Test.YtdpogkakaeeccaaDoorA31
namespace Go.AM
section
variable {P : Program} {G : Glob} {n0 nt : Nat} {o : Oper} {st : St} {H : List Blk}
theorem OpW.callBs {cl : Call} {x : Operand} {f : FuncId} {fn : Func} {i s t k : Nat} {xs ys : List (List PV)} {rest : List PV}
    (ho : o.op = .call cl) (hc : cl.callee = .value x) (hx : opd G st x = some (.sc (.func (.func f) #[] #[])))
    (hfn : P.funcs[f]? = some fn) (hbody : fn.body.isNone = false) (hname : (fn.name == "runtime.NumGoroutine") = false)
    (hargs : cl.args.toList.map (opd G st) = (.own i xs.length :: rest).map some) (hrest : PV.idss (fun _ => false) rest = true) (hb : H[i]? = some (.buf s t xs false)) (hne : xs ≠ [])
    (hlen : ys.length = xs.length) (hys : ∀ y ∈ ys, y.length = s) (hk : k ≤ ys.length)
    (hcall : ∀ sp : List Value, ACall P G f (.vw 0 0 xs.length :: rest) [.cells (xs.flatten ++ sp.map .sc)] (fun q K => q = .vw 0 0 k ∧ K = [.cells (ys.flatten ++ sp.map .sc)])) :
    OpW P G n0 o st H (.sl s (ys.take k)) (H.set i (.buf s t ys true)) := by
  intro c a w β h0 hr
  have hv := VRs.of_opds hr cl.args.toList _ hargs
  have hlv := VRs.length _ _ hv
  obtain ⟨u, us, hus⟩ : ∃ u us, cl.args.toList.map a.eval = u :: us := by
    cases hq : cl.args.toList.map a.eval with
    | nil => rw [hq] at hlv; simp at hlv
    | cons u us => exact ⟨u, us, rfl⟩
  rw [hus] at hv
  simp only [VRs] at hv
  obtain ⟨hv1, hv2⟩ := hv
  simp only [VR] at hv1
  obtain ⟨_, e, he, _, hve⟩ := hv1
  obtain ⟨q1, _⟩ := hr.blk i e _ he hb
  have hve := hve q1.symm
  obtain ⟨g, cap, sp, k1, k2, k3, k4⟩ := hr.callB he hb hne hlen hys
  have hxe := hr.opd hx
  simp only [VR] at hxe
  have hex : (execOp a.eval o).run P w = .ok (.enter f (cl.args.map a.eval)) w := by
    have hn : ¬ fn.name = "runtime.NumGoroutine" := by simpa using hname
    have hb : ¬ fn.body = none := by cases hq : fn.body <;> simp [hq] at hbody ⊢
    simp [execOp, ho, resolve, hc, hxe, Deferred.ofValue, invoke, callFunc, hfn, hn, hb]
  simp only [wpv, hex]
  refine (hcall sp _ _ w (cl.args.map a.eval) k3 ?_).mono ?_
  · have : (cl.args.map a.eval).toList = u :: us := by simpa using hus
    rw [this]
    simp only [VRs]
    refine ⟨?_, VRs.closed (Ext.refl _ _) hrest hv2⟩
    simp only [VR]
    exact ⟨_, rfl, cap, _, k1, by rw [hve, k2], fun _ => rfl⟩
  · rintro ex w' ⟨v, q, K, γ, rfl, ⟨rfl, rfl⟩, hout, hvr⟩
    obtain ⟨rfl, g1, g2, g3, g4⟩ := k4 γ w' hout
    have hil := (List.getElem?_eq_some_iff.1 hb).1
    have hs := g1.share (List.getElem?_set_self hil)
    rw [List.set_set] at hs
    refine ⟨v, rfl, _, hs, ?_⟩
    simp only [VR] at hvr
    obtain ⟨e1, he1, cap', ad, hcap, rfl, had⟩ := hvr
    simp at he1
    subst he1
    by_cases hk0 : k = 0
    · subst hk0
      simp only [VR]
      exact ⟨ad, cap', by simp, by simp, .inl (by simp)⟩
    · have hbl : i < β.length := (List.getElem?_eq_some_iff.1 he).1
      have := hs.ow_sl (i := i) (n := ys.length) (lo := 0) (hi := k) (List.getElem?_set_self hil) rfl (by omega) hk (u := .slice ad k cap') (by
        simp only [VR]
        refine ⟨rfl, _, List.getElem?_set_self hbl, Nat.le_refl _, fun _ => ⟨g, cap', by rw [k2]; rfl, hcap, ?_⟩⟩
        rw [had hk0]
        simp)
      simpa using this
variable {α : Type}
def Hnd.callBs {f : FuncId} {fn : Func} (row : α → List PV) {s k : Nat} {l l' : List α} {rest : List PV} (hfn : P.funcs[f]? = some fn) (hrow : ∀ z, (row z).length = s) (hne : l ≠ []) (hlen : l'.length = l.length) (hk : k ≤ l'.length)
    (hc : ∀ sp, ACall P G f (.vw 0 0 l.length :: rest) [.cells (cel row l sp)] (fun q K => q = .vw 0 0 k ∧ K = [.cells (cel row l' sp)])) : Hnd P G where
  run o st H := match o.op with
    | .call cl => match cl.callee with
      | .value x => match opd G st x, opdL G st cl.args.toList with
        | some px, some (.own i n :: rest') => match H[i]? with
          | some (.buf s' t xs false) =>
            if fn.body.isNone = false ∧ (fn.name == "runtime.NumGoroutine") = false ∧ PV.idss (fun _ => false) rest = true ∧ Nat.beq s s' = true then
              some ⟨.sl s' ((l'.take k).map row), H.set i (.buf s' t (l'.map row) true), [.p px, .n n, .ps rest', .rs xs], [.p (.sc (.func (.func f) #[] #[])), .n l.length, .ps rest, .rs (l.map row)]⟩
            else none
          | _ => none
        | _, _ => none
      | _ => none
    | _ => none
  sound := by
    intro n0 o st H x h he
    split at h
    · rename_i cl ho
      split at h
      · rename_i x hcl
        split at h
        · rename_i px i n rest' hx hps
          split at h
          · rename_i s' t xs hb
            split at h
            · rename_i hcond
              obtain ⟨c1, c2, c3, c5⟩ := hcond
              simp only [Option.some.injEq] at h
              subst h
              simp only [List.cons.injEq, T.p.injEq, T.ps.injEq, T.n.injEq, T.rs.injEq, and_true] at he
              obtain ⟨rfl, rfl, rfl, rfl⟩ := he
              have c5 := Nat.eq_of_beq_eq_true c5
              subst c5
              have hl1 : (l.map row).length = l.length := List.length_map ..
              have := OpW.callBs (n0 := n0) (xs := l.map row) (ys := l'.map row) (k := k) ho hcl hx hfn c1 c2 (by rw [hl1]; exact opdL_spec _ _ hps) c3 hb (by simpa using hne) (by simpa using hlen) (by
                intro y hy
                obtain ⟨z, _, rfl⟩ := List.mem_map.1 hy
                exact hrow z) (by simpa using hk) (fun sp => by rw [hl1]; exact hc sp)
              rw [← List.map_take] at this
              exact this
            · cases h
          · cases h
        · cases h
      · cases h
    · cases h
end
end Go.AM

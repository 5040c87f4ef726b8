/- Calls of closures; places known at run time only, within elements of owned buffers. No condition. -/
import Derived.Test.YtdpogkakaeeccaaDoorA32
namespace Go.AM
section
variable {P : Program} {G : Glob} {n0 nt : Nat} {o : Oper} {st : St} {H : List Blk}
/-- A call of a closure, by its promise. -/
def Hnd.callF {f : FuncId} {fn : Func} {args0 : List PV} {H0 H1 : List Blk} {p1 : PV} (hfn : P.funcs[f]? = some fn) (ws : List Ow) (hc : ACall P G f args0 H0 (fun q K => q = p1 ∧ K = H1)) : Hnd P G where
  run o st H := match o.op with
    | .call cl => match cl.callee with
      | .value x => match opd G st x, opdL G st cl.args.toList with
        | some (.fn f' caps), some ps => match wkArgs P H false fn.params.toList ps ws with
          | some (qs, l, r) =>
            let σ := ptrsOf (ps ++ caps)
            if fn.body.isNone = false ∧ (fn.name == "runtime.NumGoroutine") = false ∧ σ.Pairwise (· < ·) ∧ H0.all Blk.isCells = true then
              some ⟨p1.ren (renId σ H.length), setAll σ (H1.map (Blk.ren (renId σ H.length))) H, .n f' :: .ps (qs ++ caps) :: .bs (H0.map (fun k => some (k.ren (renId σ H.length)))) :: l,
                .n f :: .ps (PV.rens (renId σ H.length) args0) :: .bs (σ.map (H[·]?)) :: r⟩
            else none
          | _ => none
        | _, _ => none
      | _ => none
    | _ => none
  sound := by
    intro n0 o st H x h he
    suffices hT : OpT P G n0 o st H x.p x.H from hT.weak
    split at h
    · rename_i cl ho
      split at h
      · rename_i x hcl
        split at h
        · rename_i f' caps ps hx hps
          split at h
          · rename_i qs l r hw
            simp only [] at h
            split at h
            · rename_i hcond
              obtain ⟨c1, c2, c3, c4⟩ := hcond
              simp only [Option.some.injEq] at h
              subst h
              simp only [List.cons.injEq, T.n.injEq, T.ps.injEq, T.bs.injEq] at he
              obtain ⟨h1, h2, h3, h4⟩ := he
              subst h1
              exact OpT.call (caps := caps) ho hcl (.inr hx) hfn c1 c2 (opdL_spec _ _ hps) (Wks.append (wkArgs_wks _ _ _ _ hw h4) (Wks.refl _ _ _)) h2 c3 c4 h3 hc rfl rfl
            · cases h
          · cases h
        · cases h
      · cases h
    · cases h
variable {α β : Type}
/-- A place of an array within an element of an owned buffer. -/
def Hnd.ixE (row : α → List PV) (l : List α) (k : Int) {n : Nat} {j : Int} (h : 0 ≤ j ∧ j < (n : Int)) {m0 : Nat} (hm : l.length = m0 := by rfl) : Hnd P G where
  run o st H := match o.op with
    | .indexAddr t x y => match P.underlying t, opd G st x, opd G st y with
      | some (.array n' e), some (.ept i m q off), some (.sc (.int _ j')) => match H[i]? with
        | some (.buf _ _ xs _) => if Nat.beq (P.cellsOf e) 0 then none else some ⟨.ept i m0 k.toNat (off + j.toNat * P.cellsOf e), H, [.n m, .n q, .rs xs, .n n', .i j'], [.n m0, .n k.toNat, .rs (l.map row), .n n, .i j]⟩
        | _ => none
      | _, _, _ => none
    | _ => none
  sound := by
    intro n0 o st H x hr he
    subst hm
    suffices hT : OpT P G n0 o st H x.p x.H from hT.weak
    split at hr
    · rename_i t x y ho
      split at hr
      · rename_i n' e i m q off k' j' hu hx hy
        split at hr
        · rename_i s ty xs sh hb
          split at hr
          · cases hr
          · rename_i hz
            simp only [Option.some.injEq] at hr; subst hr
            simp only [List.cons.injEq, T.n.injEq, T.i.injEq, T.rs.injEq, and_true] at he
            obtain ⟨rfl, rfl, rfl, rfl, rfl⟩ := he
            exact OpT.index_ept ho hu (fun h0 => hz (by rw [h0]; rfl)) hy h.1 h.2 hx hb (by rw [List.length_map])
        · cases hr
      · cases hr
    · cases hr
/-- What is read there. -/
def Hnd.ldEd (row : α → List PV) {l : List α} {k : Int} {z : α} (hz : AM.idx l k = some z) (rowe : β → List PV) (get : Int → β) (off s d : Nat) {n : Nat} {j : Int} (h : 0 ≤ j ∧ j < (n : Int)) {m0 : Nat} (hm : l.length = m0 := by rfl) : Hnd P G where
  run o st H := match o.op with
    | .load t x => match opd G st x with
      | some (.ept i m q off') => match H[i]? with
        | some (.buf _ _ xs _) => if P.cellsOf t + d ≤ s ∧ d < s then (ldPV P t ((rowe (get j)).drop d)).map fun p => ⟨p, H, [.n m, .n q, .rs xs, .n off', .rs (elemsL (row z) off s n)], [.n m0, .n k.toNat, .rs (l.map row), .n (off + j.toNat * s + d), .rs (elemsR rowe get n)]⟩ else none
        | _ => none
      | _ => none
    | _ => none
  sound := by
    intro n0 o st H x hr he
    subst hm
    suffices hT : OpT P G n0 o st H x.p x.H from hT.weak
    split at hr
    · rename_i t x ho
      split at hr
      · rename_i i m q off' hx
        split at hr
        · rename_i s' ty xs sh hb
          split at hr
          · rename_i hc
            simp only [Option.map_eq_some_iff] at hr
            obtain ⟨p, hp, rfl⟩ := hr
            simp only [List.cons.injEq, T.rs.injEq, T.n.injEq, and_true] at he
            obtain ⟨rfl, rfl, rfl, rfl, h5⟩ := he
            exact OpT.loadEptT ho hx hb hz (ld_of h h5 hc.1 hc.2 hp)
          · cases hr
        · cases hr
      · cases hr
    · cases hr
/-- What is written there. -/
def Hnd.stEd (row : α → List PV) {l : List α} {k : Int} {z : α} (hz : AM.idx l k = some z) (nz : Int → α) (off s d : Nat) {n : Nat} {j : Int} (h : 0 ≤ j ∧ j < (n : Int)) {m0 : Nat} (hm : l.length = m0 := by rfl) : Hnd P G where
  run o st H := match o.op with
    | .store t x y => match opd G st x, opd G st y with
      | some (.ept i m q off'), some p => match H[i]? with
        | some (.buf s' ty xs false) => if Nat.beq (P.cellsOf t) p.cells.length && (P.info? t).isSome && Nat.ble (off + n * s) (row z).length && Nat.ble (d + p.cells.length) s && p.cells.all PV.one && PV.idss (fun _ => false) p.cells then
            some ⟨.sc undef, H.set i (.buf s' ty ((l.set k.toNat (nz j)).map row) false), [.n m, .n q, .rs xs, .n off', .rs ((List.range n).map fun q : Nat => row (nz (q : Int)))],
              [.n m0, .n k.toNat, .rs (l.map row), .n (off + j.toNat * s + d), .rs ((List.range n).map fun q : Nat => (row z).take (off + q * s + d) ++ p.cells ++ (row z).drop (off + q * s + d + p.cells.length))]⟩ else none
        | _ => none
      | _, _ => none
    | _ => none
  sound := by
    intro n0 o st H x hr he
    subst hm
    suffices hT : OpT P G n0 o st H x.p x.H from hT.weak
    split at hr
    · rename_i t x y ho
      split at hr
      · rename_i i m q off' p hx hy
        split at hr
        · rename_i s' ty xs hb
          split at hr
          · rename_i hc
            simp only [Bool.and_eq_true] at hc
            obtain ⟨⟨⟨⟨⟨c1, c2⟩, c3⟩, c3'⟩, c4⟩, c5⟩ := hc
            simp only [Option.some.injEq] at hr
            subst hr
            simp only [List.cons.injEq, T.rs.injEq, T.n.injEq, and_true] at he
            obtain ⟨rfl, rfl, rfl, rfl, h5⟩ := he
            have hq : j.toNat < n := by omega
            have h6 := map_range_inj h5 hq
            rw [show ((j.toNat : Nat) : Int) = j by omega] at h6
            have hm : (j.toNat + 1) * s ≤ n * s := Nat.mul_le_mul_right s hq
            rw [Nat.add_mul, Nat.one_mul] at hm
            have c3 := Nat.le_of_ble_eq_true c3
            have c3' := Nat.le_of_ble_eq_true c3'
            exact OpT.storeEptT ho hx hy hb hz c1 c2 (Nat.ble_eq_true_of_le (by omega)) c4 c5 h6 rfl rfl
          · cases hr
        · cases hr
      · cases hr
    · cases hr
end
end Go.AM

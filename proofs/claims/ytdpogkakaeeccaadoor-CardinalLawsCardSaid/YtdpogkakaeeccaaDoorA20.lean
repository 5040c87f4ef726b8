/- Places in arrays that are known only at run time; regions that come to a state that is given; short forms. No condition. -/
import Derived.Test.YtdpogkakaeeccaaDoorA19
namespace Go.AM
section
variable {P : Program} {G : Glob} {n0 nt : Nat} {o : Oper} {st : St} {H : List Blk} {ops : Array Oper} {Q : Exit → St → List Blk → Prop}

theorem ldPV_take {t : TypeId} {m : Nat} {cs : List PV} {p : PV} (h : P.cellsOf t ≤ m) (hm : 0 < m) (hl : ldPV P t (cs.take m) = some p) : ldPV P t cs = some p := by
  unfold ldPV at hl ⊢
  split at hl
  · split at hl
    · rename_i hle
      rw [List.length_take] at hle
      rw [if_pos (by omega)]
      rw [List.take_take, Nat.min_eq_left h] at hl
      exact hl
    · cases hl
  · cases cs with
    | nil => simp at hl
    | cons c cs => obtain ⟨k, rfl⟩ : ∃ k, m = k + 1 := ⟨m - 1, by omega⟩; simpa using hl
  · cases hl
theorem map_range_inj {β : Type} {f g : Nat → β} {n : Nat} (h : (List.range n).map f = (List.range n).map g) {q : Nat} (hq : q < n) : f q = g q := List.map_inj_left.1 h q (List.mem_range.2 hq)
variable {α : Type}
/-- The elements of an array within cells. -/
def elemsL (cs : List PV) (off s n : Nat) : List (List PV) := (List.range n).map fun q : Nat => (cs.drop (off + q * s)).take s
def elemsR (row : α → List PV) (get : Int → α) (n : Nat) : List (List PV) := (List.range n).map fun q : Nat => row (get (q : Int))
theorem elem_of {row : α → List PV} {get : Int → α} {cs : List PV} {off s n : Nat} {j : Int} (h : 0 ≤ j ∧ j < (n : Int)) (he : elemsL cs off s n = elemsR row get n) : (cs.drop (off + j.toNat * s)).take s = row (get j) := by
  unfold elemsL elemsR at he
  have := map_range_inj he (q := j.toNat) (by omega)
  rw [this, show ((j.toNat : Nat) : Int) = j by omega]
theorem ld_of {row : α → List PV} {get : Int → α} {cs : List PV} {off s d n : Nat} {j : Int} {t : TypeId} {p : PV} (h : 0 ≤ j ∧ j < (n : Int)) (he : elemsL cs off s n = elemsR row get n) (hc : P.cellsOf t + d ≤ s) (hd : d < s)
    (hl : ldPV P t ((row (get j)).drop d) = some p) : ldPV P t (cs.drop (off + j.toNat * s + d)) = some p := by
  rw [← elem_of h he, List.drop_take, List.drop_drop] at hl
  exact ldPV_take (m := s - d) (by omega) (by omega) hl
/-- The address of an element of an array. -/
def Hnd.ixd {n : Nat} {j : Int} (h : 0 ≤ j ∧ j < (n : Int)) : Hnd P G where
  run o st H := match o.op with
    | .indexAddr t x y => match P.underlying t, opd G st y with
      | some (.array n' e), some (.sc (.int _ j')) => if Nat.beq (P.cellsOf e) 0 = false ∧ Nat.beq n' n = true then match opd G st x with
        | some (.ptr i off) => some ⟨.ptr i (off + j.toNat * P.cellsOf e), H, [.i j'], [.i j]⟩
        | some (.ro cs off) => some ⟨.ro cs (off + j.toNat * P.cellsOf e), H, [.i j'], [.i j]⟩
        | _ => none
        else none
      | _, _ => none
    | _ => none
  sound := by
    intro n0 o st H x hr he
    suffices hT : OpT P G n0 o st H x.p x.H from hT.weak
    split at hr
    · rename_i t x y ho
      split at hr
      · rename_i n' e k j' hu hy
        split at hr
        · rename_i hc
          have hn := Nat.eq_of_beq_eq_true hc.2
          subst hn
          have hz : P.cellsOf e ≠ 0 := fun h0 => by have := hc.1; rw [h0] at this; cases this
          split at hr
          · rename_i i off hx
            simp only [Option.some.injEq] at hr; subst hr
            simp only [List.cons.injEq, T.i.injEq, and_true] at he
            subst he
            exact OpT.index_arr ho hu hz hy h.1 h.2 hx rfl
          · rename_i cs off hx
            simp only [Option.some.injEq] at hr; subst hr
            simp only [List.cons.injEq, T.i.injEq, and_true] at he
            subst he
            exact OpT.index_arr ho hu hz hy h.1 h.2 hx rfl
          · cases hr
        · cases hr
      · cases hr
    · cases hr
/-- What is read there. -/
def Hnd.ldA (row : α → List PV) (get : Int → α) (off s d : Nat) {n : Nat} {j : Int} (h : 0 ≤ j ∧ j < (n : Int)) : Hnd P G where
  run o st H := match o.op with
    | .load t x => if P.cellsOf t + d ≤ s ∧ d < s then match opd G st x with
      | some (.ptr i off') => match H[i]? with
        | some (.cells cs) => (ldPV P t ((row (get j)).drop d)).map fun p => ⟨p, H, [.n off', .rs (elemsL cs off s n)], [.n (off + j.toNat * s + d), .rs (elemsR row get n)]⟩
        | _ => none
      | some (.ro cs off') => (ldPV P t ((row (get j)).drop d)).map fun p => ⟨p, H, [.n off', .rs (elemsL cs off s n)], [.n (off + j.toNat * s + d), .rs (elemsR row get n)]⟩
      | _ => none
      else none
    | _ => none
  sound := by
    intro n0 o st H x hr he
    suffices hT : OpT P G n0 o st H x.p x.H from hT.weak
    split at hr
    · rename_i t x ho
      split at hr
      · rename_i hc
        split at hr
        · rename_i i off' hx
          split at hr
          · rename_i cs hb
            simp only [Option.map_eq_some_iff] at hr
            obtain ⟨p, hp, rfl⟩ := hr
            simp only [List.cons.injEq, T.n.injEq, T.rs.injEq, and_true] at he
            obtain ⟨rfl, h2⟩ := he
            exact OpT.load_ptr ho hx hb (ld_of h h2 hc.1 hc.2 hp)
          · cases hr
        · rename_i cs off' hx
          simp only [Option.map_eq_some_iff] at hr
          obtain ⟨p, hp, rfl⟩ := hr
          simp only [List.cons.injEq, T.n.injEq, T.rs.injEq, and_true] at he
          obtain ⟨rfl, h2⟩ := he
          exact OpT.load_ro ho hx (ld_of h h2 hc.1 hc.2 hp)
        · cases hr
      · cases hr
    · cases hr
/-- The same, of an array that is a value. -/
def Hnd.ixA (row : α → List PV) (get : Int → α) {n : Nat} {j : Int} (h : 0 ≤ j ∧ j < (n : Int)) : Hnd P G where
  run o st H := match o.op with
    | .index t x y => match P.underlying t, opd G st y with
      | some (.array n' e), some (.sc (.int _ j')) => if Nat.beq (P.cellsOf e) 0 = false ∧ Nat.beq n' n = true then match opd G st x with
        | some (.agg cs) => (ldPV P e (row (get j))).map fun p => ⟨p, H, [.i j', .rs (elemsL cs 0 (P.cellsOf e) n)], [.i j, .rs (elemsR row get n)]⟩
        | some (.sc (.agg us)) => (ldPV P e (row (get j))).map fun p => ⟨p, H, [.i j', .rs (elemsL (us.toList.map .sc) 0 (P.cellsOf e) n)], [.i j, .rs (elemsR row get n)]⟩
        | _ => none
        else none
      | _, _ => none
    | _ => none
  sound := by
    intro n0 o st H x hr he
    suffices hT : OpT P G n0 o st H x.p x.H from hT.weak
    split at hr
    · rename_i t x y ho
      split at hr
      · rename_i n' e k j' hu hy
        split at hr
        · rename_i hc
          have hn := Nat.eq_of_beq_eq_true hc.2
          subst hn
          have hz : P.cellsOf e ≠ 0 := fun h0 => by have := hc.1; rw [h0] at this; cases this
          split at hr
          · rename_i cs hx
            simp only [Option.map_eq_some_iff] at hr
            obtain ⟨p, hp, rfl⟩ := hr
            simp only [List.cons.injEq, T.i.injEq, T.rs.injEq, and_true] at he
            obtain ⟨rfl, h2⟩ := he
            have := ld_of (off := 0) (d := 0) (t := e) h h2 (by omega) (by omega) hp
            rw [Nat.zero_add, Nat.add_zero] at this
            exact OpT.index_agg ho hu hz hx hy h.1 h.2 this
          · rename_i us hx
            simp only [Option.map_eq_some_iff] at hr
            obtain ⟨p, hp, rfl⟩ := hr
            simp only [List.cons.injEq, T.i.injEq, T.rs.injEq, and_true] at he
            obtain ⟨rfl, h2⟩ := he
            have := ld_of (off := 0) (d := 0) (t := e) h h2 (by omega) (by omega) hp
            rw [Nat.zero_add, Nat.add_zero] at this
            exact OpT.index_sc ho hu hz hx hy h.1 h.2 this
          · cases hr
        · cases hr
      · cases hr
    · cases hr
/-- What is written there. -/
def Hnd.stA (nc : Int → List PV) (off s d : Nat) {n : Nat} {j : Int} (h : 0 ≤ j ∧ j < (n : Int)) : Hnd P G where
  run o st H := match o.op with
    | .store t x y => match opd G st x, opd G st y with
      | some (.ptr i off'), some p0 =>
        let p := low P t p0
        match H[i]? with
        | some (.cells cs) => if Nat.beq (P.cellsOf t) p.cells.length = true ∧ Nat.beq (P.cellsOf t) p0.cells.length = true ∧ (P.info? t).isSome = true ∧ off + n * s ≤ cs.length ∧ d + p.cells.length ≤ s ∧ p0.cells.all PV.one = true ∧ PV.idss (fun j => decide (j < i)) p0.cells = true ∧ PV.isNil p0 = false then
            some ⟨.sc undef, H.set i (.cells (nc j)), [.n off', .rs ((List.range n).map fun q : Nat => cs.take (off + q * s + d) ++ p0.cells ++ cs.drop (off + q * s + d + p0.cells.length))], [.n (off + j.toNat * s + d), .rs ((List.range n).map fun q : Nat => nc (q : Int))]⟩ else none
        | _ => none
      | _, _ => none
    | _ => none
  sound := by
    intro n0 o st H x hr he
    suffices hT : OpT P G n0 o st H x.p x.H from hT.weak
    split at hr
    · rename_i t x y ho
      split at hr
      · rename_i i off' p0 hx hy
        simp only [] at hr
        split at hr
        · rename_i cs hb
          split at hr
          · rename_i hc
            obtain ⟨c0, c1, c2, c3, c4, c5, c6, _⟩ := hc
            have c0 := Nat.eq_of_beq_eq_true c0
            have c1 := Nat.eq_of_beq_eq_true c1
            simp only [Option.some.injEq] at hr; subst hr
            simp only [List.cons.injEq, T.n.injEq, T.rs.injEq, and_true] at he
            obtain ⟨rfl, h2⟩ := he
            have hq : j.toNat < n := by omega
            have := map_range_inj h2 hq
            rw [show ((j.toNat : Nat) : Int) = j by omega] at this
            rw [← this]
            have hm : (j.toNat + 1) * s ≤ n * s := Nat.mul_le_mul_right s hq
            rw [Nat.add_mul, Nat.one_mul] at hm
            exact OpT.store ho hx hy hb c1 c2 (by omega) c5 c6
          · cases hr
        · cases hr
      · cases hr
    · cases hr

/-! ### Regions that come to a given state -/
variable {S : St} {K : List Blk}
theorem AWP.rgT {id : Nat} (hs : List (Nat × Hnd P G)) (h : endOf (Reg nt ops hs (S.map (·.1)) st H) = some (S, K) := by kernel_rfl)
    (he : lefts (Reg nt ops hs (S.map (·.1)) st H) = rights (Reg nt ops hs (S.map (·.1)) st H) := by kernel_rfl) : AWP P G n0 nt (.region id ops false) (To S K) st H := AWP.rg hs S K (To.mk rfl rfl) h he
theorem ADraw.drT (hs : List (Nat × Hnd P G)) (k : Nat) (ord ch : List Nat) (sws : List (Nat × Nat)) (h : endOf (Dr n0 nt ops hs k ord ch sws (S.map (·.1)) st H) = some (S, K) := by kernel_rfl)
    (he : lefts (Dr n0 nt ops hs k ord ch sws (S.map (·.1)) st H) = rights (Dr n0 nt ops hs k ord ch sws (S.map (·.1)) st H) := by kernel_rfl) : ADraw P G n0 nt ops (To S K) st H := ADraw.dr hs k ord ch sws S K (To.mk rfl rfl) h he
theorem AWP.drT {id : Nat} (hs : List (Nat × Hnd P G)) (k : Nat) (ord ch : List Nat) (sws : List (Nat × Nat)) (hm : P.follows .mixedOrders = true := by kernel_rfl) (h : endOf (Dr n0 nt ops hs k ord ch sws (S.map (·.1)) st H) = some (S, K) := by kernel_rfl)
    (he : lefts (Dr n0 nt ops hs k ord ch sws (S.map (·.1)) st H) = rights (Dr n0 nt ops hs k ord ch sws (S.map (·.1)) st H) := by kernel_rfl) : AWP P G n0 nt (.region id ops true) (To S K) st H := AWP.of_draw hm (ADraw.drT hs k ord ch sws h he)
theorem AWP.dr {id : Nat} (hs : List (Nat × Hnd P G)) (k : Nat) (ord ch : List Nat) (sws : List (Nat × Nat)) (st' : St) (H' : List Blk) (hq : Q .normal st' H') (hm : P.follows .mixedOrders = true := by kernel_rfl) (h : endOf (Dr n0 nt ops hs k ord ch sws (st'.map (·.1)) st H) = some (st', H') := by kernel_rfl)
    (he : lefts (Dr n0 nt ops hs k ord ch sws (st'.map (·.1)) st H) = rights (Dr n0 nt ops hs k ord ch sws (st'.map (·.1)) st H) := by kernel_rfl) : AWP P G n0 nt (.region id ops true) Q st H := AWP.of_draw hm (ADraw.dr hs k ord ch sws st' H' hq h he)
theorem AWP.pk (m : Nat) (st' : St) (H' : List Blk) {x : Code} (h : AWP P G n0 nt x Q st' H') (hm : Nat.ble n0 m = true := by kernel_rfl) (hs : st.pick (st'.map (·.1)) = st' := by kernel_rfl) (hi : st'.all (fun x => x.2.ids (fun j => decide (j < m))) = true := by kernel_rfl) (hH : H.take m = H' := by kernel_rfl) : AWP P G n0 nt x Q st H :=
  AWP.keep (st'.map (·.1)) m hm hs hi hH h
theorem LeQ.pk {e : Exit} (ks : List Nat) (m : Nat) (h : Q e (st.pick ks) (H.take m)) (hm : Nat.ble n0 m = true := by kernel_rfl) (hi : (st.pick ks).all (fun x => x.2.ids (fun j => decide (j < m))) = true := by kernel_rfl) : LeQ G n0 nt Q e st H :=
  LeQ.keep ks m hm rfl hi rfl h
theorem LeQ.sr {e : Exit} {s t : Nat} {xs : List (List PV)} {sh : Bool} (i : Nat) (h : LeQ G n0 nt Q e st (H.set i (.buf s t xs true))) (hb : H[i]? = some (.buf s t xs sh) := by kernel_rfl) : LeQ G n0 nt Q e st H := LeQ.share i hb rfl h
theorem AWP.sr {x : Code} {s t : Nat} {xs : List (List PV)} {sh : Bool} (i : Nat) (h : AWP P G n0 nt x Q st (H.set i (.buf s t xs true))) (hb : H[i]? = some (.buf s t xs sh) := by kernel_rfl) : AWP P G n0 nt x Q st H := AWP.share i hb rfl h
theorem AWP.kp {x : Code} (ks : List Nat) (m : Nat) (h : AWP P G n0 nt x Q (st.pick ks) (H.take m)) (hm : Nat.ble n0 m = true := by kernel_rfl) (hi : (st.pick ks).all (fun x => x.2.ids (fun j => decide (j < m))) = true := by kernel_rfl) : AWP P G n0 nt x Q st H :=
  AWP.keep ks m hm rfl hi rfl h
/-- A branch, by what the computation says of its condition. -/
theorem AWP.cif {c : Operand} {t e : Code} {b : Bool} {γ : Type} {x y : Option γ} {r : γ} (h : (if b = true then x else y) = some r) (h1 : b = true → x = some r → AWP P G n0 nt t Q st H) (h2 : b = false → y = some r → AWP P G n0 nt e Q st H)
    (hx : opd G st c = some (.sc (.bool b)) := by kernel_rfl) : AWP P G n0 nt (.cond c t e) Q st H :=
  AWP.cond hx (fun hb => h1 hb (ifT h hb)) fun hb => h2 hb (ifF h hb)
theorem AWP.cT {c : Operand} {t e : Code} (h : AWP P G n0 nt t Q st H) (hx : opd G st c = some (.sc (.bool true)) := by kernel_rfl) : AWP P G n0 nt (.cond c t e) Q st H := AWP.condT hx rfl h
theorem AWP.cF {c : Operand} {t e : Code} (h : AWP P G n0 nt e Q st H) (hx : opd G st c = some (.sc (.bool false)) := by kernel_rfl) : AWP P G n0 nt (.cond c t e) Q st H := AWP.condF hx rfl h
/-- The end of a function, where nothing says less. -/
theorem FnQ.f0 {rs : Array ResultVar} {e : Exit} {p1 : PV} {K1 : List Blk} (m : Nat) (he : e = .normal ∨ e = .ret) (h1 : ares P st H rs = some p1 := by kernel_rfl) (h3 : Nat.ble n0 m = true := by kernel_rfl) (h4 : Nat.ble m H.length = true := by kernel_rfl)
    (h5 : p1.ids (fun j => decide (j < m)) = true := by kernel_rfl) (h6 : (H.take m).all Blk.isCells = true := by kernel_rfl) (h7 : H.take m = K1 := by kernel_rfl) : FnQ P rs n0 (fun p K => p = p1 ∧ K = K1) e st H :=
  fin he p1 m h1 (.inl (.refl _)) h3 h4 h5 h6 ⟨rfl, h7⟩
/-- The same, where nil slices and owned slices become values. -/
theorem FnQ.f1 {rs : Array ResultVar} {e : Exit} {p p1 : PV} {K1 : List Blk} (m : Nat) (he : e = .normal ∨ e = .ret) (hw : WkR H p p1) (h1 : ares P st H rs = some p := by kernel_rfl) (h3 : Nat.ble n0 m = true := by kernel_rfl) (h4 : Nat.ble m H.length = true := by kernel_rfl)
    (h5 : p1.ids (fun j => decide (j < m)) = true := by kernel_rfl) (h6 : (H.take m).all Blk.isCells = true := by kernel_rfl) (h7 : H.take m = K1 := by kernel_rfl) : FnQ P rs n0 (fun p K => p = p1 ∧ K = K1) e st H :=
  fin he p1 m h1 hw h3 h4 h5 h6 ⟨rfl, h7⟩
end
/-! ### Short forms -/
abbrev i64 (n : Int) : PV := .sc (.int .i64 n)
abbrev i32 (n : Int) : PV := .sc (.int .i32 n)
abbrev u64 (n : Int) : PV := .sc (.int .u64 n)
abbrev u32 (n : Int) : PV := .sc (.int .u32 n)
abbrev u16 (n : Int) : PV := .sc (.int .u16 n)
abbrev u8 (n : Int) : PV := .sc (.int .u8 n)
abbrev vb (b : Bool) : PV := .sc (.bool b)
abbrev vstr (s : ByteArray) : PV := .sc (.string s)
abbrev slc {α : Type} (s : Nat) (row : α → List PV) (l : List α) : PV := .sl s (List.map row l)
abbrev bf {α : Type} (s t : Nat) (row : α → List PV) (l : List α) (sh : Bool) : Blk := .buf s t (List.map row l) sh
abbrev nils : PV := .sc (.slice none 0 0)
end Go.AM

/- Equality of structs and arrays of plain cells; changes of the abstract state alone. No condition. -/
import Derived.Test.YtdpogkakaeeccaaDoorA11
namespace Go.AM
section
variable {P : Program} {G : Glob} {c : Ctx} {β : List Bnd} {st : St} {H : List Blk} {a : Act} {w : World} {n0 nt : Nat} {o : Oper}

def partV (P : Program) (t : TypeId) (cs : Array Value) (off : Nat) : Option Value :=
  match isAggT P t with
  | some true => some (.agg (cs.extract off (off + P.cellsOf t)))
  | some false => cs[off]?
  | none => none
theorem run_partV {t : TypeId} {cs : Array Value} {off : Nat} {v : Value} (h : partV P t cs off = some v) (w : World) : (part t cs off).run P w = .ok v w := by
  unfold partV at h
  cases ht : isAggT P t with
  | none => simp [ht] at h
  | some g =>
    obtain ⟨i, hi⟩ := info_of_agg ht
    cases g with
    | true => simp only [ht, Option.some.injEq] at h; subst h; simp [part, run_isAgg ht, run_sizeOf w hi]
    | false => simp only [ht] at h; simp [part, run_isAgg ht, h]

def flatFields (P : Program) (g : TypeId → Value → Value → Option Bool) (xs ys : Array Value) : List Field → Option Bool
  | [] => some true
  | f :: fs => if f.name ≠ "_" then match partV P f.type xs f.offset, partV P f.type ys f.offset with
      | some u, some v => match g f.type u v, flatFields P g xs ys fs with
        | some b, some r => some (b && r)
        | _, _ => none
      | _, _ => none
    else flatFields P g xs ys fs
def flatElems (P : Program) (g : TypeId → Value → Value → Option Bool) (e : TypeId) (xs ys : Array Value) : List Nat → Option Bool
  | [] => some true
  | i :: l => match partV P e xs (i * P.cellsOf e), partV P e ys (i * P.cellsOf e) with
      | some u, some v => match g e u v, flatElems P g e xs ys l with
        | some b, some r => some (b && r)
        | _, _ => none
      | _, _ => none
/-- Are two values of a type of plain cells equal? -/
def flatEq (P : Program) : Nat → TypeId → Value → Value → Option Bool
  | 0, _, _, _ => none
  | d + 1, t, x, y => match P.underlying t, x, y with
    | some .bool, .bool a, .bool b => some (a == b)
    | some (.int _), .int k a, .int k' b => if k = k' then some (a == b) else none
    | some .string, .string a, .string b => some (a.toList == b.toList)
    | some (.struct fs), .agg xs, .agg ys => if P.stoodInHeld t then none else flatFields P (flatEq P d) xs ys fs.toList
    | some (.array n e), .agg xs, .agg ys => if (P.info? e).isSome then flatElems P (flatEq P d) e xs ys (List.range' 0 n) else none
    | _, _, _ => none

def eqElems (d : Nat) (e n : Nat) (xs ys : Array Value) : List Nat → Sem Bool
  | [] => pure true
  | i :: l => do
    let a ← part e xs (i * n)
    let b ← part e ys (i * n)
    let r ← Op.equalIn d e a b
    if (!r) = true then pure false else eqElems d e n xs ys l
theorem run_equalIn_array (d : Nat) (t e n : Nat) (xs ys : Array Value) (ht : P.underlying t = some (.array n e)) {i : TypeInfo} (hi : P.info? e = some i) (w : World) :
    (Op.equalIn (d + 1) t (.agg xs) (.agg ys)).run P w = (eqElems d e (P.cellsOf e) xs ys (List.range' 0 n)).run P w := by
  simp only [Op.equalIn, Sem.run_bind, run_underlying ht, Result.andThen_ok, run_sizeOf w hi, Std.Legacy.Range.forIn_eq_forIn_range', Std.Legacy.Range.size, Nat.sub_zero, Nat.add_sub_cancel, Nat.div_one]
  generalize List.range' 0 n = l
  induction l generalizing w with
  | nil => simp [eqElems]
  | cons j l ih =>
    simp only [List.forIn_cons, eqElems, Sem.run_bind, Sem.run_ite]
    generalize (part e xs (j * P.cellsOf e)).run P w = r1
    cases r1 with
    | halt x w1 => simp [Result.andThen]
    | ok u w1 =>
      simp only [Result.andThen_ok]
      generalize (part e ys (j * P.cellsOf e)).run P w1 = r2
      cases r2 with
      | halt x w2 => simp [Result.andThen]
      | ok v w2 =>
        simp only [Result.andThen_ok]
        generalize (Op.equalIn d e u v).run P w2 = r3
        cases r3 with
        | halt x w3 => simp [Result.andThen]
        | ok r w3 =>
          cases r
          · simp only [Result.andThen_ok, Bool.not_false, if_true, Sem.run_pure]
          · simp only [Result.andThen_ok, Bool.not_true, Bool.false_eq_true, if_false, Sem.run_pure]
            exact ih w3

theorem run_flatEq : ∀ (d D : Nat) (t : TypeId) (x y : Value) (b : Bool), d ≤ D → flatEq P d t x y = some b → ∀ w, (Op.equalIn D t x y).run P w = .ok b w
  | 0, _, _, _, _, _, _, h, _ => by simp [flatEq] at h
  | d + 1, 0, _, _, _, _, hd, _, _ => by omega
  | d + 1, D + 1, t, x, y, b, hd, h, w => by
    have ih := fun t x y b (h : flatEq P d t x y = some b) w => run_flatEq d D t x y b (by omega) h w
    simp only [flatEq] at h
    split at h
    · rename_i hu; simp only [Option.some.injEq] at h; subst h; exact run_equalIn_bool' w D t _ _ hu
    · rename_i hu
      split at h
      · rename_i hk; subst hk; simp only [Option.some.injEq] at h; subst h; exact run_equalIn_int w D t _ _ _ _ hu
      · cases h
    · rename_i hu; simp only [Option.some.injEq] at h; subst h; exact run_equalIn_string w D t _ _ hu
    · rename_i fs xs ys hu
      split at h
      · cases h
      · rename_i hp
        have hf : P.fieldsOf t = fs := by simp [Program.fieldsOf, hu]
        rw [run_equalIn_struct w D t xs ys (by rw [hf]; exact hu) (by simpa using hp), hf]
        generalize fs.toList = l at h ⊢
        clear hf hu
        induction l generalizing b with
        | nil => simp only [flatFields, Option.some.injEq] at h; subst h; simp [Op.eqFields]
        | cons f l ihl =>
          simp only [flatFields] at h
          simp only [Op.eqFields]
          split
          · rename_i hn
            rw [if_pos hn] at h
            split at h
            · rename_i u v hu hv
              split at h
              · rename_i b1 r1 hb1 hr1
                simp only [Option.some.injEq] at h
                subst h
                simp only [Sem.run_bind, run_partV hu w, Result.andThen_ok, run_partV hv w, ih _ _ _ _ hb1 w, Sem.run_ite]
                cases b1
                · simp
                · simpa using ihl _ hr1
              · cases h
            · cases h
          · rename_i hn
            rw [if_neg hn] at h
            exact ihl _ h
    · rename_i n e xs ys hu
      split at h
      · rename_i hi
        obtain ⟨i, hi⟩ := Option.isSome_iff_exists.1 hi
        rw [run_equalIn_array D t e n xs ys hu hi]
        generalize List.range' 0 n = l at h ⊢
        induction l generalizing b with
        | nil => simp only [flatElems, Option.some.injEq] at h; subst h; simp [eqElems]
        | cons j l ihl =>
          simp only [flatElems] at h
          split at h
          · rename_i u v hu hv
            split at h
            · rename_i b1 r1 hb1 hr1
              simp only [Option.some.injEq] at h
              subst h
              simp only [eqElems, Sem.run_bind, run_partV hu w, Result.andThen_ok, run_partV hv w, ih _ _ _ _ hb1 w, Sem.run_ite]
              cases b1
              · simp
              · simpa using ihl _ hr1
            · cases h
          · cases h
      · cases h
    · cases h

theorem OpT.eqAgg {t t' : TypeId} {x y : Operand} {xs ys : Array Value} {b : Bool} (ho : o.op = .binOp .eql t x y t') (hx : opd G st x = some (.sc (.agg xs))) (hy : opd G st y = some (.sc (.agg ys))) (hg : P.eqGuardType P.depth t = false)
    (h : flatEq P 50 t (.agg xs) (.agg ys) = some b) : OpT P G n0 o st H (.sc (.bool b)) H :=
  OpT.value fun c a w β hn hr => by
    have h1 := hr.opd hx
    have h2 := hr.opd hy
    simp only [VR] at h1 h2
    refine ⟨.bool b, ?_, by simp only [VR]⟩
    have h3 := run_flatEq 50 10000 t _ _ b (by omega) h w
    simp only [execOp, ho, bind_pure_comp, Sem.run_map, Sem.run_bind, h1, h2, run_eqGuard_agg w .eql t x y xs ys hg, Result.andThen_ok, run_eql_struct, h3]
theorem OpT.neqAgg {t t' : TypeId} {x y : Operand} {xs ys : Array Value} {b : Bool} (ho : o.op = .binOp .neq t x y t') (hx : opd G st x = some (.sc (.agg xs))) (hy : opd G st y = some (.sc (.agg ys))) (hg : P.eqGuardType P.depth t = false)
    (h : flatEq P 50 t (.agg xs) (.agg ys) = some b) : OpT P G n0 o st H (.sc (.bool (!b))) H :=
  OpT.value fun c a w β hn hr => by
    have h1 := hr.opd hx
    have h2 := hr.opd hy
    simp only [VR] at h1 h2
    refine ⟨.bool (!b), ?_, by simp only [VR]⟩
    have h3 := run_flatEq 50 10000 t _ _ b (by omega) h w
    simp only [execOp, ho, bind_pure_comp, Sem.run_map, Sem.run_bind, h1, h2, run_eqGuard_agg w .neq t x y xs ys hg, Result.andThen_ok, run_neq_struct, h3]

/-! ### Changes of the abstract state alone -/
def Le (G : Glob) (n0 nt : Nat) (st : St) (H : List Blk) (st' : St) (H' : List Blk) : Prop :=
  ∀ c a w β, c.fit n0 → c.nt = nt → RelB G c β st H a w → ∃ β', RelB G c β' st' H' a w
variable {st' st'' : St} {H' H'' : List Blk}
theorem Le.refl : Le G n0 nt st H st H := fun _ _ _ β _ _ h => ⟨β, h⟩
theorem Le.trans (h : Le G n0 nt st H st' H') (k : Le G n0 nt st' H' st'' H'') : Le G n0 nt st H st'' H'' := fun c a w β h0 h1 hr =>
  let ⟨β', hr'⟩ := h c a w β h0 h1 hr
  k c a w β' h0 h1 hr'
theorem AWP.le {x : Code} {Q : Exit → St → List Blk → Prop} (h : Le G n0 nt st H st' H') (k : AWP P G n0 nt x Q st' H') : AWP P G n0 nt x Q st H := fun c a w β h0 h1 hr =>
  let ⟨β', hr'⟩ := h c a w β h0 h1 hr
  k c a w β' h0 h1 hr'
theorem AOps.le {ops : Array Oper} {l : List Nat} {Q : Exit → St → List Blk → Prop} (h : Le G n0 nt st H st' H') (k : AOps P G n0 nt ops l Q st' H') : AOps P G n0 nt ops l Q st H := fun c a w β h0 h1 hr =>
  let ⟨β', hr'⟩ := h c a w β h0 h1 hr
  k c a w β' h0 h1 hr'
theorem Le.pick {ks : List Nat} (h : st.pick ks = st') : Le G n0 nt st H st' H := fun _ _ _ β _ _ hr => ⟨β, hr.sub (by subst h; exact St.pick_sub ks st)⟩
theorem Le.drop {m : Nat} (hm : n0 ≤ m) (hs : st.all (fun x => x.2.ids (fun j => decide (j < m))) = true) : Le G n0 nt st H st (H.take m) := fun c _ _ β h0 _ hr =>
  ⟨β.take m, hr.drop (by have := h0.len; omega) (fun x hx => PV.ids_mono (q := fun j => decide (j < n0)) (fun i hi => by simp at hi ⊢; omega) _ (h0.gh x hx)) fun x hx => ⟨hx, by simpa using List.all_eq_true.1 hs x hx⟩⟩
/-- The slots that are kept and the blocks that are kept, at once. -/
theorem Le.keep {ks : List Nat} {m : Nat} (hm : n0 ≤ m) (h : st.pick ks = st') (hs : st'.all (fun x => x.2.ids (fun j => decide (j < m))) = true) : Le G n0 nt st H st' (H.take m) := (Le.pick h).trans (Le.drop hm hs)
theorem RelB.slot (h : RelB G c β st H a w) {k : Nat} {p : PV} (hk : k < c.nt) (hv : VR (stab c β H w) β w p (a.tmps.getD k undef)) : RelB G c β (st.put k p) H a w := by
  refine ⟨h.ok, h.len, h.pre, h.blk, h.inj, h.loc, h.cel, fun x hx => ?_, h.nt, h.dfr, h.frm, h.gh⟩
  simp only [St.put, St.del, List.mem_cons, List.mem_filter] at hx
  rcases hx with rfl | ⟨hx, _⟩
  · exact ⟨hk, hv⟩
  · exact h.slots x hx
/-- A nil slice in a slot becomes a buffer of the function's own, empty. -/
theorem Le.own {k s t : Nat} (hk : st.get k = some (.sc (.slice none 0 0))) : Le G n0 nt st H (st.put k (.own H.length 0)) (H ++ [.buf s t [] false]) := fun c a w β _ _ hr => by
  obtain ⟨h1, h2⟩ := hr.own s t
  obtain ⟨h3, h4⟩ := hr.slots (k, _) (lookup_mem st k _ hk)
  simp only [VR] at h4
  refine ⟨_, h1.slot h3 ?_⟩
  simp only [VR]
  rw [h4]
  exact ⟨rfl, ⟨0, .slice none 0 0, 0, s⟩, by rw [← hr.len]; simp, Nat.le_refl _, fun _ => rfl⟩
theorem Le.share {i s t : Nat} {xs : List (List PV)} {sh : Bool} (hb : H[i]? = some (.buf s t xs sh)) : Le G n0 nt st H st (H.set i (.buf s t xs true)) := fun _ _ _ β _ _ hr => ⟨β, hr.share hb⟩
theorem Le.wk {k : Nat} {p q : PV} (hk : st.get k = some p) (hw : Wk H false p q) : Le G n0 nt st H (st.put k q) H := fun c a w β _ _ hr => by
  obtain ⟨h3, h4⟩ := hr.slots (k, _) (lookup_mem st k _ hk)
  exact ⟨β, hr.slot h3 (hr.wk h4 hw)⟩
theorem Le.eq (h1 : st = st') (h2 : H = H') : Le G n0 nt st H st' H' := by subst h1 h2; exact Le.refl
end
end Go.AM

/- Cells and parts that say less; fields of elements; the bytes of a string; pointers against nil. No condition. -/
import Derived.Test.YtdpogkakaeeccaaDoorA14
namespace Go.AM
section
variable {P : Program} {G : Glob} {n0 nt : Nat} {st : St} {H : List Blk} {Q : Exit → St → List Blk → Prop} {e : Exit} {o : Oper} {c : Ctx} {β : List Bnd} {a : Act} {w : World} {ops : Array Oper}

theorem RelB.wkc (h : RelB G c β st H a w) {i : Nat} {cs cs' : List PV} (hb : H[i]? = some (.cells cs)) (hw : Wks H false cs cs') (hi : PV.idss (fun j => decide (j < i)) cs' = true) :
    RelB G c β st (H.set i (.cells cs')) a w ∧ Ext (stab c β H w) w (stab c β (H.set i (.cells cs')) w) w := by
  have hil := (List.getElem?_eq_some_iff.1 hb).1
  have hget : ∀ (j : Nat) k, (H.set i (.cells cs'))[j]? = some k → (j ≠ i ∧ H[j]? = some k) ∨ (j = i ∧ k = .cells cs') := fun j k hj => by
    by_cases hji : j = i
    · subst hji; rw [List.getElem?_set_self hil] at hj; exact .inr ⟨rfl, by simpa using hj.symm⟩
    · rw [List.getElem?_set_ne (Ne.symm hji)] at hj; exact .inl ⟨hji, hj⟩
  have hx : Ext (stab c β H w) w (stab c β (H.set i (.cells cs')) w) w := by
    refine ⟨fun b hi hs => ?_, fun _ _ _ _ _ _ h => h⟩
    rcases hs with hs | ⟨h1, h2, h3⟩
    · exact .inl hs
    · refine .inr ⟨h1, h2, fun j e k he hk => ?_⟩
      rcases hget j k hk with ⟨_, hk⟩ | ⟨rfl, rfl⟩
      · exact h3 j e k he hk
      · have := h3 j e _ he hb; exact this
  have key : ∀ (j : Nat) f k b, (H.set i (.cells cs'))[j]? = some k → k.at f = some b → ∃ k', H[j]? = some k' ∧ k'.at f = some b := fun j f k b g2 g3 => by
    rcases hget j k g2 with ⟨_, g2⟩ | ⟨rfl, rfl⟩
    · exact ⟨k, g2, g3⟩
    · exact ⟨_, hb, g3⟩
  refine ⟨h.move hx (BExt.refl _ _) (by simp [h.len]) h.pre (fun j e k he hk => ?_) (fun j j' f f' k l b hij h1 h2 h3 h4 h5 h6 => ?_) (fun j f k b h0 h1 h2 h3 => ?_) (fun j hj => ?_) h.frm, hx⟩
  · rcases hget j k hk with ⟨_, hk⟩ | ⟨rfl, rfl⟩
    · exact BlkR.keep hx (BExt.refl _ _) (fun _ _ => rfl) (h.blk j e k he hk)
    · obtain ⟨_, vs, t, g2, g3⟩ := h.blk j e _ he hb
      exact BlkR.keep (k := .cells cs') hx (BExt.refl _ _) (fun _ _ => rfl) (⟨hi, vs, t, g2, h.wks hw _ g3⟩ : BlkR (stab c β H w) β w c.w0.heap.size j e (.cells cs'))
  · obtain ⟨k', g1, g2⟩ := key j f k b h2 h5
    obtain ⟨l', g3, g4⟩ := key j' f' l b h4 h6
    exact h.inj j j' f f' k' l' b hij h1 g1 h3 g3 g2 g4
  · obtain ⟨k', g1, g2⟩ := key j f k b h2 h3
    exact h.loc j f k' b h0 h1 g1 g2
  · by_cases hne : j = i
    · subst hne; exact ⟨cs', by rw [List.getElem?_set_self hil]⟩
    · obtain ⟨cs, hc⟩ := h.cel j hj
      exact ⟨cs, by rw [List.getElem?_set_ne (Ne.symm hne)]; exact hc⟩

theorem Le.wkc {i : Nat} {cs cs' : List PV} (hb : H[i]? = some (.cells cs)) (hw : Wks H false cs cs') (hi : PV.idss (fun j => decide (j < i)) cs' = true) : Le G n0 nt st H st (H.set i (.cells cs')) := fun _ _ _ β _ _ hr => ⟨β, (hr.wkc hb hw hi).1⟩
theorem AOps.wkc {l : List Nat} {H' : List Blk} (i : Nat) {cs cs' : List PV} (hb : H[i]? = some (.cells cs)) (hw : Wks H false cs cs') (hi : PV.idss (fun j => decide (j < i)) cs' = true) (hH : H.set i (.cells cs') = H') (h : AOps P G n0 nt ops l Q st H') : AOps P G n0 nt ops l Q st H := by
  subst hH; exact AOps.le (Le.wkc hb hw hi) h
theorem AWP.wkc {x : Code} {H' : List Blk} (i : Nat) {cs cs' : List PV} (hb : H[i]? = some (.cells cs)) (hw : Wks H false cs cs') (hi : PV.idss (fun j => decide (j < i)) cs' = true) (hH : H.set i (.cells cs') = H') (h : AWP P G n0 nt x Q st H') : AWP P G n0 nt x Q st H := by
  subst hH; exact AWP.le (Le.wkc hb hw hi) h
theorem LeQ.wkc {H' : List Blk} (i : Nat) {cs cs' : List PV} (hb : H[i]? = some (.cells cs)) (hw : Wks H false cs cs') (hi : PV.idss (fun j => decide (j < i)) cs' = true) (hH : H.set i (.cells cs') = H') (h : LeQ G n0 nt Q e st H') : LeQ G n0 nt Q e st H := by
  subst hH; exact LeQ.le (Le.wkc hb hw hi) h
theorem AOps.wk {l : List Nat} {st' : St} {p q : PV} (k : Nat) (hk : st.get k = some p) (hw : Wk H false p q) (hs : st.put k q = st') (h : AOps P G n0 nt ops l Q st' H) : AOps P G n0 nt ops l Q st H := by
  subst hs; exact AOps.le (Le.wk hk hw) h

/-- The block that an operation leaves says less. -/
theorem OpT.wkc {p : PV} {H1 H' : List Blk} (i : Nat) {cs cs' : List PV} (h : OpT P G n0 o st H p H1) (hb : H1[i]? = some (.cells cs)) (hw : Wks H1 false cs cs') (hi : PV.idss (fun j => decide (j < i)) cs' = true) (hH : H1.set i (.cells cs') = H') : OpT P G n0 o st H p H' := by
  subst hH
  intro c a w β h0 hr
  refine wpv_mono (h c a w β h0 hr) fun v w' ⟨β', h1, h2, h3, h4⟩ => ?_
  obtain ⟨g1, g2⟩ := h1.wkc hb hw hi
  exact ⟨β', g1, VR.ext_all g2 (BExt.refl _ _) h2, h3, h4.trans g2⟩
/-- The struct that an operation builds says less. -/
theorem OpT.wka {q : PV} {H' : List Blk} {ps qs : List PV} (h : OpT P G n0 o st H (.agg ps) H') (hw : Wks H' false ps qs) (hq : q = .agg qs) : OpT P G n0 o st H q H' := by
  subst hq
  intro c a w β h0 hr
  refine wpv_mono (h c a w β h0 hr) fun v w' ⟨β', h1, h2, h3, h4⟩ => ⟨β', h1, ?_, h3, h4⟩
  simp only [VR] at h2 ⊢
  obtain ⟨us, rfl, h2⟩ := h2
  exact ⟨us, rfl, h1.wks hw _ h2⟩
/-- A field's place and its size. -/
def fieldPl (P : Program) (s : TypeId) (f : Nat) : Option (Nat × Nat) := match P.underlying s with
  | some (.struct fs) => (fs[f]?).map fun fd => (fd.offset, P.cellsOf fd.type)
  | _ => none
/-- A field's address, within an element of an owned buffer. -/
theorem OpT.fieldEptT {α : Type} {row : α → List PV} {s : TypeId} {x : Operand} {f : Nat} {i off off2 z t d m : Nat} {j : Int} {l : List α} {sh : Bool} {q : PV} (ho : o.op = .fieldAddr s x f) (hf : fieldPl P s f = some (d, m))
    (hz : Nat.beq m 0 = false) (hx : opd G st x = some (.ept i l.length j.toNat off)) (hb : H[i]? = some (.buf z t (l.map row) sh)) (h2 : Nat.beq off2 (off + d) = true) (hq : q = .ept i l.length j.toNat off2) : OpT P G n0 o st H q H := by
  have := Nat.eq_of_beq_eq_true h2
  subst this
  unfold fieldPl at hf
  split at hf
  · rename_i fs hu
    cases hfd : fs[f]? with
    | none => simp [hfd] at hf
    | some fd =>
      simp only [hfd, Option.map_some, Option.some.injEq, Prod.mk.injEq] at hf
      obtain ⟨rfl, rfl⟩ := hf
      exact OpT.fieldAddr ho hu hfd (fun h => by rw [h] at hz; cases hz) hx ⟨hq, z, t, _, sh, hb, by rw [List.length_map]⟩
  · cases hf
theorem OpT.indexAggT {t e n : Nat} {x y : Operand} {k : IntKind} {j : Int} {cs : List PV} {p : PV} (ho : o.op = .index t x y) (hu : P.underlying t = some (.array n e)) (hz : Nat.beq (P.cellsOf e) 0 = false)
    (hx : opd G st x = some (.agg cs)) (hy : opd G st y = some (.sc (.int k j))) (h0 : 0 ≤ j) (h1 : j < n) (hl : ldPV P e (cs.drop (j.toNat * P.cellsOf e)) = some p) : OpT P G n0 o st H p H :=
  OpT.index_agg ho hu (fun h => by rw [h] at hz; cases hz) hx hy h0 h1 hl
theorem OpT.wk {p q : PV} {H' : List Blk} (h : OpT P G n0 o st H p H') (hw : Wk H' false p q) : OpT P G n0 o st H q H' := by
  intro c a w β h0 hr
  exact wpv_mono (h c a w β h0 hr) fun v w' ⟨β', h1, h2, h3, h4⟩ => ⟨β', h1, h1.wk h2 hw, h3, h4⟩
end
end Go.AM

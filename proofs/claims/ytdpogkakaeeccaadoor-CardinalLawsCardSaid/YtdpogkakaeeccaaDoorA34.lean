/- Parts of arrays as views; slice literals with nil slices in them. No condition. -/
import Derived.Test.YtdpogkakaeeccaaDoorA33
namespace Go.AM
section
variable {P : Program} {G : Glob} {n0 nt : Nat} {o : Oper} {st : St} {H : List Blk}
theorem OpT.sliceArr0 {t e : TypeId} {n : Nat} {x : Operand} {lo hi : Option Operand} {l h : Int} {i off : Nat} (ho : o.op = .slice t x lo hi none) (hu : P.underlying t = some (.array n e)) (hz : P.cellsOf e ≠ 0)
    (hx : opd G st x = some (.ptr i off)) (hlo : loOf G st lo = some l) (hhi : hiOf G st n hi = some h) (h0 : 0 ≤ l) (h1 : l ≤ h) (h2 : h ≤ n) : OpT P G n0 o st H (.vw i (off + l.toNat * P.cellsOf e) (h.toNat - l.toNat)) H := by
  by_cases hl : l < n
  · exact OpT.sliceArr ho hu hz hx hlo hhi h0 h1 (.inr ⟨h2, hl⟩)
  · have hlh : h = l := by omega
    have hln : l = n := by omega
    subst hlh
    intro c a w β hn0 hr
    refine wpv_mono (OpT.sliceArr_empty ho hu hz hx hlo hhi h0 h2 c a w β hn0 hr) fun v w' ⟨β', g1, g2, g3, g4⟩ => ⟨β', g1, ?_, g3, g4⟩
    have hp := hr.opd hx
    simp only [VR] at hp g2 ⊢
    obtain ⟨ed, he, _⟩ := hp
    obtain ⟨e', he', _⟩ := g3 i ed rfl he
    obtain ⟨ad, cap, hv, hc, _⟩ := g2
    exact ⟨e', he', cap, ad, by omega, by rw [hv]; simp, fun hne => by omega⟩
/-- A part of an array that a pointer names. -/
def Hnd.sliceA {n : Nat} {a b : Int} (h : 0 ≤ a ∧ a ≤ b ∧ b ≤ (n : Int)) : Hnd P G where
  run o st H := match o.op with
    | .slice t x lo hi none => match P.underlying t, opd G st x, loOf G st lo with
      | some (.array n' e), some (.ptr i off), some l => match hiOf G st n' hi with
        | some h => if Nat.beq (P.cellsOf e) 0 then none else some ⟨.vw i (off + a.toNat * P.cellsOf e) (b.toNat - a.toNat), H, [.n n', .i l, .i h], [.n n, .i a, .i b]⟩
        | none => none
      | _, _, _ => none
    | _ => none
  sound := by
    intro n0 o st H x hr he
    suffices hT : OpT P G n0 o st H x.p x.H from hT.weak
    split at hr
    · rename_i t x lo hi ho
      split at hr
      · rename_i n' e i off l hu hx hlo
        split at hr
        · rename_i hh hhi
          split at hr
          · cases hr
          · rename_i hz
            simp only [Option.some.injEq] at hr; subst hr
            simp only [List.cons.injEq, T.n.injEq, T.i.injEq, and_true] at he
            obtain ⟨rfl, rfl, rfl⟩ := he
            exact OpT.sliceArr0 ho hu (fun h0 => hz (by rw [h0]; rfl)) hx hlo hhi h.1 h.2.1 h.2.2
        · cases hr
      · cases hr
    · cases hr
theorem off_add' {lo j : Int} (h0 : 0 ≤ lo) (h1 : 0 ≤ j) (s : Nat) : (0 + lo.toNat * s) + j.toNat * s = 0 + (lo + j).toNat * s := by
  rw [Nat.zero_add, Nat.zero_add, ← Nat.add_mul]; congr 1; omega
/-- The address of an element of a view, as a place of what is viewed. -/
def Hnd.idxVA {n off0 off1 s : Nat} {j : Int} (h : 0 ≤ j ∧ j < (n : Int)) (hoff : off0 + j.toNat * s = off1) : Hnd P G where
  run o st H := match o.op with
    | .indexAddr t x y => match P.underlying t, opd G st x, opd G st y with
      | some (.slice e), some (.vw i off n'), some (.sc (.int _ j')) => if Nat.beq (P.cellsOf e) 0 then none else if Nat.beq (P.cellsOf e) s then some ⟨.ptr i off1, H, [.n n', .i j', .n off], [.n n, .i j, .n off0]⟩ else none
      | _, _, _ => none
    | _ => none
  sound := by
    intro n0 o st H x hr he
    suffices hT : OpT P G n0 o st H x.p x.H from hT.weak
    split at hr
    · rename_i t x y ho
      split at hr
      · rename_i e i off n' k j' hu hx hy
        split at hr
        · cases hr
        · rename_i hz
          split at hr
          · rename_i hs
            have hs := Nat.eq_of_beq_eq_true hs
            simp only [Option.some.injEq] at hr; subst hr
            simp only [List.cons.injEq, T.n.injEq, T.i.injEq, and_true] at he
            obtain ⟨rfl, rfl, rfl⟩ := he
            have := OpT.index_vw (n0 := n0) (H := H) ho hu (fun h0 => hz (by rw [h0]; rfl)) hx hy h.1 h.2
            rw [hs] at this
            rw [← hoff]
            exact this
          · cases hr
      · cases hr
    · cases hr
/-! ### Nil slices within slices -/
theorem VRow.wks {S : Nat → Nat → Prop} {w : World} {b : Nat} {ps qs : List PV} (h : Wks [] false ps qs) : ∀ o, VRow S [] w b o ps → VRow S [] w b o qs := by
  induction h with
  | nil => exact fun _ h => h
  | cons p q ps qs h1 h2 ih =>
    intro o hr
    simp only [VRow] at hr ⊢
    obtain ⟨⟨u, g1, g2⟩, g3⟩ := hr
    refine ⟨⟨u, g1, ?_⟩, ih _ g3⟩
    cases h1 with
    | refl => exact g2
    | nil s => simp only [VR] at g2 ⊢; subst g2; exact ⟨none, 0, rfl, Nat.le_refl _, .inl trivial⟩
    | own i s t xs sh hb hs => simp at hb
theorem Wks.length {H : List Blk} {any : Bool} {ps qs : List PV} (h : Wks H any ps qs) : qs.length = ps.length := by
  induction h with
  | nil => rfl
  | cons p q ps qs h1 h2 ih => simp [ih]
theorem VRows.lows {S : Nat → Nat → Prop} {w : World} {b s : Nat} {e : TypeId} : ∀ (xs : List (List PV)) (o : Nat), VRows S [] w b s o xs → VRows S [] w b s o (xs.map (lows P e))
  | [], o, h => by simp only [List.map_nil, VRows]
  | x :: xs, o, h => by
    simp only [VRows, List.map_cons] at h ⊢
    exact ⟨⟨by rw [(lows_wks (P := P) [] false e x).length]; exact h.1.1, VRow.wks (lows_wks [] false e x) o h.1.2⟩, VRows.lows xs _ h.2⟩
theorem OpT.litN {t len e : Nat} {parts : Array (Nat × Operand)} {ps : List (Nat × PV)} {out : List PV} (ho : o.op = .buildSlice t len parts) (hp : opds G st parts.toList = some ps) (hl : litPV P t len ps = some (e, out)) (hcl : PV.idss (fun _ => false) out = true) :
    OpT P G n0 o st H (.sl (P.cellsOf e) ((rowsOf (P.cellsOf e) len out).map (lows P e))) H := by
  intro c a w β h0 hr
  refine wpv_mono (OpT.lit ho hp hl hcl rfl c a w β h0 hr) fun v w' ⟨β', g1, g2, g3, g4⟩ => ⟨β', g1, ?_, g3, g4⟩
  simp only [VR] at g2 ⊢
  obtain ⟨ad, cap, hv, hc, h⟩ := g2
  refine ⟨ad, cap, by rw [List.length_map]; exact hv, by rw [List.length_map]; exact hc, ?_⟩
  rcases h with h | ⟨b, off, h1, h2, h3⟩
  · exact .inl (by rw [h]; rfl)
  · exact .inr ⟨b, off, h1, by rw [List.length_map]; exact h2, VRows.lows _ _ h3⟩
/-- A slice literal, nil slices in it read as empty ones. -/
def Hnd.litN : Hnd P G where
  run o st H := match o.op with
    | .buildSlice t len parts => match opds G st parts.toList with
      | some ps => match litPV P t len ps with
        | some (e, out) => if PV.idss (fun _ => false) out then some ⟨.sl (P.cellsOf e) ((rowsOf (P.cellsOf e) len out).map (lows P e)), H, [], []⟩ else none
        | none => none
      | none => none
    | _ => none
  sound := by
    intro n0 o st H x hr he
    suffices hT : OpT P G n0 o st H x.p x.H from hT.weak
    split at hr
    · rename_i t len parts ho
      split at hr
      · rename_i ps hp
        split at hr
        · rename_i e out hl
          split at hr
          · rename_i hc
            simp only [Option.some.injEq] at hr; subst hr
            exact OpT.litN ho hp hl hc
          · cases hr
        · cases hr
      · cases hr
    · cases hr
end
end Go.AM

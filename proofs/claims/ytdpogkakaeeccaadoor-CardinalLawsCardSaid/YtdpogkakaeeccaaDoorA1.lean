/- A small logic of abstract states over the model: abstract values, what it means that a value of the machine fits an abstract one, and how that is kept. No condition. -/
import Derived.Calls
import Derived.Orders
import Derived.Laws.AppendOwn
import Derived.Laws.OwnMore
import Derived.Below
import Derived.KernelRfl
namespace Go.AM

/-- Abstract values. sc: exactly this value; agg, tup: cells, some of them not exact; ptr: a cell of an abstract block; ro: a place in cells that nobody writes; sl: a slice that nobody writes (cells per element, elements); own: the slice that owns buffer i, at length n; ept: cell off of element k of that buffer; mp: a map block; z: a slice without room; vw: a slice of the cells of a block; ow: a part of a buffer's slice; fn: a closure. -/
inductive PV where
  | sc (v : Value)
  | agg (cs : List PV)
  | tup (cs : List PV)
  | ptr (i off : Nat)
  | ro (cs : List PV) (off : Nat)
  | sl (s : Nat) (xs : List (List PV))
  | own (i n : Nat)
  | ept (i n k off : Nat)
  | mp (i : Nat)
  | z
  | vw (i off n : Nat)
  | ow (i n lo hi : Nat)
  | fn (f : Nat) (caps : List PV)

/-- What an abstract block stands for: its block, and for a buffer the slice value, its length and its cells per element. -/
structure Bnd where
  b : Nat
  v : Value
  n : Nat
  s : Nat

mutual
def VR (S : Nat → Nat → Prop) (β : List Bnd) (w : World) : PV → Value → Prop
  | .sc v, u => u = v
  | .agg cs, u => ∃ us, u = .agg us ∧ VRs S β w cs us.toList
  | .tup cs, u => ∃ us, u = .tuple us ∧ VRs S β w cs us.toList
  | .ptr i off, u => ∃ e, β[i]? = some e ∧ u = .pointer (some ⟨e.b, off, none⟩)
  | .ro cs off, u => ∃ b o, u = .pointer (some ⟨b, o + off, none⟩) ∧ S b (o + cs.length) ∧ VRow S [] w b o cs
  | .sl s xs, u => ∃ a cap, u = .slice a xs.length cap ∧ xs.length ≤ cap ∧ (xs = [] ∨ ∃ b o, a = some ⟨b, o, none⟩ ∧ S b (o + xs.length * s) ∧ VRows S [] w b s o xs)
  | .own i n, u => u.oneCell' = true ∧ ∃ e, β[i]? = some e ∧ n ≤ e.n ∧ (n = e.n → u = e.v)
  | .ept i n k off, u => u.oneCell' = true ∧ ∃ e, β[i]? = some e ∧ n ≤ e.n ∧ (n = e.n → ∃ g, e.v.ownBlock = some g ∧ u = .pointer (some ⟨g, k * e.s + off, none⟩))
  | .mp i, u => ∃ e, β[i]? = some e ∧ u = .map (some e.b)
  | .z, u => ∃ a, u = .slice a 0 0
  | .vw i off n, u => ∃ e, β[i]? = some e ∧ ∃ cap ad, n ≤ cap ∧ u = .slice ad n cap ∧ (n ≠ 0 → ad = some ⟨e.b, off, none⟩)
  | .ow i n lo hi, u => u.oneCell' = true ∧ ∃ e, β[i]? = some e ∧ n ≤ e.n ∧ (n = e.n → ∃ g cap, e.v.ownBlock = some g ∧ hi - lo ≤ cap ∧ u = .slice (some ⟨g, lo * e.s, none⟩) (hi - lo) cap)
  | .fn f caps, u => ∃ us, u = .func (.func f) #[] us ∧ VRs S β w caps us.toList
def VRs (S : Nat → Nat → Prop) (β : List Bnd) (w : World) : List PV → List Value → Prop
  | [], [] => True
  | p :: ps, u :: us => VR S β w p u ∧ VRs S β w ps us
  | _, _ => False
def VRow (S : Nat → Nat → Prop) (β : List Bnd) (w : World) (b : Nat) : Nat → List PV → Prop
  | _, [] => True
  | o, p :: ps => (∃ u, w.cell? ⟨b, o, none⟩ = some u ∧ VR S β w p u) ∧ VRow S β w b (o + 1) ps
def VRows (S : Nat → Nat → Prop) (β : List Bnd) (w : World) (b s : Nat) : Nat → List (List PV) → Prop
  | _, [] => True
  | o, x :: xs => (x.length = s ∧ VRow S β w b o x) ∧ VRows S β w b s (o + s) xs
end

mutual
/-- Every abstract block that a value names meets q. -/
def PV.ids (q : Nat → Bool) : PV → Bool
  | .sc _ | .ro _ _ | .sl _ _ | .z => true
  | .agg cs | .tup cs | .fn _ cs => PV.idss q cs
  | .ptr i _ | .own i _ | .ept i _ _ _ | .mp i | .vw i _ _ | .ow i _ _ _ => q i
def PV.idss (q : Nat → Bool) : List PV → Bool
  | [] => true
  | p :: ps => p.ids q && PV.idss q ps
end

/-- How the world may go on so that what fits still fits. -/
structure Ext (S : Nat → Nat → Prop) (w : World) (S' : Nat → Nat → Prop) (w' : World) : Prop where
  stab : ∀ b hi, S b hi → S' b hi
  cell : ∀ b hi o v, S b hi → o < hi → w.cell? ⟨b, o, none⟩ = some v → w'.cell? ⟨b, o, none⟩ = some v

def BExt (q : Nat → Bool) (β β' : List Bnd) : Prop :=
  ∀ (i : Nat) e, q i = true → β[i]? = some e → ∃ e', β'[i]? = some e' ∧ e'.b = e.b ∧ e'.s = e.s ∧ e.n ≤ e'.n ∧ (e.n = e'.n → e'.v = e.v)

theorem BExt.refl (q : Nat → Bool) (β : List Bnd) : BExt q β β := fun _ e _ h => ⟨e, h, rfl, rfl, Nat.le_refl _, fun _ => rfl⟩

theorem Ext.refl (S : Nat → Nat → Prop) (w : World) : Ext S w S w := ⟨fun _ _ h => h, fun _ _ _ _ _ _ h => h⟩
theorem Ext.trans {S S1 S2 : Nat → Nat → Prop} {w w1 w2 : World} (h : Ext S w S1 w1) (k : Ext S1 w1 S2 w2) : Ext S w S2 w2 :=
  ⟨fun b hi x => k.stab b hi (h.stab b hi x), fun b hi o v x y z => k.cell b hi o v (h.stab b hi x) y (h.cell b hi o v x y z)⟩

mutual
theorem VR.ext {S S' : Nat → Nat → Prop} {w w' : World} (hx : Ext S w S' w') {q : Nat → Bool} {β β' : List Bnd} (hb : BExt q β β') :
    ∀ (p : PV) (u : Value), p.ids q = true → VR S β w p u → VR S' β' w' p u
  | .sc _, _, _, h => by simpa only [VR] using h
  | .agg cs, u, hq, h => by
    simp only [VR] at h ⊢
    obtain ⟨us, e, h⟩ := h
    exact ⟨us, e, VRs.ext hx hb cs _ (by simpa only [PV.ids] using hq) h⟩
  | .tup cs, u, hq, h => by
    simp only [VR] at h ⊢
    obtain ⟨us, e, h⟩ := h
    exact ⟨us, e, VRs.ext hx hb cs _ (by simpa only [PV.ids] using hq) h⟩
  | .fn f cs, u, hq, h => by
    simp only [VR] at h ⊢
    obtain ⟨us, e, h⟩ := h
    exact ⟨us, e, VRs.ext hx hb cs _ (by simpa only [PV.ids] using hq) h⟩
  | .ptr i off, u, hq, h => by
    simp only [VR] at h ⊢
    obtain ⟨e, h1, rfl⟩ := h
    obtain ⟨e', h2, h3, _⟩ := hb i e (by simpa only [PV.ids] using hq) h1
    exact ⟨e', h2, by rw [h3]⟩
  | .mp i, u, hq, h => by
    simp only [VR] at h ⊢
    obtain ⟨e, h1, rfl⟩ := h
    obtain ⟨e', h2, h3, _⟩ := hb i e (by simpa only [PV.ids] using hq) h1
    exact ⟨e', h2, by rw [h3]⟩
  | .z, u, hq, h => by
    simp only [VR] at h ⊢
    exact h
  | .vw i off n, u, hq, h => by
    simp only [VR] at h ⊢
    obtain ⟨e, h1, cap, ad, hc, rfl, ha⟩ := h
    obtain ⟨e', h2, h3, _⟩ := hb i e (by simpa only [PV.ids] using hq) h1
    exact ⟨e', h2, cap, ad, hc, rfl, by rw [h3]; exact ha⟩
  | .ow i n lo hi, u, hq, h => by
    simp only [VR] at h ⊢
    obtain ⟨h0, e, h1, h2, h3⟩ := h
    obtain ⟨e', k1, _, k4, k2, k3⟩ := hb i e (by simpa only [PV.ids] using hq) h1
    refine ⟨h0, e', k1, by omega, fun hn => ?_⟩
    have : e.n = e'.n := by omega
    rw [k3 this, k4]
    exact h3 (by omega)
  | .own i n, u, hq, h => by
    simp only [VR] at h ⊢
    obtain ⟨h0, e, h1, h2, h3⟩ := h
    obtain ⟨e', k1, _, _, k2, k3⟩ := hb i e (by simpa only [PV.ids] using hq) h1
    refine ⟨h0, e', k1, by omega, fun hn => ?_⟩
    have : e.n = e'.n := by omega
    rw [k3 this]
    exact h3 (by omega)
  | .ept i n k off, u, hq, h => by
    simp only [VR] at h ⊢
    obtain ⟨h0, e, h1, h2, h3⟩ := h
    obtain ⟨e', k1, _, k4, k2, k3⟩ := hb i e (by simpa only [PV.ids] using hq) h1
    refine ⟨h0, e', k1, by omega, fun hn => ?_⟩
    have : e.n = e'.n := by omega
    rw [k3 this, k4]
    exact h3 (by omega)
  | .ro cs off, u, hq, h => by
    simp only [VR] at h ⊢
    obtain ⟨b, o, e, h1, h2⟩ := h
    exact ⟨b, o, e, hx.stab _ _ h1, VRow.ext hx (BExt.refl _ _) b (o + cs.length) h1 cs o (Nat.le_refl _) (PV.idss_true cs) h2⟩
  | .sl s xs, u, hq, h => by
    simp only [VR] at h ⊢
    obtain ⟨a, cap, e, hcap, h⟩ := h
    refine ⟨a, cap, e, hcap, ?_⟩
    rcases h with h | ⟨b, o, e1, h1, h2⟩
    · exact .inl h
    · exact .inr ⟨b, o, e1, hx.stab _ _ h1, VRows.ext hx b s (o + xs.length * s) h1 xs o (Nat.le_refl _) h2⟩
theorem VRs.ext {S S' : Nat → Nat → Prop} {w w' : World} (hx : Ext S w S' w') {q : Nat → Bool} {β β' : List Bnd} (hb : BExt q β β') :
    ∀ (ps : List PV) (us : List Value), PV.idss q ps = true → VRs S β w ps us → VRs S' β' w' ps us
  | [], [], _, _ => by simp only [VRs]
  | [], _ :: _, _, h => by simp only [VRs] at h
  | _ :: _, [], _, h => by simp only [VRs] at h
  | p :: ps, u :: us, hq, h => by
    simp only [VRs] at h ⊢
    simp only [PV.idss, Bool.and_eq_true] at hq
    exact ⟨VR.ext hx hb p u hq.1 h.1, VRs.ext hx hb ps us hq.2 h.2⟩
theorem VRow.ext {S S' : Nat → Nat → Prop} {w w' : World} (hx : Ext S w S' w') {q : Nat → Bool} {β β' : List Bnd} (hb : BExt q β β') (b hi : Nat) (hS : S b hi) :
    ∀ (ps : List PV) (o : Nat), o + ps.length ≤ hi → PV.idss q ps = true → VRow S β w b o ps → VRow S' β' w' b o ps
  | [], _, _, _, _ => by simp only [VRow]
  | p :: ps, o, hl, hq, h => by
    simp only [VRow] at h ⊢
    simp only [PV.idss, Bool.and_eq_true] at hq
    simp only [List.length_cons] at hl
    obtain ⟨⟨u, h1, h2⟩, h3⟩ := h
    exact ⟨⟨u, hx.cell b hi o u hS (by omega) h1, VR.ext hx hb p u hq.1 h2⟩, VRow.ext hx hb b hi hS ps (o + 1) (by omega) hq.2 h3⟩
theorem VRows.ext {S S' : Nat → Nat → Prop} {w w' : World} (hx : Ext S w S' w') (b s hi : Nat) (hS : S b hi) :
    ∀ (xs : List (List PV)) (o : Nat), o + xs.length * s ≤ hi → VRows S [] w b s o xs → VRows S' [] w' b s o xs
  | [], _, _, _ => by simp only [VRows]
  | x :: xs, o, hl, h => by
    simp only [VRows] at h ⊢
    simp only [List.length_cons, Nat.succ_mul] at hl
    obtain ⟨⟨h1, h2⟩, h3⟩ := h
    exact ⟨⟨h1, VRow.ext hx (BExt.refl (fun _ => true) []) b hi hS x o (by omega) (PV.idss_true x) h2⟩, VRows.ext hx b s hi hS xs (o + s) (by omega) h3⟩
theorem PV.ids_true : ∀ (p : PV), p.ids (fun _ => true) = true
  | .sc _ | .ro _ _ | .sl _ _ | .ptr _ _ | .own _ _ | .ept _ _ _ _ | .mp _ | .z | .vw _ _ _ | .ow _ _ _ _ => by simp only [PV.ids]
  | .agg cs | .tup cs | .fn _ cs => by simp only [PV.ids]; exact PV.idss_true cs
theorem PV.idss_true : ∀ (ps : List PV), PV.idss (fun _ => true) ps = true
  | [] => by simp only [PV.idss]
  | p :: ps => by simp only [PV.idss, Bool.and_eq_true]; exact ⟨PV.ids_true p, PV.idss_true ps⟩
end

mutual
theorem PV.ids_mono {q q' : Nat → Bool} (h : ∀ i, q i = true → q' i = true) : ∀ (p : PV), p.ids q = true → p.ids q' = true
  | .sc _, _ | .ro _ _, _ | .sl _ _, _ | .z, _ => by simp only [PV.ids]
  | .ptr _ _, hp | .own _ _, hp | .ept _ _ _ _, hp | .mp _, hp | .vw _ _ _, hp | .ow _ _ _ _, hp => by simp only [PV.ids] at hp ⊢; exact h _ hp
  | .agg cs, hp | .tup cs, hp | .fn _ cs, hp => by simp only [PV.ids] at hp ⊢; exact PV.idss_mono h cs hp
theorem PV.idss_mono {q q' : Nat → Bool} (h : ∀ i, q i = true → q' i = true) : ∀ (ps : List PV), PV.idss q ps = true → PV.idss q' ps = true
  | [], _ => by simp only [PV.idss]
  | p :: ps, hp => by
    simp only [PV.idss, Bool.and_eq_true] at hp ⊢
    exact ⟨PV.ids_mono h p hp.1, PV.idss_mono h ps hp.2⟩
end

theorem VR.ext_all {S S' : Nat → Nat → Prop} {w w' : World} (hx : Ext S w S' w') {β β' : List Bnd} (hb : BExt (fun _ => true) β β') {p : PV} {u : Value} (h : VR S β w p u) : VR S' β' w' p u :=
  VR.ext hx hb p u (PV.ids_true p) h
theorem VRs.ext_all {S S' : Nat → Nat → Prop} {w w' : World} (hx : Ext S w S' w') {β β' : List Bnd} (hb : BExt (fun _ => true) β β') {ps : List PV} {us : List Value} (h : VRs S β w ps us) : VRs S' β' w' ps us :=
  VRs.ext hx hb ps us (PV.idss_true ps) h

theorem VRs.length {S : Nat → Nat → Prop} {β : List Bnd} {w : World} : ∀ (ps : List PV) (us : List Value), VRs S β w ps us → us.length = ps.length
  | [], [], _ => rfl
  | [], _ :: _, h => by simp only [VRs] at h
  | _ :: _, [], h => by simp only [VRs] at h
  | p :: ps, u :: us, h => by
    simp only [VRs] at h
    simp only [List.length_cons, VRs.length ps us h.2]
theorem VRs.get {S : Nat → Nat → Prop} {β : List Bnd} {w : World} : ∀ (ps : List PV) (us : List Value), VRs S β w ps us → ∀ (i : Nat) (p : PV), ps[i]? = some p → ∃ u, us[i]? = some u ∧ VR S β w p u
  | [], [], _, i, p, hp => by simp at hp
  | [], _ :: _, h, _, _, _ => by simp only [VRs] at h
  | _ :: _, [], h, _, _, _ => by simp only [VRs] at h
  | q :: ps, u :: us, h, i, p, hp => by
    simp only [VRs] at h
    cases i with
    | zero => simp at hp; subst hp; exact ⟨u, rfl, h.1⟩
    | succ i => simp at hp ⊢; exact VRs.get ps us h.2 i p hp
theorem VRs.append {S : Nat → Nat → Prop} {β : List Bnd} {w : World} : ∀ (ps : List PV) (us : List Value) (qs : List PV) (vs : List Value), VRs S β w ps us → VRs S β w qs vs → VRs S β w (ps ++ qs) (us ++ vs)
  | [], [], _, _, _, h => by simpa using h
  | [], _ :: _, _, _, h, _ => by simp only [VRs] at h
  | _ :: _, [], _, _, h, _ => by simp only [VRs] at h
  | p :: ps, u :: us, qs, vs, h, k => by
    simp only [VRs] at h
    simp only [List.cons_append, VRs]
    exact ⟨h.1, VRs.append ps us qs vs h.2 k⟩
theorem VRs.take {S : Nat → Nat → Prop} {β : List Bnd} {w : World} : ∀ (n : Nat) (ps : List PV) (us : List Value), VRs S β w ps us → VRs S β w (ps.take n) (us.take n)
  | 0, _, _, _ => by simp [VRs]
  | _ + 1, [], [], _ => by simp [VRs]
  | _ + 1, [], _ :: _, h => by simp only [VRs] at h
  | _ + 1, _ :: _, [], h => by simp only [VRs] at h
  | n + 1, p :: ps, u :: us, h => by
    simp only [VRs] at h
    simp only [List.take_succ_cons, VRs]
    exact ⟨h.1, VRs.take n ps us h.2⟩
theorem VRs.drop {S : Nat → Nat → Prop} {β : List Bnd} {w : World} : ∀ (n : Nat) (ps : List PV) (us : List Value), VRs S β w ps us → VRs S β w (ps.drop n) (us.drop n)
  | 0, _, _, h => by simpa using h
  | _ + 1, [], [], _ => by simp [VRs]
  | _ + 1, [], _ :: _, h => by simp only [VRs] at h
  | _ + 1, _ :: _, [], h => by simp only [VRs] at h
  | n + 1, p :: ps, u :: us, h => by
    simp only [VRs] at h
    simp only [List.drop_succ_cons]
    exact VRs.drop n ps us h.2
theorem VRs.scs {S : Nat → Nat → Prop} {β : List Bnd} {w : World} : ∀ (vs : List Value), VRs S β w (vs.map .sc) vs
  | [] => by simp [VRs]
  | v :: vs => by simp only [List.map_cons, VRs, VR]; exact ⟨trivial, VRs.scs vs⟩
theorem VRs.scs_iff {S : Nat → Nat → Prop} {β : List Bnd} {w : World} : ∀ (vs us : List Value), VRs S β w (vs.map .sc) us → us = vs
  | [], [], _ => rfl
  | [], _ :: _, h => by simp [VRs] at h
  | _ :: _, [], h => by simp [VRs] at h
  | v :: vs, u :: us, h => by
    simp only [List.map_cons, VRs, VR] at h
    rw [h.1, VRs.scs_iff vs us h.2]
theorem PV.idss_append (q : Nat → Bool) : ∀ (ps qs : List PV), PV.idss q (ps ++ qs) = (PV.idss q ps && PV.idss q qs)
  | [], qs => by simp [PV.idss]
  | p :: ps, qs => by simp [PV.idss, PV.idss_append q ps qs, Bool.and_assoc]
theorem PV.idss_mem (q : Nat → Bool) : ∀ (ps : List PV), PV.idss q ps = true ↔ ∀ p ∈ ps, p.ids q = true
  | [] => by simp [PV.idss]
  | p :: ps => by simp [PV.idss, PV.idss_mem q ps]
end Go.AM

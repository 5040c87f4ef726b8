/- Readings of structs and arrays. No condition. -/
import Derived.Test.YtdpogkakaeeccaaDoorR1
namespace Go.AM
open Go
variable {P : Program} {W : World}

def Each {H : Type} (enc : TypeId × Value → H) (P : Program) (W : World) (n : Nat) : List (TypeId × Nat) → List Value → Prop
  | [], _ => True
  | (t, s) :: fs, cs => (∃ x, DataW.trod enc P W 0 (fun _ => true) true n t (cs.take s) = some x) ∧ Each enc P W n fs (cs.drop s)
def total : List (TypeId × Nat) → Nat
  | [] => 0
  | (_, s) :: fs => s + total fs
/-- Cells that can be read part by part. -/
def FR (P : Program) (W : World) (fs : List (TypeId × Nat)) {γ : Type} (row : γ → List PV) (ok : γ → Prop) : Prop :=
  ∀ (H : Type) (enc : TypeId × Value → H) (n : Nat) (cs : List Value), cs.length = total fs → Each enc P W n fs cs → ∃ a, ok a ∧ VRs (old W) [] W (row a) cs
theorem FR.nil : FR P W [] (fun _ : Unit => []) (fun _ => True) := fun H enc n cs hl _ => by
  have : cs = [] := List.length_eq_zero_iff.1 hl
  subst this
  exact ⟨(), trivial, by simp only [VRs]⟩
theorem FR.cons {t : TypeId} {s : Nat} {fs : List (TypeId × Nat)} {α γ : Type} {ra : α → List PV} {rg : γ → List PV} {oa : α → Prop} {og : γ → Prop} (h : Reads P W t ra oa) (k : FR P W fs rg og) :
    FR P W ((t, s) :: fs) (fun z : α × γ => ra z.1 ++ rg z.2) (fun z => oa z.1 ∧ og z.2) := by
  intro H enc n cs hl he
  simp only [Each] at he
  simp only [total] at hl
  obtain ⟨⟨x, hx⟩, he⟩ := he
  obtain ⟨a, h1, h2⟩ := h H enc n _ x hx
  obtain ⟨b, h3, h4⟩ := k H enc n (cs.drop s) (by rw [List.length_drop]; omega) he
  refine ⟨(a, b), ⟨h1, h3⟩, ?_⟩
  have := VRs.append _ _ _ _ h2 h4
  rwa [List.take_append_drop] at this

def offsOk (P : Program) : Nat → List Field → Bool
  | _, [] => true
  | o, f :: fs => Nat.beq f.offset o && offsOk P (o + P.cellsOf f.type) fs
theorem each_of {H : Type} {enc : TypeId × Value → H} {n : Nat} {cs : List Value} {p : Field → Prop} : ∀ (fs : List Field) (o : Nat), offsOk P o fs = true →
    (∀ f ∈ fs, ∃ x, DataW.trod enc P W 0 (fun _ => true) true n f.type ((cs.drop f.offset).take (P.cellsOf f.type)) = some x) → Each enc P W n (fs.map fun f => (f.type, P.cellsOf f.type)) (cs.drop o)
  | [], _, _, _ => by simp only [List.map_nil, Each]
  | f :: fs, o, ho, h => by
    simp only [offsOk, Bool.and_eq_true] at ho
    have e := Nat.eq_of_beq_eq_true ho.1
    simp only [List.map_cons, Each]
    refine ⟨by have := h f (by simp); rwa [e] at this, ?_⟩
    rw [List.drop_drop]
    exact each_of (p := p) fs _ ho.2 fun g hg => h g (by simp [hg])
theorem Reads.struct {t : TypeId} {fs : Array Field} {fl : List (TypeId × Nat)} {α γ : Type} {row : α → List PV} {ok : α → Prop} {rg : γ → List PV} {og : γ → Prop} (f : γ → α) (ht : P.underlying t = some (.struct fs))
    (hfl : (fs.toList.map fun f => (f.type, P.cellsOf f.type)) = fl) (ho : offsOk P 0 fs.toList = true) (hs : P.cellsOf t = total fl) (k : FR P W fl rg og) (hr : ∀ z, row (f z) = rg z) (hk : ∀ z, og z → ok (f z)) : Reads P W t row ok := by
  intro H enc fuel cs x h
  obtain ⟨xs, n, _, _, hlen, hxs, hf⟩ := DataW.trod_struct ht h
  have he := each_of (enc := enc) (n := n) (cs := cs) (p := fun _ => True) fs.toList 0 ho fun g hg => by
    obtain ⟨i, hi, rfl⟩ := List.mem_iff_getElem.1 hg
    simp only [Array.length_toList] at hi
    have := hf i fs[i] (by simp [hi])
    rw [List.getElem?_eq_getElem (by omega)] at this
    exact ⟨_, by simpa using this⟩
  rw [hfl, List.drop_zero] at he
  obtain ⟨a, h1, h2⟩ := k H enc n cs (by rw [hlen, hs]) he
  exact ⟨f a, hk a h1, by rw [hr]; exact h2⟩
theorem each_arr {H : Type} {enc : TypeId × Value → H} {n : Nat} {cs : List Value} {e : TypeId} {s : Nat} : ∀ (m o : Nat), (∀ i, o ≤ i → i < o + m → ∃ x, DataW.trod enc P W 0 (fun _ => true) true n e ((cs.drop (i * s)).take s) = some x) →
    Each enc P W n (List.replicate m (e, s)) (cs.drop (o * s))
  | 0, _, _ => by simp only [List.replicate_zero, Each]
  | m + 1, o, h => by
    simp only [List.replicate_succ, Each]
    refine ⟨h o (Nat.le_refl _) (by omega), ?_⟩
    rw [List.drop_drop]
    have := each_arr (cs := cs) (s := s) (e := e) (enc := enc) m (o + 1) fun i h1 h2 => h i (by omega) (by omega)
    rwa [Nat.add_mul, Nat.one_mul] at this
theorem Reads.array {t e : TypeId} {m s : Nat} {α γ : Type} {row : α → List PV} {ok : α → Prop} {rg : γ → List PV} {og : γ → Prop} (f : γ → α) (ht : P.underlying t = some (.array m e))
    (hs : P.cellsOf e = s) (htot : P.cellsOf t = total (List.replicate m (e, s))) (k : FR P W (List.replicate m (e, s)) rg og) (hr : ∀ z, row (f z) = rg z) (hk : ∀ z, og z → ok (f z)) : Reads P W t row ok := by
  intro H enc fuel cs x h
  obtain ⟨xs, n, _, _, hlen, hxs, hf⟩ := DataW.trod_array ht h
  have he := each_arr (P := P) (W := W) (enc := enc) (n := n) (cs := cs) (e := e) (s := s) m 0 fun i _ hi => by
    have := hf i (by omega)
    rw [List.getElem?_eq_getElem (by omega), hs] at this
    exact ⟨_, this⟩
  rw [Nat.zero_mul, List.drop_zero] at he
  obtain ⟨a, h1, h2⟩ := k H enc n cs (by rw [hlen, htot]) he
  exact ⟨f a, hk a h1, by rw [hr]; exact h2⟩

/-- A flat value, from its cells. -/
theorem flat_of {S : Nat → Nat → Prop} {β : List Bnd} {w : World} : ∀ (vs us : List Value), VRs S β w (vs.map .sc) us → us = vs
  | [], [], _ => rfl
  | [], _ :: _, h => by simp only [List.map_nil, VRs] at h
  | _ :: _, [], h => by simp only [List.map_cons, VRs] at h
  | v :: vs, u :: us, h => by
    simp only [List.map_cons, VRs, VR] at h
    rw [h.1, flat_of vs us h.2]
/-- What an argument is. -/
theorem arg_one {t : TypeId} {α : Type} {row : α → List PV} {ok : α → Prop} {p : α → PV} {H : Type} {enc : TypeId × Value → H} {v : Value} {d : DataW H} {ps : List MemPlace} (h : Reads P W t row ok) (hd : DataW.Trod enc P W 0 (fun _ => true) true t v d ps)
    (hv : v.cells = #[v]) (hp : ∀ a, row a = [p a]) : ∃ a, ok a ∧ VR (old W) [] W (p a) v := by
  obtain ⟨fuel, hf⟩ := hd
  obtain ⟨a, h1, h2⟩ := h _ _ _ _ _ hf
  rw [hv, hp] at h2
  simp only [VRs] at h2
  exact ⟨a, h1, h2.1⟩
theorem arg_agg {t : TypeId} {α : Type} {row : α → List PV} {ok : α → Prop} {H : Type} {enc : TypeId × Value → H} {us : Array Value} {d : DataW H} {ps : List MemPlace} (h : Reads P W t row ok) (hd : DataW.Trod enc P W 0 (fun _ => true) true t (.agg us) d ps) :
    ∃ a, ok a ∧ VRs (old W) [] W (row a) us.toList := by
  obtain ⟨fuel, hf⟩ := hd
  obtain ⟨a, h1, h2⟩ := h _ _ _ _ _ hf
  exact ⟨a, h1, h2⟩
end Go.AM

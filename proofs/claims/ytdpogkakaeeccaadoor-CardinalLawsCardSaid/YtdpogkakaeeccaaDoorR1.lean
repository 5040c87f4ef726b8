/- What a reading of the statement says of a value: a typed value stands behind it. No condition. -/
import Derived.Test.YtdpogkakaeeccaaDoorA16
import Derived.OpenShut
import Derived.Carry
import Derived.ChangeArms
namespace Go.AM
open Go
variable {H : Type} {enc : TypeId × Value → H} {P : Program} {W : World}

/-- All that is there before the call: nobody writes it. -/
def old (W : World) (b _hi : Nat) : Prop := b < W.heap.size

/-- Cells that can be read at type t are those of a typed value that is ok. -/
def Reads (P : Program) (W : World) (t : TypeId) {α : Type} (row : α → List PV) (ok : α → Prop) : Prop :=
  ∀ (H : Type) (enc : TypeId × Value → H) (fuel : Nat) (cs : List Value) (x : DataW H × List MemPlace), DataW.trod enc P W 0 (fun _ => true) true fuel t cs = some x → ∃ a, ok a ∧ VRs (old W) [] W (row a) cs

theorem Reads.int {t : TypeId} {k : IntKind} {row : Int → List PV} (ht : P.underlying t = some (.int k)) (hr : ∀ n, row n = [.sc (.int k n)]) : Reads P W t row (fun n => (Lit.int k n).wf = true) := by
  intro H enc fuel cs x h
  obtain ⟨n, rfl, _, hw⟩ := DataW.trod_int ht h
  exact ⟨n, hw, by rw [hr]; simp only [VRs, VR]; exact ⟨trivial, trivial⟩⟩
theorem Reads.bool {t : TypeId} (ht : P.underlying t = some .bool) : Reads P W t row_bool (fun _ => True) := by
  intro H enc fuel cs x h
  obtain ⟨b, rfl, _⟩ := DataW.trod_bool ht h
  exact ⟨b, trivial, by simp only [row_bool, VRs, VR]; exact ⟨trivial, trivial⟩⟩
theorem Reads.string {t : TypeId} (ht : P.underlying t = some .string) : Reads P W t row_str (fun s => s.size ≤ maxLen) := by
  intro H enc fuel cs x h
  obtain ⟨s, rfl, _, hs⟩ := DataW.trod_string ht h
  exact ⟨s, hs, by simp only [row_str, VRs, VR]; exact ⟨trivial, trivial⟩⟩

theorem VRow.of_cells {S : Nat → Nat → Prop} {β : List Bnd} {w : World} {b : Nat} : ∀ (ps : List PV) (us : List Value) (o : Nat), VRs S β w ps us → (∀ i, i < us.length → w.cell? ⟨b, o + i, none⟩ = us[i]?) → VRow S β w b o ps
  | [], [], _, _, _ => by simp only [VRow]
  | [], _ :: _, _, h, _ => by simp only [VRs] at h
  | _ :: _, [], _, h, _ => by simp only [VRs] at h
  | p :: ps, u :: us, o, h, hc => by
    simp only [VRs] at h
    simp only [VRow]
    refine ⟨⟨u, by simpa using hc 0 (by simp), h.1⟩, VRow.of_cells ps us (o + 1) h.2 fun i hi => ?_⟩
    have := hc (i + 1) (by simpa using hi)
    simpa [Nat.add_assoc, Nat.add_comm 1 i] using this

theorem VRows.of_get {S : Nat → Nat → Prop} {w : World} {b s : Nat} : ∀ (xs : List (List PV)) (o : Nat), (∀ i x, xs[i]? = some x → x.length = s ∧ VRow S [] w b (o + i * s) x) → VRows S [] w b s o xs
  | [], _, _ => by simp only [VRows]
  | x :: xs, o, h => by
    simp only [VRows]
    refine ⟨by simpa using h 0 x (by simp), VRows.of_get xs (o + s) fun i y hy => ?_⟩
    have := h (i + 1) y (by simpa using hy)
    rwa [Nat.add_mul, Nat.one_mul, Nat.add_comm (i * s) s, ← Nat.add_assoc] at this

/-- One typed value for each place. -/
theorem choose_list {α : Type} {p : Nat → α → Prop} : ∀ (n : Nat), (∀ i, i < n → ∃ a, p i a) → ∃ l : List α, l.length = n ∧ ∀ i a, l[i]? = some a → p i a
  | 0, _ => ⟨[], rfl, fun i a h => by simp at h⟩
  | n + 1, h => by
    obtain ⟨l, hl, hp⟩ := choose_list n fun i hi => h i (by omega)
    obtain ⟨a, ha⟩ := h n (by omega)
    refine ⟨l ++ [a], by simp [hl], fun i b hb => ?_⟩
    by_cases hi : i < n
    · rw [List.getElem?_append_left (by omega)] at hb; exact hp i b hb
    · rw [List.getElem?_append_right (by omega)] at hb
      have : i - l.length = 0 := by
        refine Classical.byContradiction fun hne => ?_
        rw [List.getElem?_eq_none (by simp; omega)] at hb; cases hb
      rw [this] at hb
      simp at hb; subst hb
      have : i = n := by omega
      subst this; exact ha

theorem Reads.slice {t e : TypeId} {s : Nat} {α : Type} {row : α → List PV} {ok : α → Prop} (ht : P.underlying t = some (.slice e)) (hs : P.cellsOf e = s) (hs0 : 0 < s) (h : Reads P W e row ok) :
    Reads P W t (fun l : List α => [.sl s (l.map row)]) (fun l => l.length ≤ maxLen ∧ ∀ x ∈ l, ok x) := by
  intro H enc fuel cs x hx
  rcases DataW.trod_slice ht hx with ⟨rfl, _⟩ | ⟨a, len, cap, elems, rest, n, _, rfl, _, hb, hl, hm, hlen, hel, _, _⟩
  · refine ⟨[], ⟨by simp, by simp⟩, ?_⟩
    simp only [VRs, VR]
    exact ⟨⟨none, 0, rfl, Nat.le_refl _, .inl rfl⟩, trivial⟩
  · have first : 0 < len → a.block < W.heap.size ∧ a.spot = none := by
      intro hi
      have hE := hel 0 hi
      have : 0 < elems.length := by omega
      rw [List.getElem?_eq_getElem this, Option.bind_eq_some_iff] at hE
      obtain ⟨c1, hc1, _⟩ := hE
      obtain ⟨_, g2, g3⟩ := World.cells?_some hc1
      rw [hs] at g2 g3
      have hcell := g3 0 hs0
      rw [List.getElem?_eq_getElem (show 0 < c1.length by omega)] at hcell
      have e0 : (a.add (0 * s)).add 0 = a := by simp [Addr.add]
      rw [e0] at hcell
      unfold World.cell? at hcell
      cases hh : W.heap[a.block]? with
      | none => simp [hh] at hcell
      | some o =>
        refine ⟨(Array.getElem?_eq_some_iff.1 hh).1, ?_⟩
        cases hsp : a.spot with
        | none => rfl
        | some q => cases o <;> simp [hh, hsp] at hcell
    have each : ∀ i, i < len → ∃ z, ok z ∧ a.block < W.heap.size ∧ a.spot = none ∧ (row z).length = s ∧ VRow (old W) [] W a.block (a.off + i * s) (row z) := by
      intro i hi
      have hE := hel i hi
      have : i < elems.length := by omega
      rw [List.getElem?_eq_getElem this, Option.bind_eq_some_iff] at hE
      obtain ⟨c1, hc1, hy1⟩ := hE
      obtain ⟨z, hz, hv⟩ := h H enc n c1 _ hy1
      obtain ⟨_, g2, g3⟩ := World.cells?_some hc1
      rw [hs] at g2 g3
      obtain ⟨h8, h9⟩ := first (by omega)
      obtain ⟨ab, ao, asp⟩ := a
      simp only at h8 h9
      subst h9
      have hat : ∀ m, (⟨ab, ao, none⟩ : Addr).add m = ⟨ab, ao + m, none⟩ := fun m => by
        unfold Addr.add; split
        · rename_i e; subst e; rfl
        · rfl
      have hat2 : ∀ m j, (⟨ab, ao + m, none⟩ : Addr).add j = ⟨ab, ao + m + j, none⟩ := fun m j => by
        unfold Addr.add; split
        · rename_i e; subst e; rfl
        · rfl
      refine ⟨z, hz, h8, rfl, by have := VRs.length _ _ hv; omega, VRow.of_cells _ c1 _ hv fun j hj => ?_⟩
      have := g3 j (by omega)
      rw [hat, hat2] at this
      exact this
    obtain ⟨l, hll, hlp⟩ := choose_list len each
    refine ⟨l, ⟨by omega, fun z hz => ?_⟩, ?_⟩
    · obtain ⟨i, hi⟩ := List.getElem?_of_mem hz
      exact (hlp i z hi).1
    · simp only [VRs, VR]
      refine ⟨⟨some a, cap, by simp [hll], by simp [hll]; exact hl, ?_⟩, trivial⟩
      cases l with
      | nil => exact .inl rfl
      | cons z0 l' =>
        right
        obtain ⟨_, hb0, hsp, _, _⟩ := hlp 0 z0 (by simp)
        refine ⟨a.block, a.off, by rw [← hsp], hb0, VRows.of_get _ _ fun i y hy => ?_⟩
        rw [List.getElem?_map, Option.map_eq_some_iff] at hy
        obtain ⟨z, hz, rfl⟩ := hy
        obtain ⟨_, _, _, h5, h6⟩ := hlp i z hz
        exact ⟨h5, h6⟩

end Go.AM

/- Plain laws: valid moves and their way back. -/
import Derived.Test.YtkeeaccnnljimaaDoorH2
set_option maxRecDepth 100000
namespace Go.AM
open Go
theorem findI_none {α ρ : Type} (g : Nat → α → Option ρ) : ∀ (l : List α) (i : Nat), findI g i l = none → ∀ (j : Nat) (h : j < l.length), g (i + j) l[j] = none
  | [], _, _, _, h => absurd h (by simp)
  | x :: xs, i, e, j, h => by
    simp only [findI] at e
    split at e
    · cases e
    · rename_i hg
      cases j with
      | zero => simpa using hg
      | succ j =>
        have := findI_none g xs (i + 1) e j (by simpa using h)
        simp only [List.getElem_cons_succ]
        rw [← this]; congr 1; omega
theorem findI_first {α ρ : Type} (g : Nat → α → Option ρ) {r : ρ} : ∀ (l : List α) (i j : Nat) (h : j < l.length), g (i + j) l[j] = some r → (∀ q (hq : q < j), g (i + q) (l[q]'(by omega)) = none) → findI g i l = some r
  | [], _, _, h, _, _ => absurd h (by simp)
  | x :: xs, i, 0, h, e, _ => by
    have e' : g i x = some r := by simpa using e
    simp only [findI, e']
  | x :: xs, i, j + 1, h, e, hn => by
    have e0 : g i x = none := by simpa using hn 0 (by omega)
    simp only [findI, e0]
    refine findI_first g xs (i + 1) j (by simpa using h) ?_ fun q hq => ?_
    · simp only [List.getElem_cons_succ] at e
      rw [← e]; congr 1; omega
    · have := hn (q + 1) (by omega)
      simp only [List.getElem_cons_succ] at this
      rw [← this]; congr 1; omega
theorem vL_spec {l : List api_Move} (h : vL l = true) : ∀ (j : Nat) (hj : j < l.length), vM l[j] = true ∧ ∀ i (hi : i < j), meetsB l[j] (l[i]'(by omega)) = false := by
  intro j hj
  unfold vL at h
  split at h
  · cases h
  cases hf : findI (gV l) 0 l with
  | some r =>
    rw [hf] at h
    obtain ⟨q, hq, e⟩ := findI_spec _ _ _ _ hf
    unfold gV at e
    split at e
    · simp only [Option.some.injEq] at e
      subst e; cases h
    · cases e
  | none =>
    have e := findI_none _ _ _ hf j hj
    unfold gV at e
    split at e
    · cases e
    · rename_i hc
      simp only [Nat.zero_add, Bool.or_eq_true, Bool.not_eq_true', not_or, Bool.not_eq_false, Bool.not_eq_true, List.any_eq_false] at hc
      refine ⟨hc.1, fun i hi => ?_⟩
      have := hc.2 (l[i]'(by omega)) (List.mem_take_iff_getElem.2 ⟨i, by omega, rfl⟩)
      simpa using this
theorem vB_side {b : Arr5 api_Range} (h : ∀ k : Int, 0 ≤ k → k < 5 → sideBad (topOf k) (b.get k) = false) : vB b = true := by
  have g0 : sideBad 4294967295 b.x0 = false := h 0 (by decide) (by decide)
  have g1 : sideBad 4294967295 b.x1 = false := h 1 (by decide) (by decide)
  have g2 : sideBad 255 b.x2 = false := h 2 (by decide) (by decide)
  have g3 : sideBad 65535 b.x3 = false := h 3 (by decide) (by decide)
  have g4 : sideBad 65535 b.x4 = false := h 4 (by decide) (by decide)
  unfold vB
  simp [g0, g1, g2, g3, g4]
theorem side_vB {b : Arr5 api_Range} (h : vB b = true) {k : Int} (h0 : 0 ≤ k) (h1 : k < 5) : sideBad (topOf k) (b.get k) = false := by
  unfold vB at h
  split at h; · cases h
  split at h; · cases h
  split at h; · cases h
  split at h; · cases h
  split at h; · cases h
  rcases five h0 h1 with rfl | rfl | rfl | rfl | rfl <;> exact Bool.eq_false_iff.2 (by assumption)
theorem cB_spec {b : Arr5 api_Range} {h : api_Header} (hc : cB b h = true) : vB b = true ∧ ∀ k : Int, 0 ≤ k → k < 5 → (b.get k).Lo ≤ (hv h).get k ∧ (hv h).get k ≤ (b.get k).Hi := by
  unfold cB at hc
  simp only [Bool.and_eq_true] at hc
  refine ⟨hc.1, fun k h0 h1 => ?_⟩
  have ho := allF_get hc.2 h0 h1
  unfold outB at ho
  simp only [Bool.or_eq_false_iff, decide_eq_false_iff_not] at ho
  omega
theorem cB_of {b : Arr5 api_Range} {h : api_Header} (hv' : vB b = true) (hc : ∀ k : Int, 0 ≤ k → k < 5 → (b.get k).Lo ≤ (hv h).get k ∧ (hv h).get k ≤ (b.get k).Hi) : cB b h = true := by
  have g : ∀ k : Int, 0 ≤ k → k < 5 → outB b (hv h) k = false := fun k h0 h1 => by
    have := hc k h0 h1
    unfold outB
    simp only [Bool.or_eq_false_iff, decide_eq_false_iff_not]
    omega
  unfold cB allF
  rw [hv', g 0 (by decide) (by decide), g 1 (by decide) (by decide), g 2 (by decide) (by decide), g 3 (by decide) (by decide), g 4 (by decide) (by decide)]
  rfl
theorem isect_get (a b : Arr5 api_Range) {k : Int} (h0 : 0 ≤ k) (h1 : k < 5) : (isect a b).get k = ixr (a.get k) (b.get k) := by
  rcases five h0 h1 with rfl | rfl | rfl | rfl | rfl <;> rfl
theorem sideBad_false {top : Int} {r : api_Range} : sideBad top r = false ↔ r.Lo ≤ r.Hi ∧ r.Hi ≤ top := by
  unfold sideBad
  simp only [Bool.or_eq_false_iff, decide_eq_false_iff_not]
  omega
/-- Two boxes that hold one header meet. -/
theorem meets_of {a b : Arr5 api_Range} {h : api_Header} (ha : cB a h = true) (hb : cB b h = true) : (xB a b).2 = true := by
  obtain ⟨va, ca⟩ := cB_spec ha
  obtain ⟨vb, cb⟩ := cB_spec hb
  have hi : vB (isect a b) = true := vB_side fun k h0 h1 => by
    have a1 := ca k h0 h1
    have b1 := cb k h0 h1
    have a2 := sideBad_false.1 (side_vB va h0 h1)
    have b2 := sideBad_false.1 (side_vB vb h0 h1)
    rw [isect_get _ _ h0 h1, sideBad_false]
    unfold ixr iMax iMin
    simp only
    split <;> split <;> omega
  unfold xB
  rw [va, vb, hi]; rfl
theorem mM_at {l : List api_Move} {h : api_Header} {j : Nat} (hj : j < l.length) (h1 : vM l[j] = true) (h2 : cB l[j].From h = true) (hn : ∀ i (hi : i < j), cB (l[i]'(by omega)).From h = false) : mM l h = (j : Int) := by
  unfold mM
  rw [findI_first (gM h) (r := (j : Int)) l 0 j hj (by unfold gM; rw [h1, h2, Nat.zero_add]; rfl) (fun q hq => by unfold gM; rw [hn q hq, Bool.and_false]; rfl)]
  rfl
theorem toV_get (m : api_Move) (v : Arr5 Int) {k : Int} (h0 : 0 ≤ k) (h1 : k < 5) : (toV m v).get k = to1 m v k := by
  rcases five h0 h1 with rfl | rfl | rfl | rfl | rfl <;> rfl
theorem arr5_ext {a b : Arr5 Int} (h : ∀ k : Int, 0 ≤ k → k < 5 → a.get k = b.get k) : a = b := by
  obtain ⟨a0, a1, a2, a3, a4⟩ := a
  obtain ⟨b0, b1, b2, b3, b4⟩ := b
  have e0 : a0 = b0 := h 0 (by decide) (by decide)
  have e1 : a1 = b1 := h 1 (by decide) (by decide)
  have e2 : a2 = b2 := h 2 (by decide) (by decide)
  have e3 : a3 = b3 := h 3 (by decide) (by decide)
  have e4 : a4 = b4 := h 4 (by decide) (by decide)
  rw [e0, e1, e2, e3, e4]
/-- A valid list of moves whose way back is valid is undone by it. -/
theorem back {l : List api_Move} (hl : ∀ m ∈ l, MIn m) (h1 : vL l = true) (h2 : vL (l.map turn) = true) {h : api_Header} (hm : ¬ mM l h < 0) : aM (l.map turn) (aM l h) = h := by
  obtain ⟨j, hj, e, g1, g2⟩ := mM_spec hm
  have hin := hl _ (List.getElem_mem hj)
  have ha : aM l h = hdr (toV l[j] (hv h)) := by
    unfold aM
    rw [e]
    simp only [Int.toNat_natCast, List.getElem?_eq_getElem hj]
    rw [if_neg (by omega)]
  have hjm : j < (l.map turn).length := by simpa using hj
  have ht : ∀ k : Int, 0 ≤ k → k < 5 → _ := fun k h0 h1 => to1_ok hin g1 g2 (k := k) h0 h1
  have hc : cB l[j].To (aM l h) = true := by
    unfold vM at g1
    simp only [Bool.and_eq_true] at g1
    refine cB_of g1.1.2 fun k h0 h1 => ?_
    rw [ha, hv_hdr, toV_get _ _ h0 h1]
    obtain ⟨_, _, _, _, _, _, t1, t2, _⟩ := ht k h0 h1
    exact ⟨t1, t2⟩
  have hv2 := vL_spec h2 j hjm
  have hm2 : mM (l.map turn) (aM l h) = (j : Int) := by
    refine mM_at hjm hv2.1 (by simpa [turn] using hc) fun i hi => ?_
    have := hv2.2 i hi
    rw [Bool.eq_false_iff]
    intro hci
    have hx : meetsB (l.map turn)[j] ((l.map turn)[i]'(by omega)) = true := meets_of (by simpa [turn] using hc) hci
    rw [this] at hx; cases hx
  have hb : aM (l.map turn) (aM l h) = hdr (toV (turn l[j]) (hv (aM l h))) := by
    rw [aM, hm2]
    simp only [Int.toNat_natCast, List.getElem?_eq_getElem hjm, List.getElem_map]
    rw [if_neg (by omega)]
  rw [hb, ha, hv_hdr, ← hdr_hv h]
  congr 1
  refine arr5_ext fun k h0 h1 => ?_
  rw [hdr_hv, toV_get _ _ h0 h1]
  unfold to1 turn
  simp only
  rw [toV_get _ _ h0 h1]
  unfold to1
  omega
end Go.AM

/- Plain laws: headers, boxes and moves: both programs compute the same. No condition. -/
import Derived.Test.YtkeeaccnnljimaaDoorG2
set_option maxRecDepth 100000
namespace Go.AM
open Go
def hv (h : api_Header) : Arr5 Int := ⟨h.Src, h.Dst, h.Proto, h.SrcPort, h.DstPort⟩
theorem Point_eq {h : api_Header} (hh : ok_api_Header h) : F_nsgref3_Point h = some (hv h) := by
  obtain ⟨h1, h2, h3, h4, h5, _⟩ := hh
  unfold ok_u8 at h3; unfold ok_u16 at h4 h5
  simp only [F_nsgref3_Point, hv]
  rw [wu32 (x := h.Proto) (by omega) (by omega), wu32 (x := h.SrcPort) (by omega) (by omega), wu32 (x := h.DstPort) (by omega) (by omega)]
theorem values_eq {h : api_Header} (hh : ok_api_Header h) : F_box_values h = some (hv h) := Point_eq hh
def outB (b : Arr5 api_Range) (v : Arr5 Int) (k : Int) : Bool := decide (v.get k < (b.get k).Lo) || decide (v.get k > (b.get k).Hi)
def allF (f : Int → Bool) : Bool := !(f 0 || f 1 || f 2 || f 3 || f 4)
def cB (b : Arr5 api_Range) (h : api_Header) : Bool := vB b && allF (outB b (hv h))
theorem cstep1 (b : Arr5 api_Range) (v : Arr5 Int) (n : Nat) (k : Int) (h0 : 0 ≤ k) (h1 : k < 5) : F_box_Contains_L1 b v (n + 1) k = if outB b v k = true then some (.inr false) else F_box_Contains_L1 b v n (k + 1) := by
  rw [F_box_Contains_L1]
  simp only [show k < 5 from h1, decide_true, if_true, show 0 ≤ k ∧ k < 5 from ⟨h0, h1⟩, and_self, Option.bind_some, wnext h0 (by omega : k < 1000000)]
  unfold outB
  cases decide (v.get k < (b.get k).Lo) <;> simp
theorem cstep2 (b : Arr5 api_Range) (v : Arr5 Int) (n : Nat) (k : Int) (h0 : 0 ≤ k) (h1 : k < 5) : F_nsgref3_Contains_L1 b v (n + 1) k = if outB b v k = true then some (.inr false) else F_nsgref3_Contains_L1 b v n (k + 1) := by
  rw [F_nsgref3_Contains_L1]
  simp only [show k < 5 from h1, decide_true, if_true, show 0 ≤ k ∧ k < 5 from ⟨h0, h1⟩, and_self, Option.bind_some, wnext h0 (by omega : k < 1000000)]
  unfold outB
  cases decide (v.get k < (b.get k).Lo) <;> simp
theorem Contains_eq {h : api_Header} (hh : ok_api_Header h) (b : Arr5 api_Range) : F_box_Contains b h = some (cB b h) := by
  unfold F_box_Contains cB
  rw [Valid_eq, values_eq hh]
  simp only [Option.bind_some]
  rw [five_find (bad := outB b (hv h)) (cstep1 b (hv h)) (fun n => by rw [F_box_Contains_L1]; rfl)]
  cases vB b
  · rfl
  · unfold allF
    cases (outB b (hv h) 0 || outB b (hv h) 1 || outB b (hv h) 2 || outB b (hv h) 3 || outB b (hv h) 4) <;> rfl
theorem rContains_eq {h : api_Header} (hh : ok_api_Header h) (b : Arr5 api_Range) : F_nsgref3_Contains b h = some (cB b h) := by
  unfold F_nsgref3_Contains cB
  rw [Point_eq hh]
  simp only [Option.bind_some]
  rw [five_find (bad := outB b (hv h)) (cstep2 b (hv h)) (fun n => by rw [F_nsgref3_Contains_L1]; rfl), rValid_eq]
  unfold allF
  cases (outB b (hv h) 0 || outB b (hv h) 1 || outB b (hv h) 2 || outB b (hv h) 3 || outB b (hv h) 4) <;> cases vB b <;> rfl
/-! ### Intersections -/
def zb5 : Arr5 api_Range := ⟨⟨0, 0⟩, ⟨0, 0⟩, ⟨0, 0⟩, ⟨0, 0⟩, ⟨0, 0⟩⟩
def ixr (a b : api_Range) : api_Range := ⟨iMax a.Lo b.Lo, iMin a.Hi b.Hi⟩
def isect (a b : Arr5 api_Range) : Arr5 api_Range := ⟨ixr a.x0 b.x0, ixr a.x1 b.x1, ixr a.x2 b.x2, ixr a.x3 b.x3, ixr a.x4 b.x4⟩
def xB (a b : Arr5 api_Range) : Arr5 api_Range × Bool := if (vB a && vB b && vB (isect a b)) = true then (isect a b, true) else (zb5, false)
theorem isect_set (z a b : Arr5 api_Range) : (((((z.set 0 (ixr (a.get 0) (b.get 0))).set 1 (ixr (a.get 1) (b.get 1))).set 2 (ixr (a.get 2) (b.get 2))).set 3 (ixr (a.get 3) (b.get 3))).set 4 (ixr (a.get 4) (b.get 4))) = isect a b := rfl
theorem rIntersect_eq (a b : Arr5 api_Range) : F_nsgref3_Intersect a b = some (xB a b) := by
  unfold F_nsgref3_Intersect xB
  have h1 : F_nsgref3_Intersect_L1 a b fuel z_a5_api_Range 0 = some (isect a b) := by
    rw [five_fold (L := F_nsgref3_Intersect_L1 a b) (f := fun s k => Arr5.set s k (ixr (a.get k) (b.get k))) (fin := id) (fun n s k h0 h1 => by
      rw [F_nsgref3_Intersect_L1]
      simp only [show k < 5 from h1, decide_true, if_true, show 0 ≤ k ∧ k < 5 from ⟨h0, h1⟩, and_self, wnext h0 (by omega : k < 1000000)]
      rfl) (fun n s => by rw [F_nsgref3_Intersect_L1]; rfl)]
    rw [isect_set]; rfl
  rw [h1]
  simp only [Option.bind_some]
  rw [rValid_eq, rValid_eq, rValid_eq]
  cases vB a <;> cases vB b <;> cases vB (isect a b) <;> rfl
/-! ### Moves -/
def difM (m : api_Move) (k : Int) : Bool := (IntKind.wrap .u32 ((m.From.get k).Hi - (m.From.get k).Lo)) != (IntKind.wrap .u32 ((m.To.get k).Hi - (m.To.get k).Lo))
def vM (m : api_Move) : Bool := vB m.From && vB m.To && allF (difM m)
theorem validMove_eq (m : api_Move) : F_rewrite_validMove m = some (vM m) := by
  unfold F_rewrite_validMove vM
  rw [Valid_eq, Valid_eq, five_find (L := F_rewrite_validMove_L1 m) (bad := difM m) (fun n k h0 h1 => by
    rw [F_rewrite_validMove_L1]
    simp only [show k < 5 from h1, decide_true, if_true, show 0 ≤ k ∧ k < 5 from ⟨h0, h1⟩, and_self, wnext h0 (by omega : k < 1000000)]
    rfl) (fun n => by rw [F_rewrite_validMove_L1]; rfl)]
  unfold allF
  cases vB m.From <;> cases vB m.To <;> cases (difM m 0 || difM m 1 || difM m 2 || difM m 3 || difM m 4) <;> rfl
theorem rValidMove_eq (m : api_Move) : F_nsgref6_ValidMove m = some (vM m) := by
  unfold F_nsgref6_ValidMove vM
  rw [rValid_eq, rValid_eq, five_find (L := F_nsgref6_ValidMove_L1 m) (bad := difM m) (fun n k h0 h1 => by
    rw [F_nsgref6_ValidMove_L1]
    simp only [show k < 5 from h1, decide_true, if_true, show 0 ≤ k ∧ k < 5 from ⟨h0, h1⟩, and_self, wnext h0 (by omega : k < 1000000)]
    rfl) (fun n => by rw [F_nsgref6_ValidMove_L1]; rfl)]
  unfold allF
  cases vB m.From <;> cases vB m.To <;> cases (difM m 0 || difM m 1 || difM m 2 || difM m 3 || difM m 4) <;> rfl
def gM (h : api_Header) (i : Nat) (m : api_Move) : Option Int := if (vM m && cB m.From h) = true then some (i : Int) else none
def orN (o : Option Int) : Int := match o with | some r => r | none => -1
def mM (l : List api_Move) (h : api_Header) : Int := orN (findI (gM h) 0 l)
theorem Match_eq {h : api_Header} (hh : ok_api_Header h) {l : List api_Move} (hl : l.length ≤ 1000000000000) : F_rewrite_Match l h = some (mM l h) := by
  have h1 : ∀ m : api_Move, F_rewrite_Match_1 m h = some (vM m && cB m.From h) := fun m => by
    unfold F_rewrite_Match_1
    rw [validMove_eq, Contains_eq hh]
    cases vM m <;> rfl
  unfold F_rewrite_Match F_slices_IndexFunc_api_Move_api_Move_of_Match_1 mM
  rw [list_find (L := F_slices_IndexFunc_api_Move_api_Move_of_Match_1_L1 l h) l (gM h) hl (fun n i hi => by
    rw [F_slices_IndexFunc_api_Move_api_Move_of_Match_1_L1]
    simp only [show ((i : Int) < (l.length : Int)) from by omega, decide_true, if_true, idx_get hi, Option.bind_some, h1, wsucc (by omega : i < 1000000000001)]
    unfold gM
    cases (vM l[i] && cB l[i].From h) <;> rfl) (fun n => by rw [F_slices_IndexFunc_api_Move_api_Move_of_Match_1_L1]; simp)]
  cases findI (gM h) 0 l <;> rfl
/-- What stands at the index that is found. -/
theorem findI_spec {α ρ : Type} (g : Nat → α → Option ρ) : ∀ (l : List α) (i : Nat) (r : ρ), findI g i l = some r → ∃ (j : Nat) (h : j < l.length), g (i + j) l[j] = some r
  | [], _, _, h => by simp [findI] at h
  | x :: xs, i, r, h => by
    simp only [findI] at h
    split at h
    · rename_i r' hg
      simp only [Option.some.injEq] at h
      subst h
      exact ⟨0, by simp, by simpa using hg⟩
    · obtain ⟨j, hj, hg⟩ := findI_spec g xs (i + 1) r h
      exact ⟨j + 1, by simpa using hj, by simp only [List.getElem_cons_succ]; rw [← hg]; congr 1; omega⟩
theorem mM_spec {l : List api_Move} {h : api_Header} (hm : ¬ mM l h < 0) : ∃ (j : Nat) (hj : j < l.length), mM l h = (j : Int) ∧ vM l[j] = true ∧ cB l[j].From h = true := by
  unfold mM at hm ⊢
  cases hf : findI (gM h) 0 l with
  | none => rw [hf] at hm; exact absurd (by decide) hm
  | some r =>
    obtain ⟨j, hj, hg⟩ := findI_spec _ _ _ _ hf
    unfold gM at hg
    split at hg
    · rename_i hc
      simp only [Option.some.injEq] at hg
      simp only [Bool.and_eq_true] at hc
      exact ⟨j, hj, by rw [← hg]; simp [orN], hc.1, hc.2⟩
    · cases hg
/-! ### Validity of lists of moves -/
def meetsB (m o : api_Move) : Bool := (xB m.From o.From).2
def gV (l : List api_Move) (i : Nat) (m : api_Move) : Option Bool := if (!vM m || (l.take i).any (meetsB m)) = true then some false else none
def orT (o : Option Bool) : Bool := match o with | some r => r | none => true
def vL (l : List api_Move) : Bool := if l.length > 64 then false else orT (findI (gV l) 0 l)
theorem findI_any {α : Type} (p : α → Bool) : ∀ (l : List α) (i : Nat), findI (fun _ x => if p x = true then some false else none) i l = if l.any p = true then some false else none
  | [], _ => rfl
  | x :: xs, i => by
    simp only [findI, List.any_cons]
    by_cases hp : p x = true
    · simp [hp]
    · simp only [Bool.not_eq_true] at hp
      simp only [hp, Bool.false_eq_true, if_false, Bool.false_or]; exact findI_any p xs (i + 1)
theorem rValid_L_eq {l : List api_Move} : F_nsgref6_Valid l = some (vL l) := by
  unfold F_nsgref6_Valid vL
  by_cases h : l.length > 64
  · rw [if_pos h, if_pos (by simp; omega)]
  · rw [if_neg h, if_neg (by simp; omega)]
    rw [list_find (L := F_nsgref6_Valid_L1 l) l (gV l) (by omega) (fun n i hi => by
      rw [F_nsgref6_Valid_L1]
      have h2 : F_nsgref6_Valid_L2 l (i : Int) fuel 0 = some (orS (if (l.take i).any (meetsB l[i]) = true then some false else none)) := by
        have hlen : (l.take i).length = i := by simp; omega
        rw [list_find (L := F_nsgref6_Valid_L2 l (i : Int)) (l.take i) (fun _ o => if meetsB l[i] o = true then some false else none) (by simp; omega) (fun n j hj => by
          have hji : j < i := by omega
          have hjl : j < l.length := by omega
          rw [F_nsgref6_Valid_L2]
          simp only [show ((j : Int) < (i : Int)) from by omega, decide_true, if_true, idx_get hi, idx_get hjl, Option.bind_some, rIntersect_eq, wsucc (by omega : j < 1000000000001), List.getElem_take]
          unfold meetsB
          cases (xB l[i].From l[j].From).2 <;> rfl) (fun n => by rw [F_nsgref6_Valid_L2, hlen]; simp), findI_any]
      simp only [show ((i : Int) < (l.length : Int)) from by omega, decide_true, if_true, idx_get hi, Option.bind_some, rValidMove_eq, wsucc (by omega : i < 1000000000001), h2]
      unfold gV
      cases vM l[i] <;> cases (l.take i).any (meetsB l[i]) <;> rfl) (fun n => by rw [F_nsgref6_Valid_L1]; simp)]
    cases findI (gV l) 0 l <;> rfl
/-! ### Inverses -/
def turn (m : api_Move) : api_Move := ⟨m.To, m.From⟩
theorem Inverse_eq {l : List api_Move} (hl : l.length ≤ 100000) : F_rewrite_Inverse l = some (l.map turn) := by
  unfold F_rewrite_Inverse
  have := list_fold (L := F_rewrite_Inverse_L1 l) l (fun s _ x => s ++ [turn x]) id (fun i s => s.length = i) (by omega) (fun n s i hi hs => by
    rw [F_rewrite_Inverse_L1]
    simp only [show ((i : Int) < (l.length : Int)) from by omega, decide_true, if_true, idx_get hi, Option.bind_some, F_rewrite_turned, wsucc (by omega : i < 1000000000001), List.length_singleton]
    rw [if_pos (show s.length + 1 ≤ lim by unfold lim; omega)]
    exact ⟨rfl, by simp [hs]⟩) (fun n s hs => by rw [F_rewrite_Inverse_L1]; simp) [] rfl
  rw [this.1, foldI_map]
  rfl
theorem rInverse_eq {l : List api_Move} (hl : l.length ≤ 100000) : F_nsgref6_Inverse l = some (l.map turn) := by
  unfold F_nsgref6_Inverse
  have := list_fold (L := F_nsgref6_Inverse_L1 l) l (fun s _ x => s ++ [turn x]) id (fun i s => s.length = i) (by omega) (fun n s i hi hs => by
    rw [F_nsgref6_Inverse_L1]
    simp only [show ((i : Int) < (l.length : Int)) from by omega, decide_true, if_true, idx_get hi, Option.bind_some, wsucc (by omega : i < 1000000000001), List.length_singleton]
    rw [if_pos (show s.length + 1 ≤ lim by unfold lim; omega)]
    exact ⟨rfl, by simp [hs]⟩) (fun n s hs => by rw [F_nsgref6_Inverse_L1]; simp) [] rfl
  rw [this.1, foldI_map]
  rfl
end Go.AM

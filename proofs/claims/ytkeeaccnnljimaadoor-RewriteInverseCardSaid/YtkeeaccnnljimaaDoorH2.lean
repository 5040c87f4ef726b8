/- Plain laws: where a move takes a header, in both programs. No condition. -/
import Derived.Test.YtkeeaccnnljimaaDoorH1
set_option maxRecDepth 100000
namespace Go.AM
open Go
def hdr (v : Arr5 Int) : api_Header := ⟨v.x0, v.x1, v.x2, v.x3, v.x4⟩
/-- Values that the fields can have. -/
structure VOk (v : Arr5 Int) : Prop where
  h0 : 0 ≤ v.x0 ∧ v.x0 ≤ 4294967295
  h1 : 0 ≤ v.x1 ∧ v.x1 ≤ 4294967295
  h2 : 0 ≤ v.x2 ∧ v.x2 ≤ 255
  h3 : 0 ≤ v.x3 ∧ v.x3 ≤ 65535
  h4 : 0 ≤ v.x4 ∧ v.x4 ≤ 65535
theorem wu8 {x : Int} (h0 : 0 ≤ x) (h1 : x < 256) : IntKind.wrap .u8 x = x := by
  rw [wrap_u .u8 8 rfl rfl]; omega
theorem wu16 {x : Int} (h0 : 0 ≤ x) (h1 : x < 65536) : IntKind.wrap .u16 x = x := by
  rw [wrap_u .u16 16 rfl rfl]; omega
theorem hv_ok {h : api_Header} (hh : ok_api_Header h) : VOk (hv h) := by
  obtain ⟨h1, h2, h3, h4, h5, _⟩ := hh
  unfold ok_u32 at h1 h2; unfold ok_u8 at h3; unfold ok_u16 at h4 h5
  exact ⟨⟨h1.1, by simp only [hv]; omega⟩, ⟨h2.1, by simp only [hv]; omega⟩, ⟨h3.1, by simp only [hv]; omega⟩, ⟨h4.1, by simp only [hv]; omega⟩, ⟨h5.1, by simp only [hv]; omega⟩⟩
theorem hdr_ok {v : Arr5 Int} (h : VOk v) : ok_api_Header (hdr v) := by
  obtain ⟨h0, h1, h2, h3, h4⟩ := h
  refine ⟨?_, ?_, ?_, ?_, ?_, trivial⟩
  · unfold ok_u32; simp only [hdr]; omega
  · unfold ok_u32; simp only [hdr]; omega
  · unfold ok_u8; simp only [hdr]; omega
  · unfold ok_u16; simp only [hdr]; omega
  · unfold ok_u16; simp only [hdr]; omega
theorem hdr_hv (h : api_Header) : hdr (hv h) = h := rfl
theorem hv_hdr (v : Arr5 Int) : hv (hdr v) = v := rfl
theorem header_eq {v : Arr5 Int} (h : VOk v) : F_box_header v = some (hdr v) := by
  obtain ⟨h0, h1, h2, h3, h4⟩ := h
  simp only [F_box_header, hdr]
  rw [wu8 h2.1 (by omega), wu16 h3.1 (by omega), wu16 h4.1 (by omega)]
theorem rheader_eq {v : Arr5 Int} (h : VOk v) : F_nsgref3_Header v = some (hdr v) := header_eq h
theorem VOk.set {v : Arr5 Int} (h : VOk v) {k x : Int} (h0 : 0 ≤ k) (h1 : k < 5) (hx0 : 0 ≤ x) (hx : x ≤ topOf k) : VOk (v.set k x) := by
  obtain ⟨g0, g1, g2, g3, g4⟩ := h
  rcases five h0 h1 with rfl | rfl | rfl | rfl | rfl
  · exact ⟨⟨hx0, hx⟩, g1, g2, g3, g4⟩
  · exact ⟨g0, ⟨hx0, hx⟩, g2, g3, g4⟩
  · exact ⟨g0, g1, ⟨hx0, hx⟩, g3, g4⟩
  · exact ⟨g0, g1, g2, ⟨hx0, hx⟩, g4⟩
  · exact ⟨g0, g1, g2, g3, ⟨hx0, hx⟩⟩
theorem VOk.get {v : Arr5 Int} (h : VOk v) {k : Int} (h0 : 0 ≤ k) (h1 : k < 5) : 0 ≤ v.get k ∧ v.get k ≤ topOf k := by
  obtain ⟨g0, g1, g2, g3, g4⟩ := h
  rcases five h0 h1 with rfl | rfl | rfl | rfl | rfl
  · exact g0
  · exact g1
  · exact g2
  · exact g3
  · exact g4
theorem Value_eq {h : api_Header} (hh : ok_api_Header h) {k : Int} (h0 : 0 ≤ k) (h1 : k < 5) : F_box_Value h k = some ((hv h).get k) := by
  unfold F_box_Value
  rw [values_eq hh]
  simp [show ¬ k < 0 by omega, show ¬ k ≥ 5 by omega, h0, h1]
theorem With_eq {v : Arr5 Int} (hh : VOk v) {k x : Int} (h0 : 0 ≤ k) (h1 : k < 5) (hx0 : 0 ≤ x) (hx : x ≤ topOf k) : F_box_With (hdr v) k x = some (hdr (v.set k x)) := by
  unfold F_box_With
  rw [values_eq (hdr_ok hh), hv_hdr]
  simp only [show ¬ k < 0 by omega, show ¬ k ≥ 5 by omega, decide_false, Bool.or_self, Option.bind_some, Bool.false_eq_true, if_false, tops_get h0 h1, show ¬ x > topOf k by omega]
  rw [if_pos (show 0 ≤ k ∧ k < 5 from ⟨h0, h1⟩)]
  simp only [Option.bind_some, Bool.false_eq_true, if_false]
  rw [if_pos (show 0 ≤ k ∧ k < 5 from ⟨h0, h1⟩), header_eq (hh.set h0 h1 hx0 hx)]
  rfl
/-- A box in range: its sides as numbers. -/
theorem vB_get {b : Arr5 api_Range} (h : BIn b) (hv : vB b = true) {k : Int} (h0 : 0 ≤ k) (h1 : k < 5) : 0 ≤ (b.get k).Lo ∧ (b.get k).Lo ≤ (b.get k).Hi ∧ (b.get k).Hi ≤ topOf k := by
  obtain ⟨g0, g1, g2, g3, g4⟩ := vB_ok h hv
  rcases five h0 h1 with rfl | rfl | rfl | rfl | rfl
  · exact ⟨g0.h0, g0.h1, g0.h2⟩
  · exact ⟨g1.h0, g1.h1, g1.h2⟩
  · exact ⟨g2.h0, g2.h1, g2.h2⟩
  · exact ⟨g3.h0, g3.h1, g3.h2⟩
  · exact ⟨g4.h0, g4.h1, g4.h2⟩
structure MIn (m : api_Move) : Prop where
  f : BIn m.From
  t : BIn m.To
theorem allF_get {f : Int → Bool} (h : allF f = true) {k : Int} (h0 : 0 ≤ k) (h1 : k < 5) : f k = false := by
  unfold allF at h
  simp only [Bool.not_eq_true', Bool.or_eq_false_iff] at h
  obtain ⟨⟨⟨⟨g0, g1⟩, g2⟩, g3⟩, g4⟩ := h
  rcases five h0 h1 with rfl | rfl | rfl | rfl | rfl <;> assumption
theorem topOf_lt {k : Int} (h0 : 0 ≤ k) (h1 : k < 5) : 0 ≤ topOf k ∧ topOf k ≤ 4294967295 := by
  rcases five h0 h1 with rfl | rfl | rfl | rfl | rfl <;> decide
/-- What a field is mapped to. -/
def to1 (m : api_Move) (v : Arr5 Int) (k : Int) : Int := v.get k - (m.From.get k).Lo + (m.To.get k).Lo
theorem to1_ok {m : api_Move} (hm : MIn m) (hv' : vM m = true) {h : api_Header} (hc : cB m.From h = true) {k : Int} (h0 : 0 ≤ k) (h1 : k < 5) :
    0 ≤ to1 m (hv h) k ∧ to1 m (hv h) k ≤ topOf k ∧ IntKind.wrap .u32 ((hv h).get k - (m.From.get k).Lo) = (hv h).get k - (m.From.get k).Lo ∧ IntKind.wrap .u32 ((m.To.get k).Lo + ((hv h).get k - (m.From.get k).Lo)) = to1 m (hv h) k ∧
    (m.From.get k).Lo ≤ (hv h).get k ∧ (hv h).get k ≤ (m.From.get k).Hi ∧ (m.To.get k).Lo ≤ to1 m (hv h) k ∧ to1 m (hv h) k ≤ (m.To.get k).Hi ∧ (m.From.get k).Hi - (m.From.get k).Lo = (m.To.get k).Hi - (m.To.get k).Lo := by
  unfold vM at hv'
  simp only [Bool.and_eq_true] at hv'
  obtain ⟨⟨v1, v2⟩, v3⟩ := hv'
  obtain ⟨a1, a2, a3⟩ := vB_get hm.f v1 h0 h1
  obtain ⟨b1, b2, b3⟩ := vB_get hm.t v2 h0 h1
  obtain ⟨t1, t2⟩ := topOf_lt h0 h1
  have hd := allF_get v3 h0 h1
  unfold difM at hd
  rw [wu32 (x := (m.From.get k).Hi - (m.From.get k).Lo) (by omega) (by omega), wu32 (x := (m.To.get k).Hi - (m.To.get k).Lo) (by omega) (by omega)] at hd
  simp only [bne_eq_false_iff_eq] at hd
  unfold cB at hc
  simp only [Bool.and_eq_true] at hc
  have ho := allF_get hc.2 h0 h1
  unfold outB at ho
  simp only [Bool.or_eq_false_iff, decide_eq_false_iff_not] at ho
  unfold to1
  refine ⟨by omega, by omega, wu32 (by omega) (by omega), ?_, by omega, by omega, by omega, by omega, hd⟩
  rw [wu32 (by omega) (by omega)]; omega
def toV (m : api_Move) (v : Arr5 Int) : Arr5 Int := ⟨to1 m v 0, to1 m v 1, to1 m v 2, to1 m v 3, to1 m v 4⟩
def aM (l : List api_Move) (h : api_Header) : api_Header := match l[(mM l h).toNat]? with
  | some m => if mM l h < 0 then h else hdr (toV m (hv h))
  | none => h
theorem aM_neg {l : List api_Move} {h : api_Header} (hm : mM l h < 0) : aM l h = h := by
  unfold aM
  split
  · rw [if_pos hm]
  · rfl
theorem toV_ok {m : api_Move} (hm : MIn m) (hv' : vM m = true) {h : api_Header} (hc : cB m.From h = true) : VOk (toV m (hv h)) :=
  have g := fun (k : Int) h0 h1 => to1_ok hm hv' hc (k := k) h0 h1
  ⟨⟨(g 0 (by decide) (by decide)).1, (g 0 (by decide) (by decide)).2.1⟩, ⟨(g 1 (by decide) (by decide)).1, (g 1 (by decide) (by decide)).2.1⟩, ⟨(g 2 (by decide) (by decide)).1, (g 2 (by decide) (by decide)).2.1⟩,
    ⟨(g 3 (by decide) (by decide)).1, (g 3 (by decide) (by decide)).2.1⟩, ⟨(g 4 (by decide) (by decide)).1, (g 4 (by decide) (by decide)).2.1⟩⟩
theorem aM_ok {l : List api_Move} (hl : ∀ m ∈ l, MIn m) {h : api_Header} (hh : ok_api_Header h) : ok_api_Header (aM l h) := by
  by_cases hm : mM l h < 0
  · rw [aM_neg hm]; exact hh
  · obtain ⟨j, hj, e, g1, g2⟩ := mM_spec hm
    unfold aM
    rw [e]
    simp only [Int.toNat_natCast, List.getElem?_eq_getElem hj]
    rw [if_neg (by omega)]
    exact hdr_ok (toV_ok (hl _ (List.getElem_mem hj)) g1 g2)
theorem Apply_eq {h : api_Header} (hh : ok_api_Header h) {l : List api_Move} (hin : ∀ m ∈ l, MIn m) (hl : l.length ≤ 1000000000000) : F_rewrite_Apply l h = some (aM l h) := by
  unfold F_rewrite_Apply
  rw [Match_eq hh hl]
  simp only [Option.bind_some]
  by_cases hm : mM l h < 0
  · rw [aM_neg hm, if_pos (decide_eq_true hm)]
  · rw [if_neg (by simpa using hm)]
    obtain ⟨j, hj, e, g1, g2⟩ := mM_spec hm
    have hmi := hin _ (List.getElem_mem hj)
    have ht := fun (k : Int) h0 h1 => to1_ok hmi g1 g2 (k := k) h0 h1
    have st : ∀ n (v : Arr5 Int) (k : Int), 0 ≤ k → k < 5 → VOk v → F_rewrite_Apply_L1 l h (j : Int) l[j] (n + 1) (hdr v) k = F_rewrite_Apply_L1 l h (j : Int) l[j] n (hdr (v.set k (to1 l[j] (hv h) k))) (k + 1) := fun n v k h0 h1 hv => by
      obtain ⟨q1, q2, q3, q4, _⟩ := ht k h0 h1
      rw [F_rewrite_Apply_L1]
      simp only [show k < 5 from h1, decide_true, if_true, show 0 ≤ k ∧ k < 5 from ⟨h0, h1⟩, and_self, idx_get hj, Option.bind_some, wnext h0 (by omega : k < 1000000), Value_eq hh h0 h1, q3, q4, With_eq hv h0 h1 q1 q2]
    unfold aM
    rw [e]
    simp only [idx_get hj, Option.bind_some, Int.toNat_natCast, List.getElem?_eq_getElem hj]
    rw [if_neg (by omega)]
    have v0 := hv_ok hh
    have s1 := fun (v : Arr5 Int) (hv : VOk v) (k : Int) h0 h1 => hv.set h0 h1 (ht k h0 h1).1 (ht k h0 h1).2.1
    have w1 := s1 _ v0 0 (by decide) (by decide)
    have w2 := s1 _ w1 1 (by decide) (by decide)
    have w3 := s1 _ w2 2 (by decide) (by decide)
    have w4 := s1 _ w3 3 (by decide) (by decide)
    rw [fuel6]
    have chain : F_rewrite_Apply_L1 l h (j : Int) l[j] (1180591620717411303418 + 6) (hdr (hv h)) 0 = _ :=
      (st (1180591620717411303418 + 5) _ 0 (by decide) (by decide) v0).trans ((st (1180591620717411303418 + 4) _ 1 (by decide) (by decide) w1).trans ((st (1180591620717411303418 + 3) _ 2 (by decide) (by decide) w2).trans ((st (1180591620717411303418 + 2) _ 3 (by decide) (by decide) w3).trans (st (1180591620717411303418 + 1) _ 4 (by decide) (by decide) w4))))
    rw [hdr_hv] at chain
    rw [chain]
    rw [F_rewrite_Apply_L1]
    rfl
/-! ### The other program -/
def ofB (v : Arr5 Int) : Arr5 api_Range := ⟨⟨v.x0, v.x0⟩, ⟨v.x1, v.x1⟩, ⟨v.x2, v.x2⟩, ⟨v.x3, v.x3⟩, ⟨v.x4, v.x4⟩⟩
theorem rOf_eq {h : api_Header} (hh : ok_api_Header h) : F_nsgref3_Of h = some (ofB (hv h)) := by
  unfold F_nsgref3_Of
  rw [Point_eq hh]
  simp only [Option.bind_some]
  rw [five_fold (L := F_nsgref3_Of_L1 (hv h)) (f := fun s k => Arr5.set s k ⟨(hv h).get k, (hv h).get k⟩) (fin := id) (fun n s k h0 h1 => by
    rw [F_nsgref3_Of_L1]
    simp only [show k < 5 from h1, decide_true, if_true, show 0 ≤ k ∧ k < 5 from ⟨h0, h1⟩, and_self, wnext h0 (by omega : k < 1000000)]) (fun n s => by rw [F_nsgref3_Of_L1]; rfl)]
  rfl
def shr (a f t : api_Range) : api_Range := ⟨IntKind.wrap .u32 (IntKind.wrap .u32 (a.Lo - f.Lo) + t.Lo), IntKind.wrap .u32 (IntKind.wrap .u32 (a.Hi - f.Lo) + t.Lo)⟩
def shB (a f t : Arr5 api_Range) : Arr5 api_Range := ⟨shr a.x0 f.x0 t.x0, shr a.x1 f.x1 t.x1, shr a.x2 f.x2 t.x2, shr a.x3 f.x3 t.x3, shr a.x4 f.x4 t.x4⟩
end Go.AM

/- Plain laws: validity, blocks and costs of a box, in both programs. No condition. -/
import Derived.Test.YteonocagaakagaaDoorL5
set_option maxRecDepth 100000
namespace Go.AM
open Go

theorem five {k : Int} (h0 : 0 ≤ k) (h1 : k < 5) : k = 0 ∨ k = 1 ∨ k = 2 ∨ k = 3 ∨ k = 4 := by omega
theorem wnext {k : Int} (h0 : 0 ≤ k) (h1 : k < 1000000) : IntKind.wrap .i64 (k + (1 : Int)) = k + 1 := wi64 (by omega) (by omega)
def sideBad (top : Int) (r : api_Range) : Bool := decide (r.Lo > r.Hi) || decide (r.Hi > top)
theorem tops_get {k : Int} (h0 : 0 ≤ k) (h1 : k < 5) : Arr5.get glob_box_tops k = topOf k := by
  rcases five h0 h1 with rfl | rfl | rfl | rfl | rfl <;> rfl
theorem vstep (b : Arr5 api_Range) (n : Nat) {k : Int} (h0 : 0 ≤ k) (h1 : k < 5) : F_box_Valid_L1 b (n + 1) k = if sideBad (topOf k) (b.get k) = true then some (.inr false) else F_box_Valid_L1 b n (k + 1) := by
  rw [F_box_Valid_L1, if_pos (decide_eq_true h1), if_pos ⟨h0, h1⟩, if_pos ⟨h0, h1⟩, tops_get h0 h1, wnext h0 (by omega)]
  unfold sideBad
  cases decide ((b.get k).Lo > (b.get k).Hi) <;> simp
theorem rvstep (b : Arr5 api_Range) (n : Nat) {k : Int} (h0 : 0 ≤ k) (h1 : k < 5) : F_nsgref3_Valid_L1 b (n + 1) k = if sideBad (topOf k) (b.get k) = true then some (.inr false) else F_nsgref3_Valid_L1 b n (k + 1) := by
  rw [F_nsgref3_Valid_L1, if_pos (decide_eq_true h1), if_pos ⟨h0, h1⟩, if_pos ⟨h0, h1⟩, if_pos ⟨h0, h1⟩, Top_eq k h0 h1, wnext h0 (by omega)]
  unfold sideBad
  cases decide ((b.get k).Lo > (b.get k).Hi) <;> simp
def vB (b : Arr5 api_Range) : Bool :=
  if sideBad 4294967295 b.x0 = true then false else if sideBad 4294967295 b.x1 = true then false else if sideBad 255 b.x2 = true then false else if sideBad 65535 b.x3 = true then false else if sideBad 65535 b.x4 = true then false else true
theorem Valid_eq (b : Arr5 api_Range) : F_box_Valid b = some (vB b) := by
  unfold F_box_Valid
  rw [fuel6]
  generalize (1180591620717411303418 : Nat) = m
  have s0 : F_box_Valid_L1 b (m + 6) 0 = if sideBad 4294967295 b.x0 = true then some (.inr false) else F_box_Valid_L1 b (m + 5) 1 := vstep b (m + 5) (by omega) (by omega)
  have s1 : F_box_Valid_L1 b (m + 5) 1 = if sideBad 4294967295 b.x1 = true then some (.inr false) else F_box_Valid_L1 b (m + 4) 2 := vstep b (m + 4) (by omega) (by omega)
  have s2 : F_box_Valid_L1 b (m + 4) 2 = if sideBad 255 b.x2 = true then some (.inr false) else F_box_Valid_L1 b (m + 3) 3 := vstep b (m + 3) (by omega) (by omega)
  have s3 : F_box_Valid_L1 b (m + 3) 3 = if sideBad 65535 b.x3 = true then some (.inr false) else F_box_Valid_L1 b (m + 2) 4 := vstep b (m + 2) (by omega) (by omega)
  have s4 : F_box_Valid_L1 b (m + 2) 4 = if sideBad 65535 b.x4 = true then some (.inr false) else F_box_Valid_L1 b (m + 1) 5 := vstep b (m + 1) (by omega) (by omega)
  have s5 : F_box_Valid_L1 b (m + 1) 5 = some (.inl ()) := by rw [F_box_Valid_L1]; rfl
  rw [s0, s1, s2, s3, s4, s5]
  unfold vB
  repeat' split
  all_goals first | rfl | (simp_all; done) | skip
theorem rValid_eq (b : Arr5 api_Range) : F_nsgref3_Valid b = some (vB b) := by
  unfold F_nsgref3_Valid
  rw [fuel6]
  generalize (1180591620717411303418 : Nat) = m
  have s0 : F_nsgref3_Valid_L1 b (m + 6) 0 = if sideBad 4294967295 b.x0 = true then some (.inr false) else F_nsgref3_Valid_L1 b (m + 5) 1 := rvstep b (m + 5) (by omega) (by omega)
  have s1 : F_nsgref3_Valid_L1 b (m + 5) 1 = if sideBad 4294967295 b.x1 = true then some (.inr false) else F_nsgref3_Valid_L1 b (m + 4) 2 := rvstep b (m + 4) (by omega) (by omega)
  have s2 : F_nsgref3_Valid_L1 b (m + 4) 2 = if sideBad 255 b.x2 = true then some (.inr false) else F_nsgref3_Valid_L1 b (m + 3) 3 := rvstep b (m + 3) (by omega) (by omega)
  have s3 : F_nsgref3_Valid_L1 b (m + 3) 3 = if sideBad 65535 b.x3 = true then some (.inr false) else F_nsgref3_Valid_L1 b (m + 2) 4 := rvstep b (m + 2) (by omega) (by omega)
  have s4 : F_nsgref3_Valid_L1 b (m + 2) 4 = if sideBad 65535 b.x4 = true then some (.inr false) else F_nsgref3_Valid_L1 b (m + 1) 5 := rvstep b (m + 1) (by omega) (by omega)
  have s5 : F_nsgref3_Valid_L1 b (m + 1) 5 = some (.inl ()) := by rw [F_nsgref3_Valid_L1]; rfl
  rw [s0, s1, s2, s3, s4, s5]
  unfold vB
  repeat' split
  all_goals first | rfl | (simp_all; done) | skip
theorem vB_ok {b : Arr5 api_Range} (hb : BIn b) (h : vB b = true) : BOk b := by
  unfold vB sideBad at h
  simp only [Bool.or_eq_true, decide_eq_true_eq] at h
  split at h; · cases h
  split at h; · cases h
  split at h; · cases h
  split at h; · cases h
  split at h; · cases h
  exact ⟨⟨hb.h0.h0, by omega, by omega⟩, ⟨hb.h1.h0, by omega, by omega⟩, ⟨hb.h2.h0, by omega, by omega⟩, ⟨hb.h3.h0, by omega, by omega⟩, ⟨hb.h4.h0, by omega, by omega⟩⟩
theorem ok_vB {b : Arr5 api_Range} (h : BOk b) : vB b = true := by
  obtain ⟨⟨_, a1, a2⟩, ⟨_, b1, b2⟩, ⟨_, c1, c2⟩, ⟨_, d1, d2⟩, ⟨_, e1, e2⟩⟩ := h
  unfold vB sideBad
  simp only [Bool.or_eq_true, decide_eq_true_eq]
  rw [if_neg (by omega), if_neg (by omega), if_neg (by omega), if_neg (by omega), if_neg (by omega)]

/-! ### Blocks of a box -/
def bls (b : Arr5 api_Range) : Arr5 (List api_Range) := ⟨bl b.x0, bl b.x1, bl b.x2, bl b.x3, bl b.x4⟩
theorem p31 : (4294967295 : Int) < ((2 ^ 32 : Nat) : Int) := by decide
theorem p8 : (255 : Int) < ((2 ^ 8 : Nat) : Int) := by decide
theorem p16 : (65535 : Int) < ((2 ^ 16 : Nat) : Int) := by decide
theorem blocks_eq {b : Arr5 api_Range} (h : BOk b) : F_expand_blocks b = some (bls b) := by
  unfold F_expand_blocks
  rw [fuel6]
  generalize (1180591620717411303418 : Nat) = m
  have step : ∀ (n : Nat) (r : Arr5 (List api_Range)) (k : Int) (l : List api_Range), 0 ≤ k → k < 5 → F_prefix_Blocks (Arr5.get b k) (Arr5.get glob_expand_widths k) = some l → F_expand_blocks_L1 b (n + 1) r k = F_expand_blocks_L1 b n (Arr5.set r k l) (k + 1) := by
    intro n r k l h0 h1 hl
    rw [F_expand_blocks_L1, if_pos (decide_eq_true h1), if_pos ⟨h0, h1⟩, if_pos ⟨h0, h1⟩, hl]
    simp only [Option.bind_some]
    rw [if_pos ⟨h0, h1⟩, wnext h0 (by omega)]
  rw [step (m + 5) _ 0 (bl b.x0) (by omega) (by omega) (pBlocks (w := 32) h.h0 (by omega) p31)]
  rw [show (0 : Int) + 1 = 1 from rfl, step (m + 4) _ 1 (bl b.x1) (by omega) (by omega) (pBlocks (w := 32) h.h1 (by omega) p31)]
  rw [show (1 : Int) + 1 = 2 from rfl, step (m + 3) _ 2 (bl b.x2) (by omega) (by omega) (pBlocks (w := 8) h.h2 (by omega) p8)]
  rw [show (2 : Int) + 1 = 3 from rfl, step (m + 2) _ 3 (bl b.x3) (by omega) (by omega) (pBlocks (w := 16) h.h3 (by omega) p16)]
  rw [show (3 : Int) + 1 = 4 from rfl, step (m + 1) _ 4 (bl b.x4) (by omega) (by omega) (pBlocks (w := 16) h.h4 (by omega) p16)]
  rw [F_expand_blocks_L1]
  rfl
theorem rblocks_eq {b : Arr5 api_Range} (h : BOk b) {k : Int} (h0 : 0 ≤ k) (h1 : k < 5) : F_nsgref7_blocks b k = some ((bls b).get k) := by
  unfold F_nsgref7_blocks
  rw [if_pos ⟨h0, h1⟩, if_pos ⟨h0, h1⟩]
  rcases five h0 h1 with rfl | rfl | rfl | rfl | rfl
  · show (F_nsgref1_Blocks b.x0 ((32 : Nat) : Int)).bind _ = _
    rw [rBlocks h.h0 (by omega) p31]; rfl
  · show (F_nsgref1_Blocks b.x1 ((32 : Nat) : Int)).bind _ = _
    rw [rBlocks h.h1 (by omega) p31]; rfl
  · show (F_nsgref1_Blocks b.x2 ((8 : Nat) : Int)).bind _ = _
    rw [rBlocks h.h2 (by omega) p8]; rfl
  · show (F_nsgref1_Blocks b.x3 ((16 : Nat) : Int)).bind _ = _
    rw [rBlocks h.h3 (by omega) p16]; rfl
  · show (F_nsgref1_Blocks b.x4 ((16 : Nat) : Int)).bind _ = _
    rw [rBlocks h.h4 (by omega) p16]; rfl

/-! ### Costs -/
def cnt (b : Arr5 api_Range) : Nat := (bl b.x0).length * (bl b.x1).length * (bl b.x2).length * (bl b.x3).length * (bl b.x4).length
def cost (b : Arr5 api_Range) (p : Bool) : Int := if vB b = true then (if p = true then 1 else (cnt b : Int)) else 0
theorem mul5 {a b c d e : Nat} (ha : a ≤ 67) (hb : b ≤ 67) (hc : c ≤ 19) (hd : d ≤ 35) (he : e ≤ 35) : a * b ≤ 4489 ∧ a * b * c ≤ 85291 ∧ a * b * c * d ≤ 2985185 ∧ a * b * c * d * e ≤ 104481475 := by
  have h1 : a * b ≤ 67 * 67 := Nat.mul_le_mul ha hb
  have h2 : a * b * c ≤ 67 * 67 * 19 := Nat.mul_le_mul h1 hc
  have h3 : a * b * c * d ≤ 67 * 67 * 19 * 35 := Nat.mul_le_mul h2 hd
  have h4 : a * b * c * d * e ≤ 67 * 67 * 19 * 35 * 35 := Nat.mul_le_mul h3 he
  omega
theorem cnt_bound {b : Arr5 api_Range} (h : BOk b) : (bl b.x0).length ≤ 67 ∧ (bl b.x0).length * (bl b.x1).length ≤ 4489 ∧ (bl b.x0).length * (bl b.x1).length * (bl b.x2).length ≤ 85291 ∧ (bl b.x0).length * (bl b.x1).length * (bl b.x2).length * (bl b.x3).length ≤ 2985185 ∧ cnt b ≤ 104481475 :=
  ⟨bl_len h.h0 (by omega) p31, mul5 (bl_len h.h0 (by omega) p31) (bl_len h.h1 (by omega) p31) (bl_len h.h2 (by omega) p8) (bl_len h.h3 (by omega) p16) (bl_len h.h4 (by omega) p16)⟩
theorem wmul {a b : Nat} (h : a * b ≤ 1000000000) : IntKind.wrap .i64 ((a : Int) * (b : Int)) = ((a * b : Nat) : Int) := by
  rw [← Int.natCast_mul]; exact wi64 (by omega) (by omega)
theorem Cost_eq {b : Arr5 api_Range} (hb : BIn b) (p : Bool) : F_expand_Cost b p = some (cost b p) := by
  unfold F_expand_Cost cost
  rw [Valid_eq]
  simp only [Option.bind_some]
  cases hv : vB b with
  | false => simp
  | true =>
    have hok := vB_ok hb hv
    obtain ⟨c0, c1, c2, c3, c4⟩ := cnt_bound hok
    cases p with
    | true => simp
    | false =>
      simp only [Bool.not_true, Bool.false_eq_true, if_false, if_true]
      rw [blocks_eq hok, fuel6]
      generalize (1180591620717411303418 : Nat) = m
      have step : ∀ (n : Nat) (v : Int) (k : Int), 0 ≤ k → k < 5 → F_expand_Cost_L1 (bls b) (n + 1) v k = F_expand_Cost_L1 (bls b) n (IntKind.wrap .i64 (v * (List.length ((bls b).get k) : Int))) (k + 1) := by
        intro n v k h0 h1
        rw [F_expand_Cost_L1, if_pos (decide_eq_true h1), if_pos ⟨h0, h1⟩, wnext h0 (by omega)]
      simp only [Option.bind_some]
      have e0 : IntKind.wrap .i64 ((1 : Int) * (List.length ((bls b).get 0) : Int)) = (((bl b.x0).length : Nat) : Int) := by
        show IntKind.wrap .i64 ((1 : Int) * ((bl b.x0).length : Int)) = _
        rw [Int.one_mul]; exact wi64 (by omega) (by omega)
      rw [step (m + 5) 1 0 (by omega) (by omega), e0, show (0 : Int) + 1 = 1 from rfl, step (m + 4) _ 1 (by omega) (by omega)]
      rw [show (bls b).get 1 = bl b.x1 from rfl, wmul (by omega), show (1 : Int) + 1 = 2 from rfl, step (m + 3) _ 2 (by omega) (by omega)]
      rw [show (bls b).get 2 = bl b.x2 from rfl, wmul (by omega), show (2 : Int) + 1 = 3 from rfl, step (m + 2) _ 3 (by omega) (by omega)]
      rw [show (bls b).get 3 = bl b.x3 from rfl, wmul (by omega), show (3 : Int) + 1 = 4 from rfl, step (m + 1) _ 4 (by omega) (by omega)]
      rw [show (bls b).get 4 = bl b.x4 from rfl, wmul (show (bl b.x0).length * (bl b.x1).length * (bl b.x2).length * (bl b.x3).length * (bl b.x4).length ≤ 1000000000 by have : cnt b ≤ 104481475 := c4; unfold cnt at this; omega)]
      rw [F_expand_Cost_L1]
      rfl
theorem rCost_eq {b : Arr5 api_Range} (hb : BIn b) (p : Bool) : F_nsgref7_Cost b p = some (cost b p) := by
  unfold F_nsgref7_Cost cost
  rw [rValid_eq]
  simp only [Option.bind_some]
  cases hv : vB b with
  | false => simp
  | true =>
    have hok := vB_ok hb hv
    obtain ⟨c0, c1, c2, c3, c4⟩ := cnt_bound hok
    simp only [Bool.not_true, Bool.false_eq_true, if_false, if_true]
    rw [fuel6]
    generalize (1180591620717411303418 : Nat) = m
    cases p with
    | true =>
      rw [F_nsgref7_Cost_L1]
      simp
    | false =>
      have step : ∀ (n : Nat) (v : Int) (k : Int), 0 ≤ k → k < 5 → F_nsgref7_Cost_L1 b false (n + 1) v k = F_nsgref7_Cost_L1 b false n (IntKind.wrap .i64 (v * (List.length ((bls b).get k) : Int))) (k + 1) := by
        intro n v k h0 h1
        rw [F_nsgref7_Cost_L1, decide_eq_true h1]
        simp only [Option.bind_some, Bool.not_false, Bool.and_self, if_true]
        rw [rblocks_eq hok h0 h1, wnext h0 (by omega)]; rfl
      have e0 : IntKind.wrap .i64 ((1 : Int) * (List.length ((bls b).get 0) : Int)) = (((bl b.x0).length : Nat) : Int) := by
        show IntKind.wrap .i64 ((1 : Int) * ((bl b.x0).length : Int)) = _
        rw [Int.one_mul]; exact wi64 (by omega) (by omega)
      rw [step (m + 5) 1 0 (by omega) (by omega), e0, show (0 : Int) + 1 = 1 from rfl, step (m + 4) _ 1 (by omega) (by omega)]
      rw [show (bls b).get 1 = bl b.x1 from rfl, wmul (by omega), show (1 : Int) + 1 = 2 from rfl, step (m + 3) _ 2 (by omega) (by omega)]
      rw [show (bls b).get 2 = bl b.x2 from rfl, wmul (by omega), show (2 : Int) + 1 = 3 from rfl, step (m + 2) _ 3 (by omega) (by omega)]
      rw [show (bls b).get 3 = bl b.x3 from rfl, wmul (by omega), show (3 : Int) + 1 = 4 from rfl, step (m + 1) _ 4 (by omega) (by omega)]
      rw [show (bls b).get 4 = bl b.x4 from rfl, wmul (show (bl b.x0).length * (bl b.x1).length * (bl b.x2).length * (bl b.x3).length * (bl b.x4).length ≤ 1000000000 by have : cnt b ≤ 104481475 := c4; unfold cnt at this; omega)]
      rw [F_nsgref7_Cost_L1]
      rfl
end Go.AM

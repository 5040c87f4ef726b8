/- Plain laws: ExpandProducts and ExpandSums. No condition. -/
import Derived.Test.YteonocagaakagaaDoorL6
set_option maxRecDepth 100000
namespace Go.AM
open Go

/-! ### The whole of a side is one block -/
theorem bl_whole {w : Nat} (hw : w ≤ 32) (hi : Int) (h : hi = ((2 ^ w : Nat) : Int) - 1) : (bl ⟨0, hi⟩).length = 1 := by
  have h1 : 1 ≤ 2 ^ w := Nat.one_le_two_pow
  have h32 : 2 ^ w ≤ 4294967296 := by
    have := Nat.pow_le_pow_right (n := 2) (by omega) hw
    have e : (2 : Nat) ^ 32 = 4294967296 := by decide
    omega
  have e1 : hi.toNat + 1 = 2 ^ w := by omega
  show (gb (0 : Int).toNat (hi.toNat + 1)).length = 1
  rw [e1, show (0 : Int).toNat = 0 from rfl]
  have hg : IsG 0 (2 ^ w) w := ⟨⟨Nat.zero_mod _, by omega⟩, fun hf => by have := hf.2; rw [Nat.pow_succ] at this; omega⟩
  have := hg.uniq (gx_spec (by omega) h32)
  rw [gb_cons (by omega), ← this, gb_nil (by omega)]; rfl
theorem bl_pos {r : api_Range} {top : Int} (hr : ROk top r) : 1 ≤ (bl r).length := by
  have g0 := hr.h0
  have g1 := hr.h1
  unfold bl
  rw [gb_cons (by omega), List.length_cons]; omega

/-- What one side costs. -/
def sc (top : Int) (r : api_Range) : Nat := if sideBad top r = true then 0 else (bl r).length
def scp (b : Arr5 api_Range) : Nat := sc 4294967295 b.x0 * sc 4294967295 b.x1 * sc 255 b.x2 * sc 65535 b.x3 * sc 65535 b.x4
theorem cost_scp (b : Arr5 api_Range) : cost b false = (scp b : Int) := by
  unfold cost vB scp sc cnt
  cases h0 : sideBad 4294967295 b.x0 <;> cases h1 : sideBad 4294967295 b.x1 <;> cases h2 : sideBad 255 b.x2 <;> cases h3 : sideBad 65535 b.x3 <;> cases h4 : sideBad 65535 b.x4 <;> simp
theorem cost_min (b : Arr5 api_Range) (hb : BIn b) : cost b true = if scp b = 0 then 0 else 1 := by
  cases hv : vB b with
  | false =>
    have : cost b false = 0 := by unfold cost; simp [hv]
    rw [cost_scp] at this
    rw [if_pos (by omega)]
    unfold cost; simp [hv]
  | true =>
    have hok := vB_ok hb hv
    have h := cost_scp b
    have e : cost b false = (cnt b : Int) := by unfold cost; simp [hv]
    have hpos : 1 ≤ cnt b := by
      unfold cnt
      have := bl_pos hok.h0
      have := bl_pos hok.h1
      have := bl_pos hok.h2
      have := bl_pos hok.h3
      have := bl_pos hok.h4
      exact Nat.mul_pos (Nat.mul_pos (Nat.mul_pos (Nat.mul_pos (by omega) (by omega)) (by omega)) (by omega)) (by omega)
    rw [if_neg (by omega)]
    unfold cost; simp [hv]
theorem full_len : (bl full.x0).length = 1 ∧ (bl full.x1).length = 1 ∧ (bl full.x2).length = 1 ∧ (bl full.x3).length = 1 ∧ (bl full.x4).length = 1 :=
  ⟨bl_whole (w := 32) (by omega) _ rfl, bl_whole (w := 32) (by omega) _ rfl, bl_whole (w := 8) (by omega) _ rfl, bl_whole (w := 16) (by omega) _ rfl, bl_whole (w := 16) (by omega) _ rfl⟩
theorem sc_full : sc 4294967295 full.x0 = 1 ∧ sc 4294967295 full.x1 = 1 ∧ sc 255 full.x2 = 1 ∧ sc 65535 full.x3 = 1 ∧ sc 65535 full.x4 = 1 := by
  obtain ⟨a, b, c, d, e⟩ := full_len
  refine ⟨?_, ?_, ?_, ?_, ?_⟩ <;> unfold sc <;> rw [if_neg (by decide)] <;> assumption
def sci (b : Arr5 api_Range) (k : Int) : Nat := sc (topOf k) (b.get k)
theorem scp_set (b : Arr5 api_Range) {k : Int} (h0 : 0 ≤ k) (h1 : k < 5) : scp (Arr5.set full k (b.get k)) = sci b k := by
  obtain ⟨a, b', c, d, e⟩ := sc_full
  unfold scp
  rcases five h0 h1 with rfl | rfl | rfl | rfl | rfl
  · show sc 4294967295 b.x0 * sc 4294967295 full.x1 * sc 255 full.x2 * sc 65535 full.x3 * sc 65535 full.x4 = sc 4294967295 b.x0
    rw [b', c, d, e]; simp
  · show sc 4294967295 full.x0 * sc 4294967295 b.x1 * sc 255 full.x2 * sc 65535 full.x3 * sc 65535 full.x4 = sc 4294967295 b.x1
    rw [a, c, d, e]; simp
  · show sc 4294967295 full.x0 * sc 4294967295 full.x1 * sc 255 b.x2 * sc 65535 full.x3 * sc 65535 full.x4 = sc 255 b.x2
    rw [a, b', d, e]; simp
  · show sc 4294967295 full.x0 * sc 4294967295 full.x1 * sc 255 full.x2 * sc 65535 b.x3 * sc 65535 full.x4 = sc 65535 b.x3
    rw [a, b', c, e]; simp
  · show sc 4294967295 full.x0 * sc 4294967295 full.x1 * sc 255 full.x2 * sc 65535 full.x3 * sc 65535 b.x4 = sc 65535 b.x4
    rw [a, b', c, d]; simp
theorem sideBad_ok {top : Int} {r : api_Range} (hr : RIn r) (h : sideBad top r = false) : ROk top r := by
  unfold sideBad at h
  rw [Bool.or_eq_false_iff, decide_eq_false_iff_not, decide_eq_false_iff_not] at h
  exact ⟨hr.h0, by omega, by omega⟩
theorem sc_le {top : Int} {w : Nat} {r : api_Range} (hr : RIn r) (hw : w ≤ 32) (ht : top < (2 ^ w : Nat)) : sc top r ≤ 2 * w + 3 := by
  unfold sc
  cases h : sideBad top r with
  | true => simp
  | false => simp; exact bl_len (sideBad_ok hr h) hw ht
theorem full_set_in {b : Arr5 api_Range} (hb : BIn b) {k : Int} (h0 : 0 ≤ k) (h1 : k < 5) : BIn (Arr5.set full k (b.get k)) := by
  have f := full_ok.bin
  rcases five h0 h1 with rfl | rfl | rfl | rfl | rfl
  · exact ⟨hb.h0, f.h1, f.h2, f.h3, f.h4⟩
  · exact ⟨f.h0, hb.h1, f.h2, f.h3, f.h4⟩
  · exact ⟨f.h0, f.h1, hb.h2, f.h3, f.h4⟩
  · exact ⟨f.h0, f.h1, f.h2, hb.h3, f.h4⟩
  · exact ⟨f.h0, f.h1, f.h2, f.h3, hb.h4⟩
theorem Products_L1 {b : Arr5 api_Range} (hb : BIn b) : F_nsglaw7_ExpandProducts_L1 b fuel 1 0 = some (scp b : Int) := by
  rw [fuel6]
  generalize (1180591620717411303418 : Nat) = m
  have step : ∀ (n : Nat) (v : Int) (k : Int), 0 ≤ k → k < 5 → F_nsglaw7_ExpandProducts_L1 b (n + 1) v k = F_nsglaw7_ExpandProducts_L1 b n (IntKind.wrap .i64 (v * (sci b k : Int))) (k + 1) := by
    intro n v k h0 h1
    rw [F_nsglaw7_ExpandProducts_L1, if_pos (decide_eq_true h1), Full_eq]
    simp only [Option.bind_some]
    rw [if_pos ⟨h0, h1⟩, if_pos ⟨h0, h1⟩, Cost_eq (full_set_in hb h0 h1), cost_scp, scp_set b h0 h1, wnext h0 (by omega)]; rfl
  have c0 : sc 4294967295 b.x0 ≤ 67 := sc_le hb.h0 (w := 32) (by omega) p31
  have c1 : sc 4294967295 b.x1 ≤ 67 := sc_le hb.h1 (w := 32) (by omega) p31
  have c2 : sc 255 b.x2 ≤ 19 := sc_le hb.h2 (w := 8) (by omega) p8
  have c3 : sc 65535 b.x3 ≤ 35 := sc_le hb.h3 (w := 16) (by omega) p16
  have c4 : sc 65535 b.x4 ≤ 35 := sc_le hb.h4 (w := 16) (by omega) p16
  obtain ⟨m1, m2, m3, m4⟩ := mul5 c0 c1 c2 c3 c4
  have e0 : IntKind.wrap .i64 ((1 : Int) * (sci b 0 : Int)) = ((sc 4294967295 b.x0 : Nat) : Int) := by
    show IntKind.wrap .i64 ((1 : Int) * ((sc 4294967295 b.x0 : Nat) : Int)) = _
    rw [Int.one_mul]; exact wi64 (by omega) (by omega)
  rw [step (m + 5) 1 0 (by omega) (by omega), e0, show (0 : Int) + 1 = 1 from rfl, step (m + 4) _ 1 (by omega) (by omega)]
  rw [show sci b 1 = sc 4294967295 b.x1 from rfl, wmul (by omega), show (1 : Int) + 1 = 2 from rfl, step (m + 3) _ 2 (by omega) (by omega)]
  rw [show sci b 2 = sc 255 b.x2 from rfl, wmul (by omega), show (2 : Int) + 1 = 3 from rfl, step (m + 2) _ 3 (by omega) (by omega)]
  rw [show sci b 3 = sc 65535 b.x3 from rfl, wmul (by omega), show (3 : Int) + 1 = 4 from rfl, step (m + 1) _ 4 (by omega) (by omega)]
  rw [show sci b 4 = sc 65535 b.x4 from rfl, wmul (by omega)]
  rw [F_nsglaw7_ExpandProducts_L1]
  rfl
theorem Products_rest {b : Arr5 api_Range} (hb : BIn b) : Ok ((F_nsglaw7_ExpandProducts_L1 b fuel (1:Int) (0:Int)).bind fun (v27 : Int) =>
      (if (v27 == (0:Int)) = true then some (0:Int) else some (1:Int)).bind fun (v39 : Int) =>
        (F_expand_Cost b false).bind fun (r42 : Int) =>
        (some (r42 == v27)).bind fun (b44 : Bool) =>
        (if b44 = true then (F_expand_Cost b true).bind fun (r46 : Int) => some (r46 == v39) else some false).bind fun (v48 : Bool) =>
        (some v48).bind fun (b50 : Bool) =>
        (if b50 = true then (F_nsglaw7_sane).bind fun (r52 : Bool) => some r52 else some false).bind fun (v54 : Bool) => some v54) (· = true) := by
  rw [Products_L1 hb, Cost_eq hb, Cost_eq hb, sane7_eq, cost_scp, cost_min b hb]
  by_cases h : scp b = 0
  · rw [if_pos h]; simp only [Option.bind_some, h]; exact Ok.ret rfl
  · rw [if_neg h]
    have : ((scp b : Int) == 0) = false := by simp; omega
    simp only [Option.bind_some, this]
    simp only [beq_self_eq_true, if_true, Bool.false_eq_true, if_false, Option.bind_some]
    exact Ok.ret rfl
theorem ExpandProducts_law {l : List Int} {b : Arr5 api_Range} (hl : (l.length : Int) < 9223372036854775808) (hb : BIn b) : F_nsglaw7_ExpandProducts l b = some true := by
  refine Ok.eq (r := true) ?_
  unfold F_nsglaw7_ExpandProducts
  refine Ok.bind (New_ok hl) fun t ht => ?_
  refine Ok.bind (p := fun r => BIn r.1) ?_ fun r hr => ?_
  · refine Ok.bind (Next_lt ht 3 (by omega) (by omega)) fun r ⟨_, h4⟩ => Ok.ite (fun _ => ?_) fun _ => Ok.ret hb
    exact Ok.bind (Box_ok h4) fun q ⟨g1, _⟩ => Ok.ret g1.bin
  · obtain ⟨v8, v9⟩ := r
    exact Products_rest hr
end Go.AM

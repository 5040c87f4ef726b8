/- Plain laws: both programs cut a range into the same blocks. No condition. -/
import Derived.Test.YteonocagaakagaaDoorL4
set_option maxRecDepth 100000
namespace Go.AM
open Go

theorem tmod_nat (a b : Nat) : Int.tmod (a : Int) (b : Int) = ((a % b : Nat) : Int) := rfl
theorem tdiv_nat (a b : Nat) : Int.tdiv (a : Int) (b : Int) = ((a / b : Nat) : Int) := rfl
theorem pow_lt34 {j : Nat} (h : j ≤ 33) : 2 ^ j ≤ 8589934592 := by
  have := Nat.pow_le_pow_right (n := 2) (by omega) h
  have e : (2 : Nat) ^ 33 = 8589934592 := by decide
  omega
theorem end_eq {r : api_Range} {hi : Nat} (hr : r.Hi = (hi : Int)) (h : hi < 4294967296) : IntKind.wrap .u64 ((IntKind.wrap .u64 r.Hi) + (1 : Int)) = ((hi + 1 : Nat) : Int) := by
  rw [hr, wu64 (x := (hi : Int)) (by omega) (by omega), wu64 (by omega) (by omega)]; omega

theorem pL2 {r : api_Range} {hi a : Nat} (hr : r.Hi = (hi : Int)) (h : hi < 4294967296) (ha : a < hi + 1) : ∀ (j n : Nat), j ≤ 33 → ¬ Fits a (hi + 1) (j + 1) → F_prefix_Blocks_L2 r (a : Int) (n + j + 1) ((2 ^ j : Nat) : Int) = some ((2 ^ gx a (hi + 1) : Nat) : Int)
  | j, n, hj, hn => by
    have h2 := pow_lt34 hj
    have h3 : 1 ≤ 2 ^ j := Nat.one_le_two_pow
    rw [F_prefix_Blocks_L2, if_pos (by omega), end_eq hr h, tmod_nat, wu64 (x := ((hi + 1 : Nat) : Int) - (a : Int)) (by omega) (by omega)]
    simp only [Option.bind_some]
    by_cases hf : Fits a (hi + 1) j
    · have hg : IsG a (hi + 1) j := ⟨hf, hn⟩
      have hjg := hg.uniq (gx_spec ha (by omega))
      rw [if_neg, hjg]
      simp only [Bool.or_eq_true, bne_iff_ne, ne_eq, decide_eq_true_eq, not_or]
      have h5 := hf.1
      have h6 := hf.2
      exact ⟨by omega, by omega⟩
    · have hj0 : j ≠ 0 := fun e => hf (by subst e; exact ⟨Nat.mod_one a, by simp; omega⟩)
      obtain ⟨i, rfl⟩ : ∃ i, j = i + 1 := ⟨j - 1, by omega⟩
      rw [if_pos]
      · have e2 : Int.tdiv ((2 ^ (i + 1) : Nat) : Int) 2 = ((2 ^ i : Nat) : Int) := by
          rw [show (2 : Int) = ((2 : Nat) : Int) from rfl, tdiv_nat, Nat.pow_succ, Nat.mul_div_cancel _ (by omega)]
        have h7 : 2 ^ i ≤ 2 ^ (i + 1) := Nat.pow_le_pow_right (by omega) (by omega)
        rw [e2, wu64 (by omega) (by omega)]
        rw [show n + (i + 1) = n + i + 1 by omega]
        exact pL2 hr h ha i n (by omega) hf
      · simp only [Bool.or_eq_true, bne_iff_ne, ne_eq, decide_eq_true_eq]
        by_cases h5 : a % 2 ^ (i + 1) = 0
        · right
          refine Classical.byContradiction fun hc => hf ⟨h5, by omega⟩
        · left; omega
  termination_by j => j
theorem rL2 {r : api_Range} {hi a : Nat} (hr : r.Hi = (hi : Int)) (h : hi < 4294967296) (ha : a < hi + 1) : ∀ (m j n : Nat), j + m = 33 → Fits a (hi + 1) j → F_nsgref1_Blocks_L2 r (a : Int) (n + m + 1) ((2 ^ j : Nat) : Int) = some ((2 ^ gx a (hi + 1) : Nat) : Int)
  | m, j, n, hm, hf => by
    have h2 := pow_lt34 (show j ≤ 33 by omega)
    have h3 : 1 ≤ 2 ^ j := Nat.one_le_two_pow
    have e2 : (2 : Int) * ((2 ^ j : Nat) : Int) = ((2 ^ (j + 1) : Nat) : Int) := by rw [Nat.pow_succ]; omega
    have e3 : ((2 ^ j : Nat) : Int) * (2 : Int) = ((2 ^ (j + 1) : Nat) : Int) := by rw [Nat.pow_succ]; omega
    have h4 : 2 ^ (j + 1) = 2 ^ j * 2 := Nat.pow_succ ..
    rw [F_nsgref1_Blocks_L2, e2, e3, wu64 (x := ((2 ^ (j + 1) : Nat) : Int)) (by omega) (by omega), if_pos (by omega), end_eq hr h, tmod_nat, wu64 (x := (a : Int) + ((2 ^ (j + 1) : Nat) : Int)) (by omega) (by omega)]
    simp only [Option.bind_some]
    by_cases hg : Fits a (hi + 1) (j + 1)
    · have hj : j + 1 ≤ 33 := by
        refine Classical.byContradiction fun hc => ?_
        have h5 := hg.2
        have h6 := Nat.pow_le_pow_right (n := 2) (by omega) (show 33 ≤ j + 1 by omega)
        have e : (2 : Nat) ^ 33 = 8589934592 := by decide
        omega
      obtain ⟨m', rfl⟩ : ∃ m', m = m' + 1 := ⟨m - 1, by omega⟩
      rw [if_pos]
      · rw [show n + (m' + 1) = n + m' + 1 by omega]
        exact rL2 hr h ha m' (j + 1) n (by omega) hg
      · simp only [Bool.and_eq_true, beq_iff_eq, decide_eq_true_eq]
        have h5 := hg.1
        have h6 := hg.2
        exact ⟨by omega, by omega⟩
    · have hjg := (IsG.mk hf hg).uniq (gx_spec ha (by omega))
      rw [if_neg, hjg]
      simp only [Bool.and_eq_true, beq_iff_eq, decide_eq_true_eq]
      rintro ⟨h5, h6⟩
      exact hg ⟨by omega, by omega⟩
  termination_by m => m

theorem fuel_split (m : Nat) (h : m ≤ 1000) : ∃ n, fuel = n + m + 1 := ⟨fuel - m - 1, by unfold fuel; omega⟩

/-- What one round of either loop adds. -/
theorem round_eq {a s : Nat} (h : a + s ≤ 4294967296) (hs : 1 ≤ s) : (⟨IntKind.wrap .u32 (a : Int), IntKind.wrap .u32 (IntKind.wrap .u64 (IntKind.wrap .u64 ((a : Int) + (s : Int)) - (1 : Int)))⟩ : api_Range) = ⟨(a : Int), ((a + s - 1 : Nat) : Int)⟩ := by
  rw [wu32 (x := (a : Int)) (by omega) (by omega), wu64 (x := (a : Int) + (s : Int)) (by omega) (by omega), wu64 (x := (a : Int) + (s : Int) - 1) (by omega) (by omega), wu32 (by omega) (by omega)]
  congr 1
  omega

theorem pL1 {r : api_Range} {hi w : Nat} (hr : r.Hi = (hi : Int)) (h : hi < 4294967296) (hw : w ≤ 32) (hhw : hi < 2 ^ w) : ∀ (k a n : Nat) (l : List api_Range), (gb a (hi + 1)).length = k → a ≤ hi + 1 → l.length + k ≤ 1000 →
    F_prefix_Blocks_L1 r (w : Int) (n + k + 1) l (a : Int) = some (l ++ gb a (hi + 1))
  | k, a, n, l, hk, ha, hl => by
    have hwu : IntKind.wrap .u64 (w : Int) = (w : Int) := wu64 (by omega) (by omega)
    rw [F_prefix_Blocks_L1, end_eq hr h, hwu]
    by_cases hlt : a < hi + 1
    · rw [if_pos (decide_eq_true (by omega)), if_pos (by omega), bShl_one (by omega)]
      obtain ⟨f, hf⟩ := fuel_split w (by omega)
      have htop : ¬ Fits a (hi + 1) (w + 1) := fun hf => by
        have h5 := hf.2
        rw [Nat.pow_succ] at h5
        omega
      rw [hf, pL2 hr h hlt w f (by omega) htop]
      have hg := gx_spec hlt (by omega)
      have h6 := hg.fits.2
      have h7 : 1 ≤ 2 ^ gx a (hi + 1) := Nat.one_le_two_pow
      rw [gb_cons hlt, List.length_cons] at hk
      obtain ⟨k', rfl⟩ : ∃ k', k = k' + 1 := ⟨k - 1, by omega⟩
      simp only [Option.bind_some]
      rw [if_pos (by simp only [List.length_singleton]; unfold lim; omega), round_eq (by omega) h7, gb_cons hlt, wu64 (by omega) (by omega)]
      have := pL1 hr h hw hhw k' (a + 2 ^ gx a (hi + 1)) n (l ++ [⟨(a : Int), ((a + 2 ^ gx a (hi + 1) - 1 : Nat) : Int)⟩]) (by omega) (by omega) (by simp; omega)
      rw [show n + (k' + 1) = n + k' + 1 by omega, show ((a : Int) + ((2 ^ gx a (hi + 1) : Nat) : Int)) = ((a + 2 ^ gx a (hi + 1) : Nat) : Int) by omega, this, List.append_assoc]; rfl
    · rw [if_neg (by simp; omega), gb_nil hlt, List.append_nil]
  termination_by k => k
theorem rL1 {r : api_Range} {hi : Nat} (hr : r.Hi = (hi : Int)) (h : hi < 4294967296) : ∀ (k a n : Nat) (l : List api_Range), (gb a (hi + 1)).length = k → a ≤ hi + 1 → l.length + k ≤ 1000 →
    F_nsgref1_Blocks_L1 r (n + k + 1) l (a : Int) = some (l ++ gb a (hi + 1))
  | k, a, n, l, hk, ha, hl => by
    rw [F_nsgref1_Blocks_L1, end_eq hr h]
    by_cases hlt : a < hi + 1
    · rw [if_pos (decide_eq_true (by omega))]
      obtain ⟨f, hf⟩ := fuel_split 33 (by omega)
      have h1 : Fits a (hi + 1) 0 := ⟨Nat.mod_one a, by simp; omega⟩
      have h2 := rL2 hr h hlt 33 0 f (by omega) h1
      rw [hf, show (1 : Int) = ((2 ^ 0 : Nat) : Int) from rfl, h2]
      have hg := gx_spec hlt (by omega)
      have h6 := hg.fits.2
      have h7 : 1 ≤ 2 ^ gx a (hi + 1) := Nat.one_le_two_pow
      rw [gb_cons hlt, List.length_cons] at hk
      obtain ⟨k', rfl⟩ : ∃ k', k = k' + 1 := ⟨k - 1, by omega⟩
      simp only [Option.bind_some]
      rw [if_pos (by simp only [List.length_singleton]; unfold lim; omega), show ((2 ^ 0 : Nat) : Int) = (1 : Int) from rfl, round_eq (by omega) h7, gb_cons hlt, wu64 (by omega) (by omega)]
      have := rL1 hr h k' (a + 2 ^ gx a (hi + 1)) n (l ++ [⟨(a : Int), ((a + 2 ^ gx a (hi + 1) - 1 : Nat) : Int)⟩]) (by omega) (by omega) (by simp; omega)
      rw [show n + (k' + 1) = n + k' + 1 by omega, show ((a : Int) + ((2 ^ gx a (hi + 1) : Nat) : Int)) = ((a + 2 ^ gx a (hi + 1) : Nat) : Int) by omega, this, List.append_assoc]; rfl
    · rw [if_neg (by simp; omega), gb_nil hlt, List.append_nil]
  termination_by k => k

/-- The blocks of a range. -/
def bl (r : api_Range) : List api_Range := gb r.Lo.toNat (r.Hi.toNat + 1)
theorem pBlocks {r : api_Range} {w : Nat} {top : Int} (hr : ROk top r) (hw : w ≤ 32) (ht : top < (2 ^ w : Nat)) : F_prefix_Blocks r (w : Int) = some (bl r) := by
  have g0 := hr.h0
  have g1 := hr.h1
  have g2 := hr.h2
  have h32 : 2 ^ w ≤ 4294967296 := by
    have := Nat.pow_le_pow_right (n := 2) (by omega) hw
    have e : (2 : Nat) ^ 32 = 4294967296 := by decide
    omega
  have hlo : r.Lo = (r.Lo.toNat : Int) := by omega
  have hhi : r.Hi = (r.Hi.toNat : Int) := by omega
  unfold F_prefix_Blocks
  have hwu : IntKind.wrap .u64 (w : Int) = (w : Int) := wu64 (by omega) (by omega)
  have hhu : IntKind.wrap .u64 r.Hi = r.Hi := wu64 (by omega) (by omega)
  have hlu : IntKind.wrap .u64 r.Lo = r.Lo := wu64 (by omega) (by omega)
  have d1 : decide ((w : Int) < 0) = false := decide_eq_false (by omega)
  have d2 : decide ((w : Int) > 32) = false := decide_eq_false (by omega)
  have d3 : decide (r.Lo > r.Hi) = false := decide_eq_false (by omega)
  have d4 : decide (r.Hi ≥ ((2 ^ w : Nat) : Int)) = false := decide_eq_false (by omega)
  rw [hwu, hhu, hlu, bShl_one (by omega), d1, d2, d3, d4]
  have hlen := gb_len (a := r.Lo.toNat) (e := r.Hi.toNat + 1) (w := w) (by omega) (by omega)
  obtain ⟨n, hn⟩ := fuel_split (gb r.Lo.toNat (r.Hi.toNat + 1)).length (by omega)
  have hmain := pL1 hhi (by omega) hw (by omega) _ r.Lo.toNat n [] rfl (by omega) (by simp; omega)
  rw [← hlo, ← hn] at hmain
  simp only [Option.bind_some, Bool.or_false, Bool.false_eq_true, if_false]
  rw [if_pos (by omega)]
  simp only [Option.bind_some, Bool.false_eq_true, if_false]
  rw [hmain]; rfl
theorem rBlocks {r : api_Range} {w : Nat} {top : Int} (hr : ROk top r) (hw : w ≤ 32) (ht : top < (2 ^ w : Nat)) : F_nsgref1_Blocks r (w : Int) = some (bl r) := by
  have g0 := hr.h0
  have g1 := hr.h1
  have g2 := hr.h2
  have h32 : 2 ^ w ≤ 4294967296 := by
    have := Nat.pow_le_pow_right (n := 2) (by omega) hw
    have e : (2 : Nat) ^ 32 = 4294967296 := by decide
    omega
  have hlo : r.Lo = (r.Lo.toNat : Int) := by omega
  have hhi : r.Hi = (r.Hi.toNat : Int) := by omega
  unfold F_nsgref1_Blocks
  have hwu : IntKind.wrap .u64 (w : Int) = (w : Int) := wu64 (by omega) (by omega)
  have hhu : IntKind.wrap .u64 r.Hi = r.Hi := wu64 (by omega) (by omega)
  have hlu : IntKind.wrap .u64 r.Lo = r.Lo := wu64 (by omega) (by omega)
  have d1 : decide ((w : Int) < 0) = false := decide_eq_false (by omega)
  have d2 : decide ((w : Int) > 32) = false := decide_eq_false (by omega)
  have d3 : decide (r.Lo > r.Hi) = false := decide_eq_false (by omega)
  have d4 : decide (r.Hi ≥ ((2 ^ w : Nat) : Int)) = false := decide_eq_false (by omega)
  rw [hwu, hhu, hlu, bShl_one (by omega), d1, d2, d3, d4]
  have hlen := gb_len (a := r.Lo.toNat) (e := r.Hi.toNat + 1) (w := w) (by omega) (by omega)
  obtain ⟨n, hn⟩ := fuel_split (gb r.Lo.toNat (r.Hi.toNat + 1)).length (by omega)
  have hmain := rL1 hhi (by omega) _ r.Lo.toNat n [] rfl (by omega) (by simp; omega)
  rw [← hlo, ← hn] at hmain
  simp only [Option.bind_some, Bool.or_false, Bool.false_eq_true, if_false]
  rw [if_pos (by omega)]
  simp only [Option.bind_some, Bool.false_eq_true, if_false]
  rw [hmain]; rfl
theorem bl_len {r : api_Range} {w : Nat} {top : Int} (hr : ROk top r) (hw : w ≤ 32) (ht : top < (2 ^ w : Nat)) : (bl r).length ≤ 2 * w + 3 := by
  have g0 := hr.h0
  have g1 := hr.h1
  have g2 := hr.h2
  have h32 : 2 ^ w ≤ 4294967296 := by
    have := Nat.pow_le_pow_right (n := 2) (by omega) hw
    have e : (2 : Nat) ^ 32 = 4294967296 := by decide
    omega
  exact gb_len (by omega) (by omega)
end Go.AM

/- Plain laws: a range cut into aligned blocks. No condition. -/
import Derived.Test.YteonocagaakagaaDoorL3
set_option maxRecDepth 100000
namespace Go.AM
open Go

/-- The block of size 2^j fits at a, within e. -/
def Fits (a e j : Nat) : Prop := a % 2 ^ j = 0 ∧ a + 2 ^ j ≤ e
instance (a e j : Nat) : Decidable (Fits a e j) := inferInstanceAs (Decidable (_ ∧ _))
theorem Fits.mono {a e i j : Nat} (h : Fits a e j) (hij : i ≤ j) : Fits a e i := by
  obtain ⟨h1, h2⟩ := h
  have hd : 2 ^ i ∣ 2 ^ j := Nat.pow_dvd_pow 2 hij
  exact ⟨Nat.mod_eq_zero_of_dvd (Nat.dvd_trans hd (Nat.dvd_of_mod_eq_zero h1)), by have := Nat.pow_le_pow_right (n := 2) (by omega) hij; omega⟩
/-- The largest that fits. -/
structure IsG (a e j : Nat) : Prop where
  fits : Fits a e j
  top : ¬ Fits a e (j + 1)
theorem IsG.uniq {a e i j : Nat} (h : IsG a e i) (k : IsG a e j) : i = j := by
  rcases Nat.lt_trichotomy i j with hlt | rfl | hgt
  · exact absurd (k.fits.mono hlt) h.top
  · rfl
  · exact absurd (h.fits.mono hgt) k.top
def gexp (a e : Nat) : Nat → Nat
  | 0 => 0
  | j + 1 => if Fits a e (j + 1) then j + 1 else gexp a e j
def gx (a e : Nat) : Nat := gexp a e 33
theorem gexp_spec {a e : Nat} (h : a < e) : ∀ j, ¬ Fits a e (j + 1) → IsG a e (gexp a e j)
  | 0, hn => ⟨⟨by rw [gexp]; exact Nat.mod_one a, by rw [gexp]; simp; omega⟩, hn⟩
  | j + 1, hn => by
    rw [gexp]
    split
    · exact ⟨by assumption, hn⟩
    · exact gexp_spec h j (by assumption)
theorem pow34 : (2 : Nat) ^ 34 = 17179869184 := by decide
theorem gx_spec {a e : Nat} (h : a < e) (he : e ≤ 4294967296) : IsG a e (gx a e) := gexp_spec h 33 fun hf => by
  have h1 := hf.2
  have : (2 : Nat) ^ (33 + 1) = 17179869184 := by decide
  omega
theorem gx_pos (a e : Nat) : 1 ≤ 2 ^ gx a e := Nat.one_le_two_pow

/-- The blocks from a to e, greedily. -/
def gb (a e : Nat) : List api_Range :=
  if h : a < e then ⟨(a : Int), ((a + 2 ^ gx a e - 1 : Nat) : Int)⟩ :: gb (a + 2 ^ gx a e) e else []
termination_by e - a
decreasing_by
  have := gx_pos a e
  omega
theorem gb_nil {a e : Nat} (h : ¬ a < e) : gb a e = [] := by rw [gb]; simp [h]
theorem gb_cons {a e : Nat} (h : a < e) : gb a e = ⟨(a : Int), ((a + 2 ^ gx a e - 1 : Nat) : Int)⟩ :: gb (a + 2 ^ gx a e) e := by
  conv => lhs; rw [gb]
  simp [h]

/-! ### How many -/
theorem gb_down {e : Nat} (he : e ≤ 4294967296) : ∀ (j a : Nat), a % 2 ^ j = 0 → e < a + 2 ^ j → (gb a e).length ≤ j
  | j, a, h1, h2 => by
    by_cases h : a < e
    · have hg := gx_spec h he
      have hlt : gx a e < j := by
        refine Classical.byContradiction fun hn => ?_
        have := (hg.fits.mono (Nat.le_of_not_lt hn)).2
        omega
      rw [gb_cons h, List.length_cons]
      have hd : (a + 2 ^ gx a e) % 2 ^ gx a e = 0 := by
        rw [Nat.add_mod, hg.fits.1]; simp
      have hr : e < a + 2 ^ gx a e + 2 ^ gx a e := by
        refine Classical.byContradiction fun hn => hg.top ⟨?_, ?_⟩
        · exact Nat.mod_eq_zero_of_dvd (Nat.dvd_trans (Nat.pow_dvd_pow 2 hlt) (Nat.dvd_of_mod_eq_zero h1))
        · rw [Nat.pow_succ]; omega
      have := gb_down he (gx a e) _ hd hr
      omega
    · rw [gb_nil h]; simp
  termination_by j => j
theorem odd_next {a i : Nat} (h1 : a % 2 ^ i = 0) (h2 : a % 2 ^ (i + 1) ≠ 0) : (a + 2 ^ i) % 2 ^ (i + 1) = 0 := by
  obtain ⟨q, rfl⟩ := Nat.dvd_of_mod_eq_zero h1
  have hq : q % 2 = 1 := by
    rcases Nat.mod_two_eq_zero_or_one q with h | h
    · exfalso
      apply h2
      obtain ⟨r, rfl⟩ := Nat.dvd_of_mod_eq_zero h
      rw [Nat.pow_succ, ← Nat.mul_assoc]
      exact Nat.mul_mod_right _ _
    · exact h
  have : 2 ^ i * q + 2 ^ i = 2 ^ (i + 1) * ((q + 1) / 2) := by
    have e1 : q + 1 = 2 * ((q + 1) / 2) := by omega
    rw [Nat.pow_succ, Nat.mul_assoc, ← e1, Nat.mul_add, Nat.mul_one]
  rw [this]; exact Nat.mul_mod_right _ _
theorem gb_up {e w : Nat} (he : e ≤ 4294967296) (hw : e ≤ 2 ^ w) : ∀ (m j a : Nat), j + m = w + 1 → a % 2 ^ j = 0 → (gb a e).length ≤ w + 2 + m
  | m, j, a, hm, h1 => by
    by_cases h : a < e
    · have hg := gx_spec h he
      by_cases hj : e < a + 2 ^ j
      · have := gb_down he j a h1 hj
        omega
      · have hij : j ≤ gx a e := by
          refine Classical.byContradiction fun hn => hg.top ?_
          exact Fits.mono (j := j) ⟨h1, by omega⟩ (by omega)
        have hiw : gx a e ≤ w := by
          refine Classical.byContradiction fun hn => ?_
          have h3 := hg.fits.2
          have h4 := Nat.pow_lt_pow_right (a := 2) (by omega) (Nat.lt_of_not_le hn)
          omega
        rw [gb_cons h, List.length_cons]
        by_cases ho : a % 2 ^ (gx a e + 1) = 0
        · have hr : e < a + 2 ^ gx a e + 2 ^ gx a e := by
            refine Classical.byContradiction fun hn => hg.top ⟨ho, ?_⟩
            rw [Nat.pow_succ]; omega
          have hd : (a + 2 ^ gx a e) % 2 ^ gx a e = 0 := by
            rw [Nat.add_mod, hg.fits.1]; simp
          have := gb_down he (gx a e) _ hd hr
          omega
        · have hn := odd_next hg.fits.1 ho
          have hm1 : (gx a e + 1) + (w + 1 - (gx a e + 1)) = w + 1 := by omega
          have := gb_up he hw (w + 1 - (gx a e + 1)) (gx a e + 1) _ hm1 hn
          omega
    · rw [gb_nil h]; simp
  termination_by m => m
theorem gb_len {a e w : Nat} (he : e ≤ 4294967296) (hw : e ≤ 2 ^ w) : (gb a e).length ≤ 2 * w + 3 := by
  have := gb_up he hw (w + 1) 0 a (by omega) (by simp [Nat.mod_one])
  omega
end Go.AM

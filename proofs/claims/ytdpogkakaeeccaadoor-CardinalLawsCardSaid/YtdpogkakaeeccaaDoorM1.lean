/- Plain laws: counts: the sum commutes, is associative, and agrees with the order; CardinalLaws. No condition. -/
import Derived.Test.YtdpogkakaeeccaaDoorF
set_option maxRecDepth 100000
namespace Go.AM
open Go
theorem M_fuel : ∃ f, fuel = f + 4 := ⟨1180591620717411303420, rfl⟩
instance : DecidableEq api_Count := fun a b => decidable_of_iff (a.Hi = b.Hi ∧ a.Lo = b.Lo) (by cases a; cases b; simp)
/-- How numbers compare. -/
def cmp3 (x y : Int) : Int := if x < y then -1 else if x > y then 1 else 0
theorem cmp3_nonneg {x y : Int} (h : y ≤ x) : decide (cmp3 x y < 0) = false := by
  unfold cmp3
  rw [if_neg (by omega)]
  split <;> decide
theorem cmp3_neg (x y : Int) : cmp3 x y = - cmp3 y x := by
  unfold cmp3
  rcases Int.lt_trichotomy x y with h | h | h
  · rw [if_pos h, if_neg (by omega), if_pos (by omega)]; 
  · subst h; simp
  · rw [if_neg (by omega), if_pos (by omega), if_pos h]; rfl
theorem cmp3_zero {x y : Int} : cmp3 x y = 0 ↔ x = y := by
  unfold cmp3
  rcases Int.lt_trichotomy x y with h | h | h
  · rw [if_pos h]; simp; omega
  · subst h; simp
  · rw [if_neg (by omega), if_pos (by omega)]; simp; omega
theorem cmp3_cases (x y : Int) : cmp3 x y = -1 ∨ cmp3 x y = 0 ∨ cmp3 x y = 1 := by
  unfold cmp3
  split
  · exact .inl rfl
  · split
    · exact .inr (.inr rfl)
    · exact .inr (.inl rfl)
theorem wrap_small {n : Int} (h1 : -9223372036854775808 ≤ n) (h2 : n < 9223372036854775808) : IntKind.wrap .i64 n = n := by
  simp only [IntKind.wrap, IntKind.bits, IntKind.signed]
  simp
  omega
theorem M_cmp (a b : Int) : F_cmp_Compare_uint64 a b = some (if a < b then -1 else if a > b then 1 else 0) := by
  simp only [F_cmp_Compare_uint64, F_cmp_isNaN_uint64, Option.bind_some, bne_self_eq_false, Bool.false_eq_true, if_false, decide_eq_true_eq]
  split
  · rfl
  · split <;> rfl
theorem M_or (x y : Int) : F_cmp_Or_int [x, y] = some (if x ≠ 0 then x else y) := by
  obtain ⟨f, hf⟩ := M_fuel
  simp only [F_cmp_Or_int, hf]
  have w1 : IntKind.wrap .i64 1 = 1 := wrap_small (by omega) (by omega)
  have w2 : IntKind.wrap .i64 2 = 2 := wrap_small (by omega) (by omega)
  by_cases hx : x = 0
  · subst hx
    by_cases hy : y = 0
    · subst hy
      simp [F_cmp_Or_int_L1, idx, w1, w2]
    · simp [F_cmp_Or_int_L1, idx, w1, w2, hy]
  · simp [F_cmp_Or_int_L1, idx, hx]
/-- The number of a count. -/
def cnum (c : api_Count) : Int := c.Hi * 18446744073709551616 + c.Lo
theorem M_compare {a b : api_Count} (ha : ok_api_Count a) (hb : ok_api_Count b) : F_cardinal_Compare a b = some (cmp3 (cnum a) (cnum b)) := by
  simp only [F_cardinal_Compare, M_cmp, M_or, Option.bind_some]
  obtain ⟨h1, h2, _⟩ := ha
  obtain ⟨h3, h4, _⟩ := hb
  unfold ok_u64 at h1 h2 h3 h4
  unfold cmp3 cnum
  congr 1
  rcases Int.lt_trichotomy a.Hi b.Hi with h | h | h
  · have k : a.Hi * 18446744073709551616 + a.Lo < b.Hi * 18446744073709551616 + b.Lo := by omega
    simp [h, k]
  · rw [h]
    rcases Int.lt_trichotomy a.Lo b.Lo with k | k | k
    · simp [k]
    · simp [k]
    · have k1 : ¬ a.Lo < b.Lo := by omega
      simp [k, k1]
  · have n1 : ¬ a.Hi < b.Hi := by omega
    have k : ¬ a.Hi * 18446744073709551616 + a.Lo < b.Hi * 18446744073709551616 + b.Lo := by omega
    have k' : a.Hi * 18446744073709551616 + a.Lo > b.Hi * 18446744073709551616 + b.Lo := by omega
    simp [h, n1, k, k']
theorem M_add {a b : api_Count} (ha : ok_api_Count a) (hb : ok_api_Count b) : ∃ c, F_cardinal_Add a b = some c ∧ ok_api_Count c ∧ cnum c = (cnum a + cnum b) % 340282366920938463463374607431768211456 := by
  obtain ⟨h1, h2, _⟩ := ha
  obtain ⟨h3, h4, _⟩ := hb
  unfold ok_u64 at h1 h2 h3 h4
  unfold F_cardinal_Add
  rw [if_pos (by omega), if_pos (by omega)]
  refine ⟨_, rfl, ⟨?_, ?_, trivial⟩, ?_⟩
  · unfold ok_u64; simp only; omega
  · unfold ok_u64; simp only; omega
  · unfold cnum; simp only; omega
theorem cnum_inj {a b : api_Count} (ha : ok_api_Count a) (hb : ok_api_Count b) (h : cnum a = cnum b) : a = b := by
  obtain ⟨h1, h2, _⟩ := ha
  obtain ⟨h3, h4, _⟩ := hb
  unfold ok_u64 at h1 h2 h3 h4
  unfold cnum at h
  cases a; cases b
  simp only [api_Count.mk.injEq] at *
  omega
theorem eq_count {a b : api_Count} : eq_api_Count a b = decide (a = b) := by
  cases a; cases b
  simp only [eq_api_Count, api_Count.mk.injEq, Bool.and_true]
  rw [Bool.eq_iff_iff]
  simp
theorem cnum_range {a : api_Count} (ha : ok_api_Count a) : 0 ≤ cnum a ∧ cnum a < 340282366920938463463374607431768211456 := by
  obtain ⟨h1, h2, _⟩ := ha
  unfold ok_u64 at h1 h2
  unfold cnum
  omega
theorem CardinalLaws_card {a b c : api_Count} (ha : ok_api_Count a) (hb : ok_api_Count b) (hc : ok_api_Count c) : F_nsglaw5_CardinalLaws a b c = some true := by
  obtain ⟨ab, e1, o1, n1⟩ := M_add ha hb
  obtain ⟨ba, e2, o2, n2⟩ := M_add hb ha
  obtain ⟨abc, e3, o3, n3⟩ := M_add o1 hc
  obtain ⟨bc, e4, o4, n4⟩ := M_add hb hc
  obtain ⟨abc', e5, o5, n5⟩ := M_add ha o4
  have oz : ok_api_Count ⟨0, 0⟩ := by refine ⟨?_, ?_, trivial⟩ <;> (unfold ok_u64; decide)
  obtain ⟨az, e6, o6, n6⟩ := M_add ha oz
  have h1 := cnum_range ha
  have h2 := cnum_range hb
  have h3 := cnum_range hc
  have q1 : ab = ba := cnum_inj o1 o2 (by rw [n1, n2, Int.add_comm])
  have q2 : abc = abc' := cnum_inj o3 o5 (by rw [n3, n5, n1, n4]; omega)
  have q3 : az = a := cnum_inj o6 ha (by have hz : cnum ⟨0, 0⟩ = 0 := rfl; rw [n6, hz]; omega)
  have sh : ∀ x : api_Count, ok_api_Count x → ok_api_Count { x with Hi := bShr .u64 x.Hi 1 } ∧ cnum { x with Hi := bShr .u64 x.Hi 1 } < 170141183460469231731687303715884105728 := fun x hx => by
    obtain ⟨g1, g2, _⟩ := hx
    unfold ok_u64 at g1 g2
    have hs : bShr .u64 x.Hi 1 = x.Hi / 2 := by
      unfold bShr
      show x.Hi.fdiv (2 ^ 1) = _
      rw [Int.fdiv_eq_ediv_of_nonneg _ (by decide)]
      rfl
    refine ⟨⟨?_, ?_, trivial⟩, ?_⟩
    · unfold ok_u64; simp only [hs]; omega
    · unfold ok_u64; exact g2
    · unfold cnum; simp only [hs]; omega
  obtain ⟨oa', ra⟩ := sh a ha
  obtain ⟨ob', rb⟩ := sh b hb
  obtain ⟨s, e7, o7, n7⟩ := M_add oa' ob'
  have h4 := cnum_range oa'
  have h5 := cnum_range ob'
  have hx : ∀ (x y : api_Count), (decide (cnum x = cnum y)) = true → ok_api_Count x → ok_api_Count y → x = y := fun x y h hx hy => cnum_inj hx hy (of_decide_eq_true h)
  simp only [F_nsglaw5_CardinalLaws, e1, e2, Option.bind_some, eq_count, q1, decide_true, Bool.not_true, Bool.false_eq_true, if_false]
  rw [← q1]
  simp only [e3, e4, Option.bind_some, e5, q2, decide_true, Bool.not_true, Bool.false_eq_true, if_false, e6, q3, e7]
  have hw : ∀ n : Int, n = -1 ∨ n = 0 ∨ n = 1 → IntKind.wrap .i64 (0 - n) = -n := fun n hn => by
    rw [wrap_small (by omega) (by omega)]; omega
  have hs : F_nsglaw5_sane = some true := rfl
  simp only [M_compare o7 oa', M_compare o7 ob', M_compare oa' hc, M_compare hc oa', Option.bind_some, cmp3_nonneg (show cnum { a with Hi := bShr .u64 a.Hi 1 } ≤ cnum s by omega), cmp3_nonneg (show cnum { b with Hi := bShr .u64 b.Hi 1 } ≤ cnum s by omega), Bool.false_eq_true, if_false, hs, hw _ (cmp3_cases _ _), ← cmp3_neg]
  have hz : ((cmp3 (cnum { a with Hi := bShr .u64 a.Hi 1 }) (cnum c) == 0) == decide ({ a with Hi := bShr .u64 a.Hi 1 } = c)) = true := by
    rw [beq_iff_eq, Bool.eq_iff_iff, beq_iff_eq, decide_eq_true_iff, cmp3_zero]
    exact ⟨fun h => cnum_inj oa' hc h, fun h => by rw [h]⟩
  simp only [hz, beq_self_eq_true, Bool.and_self, if_true, Option.bind_some]
end Go.AM

/- Plain laws: cutting a range never makes it cheaper; ExpandCuts. No condition. -/
import Derived.Test.YteonocagaakagaaDoorL8
set_option maxRecDepth 100000
namespace Go.AM
open Go

/-- From a to e by aligned blocks, n of them. -/
inductive Til (e : Nat) : Nat → Nat → Prop where
  | nil : Til e e 0
  | cons {a n : Nat} (j : Nat) (h : Fits a e j) (k : Til e (a + 2 ^ j) n) : Til e a (n + 1)
theorem gb_til {e : Nat} (he : e ≤ 4294967296) : ∀ (m a : Nat), a ≤ e → e - a = m → Til e a (gb a e).length
  | m, a, ha, hm => by
    by_cases h : a < e
    · have hg := gx_spec h he
      have hp := gx_pos a e
      rw [gb_cons h, List.length_cons]
      exact .cons _ hg.fits (gb_til he (e - (a + 2 ^ gx a e)) (a + 2 ^ gx a e) hg.fits.2 rfl)
    · have : a = e := by omega
      subst this
      rw [gb_nil h]; exact .nil
  termination_by m => m
theorem Til.app {a m e n1 n2 : Nat} (h : Til m a n1) (hm : m ≤ e) (k : Til e m n2) : Til e a (n1 + n2) := by
  induction h with
  | nil => simpa using k
  | @cons a n j hf _ ih =>
    have := Til.cons j ⟨hf.1, Nat.le_trans hf.2 hm⟩ ih
    rwa [show n + 1 + n2 = n + n2 + 1 by omega]
theorem mul_gap {a c d : Nat} (ha : a % d = 0) (hc : c % d = 0) (h : a < c) : a + d ≤ c := by
  obtain ⟨p, rfl⟩ := Nat.dvd_of_mod_eq_zero ha
  obtain ⟨q, rfl⟩ := Nat.dvd_of_mod_eq_zero hc
  have hpq : p < q := Nat.lt_of_mul_lt_mul_left h
  have : d * (p + 1) ≤ d * q := Nat.mul_le_mul_left d hpq
  rw [Nat.mul_add, Nat.mul_one] at this
  exact this
theorem mod_down {a i j : Nat} (h : a % 2 ^ j = 0) (hij : i ≤ j) : a % 2 ^ i = 0 := Nat.mod_eq_zero_of_dvd (Nat.dvd_trans (Nat.pow_dvd_pow 2 hij) (Nat.dvd_of_mod_eq_zero h))
/-- The blocks that lie in the greatest one are at least one. -/
theorem Til.skip {a e g : Nat} (hg : IsG a e g) {c n : Nat} (h : Til e c n) : a ≤ c → c < a + 2 ^ g → ∃ n', n' + 1 ≤ n ∧ Til e (a + 2 ^ g) n' := by
  induction h with
  | nil => intro h1 h2; have := hg.fits.2; omega
  | @cons c n j hf k ih =>
    intro h1 h2
    by_cases hj : j ≤ g
    · have e1 : (a + 2 ^ g) % 2 ^ j = 0 := mod_down (j := g) (by rw [Nat.add_mod, hg.fits.1]; simp) hj
      have h3 := mul_gap hf.1 e1 h2
      by_cases h4 : c + 2 ^ j = a + 2 ^ g
      · rw [← h4]; exact ⟨n, Nat.le_refl _, k⟩
      · obtain ⟨n', h5, h6⟩ := ih (by have := Nat.one_le_two_pow (n := j); omega) (by omega)
        exact ⟨n', by omega, h6⟩
    · exfalso
      have hcg : c % 2 ^ g = 0 := mod_down hf.1 (by omega)
      have hca : c = a := by
        refine Classical.byContradiction fun hne => ?_
        have := mul_gap hg.fits.1 hcg (by omega)
        omega
      subst hca
      exact hg.top (hf.mono (by omega))
theorem gb_least {e : Nat} (he : e ≤ 4294967296) : ∀ (n a : Nat), Til e a n → (gb a e).length ≤ n
  | n, a, h => by
    by_cases hlt : a < e
    · have hg := gx_spec hlt he
      have hp := gx_pos a e
      obtain ⟨n', h1, h2⟩ := h.skip hg (Nat.le_refl _) (by omega)
      have := gb_least he n' _ h2
      rw [gb_cons hlt, List.length_cons]; omega
    · rw [gb_nil hlt]; simp
  termination_by n => n
theorem gb_cut {a m e : Nat} (he : e ≤ 4294967296) (h1 : a ≤ m) (h2 : m ≤ e) : (gb a e).length ≤ (gb a m).length + (gb m e).length :=
  gb_least he _ _ ((gb_til (by omega) _ a h1 rfl).app h2 (gb_til he _ m h2 rfl))
theorem bl_cut {r : api_Range} {v top : Int} (hr : ROk top r) (ht : top < 4294967296) (h1 : r.Lo ≤ v) (h2 : v < r.Hi) : (bl r).length ≤ (bl ⟨r.Lo, v⟩).length + (bl ⟨v + 1, r.Hi⟩).length := by
  have g0 := hr.h0
  have g2 := hr.h2
  have := gb_cut (a := r.Lo.toNat) (m := v.toNat + 1) (e := r.Hi.toNat + 1) (by omega) (by omega) (by omega)
  unfold bl
  have e1 : (v + 1).toNat = v.toNat + 1 := by omega
  show _ ≤ (gb r.Lo.toNat (v.toNat + 1)).length + (gb (v + 1).toNat (r.Hi.toNat + 1)).length
  rw [e1]; exact this

/-! ### The costs of the two parts -/
theorem BOk.get {b : Arr5 api_Range} (h : BOk b) {k : Int} (h0 : 0 ≤ k) (h1 : k < 5) : ROk (topOf k) (b.get k) := by
  rcases five h0 h1 with rfl | rfl | rfl | rfl | rfl
  · exact h.h0
  · exact h.h1
  · exact h.h2
  · exact h.h3
  · exact h.h4
theorem BOk.set {b : Arr5 api_Range} (h : BOk b) {k : Int} (h0 : 0 ≤ k) (h1 : k < 5) {r : api_Range} (hr : ROk (topOf k) r) : BOk (b.set k r) := by
  rcases five h0 h1 with rfl | rfl | rfl | rfl | rfl
  · exact ⟨hr, h.h1, h.h2, h.h3, h.h4⟩
  · exact ⟨h.h0, hr, h.h2, h.h3, h.h4⟩
  · exact ⟨h.h0, h.h1, hr, h.h3, h.h4⟩
  · exact ⟨h.h0, h.h1, h.h2, hr, h.h4⟩
  · exact ⟨h.h0, h.h1, h.h2, h.h3, hr⟩
theorem mul_cut {x y z : Nat} (u : Nat) (h : x ≤ y + z) : x * u ≤ y * u + z * u := by rw [← Nat.add_mul]; exact Nat.mul_le_mul_right u h
theorem cnt_cut (b : Arr5 api_Range) {k : Int} (h0 : 0 ≤ k) (h1 : k < 5) {r s : api_Range} (h : (bl (b.get k)).length ≤ (bl r).length + (bl s).length) : cnt b ≤ cnt (b.set k r) + cnt (b.set k s) := by
  rcases five h0 h1 with rfl | rfl | rfl | rfl | rfl
  · have h : (bl b.x0).length ≤ (bl r).length + (bl s).length := h
    show (bl b.x0).length * (bl b.x1).length * (bl b.x2).length * (bl b.x3).length * (bl b.x4).length ≤ (bl r).length * (bl b.x1).length * (bl b.x2).length * (bl b.x3).length * (bl b.x4).length + (bl s).length * (bl b.x1).length * (bl b.x2).length * (bl b.x3).length * (bl b.x4).length
    exact mul_cut _ (mul_cut _ (mul_cut _ (mul_cut _ h)))
  · have h : (bl b.x1).length ≤ (bl r).length + (bl s).length := h
    show (bl b.x0).length * (bl b.x1).length * (bl b.x2).length * (bl b.x3).length * (bl b.x4).length ≤ (bl b.x0).length * (bl r).length * (bl b.x2).length * (bl b.x3).length * (bl b.x4).length + (bl b.x0).length * (bl s).length * (bl b.x2).length * (bl b.x3).length * (bl b.x4).length
    refine mul_cut _ (mul_cut _ (mul_cut _ ?_))
    rw [← Nat.mul_add]; exact Nat.mul_le_mul_left _ h
  · have h : (bl b.x2).length ≤ (bl r).length + (bl s).length := h
    show (bl b.x0).length * (bl b.x1).length * (bl b.x2).length * (bl b.x3).length * (bl b.x4).length ≤ (bl b.x0).length * (bl b.x1).length * (bl r).length * (bl b.x3).length * (bl b.x4).length + (bl b.x0).length * (bl b.x1).length * (bl s).length * (bl b.x3).length * (bl b.x4).length
    refine mul_cut _ (mul_cut _ ?_)
    rw [← Nat.mul_add]; exact Nat.mul_le_mul_left _ h
  · have h : (bl b.x3).length ≤ (bl r).length + (bl s).length := h
    show (bl b.x0).length * (bl b.x1).length * (bl b.x2).length * (bl b.x3).length * (bl b.x4).length ≤ (bl b.x0).length * (bl b.x1).length * (bl b.x2).length * (bl r).length * (bl b.x4).length + (bl b.x0).length * (bl b.x1).length * (bl b.x2).length * (bl s).length * (bl b.x4).length
    refine mul_cut _ ?_
    rw [← Nat.mul_add]; exact Nat.mul_le_mul_left _ h
  · have h : (bl b.x4).length ≤ (bl r).length + (bl s).length := h
    show (bl b.x0).length * (bl b.x1).length * (bl b.x2).length * (bl b.x3).length * (bl b.x4).length ≤ (bl b.x0).length * (bl b.x1).length * (bl b.x2).length * (bl b.x3).length * (bl r).length + (bl b.x0).length * (bl b.x1).length * (bl b.x2).length * (bl b.x3).length * (bl s).length
    rw [← Nat.mul_add]; exact Nat.mul_le_mul_left _ h
theorem topOf_lt (k : Int) : 0 ≤ topOf k ∧ topOf k < 4294967296 := by
  unfold topOf
  repeat' split
  all_goals decide
theorem cost_ok {b : Arr5 api_Range} (h : BOk b) : cost b false = (cnt b : Int) := by unfold cost; simp [ok_vB h]
theorem Sum2 {c d : Arr5 api_Range} (hc : BOk c) (hd : BOk d) : F_expand_Sum [c, d] true = some 2 := by
  unfold F_expand_Sum
  rw [fuel6]
  generalize (1180591620717411303418 : Nat) = m
  have e1 : F_expand_Cost c true = some 1 := by rw [Cost_eq hc.bin]; unfold cost; simp [ok_vB hc]
  have e2 : F_expand_Cost d true = some 1 := by rw [Cost_eq hd.bin]; unfold cost; simp [ok_vB hd]
  have s0 : F_expand_Sum_L1 [c, d] true (m + 6) 0 0 = F_expand_Sum_L1 [c, d] true (m + 5) 1 1 := by
    rw [F_expand_Sum_L1, if_pos (decide_eq_true (by simp)), show idx [c, d] 0 = some c from rfl]
    simp only [Option.bind_some, e1]; rfl
  have s1 : F_expand_Sum_L1 [c, d] true (m + 5) 1 1 = F_expand_Sum_L1 [c, d] true (m + 4) 2 2 := by
    rw [F_expand_Sum_L1, if_pos (decide_eq_true (by simp)), show idx [c, d] 1 = some d from rfl]
    simp only [Option.bind_some, e2]; rfl
  have s2 : F_expand_Sum_L1 [c, d] true (m + 4) 2 2 = some 2 := by rw [F_expand_Sum_L1]; rfl
  rw [s0, s1, s2]; rfl
theorem ExpandCuts_law {t : List Int} {f v : Int} (ht : (t.length : Int) < 9223372036854775808) (hv : 0 ≤ v ∧ v < 4294967296) : F_nsglaw7_ExpandCuts t f v = some true := by
  refine Ok.eq (r := true) ?_
  unfold F_nsglaw7_ExpandCuts
  refine Ok.bind (New_ok ht) fun t ht => Ok.bind (Box_ok ht) fun r3 ⟨hb, h3⟩ => Ok.bind (Mod_ok (by omega) (by omega)) fun r5 ⟨k0, k1⟩ => ?_
  have htop := topOf_lt r5
  refine Ok.bind (p := fun o => 0 ≤ o.2 ∧ o.2 < 4294967296) ?_ fun o ho => ?_
  · refine Ok.bind (Next_lt h3 2 (by omega) (by omega)) fun r18 ⟨_, h4⟩ => Ok.ite (fun _ => ?_) fun _ => Ok.ret hv
    rw [Top_eq r5 k0 k1]
    refine Ok.lift (Ok.bind (Number_ok h4 htop.1 htop.2) fun q ⟨⟨g1, g2⟩, _⟩ => Ok.ret ⟨g1, by omega⟩)
  · obtain ⟨o1, u⟩ := o
    simp only at ho
    have hcost := Cost_eq hb.bin false
    have hal : F_expand_Aligned r3.1 = some (cost r3.1 false == 1) := by unfold F_expand_Aligned; rw [hcost]; rfl
    show Ok ((F_expand_Aligned r3.1).bind fun r25 => _) _
    rw [hal, hcost]
    simp only [Option.bind_some, beq_self_eq_true, Bool.not_true, Bool.false_eq_true, if_false]
    refine Ok.chk ⟨k0, k1⟩ ?_
    refine Ok.bind (p := fun w => w = false → (r3.1.get r5).Lo ≤ u ∧ u < (r3.1.get r5).Hi) ?_ fun w hw => ?_
    · refine Ok.ite (fun _ => Ok.ret fun h => by cases h) fun hn => Ok.chk ⟨k0, k1⟩ (Ok.ret fun h => ?_)
      simp at hn h
      exact ⟨hn, h⟩
    · cases w with
      | true => rw [if_pos rfl, sane7_eq]; exact Ok.ret rfl
      | false =>
        obtain ⟨h5, h6⟩ := hw rfl
        simp only [Bool.false_eq_true, if_false]
        have hr := hb.get k0 k1
        have g0 := hr.h0
        have g2 := hr.h2
        rw [wu32 (x := u + 1) (by omega) (by omega)]
        have hc : BOk (r3.1.set r5 ({ (r3.1.get r5) with Hi := u } : api_Range)) := hb.set k0 k1 (r := ⟨(r3.1.get r5).Lo, u⟩) ⟨g0, h5, by show u ≤ topOf r5; omega⟩
        have hd : BOk (r3.1.set r5 ({ (r3.1.get r5) with Lo := u + 1 } : api_Range)) := hb.set k0 k1 (r := ⟨u + 1, (r3.1.get r5).Hi⟩) ⟨by show 0 ≤ u + 1; omega, by show u + 1 ≤ (r3.1.get r5).Hi; omega, g2⟩
        have hcut : cnt r3.1 ≤ cnt (r3.1.set r5 ({ (r3.1.get r5) with Hi := u } : api_Range)) + cnt (r3.1.set r5 ({ (r3.1.get r5) with Lo := u + 1 } : api_Range)) := cnt_cut r3.1 k0 k1 (bl_cut hr htop.2 h5 h6)
        refine Ok.chk ⟨k0, k1⟩ (Ok.chk ⟨k0, k1⟩ ?_)
        generalize (r3.1.set r5 ({ (r3.1.get r5) with Hi := u } : api_Range)) = c at *
        generalize (r3.1.set r5 ({ (r3.1.get r5) with Lo := u + 1 } : api_Range)) = d at *
        rw [Cost_eq hc.bin, Cost_eq hd.bin, cost_ok hb, cost_ok hc, cost_ok hd, Sum2 hc hd, sane7_eq]
        have b1 := (cnt_bound hc).2.2.2.2
        have b2 := (cnt_bound hd).2.2.2.2
        simp only [Option.bind_some]
        rw [wi64 (by omega) (by omega), show decide ((cnt r3.1 : Int) ≤ (cnt c : Int) + (cnt d : Int)) = true from decide_eq_true (by omega)]
        exact Ok.ret rfl
theorem ExpandCuts_card {t : List Int} {f v : Int} (ht : ok_s_i64 t) (_ : ok_i64 f) (hv : ok_u32 v) : F_nsglaw7_ExpandCuts t f v = some true := ExpandCuts_law (ok_tape ht) hv
end Go.AM

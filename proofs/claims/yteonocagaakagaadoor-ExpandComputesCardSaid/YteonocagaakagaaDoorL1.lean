/- Plain laws: computations that come to something; the machine's integers; the tape. No condition. -/
import Derived.Test.YteonocagaakagaaDoorF
namespace Go.AM
open Go

/-! ### Computations that come to something -/
def Ok {α : Type} (x : Option α) (p : α → Prop) : Prop := ∃ r, x = some r ∧ p r
theorem Ok.bind {α γ : Type} {x : Option α} {p : α → Prop} {f : α → Option γ} {q : γ → Prop} (h : Ok x p) (k : ∀ v, p v → Ok (f v) q) : Ok (x.bind f) q := by
  obtain ⟨v, rfl, hv⟩ := h
  exact k v hv
theorem Ok.ret {α : Type} {r : α} {p : α → Prop} (h : p r) : Ok (some r) p := ⟨r, rfl, h⟩
theorem Ok.chk {α : Type} {c : Prop} [Decidable c] {x : Option α} {p : α → Prop} (hc : c) (h : Ok x p) : Ok (if c then x else none) p := by rw [if_pos hc]; exact h
theorem Ok.ite {α : Type} {c : Prop} [Decidable c] {x y : Option α} {p : α → Prop} (h1 : c → Ok x p) (h2 : ¬ c → Ok y p) : Ok (if c then x else y) p := by
  split
  · exact h1 (by assumption)
  · exact h2 (by assumption)
theorem Ok.lift {α γ : Type} {b : α} {f : α → Option γ} {q : γ → Prop} (h : Ok (f b) q) : Ok ((Option.some b).bind f) q := h
theorem Ok.mono {α : Type} {x : Option α} {p q : α → Prop} (h : Ok x p) (k : ∀ v, p v → q v) : Ok x q := by
  obtain ⟨v, h1, h2⟩ := h
  exact ⟨v, h1, k v h2⟩
theorem Ok.get {α : Type} {x : Option α} {p : α → Prop} (h : Ok x p) {r : α} (e : x = some r) : p r := by
  obtain ⟨v, h1, h2⟩ := h
  rw [h1] at e; cases e; exact h2
theorem Ok.eq {α : Type} {x : Option α} {r : α} (h : Ok x (· = r)) : x = some r := by
  obtain ⟨v, h1, rfl⟩ := h; exact h1
theorem Ok.of_eq {α : Type} {x : Option α} {r : α} (h : x = some r) : Ok x (· = r) := ⟨r, h, rfl⟩
theorem Ok.idx {α : Type} {l : List α} {i : Int} {p : α → Prop} (h0 : 0 ≤ i) (h1 : i < l.length) (h : ∀ x ∈ l, p x) : Ok (idx l i) p := by
  have hi : i.toNat < l.length := by omega
  exact ⟨l[i.toNat], by simp [AM.idx, h0, hi], h _ (List.getElem_mem hi)⟩
theorem idx_get {α : Type} {l : List α} {i : Nat} (h : i < l.length) : AM.idx l (i : Int) = some l[i] := by simp [AM.idx, h]

/-! ### The machine's integers -/
theorem wrap_u (k : IntKind) (b : Nat) (hs : k.signed = false) (hb : k.bits = b) (x : Int) : k.wrap x = x % (2 ^ b : Int) := by
  subst hb; simp [IntKind.wrap, hs]
theorem wi64 {x : Int} (h0 : -9223372036854775808 ≤ x) (h1 : x < 9223372036854775808) : IntKind.wrap .i64 x = x := by
  simp only [IntKind.wrap, IntKind.bits, IntKind.signed]
  simp
  omega
theorem wu64 {x : Int} (h0 : 0 ≤ x) (h1 : x < 18446744073709551616) : IntKind.wrap .u64 x = x := by
  simp only [IntKind.wrap, IntKind.bits, IntKind.signed]
  simp
  omega
theorem wu32 {x : Int} (h0 : 0 ≤ x) (h1 : x < 4294967296) : IntKind.wrap .u32 x = x := by
  simp only [IntKind.wrap, IntKind.bits, IntKind.signed]
  simp
  omega
theorem wu32_range (x : Int) : 0 ≤ IntKind.wrap .u32 x ∧ IntKind.wrap .u32 x < 4294967296 := by
  simp only [IntKind.wrap, IntKind.bits, IntKind.signed]
  simp
  omega
theorem wu16_range (x : Int) : 0 ≤ IntKind.wrap .u16 x ∧ IntKind.wrap .u16 x < 65536 := by
  simp only [IntKind.wrap, IntKind.bits, IntKind.signed]
  simp
  omega
theorem wu8_range (x : Int) : 0 ≤ IntKind.wrap .u8 x ∧ IntKind.wrap .u8 x < 256 := by
  simp only [IntKind.wrap, IntKind.bits, IntKind.signed]
  simp
  omega
theorem wu64_range (x : Int) : 0 ≤ IntKind.wrap .u64 x ∧ IntKind.wrap .u64 x < 18446744073709551616 := by
  simp only [IntKind.wrap, IntKind.bits, IntKind.signed]
  simp
  omega
theorem wi64_range (x : Int) : -9223372036854775808 ≤ IntKind.wrap .i64 x ∧ IntKind.wrap .i64 x < 9223372036854775808 := by
  simp only [IntKind.wrap, IntKind.bits, IntKind.signed]
  simp
  split <;> omega
theorem bShl_one {k : Nat} (h : k < 64) : bShl .u64 1 (k : Int) = (2 ^ k : Nat) := by
  have h2 : (2 : Nat) ^ k < 2 ^ 64 := Nat.pow_lt_pow_right (by omega) h
  unfold bShl
  have e : ((1 : Int) * 2 ^ min (k : Int).toNat (IntKind.bits .u64)) = ((2 ^ k : Nat) : Int) := by
    rw [show IntKind.bits .u64 = 64 from rfl, Int.toNat_natCast, Nat.min_eq_left (by omega)]; simp
  have h3 : ((2 ^ k : Nat) : Int) < 18446744073709551616 := Int.ofNat_lt.2 h2
  rw [e]
  exact wu64 (Int.natCast_nonneg _) h3

/-! ### The tape -/
structure TOk (t : nsggen_Tape) : Prop where
  h0 : 0 ≤ t.f_i
  h1 : t.f_i ≤ t.f_l.length
  h2 : (t.f_l.length : Int) < 9223372036854775808
theorem New_ok {l : List Int} (h : (l.length : Int) < 9223372036854775808) : Ok (F_nsggen_New l) TOk := Ok.ret ⟨Int.le_refl 0, by simp, h⟩
theorem Mod_ok {x n : Int} (h1 : 1 ≤ n) (h2 : n < 9223372036854775808) : Ok (F_nsggen_Mod x n) fun v => 0 ≤ v ∧ v < n := by
  unfold F_nsggen_Mod
  have hn : IntKind.wrap .u64 n = n := wu64 (by omega) (by omega)
  rw [hn]
  have hx := wu64_range x
  have h3 : 0 ≤ Int.tmod (IntKind.wrap .u64 x) n := Int.tmod_nonneg _ hx.1
  have h4 : Int.tmod (IntKind.wrap .u64 x) n < n := Int.tmod_lt_of_pos _ (by omega)
  refine Ok.chk (by omega) (Ok.ret ?_)
  rw [wi64 (by omega) (by omega)]
  exact ⟨h3, h4⟩
theorem Next_ok {t : nsggen_Tape} (ht : TOk t) (n : Int) (h2 : n < 9223372036854775808) : Ok (F_nsggen_Tape_Next t n) fun r => (0 ≤ r.1 ∧ (r.1 < n ∨ r.1 = 0)) ∧ TOk r.2 := by
  unfold F_nsggen_Tape_Next
  refine Ok.lift (Ok.ite (fun hc => Ok.ret ⟨⟨by simp, .inr rfl⟩, ht⟩) fun hc => ?_)
  simp only [Bool.or_eq_true, decide_eq_true_eq] at hc
  have hc1 : ¬ n ≤ 1 := fun h => hc (.inl h)
  have hc2 : ¬ t.f_i ≥ t.f_l.length := fun h => hc (.inr h)
  have h0 := ht.h0
  have h1 := ht.h2
  have e1 : IntKind.wrap .i64 (t.f_i + 1) = t.f_i + 1 := wi64 (by omega) (by omega)
  rw [e1]
  have e2 : IntKind.wrap .i64 (t.f_i + 1 - 1) = t.f_i := by rw [Int.add_sub_cancel]; exact wi64 (by omega) (by omega)
  rw [e2]
  refine Ok.bind (Ok.idx (p := fun _ => True) h0 (by omega) fun _ _ => trivial) fun x _ => ?_
  refine Ok.bind (Mod_ok (by omega) h2) fun v hv => Ok.ret ⟨⟨hv.1, .inl hv.2⟩, ?_⟩
  exact ⟨by show 0 ≤ t.f_i + 1; omega, by show t.f_i + 1 ≤ t.f_l.length; omega, h1⟩
/-- A number below n, n at least 1. -/
theorem Next_lt {t : nsggen_Tape} (ht : TOk t) (n : Int) (h1 : 1 ≤ n) (h2 : n < 9223372036854775808) : Ok (F_nsggen_Tape_Next t n) fun r => (0 ≤ r.1 ∧ r.1 < n) ∧ TOk r.2 :=
  (Next_ok ht n h2).mono fun r ⟨⟨h3, h4⟩, h5⟩ => ⟨⟨h3, by omega⟩, h5⟩
end Go.AM

/- Plain laws that many statements share: computations that come to something; integers; the tape; boxes. No condition. -/
import Derived.Test.YtkeeaccnnljimaaDoorF
set_option maxRecDepth 100000
namespace Go.AM
open Go
/-! ### Computations that come to something -/
def Ok {α : Type} (x : Option α) (p : α → Prop) : Prop := ∃ r, x = some r ∧ p r
theorem Ok.bind {α γ : Type} {x : Option α} {p : α → Prop} {f : α → Option γ} {q : γ → Prop} (h : Ok x p) (k : ∀ v, p v → Ok (f v) q) : Ok (x.bind f) q := by
  obtain ⟨v, rfl, hv⟩ := h
  exact k v hv
theorem Ok.ret {α : Type} {r : α} {p : α → Prop} (h : p r) : Ok (some r) p := ⟨r, rfl, h⟩
theorem Ok.chk {α : Type} {c : Prop} [Decidable c] {x : Option α} {p : α → Prop} (hc : c) (h : Ok x p) : Ok (if c then x else none) p := by rw [if_pos hc]; exact h
theorem Ok.ite {α : Type} {c : Prop} [Decidable c] {x y : Option α} {p : α → Prop} (h1 : c → Ok x p) (h2 : ¬ c → Ok y p) : Ok (if c then x else y) p := by
  split
  · exact h1 (by assumption)
  · exact h2 (by assumption)
theorem Ok.lift {α γ : Type} {b : α} {f : α → Option γ} {q : γ → Prop} (h : Ok (f b) q) : Ok ((Option.some b).bind f) q := h
theorem Ok.mono {α : Type} {x : Option α} {p q : α → Prop} (h : Ok x p) (k : ∀ v, p v → q v) : Ok x q := by
  obtain ⟨v, h1, h2⟩ := h
  exact ⟨v, h1, k v h2⟩
theorem Ok.get {α : Type} {x : Option α} {p : α → Prop} (h : Ok x p) {r : α} (e : x = some r) : p r := by
  obtain ⟨v, h1, h2⟩ := h
  rw [h1] at e; cases e; exact h2
theorem Ok.eq {α : Type} {x : Option α} {r : α} (h : Ok x (· = r)) : x = some r := by
  obtain ⟨v, h1, rfl⟩ := h; exact h1
theorem Ok.of_eq {α : Type} {x : Option α} {r : α} (h : x = some r) : Ok x (· = r) := ⟨r, h, rfl⟩
theorem Ok.idx {α : Type} {l : List α} {i : Int} {p : α → Prop} (h0 : 0 ≤ i) (h1 : i < l.length) (h : ∀ x ∈ l, p x) : Ok (idx l i) p := by
  have hi : i.toNat < l.length := by omega
  exact ⟨l[i.toNat], by simp [AM.idx, h0, hi], h _ (List.getElem_mem hi)⟩
theorem idx_get {α : Type} {l : List α} {i : Nat} (h : i < l.length) : AM.idx l (i : Int) = some l[i] := by simp [AM.idx, h]

/-! ### The machine's integers -/
theorem wrap_u (k : IntKind) (b : Nat) (hs : k.signed = false) (hb : k.bits = b) (x : Int) : k.wrap x = x % (2 ^ b : Int) := by
  subst hb; simp [IntKind.wrap, hs]
theorem wi64 {x : Int} (h0 : -9223372036854775808 ≤ x) (h1 : x < 9223372036854775808) : IntKind.wrap .i64 x = x := by
  simp only [IntKind.wrap, IntKind.bits, IntKind.signed]
  simp
  omega
theorem wu64 {x : Int} (h0 : 0 ≤ x) (h1 : x < 18446744073709551616) : IntKind.wrap .u64 x = x := by
  simp only [IntKind.wrap, IntKind.bits, IntKind.signed]
  simp
  omega
theorem wu32 {x : Int} (h0 : 0 ≤ x) (h1 : x < 4294967296) : IntKind.wrap .u32 x = x := by
  simp only [IntKind.wrap, IntKind.bits, IntKind.signed]
  simp
  omega
theorem wu32_range (x : Int) : 0 ≤ IntKind.wrap .u32 x ∧ IntKind.wrap .u32 x < 4294967296 := by
  simp only [IntKind.wrap, IntKind.bits, IntKind.signed]
  simp
  omega
theorem wu16_range (x : Int) : 0 ≤ IntKind.wrap .u16 x ∧ IntKind.wrap .u16 x < 65536 := by
  simp only [IntKind.wrap, IntKind.bits, IntKind.signed]
  simp
  omega
theorem wu8_range (x : Int) : 0 ≤ IntKind.wrap .u8 x ∧ IntKind.wrap .u8 x < 256 := by
  simp only [IntKind.wrap, IntKind.bits, IntKind.signed]
  simp
  omega
theorem wu64_range (x : Int) : 0 ≤ IntKind.wrap .u64 x ∧ IntKind.wrap .u64 x < 18446744073709551616 := by
  simp only [IntKind.wrap, IntKind.bits, IntKind.signed]
  simp
  omega
theorem wi64_range (x : Int) : -9223372036854775808 ≤ IntKind.wrap .i64 x ∧ IntKind.wrap .i64 x < 9223372036854775808 := by
  simp only [IntKind.wrap, IntKind.bits, IntKind.signed]
  simp
  split <;> omega
theorem bShl_one {k : Nat} (h : k < 64) : bShl .u64 1 (k : Int) = (2 ^ k : Nat) := by
  have h2 : (2 : Nat) ^ k < 2 ^ 64 := Nat.pow_lt_pow_right (by omega) h
  unfold bShl
  have e : ((1 : Int) * 2 ^ min (k : Int).toNat (IntKind.bits .u64)) = ((2 ^ k : Nat) : Int) := by
    rw [show IntKind.bits .u64 = 64 from rfl, Int.toNat_natCast, Nat.min_eq_left (by omega)]; simp
  have h3 : ((2 ^ k : Nat) : Int) < 18446744073709551616 := Int.ofNat_lt.2 h2
  rw [e]
  exact wu64 (Int.natCast_nonneg _) h3

/-! ### The tape -/
structure TOk (t : nsggen_Tape) : Prop where
  h0 : 0 ≤ t.f_i
  h1 : t.f_i ≤ t.f_l.length
  h2 : (t.f_l.length : Int) < 9223372036854775808
theorem New_ok {l : List Int} (h : (l.length : Int) < 9223372036854775808) : Ok (F_nsggen_New l) TOk := Ok.ret ⟨Int.le_refl 0, by simp, h⟩
theorem Mod_ok {x n : Int} (h1 : 1 ≤ n) (h2 : n < 9223372036854775808) : Ok (F_nsggen_Mod x n) fun v => 0 ≤ v ∧ v < n := by
  unfold F_nsggen_Mod
  have hn : IntKind.wrap .u64 n = n := wu64 (by omega) (by omega)
  rw [hn]
  have hx := wu64_range x
  have h3 : 0 ≤ Int.tmod (IntKind.wrap .u64 x) n := Int.tmod_nonneg _ hx.1
  have h4 : Int.tmod (IntKind.wrap .u64 x) n < n := Int.tmod_lt_of_pos _ (by omega)
  refine Ok.chk (by omega) (Ok.ret ?_)
  rw [wi64 (by omega) (by omega)]
  exact ⟨h3, h4⟩
theorem Next_ok {t : nsggen_Tape} (ht : TOk t) (n : Int) (h2 : n < 9223372036854775808) : Ok (F_nsggen_Tape_Next t n) fun r => (0 ≤ r.1 ∧ (r.1 < n ∨ r.1 = 0)) ∧ TOk r.2 := by
  unfold F_nsggen_Tape_Next
  refine Ok.lift (Ok.ite (fun hc => Ok.ret ⟨⟨by simp, .inr rfl⟩, ht⟩) fun hc => ?_)
  simp only [Bool.or_eq_true, decide_eq_true_eq] at hc
  have hc1 : ¬ n ≤ 1 := fun h => hc (.inl h)
  have hc2 : ¬ t.f_i ≥ t.f_l.length := fun h => hc (.inr h)
  have h0 := ht.h0
  have h1 := ht.h2
  have e1 : IntKind.wrap .i64 (t.f_i + 1) = t.f_i + 1 := wi64 (by omega) (by omega)
  rw [e1]
  have e2 : IntKind.wrap .i64 (t.f_i + 1 - 1) = t.f_i := by rw [Int.add_sub_cancel]; exact wi64 (by omega) (by omega)
  rw [e2]
  refine Ok.bind (Ok.idx (p := fun _ => True) h0 (by omega) fun _ _ => trivial) fun x _ => ?_
  refine Ok.bind (Mod_ok (by omega) h2) fun v hv => Ok.ret ⟨⟨hv.1, .inl hv.2⟩, ?_⟩
  exact ⟨by show 0 ≤ t.f_i + 1; omega, by show t.f_i + 1 ≤ t.f_l.length; omega, h1⟩
/-- A number below n, n at least 1. -/
theorem Next_lt {t : nsggen_Tape} (ht : TOk t) (n : Int) (h1 : 1 ≤ n) (h2 : n < 9223372036854775808) : Ok (F_nsggen_Tape_Next t n) fun r => (0 ≤ r.1 ∧ r.1 < n) ∧ TOk r.2 :=
  (Next_ok ht n h2).mono fun r ⟨⟨h3, h4⟩, h5⟩ => ⟨⟨h3, by omega⟩, h5⟩
def full : Arr5 api_Range := ⟨⟨0, 4294967295⟩, ⟨0, 4294967295⟩, ⟨0, 255⟩, ⟨0, 65535⟩, ⟨0, 65535⟩⟩
theorem Full_eq : F_nsgref3_Full = some full := by kernel_rfl
/-! ### Ranges -/
structure ROk (top : Int) (r : api_Range) : Prop where
  h0 : 0 ≤ r.Lo
  h1 : r.Lo ≤ r.Hi
  h2 : r.Hi ≤ top
structure RIn (r : api_Range) : Prop where
  h0 : 0 ≤ r.Lo
  h1 : r.Lo < 4294967296
  h2 : 0 ≤ r.Hi
  h3 : r.Hi < 4294967296
theorem ROk.rin {top : Int} {r : api_Range} (h : ROk top r) (ht : top < 4294967296) : RIn r := ⟨h.h0, by have := h.h1; have := h.h2; omega, by have := h.h0; have := h.h1; omega, by have := h.h2; omega⟩
structure BOk (b : Arr5 api_Range) : Prop where
  h0 : ROk 4294967295 b.x0
  h1 : ROk 4294967295 b.x1
  h2 : ROk 255 b.x2
  h3 : ROk 65535 b.x3
  h4 : ROk 65535 b.x4
structure BIn (b : Arr5 api_Range) : Prop where
  h0 : RIn b.x0
  h1 : RIn b.x1
  h2 : RIn b.x2
  h3 : RIn b.x3
  h4 : RIn b.x4
theorem BOk.bin {b : Arr5 api_Range} (h : BOk b) : BIn b := ⟨h.h0.rin (by omega), h.h1.rin (by omega), h.h2.rin (by omega), h.h3.rin (by omega), h.h4.rin (by omega)⟩
theorem full_ok : BOk full := ⟨⟨by decide, by decide, by decide⟩, ⟨by decide, by decide, by decide⟩, ⟨by decide, by decide, by decide⟩, ⟨by decide, by decide, by decide⟩, ⟨by decide, by decide, by decide⟩⟩

def topOf (i : Int) : Int := if i = 0 then 4294967295 else if i = 1 then 4294967295 else if i = 2 then 255 else 65535
theorem Top_eq (f : Int) (h0 : 0 ≤ f) (h1 : f < 5) : F_nsgref3_Top f = some (topOf f) := by
  have hk : f = 0 ∨ f = 1 ∨ f = 2 ∨ f = 3 ∨ f = 4 := by omega
  rcases hk with rfl | rfl | rfl | rfl | rfl <;> rfl

theorem fuel6 : fuel = 1180591620717411303418 + 6 := by kernel_rfl

/-! ### Generators -/
theorem Number_ok {t : nsggen_Tape} (ht : TOk t) {top : Int} (h0 : 0 ≤ top) (h1 : top < 4294967296) : Ok (F_nsggen_Tape_Number t top) fun r => (0 ≤ r.1 ∧ r.1 ≤ top) ∧ TOk r.2 := by
  unfold F_nsggen_Tape_Number
  refine Ok.bind (Next_lt ht 17 (by omega) (by omega)) fun r ⟨⟨h2, h3⟩, h4⟩ => ?_
  have hw := wu32_range (Int.tdiv top 2)
  have hw2 := wu32_range (top - 1)
  refine Ok.bind (Ok.idx (p := fun x => 0 ≤ x) h2 (by simpa using h3) fun x hx => ?_) fun x hx => Ok.ret ⟨⟨?_, ?_⟩, h4⟩
  · simp only [List.mem_cons, List.not_mem_nil, or_false] at hx
    omega
  · show 0 ≤ iMin x top
    unfold iMin; split <;> omega
  · show iMin x top ≤ top
    unfold iMin; split <;> omega
theorem Range_ok {t : nsggen_Tape} (ht : TOk t) {top : Int} (h0 : 0 ≤ top) (h1 : top < 4294967296) : Ok (F_nsggen_Tape_Range t top) fun r => ROk top r.1 ∧ TOk r.2 := by
  unfold F_nsggen_Tape_Range
  refine Ok.bind (Number_ok ht h0 h1) fun r ⟨⟨h2, h3⟩, h4⟩ => Ok.bind (Number_ok h4 h0 h1) fun s ⟨⟨h5, h6⟩, h7⟩ => Ok.ret ⟨⟨?_, ?_, ?_⟩, h7⟩
  · show 0 ≤ iMin r.1 s.1
    unfold iMin; split <;> omega
  · show iMin r.1 s.1 ≤ iMax r.1 s.1
    unfold iMin iMax; split <;> split <;> omega
  · show iMax r.1 s.1 ≤ top
    unfold iMax; split <;> omega
/-- The prefixes that the generator knows. -/
def subnets : List api_Prefix := [⟨167772160, 24⟩, ⟨167772416, 24⟩, ⟨167772672, 25⟩, ⟨167772800, 26⟩, ⟨2886729728, 16⟩, ⟨3232237321, 32⟩]
theorem Subnet_ok {x : Int} : Ok (F_nsggen_Subnet x) fun p => p ∈ subnets := by
  unfold F_nsggen_Subnet
  refine Ok.bind (Mod_ok (by omega) (by omega)) fun r ⟨h0, h1⟩ => ?_
  exact Ok.bind (Ok.idx (p := fun p => p ∈ subnets) h0 (by simpa using h1) fun x hx => hx) fun x hx => Ok.ret hx
theorem Of_ok {p : api_Prefix} (hp : p ∈ subnets) : Ok (F_nsgref1_Of p) fun r => ROk 4294967295 r.1 := by
  simp only [subnets, List.mem_cons, List.not_mem_nil, or_false] at hp
  rcases hp with rfl | rfl | rfl | rfl | rfl | rfl
  · exact ⟨(⟨167772160, 167772415⟩, true), by kernel_rfl, by decide, by decide, by decide⟩
  · exact ⟨(⟨167772416, 167772671⟩, true), by kernel_rfl, by decide, by decide, by decide⟩
  · exact ⟨(⟨167772672, 167772799⟩, true), by kernel_rfl, by decide, by decide, by decide⟩
  · exact ⟨(⟨167772800, 167772863⟩, true), by kernel_rfl, by decide, by decide, by decide⟩
  · exact ⟨(⟨2886729728, 2886795263⟩, true), by kernel_rfl, by decide, by decide, by decide⟩
  · exact ⟨(⟨3232237321, 3232237321⟩, true), by kernel_rfl, by decide, by decide, by decide⟩
theorem Addr_ok {t : nsggen_Tape} (ht : TOk t) : Ok (F_nsggen_Tape_Addr t) fun r => (0 ≤ r.1 ∧ r.1 ≤ 4294967295) ∧ TOk r.2 := by
  unfold F_nsggen_Tape_Addr
  refine Ok.bind (Next_lt ht 5 (by omega) (by omega)) fun r ⟨⟨h2, h3⟩, h4⟩ => Ok.ite (fun _ => ?_) fun _ => ?_
  · refine Ok.bind (Next_lt h4 6 (by omega) (by omega)) fun r ⟨⟨h2, h3⟩, h4⟩ => ?_
    refine Ok.bind (Ok.idx (p := fun x => 0 ≤ x ∧ x ≤ 4294967295) h2 (by simpa using h3) fun x hx => ?_) fun x hx => Ok.ret ⟨hx, h4⟩
    simp only [List.mem_cons, List.not_mem_nil, or_false] at hx
    omega
  · refine Ok.bind (Next_lt h4 6 (by omega) (by omega)) fun r ⟨⟨h2, h3⟩, h4⟩ => Ok.bind Subnet_ok fun p hp => Ok.bind (Of_ok hp) fun q hq => ?_
    refine Ok.bind (Next_lt h4 5 (by omega) (by omega)) fun r ⟨⟨h2, h3⟩, h4⟩ => ?_
    refine Ok.bind (Ok.idx (p := fun x => 0 ≤ x ∧ x ≤ 4294967295) h2 (by simpa using h3) fun x hx => ?_) fun x hx => Ok.ret ⟨hx, h4⟩
    have g0 := hq.h0
    have g1 := hq.h1
    have g2 := hq.h2
    have w1 := wu32_range (q.1.Lo + 5)
    have w2 := wu32_range (q.1.Hi + 1)
    have w3 := wu32_range (q.1.Lo - 1)
    simp only [List.mem_cons, List.not_mem_nil, or_false] at hx
    omega
theorem addresses_ok {t : nsggen_Tape} (ht : TOk t) : Ok (F_nsggen_Tape_addresses t) fun r => ROk 4294967295 r.1 ∧ TOk r.2 := by
  unfold F_nsggen_Tape_addresses
  refine Ok.bind (Next_lt ht 4 (by omega) (by omega)) fun r ⟨⟨h2, h3⟩, h4⟩ => Ok.ite (fun _ => ?_) fun _ => Ok.ite (fun _ => ?_) fun _ => Ok.ite (fun _ => ?_) fun _ => ?_
  · exact Ok.bind (Next_lt h4 6 (by omega) (by omega)) fun r ⟨⟨h2, h3⟩, h4⟩ => Ok.bind Subnet_ok fun p hp => Ok.bind (Of_ok hp) fun q hq => Ok.ret ⟨hq, h4⟩
  · refine Ok.bind (Addr_ok h4) fun a ⟨⟨a1, a2⟩, a3⟩ => Ok.bind (Addr_ok a3) fun b ⟨⟨b1, b2⟩, b3⟩ => Ok.ret ⟨⟨?_, ?_, ?_⟩, b3⟩
    · show 0 ≤ iMin a.1 b.1
      unfold iMin; split <;> omega
    · show iMin a.1 b.1 ≤ iMax a.1 b.1
      unfold iMin iMax; split <;> split <;> omega
    · show iMax a.1 b.1 ≤ 4294967295
      unfold iMax; split <;> omega
  · exact Ok.bind (Addr_ok h4) fun a ⟨⟨a1, a2⟩, a3⟩ => Ok.ret ⟨⟨a1, Int.le_refl _, a2⟩, a3⟩
  · exact Ok.ret ⟨⟨Int.le_refl _, (by decide : (0 : Int) ≤ 4294967295), Int.le_refl _⟩, h4⟩
theorem Box_L1_ok : ∀ (n : Nat) (t : nsggen_Tape) (b : Arr5 api_Range) (i : Int), TOk t → BOk b → i ≤ n → 0 ≤ i → i < 100 → Ok (F_nsggen_Tape_Box_L1 (n + 1) t b i) fun r => TOk r.1 ∧ BOk r.2
  | 0, t, b, i, ht, hb, hi, h0, h9 => by
    rw [F_nsggen_Tape_Box_L1]
    exact Ok.ite (fun hc => absurd (of_decide_eq_true hc) (by omega)) fun _ => Ok.ret ⟨ht, hb⟩
  | n + 1, t, b, i, ht, hb, hi, h0, h9 => by
    rw [F_nsggen_Tape_Box_L1]
    refine Ok.ite (fun hc => ?_) fun _ => Ok.ret ⟨ht, hb⟩
    have hc := of_decide_eq_true hc
    refine Ok.bind (p := fun r => TOk r.1 ∧ BOk r.2) ?_ fun r ⟨h1, h2⟩ => ?_
    · refine Ok.bind (Next_lt ht 5 (by omega) (by omega)) fun r ⟨_, h4⟩ => Ok.ite (fun _ => ?_) fun _ => Ok.ite (fun _ => ?_) fun _ => Ok.ite (fun _ => ?_) fun _ => Ok.ite (fun _ => ?_) fun _ => ?_
      · exact Ok.bind (addresses_ok h4) fun q ⟨g1, g2⟩ => Ok.ret ⟨g2, ⟨g1, hb.h1, hb.h2, hb.h3, hb.h4⟩⟩
      · exact Ok.bind (addresses_ok h4) fun q ⟨g1, g2⟩ => Ok.ret ⟨g2, ⟨hb.h0, g1, hb.h2, hb.h3, hb.h4⟩⟩
      · refine Ok.bind (Next_lt h4 6 (by omega) (by omega)) fun r ⟨⟨h2, h3⟩, h4⟩ => ?_
        refine Ok.bind (Ok.idx (p := fun x => 0 ≤ x ∧ x ≤ 255) h2 (by simpa using h3) fun x hx => ?_) fun x hx => Ok.ret ⟨h4, ⟨hb.h0, hb.h1, ⟨hx.1, Int.le_refl _, hx.2⟩, hb.h3, hb.h4⟩⟩
        simp only [List.mem_cons, List.not_mem_nil, or_false] at hx
        omega
      · exact Ok.bind (Range_ok h4 (by omega) (by omega)) fun q ⟨g1, g2⟩ => Ok.ret ⟨g2, ⟨hb.h0, hb.h1, hb.h2, g1, hb.h4⟩⟩
      · exact Ok.bind (Range_ok h4 (by omega) (by omega)) fun q ⟨g1, g2⟩ => Ok.ret ⟨g2, ⟨hb.h0, hb.h1, hb.h2, hb.h3, g1⟩⟩
    · obtain ⟨r1, r2⟩ := r
      show Ok (F_nsggen_Tape_Box_L1 (n + 1) r1 r2 (IntKind.wrap .i64 (i - 1))) _
      rw [wi64 (by omega) (by omega)]
      exact Box_L1_ok n r1 r2 (i - 1) h1 h2 (by omega) (by omega) (by omega)
theorem Box_ok {t : nsggen_Tape} (ht : TOk t) : Ok (F_nsggen_Tape_Box t) fun r => BOk r.1 ∧ TOk r.2 := by
  unfold F_nsggen_Tape_Box
  rw [Full_eq]
  refine Ok.lift (Ok.bind (Next_lt ht 3 (by omega) (by omega)) fun r ⟨⟨h2, h3⟩, h4⟩ => ?_)
  have e : IntKind.wrap .i64 (1 + r.1) = 1 + r.1 := wi64 (by omega) (by omega)
  rw [e]
  refine Ok.bind (Box_L1_ok 1180591620717411303423 r.2 full (1 + r.1) h4 full_ok (by omega) (by omega) (by omega)) fun q ⟨g1, g2⟩ => ?_
  obtain ⟨q1, q2⟩ := q
  exact Ok.ret ⟨g2, g1⟩
theorem five {k : Int} (h0 : 0 ≤ k) (h1 : k < 5) : k = 0 ∨ k = 1 ∨ k = 2 ∨ k = 3 ∨ k = 4 := by omega
theorem wnext {k : Int} (h0 : 0 ≤ k) (h1 : k < 1000000) : IntKind.wrap .i64 (k + (1 : Int)) = k + 1 := wi64 (by omega) (by omega)
def sideBad (top : Int) (r : api_Range) : Bool := decide (r.Lo > r.Hi) || decide (r.Hi > top)
theorem tops_get {k : Int} (h0 : 0 ≤ k) (h1 : k < 5) : Arr5.get glob_box_tops k = topOf k := by
  rcases five h0 h1 with rfl | rfl | rfl | rfl | rfl <;> rfl
theorem vstep (b : Arr5 api_Range) (n : Nat) {k : Int} (h0 : 0 ≤ k) (h1 : k < 5) : F_box_Valid_L1 b (n + 1) k = if sideBad (topOf k) (b.get k) = true then some (.inr false) else F_box_Valid_L1 b n (k + 1) := by
  rw [F_box_Valid_L1, if_pos (decide_eq_true h1), if_pos ⟨h0, h1⟩, if_pos ⟨h0, h1⟩, tops_get h0 h1, wnext h0 (by omega)]
  unfold sideBad
  cases decide ((b.get k).Lo > (b.get k).Hi) <;> simp
theorem rvstep (b : Arr5 api_Range) (n : Nat) {k : Int} (h0 : 0 ≤ k) (h1 : k < 5) : F_nsgref3_Valid_L1 b (n + 1) k = if sideBad (topOf k) (b.get k) = true then some (.inr false) else F_nsgref3_Valid_L1 b n (k + 1) := by
  rw [F_nsgref3_Valid_L1, if_pos (decide_eq_true h1), if_pos ⟨h0, h1⟩, if_pos ⟨h0, h1⟩, if_pos ⟨h0, h1⟩, Top_eq k h0 h1, wnext h0 (by omega)]
  unfold sideBad
  cases decide ((b.get k).Lo > (b.get k).Hi) <;> simp
def vB (b : Arr5 api_Range) : Bool :=
  if sideBad 4294967295 b.x0 = true then false else if sideBad 4294967295 b.x1 = true then false else if sideBad 255 b.x2 = true then false else if sideBad 65535 b.x3 = true then false else if sideBad 65535 b.x4 = true then false else true
theorem Valid_eq (b : Arr5 api_Range) : F_box_Valid b = some (vB b) := by
  unfold F_box_Valid
  rw [fuel6]
  generalize (1180591620717411303418 : Nat) = m
  have s0 : F_box_Valid_L1 b (m + 6) 0 = if sideBad 4294967295 b.x0 = true then some (.inr false) else F_box_Valid_L1 b (m + 5) 1 := vstep b (m + 5) (by omega) (by omega)
  have s1 : F_box_Valid_L1 b (m + 5) 1 = if sideBad 4294967295 b.x1 = true then some (.inr false) else F_box_Valid_L1 b (m + 4) 2 := vstep b (m + 4) (by omega) (by omega)
  have s2 : F_box_Valid_L1 b (m + 4) 2 = if sideBad 255 b.x2 = true then some (.inr false) else F_box_Valid_L1 b (m + 3) 3 := vstep b (m + 3) (by omega) (by omega)
  have s3 : F_box_Valid_L1 b (m + 3) 3 = if sideBad 65535 b.x3 = true then some (.inr false) else F_box_Valid_L1 b (m + 2) 4 := vstep b (m + 2) (by omega) (by omega)
  have s4 : F_box_Valid_L1 b (m + 2) 4 = if sideBad 65535 b.x4 = true then some (.inr false) else F_box_Valid_L1 b (m + 1) 5 := vstep b (m + 1) (by omega) (by omega)
  have s5 : F_box_Valid_L1 b (m + 1) 5 = some (.inl ()) := by rw [F_box_Valid_L1]; rfl
  rw [s0, s1, s2, s3, s4, s5]
  unfold vB
  repeat' split
  all_goals first | rfl | (simp_all; done) | skip
theorem rValid_eq (b : Arr5 api_Range) : F_nsgref3_Valid b = some (vB b) := by
  unfold F_nsgref3_Valid
  rw [fuel6]
  generalize (1180591620717411303418 : Nat) = m
  have s0 : F_nsgref3_Valid_L1 b (m + 6) 0 = if sideBad 4294967295 b.x0 = true then some (.inr false) else F_nsgref3_Valid_L1 b (m + 5) 1 := rvstep b (m + 5) (by omega) (by omega)
  have s1 : F_nsgref3_Valid_L1 b (m + 5) 1 = if sideBad 4294967295 b.x1 = true then some (.inr false) else F_nsgref3_Valid_L1 b (m + 4) 2 := rvstep b (m + 4) (by omega) (by omega)
  have s2 : F_nsgref3_Valid_L1 b (m + 4) 2 = if sideBad 255 b.x2 = true then some (.inr false) else F_nsgref3_Valid_L1 b (m + 3) 3 := rvstep b (m + 3) (by omega) (by omega)
  have s3 : F_nsgref3_Valid_L1 b (m + 3) 3 = if sideBad 65535 b.x3 = true then some (.inr false) else F_nsgref3_Valid_L1 b (m + 2) 4 := rvstep b (m + 2) (by omega) (by omega)
  have s4 : F_nsgref3_Valid_L1 b (m + 2) 4 = if sideBad 65535 b.x4 = true then some (.inr false) else F_nsgref3_Valid_L1 b (m + 1) 5 := rvstep b (m + 1) (by omega) (by omega)
  have s5 : F_nsgref3_Valid_L1 b (m + 1) 5 = some (.inl ()) := by rw [F_nsgref3_Valid_L1]; rfl
  rw [s0, s1, s2, s3, s4, s5]
  unfold vB
  repeat' split
  all_goals first | rfl | (simp_all; done) | skip
theorem vB_ok {b : Arr5 api_Range} (hb : BIn b) (h : vB b = true) : BOk b := by
  unfold vB sideBad at h
  simp only [Bool.or_eq_true, decide_eq_true_eq] at h
  split at h; · cases h
  split at h; · cases h
  split at h; · cases h
  split at h; · cases h
  split at h; · cases h
  exact ⟨⟨hb.h0.h0, by omega, by omega⟩, ⟨hb.h1.h0, by omega, by omega⟩, ⟨hb.h2.h0, by omega, by omega⟩, ⟨hb.h3.h0, by omega, by omega⟩, ⟨hb.h4.h0, by omega, by omega⟩⟩
theorem ok_vB {b : Arr5 api_Range} (h : BOk b) : vB b = true := by
  obtain ⟨⟨_, a1, a2⟩, ⟨_, b1, b2⟩, ⟨_, c1, c2⟩, ⟨_, d1, d2⟩, ⟨_, e1, e2⟩⟩ := h
  unfold vB sideBad
  simp only [Bool.or_eq_true, decide_eq_true_eq]
  rw [if_neg (by omega), if_neg (by omega), if_neg (by omega), if_neg (by omega), if_neg (by omega)]

/-! ### Blocks of a box -/
theorem BIn.get {b : Arr5 api_Range} (h : BIn b) (k : Int) : RIn (b.get k) := by
  unfold Arr5.get
  split
  · exact h.h0
  split
  · exact h.h1
  split
  · exact h.h2
  split
  · exact h.h3
  · exact h.h4
theorem BIn.set {b : Arr5 api_Range} (h : BIn b) {r : api_Range} (hr : RIn r) (k : Int) : BIn (b.set k r) := by
  unfold Arr5.set
  split
  · exact ⟨hr, h.h1, h.h2, h.h3, h.h4⟩
  split
  · exact ⟨h.h0, hr, h.h2, h.h3, h.h4⟩
  split
  · exact ⟨h.h0, h.h1, hr, h.h3, h.h4⟩
  split
  · exact ⟨h.h0, h.h1, h.h2, hr, h.h4⟩
  · exact ⟨h.h0, h.h1, h.h2, h.h3, hr⟩
theorem BIn.setHi {b : Arr5 api_Range} (h : BIn b) {v : Int} (h0 : 0 ≤ v) (h1 : v < 4294967296) (k : Int) : BIn (b.set k { (b.get k) with Hi := v }) := by
  have hg := h.get k
  generalize b.get k = r at hg ⊢
  exact BIn.set h (r := ⟨r.Lo, v⟩) (RIn.mk hg.h0 hg.h1 h0 h1) k
theorem BIn.setLo {b : Arr5 api_Range} (h : BIn b) {v : Int} (h0 : 0 ≤ v) (h1 : v < 4294967296) (k : Int) : BIn (b.set k { (b.get k) with Lo := v }) := by
  have hg := h.get k
  generalize b.get k = r at hg ⊢
  exact BIn.set h (r := ⟨v, r.Hi⟩) (RIn.mk h0 h1 hg.h2 hg.h3) k
theorem SpoilBox_ok {t : nsggen_Tape} (ht : TOk t) {b : Arr5 api_Range} (hb : BIn b) : Ok (F_nsggen_Tape_SpoilBox t b) fun r => BIn r.1 ∧ TOk r.2 := by
  unfold F_nsggen_Tape_SpoilBox
  refine Ok.bind (Next_lt ht 5 (by omega) (by omega)) fun r1 ⟨⟨h2, h3⟩, h4⟩ => ?_
  refine Ok.bind (p := fun o => TOk o.1 ∧ BIn o.2) ?_ fun o ⟨g1, g2⟩ => Ok.ret ⟨g2, g1⟩
  refine Ok.bind (Next_lt h4 3 (by omega) (by omega)) fun r20 ⟨_, h6⟩ => ?_
  have hk : 0 ≤ r1.1 ∧ r1.1 < 5 := ⟨h2, h3⟩
  have hg := hb.get r1.1
  refine Ok.ite (fun _ => ?_) fun _ => Ok.ite (fun _ => ?_) fun _ => ?_
  · refine Ok.chk hk (Ok.chk hk (Ok.chk hk (Ok.chk hk (Ok.ret ⟨h6, ?_⟩))))
    exact (hb.setLo hg.h2 hg.h3 _).setHi hg.h0 hg.h1 _
  · exact Ok.chk hk (Ok.ret ⟨h6, hb.setHi (by decide) (by decide) _⟩)
  · exact Ok.chk hk (Ok.ret ⟨h6, hb.set ⟨by decide, by decide, by decide, by decide⟩ _⟩)

/-- What the generator says of a box of a list. -/
def GB (wild : Bool) (b : Arr5 api_Range) : Prop := BIn b ∧ (wild = false → BOk b)
theorem Boxes_L1_ok (wild : Bool) : ∀ (n : Nat) (t : nsggen_Tape) (l : List (Arr5 api_Range)) (i : Int), TOk t → (∀ x ∈ l, GB wild x) → i ≤ n → 0 ≤ i → i < 100 → (l.length : Int) + i < 1000 →
    Ok (F_nsggen_Tape_Boxes_L1 wild (n + 1) t l i) fun r => TOk r.1 ∧ (∀ x ∈ r.2, GB wild x) ∧ (r.2.length : Int) = l.length + i
  | 0, t, l, i, ht, hl, hi, h0, h9, hlen => by
    rw [F_nsggen_Tape_Boxes_L1]
    exact Ok.ite (fun hc => absurd (of_decide_eq_true hc) (by omega)) fun _ => Ok.ret ⟨ht, hl, by show (l.length : Int) = _; omega⟩
  | n + 1, t, l, i, ht, hl, hi, h0, h9, hlen => by
    rw [F_nsggen_Tape_Boxes_L1]
    refine Ok.ite (fun hc => ?_) fun hc => Ok.ret ⟨ht, hl, by simp at hc; show (l.length : Int) = _; omega⟩
    have hc := of_decide_eq_true hc
    refine Ok.bind (p := fun r => TOk r.1 ∧ (∀ x ∈ r.2, GB wild x) ∧ r.2.length = l.length + 1) ?_ fun r ⟨h1, h2, h3⟩ => ?_
    · refine Ok.bind (Box_ok ht) fun q ⟨g1, g2⟩ => ?_
      refine Ok.bind (p := fun o => TOk o.1 ∧ GB wild o.2) ?_ fun o ⟨k1, k2⟩ => ?_
      · refine Ok.lift ?_
        refine Ok.bind (p := fun v => TOk v.2 ∧ (v.1 = true → wild = true)) ?_ fun v ⟨k1, k2⟩ => ?_
        · refine Ok.ite (fun hw => ?_) fun _ => Ok.ret ⟨g2, fun h => by cases h⟩
          exact Ok.bind (Next_lt g2 8 (by omega) (by omega)) fun r190 ⟨_, h6⟩ => Ok.ret ⟨h6, fun _ => hw⟩
        · refine Ok.ite (fun hv => ?_) fun _ => Ok.ret ⟨k1, g1.bin, fun _ => g1⟩
          refine Ok.bind (SpoilBox_ok k1 g1.bin) fun r196 ⟨m1, m2⟩ => Ok.ret ⟨m2, m1, fun hw => ?_⟩
          rw [k2 hv] at hw; cases hw
      · obtain ⟨o1, o2⟩ := o
        refine Ok.chk (by simp only [List.length_singleton]; unfold lim; omega) (Ok.ret ⟨k1, fun x hx => ?_, by simp⟩)
        rcases List.mem_append.1 hx with hx | hx
        · exact hl x hx
        · simp only [List.mem_singleton] at hx; subst hx; exact k2
    · obtain ⟨r1, r2⟩ := r
      simp only at h1 h2 h3
      show Ok (F_nsggen_Tape_Boxes_L1 wild (n + 1) r1 r2 (IntKind.wrap .i64 (i - 1))) _
      rw [wi64 (by omega) (by omega)]
      refine (Boxes_L1_ok wild n r1 r2 (i - 1) h1 h2 (by omega) (by omega) (by omega) (by omega)).mono fun v ⟨e1, e2, e3⟩ => ⟨e1, e2, ?_⟩
      omega
theorem Boxes_ok (wild : Bool) {t : nsggen_Tape} (ht : TOk t) {n : Int} (h0 : 0 ≤ n) (h1 : n < 90) : Ok (F_nsggen_Tape_Boxes t n wild) fun r => (∀ x ∈ r.1, GB wild x) ∧ (r.1.length : Int) ≤ n ∧ TOk r.2 := by
  unfold F_nsggen_Tape_Boxes
  rw [wi64 (x := n + 1) (by omega) (by omega)]
  refine Ok.bind (Next_lt ht (n + 1) (by omega) (by omega)) fun r ⟨⟨h2, h3⟩, h4⟩ => ?_
  refine Ok.bind (Boxes_L1_ok wild 1180591620717411303423 r.2 [] r.1 h4 (by simp) (by omega) h2 (by omega) (by simp; omega)) fun q ⟨g1, g2, g3⟩ => ?_
  obtain ⟨q1, q2⟩ := q
  refine Ok.ret ⟨g2, ?_, g1⟩
  simp at g3
  show (q2.length : Int) ≤ n
  omega
theorem fuel_cut (m : Nat) (h : m ≤ 1000000000000) : ∃ n, fuel = n + m + 1 := ⟨fuel - m - 1, by unfold fuel; omega⟩
theorem ok_RIn {r : api_Range} (h : ok_api_Range r) : RIn r := ⟨h.1.1, h.1.2, h.2.1.1, h.2.1.2⟩
theorem ok_BIn {b : Arr5 api_Range} (h : ok_a5_api_Range b) : BIn b := ⟨ok_RIn h.1, ok_RIn h.2.1, ok_RIn h.2.2.1, ok_RIn h.2.2.2.1, ok_RIn h.2.2.2.2.1⟩
theorem ok_tape {t : List Int} (h : ok_s_i64 t) : (t.length : Int) < 9223372036854775808 := by have := h.1; omega
end Go.AM

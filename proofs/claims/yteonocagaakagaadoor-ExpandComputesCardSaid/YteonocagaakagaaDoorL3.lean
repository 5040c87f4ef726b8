/- Plain laws: the generators come to something, and to what is in range. No condition. -/
import Derived.Test.YteonocagaakagaaDoorL2
set_option maxRecDepth 100000
namespace Go.AM
open Go

/-! ### Ranges -/
structure ROk (top : Int) (r : api_Range) : Prop where
  h0 : 0 ≤ r.Lo
  h1 : r.Lo ≤ r.Hi
  h2 : r.Hi ≤ top
structure RIn (r : api_Range) : Prop where
  h0 : 0 ≤ r.Lo
  h1 : r.Lo < 4294967296
  h2 : 0 ≤ r.Hi
  h3 : r.Hi < 4294967296
theorem ROk.rin {top : Int} {r : api_Range} (h : ROk top r) (ht : top < 4294967296) : RIn r := ⟨h.h0, by have := h.h1; have := h.h2; omega, by have := h.h0; have := h.h1; omega, by have := h.h2; omega⟩
structure BOk (b : Arr5 api_Range) : Prop where
  h0 : ROk 4294967295 b.x0
  h1 : ROk 4294967295 b.x1
  h2 : ROk 255 b.x2
  h3 : ROk 65535 b.x3
  h4 : ROk 65535 b.x4
structure BIn (b : Arr5 api_Range) : Prop where
  h0 : RIn b.x0
  h1 : RIn b.x1
  h2 : RIn b.x2
  h3 : RIn b.x3
  h4 : RIn b.x4
theorem BOk.bin {b : Arr5 api_Range} (h : BOk b) : BIn b := ⟨h.h0.rin (by omega), h.h1.rin (by omega), h.h2.rin (by omega), h.h3.rin (by omega), h.h4.rin (by omega)⟩
theorem full_ok : BOk full := ⟨⟨by decide, by decide, by decide⟩, ⟨by decide, by decide, by decide⟩, ⟨by decide, by decide, by decide⟩, ⟨by decide, by decide, by decide⟩, ⟨by decide, by decide, by decide⟩⟩

def topOf (i : Int) : Int := if i = 0 then 4294967295 else if i = 1 then 4294967295 else if i = 2 then 255 else 65535
theorem Top_eq (f : Int) (h0 : 0 ≤ f) (h1 : f < 5) : F_nsgref3_Top f = some (topOf f) := by
  have hk : f = 0 ∨ f = 1 ∨ f = 2 ∨ f = 3 ∨ f = 4 := by omega
  rcases hk with rfl | rfl | rfl | rfl | rfl <;> rfl

theorem fuel6 : fuel = 1180591620717411303418 + 6 := by kernel_rfl

/-! ### Generators -/
theorem Number_ok {t : nsggen_Tape} (ht : TOk t) {top : Int} (h0 : 0 ≤ top) (h1 : top < 4294967296) : Ok (F_nsggen_Tape_Number t top) fun r => (0 ≤ r.1 ∧ r.1 ≤ top) ∧ TOk r.2 := by
  unfold F_nsggen_Tape_Number
  refine Ok.bind (Next_lt ht 17 (by omega) (by omega)) fun r ⟨⟨h2, h3⟩, h4⟩ => ?_
  have hw := wu32_range (Int.tdiv top 2)
  have hw2 := wu32_range (top - 1)
  refine Ok.bind (Ok.idx (p := fun x => 0 ≤ x) h2 (by simpa using h3) fun x hx => ?_) fun x hx => Ok.ret ⟨⟨?_, ?_⟩, h4⟩
  · simp only [List.mem_cons, List.not_mem_nil, or_false] at hx
    omega
  · show 0 ≤ iMin x top
    unfold iMin; split <;> omega
  · show iMin x top ≤ top
    unfold iMin; split <;> omega
theorem Range_ok {t : nsggen_Tape} (ht : TOk t) {top : Int} (h0 : 0 ≤ top) (h1 : top < 4294967296) : Ok (F_nsggen_Tape_Range t top) fun r => ROk top r.1 ∧ TOk r.2 := by
  unfold F_nsggen_Tape_Range
  refine Ok.bind (Number_ok ht h0 h1) fun r ⟨⟨h2, h3⟩, h4⟩ => Ok.bind (Number_ok h4 h0 h1) fun s ⟨⟨h5, h6⟩, h7⟩ => Ok.ret ⟨⟨?_, ?_, ?_⟩, h7⟩
  · show 0 ≤ iMin r.1 s.1
    unfold iMin; split <;> omega
  · show iMin r.1 s.1 ≤ iMax r.1 s.1
    unfold iMin iMax; split <;> split <;> omega
  · show iMax r.1 s.1 ≤ top
    unfold iMax; split <;> omega
/-- The prefixes that the generator knows. -/
def subnets : List api_Prefix := [⟨167772160, 24⟩, ⟨167772416, 24⟩, ⟨167772672, 25⟩, ⟨167772800, 26⟩, ⟨2886729728, 16⟩, ⟨3232237321, 32⟩]
theorem Subnet_ok {x : Int} : Ok (F_nsggen_Subnet x) fun p => p ∈ subnets := by
  unfold F_nsggen_Subnet
  refine Ok.bind (Mod_ok (by omega) (by omega)) fun r ⟨h0, h1⟩ => ?_
  exact Ok.bind (Ok.idx (p := fun p => p ∈ subnets) h0 (by simpa using h1) fun x hx => hx) fun x hx => Ok.ret hx
theorem Of_ok {p : api_Prefix} (hp : p ∈ subnets) : Ok (F_nsgref1_Of p) fun r => ROk 4294967295 r.1 := by
  simp only [subnets, List.mem_cons, List.not_mem_nil, or_false] at hp
  rcases hp with rfl | rfl | rfl | rfl | rfl | rfl
  · exact ⟨(⟨167772160, 167772415⟩, true), by kernel_rfl, by decide, by decide, by decide⟩
  · exact ⟨(⟨167772416, 167772671⟩, true), by kernel_rfl, by decide, by decide, by decide⟩
  · exact ⟨(⟨167772672, 167772799⟩, true), by kernel_rfl, by decide, by decide, by decide⟩
  · exact ⟨(⟨167772800, 167772863⟩, true), by kernel_rfl, by decide, by decide, by decide⟩
  · exact ⟨(⟨2886729728, 2886795263⟩, true), by kernel_rfl, by decide, by decide, by decide⟩
  · exact ⟨(⟨3232237321, 3232237321⟩, true), by kernel_rfl, by decide, by decide, by decide⟩
theorem Addr_ok {t : nsggen_Tape} (ht : TOk t) : Ok (F_nsggen_Tape_Addr t) fun r => (0 ≤ r.1 ∧ r.1 ≤ 4294967295) ∧ TOk r.2 := by
  unfold F_nsggen_Tape_Addr
  refine Ok.bind (Next_lt ht 5 (by omega) (by omega)) fun r ⟨⟨h2, h3⟩, h4⟩ => Ok.ite (fun _ => ?_) fun _ => ?_
  · refine Ok.bind (Next_lt h4 6 (by omega) (by omega)) fun r ⟨⟨h2, h3⟩, h4⟩ => ?_
    refine Ok.bind (Ok.idx (p := fun x => 0 ≤ x ∧ x ≤ 4294967295) h2 (by simpa using h3) fun x hx => ?_) fun x hx => Ok.ret ⟨hx, h4⟩
    simp only [List.mem_cons, List.not_mem_nil, or_false] at hx
    omega
  · refine Ok.bind (Next_lt h4 6 (by omega) (by omega)) fun r ⟨⟨h2, h3⟩, h4⟩ => Ok.bind Subnet_ok fun p hp => Ok.bind (Of_ok hp) fun q hq => ?_
    refine Ok.bind (Next_lt h4 5 (by omega) (by omega)) fun r ⟨⟨h2, h3⟩, h4⟩ => ?_
    refine Ok.bind (Ok.idx (p := fun x => 0 ≤ x ∧ x ≤ 4294967295) h2 (by simpa using h3) fun x hx => ?_) fun x hx => Ok.ret ⟨hx, h4⟩
    have g0 := hq.h0
    have g1 := hq.h1
    have g2 := hq.h2
    have w1 := wu32_range (q.1.Lo + 5)
    have w2 := wu32_range (q.1.Hi + 1)
    have w3 := wu32_range (q.1.Lo - 1)
    simp only [List.mem_cons, List.not_mem_nil, or_false] at hx
    omega
theorem addresses_ok {t : nsggen_Tape} (ht : TOk t) : Ok (F_nsggen_Tape_addresses t) fun r => ROk 4294967295 r.1 ∧ TOk r.2 := by
  unfold F_nsggen_Tape_addresses
  refine Ok.bind (Next_lt ht 4 (by omega) (by omega)) fun r ⟨⟨h2, h3⟩, h4⟩ => Ok.ite (fun _ => ?_) fun _ => Ok.ite (fun _ => ?_) fun _ => Ok.ite (fun _ => ?_) fun _ => ?_
  · exact Ok.bind (Next_lt h4 6 (by omega) (by omega)) fun r ⟨⟨h2, h3⟩, h4⟩ => Ok.bind Subnet_ok fun p hp => Ok.bind (Of_ok hp) fun q hq => Ok.ret ⟨hq, h4⟩
  · refine Ok.bind (Addr_ok h4) fun a ⟨⟨a1, a2⟩, a3⟩ => Ok.bind (Addr_ok a3) fun b ⟨⟨b1, b2⟩, b3⟩ => Ok.ret ⟨⟨?_, ?_, ?_⟩, b3⟩
    · show 0 ≤ iMin a.1 b.1
      unfold iMin; split <;> omega
    · show iMin a.1 b.1 ≤ iMax a.1 b.1
      unfold iMin iMax; split <;> split <;> omega
    · show iMax a.1 b.1 ≤ 4294967295
      unfold iMax; split <;> omega
  · exact Ok.bind (Addr_ok h4) fun a ⟨⟨a1, a2⟩, a3⟩ => Ok.ret ⟨⟨a1, Int.le_refl _, a2⟩, a3⟩
  · exact Ok.ret ⟨⟨Int.le_refl _, (by decide : (0 : Int) ≤ 4294967295), Int.le_refl _⟩, h4⟩
theorem Box_L1_ok : ∀ (n : Nat) (t : nsggen_Tape) (b : Arr5 api_Range) (i : Int), TOk t → BOk b → i ≤ n → 0 ≤ i → i < 100 → Ok (F_nsggen_Tape_Box_L1 (n + 1) t b i) fun r => TOk r.1 ∧ BOk r.2
  | 0, t, b, i, ht, hb, hi, h0, h9 => by
    rw [F_nsggen_Tape_Box_L1]
    exact Ok.ite (fun hc => absurd (of_decide_eq_true hc) (by omega)) fun _ => Ok.ret ⟨ht, hb⟩
  | n + 1, t, b, i, ht, hb, hi, h0, h9 => by
    rw [F_nsggen_Tape_Box_L1]
    refine Ok.ite (fun hc => ?_) fun _ => Ok.ret ⟨ht, hb⟩
    have hc := of_decide_eq_true hc
    refine Ok.bind (p := fun r => TOk r.1 ∧ BOk r.2) ?_ fun r ⟨h1, h2⟩ => ?_
    · refine Ok.bind (Next_lt ht 5 (by omega) (by omega)) fun r ⟨_, h4⟩ => Ok.ite (fun _ => ?_) fun _ => Ok.ite (fun _ => ?_) fun _ => Ok.ite (fun _ => ?_) fun _ => Ok.ite (fun _ => ?_) fun _ => ?_
      · exact Ok.bind (addresses_ok h4) fun q ⟨g1, g2⟩ => Ok.ret ⟨g2, ⟨g1, hb.h1, hb.h2, hb.h3, hb.h4⟩⟩
      · exact Ok.bind (addresses_ok h4) fun q ⟨g1, g2⟩ => Ok.ret ⟨g2, ⟨hb.h0, g1, hb.h2, hb.h3, hb.h4⟩⟩
      · refine Ok.bind (Next_lt h4 6 (by omega) (by omega)) fun r ⟨⟨h2, h3⟩, h4⟩ => ?_
        refine Ok.bind (Ok.idx (p := fun x => 0 ≤ x ∧ x ≤ 255) h2 (by simpa using h3) fun x hx => ?_) fun x hx => Ok.ret ⟨h4, ⟨hb.h0, hb.h1, ⟨hx.1, Int.le_refl _, hx.2⟩, hb.h3, hb.h4⟩⟩
        simp only [List.mem_cons, List.not_mem_nil, or_false] at hx
        omega
      · exact Ok.bind (Range_ok h4 (by omega) (by omega)) fun q ⟨g1, g2⟩ => Ok.ret ⟨g2, ⟨hb.h0, hb.h1, hb.h2, g1, hb.h4⟩⟩
      · exact Ok.bind (Range_ok h4 (by omega) (by omega)) fun q ⟨g1, g2⟩ => Ok.ret ⟨g2, ⟨hb.h0, hb.h1, hb.h2, hb.h3, g1⟩⟩
    · obtain ⟨r1, r2⟩ := r
      show Ok (F_nsggen_Tape_Box_L1 (n + 1) r1 r2 (IntKind.wrap .i64 (i - 1))) _
      rw [wi64 (by omega) (by omega)]
      exact Box_L1_ok n r1 r2 (i - 1) h1 h2 (by omega) (by omega) (by omega)
theorem Box_ok {t : nsggen_Tape} (ht : TOk t) : Ok (F_nsggen_Tape_Box t) fun r => BOk r.1 ∧ TOk r.2 := by
  unfold F_nsggen_Tape_Box
  rw [Full_eq]
  refine Ok.lift (Ok.bind (Next_lt ht 3 (by omega) (by omega)) fun r ⟨⟨h2, h3⟩, h4⟩ => ?_)
  have e : IntKind.wrap .i64 (1 + r.1) = 1 + r.1 := wi64 (by omega) (by omega)
  rw [e]
  refine Ok.bind (Box_L1_ok 1180591620717411303423 r.2 full (1 + r.1) h4 full_ok (by omega) (by omega) (by omega)) fun q ⟨g1, g2⟩ => ?_
  obtain ⟨q1, q2⟩ := q
  exact Ok.ret ⟨g2, g1⟩
end Go.AM

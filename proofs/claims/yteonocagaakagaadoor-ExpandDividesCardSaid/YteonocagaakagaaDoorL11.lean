/- Plain laws: the entries divide the box; ExpandDivides. No condition. -/
import Derived.Test.YteonocagaakagaaDoorL10
set_option maxRecDepth 100000
namespace Go.AM
open Go

/-! ### The blocks of a range -/
theorem gb_mem {e : Nat} (he : e ≤ 4294967296) : ∀ (m a : Nat), e - a = m → ∀ s ∈ gb a e, ∃ c j, a ≤ c ∧ c % 2 ^ j = 0 ∧ c + 2 ^ j ≤ e ∧ s = ⟨(c : Int), ((c + 2 ^ j - 1 : Nat) : Int)⟩
  | m, a, hm, s, hs => by
    by_cases h : a < e
    · have hg := gx_spec h he
      have hp := gx_pos a e
      rw [gb_cons h] at hs
      rcases List.mem_cons.1 hs with rfl | hs
      · exact ⟨a, gx a e, Nat.le_refl _, hg.fits.1, hg.fits.2, rfl⟩
      · obtain ⟨c, j, h1, h2, h3, h4⟩ := gb_mem he (e - (a + 2 ^ gx a e)) _ rfl s hs
        exact ⟨c, j, by omega, h2, h3, h4⟩
    · rw [gb_nil h] at hs; cases hs
  termination_by m => m
theorem gb_asc {e : Nat} (he : e ≤ 4294967296) : ∀ (m a : Nat), e - a = m → (gb a e).Pairwise fun s t => s.Lo < t.Lo
  | m, a, hm => by
    by_cases h : a < e
    · have hp := gx_pos a e
      rw [gb_cons h, List.pairwise_cons]
      refine ⟨fun t ht => ?_, gb_asc he (e - (a + 2 ^ gx a e)) _ rfl⟩
      obtain ⟨c, j, h1, _, _, rfl⟩ := gb_mem he _ _ rfl t ht
      show (a : Int) < (c : Int)
      omega
    · rw [gb_nil h]; exact .nil
  termination_by m => m
def inR (v : Int) (r : api_Range) : Bool := decide (r.Lo ≤ v) && decide (v ≤ r.Hi)
theorem gb_count {e v : Nat} (he : e ≤ 4294967296) : ∀ (m a : Nat), a ≤ e → e - a = m → (gb a e).countP (inR v) = if a ≤ v ∧ v < e then 1 else 0
  | m, a, ha, hm => by
    by_cases h : a < e
    · have hg := gx_spec h he
      have hp := gx_pos a e
      have h2 := hg.fits.2
      rw [gb_cons h, List.countP_cons, gb_count he (e - (a + 2 ^ gx a e)) _ h2 rfl]
      have : inR (v : Int) ⟨(a : Int), ((a + 2 ^ gx a e - 1 : Nat) : Int)⟩ = decide (a ≤ v ∧ v < a + 2 ^ gx a e) := by
        unfold inR
        rw [Bool.eq_iff_iff]
        simp only [Bool.and_eq_true, decide_eq_true_eq]
        omega
      rw [this]
      generalize 2 ^ gx a e = p at *
      by_cases h3 : a ≤ v ∧ v < a + p
      · rw [if_pos (decide_eq_true h3), if_neg (by omega), if_pos (by omega)]
      · simp only [decide_eq_false h3, Bool.false_eq_true, if_false, Nat.add_zero]
        by_cases h4 : a + p ≤ v ∧ v < e
        · rw [if_pos h4, if_pos (by omega)]
        · rw [if_neg h4, if_neg (by omega)]
    · rw [gb_nil h, if_neg (by omega)]; rfl
  termination_by m => m
theorem bl_count {r : api_Range} {top v : Int} (hr : ROk top r) (ht : top < 4294967296) (hv : 0 ≤ v) : (bl r).countP (inR v) = if inR v r = true then 1 else 0 := by
  have g0 := hr.h0
  have g1 := hr.h1
  have g2 := hr.h2
  have := gb_count (e := r.Hi.toNat + 1) (v := v.toNat) (by omega) _ r.Lo.toNat (by omega) rfl
  rw [show ((v.toNat : Nat) : Int) = v by omega] at this
  unfold bl
  rw [this]
  have e : inR v r = decide (r.Lo.toNat ≤ v.toNat ∧ v.toNat < r.Hi.toNat + 1) := by
    unfold inR
    rw [Bool.eq_iff_iff]
    simp only [Bool.and_eq_true, decide_eq_true_eq]
    omega
  rw [e]
  simp only [decide_eq_true_eq]
theorem bl_mem {r s : api_Range} {top : Int} (hr : ROk top r) (ht : top < 4294967296) (hs : s ∈ bl r) : ROk top s ∧ (bl s).length = 1 := by
  have g0 := hr.h0
  have g1 := hr.h1
  have g2 := hr.h2
  obtain ⟨c, j, h1, h2, h3, rfl⟩ := gb_mem (e := r.Hi.toNat + 1) (by omega) _ _ rfl s hs
  have hp : 1 ≤ 2 ^ j := Nat.one_le_two_pow
  refine ⟨⟨Int.natCast_nonneg _, by show (c : Int) ≤ ((c + 2 ^ j - 1 : Nat) : Int); omega, by show ((c + 2 ^ j - 1 : Nat) : Int) ≤ top; omega⟩, ?_⟩
  unfold bl
  show (gb ((c : Int)).toNat (((c + 2 ^ j - 1 : Nat) : Int).toNat + 1)).length = 1
  rw [show ((c : Int)).toNat = c by omega, show ((c + 2 ^ j - 1 : Nat) : Int).toNat + 1 = c + 2 ^ j by omega]
  have hg : IsG c (c + 2 ^ j) j := ⟨⟨h2, Nat.le_refl _⟩, fun hf => by have := hf.2; rw [Nat.pow_succ] at this; omega⟩
  have hu := hg.uniq (gx_spec (by omega) (by omega))
  rw [gb_cons (by omega), ← hu, gb_nil (by omega)]; rfl
theorem bl_asc {r : api_Range} {top : Int} (hr : ROk top r) (ht : top < 4294967296) : (bl r).Pairwise fun s t => s.Lo < t.Lo := by
  have g0 := hr.h0
  have g2 := hr.h2
  have g1 := hr.h1
  exact gb_asc (by omega) _ _ rfl

/-! ### The entries -/
theorem pr_mem {l : Arr5 (List api_Range)} {e : Arr5 api_Range} (h : e ∈ pr l) : e.x0 ∈ l.x0 ∧ e.x1 ∈ l.x1 ∧ e.x2 ∈ l.x2 ∧ e.x3 ∈ l.x3 ∧ e.x4 ∈ l.x4 := by
  unfold pr at h
  simp only [List.mem_flatMap, List.mem_singleton] at h
  obtain ⟨x, h0, y, h1, z, h2, u, h3, v, h4, rfl⟩ := h
  exact ⟨h0, h1, h2, h3, h4⟩
theorem pr_ok {b e : Arr5 api_Range} (hb : BOk b) (h : e ∈ pr (bls b)) : BOk e ∧ cnt e = 1 := by
  obtain ⟨h0, h1, h2, h3, h4⟩ := pr_mem h
  obtain ⟨a0, b0⟩ := bl_mem hb.h0 (by omega) h0
  obtain ⟨a1, b1⟩ := bl_mem hb.h1 (by omega) h1
  obtain ⟨a2, b2⟩ := bl_mem hb.h2 (by omega) h2
  obtain ⟨a3, b3⟩ := bl_mem hb.h3 (by omega) h3
  obtain ⟨a4, b4⟩ := bl_mem hb.h4 (by omega) h4
  exact ⟨⟨a0, a1, a2, a3, a4⟩, by unfold cnt; rw [b0, b1, b2, b3, b4]⟩
def ltB (a b : Arr5 api_Range) : Prop :=
  a.x0.Lo < b.x0.Lo ∨ a.x0 = b.x0 ∧ (a.x1.Lo < b.x1.Lo ∨ a.x1 = b.x1 ∧ (a.x2.Lo < b.x2.Lo ∨ a.x2 = b.x2 ∧ (a.x3.Lo < b.x3.Lo ∨ a.x3 = b.x3 ∧ a.x4.Lo < b.x4.Lo)))
theorem pr_asc {b : Arr5 api_Range} (hb : BOk b) : (pr (bls b)).Pairwise ltB := by
  unfold pr
  refine List.pairwise_flatMap.2 ⟨fun x _ => List.pairwise_flatMap.2 ⟨fun y _ => List.pairwise_flatMap.2 ⟨fun z _ => List.pairwise_flatMap.2 ⟨fun u _ => List.pairwise_flatMap.2 ⟨fun v _ => ?_, ?_⟩, ?_⟩, ?_⟩, ?_⟩, ?_⟩
  · exact List.pairwise_singleton _ _
  · refine (bl_asc hb.h4 (by omega)).imp fun {s t} h => ?_
    intro p hp q hq
    simp only [List.mem_singleton] at hp hq
    subst hp hq
    exact .inr ⟨rfl, .inr ⟨rfl, .inr ⟨rfl, .inr ⟨rfl, h⟩⟩⟩⟩
  · refine (bl_asc hb.h3 (by omega)).imp fun {s t} h => ?_
    intro p hp q hq
    simp only [List.mem_flatMap, List.mem_singleton] at hp hq
    obtain ⟨_, _, rfl⟩ := hp
    obtain ⟨_, _, rfl⟩ := hq
    exact .inr ⟨rfl, .inr ⟨rfl, .inr ⟨rfl, .inl h⟩⟩⟩
  · refine (bl_asc hb.h2 (by omega)).imp fun {s t} h => ?_
    intro p hp q hq
    simp only [List.mem_flatMap, List.mem_singleton] at hp hq
    obtain ⟨_, _, _, _, rfl⟩ := hp
    obtain ⟨_, _, _, _, rfl⟩ := hq
    exact .inr ⟨rfl, .inr ⟨rfl, .inl h⟩⟩
  · refine (bl_asc hb.h1 (by omega)).imp fun {s t} h => ?_
    intro p hp q hq
    simp only [List.mem_flatMap, List.mem_singleton] at hp hq
    obtain ⟨_, _, _, _, _, _, rfl⟩ := hp
    obtain ⟨_, _, _, _, _, _, rfl⟩ := hq
    exact .inr ⟨rfl, .inl h⟩
  · refine (bl_asc hb.h0 (by omega)).imp fun {s t} h => ?_
    intro p hp q hq
    simp only [List.mem_flatMap, List.mem_singleton] at hp hq
    obtain ⟨_, _, _, _, _, _, _, _, rfl⟩ := hp
    obtain ⟨_, _, _, _, _, _, _, _, rfl⟩ := hq
    exact .inl h

/-- A box contains a header. -/
def cin (h : api_Header) (b : Arr5 api_Range) : Bool := inR h.Src b.x0 && (inR h.Dst b.x1 && (inR h.Proto b.x2 && (inR h.SrcPort b.x3 && inR h.DstPort b.x4)))
theorem count_level {α β : Type} (p : β → Bool) (c : α → Bool) (g : α → List β) (F : Bool) (k : Nat) (l : List α) (h : ∀ x ∈ l, (g x).countP p = if F = true ∧ c x = true then k else 0) : (l.flatMap g).countP p = if F = true then l.countP c * k else 0 := by
  induction l with
  | nil => simp
  | cons x l ih =>
    rw [List.flatMap_cons, List.countP_append, h x (by simp), ih fun y hy => h y (by simp [hy]), List.countP_cons]
    cases F <;> cases c x <;> simp [Nat.add_mul]; omega
theorem pr_count (l : Arr5 (List api_Range)) (h : api_Header) : (pr l).countP (cin h) = l.x0.countP (inR h.Src) * (l.x1.countP (inR h.Dst) * (l.x2.countP (inR h.Proto) * (l.x3.countP (inR h.SrcPort) * l.x4.countP (inR h.DstPort)))) := by
  unfold pr
  rw [count_level (cin h) (inR h.Src) _ true (l.x1.countP (inR h.Dst) * (l.x2.countP (inR h.Proto) * (l.x3.countP (inR h.SrcPort) * l.x4.countP (inR h.DstPort)))) l.x0, if_pos rfl]
  intro x _
  rw [count_level (cin h) (inR h.Dst) _ (inR h.Src x) (l.x2.countP (inR h.Proto) * (l.x3.countP (inR h.SrcPort) * l.x4.countP (inR h.DstPort))) l.x1]
  · simp
  intro y _
  rw [count_level (cin h) (inR h.Proto) _ (inR h.Src x && inR h.Dst y) (l.x3.countP (inR h.SrcPort) * l.x4.countP (inR h.DstPort)) l.x2]
  · simp
  intro z _
  rw [count_level (cin h) (inR h.SrcPort) _ (inR h.Src x && inR h.Dst y && inR h.Proto z) (l.x4.countP (inR h.DstPort)) l.x3]
  · simp
  intro u _
  rw [count_level (cin h) (inR h.DstPort) _ (inR h.Src x && inR h.Dst y && inR h.Proto z && inR h.SrcPort u) 1 l.x4]
  · simp
  intro v _
  rw [List.countP_cons, List.countP_nil]
  simp [cin, and_assoc]
theorem bls_count {b : Arr5 api_Range} (hb : BOk b) {h : api_Header} (hh : ok_api_Header h) : (pr (bls b)).countP (cin h) = if cin h b = true then 1 else 0 := by
  obtain ⟨a0, a1, a2, a3, a4, _⟩ := hh
  rw [pr_count]
  unfold bls
  rw [bl_count hb.h0 (by omega) a0.1, bl_count hb.h1 (by omega) a1.1, bl_count hb.h2 (by omega) a2.1, bl_count hb.h3 (by omega) a3.1, bl_count hb.h4 (by omega) a4.1]
  unfold cin
  cases inR h.Src b.x0 <;> cases inR h.Dst b.x1 <;> cases inR h.Proto b.x2 <;> cases inR h.SrcPort b.x3 <;> cases inR h.DstPort b.x4 <;> rfl

/-! ### The reference's functions -/
def pt (h : api_Header) : Arr5 Int := ⟨h.Src, h.Dst, h.Proto, h.SrcPort, h.DstPort⟩
theorem Point_eq {h : api_Header} (hh : ok_api_Header h) : F_nsgref3_Point h = some (pt h) := by
  obtain ⟨a0, a1, a2, a3, a4, _⟩ := hh
  unfold ok_u8 at a2; unfold ok_u16 at a3 a4
  unfold F_nsgref3_Point pt
  rw [wu32 (x := h.Proto) (by omega) (by omega), wu32 (x := h.SrcPort) (by omega) (by omega), wu32 (x := h.DstPort) (by omega) (by omega)]
theorem inR_neg (v : Int) (r : api_Range) : inR v r = (!decide (v < r.Lo) && !decide (v > r.Hi)) := by
  unfold inR
  rw [Bool.eq_iff_iff]
  simp
theorem cstep (b : Arr5 api_Range) (p : Arr5 Int) (n : Nat) {k : Int} (h0 : 0 ≤ k) (h1 : k < 5) : F_nsgref3_Contains_L1 b p (n + 1) k = if inR (p.get k) (b.get k) = true then F_nsgref3_Contains_L1 b p n (k + 1) else some (.inr false) := by
  rw [F_nsgref3_Contains_L1, if_pos (decide_eq_true h1), if_pos ⟨h0, h1⟩, if_pos ⟨h0, h1⟩, if_pos ⟨h0, h1⟩, if_pos ⟨h0, h1⟩, wnext h0 (by omega), inR_neg]
  cases decide (p.get k < (b.get k).Lo) <;> cases decide (p.get k > (b.get k).Hi) <;> simp
theorem Contains_eq {b : Arr5 api_Range} {h : api_Header} (hh : ok_api_Header h) : F_nsgref3_Contains b h = some (cin h b && vB b) := by
  unfold F_nsgref3_Contains
  rw [Point_eq hh, fuel6]
  generalize (1180591620717411303418 : Nat) = m
  simp only [Option.bind_some]
  rw [show cin h b = (inR ((pt h).get 0) (b.get 0) && (inR ((pt h).get 1) (b.get 1) && (inR ((pt h).get 2) (b.get 2) && (inR ((pt h).get 3) (b.get 3) && inR ((pt h).get 4) (b.get 4))))) from rfl]
  rw [cstep b _ (m + 5) (by omega) (by omega), show (0 : Int) + 1 = 1 from rfl, cstep b _ (m + 4) (by omega) (by omega), show (1 : Int) + 1 = 2 from rfl, cstep b _ (m + 3) (by omega) (by omega), show (2 : Int) + 1 = 3 from rfl, cstep b _ (m + 2) (by omega) (by omega), show (3 : Int) + 1 = 4 from rfl,
    cstep b _ (m + 1) (by omega) (by omega), show (4 : Int) + 1 = 5 from rfl, show F_nsgref3_Contains_L1 b (pt h) (m + 1) 5 = some (.inl ()) by rw [F_nsgref3_Contains_L1, if_neg (by decide)], rValid_eq]
  cases inR ((pt h).get 0) (b.get 0) <;> cases inR ((pt h).get 1) (b.get 1) <;> cases inR ((pt h).get 2) (b.get 2) <;> cases inR ((pt h).get 3) (b.get 3) <;> cases inR ((pt h).get 4) (b.get 4) <;> rfl
theorem cmp_lt (a b : Arr5 api_Range) (n : Nat) {k : Int} (h0 : 0 ≤ k) (h1 : k < 5) (h : (a.get k).Lo < (b.get k).Lo) : F_nsgref3_Compare_L1 a b (n + 1) k = some (.inr (-1)) := by
  rw [F_nsgref3_Compare_L1, if_pos (decide_eq_true h1), if_pos ⟨h0, h1⟩, if_pos ⟨h0, h1⟩, if_pos (by simp; omega), if_pos ⟨h0, h1⟩, if_pos ⟨h0, h1⟩]
  unfold F_nsgref3_order
  rw [if_pos (decide_eq_true h)]; rfl
theorem cmp_eq (a b : Arr5 api_Range) (n : Nat) {k k' : Int} (h0 : 0 ≤ k) (h1 : k < 5) (hk : k + 1 = k') (h : a.get k = b.get k) : F_nsgref3_Compare_L1 a b (n + 1) k = F_nsgref3_Compare_L1 a b n k' := by
  rw [F_nsgref3_Compare_L1, if_pos (decide_eq_true h1), if_pos ⟨h0, h1⟩, if_pos ⟨h0, h1⟩, if_neg (by rw [h]; simp), if_pos ⟨h0, h1⟩, if_pos ⟨h0, h1⟩, if_neg (by rw [h]; simp), wnext h0 (by omega), hk]
theorem Compare_lt {a b : Arr5 api_Range} (h : ltB a b) : F_nsgref3_Compare a b = some (-1) := by
  unfold F_nsgref3_Compare
  rw [fuel6]
  generalize (1180591620717411303418 : Nat) = m
  have e : F_nsgref3_Compare_L1 a b (m + 6) 0 = some (.inr (-1)) := by
    rcases h with h | ⟨g0, h | ⟨g1, h | ⟨g2, h | ⟨g3, h⟩⟩⟩⟩
    · exact cmp_lt a b (m + 5) (k := 0) (by omega) (by omega) h
    · rw [cmp_eq a b (m + 5) (k := 0) (k' := 1) (by omega) (by omega) rfl g0]; exact cmp_lt a b (m + 4) (k := 1) (by omega) (by omega) h
    · rw [cmp_eq a b (m + 5) (k := 0) (k' := 1) (by omega) (by omega) rfl g0, cmp_eq a b (m + 4) (k := 1) (k' := 2) (by omega) (by omega) rfl g1]; exact cmp_lt a b (m + 3) (k := 2) (by omega) (by omega) h
    · rw [cmp_eq a b (m + 5) (k := 0) (k' := 1) (by omega) (by omega) rfl g0, cmp_eq a b (m + 4) (k := 1) (k' := 2) (by omega) (by omega) rfl g1, cmp_eq a b (m + 3) (k := 2) (k' := 3) (by omega) (by omega) rfl g2]; exact cmp_lt a b (m + 2) (k := 3) (by omega) (by omega) h
    · rw [cmp_eq a b (m + 5) (k := 0) (k' := 1) (by omega) (by omega) rfl g0, cmp_eq a b (m + 4) (k := 1) (k' := 2) (by omega) (by omega) rfl g1, cmp_eq a b (m + 3) (k := 2) (k' := 3) (by omega) (by omega) rfl g2, cmp_eq a b (m + 2) (k := 3) (k' := 4) (by omega) (by omega) rfl g3]; exact cmp_lt a b (m + 1) (k := 4) (by omega) (by omega) h
  rw [e]; rfl

/-! ### Headers of the generator -/
def AIn (a : Arr5 Int) : Prop := ok_u32 a.x0 ∧ ok_u32 a.x1 ∧ ok_u32 a.x2 ∧ ok_u32 a.x3 ∧ ok_u32 a.x4
theorem AIn.set {a : Arr5 Int} (h : AIn a) {v : Int} (hv : ok_u32 v) (k : Int) : AIn (a.set k v) := by
  obtain ⟨h0, h1, h2, h3, h4⟩ := h
  unfold Arr5.set
  split
  · exact ⟨hv, h1, h2, h3, h4⟩
  split
  · exact ⟨h0, hv, h2, h3, h4⟩
  split
  · exact ⟨h0, h1, hv, h3, h4⟩
  split
  · exact ⟨h0, h1, h2, hv, h4⟩
  · exact ⟨h0, h1, h2, h3, hv⟩
theorem AIn.get {a : Arr5 Int} (h : AIn a) (k : Int) : ok_u32 (a.get k) := by
  obtain ⟨h0, h1, h2, h3, h4⟩ := h
  unfold Arr5.get
  split
  · exact h0
  split
  · exact h1
  split
  · exact h2
  split
  · exact h3
  · exact h4
theorem Header_ok {t : nsggen_Tape} (ht : TOk t) : Ok (F_nsggen_Tape_Header t) fun r => ok_api_Header r.1 ∧ TOk r.2 := by
  unfold F_nsggen_Tape_Header
  refine Ok.bind (Addr_ok ht) fun a ⟨⟨a1, a2⟩, a3⟩ => Ok.bind (Addr_ok a3) fun b ⟨⟨b1, b2⟩, b3⟩ => Ok.bind (Next_lt b3 6 (by omega) (by omega)) fun r ⟨⟨h2, h3⟩, h4⟩ => ?_
  refine Ok.bind (Ok.idx (p := ok_u8) h2 (by simpa using h3) fun x hx => ?_) fun x hx => ?_
  · simp only [List.mem_cons, List.not_mem_nil, or_false] at hx
    unfold ok_u8; omega
  · exact Ok.bind (Number_ok h4 (by omega) (by omega)) fun c ⟨_, c3⟩ => Ok.bind (Number_ok c3 (by omega) (by omega)) fun d ⟨_, d3⟩ => Ok.ret ⟨⟨⟨a1, by show a.1 < _; omega⟩, ⟨b1, by show b.1 < _; omega⟩, hx, wu16_range _, wu16_range _, trivial⟩, d3⟩
theorem Near_L1_ok {b : Arr5 api_Range} (hb : BIn b) : ∀ (m n : Nat) (t : nsggen_Tape) (a : Arr5 Int) (i : Int), TOk t → AIn a → i + m = 5 → 0 ≤ i → Ok (F_nsggen_Tape_Near_L1 b (n + m + 1) t a i) fun r => TOk r.1 ∧ AIn r.2
  | 0, n, t, a, i, ht, ha, hi, h0 => by
    rw [F_nsggen_Tape_Near_L1, if_neg (by simp; omega)]
    exact Ok.ret ⟨ht, ha⟩
  | m + 1, n, t, a, i, ht, ha, hi, h0 => by
    rw [F_nsggen_Tape_Near_L1, if_pos (decide_eq_true (by omega))]
    have hk : 0 ≤ i ∧ i < 5 := ⟨h0, by omega⟩
    have hg := hb.get i
    refine Ok.chk hk (Ok.chk hk (Ok.chk hk (Ok.chk hk (Ok.chk hk (Ok.chk hk (Ok.chk hk ?_))))))
    refine Ok.bind (Next_lt ht 5 (by omega) (by omega)) fun r ⟨⟨h2, h3⟩, h4⟩ => ?_
    refine Ok.bind (Ok.idx (p := ok_u32) h2 (by simpa using h3) fun x hx => ?_) fun x hx => Ok.chk hk (Ok.chk hk ?_)
    · simp only [List.mem_cons, List.not_mem_nil, or_false] at hx
      rcases hx with rfl | rfl | rfl | rfl | rfl
      · exact ⟨hg.h0, hg.h1⟩
      · exact ⟨hg.h2, hg.h3⟩
      · exact wu32_range _
      · exact wu32_range _
      · exact wu32_range _
    · rw [Top_eq i h0 (by omega)]
      have ht := topOf_lt i
      refine Ok.lift (Ok.chk hk ?_)
      rw [wnext h0 (by omega), show n + (m + 1) = n + m + 1 by omega]
      refine Near_L1_ok hb m n r.2 _ (i + 1) h4 ?_ (by omega) (by omega)
      refine (ha.set hx i).set ?_ i
      have := (ha.set hx i).get i
      unfold ok_u32 at *
      unfold iMin
      split <;> omega
theorem Near_ok {t : nsggen_Tape} (ht : TOk t) {l : List (Arr5 api_Range)} (hl : ∀ b ∈ l, BIn b) (hlen : l.length < 1000000000) : Ok (F_nsggen_Tape_Near t l) fun r => ok_api_Header r.1 ∧ TOk r.2 := by
  unfold F_nsggen_Tape_Near
  refine Ok.lift (Ok.bind (p := fun v => TOk v.2 ∧ (v.1 = false → l ≠ [])) ?_ fun v ⟨hv, hv2⟩ => Ok.ite (fun _ => Ok.bind (Header_ok hv) fun r h => Ok.ret h) fun hf => ?_)
  · refine Ok.ite (fun _ => Ok.ret ⟨ht, fun h => by cases h⟩) fun hn => Ok.bind (Next_lt ht 4 (by omega) (by omega)) fun r ⟨_, h4⟩ => Ok.ret ⟨h4, fun _ he => ?_⟩
    subst he; exact hn rfl
  · have hne := hv2 (by simpa using hf)
    have : 0 < l.length := List.length_pos_iff.2 hne
    refine Ok.bind (Next_lt hv (l.length : Int) (by omega) (by omega)) fun r ⟨⟨h2, h3⟩, h4⟩ => Ok.bind (Ok.idx (p := BIn) h2 h3 hl) fun b hb => ?_
    obtain ⟨f, hf⟩ := fuel_cut 5 (by omega)
    rw [hf]
    refine Ok.bind (Near_L1_ok hb 5 f r.2 z_a5_u32 0 h4 (by unfold AIn ok_u32; decide) (by omega) (by omega)) fun o ⟨g1, g2⟩ => ?_
    obtain ⟨o1, o2⟩ := o
    obtain ⟨k0, k1, _⟩ := g2
    exact Ok.ret ⟨⟨k0, k1, wu8_range _, wu16_range _, wu16_range _, trivial⟩, g1⟩

/-! ### The law -/
theorem Div_L2 (a1 : api_Header) (r5 : List (Arr5 api_Range) × Int) (r26 r28 : api_Header × nsggen_Tape) (j : Nat) (h : api_Header) (hh : ok_api_Header h) (hj : [a1, r26.1, r28.1][j]? = some h) (hl : r5.1.length < 1000000000) (hv : ∀ e ∈ r5.1, vB e = true) : ∀ (m n c i : Nat), i + m = r5.1.length → c ≤ i →
    F_nsglaw7_ExpandDivides_L2 a1 r5 r26 r28 (j : Int) (n + m + 1) (c : Int) (i : Int) = some ((c + (r5.1.drop i).countP (cin h) : Nat) : Int)
  | 0, n, c, i, hi, hc => by
    rw [F_nsglaw7_ExpandDivides_L2, if_neg (by simp; omega), List.drop_eq_nil_of_le (by omega)]; rfl
  | m + 1, n, c, i, hi, hc => by
    have hlt : i < r5.1.length := by omega
    rw [F_nsglaw7_ExpandDivides_L2, if_pos (decide_eq_true (by omega)), idx_get hlt, idx_some hj]
    simp only [Option.bind_some]
    rw [Contains_eq hh, hv _ (List.getElem_mem hlt), List.drop_eq_getElem_cons hlt, List.countP_cons]
    simp only [Option.bind_some, Bool.and_true]
    cases cin h r5.1[i] with
    | true =>
      simp only [if_true, Option.bind_some]
      rw [wnx (by omega), wnx (by omega), show n + (m + 1) = n + m + 1 by omega, Div_L2 a1 r5 r26 r28 j h hh hj hl hv m n (c + 1) (i + 1) (by omega) (by omega)]
      congr 2; omega
    | false =>
      simp only [Bool.false_eq_true, if_false, Option.bind_some]
      rw [wnx (by omega), show n + (m + 1) = n + m + 1 by omega, Div_L2 a1 r5 r26 r28 j h hh hj hl hv m n c (i + 1) (by omega) (by omega)]
      rfl
theorem Div_L1 {a1 : api_Header} {r3 : Arr5 api_Range × nsggen_Tape} {r26 r28 : api_Header × nsggen_Tape} (hb : BOk r3.1) (hc : cnt r3.1 ≤ 4096) (h1 : ok_api_Header a1) (h2 : ok_api_Header r26.1) (h3 : ok_api_Header r28.1) : ∀ (m n i : Nat), i + m = 3 →
    F_nsglaw7_ExpandDivides_L1 a1 r3 (pr (bls r3.1), 0) r26 r28 (n + m + 1) (i : Int) = some (.inl ())
  | 0, n, i, hi => by
    rw [F_nsglaw7_ExpandDivides_L1, if_neg (by simp; omega)]
  | m + 1, n, i, hi => by
    have hlt : i < [a1, r26.1, r28.1].length := by simp; omega
    have hlen : (pr (bls r3.1)).length < 1000000000 := by rw [pr_cnt]; omega
    rw [F_nsglaw7_ExpandDivides_L1, if_pos (decide_eq_true (by omega))]
    have hok : ok_api_Header [a1, r26.1, r28.1][i] := by
      have hm := List.getElem_mem hlt
      generalize [a1, r26.1, r28.1][i] = x at hm
      simp only [List.mem_cons, List.not_mem_nil, or_false] at hm
      rcases hm with rfl | rfl | rfl
      · exact h1
      · exact h2
      · exact h3
    have hj := List.getElem?_eq_getElem hlt
    obtain ⟨f, hf⟩ := fuel_cut (pr (bls r3.1)).length (by omega)
    have e1 : F_nsglaw7_ExpandDivides_L2 a1 (pr (bls r3.1), 0) r26 r28 (i : Int) fuel (0 : Int) (0 : Int) = some ((0 + ((pr (bls r3.1)).drop 0).countP (cin [a1, r26.1, r28.1][i]) : Nat) : Int) := by
      rw [hf]
      exact Div_L2 a1 (pr (bls r3.1), 0) r26 r28 i _ hok hj hlen (fun e he => ok_vB (pr_ok hb he).1) (pr (bls r3.1)).length f 0 0 (by simp) (by omega)
    rw [e1, idx_get hlt]
    simp only [Option.bind_some, List.drop_zero, Nat.zero_add]
    rw [bls_count hb hok, Contains_eq hok, ok_vB hb]
    have e2 : F_nsglaw7_ExpandDivides_L1 a1 r3 (pr (bls r3.1), 0) r26 r28 (n + (m + 1)) (IntKind.wrap .i64 ((i : Int) + 1)) = some (.inl ()) := by
      rw [wnx (by omega), show n + (m + 1) = n + m + 1 by omega]
      exact Div_L1 hb hc h1 h2 h3 m n (i + 1) (by omega)
    cases cin [a1, r26.1, r28.1][i] r3.1 with
    | true => simp; exact e2
    | false => simp; exact e2
theorem Div_L3 {b : Arr5 api_Range} (hb : BOk b) (hc : cnt b ≤ 4096) : ∀ (m n i : Nat), i + m = (pr (bls b)).length → F_nsglaw7_ExpandDivides_L3 (pr (bls b), 0) (n + m + 1) (i : Int) = some (.inl ())
  | 0, n, i, hi => by
    rw [F_nsglaw7_ExpandDivides_L3, if_neg (by simp; omega)]
  | m + 1, n, i, hi => by
    have hlt : i < (pr (bls b)).length := by omega
    have hlen : (pr (bls b)).length < 1000000000 := by rw [pr_cnt]; omega
    obtain ⟨h1, h2⟩ := pr_ok hb (List.getElem_mem hlt)
    have ha : F_expand_Aligned (pr (bls b))[i] = some true := by unfold F_expand_Aligned; rw [Cost_eq h1.bin, cost_ok h1, h2]; rfl
    have e2 : F_nsglaw7_ExpandDivides_L3 (pr (bls b), 0) (n + (m + 1)) (IntKind.wrap .i64 ((i : Int) + 1)) = some (.inl ()) := by
      rw [wnx (by omega), show n + (m + 1) = n + m + 1 by omega]
      exact Div_L3 hb hc m n (i + 1) (by omega)
    rw [F_nsglaw7_ExpandDivides_L3, if_pos (decide_eq_true (by show (i : Int) < ((pr (bls b)).length : Int); omega)), idx_get hlt]
    simp only [Option.bind_some]
    rw [ha, e2]
    simp only [Option.bind_some, Bool.not_true, Bool.false_eq_true, if_false]
    by_cases hi0 : i = 0
    · subst hi0; rfl
    · obtain ⟨k, rfl⟩ : ∃ k, i = k + 1 := ⟨i - 1, by omega⟩
      have hk : k < (pr (bls b)).length := by omega
      have hlt2 := List.pairwise_iff_getElem.1 (pr_asc hb) k (k + 1) hk hlt (by omega)
      rw [show decide (((k + 1 : Nat) : Int) > 0) = true from decide_eq_true (by omega), if_pos rfl, show (((k + 1 : Nat) : Int) - 1) = (k : Int) by omega, wi64 (x := (k : Int)) (by omega) (by omega), idx_get hk]
      simp only [Option.bind_some]
      rw [Compare_lt hlt2]; rfl
theorem ExpandDivides_law {t : List Int} {h : api_Header} (ht : (t.length : Int) < 9223372036854775808) (hh : ok_api_Header h) : F_nsglaw7_ExpandDivides t h = some true := by
  refine Ok.eq (r := true) ?_
  unfold F_nsglaw7_ExpandDivides
  refine Ok.bind (New_ok ht) fun t ht => Ok.bind (Box_ok ht) fun r3 ⟨hb, h3⟩ => ?_
  rw [Entries_eq hb.bin, Cost_eq hb.bin, cost_ok hb]
  simp only [Option.bind_some]
  have he : ents r3.1 = if cnt r3.1 ≤ 4096 then (pr (bls r3.1), 0) else ([], 3) := by unfold ents; rw [if_pos (ok_vB hb)]
  by_cases hc : cnt r3.1 ≤ 4096
  · rw [he, if_pos hc]
    simp only [bne_self_eq_false, Bool.false_eq_true, if_false]
    rw [if_neg (by rw [pr_cnt]; simp)]
    refine Ok.bind (Near_ok h3 (fun b hm => by simp only [List.mem_singleton] at hm; subst hm; exact hb.bin) (by simp)) fun r26 ⟨g1, g2⟩ => ?_
    refine Ok.bind (Near_ok g2 (fun b hm => (pr_ok hb hm).1.bin) (by rw [pr_cnt]; omega)) fun r28 ⟨g3, g4⟩ => ?_
    obtain ⟨f, hf⟩ := fuel_cut 3 (by omega)
    have e1 : F_nsglaw7_ExpandDivides_L1 h r3 (pr (bls r3.1), 0) r26 r28 fuel 0 = some (.inl ()) := by
      rw [hf]
      exact Div_L1 hb hc hh g1 g3 3 f 0 (by omega)
    rw [e1]
    simp only [Option.bind_some]
    obtain ⟨f2, hf2⟩ := fuel_cut (pr (bls r3.1)).length (by rw [pr_cnt]; omega)
    have e2 : F_nsglaw7_ExpandDivides_L3 (pr (bls r3.1), 0) fuel 0 = some (.inl ()) := by
      rw [hf2]
      exact Div_L3 hb hc (pr (bls r3.1)).length f2 0 (by omega)
    rw [e2]
    show Ok (F_nsglaw7_sane.bind _) _
    rw [sane7_eq]; exact Ok.ret rfl
  · rw [he, if_neg hc, sane7_eq, show decide ((cnt r3.1 : Int) > 4096) = true from decide_eq_true (by omega)]
    exact Ok.ret rfl
theorem ExpandDivides_card {t : List Int} {h : api_Header} (ht : ok_s_i64 t) (hh : ok_api_Header h) : F_nsglaw7_ExpandDivides t h = some true := ExpandDivides_law (ok_tape ht) hh
end Go.AM

/- Plain laws: spoiled boxes, lists of boxes, tables; ExpandSums. No condition. -/
import Derived.Test.YteonocagaakagaaDoorL7
set_option maxRecDepth 100000
namespace Go.AM
open Go

theorem BIn.get {b : Arr5 api_Range} (h : BIn b) (k : Int) : RIn (b.get k) := by
  unfold Arr5.get
  split
  · exact h.h0
  split
  · exact h.h1
  split
  · exact h.h2
  split
  · exact h.h3
  · exact h.h4
theorem BIn.set {b : Arr5 api_Range} (h : BIn b) {r : api_Range} (hr : RIn r) (k : Int) : BIn (b.set k r) := by
  unfold Arr5.set
  split
  · exact ⟨hr, h.h1, h.h2, h.h3, h.h4⟩
  split
  · exact ⟨h.h0, hr, h.h2, h.h3, h.h4⟩
  split
  · exact ⟨h.h0, h.h1, hr, h.h3, h.h4⟩
  split
  · exact ⟨h.h0, h.h1, h.h2, hr, h.h4⟩
  · exact ⟨h.h0, h.h1, h.h2, h.h3, hr⟩
theorem BIn.setHi {b : Arr5 api_Range} (h : BIn b) {v : Int} (h0 : 0 ≤ v) (h1 : v < 4294967296) (k : Int) : BIn (b.set k { (b.get k) with Hi := v }) := by
  have hg := h.get k
  generalize b.get k = r at hg ⊢
  exact BIn.set h (r := ⟨r.Lo, v⟩) (RIn.mk hg.h0 hg.h1 h0 h1) k
theorem BIn.setLo {b : Arr5 api_Range} (h : BIn b) {v : Int} (h0 : 0 ≤ v) (h1 : v < 4294967296) (k : Int) : BIn (b.set k { (b.get k) with Lo := v }) := by
  have hg := h.get k
  generalize b.get k = r at hg ⊢
  exact BIn.set h (r := ⟨v, r.Hi⟩) (RIn.mk h0 h1 hg.h2 hg.h3) k
theorem SpoilBox_ok {t : nsggen_Tape} (ht : TOk t) {b : Arr5 api_Range} (hb : BIn b) : Ok (F_nsggen_Tape_SpoilBox t b) fun r => BIn r.1 ∧ TOk r.2 := by
  unfold F_nsggen_Tape_SpoilBox
  refine Ok.bind (Next_lt ht 5 (by omega) (by omega)) fun r1 ⟨⟨h2, h3⟩, h4⟩ => ?_
  refine Ok.bind (p := fun o => TOk o.1 ∧ BIn o.2) ?_ fun o ⟨g1, g2⟩ => Ok.ret ⟨g2, g1⟩
  refine Ok.bind (Next_lt h4 3 (by omega) (by omega)) fun r20 ⟨_, h6⟩ => ?_
  have hk : 0 ≤ r1.1 ∧ r1.1 < 5 := ⟨h2, h3⟩
  have hg := hb.get r1.1
  refine Ok.ite (fun _ => ?_) fun _ => Ok.ite (fun _ => ?_) fun _ => ?_
  · refine Ok.chk hk (Ok.chk hk (Ok.chk hk (Ok.chk hk (Ok.ret ⟨h6, ?_⟩))))
    exact (hb.setLo hg.h2 hg.h3 _).setHi hg.h0 hg.h1 _
  · exact Ok.chk hk (Ok.ret ⟨h6, hb.setHi (by decide) (by decide) _⟩)
  · exact Ok.chk hk (Ok.ret ⟨h6, hb.set ⟨by decide, by decide, by decide, by decide⟩ _⟩)

/-- What the generator says of a box of a list. -/
def GB (wild : Bool) (b : Arr5 api_Range) : Prop := BIn b ∧ (wild = false → BOk b)
theorem Boxes_L1_ok (wild : Bool) : ∀ (n : Nat) (t : nsggen_Tape) (l : List (Arr5 api_Range)) (i : Int), TOk t → (∀ x ∈ l, GB wild x) → i ≤ n → 0 ≤ i → i < 100 → (l.length : Int) + i < 1000 →
    Ok (F_nsggen_Tape_Boxes_L1 wild (n + 1) t l i) fun r => TOk r.1 ∧ (∀ x ∈ r.2, GB wild x) ∧ (r.2.length : Int) = l.length + i
  | 0, t, l, i, ht, hl, hi, h0, h9, hlen => by
    rw [F_nsggen_Tape_Boxes_L1]
    exact Ok.ite (fun hc => absurd (of_decide_eq_true hc) (by omega)) fun _ => Ok.ret ⟨ht, hl, by show (l.length : Int) = _; omega⟩
  | n + 1, t, l, i, ht, hl, hi, h0, h9, hlen => by
    rw [F_nsggen_Tape_Boxes_L1]
    refine Ok.ite (fun hc => ?_) fun hc => Ok.ret ⟨ht, hl, by simp at hc; show (l.length : Int) = _; omega⟩
    have hc := of_decide_eq_true hc
    refine Ok.bind (p := fun r => TOk r.1 ∧ (∀ x ∈ r.2, GB wild x) ∧ r.2.length = l.length + 1) ?_ fun r ⟨h1, h2, h3⟩ => ?_
    · refine Ok.bind (Box_ok ht) fun q ⟨g1, g2⟩ => ?_
      refine Ok.bind (p := fun o => TOk o.1 ∧ GB wild o.2) ?_ fun o ⟨k1, k2⟩ => ?_
      · refine Ok.lift ?_
        refine Ok.bind (p := fun v => TOk v.2 ∧ (v.1 = true → wild = true)) ?_ fun v ⟨k1, k2⟩ => ?_
        · refine Ok.ite (fun hw => ?_) fun _ => Ok.ret ⟨g2, fun h => by cases h⟩
          exact Ok.bind (Next_lt g2 8 (by omega) (by omega)) fun r190 ⟨_, h6⟩ => Ok.ret ⟨h6, fun _ => hw⟩
        · refine Ok.ite (fun hv => ?_) fun _ => Ok.ret ⟨k1, g1.bin, fun _ => g1⟩
          refine Ok.bind (SpoilBox_ok k1 g1.bin) fun r196 ⟨m1, m2⟩ => Ok.ret ⟨m2, m1, fun hw => ?_⟩
          rw [k2 hv] at hw; cases hw
      · obtain ⟨o1, o2⟩ := o
        refine Ok.chk (by simp only [List.length_singleton]; unfold lim; omega) (Ok.ret ⟨k1, fun x hx => ?_, by simp⟩)
        rcases List.mem_append.1 hx with hx | hx
        · exact hl x hx
        · simp only [List.mem_singleton] at hx; subst hx; exact k2
    · obtain ⟨r1, r2⟩ := r
      simp only at h1 h2 h3
      show Ok (F_nsggen_Tape_Boxes_L1 wild (n + 1) r1 r2 (IntKind.wrap .i64 (i - 1))) _
      rw [wi64 (by omega) (by omega)]
      refine (Boxes_L1_ok wild n r1 r2 (i - 1) h1 h2 (by omega) (by omega) (by omega) (by omega)).mono fun v ⟨e1, e2, e3⟩ => ⟨e1, e2, ?_⟩
      omega
theorem Boxes_ok (wild : Bool) {t : nsggen_Tape} (ht : TOk t) {n : Int} (h0 : 0 ≤ n) (h1 : n < 90) : Ok (F_nsggen_Tape_Boxes t n wild) fun r => (∀ x ∈ r.1, GB wild x) ∧ (r.1.length : Int) ≤ n ∧ TOk r.2 := by
  unfold F_nsggen_Tape_Boxes
  rw [wi64 (x := n + 1) (by omega) (by omega)]
  refine Ok.bind (Next_lt ht (n + 1) (by omega) (by omega)) fun r ⟨⟨h2, h3⟩, h4⟩ => ?_
  refine Ok.bind (Boxes_L1_ok wild 1180591620717411303423 r.2 [] r.1 h4 (by simp) (by omega) h2 (by omega) (by simp; omega)) fun q ⟨g1, g2, g3⟩ => ?_
  obtain ⟨q1, q2⟩ := q
  refine Ok.ret ⟨g2, ?_, g1⟩
  simp at g3
  show (q2.length : Int) ≤ n
  omega
theorem Table_L1_ok (r1 : List (Arr5 api_Range) × nsggen_Tape) (hin : ∀ x ∈ r1.1, BIn x) (hlen : r1.1.length < 1000) : ∀ (m n : Nat) (t : nsggen_Tape) (l : List api_Rule) (i : Nat), i + m = r1.1.length → TOk t → (∀ x ∈ l, BIn x.Match) → l.length = i →
    Ok (F_nsggen_Tape_Table_L1 r1 (n + m + 1) t l (i : Int)) fun r => TOk r.1 ∧ (∀ x ∈ r.2, BIn x.Match) ∧ r.2.length = r1.1.length
  | 0, n, t, l, i, hi, ht, hl, hli => by
    rw [F_nsggen_Tape_Table_L1]
    exact Ok.ite (fun hc => absurd (of_decide_eq_true hc) (by omega)) fun _ => Ok.ret ⟨ht, hl, by show l.length = _; omega⟩
  | m + 1, n, t, l, i, hi, ht, hl, hli => by
    rw [F_nsggen_Tape_Table_L1]
    refine Ok.ite (fun _ => ?_) fun hc => absurd (decide_eq_true (by omega)) hc
    refine Ok.bind (Ok.idx (p := BIn) (by omega) (by omega) hin) fun x hx => ?_
    refine Ok.bind (Next_lt ht 3 (by omega) (by omega)) fun r ⟨_, h4⟩ => ?_
    refine Ok.chk (by simp only [List.length_singleton]; unfold lim; omega) ?_
    rw [wnext (by omega) (by omega), show ((i : Int) + 1) = ((i + 1 : Nat) : Int) by omega, show n + (m + 1) = n + m + 1 by omega]
    refine Table_L1_ok r1 hin hlen m n r.2 _ (i + 1) (by omega) h4 (fun y hy => ?_) (by simp; omega)
    rcases List.mem_append.1 hy with hy | hy
    · exact hl y hy
    · simp only [List.mem_singleton] at hy; subst hy; exact hx
theorem fuel_cut (m : Nat) (h : m ≤ 1000000000000) : ∃ n, fuel = n + m + 1 := ⟨fuel - m - 1, by unfold fuel; omega⟩
theorem Table_ok {t : nsggen_Tape} (ht : TOk t) {n : Int} (h0 : 0 ≤ n) (h1 : n < 90) : Ok (F_nsggen_Tape_Table t n true) fun r => (∀ x ∈ r.1, BIn x.Match) ∧ (r.1.length : Int) ≤ n ∧ TOk r.2 := by
  unfold F_nsggen_Tape_Table
  refine Ok.bind (Boxes_ok true ht h0 h1) fun r1 ⟨g1, g2, g3⟩ => ?_
  obtain ⟨f, hf⟩ := fuel_cut r1.1.length (by omega)
  rw [hf]
  refine Ok.bind (Table_L1_ok r1 (fun x hx => (g1 x hx).1) (by omega) r1.1.length f r1.2 [] 0 (by omega) g3 (by simp) rfl) fun q ⟨k1, k2, k3⟩ => ?_
  obtain ⟨q1, q2⟩ := q
  exact Ok.ret ⟨k2, by simp only at k3; show (q2.length : Int) ≤ n; omega, k1⟩

/-! ### Sums -/
theorem Sum_L1_eq (l : List (Arr5 api_Range)) (p : Bool) (hin : ∀ x ∈ l, BIn x) (hlen : l.length < 1000) : ∀ (m n : Nat) (v : Int) (i : Nat), i + m = l.length →
    Ok (F_expand_Sum_L1 l p (n + m + 1) v (i : Int)) fun s => F_nsgref7_Sum_L1 l p (n + m + 1) v (i : Int) = some s
  | 0, n, v, i, hi => by
    rw [F_expand_Sum_L1, F_nsgref7_Sum_L1]
    have hc : decide ((i : Int) < (l.length : Int)) = false := decide_eq_false (by omega)
    rw [hc]; exact Ok.ret rfl
  | m + 1, n, v, i, hi => by
    rw [F_expand_Sum_L1, F_nsgref7_Sum_L1]
    have hc : decide ((i : Int) < (l.length : Int)) = true := decide_eq_true (by omega)
    rw [hc, idx_get (show i < l.length by omega)]
    have hx := hin _ (List.getElem_mem (show i < l.length by omega))
    simp only [if_true, Option.bind_some]
    rw [Cost_eq hx, rCost_eq hx]
    simp only [Option.bind_some]
    rw [wnext (by omega) (by omega), show ((i : Int) + 1) = ((i + 1 : Nat) : Int) by omega, show n + (m + 1) = n + m + 1 by omega]
    exact Sum_L1_eq l p hin hlen m n _ (i + 1) (by omega)
theorem Sum_eq {l : List (Arr5 api_Range)} (p : Bool) (hin : ∀ x ∈ l, BIn x) (hlen : l.length < 1000) : Ok (F_expand_Sum l p) fun s => F_nsgref7_Sum l p = some s := by
  unfold F_expand_Sum F_nsgref7_Sum
  obtain ⟨f, hf⟩ := fuel_cut l.length (by omega)
  rw [hf]
  exact Ok.bind (Sum_L1_eq l p hin hlen l.length f 0 0 (by omega)) fun s hs => by
    have hs : F_nsgref7_Sum_L1 l p (f + l.length + 1) 0 0 = some s := hs
    rw [hs]; exact Ok.ret rfl
theorem Total_L1_eq (l : List api_Rule) (p : Bool) (hin : ∀ x ∈ l, BIn x.Match) (hlen : l.length < 1000) : ∀ (m n : Nat) (v : Int) (i : Nat), i + m = l.length →
    Ok (F_expand_Total_L1 l p (n + m + 1) v (i : Int)) fun s => F_nsgref7_Total_L1 l p (n + m + 1) v (i : Int) = some s
  | 0, n, v, i, hi => by
    rw [F_expand_Total_L1, F_nsgref7_Total_L1]
    have hc : decide ((i : Int) < (l.length : Int)) = false := decide_eq_false (by omega)
    rw [hc]; exact Ok.ret rfl
  | m + 1, n, v, i, hi => by
    rw [F_expand_Total_L1, F_nsgref7_Total_L1]
    have hc : decide ((i : Int) < (l.length : Int)) = true := decide_eq_true (by omega)
    rw [hc, idx_get (show i < l.length by omega)]
    have hx := hin _ (List.getElem_mem (show i < l.length by omega))
    simp only [if_true, Option.bind_some]
    rw [Cost_eq hx, rCost_eq hx]
    simp only [Option.bind_some]
    rw [wnext (by omega) (by omega), show ((i : Int) + 1) = ((i + 1 : Nat) : Int) by omega, show n + (m + 1) = n + m + 1 by omega]
    exact Total_L1_eq l p hin hlen m n _ (i + 1) (by omega)
theorem Total_eq {l : List api_Rule} (p : Bool) (hin : ∀ x ∈ l, BIn x.Match) (hlen : l.length < 1000) : Ok (F_expand_Total l p) fun s => F_nsgref7_Total l p = some s := by
  unfold F_expand_Total F_nsgref7_Total
  obtain ⟨f, hf⟩ := fuel_cut l.length (by omega)
  rw [hf]
  exact Ok.bind (Total_L1_eq l p hin hlen l.length f 0 0 (by omega)) fun s hs => by
    have hs : F_nsgref7_Total_L1 l p (f + l.length + 1) 0 0 = some s := hs
    rw [hs]; exact Ok.ret rfl
theorem cut_len {α : Type} (l : List α) : (List.drop (Int.toNat (0 : Int)) (List.take (Int.toNat (iMin (l.length : Int) (100 : Int))) l)).length < 1000 := by
  have : Int.toNat (iMin (l.length : Int) (100 : Int)) ≤ 100 := by unfold iMin; split <;> omega
  rw [List.length_drop, List.length_take]; omega
theorem cut_mem {α : Type} {l : List α} {x : α} (h : x ∈ List.drop (Int.toNat (0 : Int)) (List.take (Int.toNat (iMin (l.length : Int) (100 : Int))) l)) : x ∈ l := List.mem_of_mem_take (List.mem_of_mem_drop h)
theorem ExpandSums_law {t : List Int} {l : List (Arr5 api_Range)} {x : List api_Rule} (p : Bool) (ht : (t.length : Int) < 9223372036854775808) (hl : ∀ b ∈ l, BIn b) (hx : ∀ r ∈ x, BIn r.Match) : F_nsglaw7_ExpandSums t l x p = some true := by
  refine Ok.eq (r := true) ?_
  unfold F_nsglaw7_ExpandSums
  refine Ok.bind (New_ok ht) fun t ht => Ok.bind (Boxes_ok true ht (by omega) (by omega)) fun r3 ⟨g1, g2, g3⟩ => Ok.bind (Table_ok g3 (by omega) (by omega)) fun r5 ⟨k1, k2, k3⟩ => ?_
  refine Ok.chk (by unfold iMin; split <;> omega) (Ok.chk (by unfold iMin; split <;> omega) ?_)
  refine Ok.bind (Sum_eq p (fun x hx => (g1 x hx).1) (by omega)) fun s1 e1 => ?_
  rw [e1]
  refine Ok.bind (p := (· = s1)) (Ok.ret rfl) fun v hv => ?_
  subst hv
  refine Ok.bind (p := (· = true)) (Ok.ret (beq_self_eq_true v)) fun v hv => ?_
  subst hv
  refine Ok.bind (p := (· = true)) ?_ fun v hv => ?_
  · rw [if_pos rfl]
    exact Ok.bind (Total_eq p k1 (by omega)) fun s e => by rw [e]; exact Ok.ret (beq_self_eq_true s)
  subst hv
  refine Ok.bind (p := (· = true)) (Ok.ret rfl) fun v hv => ?_
  subst hv
  refine Ok.bind (p := (· = true)) ?_ fun v hv => ?_
  · rw [if_pos rfl]
    exact Ok.bind (Sum_eq p (fun x hx => hl x (cut_mem hx)) (cut_len l)) fun s e => by rw [e]; exact Ok.ret (beq_self_eq_true s)
  subst hv
  refine Ok.bind (p := (· = true)) (Ok.ret rfl) fun v hv => ?_
  subst hv
  refine Ok.bind (p := (· = true)) ?_ fun v hv => ?_
  · rw [if_pos rfl]
    exact Ok.bind (Total_eq p (fun y hy => hx y (cut_mem hy)) (cut_len x)) fun s e => by rw [e]; exact Ok.ret (beq_self_eq_true s)
  subst hv
  refine Ok.bind (p := (· = true)) (Ok.ret rfl) fun v hv => ?_
  subst hv
  rw [sane7_eq]
  exact Ok.ret rfl
/-! ### Out of what can be read -/
theorem ok_RIn {r : api_Range} (h : ok_api_Range r) : RIn r := ⟨h.1.1, h.1.2, h.2.1.1, h.2.1.2⟩
theorem ok_BIn {b : Arr5 api_Range} (h : ok_a5_api_Range b) : BIn b := ⟨ok_RIn h.1, ok_RIn h.2.1, ok_RIn h.2.2.1, ok_RIn h.2.2.2.1, ok_RIn h.2.2.2.2.1⟩
theorem ok_tape {t : List Int} (h : ok_s_i64 t) : (t.length : Int) < 9223372036854775808 := by have := h.1; omega
theorem ExpandSums_card {t : List Int} {l : List (Arr5 api_Range)} {x : List api_Rule} {p : Bool} (ht : ok_s_i64 t) (hl : ok_s_a5_api_Range l) (hx : ok_s_api_Rule x) (_ : ok_bool p) : F_nsglaw7_ExpandSums t l x p = some true :=
  ExpandSums_law p (ok_tape ht) (fun b hb => ok_BIn (hl.2 b hb)) fun r hr => ok_BIn (hx.2 r hr).1
end Go.AM

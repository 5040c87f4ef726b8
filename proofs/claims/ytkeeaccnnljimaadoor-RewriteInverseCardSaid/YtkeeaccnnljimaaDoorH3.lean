/- Plain laws: what the generators of moves and headers make. No condition. -/
import Derived.Test.YtkeeaccnnljimaaDoorH2
set_option maxRecDepth 100000
namespace Go.AM
open Go
theorem MIn.mk' {m : api_Move} (h : MIn m) {b : Arr5 api_Range} (hb : BIn b) : MIn { m with To := b } := ⟨h.f, hb⟩
theorem u32sub {a : Int} (h0 : 0 ≤ a) (h1 : a ≤ 65535) : IntKind.wrap .u32 (65535 - a) = 65535 - a := wu32 (by omega) (by omega)
theorem RIn.mk' {a b : Int} (h0 : 0 ≤ a) (h1 : a < 4294967296) : RIn ⟨a, IntKind.wrap .u32 b⟩ := ⟨h0, h1, (wu32_range b).1, (wu32_range b).2⟩
theorem Move_ok {t : nsggen_Tape} (ht : TOk t) : Ok (F_nsggen_Tape_Move t) fun r => MIn r.1 ∧ TOk r.2 := by
  unfold F_nsggen_Tape_Move
  rw [Full_eq]
  refine Ok.lift ?_
  refine Ok.bind (Next_lt ht 2 (by omega) (by omega)) fun r3 ⟨⟨a0, a1⟩, h3⟩ => ?_
  refine Ok.bind (Ok.idx (p := fun x => 0 ≤ x ∧ x < 4294967296) a0 (by simpa using a1) fun x hx => ?_) fun x5 hx5 => ?_
  · simp only [List.mem_cons, List.not_mem_nil, or_false] at hx
    omega
  refine Ok.bind (Next_lt h3 2 (by omega) (by omega)) fun r7 ⟨⟨a0, a1⟩, h7⟩ => ?_
  refine Ok.bind (Ok.idx (p := fun x => 0 ≤ x ∧ x < 4294967296) a0 (by simpa using a1) fun x hx => ?_) fun x9 hx9 => ?_
  · simp only [List.mem_cons, List.not_mem_nil, or_false] at hx
    omega
  refine Ok.bind (Number_ok h7 (by omega) (by omega)) fun r11 ⟨⟨b0, b1⟩, h11⟩ => ?_
  refine Ok.bind (Next_lt h11 3 (by omega) (by omega)) fun r13 ⟨_, h13⟩ => ?_
  refine Ok.bind (Next_lt h13 4 (by omega) (by omega)) fun r15 ⟨⟨c0, c1⟩, h15⟩ => ?_
  refine Ok.bind (Next_lt h15 5 (by omega) (by omega)) fun r17 ⟨_, h17⟩ => ?_
  refine Ok.bind Subnet_ok fun p hp => Ok.bind (Of_ok hp) fun q hq => ?_
  refine Ok.bind (Number_ok h17 (by omega) (by omega)) fun r23 ⟨⟨d0, d1⟩, h23⟩ => Ok.ret ⟨?_, h23⟩
  have hl := hq.rin (by omega)
  rw [u32sub b0 (by omega), wu32 c0 (by omega)]
  have hm : 0 ≤ iMin r15.1 (65535 - r11.1) ∧ iMin r15.1 (65535 - r11.1) ≤ 3 := by unfold iMin; split <;> omega
  rw [u32sub hm.1 (by omega)]
  have hn : 0 ≤ iMin r23.1 (65535 - iMin r15.1 (65535 - r11.1)) ∧ iMin r23.1 (65535 - iMin r15.1 (65535 - r11.1)) ≤ 65000 := by unfold iMin; split <;> omega
  exact ⟨⟨full_ok.bin.h0, RIn.mk' hx9.1 hx9.2, ⟨hx5.1, hx5.2, hx5.1, hx5.2⟩, full_ok.bin.h3, RIn.mk' b0 (by omega)⟩, ⟨full_ok.bin.h0, RIn.mk' hl.h0 hl.h1, ⟨hx5.1, hx5.2, hx5.1, hx5.2⟩, full_ok.bin.h3, RIn.mk' hn.1 (by omega)⟩⟩
theorem Moves_L1_ok (wild : Bool) : ∀ (n : Nat) (t : nsggen_Tape) (l : List api_Move) (i : Int), TOk t → (∀ x ∈ l, MIn x) → i ≤ n → 0 ≤ i → i < 100 → (l.length : Int) + i < 1000 →
    Ok (F_nsggen_Tape_Moves_L1 wild (n + 1) t l i) fun r => TOk r.1 ∧ (∀ x ∈ r.2, MIn x) ∧ (r.2.length : Int) = l.length + i
  | 0, t, l, i, ht, hl, hi, h0, h9, hlen => by
    rw [F_nsggen_Tape_Moves_L1]
    exact Ok.ite (fun hc => absurd (of_decide_eq_true hc) (by omega)) fun _ => Ok.ret ⟨ht, hl, by show (l.length : Int) = _; omega⟩
  | n + 1, t, l, i, ht, hl, hi, h0, h9, hlen => by
    rw [F_nsggen_Tape_Moves_L1]
    refine Ok.ite (fun hc => ?_) fun hc => Ok.ret ⟨ht, hl, by simp at hc; show (l.length : Int) = _; omega⟩
    have hc := of_decide_eq_true hc
    refine Ok.bind (p := fun r => TOk r.1 ∧ (∀ x ∈ r.2, MIn x) ∧ r.2.length = l.length + 1) ?_ fun r ⟨h1, h2, h3⟩ => ?_
    · refine Ok.bind (Move_ok ht) fun q ⟨g1, g2⟩ => ?_
      refine Ok.bind (p := fun o => TOk o.1 ∧ MIn o.2) ?_ fun o ⟨k1, k2⟩ => ?_
      · refine Ok.lift ?_
        refine Ok.bind (p := fun v => TOk v.2) ?_ fun v k1 => ?_
        · refine Ok.ite (fun hw => ?_) fun _ => Ok.ret g2
          exact Ok.bind (Next_lt g2 6 (by omega) (by omega)) fun r190 ⟨_, h6⟩ => Ok.ret h6
        · refine Ok.ite (fun hv => ?_) fun _ => Ok.ret ⟨k1, g1⟩
          exact Ok.bind (SpoilBox_ok k1 g1.t) fun r196 ⟨m1, m2⟩ => Ok.ret ⟨m2, g1.f, m1⟩
      · obtain ⟨o1, o2⟩ := o
        refine Ok.bind (p := fun o => TOk o.1 ∧ MIn o.2) ?_ fun o ⟨k1, k2⟩ => ?_
        · refine Ok.lift ?_
          refine Ok.bind (p := fun v => TOk v.2) ?_ fun v k3 => ?_
          · refine Ok.ite (fun hw => ?_) fun _ => Ok.ret k1
            exact Ok.bind (Next_lt k1 6 (by omega) (by omega)) fun r190 ⟨_, h6⟩ => Ok.ret h6
          · exact Ok.ite (fun hv => Ok.ret ⟨k3, k2.t, k2.f⟩) fun _ => Ok.ret ⟨k3, k2⟩
        · obtain ⟨o1, o2⟩ := o
          refine Ok.chk (by simp only [List.length_singleton]; unfold lim; omega) (Ok.ret ⟨k1, fun x hx => ?_, by simp⟩)
          rcases List.mem_append.1 hx with hx | hx
          · exact hl x hx
          · simp only [List.mem_singleton] at hx; subst hx; exact k2
    · obtain ⟨r1, r2⟩ := r
      simp only at h1 h2 h3
      show Ok (F_nsggen_Tape_Moves_L1 wild (n + 1) r1 r2 (IntKind.wrap .i64 (i - 1))) _
      rw [wi64 (by omega) (by omega)]
      refine (Moves_L1_ok wild n r1 r2 (i - 1) h1 h2 (by omega) (by omega) (by omega) (by omega)).mono fun v ⟨e1, e2, e3⟩ => ⟨e1, e2, ?_⟩
      omega
theorem Moves_ok (wild : Bool) {t : nsggen_Tape} (ht : TOk t) {n : Int} (h0 : 0 ≤ n) (h1 : n < 90) : Ok (F_nsggen_Tape_Moves t n wild) fun r => (∀ x ∈ r.1, MIn x) ∧ (r.1.length : Int) ≤ n ∧ TOk r.2 := by
  unfold F_nsggen_Tape_Moves
  rw [wi64 (x := n + 1) (by omega) (by omega)]
  refine Ok.bind (Next_lt ht (n + 1) (by omega) (by omega)) fun r ⟨⟨h2, h3⟩, h4⟩ => ?_
  refine Ok.bind (Moves_L1_ok wild 1180591620717411303423 r.2 [] r.1 h4 (by simp) (by omega) h2 (by omega) (by simp; omega)) fun q ⟨g1, g2, g3⟩ => ?_
  obtain ⟨q1, q2⟩ := q
  refine Ok.ret ⟨g2, ?_, g1⟩
  simp at g3
  show (q2.length : Int) ≤ n
  omega
theorem Header_ok {t : nsggen_Tape} (ht : TOk t) : Ok (F_nsggen_Tape_Header t) fun r => ok_api_Header r.1 ∧ TOk r.2 := by
  unfold F_nsggen_Tape_Header
  refine Ok.bind (Addr_ok ht) fun r1 ⟨a1, h1⟩ => Ok.bind (Addr_ok h1) fun r3 ⟨a3, h3⟩ => ?_
  refine Ok.bind (Next_lt h3 6 (by omega) (by omega)) fun r5 ⟨⟨c0, c1⟩, h5⟩ => ?_
  refine Ok.bind (Ok.idx (p := fun x => 0 ≤ x ∧ x < 256) c0 (by simpa using c1) fun x hx => ?_) fun x7 hx7 => ?_
  · simp only [List.mem_cons, List.not_mem_nil, or_false] at hx
    omega
  refine Ok.bind (Number_ok h5 (by omega) (by omega)) fun r9 ⟨a9, h9⟩ => Ok.bind (Number_ok h9 (by omega) (by omega)) fun r11 ⟨a11, h11⟩ => Ok.ret ⟨?_, h11⟩
  have g9 := wu16_range r9.1
  have g11 := wu16_range r11.1
  refine ⟨?_, ?_, ?_, ?_, ?_, trivial⟩ <;> simp only [ok_u32, ok_u16, ok_u8] <;> omega
theorem ends_L1_ok {l : List api_Move} (hl : ∀ m ∈ l, MIn m) (hn : l.length ≤ 100000) : Ok (F_nsglaw6_ends l) fun r => (∀ b ∈ r, BIn b) ∧ r.length = 2 * l.length := by
  unfold F_nsglaw6_ends
  refine Ok.bind (p := fun r => (∀ b ∈ r, BIn b) ∧ r.length = 2 * l.length) ?_ fun r hr => Ok.ret hr
  refine list_ok (L := F_nsglaw6_ends_L1 l) l (fun i s => (∀ b ∈ s, BIn b) ∧ s.length = 2 * i) (by omega) (fun n s i hi ⟨h1, h2⟩ k => ?_) (fun n s h => ?_) [] ⟨by simp, rfl⟩
  · rw [F_nsglaw6_ends_L1]
    rw [if_pos (decide_eq_true (show (i : Int) < l.length by omega))]
    simp only [idx_get hi, Option.bind_some]
    refine Ok.chk (by simp only [List.length_cons, List.length_nil]; unfold lim; omega) ?_
    rw [wsucc (by omega)]
    refine k _ ⟨fun b hb => ?_, by simp [h2]; omega⟩
    simp only [List.mem_append, List.mem_cons, List.not_mem_nil, or_false] at hb
    have hm := hl _ (List.getElem_mem hi)
    rcases hb with hb | rfl | rfl
    · exact h1 _ hb
    · exact hm.f
    · exact hm.t
  · rw [F_nsglaw6_ends_L1]
    rw [if_neg (by simp)]
    exact Ok.ret h
theorem Arr5_le {v : Arr5 Int} (h0 : 0 ≤ v.x0 ∧ v.x0 ≤ 4294967295) (h1 : 0 ≤ v.x1 ∧ v.x1 ≤ 4294967295) (h2 : 0 ≤ v.x2 ∧ v.x2 ≤ 255) (h3 : 0 ≤ v.x3 ∧ v.x3 ≤ 65535) (h4 : 0 ≤ v.x4 ∧ v.x4 ≤ 65535) : VOk v := ⟨h0, h1, h2, h3, h4⟩
theorem get_set_self (v : Arr5 Int) (x : Int) {k : Int} (h0 : 0 ≤ k) (h1 : k < 5) : (v.set k x).get k = x := by
  rcases five h0 h1 with rfl | rfl | rfl | rfl | rfl <;> rfl
theorem set_set_self (v : Arr5 Int) (x y : Int) {k : Int} (h0 : 0 ≤ k) (h1 : k < 5) : (v.set k x).set k y = v.set k y := by
  rcases five h0 h1 with rfl | rfl | rfl | rfl | rfl <;> rfl
theorem z_ok : VOk z_a5_u32 := ⟨by decide, by decide, by decide, by decide, by decide⟩
theorem Near_ok {t : nsggen_Tape} (ht : TOk t) {l : List (Arr5 api_Range)} (hl : ∀ b ∈ l, BIn b) (hn : l.length ≤ 1000000) : Ok (F_nsggen_Tape_Near t l) fun r => ok_api_Header r.1 ∧ TOk r.2 := by
  unfold F_nsggen_Tape_Near
  refine Ok.lift ?_
  refine Ok.bind (p := fun v => TOk v.2 ∧ (v.1 = false → 0 < l.length)) ?_ fun v ⟨hv, hp⟩ => ?_
  · refine Ok.ite (fun _ => Ok.ret ⟨ht, fun h => by cases h⟩) fun hc => ?_
    exact Ok.bind (Next_lt ht 4 (by omega) (by omega)) fun r ⟨_, h4⟩ => Ok.ret ⟨h4, fun _ => by
      rcases l with _ | ⟨a, l⟩
      · exact absurd rfl hc
      · simp⟩
  refine Ok.ite (fun _ => Ok.bind (Header_ok hv) fun r h => Ok.ret h) fun hc => ?_
  have hp := hp (by simpa using hc)
  refine Ok.bind (Next_lt hv (l.length : Int) (by omega) (by omega)) fun r11 ⟨⟨a0, a1⟩, h11⟩ => ?_
  refine Ok.bind (Ok.idx (p := BIn) a0 a1 hl) fun b hb => ?_
  refine Ok.bind (p := fun o => TOk o.1 ∧ VOk o.2) ?_ fun o ⟨g1, g2⟩ => ?_
  · refine Ok.mono (p := fun (o : nsggen_Tape × Arr5 Int) => TOk o.1 ∧ VOk o.2) ?_ fun _ h => h
    have key : ∀ (s : nsggen_Tape × Arr5 Int), TOk s.1 ∧ VOk s.2 → Ok ((fun n (s : nsggen_Tape × Arr5 Int) k => F_nsggen_Tape_Near_L1 b n s.1 s.2 k) fuel s 0) fun (o : nsggen_Tape × Arr5 Int) => TOk o.1 ∧ VOk o.2 := fun s hs => by
      refine five_ok (L := fun n (s : nsggen_Tape × Arr5 Int) k => F_nsggen_Tape_Near_L1 b n s.1 s.2 k) (I := fun s => TOk s.1 ∧ VOk s.2) (fun n s k h0 h1 ⟨e1, e2⟩ kk => ?_) (fun n s h => ?_) s hs
      · have hk : 0 ≤ k ∧ k < 5 := ⟨h0, h1⟩
        show Ok (F_nsggen_Tape_Near_L1 b (n + 1) s.1 s.2 k) _
        rw [F_nsggen_Tape_Near_L1, if_pos (decide_eq_true h1)]
        refine Ok.chk hk (Ok.chk hk (Ok.chk hk (Ok.chk hk (Ok.chk hk (Ok.chk hk (Ok.chk hk ?_))))))
        refine Ok.bind (Next_lt e1 5 (by omega) (by omega)) fun r81 ⟨⟨d0, d1⟩, h81⟩ => ?_
        have hg := hb.get k
        have w1 := wu32_range ((b.get k).Lo - 1)
        have w2 := wu32_range ((b.get k).Hi + 1)
        have w3 := wu32_range ((b.get k).Lo + IntKind.wrap .u32 (Int.tdiv (IntKind.wrap .u32 ((b.get k).Hi - (b.get k).Lo)) 2))
        have q0 := hg.h0
        have q1 := hg.h1
        have q2 := hg.h2
        have q3 := hg.h3
        refine Ok.bind (Ok.idx (p := fun x => 0 ≤ x ∧ x < 4294967296) d0 (by simpa using d1) fun x hx => ?_) fun x hx => ?_
        · simp only [List.mem_cons, List.not_mem_nil, or_false] at hx
          omega
        refine Ok.chk hk (Ok.chk hk ?_)
        rw [Top_eq k h0 h1]
        refine Ok.lift ?_
        refine Ok.chk hk ?_
        rw [wnext h0 (by omega), get_set_self _ _ h0 h1, set_set_self _ _ _ h0 h1]
        have ht := topOf_lt h0 h1
        refine kk (r81.2, s.2.set k (iMin x (topOf k))) ⟨h81, e2.set h0 h1 ?_ ?_⟩
        · unfold iMin; split <;> omega
        · unfold iMin; split <;> omega
      · show Ok (F_nsggen_Tape_Near_L1 b (n + 1) s.1 s.2 5) _
        rw [F_nsggen_Tape_Near_L1, if_neg (by decide)]
        exact Ok.ret h
    exact key (r11.2, z_a5_u32) ⟨h11, z_ok⟩
  · obtain ⟨o1, o2⟩ := o
    show Ok ((F_nsgref3_Header o2).bind _) _
    rw [rheader_eq g2]
    exact Ok.lift (Ok.ret ⟨hdr_ok g2, g1⟩)
theorem ok_MIn {m : api_Move} (h : ok_api_Move m) : MIn m := ⟨ok_BIn h.1, ok_BIn h.2.1⟩
theorem findI_nil {α ρ : Type} : ∀ (xs : List α) (i : Nat), findI (fun _ _ => (none : Option ρ)) i xs = none
  | [], _ => rfl
  | _ :: xs, i => findI_nil xs (i + 1)
end Go.AM

/- Plain law: RewriteInverse. No condition. -/
import Derived.Test.YtkeeaccnnljimaaDoorH3
import Derived.Test.YtkeeaccnnljimaaDoorH4
set_option maxRecDepth 100000
namespace Go.AM
open Go
theorem RewriteInverse_card {t : List Int} {h : api_Header} (ht : ok_s_i64 t) (hh : ok_api_Header h) : F_nsglaw6_RewriteInverse t h = some true := by
  unfold F_nsglaw6_RewriteInverse
  have hs : F_nsglaw6_sane = some true := rfl
  obtain ⟨t0, e0, h0⟩ := New_ok (ok_tape ht)
  obtain ⟨r3, e3, m1, m2, m3⟩ := Moves_ok false h0 (n := 3) (by omega) (by omega)
  have hb : r3.1.length ≤ 3 := by omega
  rw [e0]
  simp only [Option.bind_some, e3, rValid_L_eq, rInverse_eq (show r3.1.length ≤ 100000 by omega), hs]
  cases h1 : vL r3.1 with
  | false => rfl
  | true =>
    cases h2 : vL (r3.1.map turn) with
    | false => rfl
    | true =>
      simp only [Bool.not_true, Bool.false_eq_true, if_false, Option.bind_some]
      obtain ⟨r19, e19, b1, b2⟩ := ends_L1_ok m1 (by omega)
      obtain ⟨r21, e21, g1, g2⟩ := Near_ok m3 b1 (by omega)
      obtain ⟨r25, e25, g3, g4⟩ := Near_ok g2 b1 (by omega)
      simp only [e19, Option.bind_some, e21, e25, Inverse_eq (show r3.1.length ≤ 100000 by omega)]
      have hL : F_nsglaw6_RewriteInverse_L1 h r3 r21 r25 (r3.1.map turn) fuel 0 = some (.inl ()) := by
        rw [list_find (L := F_nsglaw6_RewriteInverse_L1 h r3 r21 r25 (r3.1.map turn)) [h, r21.1, r25.1] (fun _ _ => (none : Option Bool)) (by simp) (fun n i hi => by
          have hx : ok_api_Header ([h, r21.1, r25.1][i]) := by
            have := List.getElem_mem hi
            simp only [List.mem_cons, List.not_mem_nil, or_false] at this
            rcases this with e | e | e <;> rw [e] <;> assumption
          rw [F_nsglaw6_RewriteInverse_L1, if_pos (decide_eq_true (by omega))]
          simp only [idx_get hi, Option.bind_some, Match_eq hx (show r3.1.length ≤ 1000000000000 by omega)]
          by_cases hm : mM r3.1 [h, r21.1, r25.1][i] < 0
          · rw [decide_eq_false (by omega)]
            simp only [Bool.false_eq_true, if_false, Option.bind_some]
            rw [wsucc (by simp at hi; omega)]
          · rw [decide_eq_true (show mM r3.1 [h, r21.1, r25.1][i] ≥ 0 by omega)]
            have hmt : ∀ m ∈ r3.1.map turn, MIn m := fun m hm => by
              obtain ⟨m', h1, rfl⟩ := List.mem_map.1 hm
              exact ⟨(m1 m' h1).t, (m1 m' h1).f⟩
            simp only [if_true, Option.bind_some, Apply_eq hx m1 (show r3.1.length ≤ 1000000000000 by omega), Apply_eq (aM_ok m1 hx) hmt (show (r3.1.map turn).length ≤ 1000000000000 by simp; omega), back m1 h1 h2 hm]
            rw [show eq_api_Header [h, r21.1, r25.1][i] [h, r21.1, r25.1][i] = true by simp [eq_api_Header]]
            simp only [Bool.not_true, Bool.false_eq_true, if_false]
            rw [wsucc (by simp at hi; omega)]) (fun n => by rw [F_nsglaw6_RewriteInverse_L1, if_neg (by simp)])]
        rw [findI_nil]; rfl
      rw [hL]
      rfl
end Go.AM

/- Handlers of operations that leave the blocks, and of make. No condition. -/
import Derived.Test.YtdpogkakaeeccaaDoorA29
namespace Go.AM
section
variable {P : Program} {G : Glob} {n0 nt : Nat} {o : Oper} {st : St} {H : List Blk}
/-- An operation that leaves the blocks. -/
def Hnd.q : Hnd P G where
  run o st H := (quietx P G true st H o).map fun p => ⟨p, H, [], []⟩
  sound := by
    intro n0 o st H x h he
    simp only [Option.map_eq_some_iff] at h
    obtain ⟨p, h1, rfl⟩ := h
    exact (OpT.of_quiet (Sub.refl H) h1).weak
variable {α : Type}
theorem bounded {m : Int} {b : Nat} (h0 : 0 ≤ m) (hm : m ≤ (lim : Int)) (hb : b ≤ 65536) : (b : Int) * m ≤ 281474976710656 ∧ Nat.ble m.toNat maxLen = true := by
  have h1 : (b : Int) * m ≤ 65536 * 2147483648 := by
    have h2 : m ≤ 2147483648 := hm
    exact Int.mul_le_mul (by omega) h2 h0 (by decide)
  refine ⟨by omega, Nat.ble_eq_true_of_le ?_⟩
  have h2 : m ≤ 2147483648 := hm
  unfold maxLen
  omega
/-- make of a slice of length 0 with room. -/
def Hnd.mk0 (row : α → List PV) {m : Int} (hm : 0 ≤ m ∧ m ≤ (lim : Int)) : Hnd P G where
  run o st H := match o.op with
    | .makeSlice t x y => match P.underlying t, opd G st x, opd G st y with
      | some (.slice e), some (.sc (.int _ l)), some (.sc (.int _ m')) => match P.info? e with
        | some ti => match ti.zero with
          | some _ => if l = 0 ∧ Nat.ble ti.bytes 65536 = true then some ⟨.own H.length 0, H ++ [.buf ti.size e (List.map row []) false], [.i m'], [.i m]⟩ else none
          | none => none
        | none => none
      | _, _, _ => none
    | _ => none
  sound := by
    intro n0 o st H x h he
    suffices hT : OpT P G n0 o st H x.p x.H from hT.weak
    split at h
    · rename_i t x y ho
      split at h
      · rename_i e k l k' m' hu hx hy
        split at h
        · rename_i ti hti
          split at h
          · rename_i z hz
            split at h
            · rename_i hc
              obtain ⟨rfl, hb⟩ := hc
              simp only [Option.some.injEq] at h
              subst h
              simp only [List.cons.injEq, T.i.injEq, and_true] at he
              subst he
              obtain ⟨h1, h2⟩ := bounded hm.1 hm.2 (Nat.le_of_ble_eq_true hb)
              have := OpT.makeSlice (n0 := n0) (H := H) ho hu hti hz hx hy (Int.le_refl 0) hm.1 h1 (Nat.le_of_ble_eq_true h2)
              exact this
            · cases h
          · cases h
        · cases h
      · cases h
    · cases h
end
end Go.AM

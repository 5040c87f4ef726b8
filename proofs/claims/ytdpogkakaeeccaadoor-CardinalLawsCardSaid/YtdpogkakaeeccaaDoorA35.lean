/- Bytes of strings; strings out of bytes. No condition. -/
import Derived.Test.YtdpogkakaeeccaaDoorA34
namespace Go.AM
section
variable {P : Program} {G : Glob} {n0 nt : Nat} {o : Oper} {st : St} {H : List Blk}
/-- A byte of a string. -/
def sidx (s : ByteArray) (i : Int) : Option Int := if h : 0 ≤ i ∧ i < s.size then some ((s[i.toNat]'(by omega)).toNat : Int) else none
def Hnd.str {s : ByteArray} {i z : Int} (hz : sidx s i = some z) : Hnd P G where
  run o st H := match o.op with
    | .index t x y => match P.underlying t, opd G st x, opd G st y with
      | some .string, some (.sc v), some (.sc (.int _ i')) => some ⟨.sc (.int .u8 z), H, [.v v, .i i'], [.v (.string s), .i i]⟩
      | _, _, _ => none
    | _ => none
  sound := by
    intro n0 o st H x hr he
    suffices hT : OpT P G n0 o st H x.p x.H from hT.weak
    split at hr
    · rename_i t x y ho
      split at hr
      · rename_i v k i' hu hx hy
        simp only [Option.some.injEq] at hr; subst hr
        simp only [List.cons.injEq, T.v.injEq, T.i.injEq, and_true] at he
        obtain ⟨rfl, rfl⟩ := he
        refine OpT.value fun c a w β hn hr => ⟨.int .u8 z, ?_, by simp only [VR]⟩
        have g1 := hr.opd hx
        have g2 := hr.opd hy
        simp only [VR] at g1 g2
        unfold sidx at hz
        split at hz
        · rename_i hi
          simp only [Option.some.injEq] at hz
          have := run_index_string (P := P) w t s k i' hu
          rw [dif_pos hi, hz] at this
          simp [execOp, ho, g1, g2, this]
        · cases hz
      · cases hr
    · cases hr
theorem bytes_flat (l : List Int) : (l.map fun n => [PV.sc (.int .u8 n)]).flatten = (l.map (Value.int .u8)).map PV.sc := by
  induction l with
  | nil => rfl
  | cons n l ih => simp only [List.map_cons, List.flatten_cons, List.singleton_append]; rw [ih]
/-- A string out of bytes. -/
def Hnd.toStr (l : List Int) : Hnd P G where
  run o st H := match o.op with
    | .convert s d x => match P.underlying s, P.underlying d, opd G st x with
      | some (.slice e), some .string, some q => match P.underlying e, srcT H 1 q with
        | some (.int .u8), some (xs, l1, r1) => some ⟨.sc (.string (strOf l)), H, .rs xs :: l1, .rs (l.map fun n => [PV.sc (.int .u8 n)]) :: r1⟩
        | _, _ => none
      | _, _, _ => none
    | _ => none
  sound := by
    intro n0 o st H x hr he
    suffices hT : OpT P G n0 o st H x.p x.H from hT.weak
    split at hr
    · rename_i s d x ho
      split at hr
      · rename_i e q hs hd hx
        split at hr
        · rename_i xs l1 r1 he' hq
          simp only [Option.some.injEq] at hr; subst hr
          simp only [List.cons.injEq, T.rs.injEq] at he
          obtain ⟨rfl, hl1⟩ := he
          have hsrc := srcT_ok hq hl1
          refine OpT.value fun c a w β hn hr => ⟨.string (strOf l), ?_, by simp only [VR]⟩
          rcases src_cells hr hsrc (hr.opd hx) with ⟨h1, ad, cap, h2⟩ | ⟨b, off, cap, vals, h2, h3, h4, h5⟩
          · have hl : l = [] := by simpa using h1
            subst hl
            have h7 := run_convert_bytes_string (P := P) w s d e ad 0 cap hs he' hd
            cases ad with
            | none =>
              simp [Conv.bytesToString] at h7
              simp [execOp, ho, h2, h7, strOf]
            | some ad =>
              have h8 := run_bytesToString (P := P) w ad 0 cap [] (run_loadCells_list (P := P) w ad [] (by simp))
              rw [h8] at h7
              simp [execOp, ho, h2, h7, strOf]
          · have hfl := bytes_flat l
            rw [hfl] at h3
            have hvals := VRs.scs_iff _ _ h3
            subst hvals
            rw [List.length_map] at h2
            have hld : (loadCells ⟨b, off, none⟩ l.length).run P w = .ok (l.map (Value.int .u8)).toArray w := by
              have := run_loadCells_list (P := P) w ⟨b, off, none⟩ (l.map (Value.int .u8)) h5
              rwa [List.length_map] at this
            have h7 := run_bytesToString (P := P) w ⟨b, off, none⟩ l.length cap l hld
            rw [← run_convert_bytes_string w s d e _ _ _ hs he' hd] at h7
            simp [execOp, ho, h2, h7, strOf]
        · cases hr
      · cases hr
    · cases hr
end
end Go.AM

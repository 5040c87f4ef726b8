/- Operations over known values, carried out by functions: those that leave all blocks as they are, and those that do not. No condition. -/
import Derived.Test.YtdpogkakaeeccaaDoorA22
namespace Go.AM
section
variable {P : Program} {G : Glob} {n0 nt : Nat} {o : Oper} {st : St} {H : List Blk} {ops : Array Oper} {Q : Exit → St → List Blk → Prop}

/-- All that is known in the one is known in the other. -/
def Sub (H0 H : List Blk) : Prop := ∀ (i : Nat) b, H0[i]? = some b → H[i]? = some b
theorem Sub.refl (H : List Blk) : Sub H H := fun _ _ h => h
theorem Sub.nil (H : List Blk) : Sub [] H := fun i b h => by simp at h
def srcx (H : List Blk) (s : Nat) : PV → Option (List (List PV))
  | .sl s' ys => if Nat.beq s s' then some ys else none
  | .sc (.slice none 0 0) => some []
  | .own j m => match H[j]? with
    | some (.buf s' _ ys _) => if Nat.beq s s' && Nat.beq m ys.length then some ys else none
    | _ => none
  | .ow j m lo hi => match H[j]? with
    | some (.buf s' _ ys _) => if Nat.beq s s' && Nat.beq m ys.length && Nat.blt lo hi && Nat.ble hi m then some ((ys.take hi).drop lo) else none
    | _ => none
  | _ => none
theorem srcx_ok {H0 : List Blk} {s : Nat} {p : PV} {ys : List (List PV)} (hH : Sub H0 H) (h : srcx H0 s p = some ys) : Src H s p ys := by
  unfold srcx at h
  split at h
  · split at h
    · rename_i hs
      simp only [Option.some.injEq] at h; subst h
      have := Nat.eq_of_beq_eq_true hs; subst this
      exact .sl _
    · cases h
  · simp only [Option.some.injEq] at h; subst h; exact .nil
  · split at h
    · rename_i s' t ys' sh hb
      split at h
      · rename_i hc
        simp only [Bool.and_eq_true] at hc
        simp only [Option.some.injEq] at h; subst h
        have h1 := Nat.eq_of_beq_eq_true hc.1
        have h2 := Nat.eq_of_beq_eq_true hc.2
        subst h1 h2
        exact .own _ _ _ _ (hH _ _ hb)
      · cases h
    · cases h
  · split at h
    · rename_i s' t ys' sh hb
      split at h
      · rename_i hc
        simp only [Bool.and_eq_true] at hc
        simp only [Option.some.injEq] at h; subst h
        have h1 := Nat.eq_of_beq_eq_true hc.1.1.1
        have h2 := Nat.eq_of_beq_eq_true hc.1.1.2
        subst h1 h2
        exact .ow _ _ _ _ _ _ (hH _ _ hb) (Nat.le_of_ble_eq_true hc.1.2) (Nat.le_of_ble_eq_true hc.2)
      · cases h
    · cases h
  · cases h
/-- Bytes. -/
def bytesx : List PV → Option (List Int)
  | [] => some []
  | .sc (.int .u8 n) :: ps => (bytesx ps).map fun l => n :: l
  | _ => none
theorem bytesx_ok : ∀ (ps : List PV) (ns : List Int), bytesx ps = some ns → ps = (ns.map (Value.int .u8)).map .sc
  | [], ns, h => by simp only [bytesx, Option.some.injEq] at h; subst h; rfl
  | p :: ps, ns, h => by
    unfold bytesx at h
    split at h
    · simp_all
    · rename_i n l heq
      simp only [List.cons.injEq] at heq
      obtain ⟨rfl, rfl⟩ := heq
      simp only [Option.map_eq_some_iff] at h
      obtain ⟨m, hm, rfl⟩ := h
      simp only [List.map_cons, List.cons.injEq, true_and]
      exact bytesx_ok _ _ hm
    · cases h
def strOf (ns : List Int) : ByteArray := ns.foldl (fun r n => r.push (UInt8.ofNat n.toNat)) ByteArray.empty
def strx (P : Program) (G : Glob) (st : St) (H : List Blk) (s d : TypeId) (x : Operand) : Option PV := match P.underlying s, P.underlying d, opd G st x with
  | some (.slice e), some .string, some p => match P.underlying e, srcx H 1 p with
    | some (.int .u8), some ys => match bytesx ys.flatten with
      | some (n :: ns) => some (.sc (.string (strOf (n :: ns))))
      | _ => none
    | _, _ => none
  | _, _, _ => none
theorem OpT.strx {H0 : List Blk} {s d : TypeId} {x : Operand} {p : PV} (ho : o.op = .convert s d x) (hH : Sub H0 H) (h : strx P G st H0 s d x = some p) : OpT P G n0 o st H p H := by
  unfold AM.strx at h
  split at h
  · rename_i e q hs hd hx
    split at h
    · rename_i ys he hys
      split at h
      · rename_i n ns hb
        simp only [Option.some.injEq] at h; subst h
        refine OpT.value fun c a w β hn0 hr => ⟨.string (strOf (n :: ns)), ?_, by simp only [VR]⟩
        rcases src_cells hr (srcx_ok hH hys) (hr.opd hx) with ⟨h1, _⟩ | ⟨b, off, cap, vals, h2, h3, h4, h5⟩
        · subst h1; simp [bytesx] at hb
        · have hv := bytesx_ok _ _ hb
          rw [hv] at h3
          have hvals := VRs.scs_iff _ _ h3
          subst hvals
          have hl : ys.length = (n :: ns).length := by
            have h6 := flat_length ys h4
            rw [hv, List.length_map, List.length_map, Nat.mul_one] at h6
            exact h6.symm
          have hld : (loadCells ⟨b, off, none⟩ ys.length).run P w = .ok ((n :: ns).map (Value.int .u8)).toArray w := by
            have := run_loadCells_list (P := P) w ⟨b, off, none⟩ ((n :: ns).map (Value.int .u8)) h5
            rwa [List.length_map, ← hl] at this
          have h7 := run_bytesToString (P := P) w ⟨b, off, none⟩ ys.length cap (n :: ns) hld
          rw [← run_convert_bytes_string w s d e _ _ _ hs he hd] at h7
          simp [execOp, ho, h2, h7, strOf]
      · cases h
    · cases h
  · cases h
/-- What is read at a place. -/
def ldx (P : Program) (H : List Blk) (t : TypeId) : PV → Option PV
  | .ptr i off => match H[i]? with
    | some (.cells cs) => ldPV P t (cs.drop off)
    | _ => none
  | .ro cs off => ldPV P t (cs.drop off)
  | .ept i n k off => match H[i]? with
    | some (.buf _ _ xs _) => if Nat.beq n xs.length then (match xs[k]? with
      | some row => ldPV P t (row.drop off)
      | none => none) else none
    | _ => none
  | _ => none
theorem OpT.ldx {H0 : List Blk} {t : TypeId} {x : Operand} {p q : PV} (ho : o.op = .load t x) (hx : opd G st x = some p) (hH : Sub H0 H) (h : ldx P H0 t p = some q) : OpT P G n0 o st H q H := by
  unfold AM.ldx at h
  split at h
  · split at h
    · rename_i cs hb; exact OpT.load_ptr ho hx (hH _ _ hb) h
    · cases h
  · exact OpT.load_ro ho hx h
  · split at h
    · rename_i s ty xs sh hb
      split at h
      · rename_i hn
        split at h
        · rename_i row hk; exact OpT.load_ept ho hx (hH _ _ hb) (Nat.eq_of_beq_eq_true hn) hk h
        · cases h
      · cases h
    · cases h
  · cases h
def nilx (H : List Blk) : PV → Option PV
  | .ptr i off => some (.ptr i off)
  | .ro cs off => some (.ro cs off)
  | .ept i n k off => match H[i]? with
    | some (.buf _ _ xs _) => if Nat.beq n xs.length then some (.ept i n k off) else none
    | _ => none
  | _ => none
theorem OpT.nilx {H0 : List Blk} {x : Operand} {p q : PV} (ho : o.op = .nilCheck x) (hx : opd G st x = some p) (hH : Sub H0 H) (h : nilx H0 p = some q) : OpT P G n0 o st H q H := by
  unfold AM.nilx at h
  split at h
  · simp only [Option.some.injEq] at h; subst h; exact OpT.nilCheck ho hx trivial
  · simp only [Option.some.injEq] at h; subst h; exact OpT.nilCheck ho hx trivial
  · split at h
    · rename_i s t xs sh hb
      split at h
      · rename_i hn
        simp only [Option.some.injEq] at h; subst h
        exact OpT.nilCheck_ept ho hx (hH _ _ hb) (Nat.eq_of_beq_eq_true hn)
      · cases h
    · cases h
  · cases h
def fieldx (P : Program) (H : List Blk) (s : TypeId) (f : Nat) (p : PV) : Option PV := match P.underlying s with
  | some (.struct fs) => match fs[f]? with
    | some fd => if Nat.beq (P.cellsOf fd.type) 0 then none else match p with
      | .ptr i off => some (.ptr i (off + fd.offset))
      | .ro cs off => some (.ro cs (off + fd.offset))
      | .ept i n k off => match H[i]? with
        | some (.buf _ _ xs _) => if Nat.beq n xs.length then some (.ept i n k (off + fd.offset)) else none
        | _ => none
      | _ => none
    | none => none
  | _ => none
theorem beq_ne {n : Nat} (h : ¬ Nat.beq n 0 = true) : n ≠ 0 := fun e => h (by rw [e]; rfl)
theorem OpT.fieldx {H0 : List Blk} {s : TypeId} {x : Operand} {f : Nat} {p q : PV} (ho : o.op = .fieldAddr s x f) (hx : opd G st x = some p) (hH : Sub H0 H) (h : fieldx P H0 s f p = some q) : OpT P G n0 o st H q H := by
  unfold AM.fieldx at h
  split at h
  · rename_i fs hu
    split at h
    · rename_i fd hf
      split at h
      · cases h
      · rename_i hz
        split at h
        · simp only [Option.some.injEq] at h; exact OpT.fieldAddr ho hu hf (beq_ne hz) hx h.symm
        · simp only [Option.some.injEq] at h; exact OpT.fieldAddr ho hu hf (beq_ne hz) hx h.symm
        · split at h
          · rename_i s' t xs sh hb
            split at h
            · rename_i hn
              simp only [Option.some.injEq] at h
              exact OpT.fieldAddr ho hu hf (beq_ne hz) hx ⟨h.symm, _, _, _, _, (hH _ _ hb), Nat.eq_of_beq_eq_true hn⟩
            · cases h
          · cases h
        · cases h
    · cases h
  · cases h
def idxx (P : Program) (H : List Blk) (t : TypeId) (p : PV) (j : Int) : Option PV := match P.underlying t with
  | some (.array n e) => if Nat.beq (P.cellsOf e) 0 then none else if 0 ≤ j ∧ j < n then (match p with
      | .ptr i off => some (.ptr i (off + j.toNat * P.cellsOf e))
      | .ro cs off => some (.ro cs (off + j.toNat * P.cellsOf e))
      | .ept i m q off => match H[i]? with
        | some (.buf _ _ xs _) => if Nat.beq m xs.length then some (.ept i m q (off + j.toNat * P.cellsOf e)) else none
        | _ => none
      | _ => none) else none
  | some (.slice e) => if Nat.beq (P.cellsOf e) 0 then none else if 0 ≤ j then (match p with
      | .sl s xs => match xs[j.toNat]? with
        | some row => if Nat.beq (P.cellsOf e) s then some (.ro row 0) else none
        | none => none
      | .own i n => match H[i]? with
        | some (.buf s _ xs _) => if Nat.beq n xs.length && Nat.beq (P.cellsOf e) s && decide (j < xs.length) then some (.ept i n j.toNat 0) else none
        | _ => none
      | .vw i off n => if j < n then some (.ptr i (off + j.toNat * P.cellsOf e)) else none
      | .ow i n a0 b0 => match H[i]? with
        | some (.buf s _ xs _) => if Nat.beq n xs.length && Nat.beq (P.cellsOf e) s && decide (j < (b0 - a0 : Nat)) then some (.ept i n (a0 + j.toNat) 0) else none
        | _ => none
      | _ => none) else none
  | _ => none
theorem OpT.idxx {H0 : List Blk} {t : TypeId} {x y : Operand} {k : IntKind} {j : Int} {p q : PV} (ho : o.op = .indexAddr t x y) (hx : opd G st x = some p) (hy : opd G st y = some (.sc (.int k j))) (hH : Sub H0 H) (h : idxx P H0 t p j = some q) : OpT P G n0 o st H q H := by
  unfold AM.idxx at h
  split at h
  · rename_i n e hu
    split at h
    · cases h
    · rename_i hz
      split at h
      · rename_i hj
        split at h
        · simp only [Option.some.injEq] at h; exact OpT.index_arr ho hu (beq_ne hz) hy hj.1 hj.2 hx h.symm
        · simp only [Option.some.injEq] at h; exact OpT.index_arr ho hu (beq_ne hz) hy hj.1 hj.2 hx h.symm
        · split at h
          · rename_i s' t xs sh hb
            split at h
            · rename_i hn
              simp only [Option.some.injEq] at h; subst h
              exact OpT.index_ept ho hu (beq_ne hz) hy hj.1 hj.2 hx (hH _ _ hb) (Nat.eq_of_beq_eq_true hn)
            · cases h
          · cases h
        · cases h
      · cases h
  · rename_i e hu
    split at h
    · cases h
    · rename_i hz
      split at h
      · rename_i hj
        split at h
        · split at h
          · rename_i row hr
            split at h
            · rename_i hs
              have hs := Nat.eq_of_beq_eq_true hs
              simp only [Option.some.injEq] at h; subst h
              subst hs
              exact OpT.index_sl ho hu (beq_ne hz) hx hy hj hr
            · cases h
          · cases h
        · split at h
          · rename_i s ty xs sh hb
            split at h
            · rename_i hc
              simp only [Bool.and_eq_true, decide_eq_true_eq] at hc
              have hn := Nat.eq_of_beq_eq_true hc.1.1
              simp only [Option.some.injEq] at h; subst h
              subst hn
              exact OpT.index_own ho hu (Nat.eq_of_beq_eq_true hc.1.2) (by rw [← Nat.eq_of_beq_eq_true hc.1.2]; exact beq_ne hz) hx (hH _ _ hb) hy hj hc.2
            · cases h
          · cases h
        · split at h
          · rename_i hlt
            simp only [Option.some.injEq] at h; subst h
            exact OpT.index_vw ho hu (beq_ne hz) hx hy hj hlt
          · cases h
        · split at h
          · rename_i s ty xs sh hb
            split at h
            · rename_i hc
              simp only [Bool.and_eq_true, decide_eq_true_eq] at hc
              simp only [Option.some.injEq] at h; subst h
              exact OpT.index_ow ho hu (Nat.eq_of_beq_eq_true hc.1.2) (by rw [← Nat.eq_of_beq_eq_true hc.1.2]; exact beq_ne hz) hx (hH _ _ hb) (Nat.eq_of_beq_eq_true hc.1.1) hy hj hc.2
            · cases h
          · cases h
        · cases h
      · cases h
  · cases h
def lenx (H : List Blk) : PV → Option Int
  | .sl _ xs => some (xs.length : Int)
  | .vw _ _ n => some (n : Int)
  | .own i n => match H[i]? with
    | some (.buf _ _ xs _) => if Nat.beq n xs.length then some (xs.length : Int) else none
    | _ => none
  | .ow i n a0 b0 => match H[i]? with
    | some (.buf _ _ xs _) => if Nat.beq n xs.length then some ((b0 - a0 : Nat) : Int) else none
    | _ => none
  | _ => none
theorem OpT.lenx {H0 : List Blk} {cl : Call} {x : Operand} {T e : TypeId} {p : PV} {m : Int} (ho : o.op = .call cl) (hcl : cl = { callee := .builtin .len, args := #[x], argTypes := #[T] }) (hT : P.underlying T = some (.slice e)) (hx : opd G st x = some p) (hH : Sub H0 H) (h : lenx H0 p = some m) : OpT P G n0 o st H (.sc (.int .i64 m)) H := by
  unfold AM.lenx at h
  split at h
  · simp only [Option.some.injEq] at h; subst h; exact OpT.len_sl ho hcl hT hx
  · simp only [Option.some.injEq] at h; subst h; exact OpT.len_vw ho hcl hT hx
  · split at h
    · rename_i s t xs sh hb
      split at h
      · rename_i hn
        have hn := Nat.eq_of_beq_eq_true hn
        subst hn
        simp only [Option.some.injEq] at h; subst h
        exact OpT.len_own ho hcl hT hx (hH _ _ hb)
      · cases h
    · cases h
  · split at h
    · rename_i s t xs sh hb
      split at h
      · rename_i hn
        simp only [Option.some.injEq] at h; subst h
        exact OpT.len_ow ho hcl hT hx (hH _ _ hb) (Nat.eq_of_beq_eq_true hn)
      · cases h
    · cases h
  · cases h
/-- A part of a buffer. -/
def partx (P : Program) (H : List Blk) (e : TypeId) (p : PV) (i n a0 b0 : Nat) (lo : Option Int) (hi : Nat → Option Int) : Option PV := match H[i]? with
  | some (.buf s _ xs _) => match lo, hi (b0 - a0) with
    | some l, some h => if Nat.beq n xs.length && Nat.beq (P.cellsOf e) s && !(Nat.beq (P.cellsOf e) 0) && decide (0 ≤ l) && decide (h ≤ (b0 - a0 : Nat)) && Nat.ble b0 n then
        (if l < h then (if decide (l = 0) && decide (h = (b0 - a0 : Nat)) then some p else some (.ow i n (a0 + l.toNat) (a0 + h.toNat))) else if l = h then some (.sl s []) else none) else none
    | _, _ => none
  | _ => none
def slicex (P : Program) (H : List Blk) (t : TypeId) (p : PV) (lo : Option Int) (hi : Nat → Option Int) : Option PV := match P.underlying t with
  | some (.slice e) => match p with
    | .sl s xs => match lo, hi xs.length with
      | some l, some h => if Nat.beq (P.cellsOf e) s && !(Nat.beq (P.cellsOf e) 0) && decide (0 ≤ l) && decide (l ≤ h) && decide (h ≤ xs.length) then some (.sl s ((xs.take h.toNat).drop l.toNat)) else none
      | _, _ => none
    | .own i n => partx P H e p i n 0 n lo hi
    | .ow i n a0 b0 => if Nat.blt a0 b0 then partx P H e p i n a0 b0 lo hi else none
    | _ => none
  | some (.array n e) => match p with
    | .ptr i off => match lo, hi n with
      | some l, some h => if !(Nat.beq (P.cellsOf e) 0) && decide (0 ≤ l) && decide (l ≤ h) && (decide (h < n) || (decide (h ≤ n) && decide (l < n))) then some (.vw i (off + l.toNat * P.cellsOf e) (h.toNat - l.toNat))
        else if !(Nat.beq (P.cellsOf e) 0) && decide (0 ≤ l) && decide (l = h) && decide (h ≤ n) then some (.sl (P.cellsOf e) []) else none
      | _, _ => none
    | _ => none
  | _ => none
theorem OpT.partx {H0 : List Blk} {t e i n a0 b0 : Nat} {x : Operand} {lo hi : Option Operand} {p q : PV} (ho : o.op = .slice t x lo hi none) (hu : P.underlying t = some (.slice e)) (hx : opd G st x = some p) (hH : Sub H0 H) (hp : (p = .own i n ∧ a0 = 0 ∧ b0 = n) ∨ (p = .ow i n a0 b0 ∧ a0 < b0))
    (h : partx P H0 e p i n a0 b0 (loOf G st lo) (fun n => hiOf G st n hi) = some q) : OpT P G n0 o st H q H := by
  unfold AM.partx at h
  split at h
  · rename_i s ty xs sh hb
    split at h
    · rename_i l h' hlo hhi
      split at h
      · rename_i hc
        simp only [Bool.and_eq_true, decide_eq_true_eq, Bool.not_eq_true'] at hc
        obtain ⟨⟨⟨⟨⟨c1, c2⟩, c3⟩, c4⟩, c5⟩, c6⟩ := hc
        have c1 := Nat.eq_of_beq_eq_true c1
        have c2 := Nat.eq_of_beq_eq_true c2
        have c6 := Nat.le_of_ble_eq_true c6
        have hs0 : s ≠ 0 := by rw [← c2]; exact beq_ne (by rw [c3]; decide)
        split at h
        · rename_i hlt
          have main : OpT P G n0 o st H (.ow i n (a0 + l.toNat) (a0 + h'.toNat)) H := by
            rcases hp with ⟨rfl, rfl, rfl⟩ | ⟨rfl, hab⟩
            · have := OpT.slice_own (P := P) (n0 := n0) ho hu c2 hs0 hx (hH _ _ hb) c1 hlo (by simpa using hhi) c4 hlt (by simpa using c5)
              simpa using this
            · exact OpT.slice_ow ho hu c2 hs0 hx (hH _ _ hb) c1 hab hlo hhi c4 hlt c5
          split at h
          · rename_i hfull
            simp only [Bool.and_eq_true, decide_eq_true_eq] at hfull
            simp only [Option.some.injEq] at h; subst h
            rcases hp with ⟨rfl, rfl, rfl⟩ | ⟨rfl, hab⟩
            · exact OpT.slice_full ho hu c2 hs0 hx (hH _ _ hb) c1 (by rw [hlo, hfull.1]) (by rw [Nat.sub_zero] at hhi hfull; simp only [] at hhi; rw [hhi, hfull.2]) (by have := hfull.2; omega)
            · have e1 : a0 + l.toNat = a0 := by omega
              have e2 : a0 + h'.toNat = b0 := by omega
              rw [e1, e2] at main
              exact main
          · simp only [Option.some.injEq] at h; subst h; exact main
        · split at h
          · rename_i heq
            subst heq
            simp only [Option.some.injEq] at h; subst h
            exact OpT.slice_empty ho hu c2 hs0 hx (by rcases hp with h1 | h1; exact .inl h1; exact .inr h1.1) (hH _ _ hb) c1 hlo hhi c4 c5
          · cases h
      · cases h
    · cases h
  · cases h
theorem OpT.slicex {H0 : List Blk} {t : TypeId} {x : Operand} {lo hi : Option Operand} {p q : PV} (ho : o.op = .slice t x lo hi none) (hx : opd G st x = some p) (hH : Sub H0 H) (h : slicex P H0 t p (loOf G st lo) (fun n => hiOf G st n hi) = some q) : OpT P G n0 o st H q H := by
  unfold AM.slicex at h
  split at h
  · rename_i e hu
    split at h
    · rename_i s xs
      split at h
      · rename_i l h' hlo hhi
        split at h
        · rename_i hc
          simp only [Bool.and_eq_true, decide_eq_true_eq, Bool.not_eq_true'] at hc
          obtain ⟨⟨⟨⟨c1, c2⟩, c3⟩, c4⟩, c5⟩ := hc
          simp only [Option.some.injEq] at h
          have c1 := Nat.eq_of_beq_eq_true c1
          exact OpT.slice ho hu c1 (by rw [← c1]; exact beq_ne (by rw [c2]; decide)) hx (.refl _) hlo hhi c3 c4 c5 h.symm
        · cases h
      · cases h
    · exact OpT.partx ho hu hx hH (.inl ⟨rfl, rfl, rfl⟩) h
    · split at h
      · rename_i hab; exact OpT.partx ho hu hx hH (.inr ⟨rfl, Nat.le_of_ble_eq_true hab⟩) h
      · cases h
    · cases h
  · rename_i n e hu
    split at h
    · split at h
      · rename_i l h' hlo hhi
        split at h
        · rename_i hc
          simp only [Bool.and_eq_true, Bool.or_eq_true, decide_eq_true_eq, Bool.not_eq_true'] at hc
          obtain ⟨⟨⟨c1, c2⟩, c3⟩, c4⟩ := hc
          simp only [Option.some.injEq] at h; subst h
          exact OpT.sliceArr ho hu (beq_ne (by rw [c1]; decide)) hx hlo hhi c2 c3 c4
        · split at h
          · rename_i hc
            simp only [Bool.and_eq_true, decide_eq_true_eq, Bool.not_eq_true'] at hc
            obtain ⟨⟨⟨c1, c2⟩, c3⟩, c4⟩ := hc
            subst c3
            simp only [Option.some.injEq] at h; subst h
            exact OpT.sliceArr_empty ho hu (beq_ne (by rw [c1]; decide)) hx hlo hhi c2 c4
          · cases h
      · cases h
    · cases h
  · cases h
/-- Is the new slice only there to be appended? -/
def tempLit (ops : Array Oper) (o : Oper) : Bool := match o.dst with
  | none => false
  | some d => ops.any fun q => match q.op with
    | .call cl => match cl.callee with
      | .builtin .append => match cl.args.toList with
        | [_, .tmp t] => Nat.beq t d
        | _ => false
      | _ => false
    | _ => false
def isOwn : PV → Bool
  | .own _ _ => true
  | .ow _ _ _ _ => true
  | _ => false
/-- Two numbers of one kind. -/
def sameK : IntKind → IntKind → Bool
  | .i64, .i64 | .u64, .u64 | .u32, .u32 | .u16, .u16 | .u8, .u8 | .i32, .i32 | .i16, .i16 | .i8, .i8 => true
  | _, _ => false
theorem sameK_eq {k k' : IntKind} (h : sameK k k' = true) : k = k' := by cases k <;> cases k' <;> first | rfl | cases h
def ltI : Int → Int → Bool
  | .ofNat a, .ofNat b => Nat.blt a b
  | .negSucc _, .ofNat _ => true
  | .ofNat _, .negSucc _ => false
  | .negSucc a, .negSucc b => Nat.blt b a
def eqI : Int → Int → Bool
  | .ofNat a, .ofNat b => Nat.beq a b
  | .negSucc a, .negSucc b => Nat.beq a b
  | _, _ => false
theorem blt_iff {a b : Nat} : Nat.blt a b = true ↔ a < b := by rw [Nat.blt_eq]
theorem ltI_ok : ∀ (a b : Int), ltI a b = decide (a < b)
  | .ofNat a, .ofNat b => by
    have : (Int.ofNat a < Int.ofNat b) ↔ a < b := by simp
    rw [Bool.eq_iff_iff]; simp only [ltI, blt_iff, decide_eq_true_eq, this]
  | .negSucc a, .ofNat b => by simp [ltI]; omega
  | .ofNat a, .negSucc b => by simp [ltI]; omega
  | .negSucc a, .negSucc b => by
    rw [Bool.eq_iff_iff]; simp only [ltI, blt_iff, decide_eq_true_eq]; omega
theorem eqI_ok : ∀ (a b : Int), eqI a b = (a == b)
  | .ofNat a, .ofNat b => by
    rw [Bool.eq_iff_iff]; simp only [eqI, beq_iff_eq, Int.ofNat.injEq]; exact ⟨fun h => Nat.eq_of_beq_eq_true h, fun h => by rw [h, Nat.beq_refl]⟩
  | .negSucc a, .ofNat b => by simp [eqI]
  | .ofNat a, .negSucc b => by simp [eqI]
  | .negSucc a, .negSucc b => by
    rw [Bool.eq_iff_iff]; simp only [eqI, beq_iff_eq, Int.negSucc.injEq]; exact ⟨fun h => Nat.eq_of_beq_eq_true h, fun h => by rw [h, Nat.beq_refl]⟩
theorem not_lt (a b : Int) : (!decide (b < a)) = decide (a ≤ b) := by
  rw [Bool.eq_iff_iff]; simp
def topI : IntKind → Nat
  | .i8 => 128
  | .i16 => 32768
  | .i32 => 2147483648
  | .i64 => 9223372036854775808
  | .u8 => 256
  | .u16 => 65536
  | .u32 => 4294967296
  | .u64 => 18446744073709551616
def modI : IntKind → Nat
  | .i8 | .u8 => 256
  | .i16 | .u16 => 65536
  | .i32 | .u32 => 4294967296
  | .i64 | .u64 => 18446744073709551616
def wrapI (k : IntKind) : Int → Int
  | .ofNat m => match Nat.blt m (topI k) with
    | true => .ofNat m
    | false => k.wrap (.ofNat m)
  | n => k.wrap n
theorem wrapI_ok (k : IntKind) : ∀ (n : Int), wrapI k n = k.wrap n
  | .negSucc m => rfl
  | .ofNat m => by
    show (match Nat.blt m (topI k) with | true => Int.ofNat m | false => k.wrap (.ofNat m)) = _
    cases hb : Nat.blt m (topI k) with
    | false => rfl
    | true =>
      rw [blt_iff] at hb
      cases k <;> simp only [topI] at hb <;> simp [IntKind.wrap, IntKind.bits, IntKind.signed] <;> omega
theorem bits_mod (k : IntKind) : 2 ^ k.bits = modI k := by cases k <;> rfl
/-- Shifts of numbers that are not negative. -/
def binS (op : BinOp) (k : IntKind) : Int → Int → Option Value
  | .ofNat a, .ofNat s => match op with
    | .shl => some (.int k (wrapI k (.ofNat (a * 2 ^ (min s k.bits)))))
    | .shr => some (.int k (.ofNat (a / 2 ^ (min s k.bits))))
    | _ => none
  | _, _ => none
theorem OpT.binS {op : BinOp} {t t' : TypeId} {x y : Operand} {k k' : IntKind} {a b : Int} {v : Value} (ho : o.op = .binOp op t x y t') (hx : opd G st x = some (.sc (.int k a))) (hy : opd G st y = some (.sc (.int k' b))) (h : binS op k a b = some v) : OpT P G n0 o st H (.sc v) H :=
  OpT.value fun c ac w β hn hr => by
    have h1 := hr.opd hx
    have h2 := hr.opd hy
    simp only [VR] at h1 h2
    refine ⟨v, ?_, by simp only [VR]⟩
    unfold AM.binS at h
    split at h
    · rename_i a s
      have hs : ¬ ((Int.ofNat s) < 0) := by simp
      split at h
      · simp only [Option.some.injEq] at h; subst h
        rw [wrapI_ok]
        have hs' : ¬ ((s : Int) < 0) := by omega
        simp [execOp, ho, h1, h2, eqGuard, binOp, Op.shift, hs']
      · simp only [Option.some.injEq] at h; subst h
        have hs' : ¬ ((s : Int) < 0) := by omega
        have hf : ((a : Int)).fdiv (2 ^ min s k.bits) = (a : Int) / 2 ^ min s k.bits := Int.fdiv_eq_ediv_of_nonneg _ (by
          have : (0 : Int) ≤ ((2 ^ min s k.bits : Nat) : Int) := Int.natCast_nonneg _
          simpa using this)
        simp [execOp, ho, h1, h2, eqGuard, binOp, Op.shift, hs', hf]
      · cases h
    · cases h
/-- Bits of numbers that are not negative. -/
def binB (op : BinOp) (k : IntKind) : Int → Int → Option Value
  | .ofNat a, .ofNat b => match op with
    | .and => some (.int k (wrapI k (.ofNat (Nat.land (a % modI k) (b % modI k)))))
    | .or => some (.int k (wrapI k (.ofNat (Nat.lor (a % modI k) (b % modI k)))))
    | .xor => some (.int k (wrapI k (.ofNat (Nat.xor (a % modI k) (b % modI k)))))
    | _ => none
  | _, _ => none
theorem ofInt_nat (k : IntKind) (a : Nat) : (BitVec.ofInt k.bits (Int.ofNat a)).toNat = a % modI k := by
  rw [BitVec.toNat_ofInt, ← bits_mod]
  have : (Int.ofNat a % ((2 ^ k.bits : Nat) : Int)) = ((a % 2 ^ k.bits : Nat) : Int) := rfl
  rw [this]; rfl
theorem OpT.binB {op : BinOp} {t t' : TypeId} {x y : Operand} {k k' : IntKind} {a b : Int} {v : Value} (ho : o.op = .binOp op t x y t') (hx : opd G st x = some (.sc (.int k a))) (hy : opd G st y = some (.sc (.int k' b))) (hk : sameK k k' = true) (h : binB op k a b = some v) : OpT P G n0 o st H (.sc v) H :=
  OpT.value fun c ac w β hn hr => by
    have h1 := hr.opd hx
    have h2 := hr.opd hy
    simp only [VR] at h1 h2
    have := sameK_eq hk
    subst this
    refine ⟨v, ?_, by simp only [VR]⟩
    unfold AM.binB at h
    split at h
    · rename_i a b
      split at h
      · simp only [Option.some.injEq] at h; subst h
        rw [wrapI_ok, ← ofInt_nat, ← ofInt_nat]
        have : Nat.land (BitVec.ofInt k.bits (Int.ofNat a)).toNat (BitVec.ofInt k.bits (Int.ofNat b)).toNat = (BitVec.ofInt k.bits (Int.ofNat a) &&& BitVec.ofInt k.bits (Int.ofNat b)).toNat := (BitVec.toNat_and ..).symm
        rw [this]
        simp only [execOp, ho, h1, h2, eqGuard, binOp, Op.intBits]
        simp
      · simp only [Option.some.injEq] at h; subst h
        rw [wrapI_ok, ← ofInt_nat, ← ofInt_nat]
        have : Nat.lor (BitVec.ofInt k.bits (Int.ofNat a)).toNat (BitVec.ofInt k.bits (Int.ofNat b)).toNat = (BitVec.ofInt k.bits (Int.ofNat a) ||| BitVec.ofInt k.bits (Int.ofNat b)).toNat := (BitVec.toNat_or ..).symm
        rw [this]
        simp only [execOp, ho, h1, h2, eqGuard, binOp, Op.intBits]
        simp
      · simp only [Option.some.injEq] at h; subst h
        rw [wrapI_ok, ← ofInt_nat, ← ofInt_nat]
        have : Nat.xor (BitVec.ofInt k.bits (Int.ofNat a)).toNat (BitVec.ofInt k.bits (Int.ofNat b)).toNat = (BitVec.ofInt k.bits (Int.ofNat a) ^^^ BitVec.ofInt k.bits (Int.ofNat b)).toNat := (BitVec.toNat_xor ..).symm
        rw [this]
        simp only [execOp, ho, h1, h2, eqGuard, binOp, Op.intBits]
        simp
      · cases h
    · cases h
/-- The common operators on numbers. -/
def binI (op : BinOp) (k : IntKind) (a b : Int) : Option Value := match op with
  | .add => some (.int k (wrapI k (a + b)))
  | .sub => some (.int k (wrapI k (a - b)))
  | .mul => some (.int k (wrapI k (a * b)))
  | .eql => some (.bool (eqI a b))
  | .neq => some (.bool (!eqI a b))
  | .lss => some (.bool (ltI a b))
  | .gtr => some (.bool (ltI b a))
  | .leq => some (.bool (!ltI b a))
  | .geq => some (.bool (!ltI a b))
  | _ => none
theorem OpT.binI {op : BinOp} {t t' : TypeId} {x y : Operand} {k k' : IntKind} {a b : Int} {v : Value} (ho : o.op = .binOp op t x y t') (hx : opd G st x = some (.sc (.int k a))) (hy : opd G st y = some (.sc (.int k' b))) (hk : sameK k k' = true) (h : binI op k a b = some v) : OpT P G n0 o st H (.sc v) H :=
  OpT.value fun c ac w β hn hr => by
    have h1 := hr.opd hx
    have h2 := hr.opd hy
    simp only [VR] at h1 h2
    have := sameK_eq hk
    subst this
    refine ⟨v, ?_, by simp only [VR]⟩
    cases op <;> simp only [AM.binI, Option.some.injEq, reduceCtorEq] at h <;> subst h <;> simp [execOp, ho, h1, h2, eqGuard, binOp, Op.intArith, Op.intCmp, ltI_ok, eqI_ok, bne, not_lt, wrapI_ok]
/-- An operation that leaves all blocks as they are. -/
def quietx (P : Program) (G : Glob) (lit : Bool) (st : St) (H : List Blk) (o : Oper) : Option PV :=
  match o.op with
  | .move x => opd G st x
  | .assign x => opd G st x
  | .pick x y z => match opd G st x with
    | some (.sc (.bool b)) => opd G st (if b then y else z)
    | _ => none
  | .load t x => match opd G st x with
    | some p => ldx P H t p
    | none => none
  | .nilCheck x => match opd G st x with
    | some p => nilx H p
    | none => none
  | .extract x k => match opd G st x with
    | some (.tup cs) => cs[k]?
    | _ => stepV P G st o
  | .fieldAddr s x f => match opd G st x with
    | some p => fieldx P H s f p
    | none => none
  | .indexAddr t x y => match opd G st x, opd G st y with
    | some p, some (.sc (.int _ j)) => idxx P H t p j
    | _, _ => none
  | .field t x f => match opd G st x with
    | some (.agg cs) => match P.underlying t with
      | some (.struct fs) => match fs[f]? with
        | some fd => ldPV P fd.type (cs.drop fd.offset)
        | none => none
      | _ => none
    | _ => stepV P G st o
  | .index t x y => match opd G st x, opd G st y with
    | some (.agg cs), some (.sc (.int _ j)) => match P.underlying t with
      | some (.array n e) => if Nat.beq (P.cellsOf e) 0 = false ∧ 0 ≤ j ∧ j < n then ldPV P e (cs.drop (j.toNat * P.cellsOf e)) else none
      | _ => none
    | _, _ => stepV P G st o
  | .build t parts => match opds G st parts.toList with
    | some ps => if ps.any (fun x => isOwn x.2) then none else (buildPV P t ps).map (aggLow P t)
    | none => none
  | .buildSlice t len parts => if lit then match opds G st parts.toList with
      | some ps => match litPV P t len ps with
        | some (e, out) => if PV.idss (fun _ => false) out then some (.sl (P.cellsOf e) (rowsOf (P.cellsOf e) len out)) else none
        | none => none
      | none => none
    else none
  | .makeFunc fn first captured => match fn, first, opdL G st captured.toList with
    | .func f, ⟨[]⟩, some ps => some (.fn f ps)
    | _, _, _ => none
  | .call cl => match cl with
    | { callee := .builtin .len, args := ⟨[x]⟩, argTypes := ⟨[T0]⟩ } => match P.underlying T0, opd G st x with
      | some (.slice _), some (.sc _) => stepV P G st o
      | some (.slice _), some p => (lenx H p).map fun m => .sc (.int .i64 m)
      | _, _ => stepV P G st o
    | { callee := .builtin .min, args := _, argTypes := _ } => stepV P G st o
    | { callee := .builtin .max, args := _, argTypes := _ } => stepV P G st o
    | { callee := .value (.func f), args := _, argTypes := _ } => match P.funcs[f]? with
      | some fn => if fn.body.isNone then stepV P G st o else none
      | none => none
    | _ => none
  | .slice t x lo hi none => match opd G st x with
    | some (.sc _) => stepV P G st o
    | some p => slicex P H t p (loOf G st lo) (fun n => hiOf G st n hi)
    | none => none
  | .binOp op t x y _ => match opd G st x, opd G st y with
    | some (.sc (.agg xs)), some (.sc (.agg ys)) => if P.eqGuardType P.depth t then none else match op with
      | .eql => (flatEq P 50 t (.agg xs) (.agg ys)).map fun b => .sc (.bool b)
      | .neq => (flatEq P 50 t (.agg xs) (.agg ys)).map fun b => .sc (.bool (!b))
      | _ => none
    | some (.sc (.int k a)), some (.sc (.int k' b)) => match sameK k k' with
      | true => match binI op k a b with
        | some v => some (.sc v)
        | none => match binB op k a b with
          | some v => some (.sc v)
          | none => match binS op k a b with
            | some v => some (.sc v)
            | none => stepV P G st o
      | false => match binS op k a b with
        | some v => some (.sc v)
        | none => stepV P G st o
    | some (.sc _), some (.sc _) => stepV P G st o
    | some p, some (.sc (.slice none 0 0)) => match op, P.underlying t with
      | .eql, some (.slice _) => if notNil H p then some (.sc (.bool false)) else none
      | .neq, some (.slice _) => if notNil H p then some (.sc (.bool true)) else none
      | _, _ => none
    | some (.ptr _ _), some (.sc (.pointer none)) => match op, P.underlying t with
      | .eql, some (.pointer _) => some (.sc (.bool false))
      | .neq, some (.pointer _) => some (.sc (.bool true))
      | _, _ => none
    | some (.ro _ _), some (.sc (.pointer none)) => match op, P.underlying t with
      | .eql, some (.pointer _) => some (.sc (.bool false))
      | .neq, some (.pointer _) => some (.sc (.bool true))
      | _, _ => none
    | _, _ => none
  | .unOp .. => stepV P G st o
  | .convert s d x => match strx P G st H s d x with
    | some p => some p
    | none => stepV P G st o
  | _ => none
theorem OpT.of_stepV {p : PV} (h : stepV P G st o = some p) (hm : stepMem P G st H o.op = none) : OpT P G n0 o st H p H := OpT.of_step (by unfold step; rw [hm, h]; rfl)
theorem OpT.of_stepV' {p : PV} (h : stepV P G st o = some p) : OpT P G n0 o st H p H := by
  unfold stepV at h
  split at h
  · rename_i hc
    simp only [Bool.and_eq_true] at hc
    split at h
    · rename_i v hv
      simp only [Option.some.injEq] at h; subst h
      exact OpT.calm hc.1 hc.2 hv
    · cases h
  · cases h
theorem notNil_sub {H0 : List Blk} (hH : Sub H0 H) {p : PV} (h : notNil H0 p = true) : notNil H p = true := by
  unfold notNil at h
  split at h
  · rename_i i n
    split at h
    · rename_i s t xs sh hb
      simp only [notNil, hH _ _ hb]
      exact h
    · cases h
  · rfl
  · exact h
  · rename_i i n _ _
    split at h
    · rename_i s t xs sh hb
      simp only [notNil, hH _ _ hb]
      exact h
    · cases h
  · cases h
  · cases h
theorem OpT.of_quiet {H0 : List Blk} {lit : Bool} {p : PV} (hH : Sub H0 H) (h : quietx P G lit st H0 o = some p) : OpT P G n0 o st H p H := by
  unfold quietx at h
  split at h
  · rename_i x ho; exact OpT.move (.inl ho) h
  · rename_i x ho; exact OpT.move (.inr ho) h
  · rename_i x y z ho
    split at h
    · rename_i b hb; exact OpT.pick ho hb h
    · cases h
  · rename_i t x ho
    split at h
    · rename_i q hx; exact OpT.ldx ho hx hH h
    · cases h
  · rename_i x ho
    split at h
    · rename_i q hx; exact OpT.nilx ho hx hH h
    · cases h
  · rename_i x k ho
    split at h
    · rename_i cs hx; exact OpT.extract ho hx h
    · exact OpT.of_stepV' h
  · rename_i s x f ho
    split at h
    · rename_i q hx; exact OpT.fieldx ho hx hH h
    · cases h
  · rename_i t x y ho
    split at h
    · rename_i q k j hx hy; exact OpT.idxx ho hx hy hH h
    · cases h
  · rename_i t x f ho
    split at h
    · rename_i cs hx
      split at h
      · rename_i fs hu
        split at h
        · rename_i fd hf; exact OpT.field ho hu hf hx h
        · cases h
      · cases h
    · exact OpT.of_stepV' h
  · rename_i t x y ho
    split at h
    · rename_i cs k j hx hy
      split at h
      · rename_i n e hu
        split at h
        · rename_i hc; exact OpT.indexAggT ho hu hc.1 hx hy hc.2.1 hc.2.2 h
        · cases h
      · cases h
    · exact OpT.of_stepV' h
  · rename_i t parts ho
    split at h
    · rename_i ps hp
      split at h
      · cases h
      · simp only [Option.map_eq_some_iff] at h
        obtain ⟨q, hq, rfl⟩ := h
        exact OpT.aggLow t (OpT.build ho hp hq)
    · cases h
  · rename_i t len parts ho
    split at h
    · split at h
      · rename_i ps hp
        split at h
        · rename_i e out hl
          split at h
          · rename_i hc
            simp only [Option.some.injEq] at h
            exact OpT.lit ho hp hl hc h.symm
          · cases h
        · cases h
      · cases h
    · cases h
  · rename_i fn first captured ho
    split at h
    · rename_i f ps hc
      simp only [Option.some.injEq] at h; subst h
      exact OpT.makeFunc ho (opdL_spec _ _ hc)
    · cases h
  · rename_i cl ho
    split at h
    · rename_i x T0
      split at h
      · exact OpT.of_stepV' h
      · rename_i e q _ hu hx
        simp only [Option.map_eq_some_iff] at h
        obtain ⟨m, hm, rfl⟩ := h
        exact OpT.lenx ho rfl hu hx hH hm
      · exact OpT.of_stepV' h
    · exact OpT.of_stepV' h
    · exact OpT.of_stepV' h
    · split at h
      · split at h
        · exact OpT.of_stepV' h
        · cases h
      · cases h
    · cases h
  · rename_i t x lo hi ho
    split at h
    · exact OpT.of_stepV' h
    · rename_i q _ hx; exact OpT.slicex ho hx hH h
    · cases h
  · rename_i op t x y t' ho
    split at h
    · rename_i xs ys hx hy
      split at h
      · cases h
      · rename_i hg
        split at h
        · simp only [Option.map_eq_some_iff] at h
          obtain ⟨b, hb, rfl⟩ := h
          exact OpT.eqAgg ho hx hy (by simpa using hg) hb
        · simp only [Option.map_eq_some_iff] at h
          obtain ⟨b, hb, rfl⟩ := h
          exact OpT.neqAgg ho hx hy (by simpa using hg) hb
        · cases h
    · rename_i k a k' b hx hy
      split at h
      · rename_i hk
        split at h
        · rename_i v hv
          simp only [Option.some.injEq] at h; subst h
          exact OpT.binI ho hx hy hk hv
        · split at h
          · rename_i v hv
            simp only [Option.some.injEq] at h; subst h
            exact OpT.binB ho hx hy hk hv
          · split at h
            · rename_i v hv
              simp only [Option.some.injEq] at h; subst h
              exact OpT.binS ho hx hy hv
            · exact OpT.of_stepV' h
      · split at h
        · rename_i v hv
          simp only [Option.some.injEq] at h; subst h
          exact OpT.binS ho hx hy hv
        · exact OpT.of_stepV' h
    · exact OpT.of_stepV' h
    · rename_i q _ hx hy
      split at h
      · rename_i e hu
        split at h
        · rename_i hn
          simp only [Option.some.injEq] at h; subst h
          exact OpT.eqNil ho hu hx (notNil_sub hH hn) hy
        · cases h
      · rename_i e hu
        split at h
        · rename_i hn
          simp only [Option.some.injEq] at h; subst h
          exact OpT.neqNil ho hu hx (notNil_sub hH hn) hy
        · cases h
      · cases h
    · rename_i hx hy
      split at h
      · rename_i e hu
        simp only [Option.some.injEq] at h; subst h
        exact OpT.ptrNil ho hu hx trivial hy
      · rename_i e hu
        simp only [Option.some.injEq] at h; subst h
        exact OpT.ptrNotNil ho hu hx trivial hy
      · cases h
    · rename_i hx hy
      split at h
      · rename_i e hu
        simp only [Option.some.injEq] at h; subst h
        exact OpT.ptrNil ho hu hx trivial hy
      · rename_i e hu
        simp only [Option.some.injEq] at h; subst h
        exact OpT.ptrNotNil ho hu hx trivial hy
      · cases h
    · cases h
  · exact OpT.of_stepV' h
  · rename_i s d x ho
    split at h
    · rename_i q hq
      simp only [Option.some.injEq] at h; subst h
      exact OpT.strx ho hH hq
    · exact OpT.of_stepV' h
  · cases h
end
end Go.AM

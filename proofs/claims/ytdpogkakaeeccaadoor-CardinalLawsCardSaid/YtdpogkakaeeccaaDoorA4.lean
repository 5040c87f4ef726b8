/- One operation at a time over abstract states: a function that carries out every operation whose outcome is plain, and that it is right. No condition. -/
import Derived.Test.YtdpogkakaeeccaaDoorA3
namespace Go.AM

/-- A computation that does not look at the world. -/
def calm {α : Type} (P : Program) : Sem α → Option α
  | .pure a => some a
  | .program k => calm P (k P)
  | .mark _ k => calm P k
  | _ => none
theorem calm_run {α : Type} {P : Program} : ∀ {s : Sem α} {a : α}, calm P s = some a → ∀ w, s.run P w = .ok a w
  | .pure a, b, h, w => by simp only [calm, Option.some.injEq] at h; subst h; rfl
  | .program k, b, h, w => by simp only [calm] at h; exact calm_run (s := k P) h w
  | .mark m k, b, h, w => by simp only [calm] at h; exact calm_run (s := k) h w

/-- The exact value of an operand (where it has one). -/
def ev (G : Glob) (st : St) (x : Operand) : Value := match opd G st x with | some (.sc v) => v | _ => undef
def exact1 (G : Glob) (st : St) (x : Operand) : Bool := match opd G st x with | some (.sc _) => true | _ => false
def notSelect : Op → Bool | .select .. => false | _ => true

def PV.one : PV → Bool | .sc v => v.oneCell' | .agg _ | .tup _ => false | _ => true
theorem VR.one {S : Nat → Nat → Prop} {β : List Bnd} {w : World} {p : PV} {u : Value} (hp : p.one = true) (h : VR S β w p u) : u.oneCell' = true := by
  cases p with
  | sc v => simp only [VR] at h; subst h; exact hp
  | agg cs => simp [PV.one] at hp
  | tup cs => simp [PV.one] at hp
  | ptr i off => simp only [VR] at h; obtain ⟨us, _, rfl⟩ := h; rfl
  | ro cs off => simp only [VR] at h; obtain ⟨_, _, rfl, _⟩ := h; rfl
  | sl s xs => simp only [VR] at h; obtain ⟨_, _, rfl, _⟩ := h; rfl
  | mp i => simp only [VR] at h; obtain ⟨us, _, rfl⟩ := h; rfl
  | fn f cs => simp only [VR] at h; obtain ⟨us, rfl, _⟩ := h; rfl
  | own i n => simp only [VR] at h; exact h.1
  | ept i n k off => simp only [VR] at h; exact h.1
  | ow i n lo hi => simp only [VR] at h; exact h.1
  | z => simp only [VR] at h; obtain ⟨_, rfl⟩ := h; rfl
  | vw i off n => simp only [VR] at h; obtain ⟨_, _, _, _, _, rfl, _⟩ := h; rfl
theorem VRs.one {S : Nat → Nat → Prop} {β : List Bnd} {w : World} : ∀ {ps : List PV} {us : List Value}, (ps.all PV.one) = true → VRs S β w ps us → ∀ u ∈ us, u.oneCell' = true
  | [], [], _, _ => by simp
  | [], _ :: _, _, h => by simp only [VRs] at h
  | _ :: _, [], _, h => by simp only [VRs] at h
  | p :: ps, u :: us, hp, h => by
    simp only [VRs] at h
    simp only [List.all_cons, Bool.and_eq_true] at hp
    intro v hv
    rcases List.mem_cons.1 hv with rfl | hv
    · exact VR.one hp.1 h.1
    · exact VRs.one hp.2 h.2 v hv

section
variable {P : Program} {G : Glob} {n0 : Nat} {o : Oper} {st : St} {H : List Blk}

theorem OpT.value {p : PV} (h : ∀ c a w β, c.β0.length ≤ n0 → RelB G c β st H a w → ∃ v, (execOp a.eval o).run P w = .ok (.value v) w ∧ VR (stab c β H w) β w p v) : OpT P G n0 o st H p H := by
  intro c a w β h0 hr
  obtain ⟨v, h1, h2⟩ := h c a w β h0 hr
  simp only [wpv, h1]
  exact ⟨β, hr, h2, BExt.refl _ _, Ext.refl _ _⟩

theorem OpT.calm {n : Value} (hs : notSelect o.op = true) (hx : o.op.operands.all (exact1 G st) = true) (hc : calm P (execOp (ev G st) o) = some (.value n)) : OpT P G n0 o st H (.sc n) H := by
  refine OpT.value fun c a w β h0 hr => ⟨n, ?_, by simp only [VR]⟩
  rw [execOp_congr (ρ' := ev G st) o (fun cs b h => by rw [h] at hs; simp [notSelect] at hs) fun x hx' => ?_]
  · exact calm_run hc w
  · have h1 := Array.all_eq_true.1 hx
    obtain ⟨i, hi, rfl⟩ := Array.mem_iff_getElem.1 hx'
    have h2 := h1 i hi
    unfold exact1 at h2
    cases he : opd G st o.op.operands[i] with
    | none => simp [he] at h2
    | some p =>
      cases p <;> simp [he] at h2
      have := hr.opd he
      simp only [VR] at this
      simp only [ev, he]; exact this

theorem OpT.move {x : Operand} {p : PV} (ho : o.op = .move x ∨ o.op = .assign x) (hx : opd G st x = some p) : OpT P G n0 o st H p H :=
  OpT.value fun c a w β h0 hr => ⟨a.eval x, by rcases ho with ho | ho <;> simp [execOp, ho], hr.opd hx⟩

theorem OpT.pick {x y z : Operand} {b : Bool} {p : PV} (ho : o.op = .pick x y z) (hx : opd G st x = some (.sc (.bool b))) (hy : opd G st (if b then y else z) = some p) : OpT P G n0 o st H p H :=
  OpT.value fun c a w β h0 hr => by
    have h1 := hr.opd hx
    simp only [VR] at h1
    refine ⟨a.eval (if b then y else z), ?_, hr.opd hy⟩
    cases b <;> simp [execOp, ho, h1, asBool]

theorem OpT.load_ptr {t : TypeId} {x : Operand} {i off : Nat} {cs : List PV} {p : PV} (ho : o.op = .load t x) (hx : opd G st x = some (.ptr i off)) (hc : H[i]? = some (.cells cs))
    (hl : ldPV P t (cs.drop off) = some p) : OpT P G n0 o st H p H :=
  OpT.value fun c a w β h0 hr => by
    have h1 := hr.opd hx
    simp only [VR] at h1
    obtain ⟨e, h2, h3⟩ := h1
    obtain ⟨_, vs, ty, h4, h5⟩ := hr.blk i e _ h2 hc
    obtain ⟨v, h6, h7⟩ := run_ld (P := P) (drop_row (off := off) h4 h5) hl
    exact ⟨v, by simp [execOp, ho, Instr.loadAt, h3, Instr.sureAddr, h6], h7⟩

theorem VRow.nobnd {S : Nat → Nat → Prop} {β : List Bnd} {w : World} {b o : Nat} {ps : List PV} (h : VRow S [] w b o ps) : VRow S β w b o ps := by
  obtain ⟨us, h1, h2⟩ := VRow.cells ps o h
  exact VRow.mk ps us o (VRs.ext_all (Ext.refl S w) (fun i e _ h => by simp at h) h1) h2

theorem OpT.load_ro {t : TypeId} {x : Operand} {off : Nat} {cs : List PV} {p : PV} (ho : o.op = .load t x) (hx : opd G st x = some (.ro cs off))
    (hl : ldPV P t (cs.drop off) = some p) : OpT P G n0 o st H p H :=
  OpT.value fun c a w β h0 hr => by
    have h1 := hr.opd hx
    simp only [VR] at h1
    obtain ⟨b, of, h2, h3, h4⟩ := h1
    obtain ⟨v, h6, h7⟩ := run_ld (P := P) (VRow.nobnd (β := β) (VRow.drop cs of off h4)) hl
    exact ⟨v, by simp [execOp, ho, Instr.loadAt, h2, Instr.sureAddr, h6], h7⟩

theorem addr_add (b o n : Nat) : (⟨b, o, none⟩ : Addr).add n = ⟨b, o + n, none⟩ := by unfold Addr.add; split <;> simp_all

theorem run_size {t : TypeId} {n : Nat} (hn : P.cellsOf t = n) (h0 : n ≠ 0) (w : World) : (sizeOf t).run P w = .ok n w := by
  cases hi : P.info? t with
  | none => simp [Program.cellsOf, hi] at hn; omega
  | some i => rw [run_sizeOf w hi, hn]

theorem OpT.fieldAddr {s : TypeId} {x : Operand} {f : Nat} {fs : Array Field} {fd : Field} (ho : o.op = .fieldAddr s x f) (hu : P.underlying s = some (.struct fs)) (hf : fs[f]? = some fd) (hz : P.cellsOf fd.type ≠ 0)
    {p q : PV} (hx : opd G st x = some p)
    (hq : match p with | .ptr i off => q = .ptr i (off + fd.offset) | .ro cs off => q = .ro cs (off + fd.offset) | .ept i n k off => q = .ept i n k (off + fd.offset) ∧ ∃ s t xs sh, H[i]? = some (.buf s t xs sh) ∧ n = xs.length | _ => False) : OpT P G n0 o st H q H :=
  OpT.value fun c a w β h0 hr => by
    have h1 := hr.opd hx
    have run : ∀ b off, a.eval x = .pointer (some ⟨b, off, none⟩) → (execOp a.eval o).run P w = .ok (.value (.pointer (some ⟨b, off + fd.offset, none⟩))) w := fun b off he => by
      simp [execOp, ho, Instr.fieldAt, run_underlying hu, hf, he, Instr.sureAddr, fieldPlace, run_size rfl hz, hz, addr_add]
    cases p with
    | ptr i off =>
      simp only at hq; subst hq
      simp only [VR] at h1 ⊢
      obtain ⟨e, h2, h3⟩ := h1
      exact ⟨_, run _ _ h3, e, h2, rfl⟩
    | ro cs off =>
      simp only at hq; subst hq
      simp only [VR] at h1 ⊢
      obtain ⟨b, of, h2, h3, h4⟩ := h1
      refine ⟨_, run _ _ h2, b, of, ?_, h3, h4⟩
      rw [Nat.add_assoc]
    | ept i n k off =>
      simp only at hq; obtain ⟨rfl, s', t', xs, sh, hb, hn⟩ := hq
      simp only [VR] at h1 ⊢
      obtain ⟨g0, e, h2, h3, h4⟩ := h1
      obtain ⟨h5, _⟩ := hr.blk i e _ h2 hb
      obtain ⟨g, h6, h7⟩ := h4 (by omega)
      refine ⟨_, run _ _ h7, rfl, e, h2, h3, fun _ => ⟨g, h6, ?_⟩⟩
      rw [Nat.add_assoc]
    | _ => simp only at hq

theorem OpT.index_arr {t e : TypeId} {n : Nat} {x y : Operand} {k : IntKind} {j : Int} (ho : o.op = .indexAddr t x y) (hu : P.underlying t = some (.array n e)) (hz : P.cellsOf e ≠ 0) (hy : opd G st y = some (.sc (.int k j)))
    (h0 : 0 ≤ j) (h1 : j < n) {p q : PV} (hx : opd G st x = some p)
    (hq : match p with | .ptr i off => q = .ptr i (off + j.toNat * P.cellsOf e) | .ro cs off => q = .ro cs (off + j.toNat * P.cellsOf e) | _ => False) : OpT P G n0 o st H q H :=
  OpT.value fun c a w β hn hr => by
    have g1 := hr.opd hx
    have g2 := hr.opd hy
    simp only [VR] at g2
    have run : ∀ b off, a.eval x = .pointer (some ⟨b, off, none⟩) → (execOp a.eval o).run P w = .ok (.value (.pointer (some ⟨b, off + j.toNat * P.cellsOf e, none⟩))) w := fun b off he => by
      simp [execOp, ho, Instr.indexAt, asIntOf, run_underlying hu, he, g2, Instr.sureAddr, run_size rfl hz, addr_add, h0, h1]
    cases p with
    | ptr i off =>
      simp only at hq; subst hq
      simp only [VR] at g1 ⊢
      obtain ⟨e, h2, h3⟩ := g1
      exact ⟨_, run _ _ h3, e, h2, rfl⟩
    | ro cs off =>
      simp only at hq; subst hq
      simp only [VR] at g1 ⊢
      obtain ⟨b, of, h2, h3, h4⟩ := g1
      refine ⟨_, run _ _ h2, b, of, ?_, h3, h4⟩
      rw [Nat.add_assoc]
    | _ => simp only at hq

theorem VRows.get {S : Nat → Nat → Prop} {β : List Bnd} {w : World} {b s : Nat} : ∀ {xs : List (List PV)} {o i : Nat} {x : List PV}, VRows S β w b s o xs → xs[i]? = some x → x.length = s ∧ VRow S β w b (o + i * s) x
  | [], o, i, x, _, h => by simp at h
  | y :: xs, o, 0, x, h, hi => by simp only [VRows] at h; simp at hi; subst hi; simpa using h.1
  | y :: xs, o, i + 1, x, h, hi => by
    simp only [VRows] at h
    have := VRows.get h.2 (i := i) (x := x) (by simpa using hi)
    rw [show o + (i + 1) * s = o + s + i * s by rw [Nat.succ_mul]; omega]
    exact this

/-- The place of an element of a slice that nobody writes. -/
theorem OpT.index_sl {t e : TypeId} {x y : Operand} {k : IntKind} {j : Int} {xs : List (List PV)} {z : List PV} (ho : o.op = .indexAddr t x y) (hu : P.underlying t = some (.slice e)) (hz : P.cellsOf e ≠ 0)
    (hx : opd G st x = some (.sl (P.cellsOf e) xs)) (hy : opd G st y = some (.sc (.int k j))) (h0 : 0 ≤ j) (h1 : xs[j.toNat]? = some z) : OpT P G n0 o st H (.ro z 0) H :=
  OpT.value fun c a w β hn hr => by
    have g1 := hr.opd hx
    have g2 := hr.opd hy
    simp only [VR] at g1 g2
    obtain ⟨ad, cap, g3, _, g4⟩ := g1
    have hl : j.toNat < xs.length := (List.getElem?_eq_some_iff.1 h1).1
    rcases g4 with rfl | ⟨b, of, rfl, g5, g6⟩
    · simp at hl
    · obtain ⟨g7, g8⟩ := VRows.get g6 h1
      refine ⟨.pointer (some ⟨b, of + j.toNat * P.cellsOf e, none⟩), ?_, ?_⟩
      · simp [execOp, ho, Instr.indexAt, asIntOf, run_underlying hu, g3, g2, run_size rfl hz, addr_add, h0, show j < (xs.length : Int) by omega]
      · simp only [VR]
        refine ⟨b, of + j.toNat * P.cellsOf e, by simp, hr.ok.stab g5 ?_, g8⟩
        have : (j.toNat + 1) * P.cellsOf e ≤ xs.length * P.cellsOf e := Nat.mul_le_mul_right _ hl
        rw [Nat.succ_mul] at this
        omega

/-- A store into cells of an abstract block. -/
theorem OpT.store {t : TypeId} {x y : Operand} {i off : Nat} {cs : List PV} {p : PV} (ho : o.op = .store t x y) (hx : opd G st x = some (.ptr i off)) (hy : opd G st y = some p) (hc : H[i]? = some (.cells cs))
    (hn : P.cellsOf t = p.cells.length) (ht : (P.info? t).isSome = true) (hl : off + p.cells.length ≤ cs.length) (h1 : (p.cells.all PV.one) = true) (hb : PV.idss (fun j => decide (j < i)) p.cells = true) :
    OpT P G n0 o st H (.sc undef) (H.set i (.cells (cs.take off ++ p.cells ++ cs.drop (off + p.cells.length)))) := by
  intro c a w β hn0 hr
  have g1 := hr.opd hx
  have g2 := (hr.opd hy).cells
  simp only [VR] at g1
  obtain ⟨e, h2, h3⟩ := g1
  obtain ⟨hq, vs, ty, h4, h5⟩ := hr.blk i e _ h2 hc
  have hlv := VRs.length _ _ h5
  have hlu := VRs.length _ _ g2
  have hrun := run_storeCells_at P e.b off ty (a.eval y).cells.toList 0 vs w h4 (by simp at hlv hlu ⊢; omega) (VRs.one h1 g2)
  obtain ⟨ti, hti⟩ := Option.isSome_iff_exists.1 ht
  have hsz : (sizeOf t).run P w = .ok (a.eval y).cells.size w := by
    rw [run_sizeOf w hti, hn, ← hlu]; simp
  have hex : (execOp a.eval o).run P w = .ok .skip (w.setRow e.b (vs.toList.take (off + 0) ++ (a.eval y).cells.toList ++ vs.toList.drop (off + 0 + (a.eval y).cells.toList.length)).toArray) := by
    simp only [execOp, ho, Instr.storeAt, h3, Instr.sureAddr, storeVar]
    simp [hsz, hrun]
  simp only [wpv, hex]
  have hwr := hr.write h2 hc (us := (vs.toList.take (off + 0) ++ (a.eval y).cells.toList ++ vs.toList.drop (off + 0 + (a.eval y).cells.toList.length)).toArray)
    (cs' := cs.take off ++ p.cells ++ cs.drop (off + p.cells.length)) ?_ ?_
  · exact ⟨β, hwr.1, by simp only [VR], BExt.refl _ _, hwr.2⟩
  · simp only [Nat.add_zero]
    rw [hlu]
    exact VRs.append _ _ _ _ (VRs.append _ _ _ _ (VRs.take _ _ _ h5) g2) (VRs.drop _ _ _ h5)
  · rw [PV.idss_append, PV.idss_append, hb]
    have h6 := (PV.idss_mem _ cs).1 hq
    simp only [Bool.and_true, Bool.and_eq_true]
    exact ⟨(PV.idss_mem _ _).2 fun p hp => h6 p (List.mem_of_mem_take hp), (PV.idss_mem _ _).2 fun p hp => h6 p (List.mem_of_mem_drop hp)⟩

theorem idss_scs (q : Nat → Bool) : ∀ (vs : List Value), PV.idss q (vs.map .sc) = true
  | [] => by simp [PV.idss]
  | v :: vs => by simp [PV.idss, PV.ids, idss_scs q vs]

theorem OpT.alloc {t : TypeId} {ti : TypeInfo} {z : Value} (ho : o.op = .alloc t) (ht : P.info? t = some ti) (hz : ti.zero = some z) :
    OpT P G n0 o st H (.ptr H.length 0) (H ++ [.cells (z.cells.toList.map .sc)]) := by
  intro c a w β hn0 hr
  have hex : (execOp a.eval o).run P w = .ok (.value (.pointer (some ⟨w.heap.size, 0, none⟩))) (w.alloc (.cells z.cells t)) := by
    simp [execOp, ho, Instr.alloc, zeroValue, typeInfo, ht, hz, newVar, newRow]
  simp only [wpv, hex]
  have h1 := hr.alloc (VRs.scs (S := stab c β H w) (β := β) (w := w) z.cells.toList) (idss_scs _ _) t
  simp only [Array.toArray_toList] at h1
  exact ⟨_, h1.1, by simp only [VR]; exact ⟨⟨w.heap.size, undef, 0, 0⟩, by rw [← hr.len]; simp, rfl⟩, BExt.app _ _, h1.2⟩

theorem OpT.box {t : TypeId} {x : Operand} {p : PV} (ho : o.op = .box t x) (hx : opd G st x = some p) (hb : PV.idss (fun j => decide (j < H.length)) p.cells = true) :
    OpT P G n0 o st H (.ptr H.length 0) (H ++ [.cells p.cells]) := by
  intro c a w β hn0 hr
  have hex : (execOp a.eval o).run P w = .ok (.value (.pointer (some ⟨w.heap.size, 0, none⟩))) (w.alloc (.cells (a.eval x).cells t)) := by
    simp [execOp, ho, Instr.box, newVar, newRow]
  simp only [wpv, hex]
  have h1 := hr.alloc (hr.opd hx).cells hb t
  simp only [Array.toArray_toList] at h1
  exact ⟨_, h1.1, by simp only [VR]; exact ⟨⟨w.heap.size, undef, 0, 0⟩, by rw [← hr.len]; simp, rfl⟩, BExt.app _ _, h1.2⟩

theorem OpT.nilCheck {x : Operand} {p : PV} (ho : o.op = .nilCheck x) (hx : opd G st x = some p) (hp : match p with | .ptr _ _ | .ro _ _ => True | _ => False) : OpT P G n0 o st H p H :=
  OpT.value fun c a w β hn hr => by
    have h1 := hr.opd hx
    refine ⟨a.eval x, ?_, h1⟩
    cases p with
    | ptr i off => simp only [VR] at h1; obtain ⟨e, _, h3⟩ := h1; simp [execOp, ho, h3]
    | ro cs off => simp only [VR] at h1; obtain ⟨b, of, h3, _⟩ := h1; simp [execOp, ho, h3]
    | _ => simp only at hp

theorem OpT.extract {x : Operand} {cs : List PV} {k : Nat} {p : PV} (ho : o.op = .extract x k) (hx : opd G st x = some (.tup cs)) (hk : cs[k]? = some p) : OpT P G n0 o st H p H :=
  OpT.value fun c a w β hn hr => by
    have h1 := hr.opd hx
    simp only [VR] at h1
    obtain ⟨us, h2, h3⟩ := h1
    obtain ⟨u, h4, h5⟩ := VRs.get _ _ h3 k p hk
    exact ⟨u, by simp [execOp, ho, h2, Instr.extract]; simp at h4; simp [h4], h5⟩

theorem run_part {S : Nat → Nat → Prop} {β : List Bnd} {t : TypeId} {cs : List PV} {us : Array Value} {off : Nat} {p : PV} {w : World} (h : VRs S β w cs us.toList) (hl : ldPV P t (cs.drop off) = some p) :
    ∃ v, (part t us off).run P w = .ok v w ∧ VR S β w p v := by
  unfold ldPV at hl
  have hd := VRs.drop off _ _ h
  have hlen := VRs.length _ _ hd
  cases ht : isAggT P t with
  | none => simp [ht] at hl
  | some g =>
    obtain ⟨i, hi⟩ := info_of_agg ht
    cases g with
    | true =>
      simp only [ht] at hl
      split at hl
      · rename_i hle
        simp only [Option.some.injEq] at hl
        subst hl
        refine ⟨.agg (us.extract off (off + P.cellsOf t)), by simp [part, run_isAgg ht, run_sizeOf w hi], ?_⟩
        have := VR.mkAgg (VRs.take (P.cellsOf t) _ _ hd)
        have e : (List.take (P.cellsOf t) (List.drop off us.toList)).toArray = us.extract off (off + P.cellsOf t) := by
          rw [← Array.toArray_toList (xs := us.extract off (off + P.cellsOf t)), Array.toList_extract]
          simp
        rw [e] at this
        exact this
      · cases hl
    | false =>
      simp only [ht] at hl
      rw [List.head?_eq_getElem?] at hl
      obtain ⟨u, h4, h5⟩ := VRs.get _ _ hd 0 p hl
      rw [List.getElem?_drop] at h4
      have h6 : us[off]? = some u := by simpa using h4
      exact ⟨u, by simp [part, run_isAgg ht, h6], h5⟩

theorem OpT.field {t : TypeId} {x : Operand} {f : Nat} {fs : Array Field} {fd : Field} {cs : List PV} {p : PV} (ho : o.op = .field t x f) (hu : P.underlying t = some (.struct fs)) (hf : fs[f]? = some fd)
    (hx : opd G st x = some (.agg cs)) (hl : ldPV P fd.type (cs.drop fd.offset) = some p) : OpT P G n0 o st H p H :=
  OpT.value fun c a w β hn hr => by
    have h1 := hr.opd hx
    simp only [VR] at h1
    obtain ⟨us, h2, h3⟩ := h1
    obtain ⟨v, h4, h5⟩ := run_part (P := P) h3 hl
    exact ⟨v, by simp [execOp, ho, Instr.field, run_underlying hu, hf, h2, asAgg, h4], h5⟩

theorem OpT.index_agg {t e : TypeId} {n : Nat} {x y : Operand} {k : IntKind} {j : Int} {cs : List PV} {p : PV} (ho : o.op = .index t x y) (hu : P.underlying t = some (.array n e)) (hz : P.cellsOf e ≠ 0)
    (hx : opd G st x = some (.agg cs)) (hy : opd G st y = some (.sc (.int k j))) (h0 : 0 ≤ j) (h1 : j < n) (hl : ldPV P e (cs.drop (j.toNat * P.cellsOf e)) = some p) : OpT P G n0 o st H p H :=
  OpT.value fun c a w β hn hr => by
    have g1 := hr.opd hx
    have g2 := hr.opd hy
    simp only [VR] at g1 g2
    obtain ⟨us, h2, h3⟩ := g1
    obtain ⟨v, h4, h5⟩ := run_part (P := P) h3 hl
    exact ⟨v, by simp [execOp, ho, Instr.index, asIntOf, run_underlying hu, g2, h2, h0, h1, run_size rfl hz, h4], h5⟩
/-- The same, of an array whose cells are exact. -/
theorem OpT.index_sc {t e : TypeId} {n : Nat} {x y : Operand} {k : IntKind} {j : Int} {cs : Array Value} {p : PV} (ho : o.op = .index t x y) (hu : P.underlying t = some (.array n e)) (hz : P.cellsOf e ≠ 0)
    (hx : opd G st x = some (.sc (.agg cs))) (hy : opd G st y = some (.sc (.int k j))) (h0 : 0 ≤ j) (h1 : j < n) (hl : ldPV P e ((cs.toList.map .sc).drop (j.toNat * P.cellsOf e)) = some p) : OpT P G n0 o st H p H :=
  OpT.value fun c a w β hn hr => by
    have g1 := hr.opd hx
    have g2 := hr.opd hy
    simp only [VR] at g1 g2
    obtain ⟨v, h4, h5⟩ := run_part (P := P) (VRs.scs (S := stab c β H w) (β := β) (w := w) cs.toList) hl
    exact ⟨v, by simp [execOp, ho, Instr.index, asIntOf, run_underlying hu, g2, g1, h0, h1, run_size rfl hz, h4], h5⟩

/-! ### All of it as one function -/
def stepMem (P : Program) (G : Glob) (st : St) (H : List Blk) : Op → Option (PV × List Blk)
  | .move x | .assign x => (opd G st x).map (·, H)
  | .pick x y z => match opd G st x with
    | some (.sc (.bool b)) => (opd G st (if b then y else z)).map (·, H)
    | _ => none
  | .load t x => match opd G st x with
    | some (.ptr i off) => match H[i]? with
      | some (.cells cs) => (ldPV P t (cs.drop off)).map (·, H)
      | _ => none
    | some (.ro cs off) => (ldPV P t (cs.drop off)).map (·, H)
    | _ => none
  | .store t x y => match opd G st x, opd G st y with
    | some (.ptr i off), some p => match H[i]? with
      | some (.cells cs) =>
        if P.cellsOf t = p.cells.length && (P.info? t).isSome && decide (off + p.cells.length ≤ cs.length) && p.cells.all PV.one && PV.idss (fun j => decide (j < i)) p.cells
        then some (.sc undef, H.set i (.cells (cs.take off ++ p.cells ++ cs.drop (off + p.cells.length)))) else none
      | _ => none
    | _, _ => none
  | .alloc t => match P.info? t with
    | some ti => match ti.zero with
      | some z => some (.ptr H.length 0, H ++ [.cells (z.cells.toList.map .sc)])
      | none => none
    | none => none
  | .box _ x => match opd G st x with
    | some p => if PV.idss (fun j => decide (j < H.length)) p.cells then some (.ptr H.length 0, H ++ [.cells p.cells]) else none
    | none => none
  | .nilCheck x => match opd G st x with
    | some (.ptr i off) => some (.ptr i off, H)
    | some (.ro cs off) => some (.ro cs off, H)
    | _ => none
  | .extract x k => match opd G st x with
    | some (.tup cs) => (cs[k]?).map (·, H)
    | _ => none
  | .fieldAddr s x f => match P.underlying s with
    | some (.struct fs) => match fs[f]? with
      | some fd => if P.cellsOf fd.type ≠ 0 then match opd G st x with
        | some (.ptr i off) => some (.ptr i (off + fd.offset), H)
        | some (.ro cs off) => some (.ro cs (off + fd.offset), H)
        | _ => none
        else none
      | none => none
    | _ => none
  | .indexAddr t x y => match P.underlying t, opd G st y with
    | some (.array n e), some (.sc (.int _ j)) => if P.cellsOf e ≠ 0 ∧ 0 ≤ j ∧ j < n then match opd G st x with
        | some (.ptr i off) => some (.ptr i (off + j.toNat * P.cellsOf e), H)
        | some (.ro cs off) => some (.ro cs (off + j.toNat * P.cellsOf e), H)
        | _ => none
        else none
    | _, _ => none
  | .field t x f => match P.underlying t with
    | some (.struct fs) => match fs[f]? with
      | some fd => match opd G st x with
        | some (.agg cs) => (ldPV P fd.type (cs.drop fd.offset)).map (·, H)
        | _ => none
      | none => none
    | _ => none
  | _ => none
def stepV (P : Program) (G : Glob) (st : St) (o : Oper) : Option PV :=
  if notSelect o.op && o.op.operands.all (exact1 G st) then
    match calm P (execOp (ev G st) o) with
    | some (.value v) => some (.sc v)
    | _ => none
  else none
def step (P : Program) (G : Glob) (st : St) (H : List Blk) (o : Oper) : Option (PV × List Blk) :=
  match stepMem P G st H o.op with
  | some r => some r
  | none => (stepV P G st o).map (·, H)

theorem OpT.of_stepMem {p : PV} {H' : List Blk} (h : stepMem P G st H o.op = some (p, H')) : OpT P G n0 o st H p H' := by
  cases ho : o.op <;> rw [ho] at h <;> simp only [stepMem, Option.map_eq_some_iff, Prod.mk.injEq, reduceCtorEq] at h
  case move x => obtain ⟨q, h1, rfl, rfl⟩ := h; exact OpT.move (.inl ho) h1
  case assign x => obtain ⟨q, h1, rfl, rfl⟩ := h; exact OpT.move (.inr ho) h1
  case pick x y z =>
    split at h
    · rename_i b hb
      simp only [Option.map_eq_some_iff, Prod.mk.injEq] at h
      obtain ⟨q, h1, rfl, rfl⟩ := h; exact OpT.pick ho hb h1
    · cases h
  case load t x =>
    split at h
    · rename_i i off hx
      split at h
      · rename_i cs hc
        simp only [Option.map_eq_some_iff, Prod.mk.injEq] at h
        obtain ⟨q, h1, rfl, rfl⟩ := h; exact OpT.load_ptr ho hx hc h1
      · cases h
    · rename_i cs off hx
      simp only [Option.map_eq_some_iff, Prod.mk.injEq] at h
      obtain ⟨q, h1, rfl, rfl⟩ := h; exact OpT.load_ro ho hx h1
    · cases h
  case store t x y =>
    split at h
    · rename_i i off q hx hy
      split at h
      · rename_i cs hc
        split at h
        · rename_i hif
          simp only [Option.some.injEq, Prod.mk.injEq] at h
          obtain ⟨rfl, rfl⟩ := h
          simp only [Bool.and_eq_true, decide_eq_true_eq] at hif
          obtain ⟨⟨⟨⟨e1, e2⟩, e3⟩, e4⟩, e5⟩ := hif
          exact OpT.store ho hx hy hc e1 e2 e3 e4 e5
        · cases h
      · cases h
    · cases h
  case alloc t =>
    split at h
    · rename_i ti ht
      split at h
      · rename_i z hz
        simp only [Option.some.injEq, Prod.mk.injEq] at h
        obtain ⟨rfl, rfl⟩ := h
        exact OpT.alloc ho ht hz
      · cases h
    · cases h
  case box t x =>
    split at h
    · rename_i q hx
      split at h
      · rename_i hb
        simp only [Option.some.injEq, Prod.mk.injEq] at h
        obtain ⟨rfl, rfl⟩ := h
        exact OpT.box ho hx hb
      · cases h
    · cases h
  case nilCheck x =>
    split at h
    · rename_i i off hx
      simp only [Option.some.injEq, Prod.mk.injEq] at h
      obtain ⟨rfl, rfl⟩ := h
      exact OpT.nilCheck ho hx trivial
    · rename_i i off hx
      simp only [Option.some.injEq, Prod.mk.injEq] at h
      obtain ⟨rfl, rfl⟩ := h
      exact OpT.nilCheck ho hx trivial
    · cases h
  case extract x k =>
    split at h
    · rename_i cs hx
      simp only [Option.map_eq_some_iff, Prod.mk.injEq] at h
      obtain ⟨q, h1, rfl, rfl⟩ := h; exact OpT.extract ho hx h1
    · cases h
  case fieldAddr s x f =>
    split at h
    · rename_i fs hu
      split at h
      · rename_i fd hf
        split at h
        · rename_i hz
          split at h
          · rename_i i off hx
            simp only [Option.some.injEq, Prod.mk.injEq] at h
            obtain ⟨rfl, rfl⟩ := h
            exact OpT.fieldAddr ho hu hf hz hx rfl
          · rename_i cs off hx
            simp only [Option.some.injEq, Prod.mk.injEq] at h
            obtain ⟨rfl, rfl⟩ := h
            exact OpT.fieldAddr ho hu hf hz hx rfl
          · cases h
        · cases h
      · cases h
    · cases h
  case indexAddr t x y =>
    split at h
    · rename_i n e k j hu hy
      split at h
      · rename_i hj
        split at h
        · rename_i i off hx
          simp only [Option.some.injEq, Prod.mk.injEq] at h
          obtain ⟨rfl, rfl⟩ := h
          exact OpT.index_arr ho hu hj.1 hy hj.2.1 hj.2.2 hx rfl
        · rename_i cs off hx
          simp only [Option.some.injEq, Prod.mk.injEq] at h
          obtain ⟨rfl, rfl⟩ := h
          exact OpT.index_arr ho hu hj.1 hy hj.2.1 hj.2.2 hx rfl
        · cases h
      · cases h
    · cases h
  case field t x f =>
    split at h
    · rename_i fs hu
      split at h
      · rename_i fd hf
        split at h
        · rename_i cs hx
          simp only [Option.map_eq_some_iff, Prod.mk.injEq] at h
          obtain ⟨q, h1, rfl, rfl⟩ := h
          exact OpT.field ho hu hf hx h1
        · cases h
      · cases h
    · cases h

theorem OpT.of_step {p : PV} {H' : List Blk} (h : step P G st H o = some (p, H')) : OpT P G n0 o st H p H' := by
  unfold step at h
  split at h
  · rename_i r hr
    simp only [Option.some.injEq] at h
    subst h
    exact OpT.of_stepMem hr
  · simp only [Option.map_eq_some_iff, Prod.mk.injEq] at h
    obtain ⟨q, h1, rfl, rfl⟩ := h
    unfold stepV at h1
    split at h1
    · rename_i hc
      simp only [Bool.and_eq_true] at hc
      split at h1
      · rename_i v hv
        simp only [Option.some.injEq] at h1
        subst h1
        exact OpT.calm hc.1 hc.2 hv
      · cases h1
    · cases h1
end
end Go.AM

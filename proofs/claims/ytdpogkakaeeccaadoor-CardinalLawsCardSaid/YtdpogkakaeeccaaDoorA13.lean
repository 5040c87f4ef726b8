/- The rules in the form in which a program writes them: operations by their place, typed slices, and the steps of a computation that may fail. No condition. -/
import Derived.Test.YtdpogkakaeeccaaDoorA12
namespace Go.AM

/-! ### Computations that may fail -/
theorem bindb {α γ : Type} {x : Option α} {f : α → Option γ} {r : γ} (h : x.bind f = some r) : ∃ v, x = some v ∧ f v = some r := by
  cases x with
  | none => simp at h
  | some v => exact ⟨v, rfl, by simpa using h⟩
theorem ifb {γ : Type} {b : Bool} {x y : Option γ} {r : γ} {p : Prop} (h : (if b = true then x else y) = some r) (h1 : b = true → x = some r → p) (h2 : b = false → y = some r → p) : p := by
  cases b
  · exact h2 rfl (by simpa using h)
  · exact h1 rfl (by simpa using h)
theorem chkb {γ : Type} {c : Prop} [Decidable c] {x : Option γ} {r : γ} (h : (if c then x else none) = some r) : c ∧ x = some r := by
  split at h
  · exact ⟨by assumption, h⟩
  · cases h
theorem ifT {γ : Type} {b : Bool} {x y : Option γ} {r : γ} (h : (if b = true then x else y) = some r) (hb : b = true) : x = some r := by subst hb; simpa using h
theorem ifF {γ : Type} {b : Bool} {x y : Option γ} {r : γ} (h : (if b = true then x else y) = some r) (hb : b = false) : y = some r := by subst hb; simpa using h
theorem noneb {γ : Type} {r : γ} {p : Prop} (h : (none : Option γ) = some r) : p := by cases h
theorem someb {γ : Type} {x r : γ} (h : some x = some r) : x = r := Option.some.inj h
def idx {α : Type} (l : List α) (i : Int) : Option α := if 0 ≤ i then l[i.toNat]? else none
theorem idx_spec {α : Type} {l : List α} {i : Int} {x : α} (h : idx l i = some x) : 0 ≤ i ∧ i < l.length ∧ l[i.toNat]? = some x := by
  unfold idx at h
  split at h
  · rename_i h0
    have := (List.getElem?_eq_some_iff.1 h).1
    exact ⟨h0, by omega, h⟩
  · cases h
theorem idx_map {α γ : Type} {l : List α} {i : Int} {x : α} (f : α → γ) (h : idx l i = some x) : (l.map f)[i.toNat]? = some (f x) := by
  rw [List.getElem?_map, (idx_spec h).2.2]; rfl
/-- How many rounds a loop may take. -/
def fuel : Nat := 1180591620717411303424
/-- How long a slice may become. -/
def lim : Nat := 2147483648

def opn (ops : Array Oper) (i : Nat) : Oper := (ops[i]?).getD default
theorem opn_of {ops : Array Oper} {i : Nat} (h : (ops[i]?).isSome = true) : ops[i]? = some (opn ops i) := by
  obtain ⟨o, ho⟩ := Option.isSome_iff_exists.1 h
  simp [opn, ho]

section
variable {P : Program} {G : Glob} {n0 nt : Nat} {o : Oper} {st : St} {H : List Blk} {ops : Array Oper} {Q : Exit → St → List Blk → Prop}

theorem AOps.at {i : Nat} {l : List Nat} {p : PV} {H' : List Blk} {st' : St} (ks : List Nat) (hi : (ops[i]?).isSome = true) (hd : dstOk nt (opn ops i) = true) (hw : wantA ops st (opn ops i) = some true) (hop : OpT P G n0 (opn ops i) st H p H')
    (hst : (st.putD (opn ops i).dst p).pick ks = st') (h : AOps P G n0 nt ops l Q st' H') : AOps P G n0 nt ops (i :: l) Q st H :=
  AOps.cons (opn_of hi) hd hw hop.weak (h.sub (by subst hst; exact St.pick_sub ks _))
theorem AOps.set {l : List Nat} {st' : St} {H' : List Blk} (h1 : st = st') (h2 : H = H') (h : AOps P G n0 nt ops l Q st' H') : AOps P G n0 nt ops l Q st H := by subst h1 h2; exact h
theorem AWP.set {x : Code} {st' : St} {H' : List Blk} (h1 : st = st') (h2 : H = H') (h : AWP P G n0 nt x Q st' H') : AWP P G n0 nt x Q st H := by subst h1 h2; exact h
theorem AOps.share {l : List Nat} {H' : List Blk} {s t : Nat} {xs : List (List PV)} {sh : Bool} (i : Nat) (hb : H[i]? = some (.buf s t xs sh)) (hH : H.set i (.buf s t xs true) = H') (h : AOps P G n0 nt ops l Q st H') : AOps P G n0 nt ops l Q st H := by
  subst hH; exact AOps.le (Le.share hb) h
theorem AWP.share {x : Code} {H' : List Blk} {s t : Nat} {xs : List (List PV)} {sh : Bool} (i : Nat) (hb : H[i]? = some (.buf s t xs sh)) (hH : H.set i (.buf s t xs true) = H') (h : AWP P G n0 nt x Q st H') : AWP P G n0 nt x Q st H := by
  subst hH; exact AWP.le (Le.share hb) h
theorem AWP.own {x : Code} {st' : St} {H' : List Blk} (k s t : Nat) (hk : st.get k = some (.sc (.slice none 0 0))) (hs : st.put k (.own H.length 0) = st') (hH : H ++ [.buf s t [] false] = H') (h : AWP P G n0 nt x Q st' H') : AWP P G n0 nt x Q st H := by
  subst hs hH; exact AWP.le (Le.own hk) h
theorem AWP.wk {x : Code} {st' : St} {p q : PV} (k : Nat) (hk : st.get k = some p) (hw : Wk H false p q) (hs : st.put k q = st') (h : AWP P G n0 nt x Q st' H) : AWP P G n0 nt x Q st H := by
  subst hs; exact AWP.le (Le.wk hk hw) h
theorem AWP.keep {x : Code} {st' : St} {H' : List Blk} (ks : List Nat) (m : Nat) (hm : Nat.ble n0 m = true) (hs : st.pick ks = st') (hi : st'.all (fun x => x.2.ids (fun j => decide (j < m))) = true) (hH : H.take m = H') (h : AWP P G n0 nt x Q st' H') : AWP P G n0 nt x Q st H := by
  subst hH; exact AWP.le (Le.keep (Nat.le_of_ble_eq_true hm) hs hi) h
/-- A state that may say less. -/
inductive LeQ (G : Glob) (n0 nt : Nat) (Q : Exit → St → List Blk → Prop) (e : Exit) (st : St) (H : List Blk) : Prop where
  | mk (st' : St) (H' : List Blk) (hle : Le G n0 nt st H st' H') (hq : Q e st' H')
theorem AWP.mid {x : Code} (Qm : Exit → St → List Blk → Prop) (h : AWP P G n0 nt x (LeQ G n0 nt Qm) st H) (k : ∀ e st H, Qm e st H → Q e st H) : AWP P G n0 nt x Q st H := by
  intro c a w β h0 h1 hr
  refine wp_mono (h c a w β h0 h1 hr) fun e a' w' ⟨st1, H1, β1, hl, hr1⟩ => ?_
  obtain ⟨st2, H2, hle, hq⟩ := hl
  obtain ⟨β2, hr2⟩ := hle c a' w' β1 h0 h1 hr1
  exact ⟨st2, H2, β2, k _ _ _ hq, hr2⟩
theorem Le.keepB {st' : St} {H' : List Blk} (ks : List Nat) (m : Nat) (hm : Nat.ble n0 m = true) (hs : st.pick ks = st') (hi : st'.all (fun x => x.2.ids (fun j => decide (j < m))) = true) (hH : H.take m = H') : Le G n0 nt st H st' H' := by
  subst hH; exact Le.keep (Nat.le_of_ble_eq_true hm) hs hi
theorem Le.wkB {st' : St} {p q : PV} (k : Nat) (hk : st.get k = some p) (hw : Wk H false p q) (ks : List Nat) (hs : (st.put k q).pick ks = st') : Le G n0 nt st H st' H := (Le.wk hk hw).trans (Le.pick hs)
/-- A loop, with states that may say less at the end of a round. -/
def roundQ (G : Glob) (n0 nt : Nat) (id : Nat) (I : Nat → St → List Blk → Prop) (n : Nat) (Q : Exit → St → List Blk → Prop) : Exit → St → List Blk → Prop
  | .normal, st, H => LeQ G n0 nt (fun _ st H => ∃ m, m < n ∧ I m st H) .normal st H
  | .exit j, st, H => match Nat.beq j id with | true => Q .normal st H | false => Q (.exit j) st H
  | e, st, H => Q e st H
theorem AWP.bround {id : Nat} {x : Code} (I : Nat → St → List Blk → Prop) (n : Nat) (hI : I n st H) (round : ∀ n st H, I n st H → AWP P G n0 nt x (roundQ G n0 nt id I n Q) st H) : AWP P G n0 nt (.block id (.loop x)) Q st H := by
  refine AWP.bloop I n hI fun n st H h => ?_
  refine AWP.mid (loopQ id I n Q) ((round n st H h).mono fun e st' H' hq => ?_) fun _ _ _ h => h
  cases e <;> simp only [roundQ] at hq
  case normal =>
    obtain ⟨st2, H2, h2, h3⟩ := hq
    exact ⟨st2, H2, h2, h3⟩
  case exit j => exact ⟨st', H', Le.refl, hq⟩
  all_goals exact ⟨st', H', Le.refl, hq⟩
theorem AWP.condT {x : Operand} {t e : Code} {b : Bool} (hx : opd G st x = some (.sc (.bool b))) (hb : b = true) (h : AWP P G n0 nt t Q st H) : AWP P G n0 nt (.cond x t e) Q st H :=
  AWP.cond hx (fun _ => h) fun h' => by rw [hb] at h'; cases h'
theorem AWP.condF {x : Operand} {t e : Code} {b : Bool} (hx : opd G st x = some (.sc (.bool b))) (hb : b = false) (h : AWP P G n0 nt e Q st H) : AWP P G n0 nt (.cond x t e) Q st H :=
  AWP.cond hx (fun h' => by rw [hb] at h'; cases h') fun _ => h
/-- A piece of code that comes to one state. -/
def To (S : St) (K : List Blk) (e : Exit) (st : St) (H : List Blk) : Prop := e = .normal ∧ st = S ∧ H = K
theorem AWP.to {x : Code} (S : St) (K : List Blk) (h : AWP P G n0 nt x (To S K) st H) (hq : Q .normal S K) : AWP P G n0 nt x Q st H :=
  h.mono fun e st H ⟨h1, h2, h3⟩ => by subst h1 h2 h3; exact hq
theorem To.mk {S S' : St} {K K' : List Blk} (h1 : S' = S) (h2 : K' = K) : To S K .normal S' K' := ⟨rfl, h1, h2⟩

/-- The end of a function. -/
theorem fin {rs : Array ResultVar} {R : PV → List Blk → Prop} {e : Exit} {K : List Blk} {p : PV} (he : e = .normal ∨ e = .ret) (q : PV) (m : Nat) (h1 : ares P st K rs = some p) (h2 : WkR K p q) (h3 : Nat.ble n0 m = true) (h4 : Nat.ble m K.length = true)
    (h5 : q.ids (fun j => decide (j < m)) = true) (h6 : (K.take m).all Blk.isCells = true) (h7 : R q (K.take m)) : FnQ P rs n0 R e st K := ⟨he, p, q, m, h1, h2, Nat.le_of_ble_eq_true h3, Nat.le_of_ble_eq_true h4, h5, h6, h7⟩
/-- A function by its body. -/
theorem ACall.body {f : FuncId} {fn : Func} {code : Code} {args : List PV} {R : PV → List Blk → Prop} (hfn : P.funcs[f]? = some fn) (hb : fn.body = some code) (hnt : Nat.ble args.length fn.ntmps = true)
    (h : AWP P G H.length fn.ntmps code (FnQ P fn.results H.length R) (numb 0 args) H) : ACall P G f args H R := ACall.of_AWP hfn hb (Nat.le_of_ble_eq_true hnt) h

/-! ### Slices of typed elements -/
variable {α : Type} {row : α → List PV}
theorem Wk.ownT {any : Bool} {i s t : Nat} {l : List α} {sh : Bool} (h : H[i]? = some (.buf s t (l.map row) sh)) (hs : any = true ∨ sh = true) : Wk H any (.own i l.length) (.sl s (l.map row)) := by
  have := Wk.own (any := any) i s t (l.map row) sh h hs
  rwa [List.length_map] at this
theorem Src.ownT {i s t : Nat} {l : List α} {sh : Bool} (h : H[i]? = some (.buf s t (l.map row) sh)) : Src H s (.own i l.length) (l.map row) := by
  have := Src.own (s := s) i t (l.map row) sh h
  rwa [List.length_map] at this
theorem OpT.indexT {t e : TypeId} {x y : Operand} {k : IntKind} {j : Int} {l : List α} {z : α} {q : PV} {s : Nat} (ho : o.op = .indexAddr t x y) (hu : P.underlying t = some (.slice e)) (hz : P.cellsOf e = s) (hs0 : Nat.beq s 0 = false)
    (hx : opd G st x = some (.sl s (l.map row))) (hy : opd G st y = some (.sc (.int k j))) (h1 : idx l j = some z) (hq : q = .ro (row z) 0) : OpT P G n0 o st H q H := by
  subst hz hq
  exact OpT.index_sl ho hu (fun h => by rw [h] at hs0; cases hs0) hx hy (idx_spec h1).1 (idx_map row h1)
theorem OpT.indexOwnT {t e : TypeId} {x y : Operand} {k : IntKind} {j : Int} {i s ty : Nat} {l : List α} {z : α} {sh : Bool} {q : PV} (ho : o.op = .indexAddr t x y) (hu : P.underlying t = some (.slice e)) (hz : P.cellsOf e = s) (hs0 : Nat.beq s 0 = false)
    (hx : opd G st x = some (.own i l.length)) (hb : H[i]? = some (.buf s ty (l.map row) sh)) (hy : opd G st y = some (.sc (.int k j))) (h1 : idx l j = some z) (hq : q = .ept i l.length j.toNat 0) : OpT P G n0 o st H q H := by
  subst hq
  obtain ⟨h2, h3, h4⟩ := idx_spec h1
  have := OpT.index_own (n0 := n0) ho hu hz (fun h => by rw [h] at hs0; cases hs0) (by rw [List.length_map]; exact hx) hb hy h2 (by rw [List.length_map]; exact h3)
  rwa [List.length_map] at this
theorem OpT.loadEptT {t : TypeId} {x : Operand} {i off s ty : Nat} {j : Int} {l : List α} {z : α} {sh : Bool} {p : PV} (ho : o.op = .load t x) (hx : opd G st x = some (.ept i l.length j.toNat off)) (hb : H[i]? = some (.buf s ty (l.map row) sh)) (h1 : idx l j = some z)
    (hl : ldPV P t ((row z).drop off) = some p) : OpT P G n0 o st H p H :=
  OpT.load_ept ho hx hb (by rw [List.length_map]) (idx_map row h1) hl
theorem OpT.storeEptT {t : TypeId} {x y : Operand} {i off s ty : Nat} {j : Int} {l : List α} {z z' : α} {p u : PV} {H' : List Blk} (ho : o.op = .store t x y) (hx : opd G st x = some (.ept i l.length j.toNat off)) (hy : opd G st y = some p)
    (hb : H[i]? = some (.buf s ty (l.map row) false)) (h1 : idx l j = some z) (ht : Nat.beq (P.cellsOf t) p.cells.length = true) (hti : (P.info? t).isSome = true) (hl : Nat.ble (off + p.cells.length) (row z).length = true) (h2 : (p.cells.all PV.one) = true) (hcl : PV.idss (fun _ => false) p.cells = true)
    (hz : row z' = (row z).take off ++ p.cells ++ (row z).drop (off + p.cells.length)) (hu : u = .sc undef) (hH : H' = H.set i (.buf s ty ((l.set j.toNat z').map row) false)) : OpT P G n0 o st H u H' := by
  subst hu hH
  have := OpT.store_ept (n0 := n0) ho hx hy hb (by rw [List.length_map]) (idx_map row h1) (Nat.eq_of_beq_eq_true ht) hti (Nat.le_of_ble_eq_true hl) h2 hcl
  rw [← hz, ← List.map_set] at this
  exact this
theorem OpT.lenT {cl : Call} {x : Operand} {T e s : Nat} {l : List α} {q : PV} (ho : o.op = .call cl) (hcl : cl = { callee := .builtin .len, args := #[x], argTypes := #[T] }) (hT : P.underlying T = some (.slice e)) (hx : opd G st x = some (.sl s (l.map row))) (hq : q = .sc (.int .i64 l.length)) :
    OpT P G n0 o st H q H := by
  have := OpT.len_sl (n0 := n0) (H := H) ho hcl hT hx
  rw [List.length_map] at this
  subst hq; exact this
theorem OpT.lenOwnT {cl : Call} {x : Operand} {T e s t i : Nat} {l : List α} {sh : Bool} {q : PV} (ho : o.op = .call cl) (hcl : cl = { callee := .builtin .len, args := #[x], argTypes := #[T] }) (hT : P.underlying T = some (.slice e)) (hx : opd G st x = some (.own i l.length)) (hb : H[i]? = some (.buf s t (l.map row) sh)) (hq : q = .sc (.int .i64 l.length)) :
    OpT P G n0 o st H q H := by
  have := OpT.len_own (n0 := n0) ho hcl hT (by rw [List.length_map]; exact hx) hb
  rw [List.length_map] at this
  subst hq; exact this
theorem OpT.appendT {cl : Call} {x y : Operand} {T U e : TypeId} {i s t : Nat} {ti : TypeInfo} {z : Value} {l m : List α} {sh : Bool} {q p : PV} {H' : List Blk}
    (ho : o.op = .call cl) (hcl : cl = { callee := .builtin .append, args := #[x, y], argTypes := #[T, U] }) (hT : P.underlying T = some (.slice t)) (hU : P.underlying U = some (.slice e)) (hi : P.info? t = some ti) (hz : ti.zero = some z)
    (hs : ti.size = s) (hzs : z.cells.size = s) (hby : Nat.ble ti.bytes 65536 = true) (hx : opd G st x = some (.own i l.length)) (hb : H[i]? = some (.buf s t (l.map row) sh)) (hy : opd G st y = some q) (hq : Src H s q (m.map row)) (h1 : ∀ z, ((row z).all PV.one) = true)
    (hn : l.length + m.length ≤ lim) (hp : p = .own i (l ++ m).length) (hH : H' = H.set i (.buf s t ((l ++ m).map row) sh)) : OpT P G n0 o st H p H' := by
  subst hp hH
  have hall : ((m.map row).flatten.all PV.one) = true := by
    rw [List.all_eq_true]
    intro p hp
    obtain ⟨r, hr, hpr⟩ := List.mem_flatten.1 hp
    obtain ⟨z, _, rfl⟩ := List.mem_map.1 hr
    exact List.all_eq_true.1 (h1 z) p hpr
  have hby' := Nat.le_of_ble_eq_true hby
  have hlim : (l.length + m.length) * ti.bytes ≤ 140737488355328 := by
    have h2 : (l.length + m.length) * ti.bytes ≤ 2147483648 * 65536 := Nat.mul_le_mul hn hby'
    omega
  have := OpT.append (n0 := n0) ho hcl hT hU hi hz hs hzs (by rw [List.length_map]; exact hx) hb hy hq hall (by rw [List.length_map, List.length_map]; exact hlim) (by rw [List.length_map, List.length_map]; unfold lim at hn; omega)
  rw [← List.map_append, List.length_map] at this
  exact this
theorem OpT.sliceT {t e s : Nat} {x : Operand} {lo hi : Option Operand} {a b : Int} {p q : PV} {l : List α} (ho : o.op = .slice t x lo hi none) (hu : P.underlying t = some (.slice e)) (hz : P.cellsOf e = s) (hs0 : Nat.beq s 0 = false)
    (hx : opd G st x = some q) (hq : Wk H false q (.sl s (l.map row))) (hlo : loOf G st lo = some a) (hhi : hiOf G st l.length hi = some b) (h0 : 0 ≤ a) (h1 : a ≤ b) (h2 : b ≤ l.length) (hp : p = .sl s (((l.take b.toNat).drop a.toNat).map row)) : OpT P G n0 o st H p H := by
  subst hp
  refine OpT.slice ho hu hz (fun h => by rw [h] at hs0; cases hs0) hx hq hlo (h := b) ?_ h0 h1 (by rw [List.length_map]; exact h2) (by rw [List.map_drop, List.map_take])
  rw [List.length_map]; exact hhi
theorem OpT.eqB {t t' : TypeId} {x y : Operand} {xs ys : Array Value} {b b' : Bool} {p : PV} (ho : o.op = .binOp .eql t x y t') (hx : opd G st x = some (.sc (.agg xs))) (hy : opd G st y = some (.sc (.agg ys))) (hg : P.eqGuardType P.depth t = false)
    (h : flatEq P 50 t (.agg xs) (.agg ys) = some b) (hb : b = b') (hp : p = .sc (.bool b')) : OpT P G n0 o st H p H := by subst hb hp; exact OpT.eqAgg ho hx hy hg h
theorem OpT.neqB {t t' : TypeId} {x y : Operand} {xs ys : Array Value} {b b' : Bool} {p : PV} (ho : o.op = .binOp .neq t x y t') (hx : opd G st x = some (.sc (.agg xs))) (hy : opd G st y = some (.sc (.agg ys))) (hg : P.eqGuardType P.depth t = false)
    (h : flatEq P 50 t (.agg xs) (.agg ys) = some b) (hb : b = b') (hp : p = .sc (.bool (!b'))) : OpT P G n0 o st H p H := by subst hb hp; exact OpT.neqAgg ho hx hy hg h
theorem OpT.one {p : PV} {H' : List Blk} (h : step P G st H o = some (p, H')) : OpT P G n0 o st H p H' := OpT.of_step h
/-- The result of a step, read as an equal value. -/
theorem OpT.as {p q : PV} {H' : List Blk} (h : OpT P G n0 o st H q H') (e : q = p) : OpT P G n0 o st H p H' := by subst e; exact h
theorem OpT.shl {k ky : IntKind} {x y : Operand} {t t' : TypeId} {a b : Int} {p : PV} (ho : o.op = .binOp .shl t x y t') (hx : opd G st x = some (.sc (.int k a))) (hy : opd G st y = some (.sc (.int ky b))) (h0 : 0 ≤ b) (hp : p = .sc (.int k (k.wrap (a * 2 ^ min b.toNat k.bits)))) : OpT P G n0 o st H p H := by
  subst hp
  refine OpT.value fun c a' w β hn hr => ⟨(.int k (k.wrap (a * 2 ^ min b.toNat k.bits))), ?_, by simp only [VR]⟩
  have h1 := hr.opd hx
  have h2 := hr.opd hy
  simp only [VR] at h1 h2
  have hb : ¬ b < 0 := by omega
  simp [execOp, ho, h1, h2, eqGuard, binOp, Op.shift, hb]
theorem OpT.shr {k ky : IntKind} {x y : Operand} {t t' : TypeId} {a b : Int} {p : PV} (ho : o.op = .binOp .shr t x y t') (hx : opd G st x = some (.sc (.int k a))) (hy : opd G st y = some (.sc (.int ky b))) (h0 : 0 ≤ b) (hp : p = .sc (.int k (a.fdiv (2 ^ min b.toNat k.bits)))) : OpT P G n0 o st H p H := by
  subst hp
  refine OpT.value fun c a' w β hn hr => ⟨(.int k (a.fdiv (2 ^ min b.toNat k.bits))), ?_, by simp only [VR]⟩
  have h1 := hr.opd hx
  have h2 := hr.opd hy
  simp only [VR] at h1 h2
  have hb : ¬ b < 0 := by omega
  simp [execOp, ho, h1, h2, eqGuard, binOp, Op.shift, hb]
theorem OpT.quo {k : IntKind} {x y : Operand} {t t' : TypeId} {a b : Int} {p : PV} (ho : o.op = .binOp .quo t x y t') (hx : opd G st x = some (.sc (.int k a))) (hy : opd G st y = some (.sc (.int k b))) (h0 : b ≠ 0) (hp : p = .sc (.int k (k.wrap (a.tdiv b)))) : OpT P G n0 o st H p H := by
  subst hp
  refine OpT.value fun c a' w β hn hr => ⟨(.int k (k.wrap (a.tdiv b))), ?_, by simp only [VR]⟩
  have h1 := hr.opd hx
  have h2 := hr.opd hy
  simp only [VR] at h1 h2
  simp [execOp, ho, h1, h2, eqGuard, binOp, Op.intDiv, h0]
theorem OpT.rem {k : IntKind} {x y : Operand} {t t' : TypeId} {a b : Int} {p : PV} (ho : o.op = .binOp .rem t x y t') (hx : opd G st x = some (.sc (.int k a))) (hy : opd G st y = some (.sc (.int k b))) (h0 : b ≠ 0) (hp : p = .sc (.int k (a.tmod b))) : OpT P G n0 o st H p H := by
  subst hp
  refine OpT.value fun c a' w β hn hr => ⟨(.int k (a.tmod b)), ?_, by simp only [VR]⟩
  have h1 := hr.opd hx
  have h2 := hr.opd hy
  simp only [VR] at h1 h2
  simp [execOp, ho, h1, h2, eqGuard, binOp, Op.intDiv, h0]

/-! ### Drawn regions, written out -/
def FreeUpTo (P : Program) (G : Glob) (n0 nt : Nat) (ops : Array Oper) (st0 : St) (res : List PV) (ch : List Nat) (Hs : List (List Blk)) (K : Nat) : Nat → Prop
  | 0 => True
  | k + 1 => FreeUpTo P G n0 nt ops st0 res ch Hs K k ∧ FreeOk P G n0 nt ops st0 res ch Hs K k
theorem FreeUpTo.get {st0 : St} {res : List PV} {ch : List Nat} {Hs : List (List Blk)} {K : Nat} : ∀ {k : Nat}, FreeUpTo P G n0 nt ops st0 res ch Hs K k → ∀ i, i < k → FreeOk P G n0 nt ops st0 res ch Hs K i
  | k + 1, h, i, hi => by
    by_cases e : i = k
    · subst e; exact h.2
    · exact FreeUpTo.get h.1 i (by omega)
inductive AllT (ops : Array Oper) (ch : List Nat) (i : Nat) (p : List Blk → Prop) : Nat → List (List Blk) → Prop where
  | nil (t : Nat) : AllT ops ch i p t []
  | yes {t : Nat} {H : List Blk} {Hs : List (List Blk)} (h : p H) (r : AllT ops ch i p (t + 1) Hs) : AllT ops ch i p t (H :: Hs)
  | no {t : Nat} {H : List Blk} {Hs : List (List Blk)} (h : posOk ops ch i t = false) (r : AllT ops ch i p (t + 1) Hs) : AllT ops ch i p t (H :: Hs)
theorem AllT.get {ch : List Nat} {i : Nat} {p : List Blk → Prop} : ∀ {Hs : List (List Blk)} {u : Nat}, AllT ops ch i p u Hs → ∀ t H, Hs[t]? = some H → posOk ops ch i (u + t) = true → p H
  | [], _, _, t, H, hm, _ => by simp at hm
  | H0 :: Hs, u, h, t, H, hm, hp => by
    cases t with
    | zero =>
      simp at hm; subst hm
      cases h with
      | yes h _ => exact h
      | no h _ => rw [Nat.add_zero] at hp; rw [hp] at h; cases h
    | succ t =>
      simp at hm
      have hp' : posOk ops ch i (u + 1 + t) = true := by rw [show u + 1 + t = u + (t + 1) by omega]; exact hp
      cases h with
      | yes _ r => exact AllT.get r t H hm hp'
      | no _ r => exact AllT.get r t H hm hp'
variable {st0 : St} {res : List PV} {ch : List Nat} {Hs : List (List Blk)}
theorem FreeOk.q {k i : Nat} (p : PV) (hi : (ops[i]?).isSome = true) (hc : ch.contains i = false) (hw : wantA ops (stAt ops k st0 res i) (opn ops i) = some true) (hp : res[i]? = some p) (h : AllT ops ch i (fun H => OpW P G n0 (opn ops i) (stAt ops k st0 res i) H p H) 0 Hs) : FreeOk P G n0 nt ops st0 res ch Hs k i :=
  .quiet (opn ops i) p (opn_of hi) (fun hm => by rw [List.contains_iff_mem.2 hm] at hc; cases hc) hw hp fun t H h1 h2 => h.get t H h1 (by rw [Nat.zero_add]; exact h2)
theorem FreeOk.s {k i : Nat} (hi : (ops[i]?).isSome = true) (hc : ch.contains i = false) (hw : wantA ops (stAt ops k st0 res i) (opn ops i) = some false) (hp : res[i]? = some (.sc undef)) : FreeOk P G n0 nt ops st0 res ch Hs k i :=
  .skip (opn ops i) (opn_of hi) (fun hm => by rw [List.contains_iff_mem.2 hm] at hc; cases hc) hw hp
theorem FreeOk.c {k i : Nat} (t : Nat) (p : PV) (H H' : List Blk) (hi : (ops[i]?).isSome = true) (hc : ch[t]? = some i) (hw : wantA ops (stAt ops k st0 res i) (opn ops i) = some true) (hp : res[i]? = some p) (h1 : Hs[t]? = some H) (h2 : Hs[t + 1]? = some H')
    (h : OpW P G n0 (opn ops i) (stAt ops k st0 res i) H p H') : FreeOk P G n0 nt ops st0 res ch Hs k i :=
  .chain (opn ops i) p t H H' (opn_of hi) hc hw hp h1 h2 h
theorem AWP.drawn {id : Nat} {Hf : List Blk} {st1 : St} (k : Nat) (ks ks1 : List Nat) (l : List Nat) (hm : P.follows .mixedOrders = true) (hs : st.pick ks = st0) (hok : drawOk nt ops ch k = true) (hfree : FreeUpTo P G n0 nt ops st0 res ch Hs k k)
    (hfirst : Hs[0]? = some H) (hlast : Hs[ch.length]? = some Hf) (hst1 : (stL ops st0 res (List.range k)).pick ks1 = st1) (hl : List.range' k (ops.size - k) = l)
    (htail : AOps P G n0 nt ops l Q st1 Hf) : AWP P G n0 nt (.region id ops true) Q st H :=
  AWP.draw hm (by subst hs; exact St.pick_sub ks st) hok hfree.get hfirst hlast (by rw [hl]; exact htail.sub (by subst hst1; exact St.pick_sub ks1 _))
end
end Go.AM

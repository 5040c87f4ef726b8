/- Plain laws: the entries of a box; ExpandComputes. No condition. -/
import Derived.Test.YteonocagaakagaaDoorL9
set_option maxRecDepth 100000
namespace Go.AM
open Go

/-- A loop over a list that appends. -/
theorem loop_flat {α β : Type} (L : Nat → List β → Int → Option (List β)) (l : List α) (g : α → List β)
    (hstep : ∀ (n : Nat) (acc : List β) (i : Nat) (x : α), l[i]? = some x → acc.length + (g x).length ≤ lim → L (n + 1) acc (i : Int) = L n (acc ++ g x) ((i + 1 : Nat) : Int))
    (hend : ∀ (n : Nat) (acc : List β) (i : Nat), l.length ≤ i → L (n + 1) acc (i : Int) = some acc) : ∀ (m i : Nat) (acc : List β) (n : Nat), i + m = l.length → acc.length + ((l.drop i).flatMap g).length ≤ lim →
    L (n + m + 1) acc (i : Int) = some (acc ++ (l.drop i).flatMap g)
  | 0, i, acc, n, hi, _ => by
    rw [hend _ _ _ (by omega), List.drop_eq_nil_of_le (by omega)]; simp
  | m + 1, i, acc, n, hi, hl => by
    have hlt : i < l.length := by omega
    rw [List.drop_eq_getElem_cons hlt, List.flatMap_cons, List.length_append] at hl
    rw [hstep (n + (m + 1)) acc i l[i] (List.getElem?_eq_getElem hlt) (by omega), show n + (m + 1) = n + m + 1 by omega]
    rw [loop_flat L l g hstep hend m (i + 1) (acc ++ g l[i]) n (by omega) (by rw [List.length_append]; omega)]
    rw [List.drop_eq_getElem_cons hlt, List.flatMap_cons, List.append_assoc]
theorem loop_all {α β : Type} {L : Nat → List β → Int → Option (List β)} (l : List α) (g : α → List β)
    (hstep : ∀ (n : Nat) (acc : List β) (i : Nat) (x : α), l[i]? = some x → acc.length + (g x).length ≤ lim → L (n + 1) acc (i : Int) = L n (acc ++ g x) ((i + 1 : Nat) : Int))
    (hend : ∀ (n : Nat) (acc : List β) (i : Nat), l.length ≤ i → L (n + 1) acc (i : Int) = some acc) (hl : l.length ≤ 1000000000000) (acc : List β) (hlim : acc.length + (l.flatMap g).length ≤ lim) : L fuel acc 0 = some (acc ++ l.flatMap g) := by
  obtain ⟨f, hf⟩ := fuel_cut l.length hl
  rw [hf]
  exact loop_flat L l g hstep hend l.length 0 acc f (by omega) hlim
theorem idx_some {α : Type} {l : List α} {i : Nat} {x : α} (h : l[i]? = some x) : idx l (i : Int) = some x := by simp [idx, h]
theorem get_lt {α : Type} {l : List α} {i : Nat} {x : α} (h : l[i]? = some x) : i < l.length := (List.getElem?_eq_some_iff.1 h).1
theorem wnx {i : Nat} (h : i < 4611686018427387904) : IntKind.wrap .i64 ((i : Int) + (1 : Int)) = ((i + 1 : Nat) : Int) := wi64 (by omega) (by omega)

/-- All boxes of a range of each list, the first field slowest. -/
def pr (b : Arr5 (List api_Range)) : List (Arr5 api_Range) := b.x0.flatMap fun x => b.x1.flatMap fun y => b.x2.flatMap fun z => b.x3.flatMap fun u => b.x4.flatMap fun v => [⟨x, y, z, u, v⟩]
theorem flat_one {α β : Type} (l : List α) (f : α → β) : (l.flatMap fun x => [f x]) = l.map f := by induction l with
  | nil => rfl
  | cons x l ih => simp [List.flatMap_cons, ih]
theorem flat_len {α β : Type} (l : List α) (g : α → List β) (k : Nat) (h : ∀ x ∈ l, (g x).length = k) : (l.flatMap g).length = l.length * k := by
  induction l with
  | nil => simp
  | cons x l ih => rw [List.flatMap_cons, List.length_append, h x (by simp), ih fun y hy => h y (by simp [hy]), List.length_cons, Nat.add_mul]; omega
theorem pr_len4 (l : List api_Range) (f : api_Range → Arr5 api_Range) : (l.flatMap fun v => [f v]).length = l.length := by rw [flat_one, List.length_map]
theorem pr_len (b : Arr5 (List api_Range)) : (pr b).length = b.x0.length * (b.x1.length * (b.x2.length * (b.x3.length * b.x4.length))) := by
  unfold pr
  refine flat_len _ _ _ fun x _ => flat_len _ _ _ fun y _ => flat_len _ _ _ fun z _ => flat_len _ _ _ fun u _ => pr_len4 _ _

section
variable {r : Arr5 (List api_Range)} (h0 : r.x0.length ≤ 1000) (h1 : r.x1.length ≤ 1000) (h2 : r.x2.length ≤ 1000) (h3 : r.x3.length ≤ 1000) (h4 : r.x4.length ≤ 1000)
include h4 in
theorem En5 (x y z u : api_Range) (acc : List (Arr5 api_Range)) (hl : acc.length + (r.x4.flatMap fun v => [(⟨x, y, z, u, v⟩ : Arr5 api_Range)]).length ≤ lim) :
    F_expand_Entries_L5 r x y z u fuel acc 0 = some (acc ++ r.x4.flatMap fun v => [⟨x, y, z, u, v⟩]) := by
  refine loop_all r.x4 _ (fun n acc i v hv hlim => ?_) (fun n acc i hi => ?_) (by omega) acc hl
  · have := get_lt hv
    rw [F_expand_Entries_L5, if_pos (decide_eq_true (by omega)), idx_some hv]
    simp only [Option.bind_some]
    rw [if_pos hlim, wnx (by omega)]
  · rw [F_expand_Entries_L5, if_neg (by simp; omega)]
include h3 h4 in
theorem En4 (x y z : api_Range) (acc : List (Arr5 api_Range)) (hl : acc.length + (r.x3.flatMap fun u => r.x4.flatMap fun v => [(⟨x, y, z, u, v⟩ : Arr5 api_Range)]).length ≤ lim) :
    F_expand_Entries_L4 r x y z fuel acc 0 = some (acc ++ r.x3.flatMap fun u => r.x4.flatMap fun v => [⟨x, y, z, u, v⟩]) := by
  refine loop_all r.x3 _ (fun n acc i v hv hlim => ?_) (fun n acc i hi => ?_) (by omega) acc hl
  · have := get_lt hv
    rw [F_expand_Entries_L4, if_pos (decide_eq_true (by omega)), idx_some hv]
    simp only [Option.bind_some]
    rw [En5 h4 x y z v acc hlim, Option.bind_some, wnx (by omega)]
  · rw [F_expand_Entries_L4, if_neg (by simp; omega)]
include h2 h3 h4 in
theorem En3 (x y : api_Range) (acc : List (Arr5 api_Range)) (hl : acc.length + (r.x2.flatMap fun z => r.x3.flatMap fun u => r.x4.flatMap fun v => [(⟨x, y, z, u, v⟩ : Arr5 api_Range)]).length ≤ lim) :
    F_expand_Entries_L3 r x y fuel acc 0 = some (acc ++ r.x2.flatMap fun z => r.x3.flatMap fun u => r.x4.flatMap fun v => [⟨x, y, z, u, v⟩]) := by
  refine loop_all r.x2 _ (fun n acc i v hv hlim => ?_) (fun n acc i hi => ?_) (by omega) acc hl
  · have := get_lt hv
    rw [F_expand_Entries_L3, if_pos (decide_eq_true (by omega)), idx_some hv]
    simp only [Option.bind_some]
    rw [En4 h3 h4 x y v acc hlim, Option.bind_some, wnx (by omega)]
  · rw [F_expand_Entries_L3, if_neg (by simp; omega)]
include h1 h2 h3 h4 in
theorem En2 (x : api_Range) (acc : List (Arr5 api_Range)) (hl : acc.length + (r.x1.flatMap fun y => r.x2.flatMap fun z => r.x3.flatMap fun u => r.x4.flatMap fun v => [(⟨x, y, z, u, v⟩ : Arr5 api_Range)]).length ≤ lim) :
    F_expand_Entries_L2 r x fuel acc 0 = some (acc ++ r.x1.flatMap fun y => r.x2.flatMap fun z => r.x3.flatMap fun u => r.x4.flatMap fun v => [⟨x, y, z, u, v⟩]) := by
  refine loop_all r.x1 _ (fun n acc i v hv hlim => ?_) (fun n acc i hi => ?_) (by omega) acc hl
  · have := get_lt hv
    rw [F_expand_Entries_L2, if_pos (decide_eq_true (by omega)), idx_some hv]
    simp only [Option.bind_some]
    rw [En3 h2 h3 h4 x v acc hlim, Option.bind_some, wnx (by omega)]
  · rw [F_expand_Entries_L2, if_neg (by simp; omega)]
include h0 h1 h2 h3 h4 in
theorem En1 (hl : (pr r).length ≤ lim) : F_expand_Entries_L1 r fuel [] 0 = some (pr r) := by
  refine (loop_all (L := F_expand_Entries_L1 r) r.x0 (fun x => r.x1.flatMap fun y => r.x2.flatMap fun z => r.x3.flatMap fun u => r.x4.flatMap fun v => [(⟨x, y, z, u, v⟩ : Arr5 api_Range)]) (fun n acc i v hv hlim => ?_) (fun n acc i hi => ?_) (by omega) [] (by simpa [pr] using hl)).trans (by rw [List.nil_append]; rfl)
  · have := get_lt hv
    rw [F_expand_Entries_L1, if_pos (decide_eq_true (by omega)), idx_some hv]
    simp only [Option.bind_some]
    rw [En2 h1 h2 h3 h4 v acc hlim, Option.bind_some, wnx (by omega)]
  · rw [F_expand_Entries_L1, if_neg (by simp; omega)]
end

theorem bls_le {b : Arr5 api_Range} (h : BOk b) : (bl b.x0).length ≤ 1000 ∧ (bl b.x1).length ≤ 1000 ∧ (bl b.x2).length ≤ 1000 ∧ (bl b.x3).length ≤ 1000 ∧ (bl b.x4).length ≤ 1000 := by
  have c0 := bl_len h.h0 (w := 32) (by omega) p31
  have c1 := bl_len h.h1 (w := 32) (by omega) p31
  have c2 := bl_len h.h2 (w := 8) (by omega) p8
  have c3 := bl_len h.h3 (w := 16) (by omega) p16
  have c4 := bl_len h.h4 (w := 16) (by omega) p16
  omega
theorem pr_cnt {b : Arr5 api_Range} : (pr (bls b)).length = cnt b := by
  rw [pr_len]; unfold cnt bls; simp only [Nat.mul_assoc]
/-- What the entries of a box are. -/
def ents (b : Arr5 api_Range) : List (Arr5 api_Range) × Int := if vB b = true then (if cnt b ≤ 4096 then (pr (bls b), 0) else ([], 3)) else ([], 1)
theorem Entries_eq {b : Arr5 api_Range} (hb : BIn b) : F_expand_Entries b = some (ents b) := by
  unfold F_expand_Entries ents
  rw [Valid_eq]
  simp only [Option.bind_some]
  cases hv : vB b with
  | false => simp
  | true =>
    have hok := vB_ok hb hv
    rw [Cost_eq hb, cost_ok hok, blocks_eq hok]
    simp only [Bool.not_true, Bool.false_eq_true, if_false, if_true, Option.bind_some]
    by_cases hc : cnt b ≤ 4096
    · rw [if_neg (by simp; omega), if_pos hc]
      obtain ⟨a0, a1, a2, a3, a4⟩ := bls_le hok
      rw [En1 (r := bls b) a0 a1 a2 a3 a4 (by rw [pr_cnt]; unfold lim; omega)]; rfl
    · rw [if_pos (by simp; omega), if_neg hc]

/-! ### The same of the reference -/
section
variable {f : Int} (f0 : 0 ≤ f) (f1 : f < 5) {l : List api_Range} (hl : l.length ≤ 1000)
include f0 f1 hl in
theorem Rn3 (v : List (Arr5 api_Range)) (k : Nat) (x : Arr5 api_Range) (hx : v[k]? = some x) (acc : List (Arr5 api_Range)) (hlim : acc.length + (l.flatMap fun y => [x.set f y]).length ≤ lim) :
    F_nsgref7_Entries_L3 v f l (k : Int) fuel acc 0 = some (acc ++ l.flatMap fun y => [x.set f y]) := by
  refine loop_all l _ (fun n acc i y hv hlim => ?_) (fun n acc i hi => ?_) (by omega) acc hlim
  · have := get_lt hv
    rw [F_nsgref7_Entries_L3, if_pos (decide_eq_true (by omega)), idx_some hx, idx_some hv]
    simp only [Option.bind_some]
    rw [if_pos ⟨f0, f1⟩, if_pos hlim, wnx (by omega)]
  · rw [F_nsgref7_Entries_L3, if_neg (by simp; omega)]
include f0 f1 hl in
theorem Rn2 (v : List (Arr5 api_Range)) (hv : v.length ≤ 1000000000) (hlim : (v.flatMap fun x => l.flatMap fun y => [x.set f y]).length ≤ lim) :
    F_nsgref7_Entries_L2 v f l fuel [] 0 = some (v.flatMap fun x => l.flatMap fun y => [x.set f y]) := by
  refine (loop_all (L := F_nsgref7_Entries_L2 v f l) v (fun x => l.flatMap fun y => [x.set f y]) (fun n acc i x hx hlim => ?_) (fun n acc i hi => ?_) (by omega) [] (by simpa using hlim)).trans (by rw [List.nil_append])
  · have := get_lt hx
    rw [F_nsgref7_Entries_L2, if_pos (decide_eq_true (by omega)), Rn3 f0 f1 hl v i x hx acc hlim]
    simp only [Option.bind_some]
    rw [wnx (by omega)]
  · rw [F_nsgref7_Entries_L2, if_neg (by simp; omega)]
end
theorem flat_one_len {α β : Type} (l : List α) (f : α → β) : (l.flatMap fun x => [f x]).length = l.length := by rw [flat_one, List.length_map]
theorem two_len (v : List (Arr5 api_Range)) (l : List api_Range) (f : Int) : (v.flatMap fun x => l.flatMap fun y => [x.set f y]).length = v.length * l.length := flat_len _ _ _ fun x _ => flat_one_len l _
def zb : Arr5 api_Range := Arr5.mk z_api_Range z_api_Range z_api_Range z_api_Range z_api_Range
theorem Rn1 {b : Arr5 api_Range} (h : BOk b) : F_nsgref7_Entries_L1 b fuel [zb] 0 = some (pr (bls b)) := by
  obtain ⟨a0, a1, a2, a3, a4⟩ := bls_le h
  obtain ⟨c0, c1, c2, c3, c4⟩ := cnt_bound h
  unfold cnt at c4
  rw [fuel6]
  generalize (1180591620717411303418 : Nat) = m
  have step : ∀ (n : Nat) (v : List (Arr5 api_Range)) (k : Int), 0 ≤ k → k < 5 → v.length ≤ 1000000000 → v.length * ((bls b).get k).length ≤ lim → ((bls b).get k).length ≤ 1000 →
      F_nsgref7_Entries_L1 b (n + 1) v k = F_nsgref7_Entries_L1 b n (v.flatMap fun x => ((bls b).get k).flatMap fun y => [x.set k y]) (k + 1) := by
    intro n v k h0 h1 hv hlim hl
    rw [F_nsgref7_Entries_L1, if_pos (decide_eq_true h1), rblocks_eq h h0 h1]
    simp only [Option.bind_some]
    rw [Rn2 h0 h1 hl v hv (by rw [two_len]; exact hlim)]
    simp only [Option.bind_some]
    rw [wnext h0 (by omega)]
  have L0 : ([zb].flatMap fun x => (bl b.x0).flatMap fun y => [x.set 0 y]).length = (bl b.x0).length := by rw [two_len]; simp
  have hlim : lim = 2147483648 := rfl
  rw [step (m + 5) [zb] 0 (by omega) (by omega) (by simp) (by show 1 * (bl b.x0).length ≤ lim; omega) a0, show (0 : Int) + 1 = 1 from rfl]
  have e0 : ([zb].flatMap fun x => ((bls b).get 0).flatMap fun y => [x.set 0 y]) = (bl b.x0).flatMap fun x => [⟨x, z_api_Range, z_api_Range, z_api_Range, z_api_Range⟩] := by
    show ((bl b.x0).flatMap fun y => [zb.set 0 y]) ++ [] = _
    rw [List.append_nil]; rfl
  rw [e0]
  have n0 : ((bl b.x0).flatMap fun x => [(⟨x, z_api_Range, z_api_Range, z_api_Range, z_api_Range⟩ : Arr5 api_Range)]).length = (bl b.x0).length := flat_one_len _ _
  rw [step (m + 4) _ 1 (by omega) (by omega) (by rw [n0]; omega) (by rw [n0]; show (bl b.x0).length * (bl b.x1).length ≤ lim; omega) a1, show (1 : Int) + 1 = 2 from rfl]
  have e1 : (((bl b.x0).flatMap fun x => [(⟨x, z_api_Range, z_api_Range, z_api_Range, z_api_Range⟩ : Arr5 api_Range)]).flatMap fun x => ((bls b).get 1).flatMap fun y => [x.set 1 y]) =
      (bl b.x0).flatMap fun x => (bl b.x1).flatMap fun y => [⟨x, y, z_api_Range, z_api_Range, z_api_Range⟩] := by
    rw [List.flatMap_assoc]
    refine congrArg (fun f => List.flatMap f (bl b.x0)) (funext fun x => ?_)
    simp only [List.flatMap_cons, List.flatMap_nil, List.append_nil]; rfl
  have n1 : ((bl b.x0).flatMap fun x => (bl b.x1).flatMap fun y => [(⟨x, y, z_api_Range, z_api_Range, z_api_Range⟩ : Arr5 api_Range)]).length = (bl b.x0).length * (bl b.x1).length := flat_len _ _ _ fun x _ => flat_one_len _ _
  rw [e1, step (m + 3) _ 2 (by omega) (by omega) (by rw [n1]; omega) (by rw [n1]; show (bl b.x0).length * (bl b.x1).length * (bl b.x2).length ≤ lim; omega) a2, show (2 : Int) + 1 = 3 from rfl]
  have e2 : (((bl b.x0).flatMap fun x => (bl b.x1).flatMap fun y => [(⟨x, y, z_api_Range, z_api_Range, z_api_Range⟩ : Arr5 api_Range)]).flatMap fun x => ((bls b).get 2).flatMap fun y => [x.set 2 y]) =
      (bl b.x0).flatMap fun x => (bl b.x1).flatMap fun y => (bl b.x2).flatMap fun z => [⟨x, y, z, z_api_Range, z_api_Range⟩] := by
    rw [List.flatMap_assoc]
    refine congrArg (fun f => List.flatMap f (bl b.x0)) (funext fun x => ?_)
    rw [List.flatMap_assoc]
    refine congrArg (fun f => List.flatMap f (bl b.x1)) (funext fun y => ?_)
    simp only [List.flatMap_cons, List.flatMap_nil, List.append_nil]; rfl
  have n2 : ((bl b.x0).flatMap fun x => (bl b.x1).flatMap fun y => (bl b.x2).flatMap fun z => [(⟨x, y, z, z_api_Range, z_api_Range⟩ : Arr5 api_Range)]).length = (bl b.x0).length * (bl b.x1).length * (bl b.x2).length := by
    rw [Nat.mul_assoc]; exact flat_len _ _ _ fun x _ => flat_len _ _ _ fun y _ => flat_one_len _ _
  rw [e2, step (m + 2) _ 3 (by omega) (by omega) (by rw [n2]; omega) (by rw [n2]; show (bl b.x0).length * (bl b.x1).length * (bl b.x2).length * (bl b.x3).length ≤ lim; omega) a3, show (3 : Int) + 1 = 4 from rfl]
  have e3 : (((bl b.x0).flatMap fun x => (bl b.x1).flatMap fun y => (bl b.x2).flatMap fun z => [(⟨x, y, z, z_api_Range, z_api_Range⟩ : Arr5 api_Range)]).flatMap fun x => ((bls b).get 3).flatMap fun y => [x.set 3 y]) =
      (bl b.x0).flatMap fun x => (bl b.x1).flatMap fun y => (bl b.x2).flatMap fun z => (bl b.x3).flatMap fun u => [⟨x, y, z, u, z_api_Range⟩] := by
    rw [List.flatMap_assoc]
    refine congrArg (fun f => List.flatMap f (bl b.x0)) (funext fun x => ?_)
    rw [List.flatMap_assoc]
    refine congrArg (fun f => List.flatMap f (bl b.x1)) (funext fun y => ?_)
    rw [List.flatMap_assoc]
    refine congrArg (fun f => List.flatMap f (bl b.x2)) (funext fun z => ?_)
    simp only [List.flatMap_cons, List.flatMap_nil, List.append_nil]; rfl
  have n3 : ((bl b.x0).flatMap fun x => (bl b.x1).flatMap fun y => (bl b.x2).flatMap fun z => (bl b.x3).flatMap fun u => [(⟨x, y, z, u, z_api_Range⟩ : Arr5 api_Range)]).length = (bl b.x0).length * (bl b.x1).length * (bl b.x2).length * (bl b.x3).length := by
    rw [Nat.mul_assoc, Nat.mul_assoc]; exact flat_len _ _ _ fun x _ => (flat_len _ _ _ fun y _ => (flat_len _ _ _ fun z _ => flat_one_len _ _)).trans rfl
  rw [e3, step (m + 1) _ 4 (by omega) (by omega) (by rw [n3]; omega) (by rw [n3]; show (bl b.x0).length * (bl b.x1).length * (bl b.x2).length * (bl b.x3).length * (bl b.x4).length ≤ lim; omega) a4, show (4 : Int) + 1 = 5 from rfl]
  have e4 : (((bl b.x0).flatMap fun x => (bl b.x1).flatMap fun y => (bl b.x2).flatMap fun z => (bl b.x3).flatMap fun u => [(⟨x, y, z, u, z_api_Range⟩ : Arr5 api_Range)]).flatMap fun x => ((bls b).get 4).flatMap fun y => [x.set 4 y]) = pr (bls b) := by
    unfold pr
    rw [List.flatMap_assoc]
    refine congrArg (fun f => List.flatMap f (bl b.x0)) (funext fun x => ?_)
    rw [List.flatMap_assoc]
    refine congrArg (fun f => List.flatMap f (bl b.x1)) (funext fun y => ?_)
    rw [List.flatMap_assoc]
    refine congrArg (fun f => List.flatMap f (bl b.x2)) (funext fun z => ?_)
    rw [List.flatMap_assoc]
    refine congrArg (fun f => List.flatMap f (bl b.x3)) (funext fun u => ?_)
    simp only [List.flatMap_cons, List.flatMap_nil, List.append_nil]; rfl
  rw [e4, F_nsgref7_Entries_L1, if_neg (by decide)]
theorem rEntries_eq {b : Arr5 api_Range} (hb : BIn b) : F_nsgref7_Entries b = some (ents b) := by
  unfold F_nsgref7_Entries ents
  rw [rValid_eq]
  simp only [Option.bind_some]
  cases hv : vB b with
  | false => simp
  | true =>
    have hok := vB_ok hb hv
    rw [rCost_eq hb, cost_ok hok]
    simp only [Bool.not_true, Bool.false_eq_true, if_false, if_true, Option.bind_some]
    by_cases hc : cnt b ≤ 4096
    · rw [if_neg (by simp; omega), if_pos hc]
      show (Option.bind (F_nsgref7_Entries_L1 b fuel [zb] 0) _) = _
      rw [Rn1 hok]; rfl
    · rw [if_pos (by simp; omega), if_neg hc]
theorem eq_range (r : api_Range) : eq_api_Range r r = true := by simp [eq_api_Range]
theorem eq_box (b : Arr5 api_Range) : eq_a5_api_Range b b = true := by simp [eq_a5_api_Range, eq_range]
theorem Same_L1_refl (l : List (Arr5 api_Range)) (hl : l.length < 1000000000) : ∀ (m n i : Nat), i + m = l.length → F_nsgref3_Same_L1 l l (n + m + 1) (i : Int) = some (.inl ())
  | 0, n, i, hi => by rw [F_nsgref3_Same_L1, if_neg (by simp; omega)]
  | m + 1, n, i, hi => by
    rw [F_nsgref3_Same_L1, if_pos (decide_eq_true (by omega)), idx_get (show i < l.length by omega)]
    simp only [Option.bind_some, eq_box, Bool.not_true, Bool.false_eq_true, if_false]
    rw [wnx (by omega), show n + (m + 1) = n + m + 1 by omega]
    exact Same_L1_refl l hl m n (i + 1) (by omega)
theorem Same_refl (l : List (Arr5 api_Range)) (hl : l.length < 1000000000) : F_nsgref3_Same l l = some true := by
  unfold F_nsgref3_Same
  obtain ⟨f, hf⟩ := fuel_cut l.length (by omega)
  rw [if_neg (by simp), hf, show (0 : Int) = ((0 : Nat) : Int) from rfl, Same_L1_refl l hl l.length f 0 (by omega)]; rfl
theorem ents_len (b : Arr5 api_Range) : (ents b).1.length < 1000000000 := by
  unfold ents
  split
  · split
    · rw [pr_cnt]; omega
    · decide
  · decide
theorem costs_ok {b : Arr5 api_Range} (hb : BIn b) : F_nsglaw7_costs b = some true := by
  have ha : F_expand_Aligned b = some (cost b false == 1) := by unfold F_expand_Aligned; rw [Cost_eq hb]; rfl
  have hr : F_nsgref7_Aligned b = some (cost b false == 1) := by unfold F_nsgref7_Aligned; rw [rCost_eq hb]; rfl
  unfold F_nsglaw7_costs
  rw [Entries_eq hb, rEntries_eq hb, ha, hr, Cost_eq hb, Cost_eq hb, rCost_eq hb, rCost_eq hb]
  simp only [Option.bind_some]
  rw [Same_refl _ (ents_len b)]
  simp
theorem Computes_L1 : ∀ (m n : Nat) (t : nsggen_Tape) (i : Int), TOk t → i + m = 5 → 0 ≤ i → Ok (F_nsglaw7_ExpandComputes_L1 (n + m + 1) t i) fun r => ∃ t', r = .inl t'
  | 0, n, t, i, ht, hi, h0 => by
    rw [F_nsglaw7_ExpandComputes_L1, if_neg (by simp; omega)]
    exact Ok.ret ⟨t, rfl⟩
  | m + 1, n, t, i, ht, hi, h0 => by
    rw [F_nsglaw7_ExpandComputes_L1, if_pos (decide_eq_true (by omega))]
    refine Ok.bind (Box_ok ht) fun r ⟨g1, g2⟩ => ?_
    rw [costs_ok g1.bin]
    simp only [Option.bind_some, Bool.not_true, Bool.false_eq_true, if_false]
    refine Ok.bind (p := fun v => v.1 = false ∧ TOk v.2) ?_ fun v ⟨hv, hv2⟩ => ?_
    · refine Ok.bind (SpoilBox_ok g2 g1.bin) fun s ⟨k1, k2⟩ => ?_
      rw [costs_ok k1]
      exact Ok.ret ⟨rfl, k2⟩
    · rw [hv]
      simp only [Bool.false_eq_true, if_false]
      rw [wnext h0 (by omega), show n + (m + 1) = n + m + 1 by omega]
      exact Computes_L1 m n v.2 (i + 1) hv2 (by omega) (by omega)
theorem ExpandComputes_law {t : List Int} {b : Arr5 api_Range} (ht : (t.length : Int) < 9223372036854775808) (hb : BIn b) : F_nsglaw7_ExpandComputes t b = some true := by
  refine Ok.eq (r := true) ?_
  unfold F_nsglaw7_ExpandComputes
  refine Ok.bind (New_ok ht) fun t ht => ?_
  obtain ⟨f, hf⟩ := fuel_cut 5 (by omega)
  rw [hf]
  refine Ok.bind (Computes_L1 5 f t 0 ht (by omega) (by omega)) fun r ⟨t', e⟩ => ?_
  subst e
  show Ok ((F_nsglaw7_costs b).bind _) _
  rw [costs_ok hb, sane7_eq]
  exact Ok.ret rfl
theorem ExpandComputes_card {t : List Int} {b : Arr5 api_Range} (ht : ok_s_i64 t) (hb : ok_a5_api_Range b) : F_nsglaw7_ExpandComputes t b = some true := ExpandComputes_law (ok_tape ht) (ok_BIn hb)
end Go.AM

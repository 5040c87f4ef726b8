/- Arguments of a statement, as typed values; what nothing has touched reads as before. No condition. -/
import Derived.Test.YtdpogkakaeeccaaDoorR3
import Derived.Test.YtdpogkakaeeccaaDoorA17
import Derived.WideShapes
import Derived.ChangeShapes
import Derived.Lib.LaidTab
namespace Go.AM
open Go Go.RowKit Go.WideShapes Go.ChangeShapes
variable {P : Program} {W : World}

theorem Reads.intOk {t : TypeId} {k : IntKind} {row : Int → List PV} {ok : Int → Prop} (ht : P.underlying t = some (.int k)) (hr : ∀ n, row n = [.sc (.int k n)]) (hok : ∀ {n}, (Lit.int k n).wf = true → ok n) : Reads P W t row ok := by
  intro H enc fuel cs x h
  obtain ⟨n, hn, h2⟩ := Reads.int (W := W) ht hr H enc fuel cs x h
  exact ⟨n, hok hn, h2⟩
theorem okWide_array {w : World} {r : Reach} {base n : Nat} {t e : TypeId} {v : Value} (ht : P.underlying t = some (.array n e)) (h : Value.okWide P w r base t v) : ∃ cs, v = .agg cs := by
  simp only [Value.okWide, ht] at h
  obtain ⟨cs, h, _⟩ := h
  exact ⟨cs, h⟩
theorem okWide_struct {w : World} {r : Reach} {base : Nat} {fs : Array Field} {t : TypeId} {v : Value} (ht : P.underlying t = some (.struct fs)) (h : Value.okWide P w r base t v) : ∃ cs, v = .agg cs := by
  simp only [Value.okWide, ht] at h
  obtain ⟨cs, h, _⟩ := h
  exact ⟨cs, h⟩
section
variable {H : Type} {enc : TypeId × Value → H} {w : World} {r : Reach} {base : Nat} {t : TypeId} {α : Type} {row : α → List PV} {ok : α → Prop} {p : α → PV} {v : Value} {d : DataW H} {ps : List MemPlace}
theorem arg_int {k : IntKind} (ht : P.underlying t = some (.int k)) (hv : Value.okWide P w r base t v) (h : Reads P W t row ok) (hd : DataW.Trod enc P W 0 (fun _ => true) true t v d ps) (hp : ∀ a, row a = [p a]) : ∃ a, ok a ∧ VR (old W) [] W (p a) v := by
  obtain ⟨n, rfl⟩ := okWide_int ht hv
  exact arg_one h hd rfl hp
theorem arg_bool (ht : P.underlying t = some .bool) (hv : Value.okWide P w r base t v) (h : Reads P W t row ok) (hd : DataW.Trod enc P W 0 (fun _ => true) true t v d ps) (hp : ∀ a, row a = [p a]) : ∃ a, ok a ∧ VR (old W) [] W (p a) v := by
  obtain ⟨n, rfl⟩ := okWide_bool ht hv
  exact arg_one h hd rfl hp
theorem arg_str (ht : P.underlying t = some .string) (hv : Value.okWide P w r base t v) (h : Reads P W t row ok) (hd : DataW.Trod enc P W 0 (fun _ => true) true t v d ps) (hp : ∀ a, row a = [p a]) : ∃ a, ok a ∧ VR (old W) [] W (p a) v := by
  obtain ⟨n, rfl⟩ := okWide_string ht hv
  exact arg_one h hd rfl hp
theorem arg_slice {e : TypeId} (ht : P.underlying t = some (.slice e)) (hv : Value.okWide P w r base t v) (h : Reads P W t row ok) (hd : DataW.Trod enc P W 0 (fun _ => true) true t v d ps) (hp : ∀ a, row a = [p a]) : ∃ a, ok a ∧ VR (old W) [] W (p a) v := by
  obtain ⟨a, len, cap, rfl⟩ := okWide_slice ht hv
  exact arg_one h hd rfl hp
theorem arg_aggs {us : Array Value} (h : Reads P W t row ok) (hd : DataW.Trod enc P W 0 (fun _ => true) true t (.agg us) d ps) (hp : ∀ a, p a = .agg (row a)) : ∃ a, ok a ∧ VR (old W) [] W (p a) (.agg us) := by
  obtain ⟨a, h1, h2⟩ := arg_agg h hd
  refine ⟨a, h1, ?_⟩
  rw [hp]; simp only [VR]
  exact ⟨us, rfl, h2⟩
theorem arg_flat {us : Array Value} {vs : α → List Value} (h : Reads P W t row ok) (hd : DataW.Trod enc P W 0 (fun _ => true) true t (.agg us) d ps) (hr : ∀ a, row a = (vs a).map .sc) (hp : ∀ a, p a = .sc (.agg ⟨vs a⟩)) : ∃ a, ok a ∧ VR (old W) [] W (p a) (.agg us) := by
  obtain ⟨a, h1, h2⟩ := arg_agg h hd
  refine ⟨a, h1, ?_⟩
  rw [hr] at h2
  have e := flat_of (vs a) us.toList h2
  rw [hp]; simp only [VR]
  congr 1
  cases us; simp_all
theorem arg_array {n : Nat} {e : TypeId} (ht : P.underlying t = some (.array n e)) (hv : Value.okWide P w r base t v) (h : Reads P W t row ok) (hd : DataW.Trod enc P W 0 (fun _ => true) true t v d ps) (hp : ∀ a, p a = .agg (row a)) : ∃ a, ok a ∧ VR (old W) [] W (p a) v := by
  obtain ⟨us, rfl⟩ := okWide_array ht hv
  exact arg_aggs h hd hp
theorem arg_arrayF {n : Nat} {e : TypeId} {vs : α → List Value} (ht : P.underlying t = some (.array n e)) (hv : Value.okWide P w r base t v) (h : Reads P W t row ok) (hd : DataW.Trod enc P W 0 (fun _ => true) true t v d ps) (hr : ∀ a, row a = (vs a).map .sc) (hp : ∀ a, p a = .sc (.agg ⟨vs a⟩)) : ∃ a, ok a ∧ VR (old W) [] W (p a) v := by
  obtain ⟨us, rfl⟩ := okWide_array ht hv
  exact arg_flat h hd hr hp
theorem arg_struct {fs : Array Field} (ht : P.underlying t = some (.struct fs)) (hv : Value.okWide P w r base t v) (h : Reads P W t row ok) (hd : DataW.Trod enc P W 0 (fun _ => true) true t v d ps) (hp : ∀ a, p a = .agg (row a)) : ∃ a, ok a ∧ VR (old W) [] W (p a) v := by
  obtain ⟨us, rfl⟩ := okWide_struct ht hv
  exact arg_aggs h hd hp
theorem arg_structF {fs : Array Field} {vs : α → List Value} (ht : P.underlying t = some (.struct fs)) (hv : Value.okWide P w r base t v) (h : Reads P W t row ok) (hd : DataW.Trod enc P W 0 (fun _ => true) true t v d ps) (hr : ∀ a, row a = (vs a).map .sc) (hp : ∀ a, p a = .sc (.agg ⟨vs a⟩)) : ∃ a, ok a ∧ VR (old W) [] W (p a) v := by
  obtain ⟨us, rfl⟩ := okWide_struct ht hv
  exact arg_flat h hd hr hp
/-- What was there reads as it read. -/
theorem trodAll_below (hl : laidOutB P = true) {W' : World} (hb : Below W.heap.size W W') : ∀ (ts : List TypeId) (vs : List Value) (ds : List (DataW H)) (ps : List MemPlace), (ts.all fun t => P.readableRec t && decide (t < P.types.size)) = true →
    DataW.TrodAll enc P W 0 (fun _ => true) true ts vs ds ps → (∀ x ∈ ps, x.block < W.heap.size) → DataW.TrodAll enc P W' 0 (fun b => decide (b < W.heap.size)) true ts vs ds ps
  | [], vs, ds, ps, _, h, _ => by
    obtain ⟨rfl, rfl, rfl⟩ := trodAll_nil h
    exact trodAll_mk0
  | t :: ts, vs, ds, ps, hts, h, hlt => by
    obtain ⟨v, vs', d, ds', p, q, rfl, rfl, rfl, h1, h2⟩ := trodAll_cons h
    simp only [List.all_cons, Bool.and_eq_true, decide_eq_true_eq] at hts
    exact ⟨p, q, Below.trod hl hts.1.1 hts.1.2 h1 hb fun x hx => hlt x (by simp [hx]), trodAll_below hl hb ts vs' ds' q hts.2 h2 fun x hx => hlt x (by simp [hx]), rfl⟩
end

/-! ### Tables of the program -/
theorem laidMet_tail {x : String × DataW Unit} {rest : List (String × DataW Unit)} (h : laidMet P (x :: rest) W) : laidMet P rest W := by
  obtain ⟨ps, ⟨g', t', cs, fuel, p, q, _, _, _, _, hr, rfl⟩, hn, hc⟩ := h
  exact ⟨q, hr, (List.nodup_append.1 hn).2.1, fun b off hm => hc b off (List.mem_append_right _ hm)⟩
theorem lt_of_cell {g i : Nat} {v : Value} (h : W.cell? ⟨g, i, none⟩ = some v) : g < W.heap.size := by
  unfold World.cell? at h
  cases hh : W.heap[g]? with
  | none => simp [hh] at h
  | some o => exact (Array.getElem?_eq_some_iff.1 hh).1
def lay (c : Array Value) : Obj → Obj
  | .cells _ t frozen => .cells c t frozen
  | o => o
end Go.AM

/- ExpandProducts: the statement. -/
import Derived.Test.YteonocagaakagaaDoorCards
import Derived.Test.YteonocagaakagaaDoorTie
import Derived.WalkKit
import Derived.ProofKit
import Derived.OpenShut
import Derived.Deep.DeepHandedRow
import Derived.Lib.LaidTab
import Derived.Test.YteonocagaakagaaDoorR3
import Derived.Test.YteonocagaakagaaDoorL7
import Derived.Test.YteonocagaakagaaDoorPK2
set_option maxRecDepth 100000
namespace Go.Proofs.YteonocagaakagaaDoor.ExpandProducts
open Go.ChangeShapes Go.WideShapes Go.ChangeAt Go.RowKit Go.AM

theorem wf_u32 {n : Int} (h : (Lit.int .u32 n).wf = true) : 0 ≤ n ∧ n < 4294967296 := by
  simp [Lit.wf, IntKind.min, IntKind.max, IntKind.signed, IntKind.bits] at h
  omega
theorem reads_tape {W : World} : Reads Tryd.prog W 22 (fun l : List Int => [.sl 1 (l.map row_i64)]) (fun l => l.length ≤ maxLen ∧ ∀ x ∈ l, (Lit.int .i64 x).wf = true) :=
  Reads.slice (e := 3) (by kernel_rfl) (by kernel_rfl) (by decide) (Reads.int (by kernel_rfl) fun _ => rfl)
theorem reads_range {W : World} : Reads Tryd.prog W 25 row_api_Range RIn :=
  Reads.struct (fun z : Int × Int × Unit => ⟨z.1, z.2.1⟩) Tryd.underlying25 (by kernel_rfl) (by kernel_rfl) (by kernel_rfl) (fl := [(23, 1), (23, 1)])
    (FR.cons (Reads.int (row := row_u32) (by kernel_rfl) fun _ => rfl) (FR.cons (Reads.int (row := row_u32) (by kernel_rfl) fun _ => rfl) FR.nil)) (fun _ => rfl)
    (fun z ⟨h1, h2, _⟩ => ⟨(wf_u32 h1).1, (wf_u32 h1).2, (wf_u32 h2).1, (wf_u32 h2).2⟩)
theorem reads_box {W : World} : Reads Tryd.prog W 27 row_a5_api_Range BIn :=
  Reads.array (m := 5) (e := 25) (s := 2) (fun z : api_Range × api_Range × api_Range × api_Range × api_Range × Unit => ⟨z.1, z.2.1, z.2.2.1, z.2.2.2.1, z.2.2.2.2.1⟩) (by kernel_rfl) (by kernel_rfl) (by kernel_rfl)
    (FR.cons reads_range (FR.cons reads_range (FR.cons reads_range (FR.cons reads_range (FR.cons reads_range FR.nil))))) (fun _ => rfl)
    (fun z ⟨h0, h1, h2, h3, h4, _⟩ => ⟨h0, h1, h2, h3, h4⟩)

theorem own : ownKnob Tryd.prog.godebug = none := by kernel_rfl
theorem laidOut : laidOutB Tryd.prog = true := by kernel_rfl
theorem gTops : Tryd.prog.globalNamed "netsegment/box.tops" = some 0 := by kernel_rfl
theorem gWidths : Tryd.prog.globalNamed "netsegment/expand.widths" = some 1 := by kernel_rfl

theorem okWide_array {P : Program} {w : World} {r : Reach} {base n : Nat} {t e : TypeId} {v : Value} (ht : P.underlying t = some (.array n e)) (h : Value.okWide P w r base t v) : ∃ cs, v = .agg cs := by
  simp only [Value.okWide, ht] at h
  obtain ⟨cs, h, _⟩ := h
  exact ⟨cs, h⟩

theorem laidMet_tail {P : Program} {W : World} {x : String × DataW Unit} {rest : List (String × DataW Unit)} (h : laidMet P (x :: rest) W) : laidMet P rest W := by
  obtain ⟨ps, ⟨g', t', cs, fuel, p, q, _, _, _, _, hr, rfl⟩, hn, hc⟩ := h
  exact ⟨q, hr, (List.nodup_append.1 hn).2.1, fun b off hm => hc b off (List.mem_append_right _ hm)⟩
theorem lt_of_cell {W : World} {g i : Nat} {v : Value} (h : W.cell? ⟨g, i, none⟩ = some v) : g < W.heap.size := by
  unfold World.cell? at h
  cases hh : W.heap[g]? with
  | none => simp [hh] at h
  | some o => exact (Array.getElem?_eq_some_iff.1 hh).1
/-- The two tables, as the row lists them. -/
theorem tables {W : World} (h : laidMetH Tryd.prog Rows.expandProductsRow.laid W) : ∀ g cs, (g, cs) ∈ glob → g < W.heap.size ∧ VRow (old W) [] W g 0 cs := by
  have h1 : Lib.TabIs Tryd.prog W "netsegment/box.tops" .u32 [4294967295, 4294967295, 255, 65535, 65535] := Lib.tabIs_of_head (rest := [("netsegment/expand.widths", Rows.laid_netsegment_expand_widths)]) gTops (t := 70) (n := 5) (by kernel_rfl) (e := 23) (by kernel_rfl) (by kernel_rfl) (by kernel_rfl) (by kernel_rfl) h
  have h2 : Lib.TabIs Tryd.prog W "netsegment/expand.widths" .i64 [32, 32, 8, 16, 16] := Lib.tabIs_of_head (rest := []) gWidths (t := 85) (n := 5) (by kernel_rfl) (e := 3) (by kernel_rfl) (by kernel_rfl) (by kernel_rfl) (by kernel_rfl) (laidMet_tail h)
  intro g cs hm
  simp only [glob, List.mem_cons, List.not_mem_nil, or_false, Prod.mk.injEq] at hm
  rcases hm with ⟨rfl, rfl⟩ | ⟨rfl, rfl⟩
  · refine ⟨lt_of_cell (h1.cell gTops 0 (by decide)), ?_⟩
    simp only [row_a5_u32, VRow, VR]
    exact ⟨⟨_, h1.cell gTops 0 (by decide), rfl⟩, ⟨_, h1.cell gTops 1 (by decide), rfl⟩, ⟨_, h1.cell gTops 2 (by decide), rfl⟩, ⟨_, h1.cell gTops 3 (by decide), rfl⟩, ⟨_, h1.cell gTops 4 (by decide), rfl⟩, trivial⟩
  · refine ⟨lt_of_cell (h2.cell gWidths 0 (by decide)), ?_⟩
    simp only [row_a5_i64, VRow, VR]
    exact ⟨⟨_, h2.cell gWidths 0 (by decide), rfl⟩, ⟨_, h2.cell gWidths 1 (by decide), rfl⟩, ⟨_, h2.cell gWidths 2 (by decide), rfl⟩, ⟨_, h2.cell gWidths 3 (by decide), rfl⟩, ⟨_, h2.cell gWidths 4 (by decide), rfl⟩, trivial⟩

theorem contract (H : Type) (enc : TypeId × Value → H) (W : World) (base : Nat) (args : Array Value) (ds gs : List (DataW H)) (before : List MemPlace)
    (hval : ∀ (j : Nat) t v, Tryd.f5.params[j]? = some t → args[j]? = some v → Value.okWide Tryd.prog W .any base t v)
    (hW : DataW.Whole enc Tryd.prog Tryd.f5.params.toList Rows.expandProductsSpec.vars false W args.toList ds gs before) (hL : laidMetH Tryd.prog Rows.expandProductsRow.laid W) :
    Calls Tryd.prog 5 args W fun e W' => ∃ v, e = .returned v ∧ Rows.expandProductsSpec.post enc Tryd.prog Tryd.f5 false true false false W args v W' := by
  have hW' := hW
  obtain ⟨p, q, hA0, hV, rfl, hfz, hnd⟩ := hW
  have hA : DataW.TrodAll enc Tryd.prog W 0 (fun _ => true) true Tryd.f5.params.toList args.toList ds p := hA0
  rw [Tryd.params5] at hA hval
  obtain ⟨v0, v1, d0, d1, p0, p1, rfl, rfl, rfl, h0, h1⟩ := trodAll_two hA
  obtain ⟨rfl, rfl⟩ := trodVars_none hV
  obtain ⟨a0, len, cap, rfl⟩ := okWide_slice (e := 3) (by kernel_rfl) (hval 0 22 v0 rfl rfl)
  obtain ⟨us, rfl⟩ := okWide_array (n := 5) (e := 25) (by kernel_rfl) (hval 1 27 v1 rfl rfl)
  obtain ⟨l, ⟨hl, _⟩, hv0⟩ := arg_one (p := fun l => .sl 1 (l.map row_i64)) reads_tape h0 rfl (fun _ => rfl)
  obtain ⟨b, hb, hv1⟩ := arg_agg reads_box h1
  have eu : us = ⟨vs_a5_api_Range b⟩ := by
    have := flat_of (vs_a5_api_Range b) us.toList hv1
    cases us; simp_all
  have hlen : (l.length : Int) < 9223372036854775808 := by unfold maxLen at hl; omega
  have hcall := (K_nsglaw7_ExpandProducts l b true (ExpandProducts_law hlen hb)).law (W := W) (tables hL) (cargs := #[.slice a0 len cap, .agg us]) (by
    simp only [VRs]
    exact ⟨hv0, by simp only [pv_a5_api_Range, VR]; rw [eu], trivial⟩)
  refine hcall.mono fun e W' ⟨he, hbel⟩ => ?_
  subst he
  refine ⟨_, rfl, [d0, d1], [], _, [], p0 ++ p1, [], hW', trodAll_mk1 (shut_bool Tryd.underlying4 _), ?_, rfl, World.keptBut_mono (fun _ f => f.elim) (hbel.frame (fun _ => False)), fun h => by cases h⟩
  have hlt : ∀ x ∈ p0 ++ p1, x.block < W.heap.size := fun x hx => by simpa using hW'.lt x (by simpa using hx)
  rw [Tryd.params5]
  exact trodAll_mk2 (Below.trod laidOut (by kernel_rfl) (of_decide_eq_true (by kernel_rfl)) h0 hbel (fun x hx => hlt x (by simp [hx]))) (Below.trod laidOut (by kernel_rfl) (of_decide_eq_true (by kernel_rfl)) h1 hbel (fun x hx => hlt x (by simp [hx])))

def lay (c : Array Value) : Obj → Obj
  | .cells _ t frozen => .cells c t frozen
  | o => o
/-- A WORLD FOR THE WITNESS: the settled one, the tables holding what their initialisers lay. -/
noncomputable def laidWorld (os : Os) : World :=
  { World.holding Tryd.prog os ⟨#[], #[], []⟩ with heap := ((World.holding Tryd.prog os ⟨#[], #[], []⟩).heap.modify 0 (lay #[.int .u32 4294967295, .int .u32 4294967295, .int .u32 255, .int .u32 65535, .int .u32 65535])).modify 1 (lay #[.int .i64 32, .int .i64 32, .int .i64 8, .int .i64 16, .int .i64 16]) }
def zbox : Value := .agg #[.int .u32 0, .int .u32 0, .int .u32 0, .int .u32 0, .int .u32 0, .int .u32 0, .int .u32 0, .int .u32 0, .int .u32 0, .int .u32 0]
theorem laid_met (os : Os) : laidMet Tryd.prog Rows.expandProductsRow.laid ((laidWorld os).forCall (fun _ _ => 0) ⟨#[], #[.slice none 0 0, zbox], []⟩).memory :=
  laidMet_of_run' 8 (by kernel_rfl) (by kernel_rfl)
def zr {H : Type} : DataW H := .agg [.lit (.int .u32 0), .lit (.int .u32 0)]
theorem reads (os : Os) {H : Type} (enc : TypeId × Value → H) : ∃ places, DataW.whole enc Tryd.prog ((laidWorld os).forCall (fun _ _ => 0) ⟨#[], #[.slice none 0 0, zbox], []⟩).memory Tryd.f5.params.toList Rows.expandProductsSpec.vars false #[Value.slice none 0 0, zbox].toList 8 = some ([.nil, .agg [zr, zr, zr, zr, zr]], [], places) :=
  ⟨[], by kernel_rfl⟩
theorem lifted (os : Os) (started : os.Started) (H : Type) (enc : TypeId × Value → H) (F : Stop.Interp) :
    ReturnsInHanded {} Tryd.checked os 5 .any ((OpenSpec.ofChange Rows.expandProductsSpec).preRow enc Tryd.prog Tryd.f5 Rows.expandProductsRow.domain false Rows.expandProductsRow.laid) (((OpenSpec.ofChange Rows.expandProductsSpec).at F).post enc Tryd.prog Tryd.f5 false true false false) := by
  obtain ⟨places, hx⟩ := reads os enc
  refine returnsInHanded_of_row (C := Tryd.checked) (s := OpenSpec.ofChange Rows.expandProductsSpec) own started (by kernel_rfl) Tryd.func5
    (witness_row_at (enc := enc) (C := Tryd.checked) false (laidWorld os) #[.slice none 0 0, zbox] rfl (by kernel_rfl) (by kernel_rfl) (by kernel_rfl)
      (OpenSpec.preRow_of_cond 8 hx (by kernel_rfl) (fun k hk => by cases hk) (by kernel_rfl) (laid_met os))) ?_
  intro W base args ds gs before hval hW _ _ _ hL _ _
  exact contract H enc W base args ds gs before hval hW hL
theorem said : Rows.ExpandProductsSaid :=
  OpenClaim.holds_of_cond 5 Tryd.f5 rfl rfl rfl rfl rfl rfl rfl ⟨rfl, rfl, rfl, rfl, rfl⟩ rfl rfl rfl rfl rfl (by kernel_rfl) Tryd.func5 (by kernel_rfl)
    (of_decide_eq_true (by kernel_rfl)) (by unfold Func.isWrapper; first | (rw [if_pos (by decide +kernel)]; kernel_rfl) | (rw [if_neg (by decide +kernel)]; exact ⟨rfl, rfl⟩))
    (fun os started H enc _ F => by rw [OpenClaim.pre_eq_preRow]; exact lifted os started H enc F)
theorem plain (f : FuncId) (fn : Func) (hf : Tryd.pinned.checked.prog.funcNamed "netsegment/nsglaw7.ExpandProducts" = some f) (hfn : Tryd.pinned.checked.prog.funcs[f]? = some fn) :
    false = Tryd.pinned.checked.prog.looks [] ∧ ∀ (j : Nat) t, fn.params[j]? = some t → Tryd.pinned.checked.prog.wantsStandIn t = false := by
  obtain rfl : f = 5 := Option.some.inj ((show Tryd.prog.funcNamed "netsegment/nsglaw7.ExpandProducts" = some 5 by kernel_rfl).symm.trans hf) |>.symm
  obtain rfl : fn = Tryd.f5 := (Option.some.inj (Tryd.func5.symm.trans hfn)).symm
  refine ⟨by kernel_rfl, fun j t ht => ?_⟩
  rw [Tryd.params5] at ht
  have := Array.mem_of_getElem? ht
  simp only [List.mem_toArray, List.mem_cons, List.not_mem_nil, or_false] at this
  rcases this with rfl | rfl
  · exact (show Tryd.prog.wantsStandIn 22 = false by kernel_rfl)
  · exact (show Tryd.prog.wantsStandIn 27 = false by kernel_rfl)
theorem card : Rows.ExpandProductsCardSaid :=
  Claim7.holds_tied_plain_at .later [] _ _ _ _ said (fun _ h => by cases h) (by kernel_rfl) (fun _ h => by cases h) expandProducts_row_tie rfl ⟨rfl, rfl⟩ (by kernel_rfl) rfl plain (by kernel_rfl)
end Go.Proofs.YteonocagaakagaaDoor.ExpandProducts

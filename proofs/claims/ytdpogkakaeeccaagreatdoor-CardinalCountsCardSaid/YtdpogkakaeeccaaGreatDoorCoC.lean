/- CardinalCounts: the statement. For all arguments that can be read; what the tables hold is tied by the card. -/
import Derived.Test.YtdpogkakaeeccaaGreatDoorCoQ7
import Derived.Test.YtdpogkakaeeccaaGreatDoorCards
import Derived.Test.YtdpogkakaeeccaaGreatDoorTie
import Derived.WalkKit
import Derived.ProofKit
import Derived.OpenShut
import Derived.Deep.DeepHandedRow
import Derived.Lib.LaidTab
set_option maxRecDepth 100000
namespace Go.Proofs.YtdpogkakaeeccaaGreatDoor.CardinalCounts
open Go.ChangeShapes Go.WideShapes Go.ChangeAt Go.RowKit Go.AM
theorem rd3 {W : World} : Reads Tryz.prog W 3 Zz Zq2 :=
  Reads.intOk (by kernel_rfl) (fun _ => rfl) wf_i64
theorem rd22 {W : World} : Reads Tryz.prog W 22 Zyl Zpz :=
  Reads.slice (e := 3) (by kernel_rfl) (by kernel_rfl) (by decide) rd3
theorem rd39 {W : World} : Reads Tryz.prog W 39 Zet Zhl :=
  Reads.intOk (by kernel_rfl) (fun _ => rfl) wf_u32
theorem rd57 {W : World} : Reads Tryz.prog W 57 Zh Zfy :=
  Reads.struct (fun z : Int × Int × Unit => (⟨z.1, z.2.1⟩ : Zb)) Tryz.underlying57 (by kernel_rfl) (by kernel_rfl) (by kernel_rfl) (fl := [(39, 1), (39, 1)])
    (FR.cons rd39 (FR.cons rd39 FR.nil)) (fun _ => rfl) (fun _ h => h)
theorem rd59 {W : World} : Reads Tryz.prog W 59 Za Zi5 :=
  Reads.array (m := 5) (e := 57) (s := 2) (fun z : Zb × Zb × Zb × Zb × Zb × Unit => (⟨z.1, z.2.1, z.2.2.1, z.2.2.2.1, z.2.2.2.2.1⟩ : (Arr5 Zb))) (by kernel_rfl) (by kernel_rfl) (by kernel_rfl)
    (FR.cons rd57 (FR.cons rd57 (FR.cons rd57 (FR.cons rd57 (FR.cons rd57 FR.nil))))) (fun _ => rfl) (fun _ h => h)
theorem rd25 {W : World} : Reads Tryz.prog W 25 Zae Zkd :=
  Reads.slice (e := 59) (by kernel_rfl) (by kernel_rfl) (by decide) rd59
theorem rd5 {W : World} : Reads Tryz.prog W 5 Zyb ok_u8 :=
  Reads.intOk (by kernel_rfl) (fun _ => rfl) wf_u8
theorem rd40 {W : World} : Reads Tryz.prog W 40 Z0e Zig :=
  Reads.intOk (by kernel_rfl) (fun _ => rfl) wf_u16
theorem rd42 {W : World} : Reads Tryz.prog W 42 Ze Z2 :=
  Reads.struct (fun z : Int × Int × Int × Int × Int × Unit => (⟨z.1, z.2.1, z.2.2.1, z.2.2.2.1, z.2.2.2.2.1⟩ : Zj)) Tryz.underlying42 (by kernel_rfl) (by kernel_rfl) (by kernel_rfl) (fl := [(39, 1), (39, 1), (5, 1), (40, 1), (40, 1)])
    (FR.cons rd39 (FR.cons rd39 (FR.cons rd5 (FR.cons rd40 (FR.cons rd40 FR.nil))))) (fun _ => rfl) (fun _ h => h)
theorem rd32 {W : World} : Reads Tryz.prog W 32 Zd Zg0 :=
  Reads.intOk (by kernel_rfl) (fun _ => rfl) wf_u64
theorem rd34 {W : World} : Reads Tryz.prog W 34 Zc Zd3 :=
  Reads.struct (fun z : Int × Int × Unit => (⟨z.1, z.2.1⟩ : Zf)) Tryz.underlying34 (by kernel_rfl) (by kernel_rfl) (by kernel_rfl) (fl := [(32, 1), (32, 1)])
    (FR.cons rd32 (FR.cons rd32 FR.nil)) (fun _ => rfl) (fun _ h => h)
theorem own : ownKnob Tryz.prog.godebug = none := by kernel_rfl
theorem laidOut : laidOutB Tryz.prog = true := by kernel_rfl
theorem tables {W : World} (h : laidMetH Tryz.prog Rows.cardinalCountsRow.laid W) : ∀ g cs, (g, cs) ∈ glob → g < W.heap.size ∧ VRow (old W) [] W g 0 cs := by
  have g0 : Tryz.prog.globalNamed "netsegment/box.tops" = some 0 := by kernel_rfl
  have t0 : Lib.TabIs Tryz.prog W "netsegment/box.tops" .u32 [4294967295, 4294967295, 255, 65535, 65535] := Lib.tabIs_of_head (rest := []) g0 (t := 68) (n := 5) (by kernel_rfl) (e := 39) (by kernel_rfl) (by kernel_rfl) (by kernel_rfl) (by kernel_rfl) h
  intro g cs hm
  simp only [glob, List.mem_cons, List.not_mem_nil, or_false, Prod.mk.injEq] at hm
  rcases hm with ⟨rfl, rfl⟩
  · refine ⟨Zxw (t0.cell g0 0 (by decide)), ?_⟩
    simp only [Z5, VRow, VR]
    exact ⟨⟨_, t0.cell g0 0 (by decide), rfl⟩, ⟨_, t0.cell g0 1 (by decide), rfl⟩, ⟨_, t0.cell g0 2 (by decide), rfl⟩, ⟨_, t0.cell g0 3 (by decide), rfl⟩, ⟨_, t0.cell g0 4 (by decide), rfl⟩, trivial⟩
theorem contract (H : Type) (enc : TypeId × Value → H) (W : World) (base : Nat) (args : Array Value) (ds gs : List (DataW H)) (before : List MemPlace)
    (hval : ∀ (j : Nat) t v, Tryz.f4.params[j]? = some t → args[j]? = some v → Value.okWide Tryz.prog W .any base t v)
    (hW : DataW.Whole enc Tryz.prog Tryz.f4.params.toList Rows.cardinalCountsSpec.vars false W args.toList ds gs before) (hL : laidMetH Tryz.prog Rows.cardinalCountsRow.laid W) :
    Calls Tryz.prog 4 args W fun e W' => ∃ v, e = .returned v ∧ Rows.cardinalCountsSpec.post enc Tryz.prog Tryz.f4 false true false false W args v W' := by
  have hW' := hW
  obtain ⟨p, q, hA0, hV, rfl, hfz, hnd⟩ := hW
  have hA : DataW.TrodAll enc Tryz.prog W 0 (fun _ => true) true Tryz.f4.params.toList args.toList ds p := hA0
  have hA1 := hA
  rw [Tryz.params4] at hA hval
  obtain ⟨args⟩ := args
  simp only at hA
  obtain ⟨v0, args, d0, ds, p0, ps, rfl, rfl, rfl, h0, hB0⟩ := trodAll_cons hA
  obtain ⟨v1, args, d1, ds, p1, ps, rfl, rfl, rfl, h1, hB1⟩ := trodAll_cons hB0
  obtain ⟨v2, args, d2, ds, p2, ps, rfl, rfl, rfl, h2, hB2⟩ := trodAll_cons hB1
  obtain ⟨v3, args, d3, ds, p3, ps, rfl, rfl, rfl, h3, hB3⟩ := trodAll_cons hB2
  obtain ⟨rfl, rfl, rfl⟩ := trodAll_nil hB3
  obtain ⟨rfl, rfl⟩ := trodVars_none hV
  obtain ⟨x0, o0, w0⟩ := Zte (p := (fun x => (slc 1 Zz x))) (e := 3) (by kernel_rfl) (hval 0 22 v0 rfl rfl) rd22 h0 (fun _ => rfl)
  obtain ⟨x1, o1, w1⟩ := Zte (p := (fun x => (slc 10 Za x))) (e := 59) (by kernel_rfl) (hval 1 25 v1 rfl rfl) rd25 h1 (fun _ => rfl)
  obtain ⟨x2, o2, w2⟩ := Zpf (p := Zas) (vs := Zm3) Tryz.underlying42 (hval 2 42 v2 rfl rfl) rd42 h2 (fun _ => rfl) (fun _ => rfl)
  obtain ⟨x3, o3, w3⟩ := Zpf (p := Zq) (vs := Znm) Tryz.underlying34 (hval 3 34 v3 rfl rfl) rd34 h3 (fun _ => rfl) (fun _ => rfl)
  have hcall := (Zkz x0 x1 x2 x3 true (Znc o0 o1 o2 o3)).law (W := W) (tables hL) (cargs := #[v0, v1, v2, v3]) (by
    simp only [VRs]
    exact ⟨w0, w1, w2, w3, trivial⟩)
  refine hcall.mono fun e W' ⟨he, hbel⟩ => ?_
  subst he
  refine ⟨_, rfl, [d0, d1, d2, d3], [], _, [], (p0 ++ (p1 ++ (p2 ++ (p3 ++ [])))), [], hW', trodAll_mk1 (shut_bool (by kernel_rfl) _), ?_, rfl, World.keptBut_mono (fun _ f => f.elim) (hbel.frame (fun _ => False)), fun h => by cases h⟩
  exact Zm1 laidOut hbel _ _ _ _ (by kernel_rfl) hA1 fun x hx => hW'.lt x (List.mem_append_left _ hx)
noncomputable def laidWorld (os : Os) : World :=
  { World.holding Tryz.prog os ⟨#[], #[], []⟩ with heap := ((World.holding Tryz.prog os ⟨#[], #[], []⟩).heap.modify 0 (lay #[.int .u32 4294967295, .int .u32 4294967295, .int .u32 255, .int .u32 65535, .int .u32 65535])) }
theorem laid_met (os : Os) : laidMet Tryz.prog Rows.cardinalCountsRow.laid ((laidWorld os).forCall (fun _ _ => 0) ⟨#[], #[(.slice none 0 0 : Value), (.slice none 0 0 : Value), (.agg #[.int .u32 0, .int .u32 0, .int .u8 0, .int .u16 0, .int .u16 0] : Value), (.agg #[.int .u64 0, .int .u64 0] : Value)], []⟩).memory :=
  laidMet_of_run' 8 (by kernel_rfl) (by kernel_rfl)
theorem reads (os : Os) {H : Type} (enc : TypeId × Value → H) : ∃ places, DataW.whole enc Tryz.prog ((laidWorld os).forCall (fun _ _ => 0) ⟨#[], #[(.slice none 0 0 : Value), (.slice none 0 0 : Value), (.agg #[.int .u32 0, .int .u32 0, .int .u8 0, .int .u16 0, .int .u16 0] : Value), (.agg #[.int .u64 0, .int .u64 0] : Value)], []⟩).memory Tryz.f4.params.toList Rows.cardinalCountsSpec.vars false #[(.slice none 0 0 : Value), (.slice none 0 0 : Value), (.agg #[.int .u32 0, .int .u32 0, .int .u8 0, .int .u16 0, .int .u16 0] : Value), (.agg #[.int .u64 0, .int .u64 0] : Value)].toList 8 = some ([.nil, .nil, .agg [.lit (.int .u32 0), .lit (.int .u32 0), .lit (.int .u8 0), .lit (.int .u16 0), .lit (.int .u16 0)], .agg [.lit (.int .u64 0), .lit (.int .u64 0)]], [], places) :=
  ⟨[], by kernel_rfl⟩
theorem lifted (os : Os) (started : os.Started) (H : Type) (enc : TypeId × Value → H) (F : Stop.Interp) :
    ReturnsInHanded {} Tryz.checked os 4 .any ((OpenSpec.ofChange Rows.cardinalCountsSpec).preRow enc Tryz.prog Tryz.f4 Rows.cardinalCountsRow.domain false Rows.cardinalCountsRow.laid) (((OpenSpec.ofChange Rows.cardinalCountsSpec).at F).post enc Tryz.prog Tryz.f4 false true false false) := by
  obtain ⟨places, hx⟩ := reads os enc
  refine returnsInHanded_of_row (C := Tryz.checked) (s := OpenSpec.ofChange Rows.cardinalCountsSpec) own started (by kernel_rfl) Tryz.func4
    (witness_row_at (enc := enc) (C := Tryz.checked) false (laidWorld os) #[(.slice none 0 0 : Value), (.slice none 0 0 : Value), (.agg #[.int .u32 0, .int .u32 0, .int .u8 0, .int .u16 0, .int .u16 0] : Value), (.agg #[.int .u64 0, .int .u64 0] : Value)] rfl (by kernel_rfl) (by kernel_rfl) (by kernel_rfl)
      (OpenSpec.preRow_of_cond 8 hx (by kernel_rfl) (fun k hk => by cases hk) (by kernel_rfl) (laid_met os))) ?_
  intro W base args ds gs before hval hW _ _ _ hL _ _
  exact contract H enc W base args ds gs before hval hW hL
theorem said : Rows.CardinalCountsSaid :=
  OpenClaim.holds_of_cond 4 Tryz.f4 rfl rfl rfl rfl rfl rfl rfl ⟨rfl, rfl, rfl, rfl, rfl⟩ rfl rfl rfl rfl rfl (by kernel_rfl) Tryz.func4 (by kernel_rfl)
    (of_decide_eq_true (by kernel_rfl)) (by unfold Func.isWrapper; first | (rw [if_pos (by decide +kernel)]; kernel_rfl) | (rw [if_neg (by decide +kernel)]; exact ⟨rfl, rfl⟩))
    (fun os started H enc _ F => by rw [OpenClaim.pre_eq_preRow]; exact lifted os started H enc F)
theorem plain (f : FuncId) (fn : Func) (hf : Tryz.pinned.checked.prog.funcNamed "netsegment/nsglaw5.CardinalCounts" = some f) (hfn : Tryz.pinned.checked.prog.funcs[f]? = some fn) :
    false = Tryz.pinned.checked.prog.looks [] ∧ ∀ (j : Nat) t, fn.params[j]? = some t → Tryz.pinned.checked.prog.wantsStandIn t = false := by
  obtain rfl : f = 4 := Option.some.inj ((show Tryz.prog.funcNamed "netsegment/nsglaw5.CardinalCounts" = some 4 by kernel_rfl).symm.trans hf) |>.symm
  obtain rfl : fn = Tryz.f4 := (Option.some.inj (Tryz.func4.symm.trans hfn)).symm
  refine ⟨by kernel_rfl, fun j t ht => ?_⟩
  rw [Tryz.params4] at ht
  have := Array.mem_of_getElem? ht
  simp only [List.mem_toArray, List.mem_cons, List.not_mem_nil, or_false] at this
  rcases this with rfl | rfl | rfl | rfl
  · exact (show Tryz.prog.wantsStandIn 22 = false by kernel_rfl)
  · exact (show Tryz.prog.wantsStandIn 25 = false by kernel_rfl)
  · exact (show Tryz.prog.wantsStandIn 42 = false by kernel_rfl)
  · exact (show Tryz.prog.wantsStandIn 34 = false by kernel_rfl)
theorem card : Rows.CardinalCountsCardSaid :=
  Claim7.holds_tied_plain_at .later [] _ _ _ _ said (fun _ h => by cases h) (by kernel_rfl) (fun _ h => by cases h) cardinalCounts_row_tie rfl ⟨rfl, rfl⟩ (by kernel_rfl) rfl plain (by kernel_rfl)
end Go.Proofs.YtdpogkakaeeccaaGreatDoor.CardinalCounts

/- RewriteHidePoints: the statement. For all arguments that can be read; what the tables hold is tied by the card. -/
import Derived.Test.YtkeeaccnnljimaaGreatDoorHpQ6
import Derived.Test.YtkeeaccnnljimaaGreatDoorCards
import Derived.Test.YtkeeaccnnljimaaGreatDoorTie
import Derived.WalkKit
import Derived.ProofKit
import Derived.OpenShut
import Derived.Deep.DeepHandedRow
import Derived.Lib.LaidTab
set_option maxRecDepth 100000
namespace Go.Proofs.YtkeeaccnnljimaaGreatDoor.RewriteHidePoints
open Go.ChangeShapes Go.WideShapes Go.ChangeAt Go.RowKit Go.AM
theorem rd3 {W : World} : Reads Tryz.prog W 3 Zag Zrf :=
  Reads.intOk (by kernel_rfl) (fun _ => rfl) wf_i64
theorem rd22 {W : World} : Reads Tryz.prog W 22 Zx7 Zqg :=
  Reads.slice (e := 3) (by kernel_rfl) (by kernel_rfl) (by decide) rd3
theorem rd24 {W : World} : Reads Tryz.prog W 24 Zdd Zja :=
  Reads.intOk (by kernel_rfl) (fun _ => rfl) wf_u32
theorem rd5 {W : World} : Reads Tryz.prog W 5 Zxx ok_u8 :=
  Reads.intOk (by kernel_rfl) (fun _ => rfl) wf_u8
theorem rd25 {W : World} : Reads Tryz.prog W 25 Zz3 Zim :=
  Reads.intOk (by kernel_rfl) (fun _ => rfl) wf_u16
theorem rd27 {W : World} : Reads Tryz.prog W 27 Zk Zaq :=
  Reads.struct (fun z : Int × Int × Int × Int × Int × Unit => (⟨z.1, z.2.1, z.2.2.1, z.2.2.2.1, z.2.2.2.2.1⟩ : Zo)) Tryz.underlying27 (by kernel_rfl) (by kernel_rfl) (by kernel_rfl) (fl := [(24, 1), (24, 1), (5, 1), (25, 1), (25, 1)])
    (FR.cons rd24 (FR.cons rd24 (FR.cons rd5 (FR.cons rd25 (FR.cons rd25 FR.nil))))) (fun _ => rfl) (fun _ h => h)
theorem own : ownKnob Tryz.prog.godebug = none := by kernel_rfl
theorem laidOut : laidOutB Tryz.prog = true := by kernel_rfl
theorem tables {W : World} (h : laidMetH Tryz.prog Rows.rewriteHidePointsRow.laid W) : ∀ g cs, (g, cs) ∈ glob → g < W.heap.size ∧ VRow (old W) [] W g 0 cs := by
  have g0 : Tryz.prog.globalNamed "netsegment/box.tops" = some 0 := by kernel_rfl
  have t0 : Lib.TabIs Tryz.prog W "netsegment/box.tops" .u32 [4294967295, 4294967295, 255, 65535, 65535] := Lib.tabIs_of_head (rest := []) g0 (t := 78) (n := 5) (by kernel_rfl) (e := 24) (by kernel_rfl) (by kernel_rfl) (by kernel_rfl) (by kernel_rfl) h
  intro g cs hm
  simp only [glob, List.mem_cons, List.not_mem_nil, or_false, Prod.mk.injEq] at hm
  rcases hm with ⟨rfl, rfl⟩
  · refine ⟨Zxf (t0.cell g0 0 (by decide)), ?_⟩
    simp only [Za4, VRow, VR]
    exact ⟨⟨_, t0.cell g0 0 (by decide), rfl⟩, ⟨_, t0.cell g0 1 (by decide), rfl⟩, ⟨_, t0.cell g0 2 (by decide), rfl⟩, ⟨_, t0.cell g0 3 (by decide), rfl⟩, ⟨_, t0.cell g0 4 (by decide), rfl⟩, trivial⟩
theorem contract (H : Type) (enc : TypeId × Value → H) (W : World) (base : Nat) (args : Array Value) (ds gs : List (DataW H)) (before : List MemPlace)
    (hval : ∀ (j : Nat) t v, Tryz.f6.params[j]? = some t → args[j]? = some v → Value.okWide Tryz.prog W .any base t v)
    (hW : DataW.Whole enc Tryz.prog Tryz.f6.params.toList Rows.rewriteHidePointsSpec.vars false W args.toList ds gs before) (hL : laidMetH Tryz.prog Rows.rewriteHidePointsRow.laid W) :
    Calls Tryz.prog 6 args W fun e W' => ∃ v, e = .returned v ∧ Rows.rewriteHidePointsSpec.post enc Tryz.prog Tryz.f6 false true false false W args v W' := by
  have hW' := hW
  obtain ⟨p, q, hA0, hV, rfl, hfz, hnd⟩ := hW
  have hA : DataW.TrodAll enc Tryz.prog W 0 (fun _ => true) true Tryz.f6.params.toList args.toList ds p := hA0
  have hA1 := hA
  rw [Tryz.params6] at hA hval
  obtain ⟨args⟩ := args
  simp only at hA
  obtain ⟨v0, args, d0, ds, p0, ps, rfl, rfl, rfl, h0, hB0⟩ := trodAll_cons hA
  obtain ⟨v1, args, d1, ds, p1, ps, rfl, rfl, rfl, h1, hB1⟩ := trodAll_cons hB0
  obtain ⟨rfl, rfl, rfl⟩ := trodAll_nil hB1
  obtain ⟨rfl, rfl⟩ := trodVars_none hV
  obtain ⟨x0, o0, w0⟩ := Zx0 (p := (fun x => (slc 1 Zag x))) (e := 3) (by kernel_rfl) (hval 0 22 v0 rfl rfl) rd22 h0 (fun _ => rfl)
  obtain ⟨x1, o1, w1⟩ := Zv2 (p := Zcc) (vs := Znl) Tryz.underlying27 (hval 1 27 v1 rfl rfl) rd27 h1 (fun _ => rfl) (fun _ => rfl)
  have hcall := (Zkd x0 x1 true (Zmb o0 o1)).law (W := W) (tables hL) (cargs := #[v0, v1]) (by
    simp only [VRs]
    exact ⟨w0, w1, trivial⟩)
  refine hcall.mono fun e W' ⟨he, hbel⟩ => ?_
  subst he
  refine ⟨_, rfl, [d0, d1], [], _, [], (p0 ++ (p1 ++ [])), [], hW', trodAll_mk1 (shut_bool (by kernel_rfl) _), ?_, rfl, World.keptBut_mono (fun _ f => f.elim) (hbel.frame (fun _ => False)), fun h => by cases h⟩
  exact Znj laidOut hbel _ _ _ _ (by kernel_rfl) hA1 fun x hx => hW'.lt x (List.mem_append_left _ hx)
noncomputable def laidWorld (os : Os) : World :=
  { World.holding Tryz.prog os ⟨#[], #[], []⟩ with heap := ((World.holding Tryz.prog os ⟨#[], #[], []⟩).heap.modify 0 (lay #[.int .u32 4294967295, .int .u32 4294967295, .int .u32 255, .int .u32 65535, .int .u32 65535])) }
theorem laid_met (os : Os) : laidMet Tryz.prog Rows.rewriteHidePointsRow.laid ((laidWorld os).forCall (fun _ _ => 0) ⟨#[], #[(.slice none 0 0 : Value), (.agg #[.int .u32 0, .int .u32 0, .int .u8 0, .int .u16 0, .int .u16 0] : Value)], []⟩).memory :=
  laidMet_of_run' 8 (by kernel_rfl) (by kernel_rfl)
theorem reads (os : Os) {H : Type} (enc : TypeId × Value → H) : ∃ places, DataW.whole enc Tryz.prog ((laidWorld os).forCall (fun _ _ => 0) ⟨#[], #[(.slice none 0 0 : Value), (.agg #[.int .u32 0, .int .u32 0, .int .u8 0, .int .u16 0, .int .u16 0] : Value)], []⟩).memory Tryz.f6.params.toList Rows.rewriteHidePointsSpec.vars false #[(.slice none 0 0 : Value), (.agg #[.int .u32 0, .int .u32 0, .int .u8 0, .int .u16 0, .int .u16 0] : Value)].toList 8 = some ([.nil, .agg [.lit (.int .u32 0), .lit (.int .u32 0), .lit (.int .u8 0), .lit (.int .u16 0), .lit (.int .u16 0)]], [], places) :=
  ⟨[], by kernel_rfl⟩
theorem lifted (os : Os) (started : os.Started) (H : Type) (enc : TypeId × Value → H) (F : Stop.Interp) :
    ReturnsInHanded {} Tryz.checked os 6 .any ((OpenSpec.ofChange Rows.rewriteHidePointsSpec).preRow enc Tryz.prog Tryz.f6 Rows.rewriteHidePointsRow.domain false Rows.rewriteHidePointsRow.laid) (((OpenSpec.ofChange Rows.rewriteHidePointsSpec).at F).post enc Tryz.prog Tryz.f6 false true false false) := by
  obtain ⟨places, hx⟩ := reads os enc
  refine returnsInHanded_of_row (C := Tryz.checked) (s := OpenSpec.ofChange Rows.rewriteHidePointsSpec) own started (by kernel_rfl) Tryz.func6
    (witness_row_at (enc := enc) (C := Tryz.checked) false (laidWorld os) #[(.slice none 0 0 : Value), (.agg #[.int .u32 0, .int .u32 0, .int .u8 0, .int .u16 0, .int .u16 0] : Value)] rfl (by kernel_rfl) (by kernel_rfl) (by kernel_rfl)
      (OpenSpec.preRow_of_cond 8 hx (by kernel_rfl) (fun k hk => by cases hk) (by kernel_rfl) (laid_met os))) ?_
  intro W base args ds gs before hval hW _ _ _ hL _ _
  exact contract H enc W base args ds gs before hval hW hL
theorem said : Rows.RewriteHidePointsSaid :=
  OpenClaim.holds_of_cond 6 Tryz.f6 rfl rfl rfl rfl rfl rfl rfl ⟨rfl, rfl, rfl, rfl, rfl⟩ rfl rfl rfl rfl rfl (by kernel_rfl) Tryz.func6 (by kernel_rfl)
    (of_decide_eq_true (by kernel_rfl)) (by unfold Func.isWrapper; first | (rw [if_pos (by decide +kernel)]; kernel_rfl) | (rw [if_neg (by decide +kernel)]; exact ⟨rfl, rfl⟩))
    (fun os started H enc _ F => by rw [OpenClaim.pre_eq_preRow]; exact lifted os started H enc F)
theorem plain (f : FuncId) (fn : Func) (hf : Tryz.pinned.checked.prog.funcNamed "netsegment/nsglaw6.RewriteHidePoints" = some f) (hfn : Tryz.pinned.checked.prog.funcs[f]? = some fn) :
    false = Tryz.pinned.checked.prog.looks [] ∧ ∀ (j : Nat) t, fn.params[j]? = some t → Tryz.pinned.checked.prog.wantsStandIn t = false := by
  obtain rfl : f = 6 := Option.some.inj ((show Tryz.prog.funcNamed "netsegment/nsglaw6.RewriteHidePoints" = some 6 by kernel_rfl).symm.trans hf) |>.symm
  obtain rfl : fn = Tryz.f6 := (Option.some.inj (Tryz.func6.symm.trans hfn)).symm
  refine ⟨by kernel_rfl, fun j t ht => ?_⟩
  rw [Tryz.params6] at ht
  have := Array.mem_of_getElem? ht
  simp only [List.mem_toArray, List.mem_cons, List.not_mem_nil, or_false] at this
  rcases this with rfl | rfl
  · exact (show Tryz.prog.wantsStandIn 22 = false by kernel_rfl)
  · exact (show Tryz.prog.wantsStandIn 27 = false by kernel_rfl)
theorem card : Rows.RewriteHidePointsCardSaid :=
  Claim7.holds_tied_plain_at .later [] _ _ _ _ said (fun _ h => by cases h) (by kernel_rfl) (fun _ h => by cases h) rewriteHidePoints_row_tie rfl ⟨rfl, rfl⟩ (by kernel_rfl) rfl plain (by kernel_rfl)
end Go.Proofs.YtkeeaccnnljimaaGreatDoor.RewriteHidePoints

/- ConntrackForgets: the statement. For all arguments that can be read; what the tables hold is tied by the card. -/
import Derived.Test.YtainggmhdmocfaaDoorFgQ3
import Derived.Test.YtainggmhdmocfaaDoorCards
import Derived.Test.YtainggmhdmocfaaDoorTie
import Derived.WalkKit
import Derived.ProofKit
import Derived.OpenShut
import Derived.Deep.DeepHandedRow
import Derived.Lib.LaidTab
set_option maxRecDepth 100000
namespace Go.Proofs.YtainggmhdmocfaaDoor.ConntrackForgets
open Go.ChangeShapes Go.WideShapes Go.ChangeAt Go.RowKit Go.AM
theorem rd5 {W : World} : Reads Tryd.prog W 5 Zhd ok_u8 :=
  Reads.intOk (by kernel_rfl) (fun _ => rfl) wf_u8
theorem rd4 {W : World} : Reads Tryd.prog W 4 Zdl Zeh :=
  Reads.bool (by kernel_rfl)
theorem rd3 {W : World} : Reads Tryd.prog W 3 Zg4 Zcv :=
  Reads.intOk (by kernel_rfl) (fun _ => rfl) wf_i64
theorem own : ownKnob Tryd.prog.godebug = none := by kernel_rfl
theorem laidOut : laidOutB Tryd.prog = true := by kernel_rfl
theorem tables {W : World} (h : laidMetH Tryd.prog Rows.conntrackForgetsRow.laid W) : ∀ g cs, (g, cs) ∈ glob → g < W.heap.size ∧ VRow (old W) [] W g 0 cs := by
  have g0 : Tryd.prog.globalNamed "netsegment/box.tops" = some 0 := by kernel_rfl
  have t0 : Lib.TabIs Tryd.prog W "netsegment/box.tops" .u32 [4294967295, 4294967295, 255, 65535, 65535] := Lib.tabIs_of_head (rest := []) g0 (t := 79) (n := 5) (by kernel_rfl) (e := 29) (by kernel_rfl) (by kernel_rfl) (by kernel_rfl) (by kernel_rfl) h
  intro g cs hm
  simp only [glob, List.mem_cons, List.not_mem_nil, or_false, Prod.mk.injEq] at hm
  rcases hm with ⟨rfl, rfl⟩
  · refine ⟨Zgc (t0.cell g0 0 (by decide)), ?_⟩
    simp only [Zec, VRow, VR]
    exact ⟨⟨_, t0.cell g0 0 (by decide), rfl⟩, ⟨_, t0.cell g0 1 (by decide), rfl⟩, ⟨_, t0.cell g0 2 (by decide), rfl⟩, ⟨_, t0.cell g0 3 (by decide), rfl⟩, ⟨_, t0.cell g0 4 (by decide), rfl⟩, trivial⟩
theorem contract (H : Type) (enc : TypeId × Value → H) (W : World) (base : Nat) (args : Array Value) (ds gs : List (DataW H)) (before : List MemPlace)
    (hval : ∀ (j : Nat) t v, Tryd.f4.params[j]? = some t → args[j]? = some v → Value.okWide Tryd.prog W .any base t v)
    (hW : DataW.Whole enc Tryd.prog Tryd.f4.params.toList Rows.conntrackForgetsSpec.vars false W args.toList ds gs before) (hL : laidMetH Tryd.prog Rows.conntrackForgetsRow.laid W) :
    Calls Tryd.prog 4 args W fun e W' => ∃ v, e = .returned v ∧ Rows.conntrackForgetsSpec.post enc Tryd.prog Tryd.f4 false true false false W args v W' := by
  have hW' := hW
  obtain ⟨p, q, hA0, hV, rfl, hfz, hnd⟩ := hW
  have hA : DataW.TrodAll enc Tryd.prog W 0 (fun _ => true) true Tryd.f4.params.toList args.toList ds p := hA0
  have hA1 := hA
  rw [Tryd.params4] at hA hval
  obtain ⟨args⟩ := args
  simp only at hA
  obtain ⟨v0, args, d0, ds, p0, ps, rfl, rfl, rfl, h0, hB0⟩ := trodAll_cons hA
  obtain ⟨v1, args, d1, ds, p1, ps, rfl, rfl, rfl, h1, hB1⟩ := trodAll_cons hB0
  obtain ⟨v2, args, d2, ds, p2, ps, rfl, rfl, rfl, h2, hB2⟩ := trodAll_cons hB1
  obtain ⟨v3, args, d3, ds, p3, ps, rfl, rfl, rfl, h3, hB3⟩ := trodAll_cons hB2
  obtain ⟨v4, args, d4, ds, p4, ps, rfl, rfl, rfl, h4, hB4⟩ := trodAll_cons hB3
  obtain ⟨rfl, rfl, rfl⟩ := trodAll_nil hB4
  obtain ⟨rfl, rfl⟩ := trodVars_none hV
  obtain ⟨x0, o0, w0⟩ := Zei (p := (fun x => (u8 x))) (k := .u8) (by kernel_rfl) (hval 0 5 v0 rfl rfl) rd5 h0 (fun _ => rfl)
  obtain ⟨x1, o1, w1⟩ := Ze8 (p := (fun x => (vb x))) (by kernel_rfl) (hval 1 4 v1 rfl rfl) rd4 h1 (fun _ => rfl)
  obtain ⟨x2, o2, w2⟩ := Ze8 (p := (fun x => (vb x))) (by kernel_rfl) (hval 2 4 v2 rfl rfl) rd4 h2 (fun _ => rfl)
  obtain ⟨x3, o3, w3⟩ := Zei (p := (fun x => (i64 x))) (k := .i64) (by kernel_rfl) (hval 3 3 v3 rfl rfl) rd3 h3 (fun _ => rfl)
  obtain ⟨x4, o4, w4⟩ := Zei (p := (fun x => (i64 x))) (k := .i64) (by kernel_rfl) (hval 4 3 v4 rfl rfl) rd3 h4 (fun _ => rfl)
  have hcall := (Zbf x0 x1 x2 x3 x4 true (Zca o0 o1 o2 o3 o4)).law (W := W) (tables hL) (cargs := #[v0, v1, v2, v3, v4]) (by
    simp only [VRs]
    exact ⟨w0, w1, w2, w3, w4, trivial⟩)
  refine hcall.mono fun e W' ⟨he, hbel⟩ => ?_
  subst he
  refine ⟨_, rfl, [d0, d1, d2, d3, d4], [], _, [], (p0 ++ (p1 ++ (p2 ++ (p3 ++ (p4 ++ []))))), [], hW', trodAll_mk1 (shut_bool (by kernel_rfl) _), ?_, rfl, World.keptBut_mono (fun _ f => f.elim) (hbel.frame (fun _ => False)), fun h => by cases h⟩
  exact Zcp laidOut hbel _ _ _ _ (by kernel_rfl) hA1 fun x hx => hW'.lt x (List.mem_append_left _ hx)
noncomputable def laidWorld (os : Os) : World :=
  { World.holding Tryd.prog os ⟨#[], #[], []⟩ with heap := ((World.holding Tryd.prog os ⟨#[], #[], []⟩).heap.modify 0 (lay #[.int .u32 4294967295, .int .u32 4294967295, .int .u32 255, .int .u32 65535, .int .u32 65535])) }
theorem laid_met (os : Os) : laidMet Tryd.prog Rows.conntrackForgetsRow.laid ((laidWorld os).forCall (fun _ _ => 0) ⟨#[], #[(.int .u8 0 : Value), (.bool false : Value), (.bool false : Value), (.int .i64 0 : Value), (.int .i64 0 : Value)], []⟩).memory :=
  laidMet_of_run' 8 (by kernel_rfl) (by kernel_rfl)
theorem reads (os : Os) {H : Type} (enc : TypeId × Value → H) : ∃ places, DataW.whole enc Tryd.prog ((laidWorld os).forCall (fun _ _ => 0) ⟨#[], #[(.int .u8 0 : Value), (.bool false : Value), (.bool false : Value), (.int .i64 0 : Value), (.int .i64 0 : Value)], []⟩).memory Tryd.f4.params.toList Rows.conntrackForgetsSpec.vars false #[(.int .u8 0 : Value), (.bool false : Value), (.bool false : Value), (.int .i64 0 : Value), (.int .i64 0 : Value)].toList 8 = some ([.lit (.int .u8 0), .lit (.bool false), .lit (.bool false), .lit (.int .i64 0), .lit (.int .i64 0)], [], places) :=
  ⟨[], by kernel_rfl⟩
theorem lifted (os : Os) (started : os.Started) (H : Type) (enc : TypeId × Value → H) (F : Stop.Interp) :
    ReturnsInHanded {} Tryd.checked os 4 .any ((OpenSpec.ofChange Rows.conntrackForgetsSpec).preRow enc Tryd.prog Tryd.f4 Rows.conntrackForgetsRow.domain false Rows.conntrackForgetsRow.laid) (((OpenSpec.ofChange Rows.conntrackForgetsSpec).at F).post enc Tryd.prog Tryd.f4 false true false false) := by
  obtain ⟨places, hx⟩ := reads os enc
  refine returnsInHanded_of_row (C := Tryd.checked) (s := OpenSpec.ofChange Rows.conntrackForgetsSpec) own started (by kernel_rfl) Tryd.func4
    (witness_row_at (enc := enc) (C := Tryd.checked) false (laidWorld os) #[(.int .u8 0 : Value), (.bool false : Value), (.bool false : Value), (.int .i64 0 : Value), (.int .i64 0 : Value)] rfl (by kernel_rfl) (by kernel_rfl) (by kernel_rfl)
      (OpenSpec.preRow_of_cond 8 hx (by kernel_rfl) (fun k hk => by cases hk) (by kernel_rfl) (laid_met os))) ?_
  intro W base args ds gs before hval hW _ _ _ hL _ _
  exact contract H enc W base args ds gs before hval hW hL
theorem said : Rows.ConntrackForgetsSaid :=
  OpenClaim.holds_of_cond 4 Tryd.f4 rfl rfl rfl rfl rfl rfl rfl ⟨rfl, rfl, rfl, rfl, rfl⟩ rfl rfl rfl rfl rfl (by kernel_rfl) Tryd.func4 (by kernel_rfl)
    (of_decide_eq_true (by kernel_rfl)) (by unfold Func.isWrapper; first | (rw [if_pos (by decide +kernel)]; kernel_rfl) | (rw [if_neg (by decide +kernel)]; exact ⟨rfl, rfl⟩))
    (fun os started H enc _ F => by rw [OpenClaim.pre_eq_preRow]; exact lifted os started H enc F)
theorem plain (f : FuncId) (fn : Func) (hf : Tryd.pinned.checked.prog.funcNamed "netsegment/nsglaw25.ConntrackForgets" = some f) (hfn : Tryd.pinned.checked.prog.funcs[f]? = some fn) :
    false = Tryd.pinned.checked.prog.looks [] ∧ ∀ (j : Nat) t, fn.params[j]? = some t → Tryd.pinned.checked.prog.wantsStandIn t = false := by
  obtain rfl : f = 4 := Option.some.inj ((show Tryd.prog.funcNamed "netsegment/nsglaw25.ConntrackForgets" = some 4 by kernel_rfl).symm.trans hf) |>.symm
  obtain rfl : fn = Tryd.f4 := (Option.some.inj (Tryd.func4.symm.trans hfn)).symm
  refine ⟨by kernel_rfl, fun j t ht => ?_⟩
  rw [Tryd.params4] at ht
  have := Array.mem_of_getElem? ht
  simp only [List.mem_toArray, List.mem_cons, List.not_mem_nil, or_false] at this
  rcases this with rfl | rfl | rfl | rfl | rfl
  · exact (show Tryd.prog.wantsStandIn 5 = false by kernel_rfl)
  · exact (show Tryd.prog.wantsStandIn 4 = false by kernel_rfl)
  · exact (show Tryd.prog.wantsStandIn 4 = false by kernel_rfl)
  · exact (show Tryd.prog.wantsStandIn 3 = false by kernel_rfl)
  · exact (show Tryd.prog.wantsStandIn 3 = false by kernel_rfl)
theorem card : Rows.ConntrackForgetsCardSaid :=
  Claim7.holds_tied_plain_at .later [] _ _ _ _ said (fun _ h => by cases h) (by kernel_rfl) (fun _ h => by cases h) conntrackForgets_row_tie rfl ⟨rfl, rfl⟩ (by kernel_rfl) rfl plain (by kernel_rfl)
end Go.Proofs.YtainggmhdmocfaaDoor.ConntrackForgets

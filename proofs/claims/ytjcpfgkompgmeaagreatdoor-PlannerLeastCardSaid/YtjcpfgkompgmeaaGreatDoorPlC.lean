/- PlannerLeast: the statement. For all arguments that can be read; what the tables hold is tied by the card. -/
import Derived.Test.YtjcpfgkompgmeaaGreatDoorPlQ6
import Derived.Test.YtjcpfgkompgmeaaGreatDoorCards
import Derived.Test.YtjcpfgkompgmeaaGreatDoorTie
import Derived.WalkKit
import Derived.ProofKit
import Derived.OpenShut
import Derived.Deep.DeepHandedRow
import Derived.Lib.LaidTab
set_option maxRecDepth 100000
namespace Go.Proofs.YtjcpfgkompgmeaaGreatDoor.PlannerLeast
open Go.ChangeShapes Go.WideShapes Go.ChangeAt Go.RowKit Go.AM
theorem rd3 {W : World} : Reads Tryz.prog W 3 Ze Zmn :=
  Reads.intOk (by kernel_rfl) (fun _ => rfl) wf_i64
theorem rd22 {W : World} : Reads Tryz.prog W 22 Zk Zmd :=
  Reads.slice (e := 3) (by kernel_rfl) (by kernel_rfl) (by decide) rd3
theorem own : ownKnob Tryz.prog.godebug = none := by kernel_rfl
theorem laidOut : laidOutB Tryz.prog = true := by kernel_rfl
theorem tables {W : World} (h : laidMetH Tryz.prog Rows.plannerLeastRow.laid W) : ∀ g cs, (g, cs) ∈ glob → g < W.heap.size ∧ VRow (old W) [] W g 0 cs := by
  have g0 : Tryz.prog.globalNamed "netsegment/box.tops" = some 0 := by kernel_rfl
  have t0 : Lib.TabIs Tryz.prog W "netsegment/box.tops" .u32 [4294967295, 4294967295, 255, 65535, 65535] := Lib.tabIs_of_head (rest := [("netsegment/expand.widths", Rows.laid_netsegment_expand_widths)]) g0 (t := 245) (n := 5) (by kernel_rfl) (e := 85) (by kernel_rfl) (by kernel_rfl) (by kernel_rfl) (by kernel_rfl) h
  have g1 : Tryz.prog.globalNamed "netsegment/expand.widths" = some 1 := by kernel_rfl
  have t1 : Lib.TabIs Tryz.prog W "netsegment/expand.widths" .i64 [32, 32, 8, 16, 16] := Lib.tabIs_of_head (rest := []) g1 (t := 276) (n := 5) (by kernel_rfl) (e := 3) (by kernel_rfl) (by kernel_rfl) (by kernel_rfl) (by kernel_rfl) (Zol h)
  intro g cs hm
  simp only [glob, List.mem_cons, List.not_mem_nil, or_false, Prod.mk.injEq] at hm
  rcases hm with ⟨rfl, rfl⟩ | ⟨rfl, rfl⟩
  · refine ⟨Zmo (t0.cell g0 0 (by decide)), ?_⟩
    simp only [Zy, VRow, VR]
    exact ⟨⟨_, t0.cell g0 0 (by decide), rfl⟩, ⟨_, t0.cell g0 1 (by decide), rfl⟩, ⟨_, t0.cell g0 2 (by decide), rfl⟩, ⟨_, t0.cell g0 3 (by decide), rfl⟩, ⟨_, t0.cell g0 4 (by decide), rfl⟩, trivial⟩
  · refine ⟨Zmo (t1.cell g1 0 (by decide)), ?_⟩
    simp only [Zm4, VRow, VR]
    exact ⟨⟨_, t1.cell g1 0 (by decide), rfl⟩, ⟨_, t1.cell g1 1 (by decide), rfl⟩, ⟨_, t1.cell g1 2 (by decide), rfl⟩, ⟨_, t1.cell g1 3 (by decide), rfl⟩, ⟨_, t1.cell g1 4 (by decide), rfl⟩, trivial⟩
theorem contract (H : Type) (enc : TypeId × Value → H) (W : World) (base : Nat) (args : Array Value) (ds gs : List (DataW H)) (before : List MemPlace)
    (hval : ∀ (j : Nat) t v, Tryz.f3.params[j]? = some t → args[j]? = some v → Value.okWide Tryz.prog W .any base t v)
    (hW : DataW.Whole enc Tryz.prog Tryz.f3.params.toList Rows.plannerLeastSpec.vars false W args.toList ds gs before) (hL : laidMetH Tryz.prog Rows.plannerLeastRow.laid W) :
    Calls Tryz.prog 3 args W fun e W' => ∃ v, e = .returned v ∧ Rows.plannerLeastSpec.post enc Tryz.prog Tryz.f3 false true false false W args v W' := by
  have hW' := hW
  obtain ⟨p, q, hA0, hV, rfl, hfz, hnd⟩ := hW
  have hA : DataW.TrodAll enc Tryz.prog W 0 (fun _ => true) true Tryz.f3.params.toList args.toList ds p := hA0
  have hA1 := hA
  rw [Tryz.params3] at hA hval
  obtain ⟨args⟩ := args
  simp only at hA
  obtain ⟨v0, args, d0, ds, p0, ps, rfl, rfl, rfl, h0, hB0⟩ := trodAll_cons hA
  obtain ⟨rfl, rfl, rfl⟩ := trodAll_nil hB0
  obtain ⟨rfl, rfl⟩ := trodVars_none hV
  obtain ⟨x0, o0, w0⟩ := Zqw (p := (fun x => (slc 1 Ze x))) (e := 3) (by kernel_rfl) (hval 0 22 v0 rfl rfl) rd22 h0 (fun _ => rfl)
  have hcall := (Zi5 x0 true (Zln o0)).law (W := W) (tables hL) (cargs := #[v0]) (by
    simp only [VRs]
    exact ⟨w0, trivial⟩)
  refine hcall.mono fun e W' ⟨he, hbel⟩ => ?_
  subst he
  refine ⟨_, rfl, [d0], [], _, [], (p0 ++ []), [], hW', trodAll_mk1 (shut_bool (by kernel_rfl) _), ?_, rfl, World.keptBut_mono (fun _ f => f.elim) (hbel.frame (fun _ => False)), fun h => by cases h⟩
  exact Zke laidOut hbel _ _ _ _ (by kernel_rfl) hA1 fun x hx => hW'.lt x (List.mem_append_left _ hx)
noncomputable def laidWorld (os : Os) : World :=
  { World.holding Tryz.prog os ⟨#[], #[], []⟩ with heap := (((World.holding Tryz.prog os ⟨#[], #[], []⟩).heap.modify 0 (lay #[.int .u32 4294967295, .int .u32 4294967295, .int .u32 255, .int .u32 65535, .int .u32 65535])).modify 1 (lay #[.int .i64 32, .int .i64 32, .int .i64 8, .int .i64 16, .int .i64 16])) }
theorem laid_met (os : Os) : laidMet Tryz.prog Rows.plannerLeastRow.laid ((laidWorld os).forCall (fun _ _ => 0) ⟨#[], #[(.slice none 0 0 : Value)], []⟩).memory :=
  laidMet_of_run' 8 (by kernel_rfl) (by kernel_rfl)
theorem reads (os : Os) {H : Type} (enc : TypeId × Value → H) : ∃ places, DataW.whole enc Tryz.prog ((laidWorld os).forCall (fun _ _ => 0) ⟨#[], #[(.slice none 0 0 : Value)], []⟩).memory Tryz.f3.params.toList Rows.plannerLeastSpec.vars false #[(.slice none 0 0 : Value)].toList 8 = some ([.nil], [], places) :=
  ⟨[], by kernel_rfl⟩
theorem lifted (os : Os) (started : os.Started) (H : Type) (enc : TypeId × Value → H) (F : Stop.Interp) :
    ReturnsInHanded {} Tryz.checked os 3 .any ((OpenSpec.ofChange Rows.plannerLeastSpec).preRow enc Tryz.prog Tryz.f3 Rows.plannerLeastRow.domain false Rows.plannerLeastRow.laid) (((OpenSpec.ofChange Rows.plannerLeastSpec).at F).post enc Tryz.prog Tryz.f3 false true false false) := by
  obtain ⟨places, hx⟩ := reads os enc
  refine returnsInHanded_of_row (C := Tryz.checked) (s := OpenSpec.ofChange Rows.plannerLeastSpec) own started (by kernel_rfl) Tryz.func3
    (witness_row_at (enc := enc) (C := Tryz.checked) false (laidWorld os) #[(.slice none 0 0 : Value)] rfl (by kernel_rfl) (by kernel_rfl) (by kernel_rfl)
      (OpenSpec.preRow_of_cond 8 hx (by kernel_rfl) (fun k hk => by cases hk) (by kernel_rfl) (laid_met os))) ?_
  intro W base args ds gs before hval hW _ _ _ hL _ _
  exact contract H enc W base args ds gs before hval hW hL
theorem said : Rows.PlannerLeastSaid :=
  OpenClaim.holds_of_cond 3 Tryz.f3 rfl rfl rfl rfl rfl rfl rfl ⟨rfl, rfl, rfl, rfl, rfl⟩ rfl rfl rfl rfl rfl (by kernel_rfl) Tryz.func3 (by kernel_rfl)
    (of_decide_eq_true (by kernel_rfl)) (by unfold Func.isWrapper; first | (rw [if_pos (by decide +kernel)]; kernel_rfl) | (rw [if_neg (by decide +kernel)]; exact ⟨rfl, rfl⟩))
    (fun os started H enc _ F => by rw [OpenClaim.pre_eq_preRow]; exact lifted os started H enc F)
theorem plain (f : FuncId) (fn : Func) (hf : Tryz.pinned.checked.prog.funcNamed "netsegment/nsglaw39.PlannerLeast" = some f) (hfn : Tryz.pinned.checked.prog.funcs[f]? = some fn) :
    false = Tryz.pinned.checked.prog.looks [] ∧ ∀ (j : Nat) t, fn.params[j]? = some t → Tryz.pinned.checked.prog.wantsStandIn t = false := by
  obtain rfl : f = 3 := Option.some.inj ((show Tryz.prog.funcNamed "netsegment/nsglaw39.PlannerLeast" = some 3 by kernel_rfl).symm.trans hf) |>.symm
  obtain rfl : fn = Tryz.f3 := (Option.some.inj (Tryz.func3.symm.trans hfn)).symm
  refine ⟨by kernel_rfl, fun j t ht => ?_⟩
  rw [Tryz.params3] at ht
  have := Array.mem_of_getElem? ht
  simp only [List.mem_toArray, List.mem_cons, List.not_mem_nil, or_false] at this
  rcases this with rfl
  · exact (show Tryz.prog.wantsStandIn 22 = false by kernel_rfl)
theorem card : Rows.PlannerLeastCardSaid :=
  Claim7.holds_tied_plain_at .later [] _ _ _ _ said (fun _ h => by cases h) (by kernel_rfl) (fun _ h => by cases h) plannerLeast_row_tie rfl ⟨rfl, rfl⟩ (by kernel_rfl) rfl plain (by kernel_rfl)
end Go.Proofs.YtjcpfgkompgmeaaGreatDoor.PlannerLeast

/- RewriteHides: the statement. For all arguments that can be read; what the tables hold is tied by the card. -/
import Derived.Test.YtkeeaccnnljimaaGreatDoorHiQ6
import Derived.Test.YtkeeaccnnljimaaGreatDoorCards
import Derived.Test.YtkeeaccnnljimaaGreatDoorTie
import Derived.WalkKit
import Derived.ProofKit
import Derived.OpenShut
import Derived.Deep.DeepHandedRow
import Derived.Lib.LaidTab
set_option maxRecDepth 100000
namespace Go.Proofs.YtkeeaccnnljimaaGreatDoor.RewriteHides
open Go.ChangeShapes Go.WideShapes Go.ChangeAt Go.RowKit Go.AM
theorem rd3 {W : World} : Reads Tryz.prog W 3 Zaj Ztj :=
  Reads.intOk (by kernel_rfl) (fun _ => rfl) wf_i64
theorem rd22 {W : World} : Reads Tryz.prog W 22 Z0s Zsj :=
  Reads.slice (e := 3) (by kernel_rfl) (by kernel_rfl) (by decide) rd3
theorem rd24 {W : World} : Reads Tryz.prog W 24 Zeh Ziy :=
  Reads.intOk (by kernel_rfl) (fun _ => rfl) wf_u32
theorem rd55 {W : World} : Reads Tryz.prog W 55 Zk Zge :=
  Reads.struct (fun z : Int × Int × Unit => (⟨z.1, z.2.1⟩ : Zb)) Tryz.underlying55 (by kernel_rfl) (by kernel_rfl) (by kernel_rfl) (fl := [(24, 1), (24, 1)])
    (FR.cons rd24 (FR.cons rd24 FR.nil)) (fun _ => rfl) (fun _ h => h)
theorem rd57 {W : World} : Reads Tryz.prog W 57 Za Zis :=
  Reads.array (m := 5) (e := 55) (s := 2) (fun z : Zb × Zb × Zb × Zb × Zb × Unit => (⟨z.1, z.2.1, z.2.2.1, z.2.2.2.1, z.2.2.2.2.1⟩ : (Arr5 Zb))) (by kernel_rfl) (by kernel_rfl) (by kernel_rfl)
    (FR.cons rd55 (FR.cons rd55 (FR.cons rd55 (FR.cons rd55 (FR.cons rd55 FR.nil))))) (fun _ => rfl) (fun _ h => h)
theorem rd62 {W : World} : Reads Tryz.prog W 62 Zc Zne :=
  Reads.struct (fun z : (Arr5 Zb) × Int × Zb × Unit => (⟨z.1, z.2.1, z.2.2.1⟩ : Zh)) Tryz.underlying62 (by kernel_rfl) (by kernel_rfl) (by kernel_rfl) (fl := [(57, 10), (24, 1), (55, 2)])
    (FR.cons rd57 (FR.cons rd24 (FR.cons rd55 FR.nil))) (fun _ => rfl) (fun _ h => h)
theorem rd50 {W : World} : Reads Tryz.prog W 50 Zu1 Zpd :=
  Reads.slice (e := 62) (by kernel_rfl) (by kernel_rfl) (by decide) rd62
theorem rd33 {W : World} : Reads Tryz.prog W 33 Zo Zls :=
  Reads.slice (e := 57) (by kernel_rfl) (by kernel_rfl) (by decide) rd57
theorem rd5 {W : World} : Reads Tryz.prog W 5 Z0j ok_u8 :=
  Reads.intOk (by kernel_rfl) (fun _ => rfl) wf_u8
theorem rd25 {W : World} : Reads Tryz.prog W 25 Z2t Zl8 :=
  Reads.intOk (by kernel_rfl) (fun _ => rfl) wf_u16
theorem rd27 {W : World} : Reads Tryz.prog W 27 Zn Zci :=
  Reads.struct (fun z : Int × Int × Int × Int × Int × Unit => (⟨z.1, z.2.1, z.2.2.1, z.2.2.2.1, z.2.2.2.2.1⟩ : Zs)) Tryz.underlying27 (by kernel_rfl) (by kernel_rfl) (by kernel_rfl) (fl := [(24, 1), (24, 1), (5, 1), (25, 1), (25, 1)])
    (FR.cons rd24 (FR.cons rd24 (FR.cons rd5 (FR.cons rd25 (FR.cons rd25 FR.nil))))) (fun _ => rfl) (fun _ h => h)
theorem own : ownKnob Tryz.prog.godebug = none := by kernel_rfl
theorem laidOut : laidOutB Tryz.prog = true := by kernel_rfl
theorem tables {W : World} (h : laidMetH Tryz.prog Rows.rewriteHidesRow.laid W) : ∀ g cs, (g, cs) ∈ glob → g < W.heap.size ∧ VRow (old W) [] W g 0 cs := by
  have g0 : Tryz.prog.globalNamed "netsegment/box.tops" = some 0 := by kernel_rfl
  have t0 : Lib.TabIs Tryz.prog W "netsegment/box.tops" .u32 [4294967295, 4294967295, 255, 65535, 65535] := Lib.tabIs_of_head (rest := []) g0 (t := 78) (n := 5) (by kernel_rfl) (e := 24) (by kernel_rfl) (by kernel_rfl) (by kernel_rfl) (by kernel_rfl) h
  intro g cs hm
  simp only [glob, List.mem_cons, List.not_mem_nil, or_false, Prod.mk.injEq] at hm
  rcases hm with ⟨rfl, rfl⟩
  · refine ⟨Zz1 (t0.cell g0 0 (by decide)), ?_⟩
    simp only [Zdm, VRow, VR]
    exact ⟨⟨_, t0.cell g0 0 (by decide), rfl⟩, ⟨_, t0.cell g0 1 (by decide), rfl⟩, ⟨_, t0.cell g0 2 (by decide), rfl⟩, ⟨_, t0.cell g0 3 (by decide), rfl⟩, ⟨_, t0.cell g0 4 (by decide), rfl⟩, trivial⟩
theorem contract (H : Type) (enc : TypeId × Value → H) (W : World) (base : Nat) (args : Array Value) (ds gs : List (DataW H)) (before : List MemPlace)
    (hval : ∀ (j : Nat) t v, Tryz.f7.params[j]? = some t → args[j]? = some v → Value.okWide Tryz.prog W .any base t v)
    (hW : DataW.Whole enc Tryz.prog Tryz.f7.params.toList Rows.rewriteHidesSpec.vars false W args.toList ds gs before) (hL : laidMetH Tryz.prog Rows.rewriteHidesRow.laid W) :
    Calls Tryz.prog 7 args W fun e W' => ∃ v, e = .returned v ∧ Rows.rewriteHidesSpec.post enc Tryz.prog Tryz.f7 false true false false W args v W' := by
  have hW' := hW
  obtain ⟨p, q, hA0, hV, rfl, hfz, hnd⟩ := hW
  have hA : DataW.TrodAll enc Tryz.prog W 0 (fun _ => true) true Tryz.f7.params.toList args.toList ds p := hA0
  have hA1 := hA
  rw [Tryz.params7] at hA hval
  obtain ⟨args⟩ := args
  simp only at hA
  obtain ⟨v0, args, d0, ds, p0, ps, rfl, rfl, rfl, h0, hB0⟩ := trodAll_cons hA
  obtain ⟨v1, args, d1, ds, p1, ps, rfl, rfl, rfl, h1, hB1⟩ := trodAll_cons hB0
  obtain ⟨v2, args, d2, ds, p2, ps, rfl, rfl, rfl, h2, hB2⟩ := trodAll_cons hB1
  obtain ⟨v3, args, d3, ds, p3, ps, rfl, rfl, rfl, h3, hB3⟩ := trodAll_cons hB2
  obtain ⟨rfl, rfl, rfl⟩ := trodAll_nil hB3
  obtain ⟨rfl, rfl⟩ := trodVars_none hV
  obtain ⟨x0, o0, w0⟩ := Zp4 (p := (fun x => (slc 1 Zaj x))) (e := 3) (by kernel_rfl) (hval 0 22 v0 rfl rfl) rd22 h0 (fun _ => rfl)
  obtain ⟨x1, o1, w1⟩ := Zp4 (p := (fun x => (slc 13 Zc x))) (e := 62) (by kernel_rfl) (hval 1 50 v1 rfl rfl) rd50 h1 (fun _ => rfl)
  obtain ⟨x2, o2, w2⟩ := Zp4 (p := (fun x => (slc 10 Za x))) (e := 57) (by kernel_rfl) (hval 2 33 v2 rfl rfl) rd33 h2 (fun _ => rfl)
  obtain ⟨x3, o3, w3⟩ := Zyp (p := Zcj) (vs := Zpc) Tryz.underlying27 (hval 3 27 v3 rfl rfl) rd27 h3 (fun _ => rfl) (fun _ => rfl)
  have hcall := (Zns x0 x1 x2 x3 true (Zrv o0 o1 o2 o3)).law (W := W) (tables hL) (cargs := #[v0, v1, v2, v3]) (by
    simp only [VRs]
    exact ⟨w0, w1, w2, w3, trivial⟩)
  refine hcall.mono fun e W' ⟨he, hbel⟩ => ?_
  subst he
  refine ⟨_, rfl, [d0, d1, d2, d3], [], _, [], (p0 ++ (p1 ++ (p2 ++ (p3 ++ [])))), [], hW', trodAll_mk1 (shut_bool (by kernel_rfl) _), ?_, rfl, World.keptBut_mono (fun _ f => f.elim) (hbel.frame (fun _ => False)), fun h => by cases h⟩
  exact Zpa laidOut hbel _ _ _ _ (by kernel_rfl) hA1 fun x hx => hW'.lt x (List.mem_append_left _ hx)
noncomputable def laidWorld (os : Os) : World :=
  { World.holding Tryz.prog os ⟨#[], #[], []⟩ with heap := ((World.holding Tryz.prog os ⟨#[], #[], []⟩).heap.modify 0 (lay #[.int .u32 4294967295, .int .u32 4294967295, .int .u32 255, .int .u32 65535, .int .u32 65535])) }
theorem laid_met (os : Os) : laidMet Tryz.prog Rows.rewriteHidesRow.laid ((laidWorld os).forCall (fun _ _ => 0) ⟨#[], #[(.slice none 0 0 : Value), (.slice none 0 0 : Value), (.slice none 0 0 : Value), (.agg #[.int .u32 0, .int .u32 0, .int .u8 0, .int .u16 0, .int .u16 0] : Value)], []⟩).memory :=
  laidMet_of_run' 8 (by kernel_rfl) (by kernel_rfl)
theorem reads (os : Os) {H : Type} (enc : TypeId × Value → H) : ∃ places, DataW.whole enc Tryz.prog ((laidWorld os).forCall (fun _ _ => 0) ⟨#[], #[(.slice none 0 0 : Value), (.slice none 0 0 : Value), (.slice none 0 0 : Value), (.agg #[.int .u32 0, .int .u32 0, .int .u8 0, .int .u16 0, .int .u16 0] : Value)], []⟩).memory Tryz.f7.params.toList Rows.rewriteHidesSpec.vars false #[(.slice none 0 0 : Value), (.slice none 0 0 : Value), (.slice none 0 0 : Value), (.agg #[.int .u32 0, .int .u32 0, .int .u8 0, .int .u16 0, .int .u16 0] : Value)].toList 8 = some ([.nil, .nil, .nil, .agg [.lit (.int .u32 0), .lit (.int .u32 0), .lit (.int .u8 0), .lit (.int .u16 0), .lit (.int .u16 0)]], [], places) :=
  ⟨[], by kernel_rfl⟩
theorem lifted (os : Os) (started : os.Started) (H : Type) (enc : TypeId × Value → H) (F : Stop.Interp) :
    ReturnsInHanded {} Tryz.checked os 7 .any ((OpenSpec.ofChange Rows.rewriteHidesSpec).preRow enc Tryz.prog Tryz.f7 Rows.rewriteHidesRow.domain false Rows.rewriteHidesRow.laid) (((OpenSpec.ofChange Rows.rewriteHidesSpec).at F).post enc Tryz.prog Tryz.f7 false true false false) := by
  obtain ⟨places, hx⟩ := reads os enc
  refine returnsInHanded_of_row (C := Tryz.checked) (s := OpenSpec.ofChange Rows.rewriteHidesSpec) own started (by kernel_rfl) Tryz.func7
    (witness_row_at (enc := enc) (C := Tryz.checked) false (laidWorld os) #[(.slice none 0 0 : Value), (.slice none 0 0 : Value), (.slice none 0 0 : Value), (.agg #[.int .u32 0, .int .u32 0, .int .u8 0, .int .u16 0, .int .u16 0] : Value)] rfl (by kernel_rfl) (by kernel_rfl) (by kernel_rfl)
      (OpenSpec.preRow_of_cond 8 hx (by kernel_rfl) (fun k hk => by cases hk) (by kernel_rfl) (laid_met os))) ?_
  intro W base args ds gs before hval hW _ _ _ hL _ _
  exact contract H enc W base args ds gs before hval hW hL
theorem said : Rows.RewriteHidesSaid :=
  OpenClaim.holds_of_cond 7 Tryz.f7 rfl rfl rfl rfl rfl rfl rfl ⟨rfl, rfl, rfl, rfl, rfl⟩ rfl rfl rfl rfl rfl (by kernel_rfl) Tryz.func7 (by kernel_rfl)
    (of_decide_eq_true (by kernel_rfl)) (by unfold Func.isWrapper; first | (rw [if_pos (by decide +kernel)]; kernel_rfl) | (rw [if_neg (by decide +kernel)]; exact ⟨rfl, rfl⟩))
    (fun os started H enc _ F => by rw [OpenClaim.pre_eq_preRow]; exact lifted os started H enc F)
theorem plain (f : FuncId) (fn : Func) (hf : Tryz.pinned.checked.prog.funcNamed "netsegment/nsglaw6.RewriteHides" = some f) (hfn : Tryz.pinned.checked.prog.funcs[f]? = some fn) :
    false = Tryz.pinned.checked.prog.looks [] ∧ ∀ (j : Nat) t, fn.params[j]? = some t → Tryz.pinned.checked.prog.wantsStandIn t = false := by
  obtain rfl : f = 7 := Option.some.inj ((show Tryz.prog.funcNamed "netsegment/nsglaw6.RewriteHides" = some 7 by kernel_rfl).symm.trans hf) |>.symm
  obtain rfl : fn = Tryz.f7 := (Option.some.inj (Tryz.func7.symm.trans hfn)).symm
  refine ⟨by kernel_rfl, fun j t ht => ?_⟩
  rw [Tryz.params7] at ht
  have := Array.mem_of_getElem? ht
  simp only [List.mem_toArray, List.mem_cons, List.not_mem_nil, or_false] at this
  rcases this with rfl | rfl | rfl | rfl
  · exact (show Tryz.prog.wantsStandIn 22 = false by kernel_rfl)
  · exact (show Tryz.prog.wantsStandIn 50 = false by kernel_rfl)
  · exact (show Tryz.prog.wantsStandIn 33 = false by kernel_rfl)
  · exact (show Tryz.prog.wantsStandIn 27 = false by kernel_rfl)
theorem card : Rows.RewriteHidesCardSaid :=
  Claim7.holds_tied_plain_at .later [] _ _ _ _ said (fun _ h => by cases h) (by kernel_rfl) (fun _ h => by cases h) rewriteHides_row_tie rfl ⟨rfl, rfl⟩ (by kernel_rfl) rfl plain (by kernel_rfl)
end Go.Proofs.YtkeeaccnnljimaaGreatDoor.RewriteHides

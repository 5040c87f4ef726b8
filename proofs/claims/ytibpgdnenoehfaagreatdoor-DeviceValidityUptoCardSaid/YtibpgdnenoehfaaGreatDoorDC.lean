/- DeviceValidity: the statement. For all arguments that can be read; what the tables hold is tied by the card. -/
import Derived.Test.YtibpgdnenoehfaaGreatDoorDQ14
import Derived.Test.YtibpgdnenoehfaaGreatDoorCards
import Derived.Test.YtibpgdnenoehfaaGreatDoorTie
import Derived.Test.YtibpgdnenoehfaaGreatDoorDJ
import Derived.WalkKit
import Derived.ProofKit
import Derived.OpenShut
import Derived.Deep.DeepHandedRow
import Derived.Lib.LaidTab
set_option maxRecDepth 100000
namespace Go.Proofs.YtibpgdnenoehfaaGreatDoor.DeviceValidity
open Go.ChangeShapes Go.WideShapes Go.ChangeAt Go.RowKit Go.AM
theorem rd3 {W : World} : Reads Tryz.prog W 3 Ze Zm4 :=
 Reads.intOk (by kernel_rfl) (fun _=>rfl) wf_i64
theorem rd22 {W : World} : ReadU Tryz.prog W 22 Zan Zxk :=
 ReadU.slice (e:=3) (by kernel_rfl) (by kernel_rfl) (by decide) rd3.u
theorem rd9 {W : World} : Reads Tryz.prog W 9 Zaj Zzl :=
 Reads.string (by kernel_rfl)
theorem rd4 {W : World} : Reads Tryz.prog W 4 Z56 Zwk :=
 Reads.bool (by kernel_rfl)
theorem rd132 {W : World} : Reads Tryz.prog W 132 Zh Z1o :=
 Reads.struct (fun z : ByteArray×Int×Bool×Bool×ByteArray×Unit=>(⟨z.1,z.2.1,z.2.2.1,z.2.2.2.1,z.2.2.2.2.1⟩ : Z5)) Tryz.underlying132 (by kernel_rfl) (by kernel_rfl) (by kernel_rfl) (fl:=[(9,1),(3,1),(4,1),(4,1),(9,1)])
  (FR.cons rd9 (FR.cons rd3 (FR.cons rd4 (FR.cons rd4 (FR.cons rd9 FR.nil))))) (fun _=>rfl) (fun _ h=>h)
theorem rd23 {W : World} : ReadU Tryz.prog W 23 Z6d Zyr :=
 ReadU.slice (e:=132) (by kernel_rfl) (by kernel_rfl) (by decide) rd132.u
theorem rd134 {W : World} : Reads Tryz.prog W 134 Zx Z5n :=
 Reads.struct (fun z : Int×Int×Int×Unit=>(⟨z.1,z.2.1,z.2.2.1⟩ : Zah)) Tryz.underlying134 (by kernel_rfl) (by kernel_rfl) (by kernel_rfl) (fl:=[(3,1),(3,1),(3,1)])
  (FR.cons rd3 (FR.cons rd3 (FR.cons rd3 FR.nil))) (fun _=>rfl) (fun _ h=>h)
theorem rd24 {W : World} : ReadU Tryz.prog W 24 Z9b Z10 :=
 ReadU.slice (e:=134) (by kernel_rfl) (by kernel_rfl) (by decide) rd134.u
theorem rd72 {W : World} : Reads Tryz.prog W 72 Ziv Zbf :=
 Reads.intOk (by kernel_rfl) (fun _=>rfl) wf_u32
theorem rd90 {W : World} : Reads Tryz.prog W 90 Zu Zsi :=
 Reads.struct (fun z : Int×Int×Unit=>(⟨z.1,z.2.1⟩ : Zl)) Tryz.underlying90 (by kernel_rfl) (by kernel_rfl) (by kernel_rfl) (fl:=[(72,1),(3,1)])
  (FR.cons rd72 (FR.cons rd3 FR.nil)) (fun _=>rfl) (fun _ h=>h)
theorem rd136 {W : World} : Reads Tryz.prog W 136 Zk Z5o :=
 Reads.struct (fun z : ByteArray×Int×ByteArray×Zl×Bool×Unit=>(⟨z.1,z.2.1,z.2.2.1,z.2.2.2.1,z.2.2.2.2.1⟩ : Z1)) Tryz.underlying136 (by kernel_rfl) (by kernel_rfl) (by kernel_rfl) (fl:=[(9,1),(3,1),(9,1),(90,2),(4,1)])
  (FR.cons rd9 (FR.cons rd3 (FR.cons rd9 (FR.cons rd90 (FR.cons rd4 FR.nil))))) (fun _=>rfl) (fun _ h=>h)
theorem rd25 {W : World} : ReadU Tryz.prog W 25 Z9c Z11 :=
 ReadU.slice (e:=136) (by kernel_rfl) (by kernel_rfl) (by decide) rd136.u
theorem rd26 {W : World} : ReadU Tryz.prog W 26 Z6e Zys :=
 ReadU.slice (e:=90) (by kernel_rfl) (by kernel_rfl) (by decide) rd90.u
theorem rd28 {W : World} : ReadU Tryz.prog W 28 Z3 Zyt :=
 ReadU.struct (fun z : (List Z5)×(List Zah)×(List Z1)×(List Zl)×Int×Unit=>(⟨z.1,z.2.1,z.2.2.1,z.2.2.2.1,z.2.2.2.2.1⟩ : Zb)) Tryz.underlying28 (by kernel_rfl) (by kernel_rfl) (by kernel_rfl) (fl:=[(23,1),(24,1),(25,1),(26,1),(3,1)])
  (FRU.cons rd23 (FRU.cons rd24 (FRU.cons rd25 (FRU.cons rd26 (FRU.cons rd3.u FRU.nil))))) (fun _=>rfl) (fun _ h=>h)
theorem rd30 {W : World} : ReadU Tryz.prog W 30 Za1 Zz6 :=
 ReadU.struct (fun z : (List Int)×(List Int)×Unit=>(⟨z.1,z.2.1⟩ : Zp)) Tryz.underlying30 (by kernel_rfl) (by kernel_rfl) (by kernel_rfl) (fl:=[(22,1),(22,1)])
  (FRU.cons rd22 (FRU.cons rd22 FRU.nil)) (fun _=>rfl) (fun _ h=>h)
theorem rd74 {W : World} : Reads Tryz.prog W 74 Zn Zk7 :=
 Reads.struct (fun z : Int×Int×Unit=>(⟨z.1,z.2.1⟩ : Za)) Tryz.underlying74 (by kernel_rfl) (by kernel_rfl) (by kernel_rfl) (fl:=[(72,1),(72,1)])
  (FR.cons rd72 (FR.cons rd72 FR.nil)) (fun _=>rfl) (fun _ h=>h)
theorem rd76 {W : World} : Reads Tryz.prog W 76 Zd Ziw :=
 Reads.array (m:=5) (e:=74) (s:=2) (fun z : Za×Za×Za×Za×Za×Unit=>(⟨z.1,z.2.1,z.2.2.1,z.2.2.2.1,z.2.2.2.2.1⟩ : (Arr5 Za))) (by kernel_rfl) (by kernel_rfl) (by kernel_rfl)
  (FR.cons rd74 (FR.cons rd74 (FR.cons rd74 (FR.cons rd74 (FR.cons rd74 FR.nil))))) (fun _=>rfl) (fun _ h=>h)
theorem rd164 {W : World} : Reads Tryz.prog W 164 Zak Z5p :=
 Reads.struct (fun z : (Arr5 Za)×Bool×Unit=>(⟨z.1,z.2.1⟩ : Zai)) Tryz.underlying164 (by kernel_rfl) (by kernel_rfl) (by kernel_rfl) (fl:=[(76,10),(4,1)])
  (FR.cons rd76 (FR.cons rd4 FR.nil)) (fun _=>rfl) (fun _ h=>h)
theorem rd83 {W : World} : ReadU Tryz.prog W 83 Z9d Zvt :=
 ReadU.slice (e:=164) (by kernel_rfl) (by kernel_rfl) (by decide) rd164.u
theorem rd167 {W : World} : Reads Tryz.prog W 167 Zap Z5q :=
 Reads.struct (fun z : (Arr5 Za)×(Arr5 Za)×Unit=>(⟨z.1,z.2.1⟩ : Zaa)) Tryz.underlying167 (by kernel_rfl) (by kernel_rfl) (by kernel_rfl) (fl:=[(76,10),(76,10)])
  (FR.cons rd76 (FR.cons rd76 FR.nil)) (fun _=>rfl) (fun _ h=>h)
theorem rd84 {W : World} : ReadU Tryz.prog W 84 Z9e Z12 :=
 ReadU.slice (e:=167) (by kernel_rfl) (by kernel_rfl) (by decide) rd167.u
theorem rd80 {W : World} : Reads Tryz.prog W 80 Zar Z5r :=
 Reads.struct (fun z : (Arr5 Za)×Int×Za×Unit=>(⟨z.1,z.2.1,z.2.2.1⟩ : Zab)) Tryz.underlying80 (by kernel_rfl) (by kernel_rfl) (by kernel_rfl) (fl:=[(76,10),(72,1),(74,2)])
  (FR.cons rd76 (FR.cons rd72 (FR.cons rd74 FR.nil))) (fun _=>rfl) (fun _ h=>h)
theorem rd81 {W : World} : ReadU Tryz.prog W 81 Z9f Z13 :=
 ReadU.slice (e:=80) (by kernel_rfl) (by kernel_rfl) (by decide) rd80.u
theorem rd152 {W : World} : Reads Tryz.prog W 152 Zas Z3k :=
 Reads.struct (fun z : (Arr5 Za)×ByteArray×Unit=>(⟨z.1,z.2.1⟩ : Zaf)) Tryz.underlying152 (by kernel_rfl) (by kernel_rfl) (by kernel_rfl) (fl:=[(76,10),(9,1)])
  (FR.cons rd76 (FR.cons rd9 FR.nil)) (fun _=>rfl) (fun _ h=>h)
theorem rd85 {W : World} : ReadU Tryz.prog W 85 Z7o Zz7 :=
 ReadU.slice (e:=152) (by kernel_rfl) (by kernel_rfl) (by decide) rd152.u
theorem rd87 {W : World} : ReadU Tryz.prog W 87 Zy Z5u :=
 ReadU.struct (fun z : Int×(List Zai)×(List Zai)×(List Zaa)×(List Zab)×(List Zaf)×Unit=>(⟨z.1,z.2.1,z.2.2.1,z.2.2.2.1,z.2.2.2.2.1,z.2.2.2.2.2.1⟩ : Zw)) Tryz.underlying87 (by kernel_rfl) (by kernel_rfl) (by kernel_rfl) (fl:=[(3,1),(83,1),(83,1),(84,1),(81,1),(85,1)])
  (FRU.cons rd3.u (FRU.cons rd83 (FRU.cons rd83 (FRU.cons rd84 (FRU.cons rd81 (FRU.cons rd85 FRU.nil)))))) (fun _=>rfl) (fun _ h=>h)
theorem rd69 {W : World} : ReadU Tryz.prog W 69 Z9g Z14 :=
 ReadU.slice (e:=87) (by kernel_rfl) (by kernel_rfl) (by decide) rd87
theorem rd71 {W : World} : ReadU Tryz.prog W 71 Z7 Z15 :=
 ReadU.struct (fun z : (List Zw)×Unit=>(⟨z.1⟩ : Zo)) Tryz.underlying71 (by kernel_rfl) (by kernel_rfl) (by kernel_rfl) (fl:=[(69,1)])
  (FRU.cons rd69 FRU.nil) (fun _=>rfl) (fun _ h=>h)
theorem rd31 {W : World} : ReadU Tryz.prog W 31 Z6f Zyu :=
 ReadU.slice (e:=71) (by kernel_rfl) (by kernel_rfl) (by decide) rd71
theorem rd93 {W : World} : Reads Tryz.prog W 93 Zz Z3l :=
 Reads.struct (fun z : Zl×Bool×Int×Unit=>(⟨z.1,z.2.1,z.2.2.1⟩ : Zi)) Tryz.underlying93 (by kernel_rfl) (by kernel_rfl) (by kernel_rfl) (fl:=[(90,2),(4,1),(3,1)])
  (FR.cons rd90 (FR.cons rd4 (FR.cons rd3 FR.nil))) (fun _=>rfl) (fun _ h=>h)
theorem rd88 {W : World} : ReadU Tryz.prog W 88 Z6 Zz8 :=
 ReadU.slice (e:=93) (by kernel_rfl) (by kernel_rfl) (by decide) rd93.u
theorem rd32 {W : World} : ReadU Tryz.prog W 32 Z4x Zxl :=
 ReadU.slice (e:=88) (by kernel_rfl) (by kernel_rfl) (by decide) rd88
theorem rd33 {W : World} : ReadU Tryz.prog W 33 Zad9 Z8c :=
 ReadU.slice (e:=22) (by kernel_rfl) (by kernel_rfl) (by decide) rd22
theorem rd35 {W : World} : ReadU Tryz.prog W 35 Zbj Zuu :=
 ReadU.struct (fun z : Zb×Zp×(List Zo)×(List (List Zi))×(List (List Int))×Unit=>(⟨z.1,z.2.1,z.2.2.1,z.2.2.2.1,z.2.2.2.2.1⟩ : Z0)) Tryz.underlying35 (by kernel_rfl) (by kernel_rfl) (by kernel_rfl) (fl:=[(28,5),(30,2),(31,1),(32,1),(33,1)])
  (FRU.cons rd28 (FRU.cons rd30 (FRU.cons rd31 (FRU.cons rd32 (FRU.cons rd33 FRU.nil))))) (fun _=>rfl) (fun _ h=>h)
theorem own : ownKnob Tryz.prog.godebug = none:=by kernel_rfl
theorem laidOut : laidOutB Tryz.prog = true:=by kernel_rfl
theorem tables {W : World} (h : laidMetH Tryz.prog Rows.deviceValidityUptoRow.laid W) : ∀ g cs,(g,cs) ∈ glob→g < W.heap.size∧VRow (old W) [] W g 0 cs:=by
 have g0 : Tryz.prog.globalNamed "netsegment/box.tops" = some 0:=by kernel_rfl
 have t0 : Lib.TabIs Tryz.prog W "netsegment/box.tops" .u32 [4294967295,4294967295,255,65535,65535]:=Lib.tabIs_of_head (rest:=[]) g0 (t:=306) (n:=5) (by kernel_rfl) (e:=72) (by kernel_rfl) (by kernel_rfl) (by kernel_rfl) (by kernel_rfl) h
 intro g cs hm
 simp only [glob,List.mem_cons,List.not_mem_nil,or_false,Prod.mk.injEq] at hm
 rcases hm with ⟨rfl,rfl⟩
 ·refine ⟨Zaf3 (t0.cell g0 0 (by decide)),?_⟩
  simp only [Z7m,VRow,VR]
  exact ⟨⟨_,t0.cell g0 0 (by decide),rfl⟩,⟨_,t0.cell g0 1 (by decide),rfl⟩,⟨_,t0.cell g0 2 (by decide),rfl⟩,⟨_,t0.cell g0 3 (by decide),rfl⟩,⟨_,t0.cell g0 4 (by decide),rfl⟩,trivial⟩
theorem contract (H : Type) (enc : TypeId×Value→H) (W : World) (base : Nat) (args : Array Value) (ds gs : List (DataW H)) (before : List MemPlace)
  (hval : ∀ (j : Nat) t v,Tryz.f3.params[j]? = some t→args[j]? = some v→Value.okWide Tryz.prog W .any base t v)
  (hW : DataW.Whole enc Tryz.prog Tryz.f3.params.toList Rows.deviceValiditySpec.vars false W args.toList ds gs before) (hL : laidMetH Tryz.prog Rows.deviceValidityUptoRow.laid W) (hK : Rows.uptoSmall H (ds++gs) = true) :
  Calls Tryz.prog 3 args W fun e W'=>∃ v,e = .returned v∧Rows.deviceValiditySpec.post enc Tryz.prog Tryz.f3 false true false false W args v W':=by
 have hW':=hW
 obtain ⟨p,q,hA0,hV,rfl,hfz,hnd⟩:=hW
 have hA : DataW.TrodAll enc Tryz.prog W 0 (fun _=>true) true Tryz.f3.params.toList args.toList ds p:=hA0
 have hA1:=hA
 rw [Tryz.params3] at hA hval
 obtain ⟨args⟩:=args
 simp only at hA
 obtain ⟨v0,args,d0,ds,p0,ps,rfl,rfl,rfl,h0,hB0⟩:=trodAll_cons hA
 obtain ⟨v1,args,d1,ds,p1,ps,rfl,rfl,rfl,h1,hB1⟩:=trodAll_cons hB0
 obtain ⟨v2,args,d2,ds,p2,ps,rfl,rfl,rfl,h2,hB2⟩:=trodAll_cons hB1
 obtain ⟨rfl,rfl,rfl⟩:=trodAll_nil hB2
 obtain ⟨rfl,rfl⟩:=trodVars_none hV
 have hK:=of_decide_eq_true hK
 simp only [Rows.uptoBulkAll,List.cons_append,List.nil_append] at hK
 have hS0 : Sm d0:=by unfold Sm; omega
 obtain ⟨x0,o0,w0⟩:=Zaf6 (p:=(fun x=>(slc 1 Ze x))) (e:=3) (by kernel_rfl) (hval 0 22 v0 rfl rfl) rd22 hS0 h0 (fun _=>rfl)
 have hS1 : Sm d1:=by unfold Sm; omega
 obtain ⟨x1,o1,w1⟩:=Zad2 (p:=Zbt) Tryz.underlying35 (hval 1 35 v1 rfl rfl) rd35 hS1 h1 (fun _=>rfl)
 obtain ⟨x2,o2,w2⟩:=Zajp (p:=(fun x=>(i64 x))) (k:=.i64) (by kernel_rfl) (hval 2 3 v2 rfl rfl) rd3 h2 (fun _=>rfl)
 have hcall:=(Zwg.run true (Z3c o0 o1 o2)).law (W:=W) (tables hL) (cargs:=#[v0,v1,v2]) (by
  simp only [VRs]
  exact ⟨w0,w1,w2,trivial⟩)
 refine hcall.mono fun e W' ⟨he,hbel⟩=>?_
 subst he
 refine ⟨_,rfl,[d0,d1,d2],[],_,[],(p0++(p1++(p2++[]))),[],hW',trodAll_mk1 (shut_bool (by kernel_rfl) _),?_,rfl,World.keptBut_mono (fun _ f=>f.elim) (hbel.frame (fun _=>False)),fun h=>by cases h⟩
 exact Z1n laidOut hbel _ _ _ _ (by kernel_rfl) hA1 fun x hx=>hW'.lt x (List.mem_append_left _ hx)
abbrev zv:Array Value:=#[(.slice none 0 0 : Value),(.agg #[.slice none 0 0,.slice none 0 0,.slice none 0 0,.slice none 0 0,.int .i64 0,.slice none 0 0,.slice none 0 0,.slice none 0 0,.slice none 0 0,.slice none 0 0] : Value),(.int .i64 0 : Value)]
noncomputable def laidWorld (os : Os) : World :=
 { World.holding Tryz.prog os ⟨#[],#[],[]⟩ with heap:=((World.holding Tryz.prog os ⟨#[],#[],[]⟩).heap.modify 0 (lay #[.int .u32 4294967295,.int .u32 4294967295,.int .u32 255,.int .u32 65535,.int .u32 65535])) }
theorem laid_met (os : Os) : laidMet Tryz.prog Rows.deviceValidityUptoRow.laid ((laidWorld os).forCall (fun _ _=>0) ⟨#[],zv,[]⟩).memory :=
 laidMet_of_run' 8 (by kernel_rfl) (by kernel_rfl)
theorem reads (os : Os) {H : Type} (enc : TypeId×Value→H) : ∃ places,DataW.whole enc Tryz.prog ((laidWorld os).forCall (fun _ _=>0) ⟨#[],zv,[]⟩).memory Tryz.f3.params.toList Rows.deviceValiditySpec.vars false zv.toList 8 = some ([.nil,.agg [.agg [.nil,.nil,.nil,.nil,.lit (.int .i64 0)],.agg [.nil,.nil],.nil,.nil,.nil],.lit (.int .i64 0)],[],places) :=
 ⟨[],by kernel_rfl⟩
theorem lifted (os : Os) (started : os.Started) (H : Type) (enc : TypeId×Value→H) (F : Stop.Interp) :
  ReturnsInHanded {} Tryz.checked os 3 .any ((Rows.OpenSpec.upto Rows.deviceValiditySpec).preRow enc Tryz.prog Tryz.f3 Rows.deviceValidityUptoRow.domain false Rows.deviceValidityUptoRow.laid) (((Rows.OpenSpec.upto Rows.deviceValiditySpec).at F).post enc Tryz.prog Tryz.f3 false true false false):=by
 obtain ⟨places,hx⟩:=reads os enc
 refine returnsInHanded_of_row (C:=Tryz.checked) (s:=Rows.OpenSpec.upto Rows.deviceValiditySpec) own started (by kernel_rfl) Tryz.func3
  (witness_row_at (enc:=enc) (C:=Tryz.checked) false (laidWorld os) zv rfl (by kernel_rfl) (by kernel_rfl) (by kernel_rfl)
   (OpenSpec.preRow_of_cond 8 hx (by kernel_rfl) (fun k hk=>by cases hk; kernel_rfl) (by kernel_rfl) (laid_met os))) ?_
 intro W base args ds gs before hval hW _ hcond _ hL _ _
 exact contract H enc W base args ds gs before hval hW hL (hcond _ rfl)
theorem said : Rows.DeviceValidityUptoSaid :=
 OpenClaim.holds_of_cond 3 Tryz.f3 rfl rfl rfl rfl rfl rfl rfl ⟨rfl,rfl,rfl,rfl,rfl⟩ rfl rfl rfl rfl rfl (by kernel_rfl) Tryz.func3 closed
  (of_decide_eq_true (by kernel_rfl)) (by unfold Func.isWrapper; first | (rw [if_pos (by decide +kernel)]; kernel_rfl) | (rw [if_neg (by decide +kernel)]; exact ⟨rfl,rfl⟩))
  (fun os started H enc _ F=>by rw [OpenClaim.pre_eq_preRow]; exact lifted os started H enc F)
theorem plain (f : FuncId) (fn : Func) (hf : Tryz.pinned.checked.prog.funcNamed "netsegment/nsglaw26.DeviceValidity" = some f) (hfn : Tryz.pinned.checked.prog.funcs[f]? = some fn) :
  false = Tryz.pinned.checked.prog.looks []∧∀ (j : Nat) t,fn.params[j]? = some t→Tryz.pinned.checked.prog.wantsStandIn t = false:=by
 obtain rfl : f = 3:=Option.some.inj ((show Tryz.prog.funcNamed "netsegment/nsglaw26.DeviceValidity" = some 3 by kernel_rfl).symm.trans hf) |>.symm
 obtain rfl : fn = Tryz.f3:=(Option.some.inj (Tryz.func3.symm.trans hfn)).symm
 refine ⟨by kernel_rfl,fun j t ht=>?_⟩
 rw [Tryz.params3] at ht
 have:=Array.mem_of_getElem? ht
 simp only [List.mem_toArray,List.mem_cons,List.not_mem_nil,or_false] at this
 rcases this with rfl | rfl | rfl
 ·exact (show Tryz.prog.wantsStandIn 22 = false by kernel_rfl)
 ·exact (show Tryz.prog.wantsStandIn 35 = false by kernel_rfl)
 ·exact (show Tryz.prog.wantsStandIn 3 = false by kernel_rfl)
theorem card : Rows.DeviceValidityUptoCardSaid :=
 Claim7.holds_tied_plain_at .later [] _ _ _ _ said (fun _ h=>by cases h) (by kernel_rfl) (fun _ h=>by cases h) deviceValidityUpto_row_tie rfl ⟨rfl,rfl⟩ (by kernel_rfl) rfl plain (by kernel_rfl)
end Go.Proofs.YtibpgdnenoehfaaGreatDoor.DeviceValidity

/- Parts of a proof, printed short. No condition. -/
import Derived.Test.YtkeeaccnnljimaaGreatDoorProg
import Derived.Test.YtkeeaccnnljimaaGreatDoorGaQ3
set_option maxRecDepth 100000
namespace Go.AM
open Go Go.Proofs
def Zkk (r:Bool):PV→List Blk→Prop:=fun p K=>p=(vb r)∧K=[]
theorem Zfk (r:Bool) (hF:Zfc=some r):ACall Tryz.prog glob 14 [] [] (Zkk r):=by
 have hr:=someb hF
 subst hr
 exact (T8_ok _ (List.mem_cons.2 (.inl rfl))).1
def Zk0 (r:nsggen_Tape):PV→List Blk→Prop:=fun p K=>p=(.ptr 0 0)∧K=[.cells (Zd r)]
theorem Zk1 (a0:(List Int)) (r:nsggen_Tape) (hF:Zgr a0=some r):ACall Tryz.prog glob 8 [(slc 1 Z3 a0)] [] (Zk0 r):=by
 refine ACall.body Tryz.func8 rfl (by kernel_rfl) ?_
 unfold Zgr at hF
 refine .seq (.rg0 [] [(0,(slc 1 Z3 a0))] ?_)
 refine .seq (.rg [] [(2,(.ptr 0 0))] [.cells (Zd (nsggen_Tape.mk a0 (0:Int)))] ?_)
 refine AWP.ret ?_
 have hr:=someb hF
 subst hr
 exact (FnQ.f0 1 (.inr rfl))
def Zk2 (r:Int):PV→List Blk→Prop:=fun p K=>p=(i64 r)∧K=[]
theorem Zi4 (a0:Int) (a1:Int) (r:Int) (hF:Zfd a0 a1=some r):ACall Tryz.prog glob 86 [(i64 a0),(i64 a1)] [] (Zk2 r):=by
 refine ACall.body Tryz.func86 rfl (by kernel_rfl) ?_
 unfold Zfd at hF
 refine .seq (.rg0 [] [(0,(i64 a0)),(1,(i64 a1))] ?_)
 refine AWP.seq ?_
 obtain ⟨h1,hF⟩:=chkb hF
 refine AWP.rg0 [(4,.rem h1)] [(4,(i64 (IntKind.wrap .i64 (Int.tmod (IntKind.wrap .u64 a0) (IntKind.wrap .u64 a1)))))] ?_
 refine AWP.ret ?_
 have hr:=someb hF
 subst hr
 exact (FnQ.f0 0 (.inr rfl))
def Zi5 (r:(Int × nsggen_Tape)):PV→List Blk→Prop:=fun p K=>p=(i64 r.1)∧K=[.cells (Zd r.2)]
theorem Zs (a0:nsggen_Tape) (a1:Int) (r:(Int × nsggen_Tape)) (hF:Zk a0 a1=some r):ACall Tryz.prog glob 32 [(.ptr 0 0),(i64 a1)] [.cells (Zd a0)] (Zi5 r):=by
 refine ACall.body Tryz.func32 rfl (by kernel_rfl) ?_
 unfold Zk at hF
 refine .seq (.rg0 [] [(0,(.ptr 0 0)),(1,(i64 a1))] ?_)
 refine AWP.seq ?_
 refine AWP.seq ?_
 obtain ⟨b1,h2,hF⟩:=bindb hF
 replace h2:=someb h2
 refine AWP.to [(0,(.ptr 0 0)),(1,(i64 a1)),(18,(vb (b1 || (decide (a0.f_i ≥ (List.length a0.f_l:Int))))))] [.cells (Zd a0)] ?_ ?_
 ·cases b1 with
  | false=>
   exact AWP.drT [(2,.bool h2),(11,.len Z3 a0.f_l)] 14 [] [] []
  | true=>
   exact AWP.drT [(2,.bool h2)] 14 [] [] []
 refine AWP.cif hF (fun h7 hF=>?_) (fun h7 hF=>?_)
 ·refine .seq (.rg0 [] [(4,(i64 (0:Int)))] ?_)
  refine AWP.ret ?_
  have hr:=someb hF
  subst hr
  exact (FnQ.f0 1 (.inr rfl))
 ·refine AWP.skip ?_
  refine .seq (.rg [] [(0,(.ptr 0 0)),(1,(i64 a1))] [.cells (Zd ({ a0 with f_i:=(IntKind.wrap .i64 (a0.f_i + (1:Int))) }:nsggen_Tape))] ?_)
  refine AWP.seq ?_
  obtain ⟨x3,h4,hF⟩:=bindb hF
  obtain ⟨r5,h6,hF⟩:=bindb hF
  refine AWP.dr [(9,.idx Z3 h4),(12,.call Tryz.func86 [] (Zi4 x3 a1 r5 h6))] 13 [] [] [] [(4,(i64 r5))] [.cells (Zd ({ a0 with f_i:=(IntKind.wrap .i64 (a0.f_i + (1:Int))) }:nsggen_Tape))] ?_
  refine AWP.ret ?_
  have hr:=someb hF
  subst hr
  exact (FnQ.f0 1 (.inr rfl))
def Ziu (r:Int):PV→List Blk→Prop:=fun p K=>p=(u32 r)∧K=[]
abbrev Zkw (r:Int):Exit→St→List Blk→Prop:=FnQ Tryz.prog Tryz.f43.results 0 (Ziu r)
theorem Zge (a0:Int) (r:Int) (hF:Zec a0=some r):ACall Tryz.prog glob 43 [(i64 a0)] [] (Ziu r):=by
 refine ACall.body Tryz.func43 rfl (by kernel_rfl) ?_
 unfold Zec at hF
 refine .seq (.rg0 [] [(0,(i64 a0))] ?_)
 obtain ⟨o12,h13,hF⟩:=bindb hF
 refine AWP.seq ?_
 refine AWP.mid (fun e st H=>(e=.normal∧o12=(.inl ())∧st=[]∧H=[])∨(e=.ret∧∃ (r:Int),o12=(.inr r)∧Zkw r e st H)) ?_ ?_
 ·clear hF
  have hF:=h13
  refine .seq (.rg0 [] [(3,(i64 a0))] ?_)
  refine AWP.block ?_
  obtain ⟨v15,h16,hF⟩:=bindb hF
  refine AWP.seq ?_
  refine AWP.mid (fun e st H=>e=.normal∧st=[(3,(i64 a0)),(4,(vb v15))]∧H=[]) ?_ ?_
  ·clear hF
   have hF:=h16
   refine .seq (.rg0 [] [(3,(i64 a0)),(4,(vb (a0 == (0:Int))))] ?_)
   refine AWP.cif hF (fun h17 hF=>?_) (fun h17 hF=>?_)
   ·refine AWP.skip ?_
    refine LeQ.start ?_
    refine LeQ.pk [3,4] 0 ?_
    have hr:=someb hF
    subst hr
    exact ⟨rfl,by kernel_rfl,by kernel_rfl⟩
   ·refine AWP.rg0 [] [(3,(i64 a0)),(4,(vb (a0 == (1:Int))))] ?_
    refine LeQ.start ?_
    refine LeQ.pk [3,4] 0 ?_
    have hr:=someb hF
    subst hr
    exact ⟨rfl,by kernel_rfl,by kernel_rfl⟩
  ·rintro _ _ _ ⟨rfl,rfl,rfl⟩
   refine AWP.cif hF (fun h24 hF=>?_) (fun h24 hF=>?_)
   ·refine .seq (.rg0 [] [(2,(u32 (4294967295:Int)))] ?_)
    refine AWP.ret ?_
    exact LeQ.of (.inr ⟨rfl,(4294967295:Int),(someb hF).symm,(FnQ.f0 0 (.inr rfl))⟩)
   ·refine .seq (.rg0 [] [(3,(i64 a0)),(7,(vb (a0 == (2:Int))))] ?_)
    refine AWP.cif hF (fun h23 hF=>?_) (fun h23 hF=>?_)
    ·refine .seq (.rg0 [] [(2,(u32 (255:Int)))] ?_)
     refine AWP.ret ?_
     exact LeQ.of (.inr ⟨rfl,(255:Int),(someb hF).symm,(FnQ.f0 0 (.inr rfl))⟩)
    ·obtain ⟨v19,h20,hF⟩:=bindb hF
     refine AWP.seq ?_
     refine AWP.mid (fun e st H=>e=.normal∧st=[(9,(vb v19))]∧H=[]) ?_ ?_
     ·clear hF
      have hF:=h20
      refine .seq (.rg0 [] [(3,(i64 a0)),(9,(vb (a0 == (3:Int))))] ?_)
      refine AWP.cif hF (fun h21 hF=>?_) (fun h21 hF=>?_)
      ·refine AWP.skip ?_
       refine LeQ.start ?_
       refine LeQ.pk [9] 0 ?_
       have hr:=someb hF
       subst hr
       exact ⟨rfl,by kernel_rfl,by kernel_rfl⟩
      ·refine AWP.rg0 [] [(9,(vb (a0 == (4:Int))))] ?_
       refine LeQ.start ?_
       refine LeQ.pk [9] 0 ?_
       have hr:=someb hF
       subst hr
       exact ⟨rfl,by kernel_rfl,by kernel_rfl⟩
     ·rintro _ _ _ ⟨rfl,rfl,rfl⟩
      refine AWP.cif hF (fun h22 hF=>?_) (fun h22 hF=>?_)
      ·refine .seq (.rg0 [] [(2,(u32 (65535:Int)))] ?_)
       refine AWP.ret ?_
       exact LeQ.of (.inr ⟨rfl,(65535:Int),(someb hF).symm,(FnQ.f0 0 (.inr rfl))⟩)
      ·refine AWP.skip ?_
       refine LeQ.start ?_
       refine LeQ.pk [] 0 ?_
       exact (.inl ⟨rfl,(someb hF).symm,by kernel_rfl,by kernel_rfl⟩)
 ·rintro _ _ _ (⟨rfl,rfl,rfl,rfl⟩ | ⟨rfl,r25,rfl,hq⟩)
  ·refine .seq (.rg0 [] [(2,(u32 (0:Int)))] ?_)
   refine AWP.ret ?_
   have hr:=someb hF
   subst hr
   exact (FnQ.f0 0 (.inr rfl))
  ·have hr:=someb hF
   subst hr
   exact hq
def Zkl (r:(Arr5 api_Range)):PV→List Blk→Prop:=fun p K=>p=(Zl r)∧K=[]
theorem Zig (r:(Arr5 api_Range)) (hF:Zfe=some r):ACall Tryz.prog glob 47 [] [] (Zkl r):=by
 refine ACall.body Tryz.func47 rfl (by kernel_rfl) ?_
 unfold Zfe at hF
 refine .seq (.rg [] [(0,(.ptr 0 0))] [.cells (Za Zj)] ?_)
 refine .seq (.rg [] [(0,(.ptr 0 0)),(1,(.ptr 1 0))] [.cells (Za Zj),.cells (Za Zj)] ?_)
 refine AWP.seq ?_
 refine .seq (.rg0 [] [(0,(.ptr 0 0)),(1,(.ptr 1 0)),(2,(i64 (0:Int)))] ?_)
 obtain ⟨v16,h17,hF⟩:=bindb hF
 refine AWP.mid (fun e st H=>e=.normal∧st=[(0,(.ptr 0 0)),(1,(.ptr 1 0))]∧H=[.cells (Za Zj),.cells (Za v16)]) ?_ ?_
 ·clear hF
  refine AWP.kp [0,1,2] 2 ?_
  refine AWP.bround (fun n st H=>∃ (v8:(Arr5 api_Range)),∃ (v9:Int),Zfa n v8 v9=some v16∧st=[(0,(.ptr 0 0)),(1,(.ptr 1 0)),(2,(i64 v9))]∧H=[.cells (Za Zj),.cells (Za v8)]) fuel ⟨Zj,(0:Int),h17,by kernel_rfl,by kernel_rfl⟩ ?_
  rintro n18 st H ⟨v8,v9,hF,rfl,rfl⟩
  cases n18 with
  | zero=>exact noneb hF
  | succ n18=>
   rw [Zfa] at hF
   refine AWP.seq ?_
   refine .seq (.rg0 [] [(0,(.ptr 0 0)),(1,(.ptr 1 0)),(2,(i64 v9)),(4,(vb (decide (v9<(5:Int)))))] ?_)
   refine AWP.cif hF (fun h24 hF=>?_) (fun h24 hF=>?_)
   ·refine AWP.skip ?_
    refine AWP.seq ?_
    refine AWP.block ?_
    obtain ⟨r19,h20,hF⟩:=bindb hF
    obtain ⟨h21,hF⟩:=chkb hF
    refine AWP.rg [(2,.call Tryz.func43 [] (Zge v9 r19 h20)),(3,.ixd h21),(5,.stA (fun q23=>Za (Arr5.set v8 q23 ({ (Arr5.get v8 q23) with Hi:=r19 }:api_Range))) 0 2 1 h21)] [(0,(.ptr 0 0)),(1,(.ptr 1 0)),(2,(i64 v9))] [.cells (Za Zj),.cells (Za (Arr5.set v8 v9 ({ (Arr5.get v8 v9) with Hi:=r19 }:api_Range)))] ?_
    refine AWP.rg0 [] [(0,(.ptr 0 0)),(1,(.ptr 1 0)),(2,(i64 (IntKind.wrap .i64 (v9 + (1:Int)))))] ?_
    refine LeQ.start ?_
    refine LeQ.pk [0,1,2] 2 ?_
    exact ⟨n18,Nat.lt_succ_self _,(Arr5.set v8 v9 ({ (Arr5.get v8 v9) with Hi:=r19 }:api_Range)),(IntKind.wrap .i64 (v9 + (1:Int))),hF,by kernel_rfl,by kernel_rfl⟩
   ·refine AWP.exit ?_
    refine LeQ.start ?_
    refine LeQ.pk [0,1] 2 ?_
    have hr:=someb hF
    subst hr
    exact ⟨rfl,by kernel_rfl,by kernel_rfl⟩
 ·rintro _ _ _ ⟨rfl,rfl,rfl⟩
  refine .seq (.rg [] [(0,(.ptr 0 0))] [.cells (Za v16),.cells (Za v16)] ?_)
  refine AWP.ret ?_
  have hr:=someb hF
  subst hr
  exact (FnQ.f0 0 (.inr rfl))
def Ziq (r:(Int × nsggen_Tape)):PV→List Blk→Prop:=fun p K=>p=(u32 r.1)∧K=[.cells (Zd r.2)]
theorem Zel (a0:nsggen_Tape) (a1:Int) (r:(Int × nsggen_Tape)) (hF:Zbv a0 a1=some r):ACall Tryz.prog glob 46 [(.ptr 0 0),(u32 a1)] [.cells (Zd a0)] (Ziq r):=by
 refine ACall.body Tryz.func46 rfl (by kernel_rfl) ?_
 unfold Zbv at hF
 refine .seq (.rg0 [] [(0,(.ptr 0 0)),(1,(u32 a1))] ?_)
 refine AWP.seq ?_
 obtain ⟨r1,h2,hF⟩:=bindb hF
 obtain ⟨x3,h4,hF⟩:=bindb hF
 refine AWP.rg [(7,.call Tryz.func32 [] (Zs a0 (17:Int) r1 h2)),(8,.idx Zfz h4)] [(1,(u32 a1)),(5,(u32 x3))] [.cells (Zd r1.2)] ?_
 refine .seq (.rg0 [] [(4,(u32 (iMin x3 a1)))] ?_)
 refine AWP.ret ?_
 have hr:=someb hF
 subst hr
 exact (FnQ.f0 1 (.inr rfl))
def Zka (r:api_Prefix):PV→List Blk→Prop:=fun p K=>p=(Zhe r)∧K=[]
theorem Zgt (a0:Int) (r:api_Prefix) (hF:Zdi a0=some r):ACall Tryz.prog glob 88 [(i64 a0)] [] (Zka r):=by
 refine ACall.body Tryz.func88 rfl (by kernel_rfl) ?_
 unfold Zdi at hF
 refine .seq (.rg [] [(0,(i64 a0)),(2,(.ptr 0 0))] [.cells (Zb7 Zkz)] ?_)
 refine AWP.seq ?_
 obtain ⟨r1,h2,hF⟩:=bindb hF
 obtain ⟨x3,h4,hF⟩:=bindb hF
 refine AWP.rg [(8,.call Tryz.func86 [] (Zi4 a0 (6:Int) r1 h2)),(9,.idx Zb7 h4)] [(2,(.ptr 0 0))] [.cells (Zb7 x3)] ?_
 refine AWP.ret ?_
 have hr:=someb hF
 subst hr
 exact (FnQ.f0 0 (.inr rfl))
def Zkm (r:Int):PV→List Blk→Prop:=fun p K=>p=(u64 r)∧K=[]
theorem Zih (a0:Int) (r:Int) (hF:Zf0 a0=some r):ACall Tryz.prog glob 127 [(i64 a0)] [] (Zkm r):=by
 refine ACall.body Tryz.func127 rfl (by kernel_rfl) ?_
 unfold Zf0 at hF
 refine .seq (.rg0 [] [(0,(i64 a0))] ?_)
 refine AWP.seq ?_
 obtain ⟨h1,hF⟩:=chkb hF
 refine AWP.rg0 [(3,.sh h1)] [(2,(u64 (bShl .u64 (1:Int) (IntKind.wrap .u64 (IntKind.wrap .i64 ((32:Int) - a0))))))] ?_
 refine AWP.ret ?_
 have hr:=someb hF
 subst hr
 exact (FnQ.f0 0 (.inr rfl))
def Zkb (r:Bool):PV→List Blk→Prop:=fun p K=>p=(vb r)∧K=[]
theorem Zkc (a0:api_Prefix) (r:Bool) (hF:Zgs a0=some r):ACall Tryz.prog glob 126 [(Zhe a0)] [] (Zkb r):=by
 refine ACall.body Tryz.func126 rfl (by kernel_rfl) ?_
 unfold Zgs at hF
 refine .seq (.rg [] [(1,(.ptr 0 0))] [.cells (Zb7 a0)] ?_)
 refine AWP.seq ?_
 obtain ⟨b1,h2,hF⟩:=bindb hF
 replace h2:=someb h2
 obtain ⟨b3,h4,hF⟩:=bindb hF
 replace h4:=someb h4
 obtain ⟨v8,h9,hF⟩:=bindb hF
 refine AWP.to [(2,(vb v8))] [.cells (Zb7 a0)] ?_ ?_
 ·cases b1 with
  | false=>
   subst h4
   have h10:=someb (ifF h9 rfl)
   subst h10
   exact AWP.drT [(3,.bool h2)] 18 [] [] []
  | true=>
   cases b3 with
   | false=>
    have h11:=someb (ifF h9 rfl)
    subst h11
    exact AWP.drT [(3,.bool h2),(8,.bool h4)] 18 [] [] []
   | true=>
    have h12:=ifT h9 rfl
    obtain ⟨r5,h6,h12⟩:=bindb h12
    obtain ⟨h7,h12⟩:=chkb h12
    replace h12:=someb h12
    subst h12
    exact AWP.drT [(3,.bool h2),(8,.bool h4),(14,.call Tryz.func127 [] (Zih a0.Bits r5 h6)),(15,.rem h7)] 18 [] [] []
 refine AWP.ret ?_
 have hr:=someb hF
 subst hr
 exact (FnQ.f0 0 (.inr rfl))
def Zk3 (r:(api_Range × Bool)):PV→List Blk→Prop:=fun p K=>p=(.tup [(Zhm r.1),(vb r.2)])∧K=[]
theorem Zhn (a0:api_Prefix) (r:(api_Range × Bool)) (hF:Zff a0=some r):ACall Tryz.prog glob 87 [(Zhe a0)] [] (Zk3 r):=by
 refine ACall.body Tryz.func87 rfl (by kernel_rfl) ?_
 unfold Zff at hF
 refine .seq (.rg [] [(1,(.ptr 0 0)),(2,(.ptr 1 0))] [.cells (Zb7 a0),.cells (Zf Zi)] ?_)
 refine AWP.seq ?_
 refine AWP.seq ?_
 obtain ⟨r1,h2,hF⟩:=bindb hF
 refine AWP.rg0 [(1,.call Tryz.func126 [] (Zkc a0 r1 h2))] [(1,(.ptr 0 0)),(2,(.ptr 1 0)),(6,(vb (!r1)))] ?_
 refine AWP.cif hF (fun h5 hF=>?_) (fun h5 hF=>?_)
 ·refine .seq (.rg [] [(2,(.ptr 1 0)),(3,(vb false))] [.cells (Zb7 a0),.cells (Zf (api_Range.mk (0:Int) (0:Int)))] ?_)
  refine AWP.ret ?_
  have hr:=someb hF
  subst hr
  exact (FnQ.f0 0 (.inr rfl))
 ·refine AWP.skip ?_
  refine AWP.seq ?_
  obtain ⟨r3,h4,hF⟩:=bindb hF
  refine AWP.dr [(7,.call Tryz.func127 [] (Zih a0.Bits r3 h4))] 12 [] [] [] [(2,(.ptr 1 0)),(3,(vb true))] [.cells (Zb7 a0),.cells (Zf (api_Range.mk a0.Addr (IntKind.wrap .u32 (IntKind.wrap .u64 ((IntKind.wrap .u64 ((IntKind.wrap .u64 a0.Addr) + r3)) - (1:Int))))))] ?_
  refine AWP.ret ?_
  have hr:=someb hF
  subst hr
  exact (FnQ.f0 0 (.inr rfl))
def Zi6 (r:(api_Move × nsggen_Tape)):PV→List Blk→Prop:=fun p K=>p=(Zf9 r.1)∧K=[.cells (Zd r.2)]
theorem Zi7 (a0:nsggen_Tape) (r:(api_Move × nsggen_Tape)) (hF:Zd1 a0=some r):ACall Tryz.prog glob 33 [(.ptr 0 0)] [.cells (Zd a0)] (Zi6 r):=by
 refine ACall.body Tryz.func33 rfl (by kernel_rfl) ?_
 unfold Zd1 at hF
 refine .seq (.rg [] [(0,(.ptr 0 0)),(2,(.ptr 1 0))] [.cells (Zd a0),.cells (Ze Zc8)] ?_)
 refine AWP.seq ?_
 obtain ⟨r1,h2,hF⟩:=bindb hF
 refine AWP.rg [(0,.call Tryz.func47 [] (Zig r1 h2))] [(0,(.ptr 0 0)),(2,(.ptr 1 0)),(3,(.ptr 2 0))] [.cells (Zd a0),.cells (Ze Zc8),.cells (Za r1)] ?_
 refine AWP.seq ?_
 obtain ⟨r3,h4,hF⟩:=bindb hF
 obtain ⟨x5,h6,hF⟩:=bindb hF
 refine AWP.rg [(2,.call Tryz.func32 [] (Zs a0 (2:Int) r3 h4)),(3,.idx Zfz h6)] [(0,(.ptr 0 0)),(2,(.ptr 1 0)),(3,(.ptr 2 0)),(4,(u32 x5))] [.cells (Zd r3.2),.cells (Ze Zc8),.cells (Za r1)] ?_
 refine .seq (.rg [] [(0,(.ptr 0 0)),(2,(.ptr 1 0)),(3,(.ptr 2 0))] [.cells (Zd r3.2),.cells (Ze Zc8),.cells (Za ({ r1 with x2:=(api_Range.mk x5 x5) }:(Arr5 api_Range)))] ?_)
 refine AWP.seq ?_
 obtain ⟨r7,h8,hF⟩:=bindb hF
 obtain ⟨x9,h10,hF⟩:=bindb hF
 obtain ⟨r11,h12,hF⟩:=bindb hF
 refine AWP.dr [(2,.call Tryz.func32 [] (Zs r3.2 (2:Int) r7 h8)),(3,.idx Zfz h10),(6,.call Tryz.func46 [] (Zel r7.2 (65000:Int) r11 h12))] 8 [] [2,6] [] [(0,(.ptr 0 0)),(2,(.ptr 1 0)),(3,(.ptr 2 0)),(5,(u32 x9)),(6,(u32 r11.1))] [.cells (Zd r11.2),.cells (Ze Zc8),.cells (Za ({ r1 with x2:=(api_Range.mk x5 x5) }:(Arr5 api_Range)))] ?_
 refine AWP.seq ?_
 obtain ⟨r13,h14,hF⟩:=bindb hF
 obtain ⟨r15,h16,hF⟩:=bindb hF
 refine AWP.rg [(1,.call Tryz.func32 [] (Zs r11.2 (3:Int) r13 h14)),(4,.call Tryz.func32 [] (Zs r13.2 (4:Int) r15 h16))] [(0,(.ptr 0 0)),(2,(.ptr 1 0)),(3,(.ptr 2 0)),(5,(u32 x9)),(6,(u32 r11.1)),(7,(u32 (IntKind.wrap .u32 r13.1))),(8,(u32 (IntKind.wrap .u32 r15.1)))] [.cells (Zd r15.2),.cells (Ze Zc8),.cells (Za ({ r1 with x2:=(api_Range.mk x5 x5) }:(Arr5 api_Range)))] ?_
 refine .seq (.rg0 [] [(0,(.ptr 0 0)),(2,(.ptr 1 0)),(3,(.ptr 2 0)),(5,(u32 x9)),(6,(u32 r11.1)),(7,(u32 (IntKind.wrap .u32 r13.1))),(8,(u32 (iMin (IntKind.wrap .u32 r15.1) (IntKind.wrap .u32 ((65535:Int) - r11.1)))))] ?_)
 refine .seq (.rg [] [(0,(.ptr 0 0)),(2,(.ptr 1 0)),(3,(.ptr 2 0)),(7,(u32 (IntKind.wrap .u32 r13.1))),(8,(u32 (iMin (IntKind.wrap .u32 r15.1) (IntKind.wrap .u32 ((65535:Int) - r11.1)))))] [.cells (Zd r15.2),.cells (Ze Zc8),.cells (Za ({ ({ ({ r1 with x2:=(api_Range.mk x5 x5) }:(Arr5 api_Range)) with x1:=(api_Range.mk x9 (IntKind.wrap .u32 (x9 + (IntKind.wrap .u32 r13.1)))) }:(Arr5 api_Range)) with x4:=(api_Range.mk r11.1 (IntKind.wrap .u32 (r11.1 + (iMin (IntKind.wrap .u32 r15.1) (IntKind.wrap .u32 ((65535:Int) - r11.1)))))) }:(Arr5 api_Range)))] ?_)
 refine .seq (.rg [] [(0,(.ptr 0 0)),(2,(.ptr 1 0)),(3,(.ptr 2 0)),(7,(u32 (IntKind.wrap .u32 r13.1))),(8,(u32 (iMin (IntKind.wrap .u32 r15.1) (IntKind.wrap .u32 ((65535:Int) - r11.1))))),(9,(.ptr 3 0))] [.cells (Zd r15.2),.cells (Ze Zc8),.cells (Za ({ ({ ({ r1 with x2:=(api_Range.mk x5 x5) }:(Arr5 api_Range)) with x1:=(api_Range.mk x9 (IntKind.wrap .u32 (x9 + (IntKind.wrap .u32 r13.1)))) }:(Arr5 api_Range)) with x4:=(api_Range.mk r11.1 (IntKind.wrap .u32 (r11.1 + (iMin (IntKind.wrap .u32 r15.1) (IntKind.wrap .u32 ((65535:Int) - r11.1)))))) }:(Arr5 api_Range))),.cells (Za ({ ({ ({ r1 with x2:=(api_Range.mk x5 x5) }:(Arr5 api_Range)) with x1:=(api_Range.mk x9 (IntKind.wrap .u32 (x9 + (IntKind.wrap .u32 r13.1)))) }:(Arr5 api_Range)) with x4:=(api_Range.mk r11.1 (IntKind.wrap .u32 (r11.1 + (iMin (IntKind.wrap .u32 r15.1) (IntKind.wrap .u32 ((65535:Int) - r11.1)))))) }:(Arr5 api_Range)))] ?_)
 refine AWP.seq ?_
 obtain ⟨r17,h18,hF⟩:=bindb hF
 obtain ⟨r19,h20,hF⟩:=bindb hF
 obtain ⟨r21,h22,hF⟩:=bindb hF
 refine AWP.rg [(1,.call Tryz.func32 [] (Zs r15.2 (5:Int) r17 h18)),(2,.call Tryz.func88 [] (Zgt r17.1 r19 h20)),(3,.call Tryz.func87 [] (Zhn r19 r21 h22))] [(0,(.ptr 0 0)),(2,(.ptr 1 0)),(3,(.ptr 2 0)),(7,(u32 (IntKind.wrap .u32 r13.1))),(8,(u32 (iMin (IntKind.wrap .u32 r15.1) (IntKind.wrap .u32 ((65535:Int) - r11.1))))),(9,(.ptr 3 0)),(10,(.ptr 4 0))] [.cells (Zd r17.2),.cells (Ze Zc8),.cells (Za ({ ({ ({ r1 with x2:=(api_Range.mk x5 x5) }:(Arr5 api_Range)) with x1:=(api_Range.mk x9 (IntKind.wrap .u32 (x9 + (IntKind.wrap .u32 r13.1)))) }:(Arr5 api_Range)) with x4:=(api_Range.mk r11.1 (IntKind.wrap .u32 (r11.1 + (iMin (IntKind.wrap .u32 r15.1) (IntKind.wrap .u32 ((65535:Int) - r11.1)))))) }:(Arr5 api_Range))),.cells (Za ({ ({ ({ r1 with x2:=(api_Range.mk x5 x5) }:(Arr5 api_Range)) with x1:=(api_Range.mk x9 (IntKind.wrap .u32 (x9 + (IntKind.wrap .u32 r13.1)))) }:(Arr5 api_Range)) with x4:=(api_Range.mk r11.1 (IntKind.wrap .u32 (r11.1 + (iMin (IntKind.wrap .u32 r15.1) (IntKind.wrap .u32 ((65535:Int) - r11.1)))))) }:(Arr5 api_Range))),.cells (Zf r21.1)] ?_
 refine AWP.seq ?_
 obtain ⟨r23,h24,hF⟩:=bindb hF
 refine AWP.rg [(1,.call Tryz.func46 [] (Zel r17.2 (65000:Int) r23 h24))] [(2,(.ptr 1 0)),(3,(.ptr 2 0)),(6,(u32 r23.1)),(7,(u32 (IntKind.wrap .u32 r13.1))),(8,(u32 (iMin (IntKind.wrap .u32 r15.1) (IntKind.wrap .u32 ((65535:Int) - r11.1))))),(9,(.ptr 3 0)),(10,(.ptr 4 0))] [.cells (Zd r23.2),.cells (Ze Zc8),.cells (Za ({ ({ ({ r1 with x2:=(api_Range.mk x5 x5) }:(Arr5 api_Range)) with x1:=(api_Range.mk x9 (IntKind.wrap .u32 (x9 + (IntKind.wrap .u32 r13.1)))) }:(Arr5 api_Range)) with x4:=(api_Range.mk r11.1 (IntKind.wrap .u32 (r11.1 + (iMin (IntKind.wrap .u32 r15.1) (IntKind.wrap .u32 ((65535:Int) - r11.1)))))) }:(Arr5 api_Range))),.cells (Za ({ ({ ({ r1 with x2:=(api_Range.mk x5 x5) }:(Arr5 api_Range)) with x1:=(api_Range.mk x9 (IntKind.wrap .u32 (x9 + (IntKind.wrap .u32 r13.1)))) }:(Arr5 api_Range)) with x4:=(api_Range.mk r11.1 (IntKind.wrap .u32 (r11.1 + (iMin (IntKind.wrap .u32 r15.1) (IntKind.wrap .u32 ((65535:Int) - r11.1)))))) }:(Arr5 api_Range))),.cells (Zf r21.1)] ?_
 refine .seq (.rg0 [] [(2,(.ptr 1 0)),(3,(.ptr 2 0)),(6,(u32 (iMin r23.1 (IntKind.wrap .u32 ((65535:Int) - (iMin (IntKind.wrap .u32 r15.1) (IntKind.wrap .u32 ((65535:Int) - r11.1)))))))),(7,(u32 (IntKind.wrap .u32 r13.1))),(8,(u32 (iMin (IntKind.wrap .u32 r15.1) (IntKind.wrap .u32 ((65535:Int) - r11.1))))),(9,(.ptr 3 0)),(10,(.ptr 4 0))] ?_)
 refine .seq (.rg [] [(2,(.ptr 1 0)),(3,(.ptr 2 0)),(9,(.ptr 3 0))] [.cells (Zd r23.2),.cells (Ze Zc8),.cells (Za ({ ({ ({ r1 with x2:=(api_Range.mk x5 x5) }:(Arr5 api_Range)) with x1:=(api_Range.mk x9 (IntKind.wrap .u32 (x9 + (IntKind.wrap .u32 r13.1)))) }:(Arr5 api_Range)) with x4:=(api_Range.mk r11.1 (IntKind.wrap .u32 (r11.1 + (iMin (IntKind.wrap .u32 r15.1) (IntKind.wrap .u32 ((65535:Int) - r11.1)))))) }:(Arr5 api_Range))),.cells (Za ({ ({ ({ ({ ({ r1 with x2:=(api_Range.mk x5 x5) }:(Arr5 api_Range)) with x1:=(api_Range.mk x9 (IntKind.wrap .u32 (x9 + (IntKind.wrap .u32 r13.1)))) }:(Arr5 api_Range)) with x4:=(api_Range.mk r11.1 (IntKind.wrap .u32 (r11.1 + (iMin (IntKind.wrap .u32 r15.1) (IntKind.wrap .u32 ((65535:Int) - r11.1)))))) }:(Arr5 api_Range)) with x1:=(api_Range.mk r21.1.Lo (IntKind.wrap .u32 (r21.1.Lo + (IntKind.wrap .u32 r13.1)))) }:(Arr5 api_Range)) with x4:=(api_Range.mk (iMin r23.1 (IntKind.wrap .u32 ((65535:Int) - (iMin (IntKind.wrap .u32 r15.1) (IntKind.wrap .u32 ((65535:Int) - r11.1)))))) (IntKind.wrap .u32 ((iMin r23.1 (IntKind.wrap .u32 ((65535:Int) - (iMin (IntKind.wrap .u32 r15.1) (IntKind.wrap .u32 ((65535:Int) - r11.1)))))) + (iMin (IntKind.wrap .u32 r15.1) (IntKind.wrap .u32 ((65535:Int) - r11.1)))))) }:(Arr5 api_Range))),.cells (Zf r21.1)] ?_)
 refine .seq (.rg [] [(2,(.ptr 1 0))] [.cells (Zd r23.2),.cells (Ze (api_Move.mk ({ ({ ({ r1 with x2:=(api_Range.mk x5 x5) }:(Arr5 api_Range)) with x1:=(api_Range.mk x9 (IntKind.wrap .u32 (x9 + (IntKind.wrap .u32 r13.1)))) }:(Arr5 api_Range)) with x4:=(api_Range.mk r11.1 (IntKind.wrap .u32 (r11.1 + (iMin (IntKind.wrap .u32 r15.1) (IntKind.wrap .u32 ((65535:Int) - r11.1)))))) }:(Arr5 api_Range)) ({ ({ ({ ({ ({ r1 with x2:=(api_Range.mk x5 x5) }:(Arr5 api_Range)) with x1:=(api_Range.mk x9 (IntKind.wrap .u32 (x9 + (IntKind.wrap .u32 r13.1)))) }:(Arr5 api_Range)) with x4:=(api_Range.mk r11.1 (IntKind.wrap .u32 (r11.1 + (iMin (IntKind.wrap .u32 r15.1) (IntKind.wrap .u32 ((65535:Int) - r11.1)))))) }:(Arr5 api_Range)) with x1:=(api_Range.mk r21.1.Lo (IntKind.wrap .u32 (r21.1.Lo + (IntKind.wrap .u32 r13.1)))) }:(Arr5 api_Range)) with x4:=(api_Range.mk (iMin r23.1 (IntKind.wrap .u32 ((65535:Int) - (iMin (IntKind.wrap .u32 r15.1) (IntKind.wrap .u32 ((65535:Int) - r11.1)))))) (IntKind.wrap .u32 ((iMin r23.1 (IntKind.wrap .u32 ((65535:Int) - (iMin (IntKind.wrap .u32 r15.1) (IntKind.wrap .u32 ((65535:Int) - r11.1)))))) + (iMin (IntKind.wrap .u32 r15.1) (IntKind.wrap .u32 ((65535:Int) - r11.1)))))) }:(Arr5 api_Range)))),.cells (Za ({ ({ ({ r1 with x2:=(api_Range.mk x5 x5) }:(Arr5 api_Range)) with x1:=(api_Range.mk x9 (IntKind.wrap .u32 (x9 + (IntKind.wrap .u32 r13.1)))) }:(Arr5 api_Range)) with x4:=(api_Range.mk r11.1 (IntKind.wrap .u32 (r11.1 + (iMin (IntKind.wrap .u32 r15.1) (IntKind.wrap .u32 ((65535:Int) - r11.1)))))) }:(Arr5 api_Range))),.cells (Za ({ ({ ({ ({ ({ r1 with x2:=(api_Range.mk x5 x5) }:(Arr5 api_Range)) with x1:=(api_Range.mk x9 (IntKind.wrap .u32 (x9 + (IntKind.wrap .u32 r13.1)))) }:(Arr5 api_Range)) with x4:=(api_Range.mk r11.1 (IntKind.wrap .u32 (r11.1 + (iMin (IntKind.wrap .u32 r15.1) (IntKind.wrap .u32 ((65535:Int) - r11.1)))))) }:(Arr5 api_Range)) with x1:=(api_Range.mk r21.1.Lo (IntKind.wrap .u32 (r21.1.Lo + (IntKind.wrap .u32 r13.1)))) }:(Arr5 api_Range)) with x4:=(api_Range.mk (iMin r23.1 (IntKind.wrap .u32 ((65535:Int) - (iMin (IntKind.wrap .u32 r15.1) (IntKind.wrap .u32 ((65535:Int) - r11.1)))))) (IntKind.wrap .u32 ((iMin r23.1 (IntKind.wrap .u32 ((65535:Int) - (iMin (IntKind.wrap .u32 r15.1) (IntKind.wrap .u32 ((65535:Int) - r11.1)))))) + (iMin (IntKind.wrap .u32 r15.1) (IntKind.wrap .u32 ((65535:Int) - r11.1)))))) }:(Arr5 api_Range))),.cells (Zf r21.1)] ?_)
 refine AWP.ret ?_
 have hr:=someb hF
 subst hr
 exact (FnQ.f0 1 (.inr rfl))
def Zh8 (r:((Arr5 api_Range) × nsggen_Tape)):PV→List Blk→Prop:=fun p K=>p=(Zl r.1)∧K=[.cells (Zd r.2)]
theorem Zga (a0:nsggen_Tape) (a1:(Arr5 api_Range)) (r:((Arr5 api_Range) × nsggen_Tape)) (hF:Zch a0 a1=some r):ACall Tryz.prog glob 34 [(.ptr 0 0),(Zl a1)] [.cells (Zd a0)] (Zh8 r):=by
 refine ACall.body Tryz.func34 rfl (by kernel_rfl) ?_
 unfold Zch at hF
 refine .seq (.rg [] [(0,(.ptr 0 0)),(3,(.ptr 1 0)),(4,(.ptr 2 0))] [.cells (Zd a0),.cells (Za a1),.cells (Za Zj)] ?_)
 refine AWP.seq ?_
 obtain ⟨r1,h2,hF⟩:=bindb hF
 refine AWP.rg [(1,.call Tryz.func32 [] (Zs a0 (5:Int) r1 h2))] [(0,(.ptr 0 0)),(3,(.ptr 1 0)),(4,(.ptr 2 0)),(5,(i64 r1.1))] [.cells (Zd r1.2),.cells (Za a1),.cells (Za Zj)] ?_
 obtain ⟨o27,h28,hF⟩:=bindb hF
 refine AWP.seq ?_
 refine AWP.mid (fun e st H=>(e=.normal∧∃ (v25:nsggen_Tape),∃ (v26:(Arr5 api_Range)),o27=(v25,v26)∧st=[(3,(.ptr 1 0)),(4,(.ptr 2 0))]∧H=[.cells (Zd v25),.cells (Za v26),.cells (Za Zj)])) ?_ ?_
 ·clear hF
  have hF:=h28
  refine AWP.seq ?_
  obtain ⟨r29,h30,hF⟩:=bindb hF
  refine AWP.rg [(1,.call Tryz.func32 [] (Zs r1.2 (3:Int) r29 h30))] [(3,(.ptr 1 0)),(4,(.ptr 2 0)),(5,(i64 r1.1)),(9,(i64 r29.1))] [.cells (Zd r29.2),.cells (Za a1),.cells (Za Zj)] ?_
  refine AWP.block ?_
  refine .seq (.rg0 [] [(3,(.ptr 1 0)),(4,(.ptr 2 0)),(5,(i64 r1.1)),(9,(i64 r29.1)),(13,(vb (r29.1 == (0:Int))))] ?_)
  refine AWP.cif hF (fun h50 hF=>?_) (fun h50 hF=>?_)
  ·obtain ⟨h31,hF⟩:=chkb hF
   obtain ⟨h32,hF⟩:=chkb hF
   obtain ⟨h33,hF⟩:=chkb hF
   obtain ⟨h35,hF⟩:=chkb hF
   refine AWP.dr [(3,.ixd h31),(5,.ldA Zf (Arr5.get a1) 0 2 1 h31),(7,.ixd h32),(9,.ldA Zf (Arr5.get a1) 0 2 0 h32),(10,.ixd h33),(12,.stA (fun q39=>Za (Arr5.set a1 q39 ({ (Arr5.get a1 q39) with Lo:=(Arr5.get a1 r1.1).Hi }:api_Range))) 0 2 0 h33),(13,.ixd h35),(15,.stA (fun q40=>Za (Arr5.set (Arr5.set a1 r1.1 ({ (Arr5.get a1 r1.1) with Lo:=(Arr5.get a1 r1.1).Hi }:api_Range)) q40 ({ (Arr5.get (Arr5.set a1 r1.1 ({ (Arr5.get a1 r1.1) with Lo:=(Arr5.get a1 r1.1).Hi }:api_Range)) q40) with Hi:=(Arr5.get a1 r1.1).Lo }:api_Range))) 0 2 1 h35)] 13 [] [12] [] [(3,(.ptr 1 0)),(4,(.ptr 2 0))] [.cells (Zd r29.2),.cells (Za (Arr5.set (Arr5.set a1 r1.1 ({ (Arr5.get a1 r1.1) with Lo:=(Arr5.get a1 r1.1).Hi }:api_Range)) r1.1 ({ (Arr5.get (Arr5.set a1 r1.1 ({ (Arr5.get a1 r1.1) with Lo:=(Arr5.get a1 r1.1).Hi }:api_Range)) r1.1) with Hi:=(Arr5.get a1 r1.1).Lo }:api_Range))),.cells (Za Zj)] ?_
   refine LeQ.start ?_
   refine LeQ.pk [3,4] 3 ?_
   exact ⟨rfl,r29.2,(Arr5.set (Arr5.set a1 r1.1 ({ (Arr5.get a1 r1.1) with Lo:=(Arr5.get a1 r1.1).Hi }:api_Range)) r1.1 ({ (Arr5.get (Arr5.set a1 r1.1 ({ (Arr5.get a1 r1.1) with Lo:=(Arr5.get a1 r1.1).Hi }:api_Range)) r1.1) with Hi:=(Arr5.get a1 r1.1).Lo }:api_Range)),(someb hF).symm,by kernel_rfl,by kernel_rfl⟩
  ·refine .seq (.rg0 [] [(3,(.ptr 1 0)),(4,(.ptr 2 0)),(5,(i64 r1.1)),(29,(vb (r29.1 == (1:Int))))] ?_)
   refine AWP.cif hF (fun h49 hF=>?_) (fun h49 hF=>?_)
   ·obtain ⟨h43,hF⟩:=chkb hF
    refine AWP.rg [(1,.ixd h43),(3,.stA (fun q45=>Za (Arr5.set a1 q45 ({ (Arr5.get a1 q45) with Hi:=(4294967295:Int) }:api_Range))) 0 2 1 h43)] [(3,(.ptr 1 0)),(4,(.ptr 2 0))] [.cells (Zd r29.2),.cells (Za (Arr5.set a1 r1.1 ({ (Arr5.get a1 r1.1) with Hi:=(4294967295:Int) }:api_Range))),.cells (Za Zj)] ?_
    refine LeQ.start ?_
    refine LeQ.pk [3,4] 3 ?_
    exact ⟨rfl,r29.2,(Arr5.set a1 r1.1 ({ (Arr5.get a1 r1.1) with Hi:=(4294967295:Int) }:api_Range)),(someb hF).symm,by kernel_rfl,by kernel_rfl⟩
   ·obtain ⟨h46,hF⟩:=chkb hF
    refine AWP.rg [(2,.ixd h46),(3,.stA (fun q48=>Za (Arr5.set a1 q48 (api_Range.mk (1:Int) (0:Int)))) 0 2 0 h46)] [(3,(.ptr 1 0)),(4,(.ptr 2 0))] [.cells (Zd r29.2),.cells (Za (Arr5.set a1 r1.1 (api_Range.mk (1:Int) (0:Int)))),.cells (Za Zj)] ?_
    refine LeQ.start ?_
    refine LeQ.pk [3,4] 3 ?_
    exact ⟨rfl,r29.2,(Arr5.set a1 r1.1 (api_Range.mk (1:Int) (0:Int))),(someb hF).symm,by kernel_rfl,by kernel_rfl⟩
 ·rintro _ _ _ ⟨rfl,v25,v26,rfl,rfl,rfl⟩
  refine .seq (.rg [] [(4,(.ptr 2 0))] [.cells (Zd v25),.cells (Za v26),.cells (Za v26)] ?_)
  refine AWP.ret ?_
  have hr:=someb hF
  subst hr
  exact (FnQ.f0 1 (.inr rfl))
def Ziv (r:((List api_Move) × nsggen_Tape)):PV→List Blk→Prop:=fun p K=>p=(slc 20 Ze r.1)∧K=[.cells (Zd r.2)]
theorem Ziw (a0:nsggen_Tape) (a1:Int) (a2:Bool) (r:((List api_Move) × nsggen_Tape)) (hF:Zdt a0 a1 a2=some r):ACall Tryz.prog glob 9 [(.ptr 0 0),(i64 a1),(vb a2)] [.cells (Zd a0)] (Ziv r):=by
 refine ACall.body Tryz.func9 rfl (by kernel_rfl) ?_
 unfold Zdt at hF
 refine .seq (.rg0 [] [(0,(.ptr 0 0)),(1,(i64 a1)),(2,(vb a2))] ?_)
 refine .seq (.rg0 [] [(0,(.ptr 0 0)),(1,(i64 a1)),(2,(vb a2)),(7,nils)] ?_)
 refine AWP.own (H':=[.cells (Zd a0),bf 20 72 Ze ([]:(List api_Move)) false]) (st':=[(7,(.own 1 (List.length ([]:(List api_Move))))),(0,(.ptr 0 0)),(1,(i64 a1)),(2,(vb a2))]) 7 20 72 (by kernel_rfl) (by kernel_rfl) (by kernel_rfl) ?_
 refine AWP.pick (st':=[(0,(.ptr 0 0)),(1,(i64 a1)),(2,(vb a2)),(7,(.own 1 (List.length ([]:(List api_Move)))))]) (ks:=[0,1,2,7]) (by kernel_rfl) ?_
 refine AWP.seq ?_
 refine AWP.seq ?_
 obtain ⟨r1,h2,hF⟩:=bindb hF
 refine AWP.rg [(3,.call Tryz.func32 [] (Zs a0 (IntKind.wrap .i64 (a1 + (1:Int))) r1 h2))] [(0,(.ptr 0 0)),(2,(vb a2)),(7,(.own 1 (List.length ([]:(List api_Move))))),(8,(i64 r1.1))] [.cells (Zd r1.2),bf 20 72 Ze ([]:(List api_Move)) false] ?_
 obtain ⟨o223,h224,hF⟩:=bindb hF
 refine AWP.mid (fun e st H=>(e=.normal∧∃ (v221:nsggen_Tape),∃ (v222:(List api_Move)),o223=(v221,v222)∧st=[(7,(.own 1 (List.length v222)))]∧H=[.cells (Zd v221),bf 20 72 Ze v222 false])) ?_ ?_
 ·clear hF
  refine AWP.kp [0,2,7,8] 2 ?_
  refine AWP.bround (fun n st H=>∃ (v111:nsggen_Tape),∃ (v112:(List api_Move)),∃ (v113:Int),Zbk a2 n v111 v112 v113=some o223∧st=[(0,(.ptr 0 0)),(2,(vb a2)),(7,(.own 1 (List.length v112))),(8,(i64 v113))]∧H=[.cells (Zd v111),bf 20 72 Ze v112 false]) fuel ⟨r1.2,([]:(List api_Move)),r1.1,h224,by kernel_rfl,by kernel_rfl⟩ ?_
  rintro n225 st H ⟨v111,v112,v113,hF,rfl,rfl⟩
  cases n225 with
  | zero=>exact noneb hF
  | succ n225=>
   rw [Zbk] at hF
   refine AWP.seq ?_
   refine .seq (.rg0 [] [(0,(.ptr 0 0)),(2,(vb a2)),(7,(.own 1 (List.length v112))),(8,(i64 v113)),(15,(vb (decide (v113 > (0:Int)))))] ?_)
   refine AWP.cif hF (fun h332 hF=>?_) (fun h332 hF=>?_)
   ·refine AWP.skip ?_
    obtain ⟨o279,h280,hF⟩:=bindb hF
    refine AWP.seq ?_
    refine AWP.mid (fun e st H=>(e=.normal∧∃ (v277:nsggen_Tape),∃ (v278:(List api_Move)),o279=(v277,v278)∧st=[(0,(.ptr 0 0)),(2,(vb a2)),(7,(.own 1 (List.length v278))),(8,(i64 v113))]∧H=[.cells (Zd v277),bf 20 72 Ze v278 false])) ?_ ?_
    ·clear hF
     have hF:=h280
     refine AWP.block ?_
     refine AWP.seq ?_
     obtain ⟨r281,h282,hF⟩:=bindb hF
     refine AWP.rg [(1,.call Tryz.func33 [] (Zi7 v111 r281 h282))] [(0,(.ptr 0 0)),(2,(vb a2)),(7,(.own 1 (List.length v112))),(8,(i64 v113)),(9,(.ptr 2 0))] [.cells (Zd r281.2),bf 20 72 Ze v112 false,.cells (Ze r281.1)] ?_
     obtain ⟨o296,h297,hF⟩:=bindb hF
     refine AWP.seq ?_
     refine AWP.mid (fun e st H=>(e=.normal∧∃ (v294:nsggen_Tape),∃ (v295:api_Move),o296=(v294,v295)∧st=[(0,(.ptr 0 0)),(2,(vb a2)),(7,(.own 1 (List.length v112))),(8,(i64 v113)),(9,(.ptr 2 0))]∧H=[.cells (Zd v294),bf 20 72 Ze v112 false,.cells (Ze v295)])) ?_ ?_
     ·clear hF
      have hF:=h297
      refine AWP.seq ?_
      obtain ⟨b298,h299,hF⟩:=bindb hF
      replace h299:=someb h299
      obtain ⟨v302,h303,hF⟩:=bindb hF
      refine AWP.to [(0,(.ptr 0 0)),(2,(vb a2)),(7,(.own 1 (List.length v112))),(8,(i64 v113)),(9,(.ptr 2 0)),(25,(vb v302.1))] [.cells (Zd v302.2),bf 20 72 Ze v112 false,.cells (Ze r281.1)] ?_ ?_
      ·cases b298 with
       | false=>
        have h304:=someb (ifF h303 rfl)
        subst h304
        exact AWP.rgT [(1,.bool h299)]
       | true=>
        have h305:=ifT h303 rfl
        obtain ⟨r300,h301,h305⟩:=bindb h305
        replace h305:=someb h305
        subst h305
        exact AWP.rgT [(1,.bool h299),(3,.call Tryz.func32 [] (Zs r281.2 (6:Int) r300 h301))]
      refine AWP.cif hF (fun h308 hF=>?_) (fun h308 hF=>?_)
      ·obtain ⟨r306,h307,hF⟩:=bindb hF
       refine AWP.rg [(3,.call Tryz.func34 [] (Zga v302.2 r281.1.To r306 h307))] [(0,(.ptr 0 0)),(2,(vb a2)),(7,(.own 1 (List.length v112))),(8,(i64 v113)),(9,(.ptr 2 0))] [.cells (Zd r306.2),bf 20 72 Ze v112 false,.cells (Ze ({ r281.1 with To:=r306.1 }:api_Move))] ?_
       refine LeQ.start ?_
       refine LeQ.pk [0,2,7,8,9] 3 ?_
       exact ⟨rfl,r306.2,({ r281.1 with To:=r306.1 }:api_Move),(someb hF).symm,by kernel_rfl,by kernel_rfl⟩
      ·refine AWP.skip ?_
       refine LeQ.start ?_
       refine LeQ.pk [0,2,7,8,9] 3 ?_
       exact ⟨rfl,v302.2,r281.1,(someb hF).symm,by kernel_rfl,by kernel_rfl⟩
     ·rintro _ _ _ ⟨rfl,v294,v295,rfl,rfl,rfl⟩
      obtain ⟨o320,h321,hF⟩:=bindb hF
      refine AWP.seq ?_
      refine AWP.mid (fun e st H=>(e=.normal∧∃ (v318:nsggen_Tape),∃ (v319:api_Move),o320=(v318,v319)∧st=[(0,(.ptr 0 0)),(2,(vb a2)),(7,(.own 1 (List.length v112))),(8,(i64 v113)),(9,(.ptr 2 0))]∧H=[.cells (Zd v318),bf 20 72 Ze v112 false,.cells (Ze v319)])) ?_ ?_
      ·clear hF
       have hF:=h321
       refine AWP.seq ?_
       obtain ⟨b322,h323,hF⟩:=bindb hF
       replace h323:=someb h323
       obtain ⟨v326,h327,hF⟩:=bindb hF
       refine AWP.to [(0,(.ptr 0 0)),(2,(vb a2)),(7,(.own 1 (List.length v112))),(8,(i64 v113)),(9,(.ptr 2 0)),(36,(vb v326.1))] [.cells (Zd v326.2),bf 20 72 Ze v112 false,.cells (Ze v295)] ?_ ?_
       ·cases b322 with
        | false=>
         have h328:=someb (ifF h327 rfl)
         subst h328
         exact AWP.rgT [(1,.bool h323)]
        | true=>
         have h329:=ifT h327 rfl
         obtain ⟨r324,h325,h329⟩:=bindb h329
         replace h329:=someb h329
         subst h329
         exact AWP.rgT [(1,.bool h323),(3,.call Tryz.func32 [] (Zs v294 (6:Int) r324 h325))]
       refine AWP.cif hF (fun h330 hF=>?_) (fun h330 hF=>?_)
       ·refine AWP.rg [] [(0,(.ptr 0 0)),(2,(vb a2)),(7,(.own 1 (List.length v112))),(8,(i64 v113)),(9,(.ptr 2 0))] [.cells (Zd v326.2),bf 20 72 Ze v112 false,.cells (Ze ({ ({ v295 with From:=v295.To }:api_Move) with To:=v295.From }:api_Move))] ?_
        refine LeQ.start ?_
        refine LeQ.pk [0,2,7,8,9] 3 ?_
        exact ⟨rfl,v326.2,({ ({ v295 with From:=v295.To }:api_Move) with To:=v295.From }:api_Move),(someb hF).symm,by kernel_rfl,by kernel_rfl⟩
       ·refine AWP.skip ?_
        refine LeQ.start ?_
        refine LeQ.pk [0,2,7,8,9] 3 ?_
        exact ⟨rfl,v326.2,v295,(someb hF).symm,by kernel_rfl,by kernel_rfl⟩
      ·rintro _ _ _ ⟨rfl,v318,v319,rfl,rfl,rfl⟩
       obtain ⟨h331,hF⟩:=chkb hF
       refine AWP.rg [(3,.app Ze (fun _=>by kernel_rfl) h331)] [(0,(.ptr 0 0)),(2,(vb a2)),(7,(.own 1 (List.length (v112++[v319])))),(8,(i64 v113))] [.cells (Zd v318),bf 20 72 Ze (v112++[v319]) false,.cells (Ze v319)] ?_
       refine LeQ.start ?_
       refine LeQ.pk [0,2,7,8] 2 ?_
       exact ⟨rfl,v318,(v112++[v319]),(someb hF).symm,by kernel_rfl,by kernel_rfl⟩
    ·rintro _ _ _ ⟨rfl,v277,v278,rfl,rfl,rfl⟩
     refine AWP.rg0 [] [(0,(.ptr 0 0)),(2,(vb a2)),(7,(.own 1 (List.length v278))),(8,(i64 (IntKind.wrap .i64 (v113 - (1:Int)))))] ?_
     refine LeQ.start ?_
     refine LeQ.pk [0,2,7,8] 2 ?_
     exact ⟨n225,Nat.lt_succ_self _,v277,v278,(IntKind.wrap .i64 (v113 - (1:Int))),hF,by kernel_rfl,by kernel_rfl⟩
   ·refine AWP.exit ?_
    refine LeQ.start ?_
    refine LeQ.pk [7] 2 ?_
    exact ⟨rfl,v111,v112,(someb hF).symm,by kernel_rfl,by kernel_rfl⟩
 ·rintro _ _ _ ⟨rfl,v221,v222,rfl,rfl,rfl⟩
  refine .seq (.rg0 [] [(6,(.own 1 (List.length v222)))] ?_)
  refine AWP.ret ?_
  have hr:=someb hF
  subst hr
  exact (FnQ.f1 1 (.inr rfl) (.inl (Wk.ownT (i:=1) (s:=20) (t:=72) (l:=v222) (sh:=false) (row:=Ze) (by kernel_rfl) (.inl rfl))))
def Zi8 (r:(Int × nsggen_Tape)):PV→List Blk→Prop:=fun p K=>p=(u32 r.1)∧K=[.cells (Zd r.2)]
theorem Zfs (a0:nsggen_Tape) (r:(Int × nsggen_Tape)) (hF:Zcs a0=some r):ACall Tryz.prog glob 45 [(.ptr 0 0)] [.cells (Zd a0)] (Zi8 r):=by
 refine ACall.body Tryz.func45 rfl (by kernel_rfl) ?_
 unfold Zcs at hF
 refine .seq (.rg0 [] [(0,(.ptr 0 0))] ?_)
 refine AWP.seq ?_
 refine AWP.seq ?_
 obtain ⟨r1,h2,hF⟩:=bindb hF
 refine AWP.rg [(1,.call Tryz.func32 [] (Zs a0 (5:Int) r1 h2))] [(0,(.ptr 0 0)),(8,(vb (r1.1 == (4:Int))))] [.cells (Zd r1.2)] ?_
 refine AWP.cif hF (fun h17 hF=>?_) (fun h17 hF=>?_)
 ·refine AWP.seq ?_
  obtain ⟨r3,h4,hF⟩:=bindb hF
  obtain ⟨x5,h6,hF⟩:=bindb hF
  refine AWP.rg [(2,.call Tryz.func32 [] (Zs r1.2 (6:Int) r3 h4)),(3,.idx Zfz h6)] [(2,(u32 x5))] [.cells (Zd r3.2)] ?_
  refine AWP.ret ?_
  have hr:=someb hF
  subst hr
  exact (FnQ.f0 1 (.inr rfl))
 ·refine AWP.skip ?_
  refine AWP.seq ?_
  obtain ⟨r7,h8,hF⟩:=bindb hF
  obtain ⟨r9,h10,hF⟩:=bindb hF
  refine AWP.rg [(1,.call Tryz.func32 [] (Zs r1.2 (6:Int) r7 h8)),(2,.call Tryz.func88 [] (Zgt r7.1 r9 h10))] [(0,(.ptr 0 0)),(3,(.ptr 1 0))] [.cells (Zd r7.2),.cells (Zb7 r9)] ?_
  refine AWP.seq ?_
  obtain ⟨r11,h12,hF⟩:=bindb hF
  refine AWP.rg [(1,.call Tryz.func87 [] (Zhn r9 r11 h12))] [(0,(.ptr 0 0)),(4,(.ptr 2 0))] [.cells (Zd r7.2),.cells (Zb7 r9),.cells (Zf r11.1)] ?_
  refine AWP.seq ?_
  obtain ⟨r13,h14,hF⟩:=bindb hF
  obtain ⟨x15,h16,hF⟩:=bindb hF
  refine AWP.dr [(15,.call Tryz.func32 [] (Zs r7.2 (5:Int) r13 h14)),(16,.idx Zfz h16)] 18 [] [15] [] [(2,(u32 x15))] [.cells (Zd r13.2),.cells (Zb7 r9),.cells (Zf r11.1)] ?_
  refine AWP.ret ?_
  have hr:=someb hF
  subst hr
  exact (FnQ.f0 1 (.inr rfl))
def Zhu (r:(api_Range × nsggen_Tape)):PV→List Blk→Prop:=fun p K=>p=(Zhm r.1)∧K=[.cells (Zd r.2)]
theorem Zf3 (a0:nsggen_Tape) (r:(api_Range × nsggen_Tape)) (hF:Zcc a0=some r):ACall Tryz.prog glob 117 [(.ptr 0 0)] [.cells (Zd a0)] (Zhu r):=by
 refine ACall.body Tryz.func117 rfl (by kernel_rfl) ?_
 unfold Zcc at hF
 refine .seq (.rg [] [(0,(.ptr 0 0)),(2,(.ptr 1 0))] [.cells (Zd a0),.cells (Zf Zi)] ?_)
 refine AWP.seq ?_
 refine AWP.seq ?_
 obtain ⟨r1,h2,hF⟩:=bindb hF
 refine AWP.rg [(1,.call Tryz.func32 [] (Zs a0 (4:Int) r1 h2))] [(0,(.ptr 0 0)),(2,(.ptr 1 0)),(9,(i64 r1.1))] [.cells (Zd r1.2),.cells (Zf Zi)] ?_
 refine AWP.block ?_
 refine .seq (.rg0 [] [(0,(.ptr 0 0)),(2,(.ptr 1 0)),(9,(i64 r1.1)),(10,(vb (r1.1 == (0:Int))))] ?_)
 refine AWP.cif hF (fun h17 hF=>?_) (fun h17 hF=>?_)
 ·refine AWP.seq ?_
  obtain ⟨r3,h4,hF⟩:=bindb hF
  obtain ⟨r5,h6,hF⟩:=bindb hF
  obtain ⟨r7,h8,hF⟩:=bindb hF
  refine AWP.rg [(1,.call Tryz.func32 [] (Zs r1.2 (6:Int) r3 h4)),(2,.call Tryz.func88 [] (Zgt r3.1 r5 h6)),(3,.call Tryz.func87 [] (Zhn r5 r7 h8))] [(2,(.ptr 1 0)),(3,(.ptr 2 0))] [.cells (Zd r3.2),.cells (Zf Zi),.cells (Zf r7.1)] ?_
  refine .seq (.rg [] [(2,(.ptr 1 0))] [.cells (Zd r3.2),.cells (Zf r7.1),.cells (Zf r7.1)] ?_)
  refine AWP.ret ?_
  have hr:=someb hF
  subst hr
  exact (FnQ.f0 1 (.inr rfl))
 ·refine .seq (.rg0 [] [(0,(.ptr 0 0)),(2,(.ptr 1 0)),(9,(i64 r1.1)),(20,(vb (r1.1 == (1:Int))))] ?_)
  refine AWP.cif hF (fun h16 hF=>?_) (fun h16 hF=>?_)
  ·refine AWP.seq ?_
   obtain ⟨r9,h10,hF⟩:=bindb hF
   obtain ⟨r11,h12,hF⟩:=bindb hF
   refine AWP.rg [(1,.call Tryz.func45 [] (Zfs r1.2 r9 h10)),(3,.call Tryz.func45 [] (Zfs r9.2 r11 h12))] [(2,(.ptr 1 0)),(5,(u32 r9.1)),(6,(u32 r11.1))] [.cells (Zd r11.2),.cells (Zf Zi)] ?_
   refine .seq (.rg [] [(2,(.ptr 1 0))] [.cells (Zd r11.2),.cells (Zf (api_Range.mk (iMin r9.1 r11.1) (iMax r9.1 r11.1)))] ?_)
   refine AWP.ret ?_
   have hr:=someb hF
   subst hr
   exact (FnQ.f0 1 (.inr rfl))
  ·refine .seq (.rg0 [] [(0,(.ptr 0 0)),(2,(.ptr 1 0)),(33,(vb (r1.1 == (2:Int))))] ?_)
   refine AWP.cif hF (fun h15 hF=>?_) (fun h15 hF=>?_)
   ·refine AWP.seq ?_
    obtain ⟨r13,h14,hF⟩:=bindb hF
    refine AWP.rg [(1,.call Tryz.func45 [] (Zfs r1.2 r13 h14))] [(2,(.ptr 1 0)),(7,(u32 r13.1))] [.cells (Zd r13.2),.cells (Zf Zi)] ?_
    refine .seq (.rg [] [(2,(.ptr 1 0))] [.cells (Zd r13.2),.cells (Zf (api_Range.mk r13.1 r13.1))] ?_)
    refine AWP.ret ?_
    have hr:=someb hF
    subst hr
    exact (FnQ.f0 1 (.inr rfl))
   ·refine AWP.skip ?_
    refine .seq (.rg [] [(2,(.ptr 1 0))] [.cells (Zd r1.2),.cells (Zf (api_Range.mk (0:Int) (4294967295:Int)))] ?_)
    refine AWP.ret ?_
    have hr:=someb hF
    subst hr
    exact (FnQ.f0 1 (.inr rfl))
def Zix (r:(api_Range × nsggen_Tape)):PV→List Blk→Prop:=fun p K=>p=(Zhm r.1)∧K=[.cells (Zd r.2)]
theorem Zg4 (a0:nsggen_Tape) (a1:Int) (r:(api_Range × nsggen_Tape)) (hF:Zc4 a0 a1=some r):ACall Tryz.prog glob 118 [(.ptr 0 0),(u32 a1)] [.cells (Zd a0)] (Zix r):=by
 refine ACall.body Tryz.func118 rfl (by kernel_rfl) ?_
 unfold Zc4 at hF
 refine .seq (.rg [] [(0,(.ptr 0 0)),(1,(u32 a1)),(4,(.ptr 1 0))] [.cells (Zd a0),.cells (Zf Zi)] ?_)
 refine AWP.seq ?_
 obtain ⟨r1,h2,hF⟩:=bindb hF
 obtain ⟨r3,h4,hF⟩:=bindb hF
 refine AWP.rg [(2,.call Tryz.func46 [] (Zel a0 a1 r1 h2)),(5,.call Tryz.func46 [] (Zel r1.2 a1 r3 h4))] [(4,(.ptr 1 0)),(5,(u32 r1.1)),(6,(u32 r3.1))] [.cells (Zd r3.2),.cells (Zf Zi)] ?_
 refine .seq (.rg [] [(4,(.ptr 1 0))] [.cells (Zd r3.2),.cells (Zf (api_Range.mk (iMin r1.1 r3.1) (iMax r1.1 r3.1)))] ?_)
 refine AWP.ret ?_
 have hr:=someb hF
 subst hr
 exact (FnQ.f0 1 (.inr rfl))
def Zjd (r:((Arr5 api_Range) × nsggen_Tape)):PV→List Blk→Prop:=fun p K=>p=(Zl r.1)∧K=[.cells (Zd r.2)]
theorem Zje (a0:nsggen_Tape) (r:((Arr5 api_Range) × nsggen_Tape)) (hF:Zeg a0=some r):ACall Tryz.prog glob 67 [(.ptr 0 0)] [.cells (Zd a0)] (Zjd r):=by
 refine ACall.body Tryz.func67 rfl (by kernel_rfl) ?_
 unfold Zeg at hF
 refine .seq (.rg [] [(0,(.ptr 0 0)),(2,(.ptr 1 0))] [.cells (Zd a0),.cells (Za Zj)] ?_)
 refine AWP.seq ?_
 obtain ⟨r1,h2,hF⟩:=bindb hF
 refine AWP.rg [(0,.call Tryz.func47 [] (Zig r1 h2))] [(0,(.ptr 0 0)),(2,(.ptr 1 0)),(3,(.ptr 2 0))] [.cells (Zd a0),.cells (Za Zj),.cells (Za r1)] ?_
 refine AWP.seq ?_
 refine AWP.seq ?_
 obtain ⟨r3,h4,hF⟩:=bindb hF
 refine AWP.rg [(1,.call Tryz.func32 [] (Zs a0 (3:Int) r3 h4))] [(0,(.ptr 0 0)),(2,(.ptr 1 0)),(3,(.ptr 2 0)),(4,(i64 (IntKind.wrap .i64 ((1:Int) + r3.1))))] [.cells (Zd r3.2),.cells (Za Zj),.cells (Za r1)] ?_
 obtain ⟨o93,h94,hF⟩:=bindb hF
 refine AWP.mid (fun e st H=>(e=.normal∧∃ (v91:nsggen_Tape),∃ (v92:(Arr5 api_Range)),o93=(v91,v92)∧st=[(2,(.ptr 1 0)),(3,(.ptr 2 0))]∧H=[.cells (Zd v91),.cells (Za Zj),.cells (Za v92)])) ?_ ?_
 ·clear hF
  refine AWP.kp [0,2,3,4] 3 ?_
  refine AWP.bround (fun n st H=>∃ (v47:nsggen_Tape),∃ (v48:(Arr5 api_Range)),∃ (v49:Int),Zbw n v47 v48 v49=some o93∧st=[(0,(.ptr 0 0)),(2,(.ptr 1 0)),(3,(.ptr 2 0)),(4,(i64 v49))]∧H=[.cells (Zd v47),.cells (Za Zj),.cells (Za v48)]) fuel ⟨r3.2,r1,(IntKind.wrap .i64 ((1:Int) + r3.1)),h94,by kernel_rfl,by kernel_rfl⟩ ?_
  rintro n95 st H ⟨v47,v48,v49,hF,rfl,rfl⟩
  cases n95 with
  | zero=>exact noneb hF
  | succ n95=>
   rw [Zbw] at hF
   refine AWP.seq ?_
   refine .seq (.rg0 [] [(0,(.ptr 0 0)),(2,(.ptr 1 0)),(3,(.ptr 2 0)),(4,(i64 v49)),(11,(vb (decide (v49 > (0:Int)))))] ?_)
   refine AWP.cif hF (fun h136 hF=>?_) (fun h136 hF=>?_)
   ·refine AWP.skip ?_
    obtain ⟨o116,h117,hF⟩:=bindb hF
    refine AWP.seq ?_
    refine AWP.mid (fun e st H=>(e=.normal∧∃ (v114:nsggen_Tape),∃ (v115:(Arr5 api_Range)),o116=(v114,v115)∧st=[(0,(.ptr 0 0)),(2,(.ptr 1 0)),(3,(.ptr 2 0)),(4,(i64 v49))]∧H=[.cells (Zd v114),.cells (Za Zj),.cells (Za v115)])) ?_ ?_
    ·clear hF
     have hF:=h117
     refine AWP.block ?_
     refine AWP.seq ?_
     obtain ⟨r118,h119,hF⟩:=bindb hF
     refine AWP.rg [(1,.call Tryz.func32 [] (Zs v47 (5:Int) r118 h119))] [(0,(.ptr 0 0)),(2,(.ptr 1 0)),(3,(.ptr 2 0)),(4,(i64 v49)),(15,(i64 r118.1))] [.cells (Zd r118.2),.cells (Za Zj),.cells (Za v48)] ?_
     refine AWP.block ?_
     refine .seq (.rg0 [] [(0,(.ptr 0 0)),(2,(.ptr 1 0)),(3,(.ptr 2 0)),(4,(i64 v49)),(15,(i64 r118.1)),(19,(vb (r118.1 == (0:Int))))] ?_)
     refine AWP.cif hF (fun h135 hF=>?_) (fun h135 hF=>?_)
     ·obtain ⟨r120,h121,hF⟩:=bindb hF
      refine AWP.rg [(1,.call Tryz.func117 [] (Zf3 r118.2 r120 h121))] [(0,(.ptr 0 0)),(2,(.ptr 1 0)),(3,(.ptr 2 0)),(4,(i64 v49))] [.cells (Zd r120.2),.cells (Za Zj),.cells (Za ({ v48 with x0:=r120.1 }:(Arr5 api_Range)))] ?_
      refine LeQ.start ?_
      refine LeQ.pk [0,2,3,4] 3 ?_
      exact ⟨rfl,r120.2,({ v48 with x0:=r120.1 }:(Arr5 api_Range)),(someb hF).symm,by kernel_rfl,by kernel_rfl⟩
     ·refine .seq (.rg0 [] [(0,(.ptr 0 0)),(2,(.ptr 1 0)),(3,(.ptr 2 0)),(4,(i64 v49)),(15,(i64 r118.1)),(24,(vb (r118.1 == (1:Int))))] ?_)
      refine AWP.cif hF (fun h134 hF=>?_) (fun h134 hF=>?_)
      ·obtain ⟨r122,h123,hF⟩:=bindb hF
       refine AWP.rg [(1,.call Tryz.func117 [] (Zf3 r118.2 r122 h123))] [(0,(.ptr 0 0)),(2,(.ptr 1 0)),(3,(.ptr 2 0)),(4,(i64 v49))] [.cells (Zd r122.2),.cells (Za Zj),.cells (Za ({ v48 with x1:=r122.1 }:(Arr5 api_Range)))] ?_
       refine LeQ.start ?_
       refine LeQ.pk [0,2,3,4] 3 ?_
       exact ⟨rfl,r122.2,({ v48 with x1:=r122.1 }:(Arr5 api_Range)),(someb hF).symm,by kernel_rfl,by kernel_rfl⟩
      ·refine .seq (.rg0 [] [(0,(.ptr 0 0)),(2,(.ptr 1 0)),(3,(.ptr 2 0)),(4,(i64 v49)),(15,(i64 r118.1)),(29,(vb (r118.1 == (2:Int))))] ?_)
       refine AWP.cif hF (fun h133 hF=>?_) (fun h133 hF=>?_)
       ·refine AWP.seq ?_
        obtain ⟨r124,h125,hF⟩:=bindb hF
        obtain ⟨x126,h127,hF⟩:=bindb hF
        refine AWP.rg [(2,.call Tryz.func32 [] (Zs r118.2 (6:Int) r124 h125)),(3,.idx Zfz h127)] [(0,(.ptr 0 0)),(2,(.ptr 1 0)),(3,(.ptr 2 0)),(4,(i64 v49)),(5,(u32 x126))] [.cells (Zd r124.2),.cells (Za Zj),.cells (Za v48)] ?_
        refine AWP.rg [] [(0,(.ptr 0 0)),(2,(.ptr 1 0)),(3,(.ptr 2 0)),(4,(i64 v49))] [.cells (Zd r124.2),.cells (Za Zj),.cells (Za ({ v48 with x2:=(api_Range.mk x126 x126) }:(Arr5 api_Range)))] ?_
        refine LeQ.start ?_
        refine LeQ.pk [0,2,3,4] 3 ?_
        exact ⟨rfl,r124.2,({ v48 with x2:=(api_Range.mk x126 x126) }:(Arr5 api_Range)),(someb hF).symm,by kernel_rfl,by kernel_rfl⟩
       ·refine .seq (.rg0 [] [(0,(.ptr 0 0)),(2,(.ptr 1 0)),(3,(.ptr 2 0)),(4,(i64 v49)),(40,(vb (r118.1 == (3:Int))))] ?_)
        refine AWP.cif hF (fun h132 hF=>?_) (fun h132 hF=>?_)
        ·obtain ⟨r128,h129,hF⟩:=bindb hF
         refine AWP.rg [(1,.call Tryz.func118 [] (Zg4 r118.2 (65535:Int) r128 h129))] [(0,(.ptr 0 0)),(2,(.ptr 1 0)),(3,(.ptr 2 0)),(4,(i64 v49))] [.cells (Zd r128.2),.cells (Za Zj),.cells (Za ({ v48 with x3:=r128.1 }:(Arr5 api_Range)))] ?_
         refine LeQ.start ?_
         refine LeQ.pk [0,2,3,4] 3 ?_
         exact ⟨rfl,r128.2,({ v48 with x3:=r128.1 }:(Arr5 api_Range)),(someb hF).symm,by kernel_rfl,by kernel_rfl⟩
        ·obtain ⟨r130,h131,hF⟩:=bindb hF
         refine AWP.rg [(1,.call Tryz.func118 [] (Zg4 r118.2 (65535:Int) r130 h131))] [(0,(.ptr 0 0)),(2,(.ptr 1 0)),(3,(.ptr 2 0)),(4,(i64 v49))] [.cells (Zd r130.2),.cells (Za Zj),.cells (Za ({ v48 with x4:=r130.1 }:(Arr5 api_Range)))] ?_
         refine LeQ.start ?_
         refine LeQ.pk [0,2,3,4] 3 ?_
         exact ⟨rfl,r130.2,({ v48 with x4:=r130.1 }:(Arr5 api_Range)),(someb hF).symm,by kernel_rfl,by kernel_rfl⟩
    ·rintro _ _ _ ⟨rfl,v114,v115,rfl,rfl,rfl⟩
     refine AWP.rg0 [] [(0,(.ptr 0 0)),(2,(.ptr 1 0)),(3,(.ptr 2 0)),(4,(i64 (IntKind.wrap .i64 (v49 - (1:Int)))))] ?_
     refine LeQ.start ?_
     refine LeQ.pk [0,2,3,4] 3 ?_
     exact ⟨n95,Nat.lt_succ_self _,v114,v115,(IntKind.wrap .i64 (v49 - (1:Int))),hF,by kernel_rfl,by kernel_rfl⟩
   ·refine AWP.exit ?_
    refine LeQ.start ?_
    refine LeQ.pk [2,3] 3 ?_
    exact ⟨rfl,v47,v48,(someb hF).symm,by kernel_rfl,by kernel_rfl⟩
 ·rintro _ _ _ ⟨rfl,v91,v92,rfl,rfl,rfl⟩
  refine .seq (.rg [] [(2,(.ptr 1 0))] [.cells (Zd v91),.cells (Za v92),.cells (Za v92)] ?_)
  refine AWP.ret ?_
  have hr:=someb hF
  subst hr
  exact (FnQ.f0 1 (.inr rfl))
def Ziy (r:((List (Arr5 api_Range)) × nsggen_Tape)):PV→List Blk→Prop:=fun p K=>p=(slc 10 Za r.1)∧K=[.cells (Zd r.2)]
theorem Ziz (a0:nsggen_Tape) (a1:Int) (a2:Bool) (r:((List (Arr5 api_Range)) × nsggen_Tape)) (hF:Zdu a0 a1 a2=some r):ACall Tryz.prog glob 20 [(.ptr 0 0),(i64 a1),(vb a2)] [.cells (Zd a0)] (Ziy r):=by
 refine ACall.body Tryz.func20 rfl (by kernel_rfl) ?_
 unfold Zdu at hF
 refine .seq (.rg0 [] [(0,(.ptr 0 0)),(1,(i64 a1)),(2,(vb a2))] ?_)
 refine .seq (.rg0 [] [(0,(.ptr 0 0)),(1,(i64 a1)),(2,(vb a2)),(7,nils)] ?_)
 refine AWP.own (H':=[.cells (Zd a0),bf 10 57 Za ([]:(List (Arr5 api_Range))) false]) (st':=[(7,(.own 1 (List.length ([]:(List (Arr5 api_Range)))))),(0,(.ptr 0 0)),(1,(i64 a1)),(2,(vb a2))]) 7 10 57 (by kernel_rfl) (by kernel_rfl) (by kernel_rfl) ?_
 refine AWP.pick (st':=[(0,(.ptr 0 0)),(1,(i64 a1)),(2,(vb a2)),(7,(.own 1 (List.length ([]:(List (Arr5 api_Range))))))]) (ks:=[0,1,2,7]) (by kernel_rfl) ?_
 refine AWP.seq ?_
 refine AWP.seq ?_
 obtain ⟨r1,h2,hF⟩:=bindb hF
 refine AWP.rg [(3,.call Tryz.func32 [] (Zs a0 (IntKind.wrap .i64 (a1 + (1:Int))) r1 h2))] [(0,(.ptr 0 0)),(2,(vb a2)),(7,(.own 1 (List.length ([]:(List (Arr5 api_Range)))))),(8,(i64 r1.1))] [.cells (Zd r1.2),bf 10 57 Za ([]:(List (Arr5 api_Range))) false] ?_
 obtain ⟨o135,h136,hF⟩:=bindb hF
 refine AWP.mid (fun e st H=>(e=.normal∧∃ (v133:nsggen_Tape),∃ (v134:(List (Arr5 api_Range))),o135=(v133,v134)∧st=[(7,(.own 1 (List.length v134)))]∧H=[.cells (Zd v133),bf 10 57 Za v134 false])) ?_ ?_
 ·clear hF
  refine AWP.kp [0,2,7,8] 2 ?_
  refine AWP.bround (fun n st H=>∃ (v67:nsggen_Tape),∃ (v68:(List (Arr5 api_Range))),∃ (v69:Int),Zbl a2 n v67 v68 v69=some o135∧st=[(0,(.ptr 0 0)),(2,(vb a2)),(7,(.own 1 (List.length v68))),(8,(i64 v69))]∧H=[.cells (Zd v67),bf 10 57 Za v68 false]) fuel ⟨r1.2,([]:(List (Arr5 api_Range))),r1.1,h136,by kernel_rfl,by kernel_rfl⟩ ?_
  rintro n137 st H ⟨v67,v68,v69,hF,rfl,rfl⟩
  cases n137 with
  | zero=>exact noneb hF
  | succ n137=>
   rw [Zbl] at hF
   refine AWP.seq ?_
   refine .seq (.rg0 [] [(0,(.ptr 0 0)),(2,(vb a2)),(7,(.own 1 (List.length v68))),(8,(i64 v69)),(15,(vb (decide (v69 > (0:Int)))))] ?_)
   refine AWP.cif hF (fun h200 hF=>?_) (fun h200 hF=>?_)
   ·refine AWP.skip ?_
    obtain ⟨o169,h170,hF⟩:=bindb hF
    refine AWP.seq ?_
    refine AWP.mid (fun e st H=>(e=.normal∧∃ (v167:nsggen_Tape),∃ (v168:(List (Arr5 api_Range))),o169=(v167,v168)∧st=[(0,(.ptr 0 0)),(2,(vb a2)),(7,(.own 1 (List.length v168))),(8,(i64 v69))]∧H=[.cells (Zd v167),bf 10 57 Za v168 false])) ?_ ?_
    ·clear hF
     have hF:=h170
     refine AWP.block ?_
     refine AWP.seq ?_
     obtain ⟨r171,h172,hF⟩:=bindb hF
     refine AWP.rg [(1,.call Tryz.func67 [] (Zje v67 r171 h172))] [(0,(.ptr 0 0)),(2,(vb a2)),(7,(.own 1 (List.length v68))),(8,(i64 v69)),(9,(.ptr 2 0))] [.cells (Zd r171.2),bf 10 57 Za v68 false,.cells (Za r171.1)] ?_
     obtain ⟨o186,h187,hF⟩:=bindb hF
     refine AWP.seq ?_
     refine AWP.mid (fun e st H=>(e=.normal∧∃ (v184:nsggen_Tape),∃ (v185:(Arr5 api_Range)),o186=(v184,v185)∧st=[(0,(.ptr 0 0)),(2,(vb a2)),(7,(.own 1 (List.length v68))),(8,(i64 v69)),(9,(.ptr 2 0))]∧H=[.cells (Zd v184),bf 10 57 Za v68 false,.cells (Za v185)])) ?_ ?_
     ·clear hF
      have hF:=h187
      refine AWP.seq ?_
      obtain ⟨b188,h189,hF⟩:=bindb hF
      replace h189:=someb h189
      obtain ⟨v192,h193,hF⟩:=bindb hF
      refine AWP.to [(0,(.ptr 0 0)),(2,(vb a2)),(7,(.own 1 (List.length v68))),(8,(i64 v69)),(9,(.ptr 2 0)),(25,(vb v192.1))] [.cells (Zd v192.2),bf 10 57 Za v68 false,.cells (Za r171.1)] ?_ ?_
      ·cases b188 with
       | false=>
        have h194:=someb (ifF h193 rfl)
        subst h194
        exact AWP.rgT [(1,.bool h189)]
       | true=>
        have h195:=ifT h193 rfl
        obtain ⟨r190,h191,h195⟩:=bindb h195
        replace h195:=someb h195
        subst h195
        exact AWP.rgT [(1,.bool h189),(3,.call Tryz.func32 [] (Zs r171.2 (8:Int) r190 h191))]
      refine AWP.cif hF (fun h198 hF=>?_) (fun h198 hF=>?_)
      ·obtain ⟨r196,h197,hF⟩:=bindb hF
       refine AWP.rg [(2,.call Tryz.func34 [] (Zga v192.2 r171.1 r196 h197))] [(0,(.ptr 0 0)),(2,(vb a2)),(7,(.own 1 (List.length v68))),(8,(i64 v69)),(9,(.ptr 2 0))] [.cells (Zd r196.2),bf 10 57 Za v68 false,.cells (Za r196.1)] ?_
       refine LeQ.start ?_
       refine LeQ.pk [0,2,7,8,9] 3 ?_
       exact ⟨rfl,r196.2,r196.1,(someb hF).symm,by kernel_rfl,by kernel_rfl⟩
      ·refine AWP.skip ?_
       refine LeQ.start ?_
       refine LeQ.pk [0,2,7,8,9] 3 ?_
       exact ⟨rfl,v192.2,r171.1,(someb hF).symm,by kernel_rfl,by kernel_rfl⟩
     ·rintro _ _ _ ⟨rfl,v184,v185,rfl,rfl,rfl⟩
      obtain ⟨h199,hF⟩:=chkb hF
      refine AWP.rg [(3,.app Za (fun _=>by kernel_rfl) h199)] [(0,(.ptr 0 0)),(2,(vb a2)),(7,(.own 1 (List.length (v68++[v185])))),(8,(i64 v69))] [.cells (Zd v184),bf 10 57 Za (v68++[v185]) false,.cells (Za v185)] ?_
      refine LeQ.start ?_
      refine LeQ.pk [0,2,7,8] 2 ?_
      exact ⟨rfl,v184,(v68++[v185]),(someb hF).symm,by kernel_rfl,by kernel_rfl⟩
    ·rintro _ _ _ ⟨rfl,v167,v168,rfl,rfl,rfl⟩
     refine AWP.rg0 [] [(0,(.ptr 0 0)),(2,(vb a2)),(7,(.own 1 (List.length v168))),(8,(i64 (IntKind.wrap .i64 (v69 - (1:Int)))))] ?_
     refine LeQ.start ?_
     refine LeQ.pk [0,2,7,8] 2 ?_
     exact ⟨n137,Nat.lt_succ_self _,v167,v168,(IntKind.wrap .i64 (v69 - (1:Int))),hF,by kernel_rfl,by kernel_rfl⟩
   ·refine AWP.exit ?_
    refine LeQ.start ?_
    refine LeQ.pk [7] 2 ?_
    exact ⟨rfl,v67,v68,(someb hF).symm,by kernel_rfl,by kernel_rfl⟩
 ·rintro _ _ _ ⟨rfl,v133,v134,rfl,rfl,rfl⟩
  refine .seq (.rg0 [] [(6,(.own 1 (List.length v134)))] ?_)
  refine AWP.ret ?_
  have hr:=someb hF
  subst hr
  exact (FnQ.f1 1 (.inr rfl) (.inl (Wk.ownT (i:=1) (s:=10) (t:=57) (l:=v134) (sh:=false) (row:=Za) (by kernel_rfl) (.inl rfl))))
def Zh1 (r:Bool):PV→List Blk→Prop:=fun p K=>p=(vb r)∧K=[]
abbrev Zkd (r:Bool):Exit→St→List Blk→Prop:=FnQ Tryz.prog Tryz.f96.results 0 (Zh1 r)
theorem Zh2 (a0:(Arr5 api_Range)) (r:Bool) (hF:Zd6 a0=some r):ACall Tryz.prog glob 96 [(Zl a0)] [] (Zh1 r):=by
 refine ACall.body Tryz.func96 rfl (by kernel_rfl) ?_
 unfold Zd6 at hF
 refine .seq (.rg [] [(1,(.ptr 0 0))] [.cells (Za a0)] ?_)
 refine AWP.seq ?_
 refine .seq (.rg0 [] [(1,(.ptr 0 0)),(3,(i64 (0:Int)))] ?_)
 obtain ⟨o15,h16,hF⟩:=bindb hF
 refine AWP.mid (fun e st H=>(e=.normal∧o15=(.inl ())∧st=[]∧H=[.cells (Za a0)])∨(e=.ret∧∃ (r:Bool),o15=(.inr r)∧Zkd r e st H)) ?_ ?_
 ·clear hF
  refine AWP.kp [1,3] 1 ?_
  refine AWP.bround (fun n st H=>∃ (v1:Int),Zy a0 n v1=some o15∧st=[(1,(.ptr 0 0)),(3,(i64 v1))]∧H=[.cells (Za a0)]) fuel ⟨(0:Int),h16,by kernel_rfl,by kernel_rfl⟩ ?_
  rintro n17 st H ⟨v1,hF,rfl,rfl⟩
  cases n17 with
  | zero=>exact noneb hF
  | succ n17=>
   rw [Zy] at hF
   refine AWP.seq ?_
   refine .seq (.rg0 [] [(1,(.ptr 0 0)),(3,(i64 v1)),(5,(vb (decide (v1<(5:Int)))))] ?_)
   refine AWP.cif hF (fun h30 hF=>?_) (fun h30 hF=>?_)
   ·refine AWP.skip ?_
    refine AWP.seq ?_
    refine AWP.block ?_
    refine AWP.seq ?_
    obtain ⟨h18,hF⟩:=chkb hF
    obtain ⟨h19,hF⟩:=chkb hF
    obtain ⟨b20,h21,hF⟩:=bindb hF
    replace h21:=someb h21
    obtain ⟨v25,h26,hF⟩:=bindb hF
    refine AWP.to [(1,(.ptr 0 0)),(3,(i64 v1)),(25,(vb v25))] [.cells (Za a0)] ?_ ?_
    ·cases b20 with
     | false=>
      have h27:=ifF h26 rfl
      obtain ⟨h22,h27⟩:=chkb h27
      obtain ⟨r23,h24,h27⟩:=bindb h27
      replace h27:=someb h27
      subst h27
      exact AWP.drT [(1,.ixd h18),(3,.ldA Zf (Arr5.get a0) 0 2 0 h18),(5,.ixd h19),(7,.ldA Zf (Arr5.get a0) 0 2 1 h19),(9,.bool h21),(11,.ixd h22),(13,.ldA Zf (Arr5.get a0) 0 2 1 h22),(15,.call Tryz.func43 [] (Zge v1 r23 h24))] 18 [] [] []
     | true=>
      have h28:=someb (ifT h26 rfl)
      subst h28
      exact AWP.drT [(1,.ixd h18),(3,.ldA Zf (Arr5.get a0) 0 2 0 h18),(5,.ixd h19),(7,.ldA Zf (Arr5.get a0) 0 2 1 h19),(9,.bool h21)] 18 [] [] []
    refine AWP.cif hF (fun h29 hF=>?_) (fun h29 hF=>?_)
    ·refine .seq (.rg0 [] [(2,(vb false))] ?_)
     refine AWP.ret ?_
     exact LeQ.of (.inr ⟨rfl,false,(someb hF).symm,(FnQ.f0 0 (.inr rfl))⟩)
    ·refine AWP.skip ?_
     refine AWP.rg0 [] [(1,(.ptr 0 0)),(3,(i64 (IntKind.wrap .i64 (v1 + (1:Int)))))] ?_
     refine LeQ.start ?_
     refine LeQ.pk [1,3] 1 ?_
     exact ⟨n17,Nat.lt_succ_self _,(IntKind.wrap .i64 (v1 + (1:Int))),hF,by kernel_rfl,by kernel_rfl⟩
   ·refine AWP.exit ?_
    refine LeQ.start ?_
    refine LeQ.pk [] 1 ?_
    exact (.inl ⟨rfl,(someb hF).symm,by kernel_rfl,by kernel_rfl⟩)
 ·rintro _ _ _ (⟨rfl,rfl,rfl,rfl⟩ | ⟨rfl,r31,rfl,hq⟩)
  ·refine .seq (.rg0 [] [(2,(vb true))] ?_)
   refine AWP.ret ?_
   have hr:=someb hF
   subst hr
   exact (FnQ.f0 0 (.inr rfl))
  ·have hr:=someb hF
   subst hr
   exact hq
def Zke (r:Bool):PV→List Blk→Prop:=fun p K=>p=(vb r)∧K=[]
theorem Zkf (a0:Int) (a1:Bool) (a2:Bool) (r:Bool) (hF:Ze0 a0 a1 a2=some r):ACall Tryz.prog glob 106 [(i64 a0),(vb a1),(vb a2)] [] (Zke r):=by
 refine ACall.body Tryz.func106 rfl (by kernel_rfl) ?_
 unfold Ze0 at hF
 refine .seq (.rg0 [] [(0,(i64 a0)),(1,(vb a1)),(2,(vb a2))] ?_)
 refine AWP.seq ?_
 refine .seq (.rg0 [] [(1,(vb a1)),(2,(vb a2)),(7,(i64 a0))] ?_)
 refine AWP.block ?_
 refine .seq (.rg0 [] [(1,(vb a1)),(2,(vb a2)),(7,(i64 a0)),(8,(vb (a0 == (0:Int))))] ?_)
 refine AWP.cif hF (fun h9 hF=>?_) (fun h9 hF=>?_)
 ·refine AWP.seq ?_
  obtain ⟨b1,h2,hF⟩:=bindb hF
  replace h2:=someb h2
  refine AWP.to [(6,(vb (b1 || a2)))] [] ?_ ?_
  ·cases b1 with
   | false=>
    exact AWP.rgT [(1,.bool h2)]
   | true=>
    exact AWP.rgT [(1,.bool h2)]
  refine AWP.ret ?_
  have hr:=someb hF
  subst hr
  exact (FnQ.f0 0 (.inr rfl))
 ·refine .seq (.rg0 [] [(1,(vb a1)),(2,(vb a2)),(7,(i64 a0)),(14,(vb (a0 == (1:Int))))] ?_)
  refine AWP.cif hF (fun h8 hF=>?_) (fun h8 hF=>?_)
  ·refine AWP.seq ?_
   obtain ⟨b3,h4,hF⟩:=bindb hF
   replace h4:=someb h4
   refine AWP.to [(6,(vb (b3 && a2)))] [] ?_ ?_
   ·cases b3 with
    | false=>
     exact AWP.rgT [(1,.bool h4)]
    | true=>
     exact AWP.rgT [(1,.bool h4)]
   refine AWP.ret ?_
   have hr:=someb hF
   subst hr
   exact (FnQ.f0 0 (.inr rfl))
  ·refine .seq (.rg0 [] [(1,(vb a1)),(2,(vb a2)),(20,(vb (a0 == (2:Int))))] ?_)
   refine AWP.cif hF (fun h7 hF=>?_) (fun h7 hF=>?_)
   ·refine AWP.seq ?_
    obtain ⟨b5,h6,hF⟩:=bindb hF
    replace h6:=someb h6
    refine AWP.to [(6,(vb (b5 && (!a2))))] [] ?_ ?_
    ·cases b5 with
     | false=>
      exact AWP.rgT [(1,.bool h6)]
     | true=>
      exact AWP.rgT [(1,.bool h6)]
    refine AWP.ret ?_
    have hr:=someb hF
    subst hr
    exact (FnQ.f0 0 (.inr rfl))
   ·refine AWP.skip ?_
    refine .seq (.rg0 [] [(6,(vb (!(a1 == a2))))] ?_)
    refine AWP.ret ?_
    have hr:=someb hF
    subst hr
    exact (FnQ.f0 0 (.inr rfl))
def Zkn (r:Bool):PV→List Blk→Prop:=fun p K=>p=(vb r)∧K=[]
theorem Zko (a0:Int) (a1:Bool) (a2:Bool) (r:Bool) (hF:Zfg a0 a1 a2=some r):ACall Tryz.prog glob 107 [(i64 a0),(vb a1),(vb a2)] [] (Zkn r):=by
 refine ACall.body Tryz.func107 rfl (by kernel_rfl) ?_
 unfold Zfg at hF
 refine .seq (.rg0 [] [(0,(i64 a0)),(1,(vb a1)),(2,(vb a2))] ?_)
 refine AWP.seq ?_
 refine .seq (.rg0 [] [(1,(vb a1)),(2,(vb a2)),(7,(i64 a0))] ?_)
 refine AWP.block ?_
 refine .seq (.rg0 [] [(1,(vb a1)),(2,(vb a2)),(7,(i64 a0)),(8,(vb (a0 == (1:Int))))] ?_)
 refine AWP.cif hF (fun h6 hF=>?_) (fun h6 hF=>?_)
 ·refine AWP.seq ?_
  obtain ⟨b1,h2,hF⟩:=bindb hF
  replace h2:=someb h2
  refine AWP.to [(6,(vb (b1 || (!a2))))] [] ?_ ?_
  ·cases b1 with
   | false=>
    exact AWP.rgT [(2,.bool h2)]
   | true=>
    exact AWP.rgT [(2,.bool h2)]
  refine AWP.ret ?_
  have hr:=someb hF
  subst hr
  exact (FnQ.f0 0 (.inr rfl))
 ·refine .seq (.rg0 [] [(1,(vb a1)),(2,(vb a2)),(16,(vb (a0 == (2:Int))))] ?_)
  refine AWP.cif hF (fun h5 hF=>?_) (fun h5 hF=>?_)
  ·refine .seq (.rg0 [] [(6,(vb (!a1)))] ?_)
   refine AWP.ret ?_
   have hr:=someb hF
   subst hr
   exact (FnQ.f0 0 (.inr rfl))
  ·refine AWP.skip ?_
   refine AWP.seq ?_
   obtain ⟨b3,h4,hF⟩:=bindb hF
   replace h4:=someb h4
   refine AWP.to [(6,(vb (b3 && (!a2))))] [] ?_ ?_
   ·cases b3 with
    | false=>
     exact AWP.rgT [(2,.bool h4)]
    | true=>
     exact AWP.rgT [(2,.bool h4)]
   refine AWP.ret ?_
   have hr:=someb hF
   subst hr
   exact (FnQ.f0 0 (.inr rfl))
def Zjw (r:(List api_Range)):PV→List Blk→Prop:=fun p K=>p=(slc 2 Zf r)∧K=[]
theorem Zjx (a0:(List (Arr5 api_Range))) (a1:(List (Arr5 api_Range))) (a2:Int) (r:(List api_Range)) (hF:Zeo a0 a1 a2=some r):ACall Tryz.prog glob 109 [(slc 10 Za a0),(slc 10 Za a1),(i64 a2)] [] (Zjw r):=by
 refine ACall.body Tryz.func109 rfl (by kernel_rfl) ?_
 unfold Zeo at hF
 refine .seq (.rg0 [] [(0,(slc 10 Za a0)),(1,(slc 10 Za a1)),(2,(i64 a2))] ?_)
 refine .seq (.rg0 [] [(0,(slc 10 Za a0)),(1,(slc 10 Za a1)),(2,(i64 a2)),(7,nils)] ?_)
 refine AWP.own (H':=[bf 2 55 Zf ([]:(List api_Range)) false]) (st':=[(7,(.own 0 (List.length ([]:(List api_Range))))),(0,(slc 10 Za a0)),(1,(slc 10 Za a1)),(2,(i64 a2))]) 7 2 55 (by kernel_rfl) (by kernel_rfl) (by kernel_rfl) ?_
 refine AWP.pick (st':=[(0,(slc 10 Za a0)),(1,(slc 10 Za a1)),(2,(i64 a2)),(7,(.own 0 (List.length ([]:(List api_Range)))))]) (ks:=[0,1,2,7]) (by kernel_rfl) ?_
 refine AWP.seq ?_
 refine .seq (.rg0 [] [(0,(slc 10 Za a0)),(1,(slc 10 Za a1)),(2,(i64 a2)),(7,(.own 0 (List.length ([]:(List api_Range))))),(8,(i64 (0:Int)))] ?_)
 obtain ⟨v14,h15,hF⟩:=bindb hF
 refine AWP.mid (fun e st H=>e=.normal∧st=[(1,(slc 10 Za a1)),(2,(i64 a2)),(7,(.own 0 (List.length v14)))]∧H=[bf 2 55 Zf v14 false]) ?_ ?_
 ·clear hF
  refine AWP.kp [0,1,2,7,8] 1 ?_
  refine AWP.bround (fun n st H=>∃ (v7:(List api_Range)),∃ (v8:Int),Zcj a0 a2 n v7 v8=some v14∧st=[(0,(slc 10 Za a0)),(1,(slc 10 Za a1)),(2,(i64 a2)),(7,(.own 0 (List.length v7))),(8,(i64 v8))]∧H=[bf 2 55 Zf v7 false]) fuel ⟨([]:(List api_Range)),(0:Int),h15,by kernel_rfl,by kernel_rfl⟩ ?_
  rintro n16 st H ⟨v7,v8,hF,rfl,rfl⟩
  cases n16 with
  | zero=>exact noneb hF
  | succ n16=>
   rw [Zcj] at hF
   refine AWP.seq ?_
   refine .seq (.rg0 [(2,.len Za a0)] [(0,(slc 10 Za a0)),(1,(slc 10 Za a1)),(2,(i64 a2)),(7,(.own 0 (List.length v7))),(8,(i64 v8)),(13,(vb (decide (v8<(List.length a0:Int)))))] ?_)
   refine AWP.cif hF (fun h21 hF=>?_) (fun h21 hF=>?_)
   ·refine AWP.skip ?_
    refine AWP.seq ?_
    refine AWP.block ?_
    obtain ⟨x17,h18,hF⟩:=bindb hF
    obtain ⟨h19,hF⟩:=chkb hF
    obtain ⟨h20,hF⟩:=chkb hF
    refine AWP.rg [(4,.idx Za h18),(5,.ixd h19),(6,.ldA Zf (Arr5.get x17) 0 2 0 h19),(8,.app Zf (fun _=>by kernel_rfl) h20)] [(0,(slc 10 Za a0)),(1,(slc 10 Za a1)),(2,(i64 a2)),(7,(.own 0 (List.length (v7++[(Arr5.get x17 a2)])))),(8,(i64 v8))] [bf 2 55 Zf (v7++[(Arr5.get x17 a2)]) false] ?_
    refine AWP.rg0 [] [(0,(slc 10 Za a0)),(1,(slc 10 Za a1)),(2,(i64 a2)),(7,(.own 0 (List.length (v7++[(Arr5.get x17 a2)])))),(8,(i64 (IntKind.wrap .i64 (v8 + (1:Int)))))] ?_
    refine LeQ.start ?_
    refine LeQ.pk [0,1,2,7,8] 1 ?_
    exact ⟨n16,Nat.lt_succ_self _,(v7++[(Arr5.get x17 a2)]),(IntKind.wrap .i64 (v8 + (1:Int))),hF,by kernel_rfl,by kernel_rfl⟩
   ·refine AWP.exit ?_
    refine LeQ.start ?_
    refine LeQ.pk [1,2,7] 1 ?_
    have hr:=someb hF
    subst hr
    exact ⟨rfl,by kernel_rfl,by kernel_rfl⟩
 ·rintro _ _ _ ⟨rfl,rfl,rfl⟩
  refine AWP.seq ?_
  refine .seq (.rg0 [] [(1,(slc 10 Za a1)),(2,(i64 a2)),(7,(.own 0 (List.length v14))),(9,(i64 (0:Int)))] ?_)
  obtain ⟨v35,h36,hF⟩:=bindb hF
  refine AWP.mid (fun e st H=>e=.normal∧st=[(7,(.own 0 (List.length v35)))]∧H=[bf 2 55 Zf v35 false]) ?_ ?_
  ·clear hF
   refine AWP.kp [1,2,7,9] 1 ?_
   refine AWP.bround (fun n st H=>∃ (v28:(List api_Range)),∃ (v29:Int),Zck a1 a2 n v28 v29=some v35∧st=[(1,(slc 10 Za a1)),(2,(i64 a2)),(7,(.own 0 (List.length v28))),(9,(i64 v29))]∧H=[bf 2 55 Zf v28 false]) fuel ⟨v14,(0:Int),h36,by kernel_rfl,by kernel_rfl⟩ ?_
   rintro n37 st H ⟨v28,v29,hF,rfl,rfl⟩
   cases n37 with
   | zero=>exact noneb hF
   | succ n37=>
    rw [Zck] at hF
    refine AWP.seq ?_
    refine .seq (.rg0 [(2,.len Za a1)] [(1,(slc 10 Za a1)),(2,(i64 a2)),(7,(.own 0 (List.length v28))),(9,(i64 v29)),(28,(vb (decide (v29<(List.length a1:Int)))))] ?_)
    refine AWP.cif hF (fun h42 hF=>?_) (fun h42 hF=>?_)
    ·refine AWP.skip ?_
     refine AWP.seq ?_
     refine AWP.block ?_
     obtain ⟨x38,h39,hF⟩:=bindb hF
     obtain ⟨h40,hF⟩:=chkb hF
     obtain ⟨h41,hF⟩:=chkb hF
     refine AWP.rg [(4,.idx Za h39),(5,.ixd h40),(6,.ldA Zf (Arr5.get x38) 0 2 0 h40),(8,.app Zf (fun _=>by kernel_rfl) h41)] [(1,(slc 10 Za a1)),(2,(i64 a2)),(7,(.own 0 (List.length (v28++[(Arr5.get x38 a2)])))),(9,(i64 v29))] [bf 2 55 Zf (v28++[(Arr5.get x38 a2)]) false] ?_
     refine AWP.rg0 [] [(1,(slc 10 Za a1)),(2,(i64 a2)),(7,(.own 0 (List.length (v28++[(Arr5.get x38 a2)])))),(9,(i64 (IntKind.wrap .i64 (v29 + (1:Int)))))] ?_
     refine LeQ.start ?_
     refine LeQ.pk [1,2,7,9] 1 ?_
     exact ⟨n37,Nat.lt_succ_self _,(v28++[(Arr5.get x38 a2)]),(IntKind.wrap .i64 (v29 + (1:Int))),hF,by kernel_rfl,by kernel_rfl⟩
    ·refine AWP.exit ?_
     refine LeQ.start ?_
     refine LeQ.pk [7] 1 ?_
     have hr:=someb hF
     subst hr
     exact ⟨rfl,by kernel_rfl,by kernel_rfl⟩
  ·rintro _ _ _ ⟨rfl,rfl,rfl⟩
   refine .seq (.rg0 [] [(6,(.own 0 (List.length v35)))] ?_)
   refine AWP.ret ?_
   have hr:=someb hF
   subst hr
   exact (FnQ.f1 0 (.inr rfl) (.inl (Wk.ownT (i:=0) (s:=2) (t:=55) (l:=v35) (sh:=false) (row:=Zf) (by kernel_rfl) (.inl rfl))))
def Zjy (r:(List Int)):PV→List Blk→Prop:=fun p K=>p=(slc 1 Zb r)∧K=[]
theorem Zho (a0:(List Int)) (a1:Int) (a2:Int) (r:(List Int)) (hF:Zdv a0 a1 a2=some r):ACall Tryz.prog glob 136 [(slc 1 Zb a0),(u64 a1),(u32 a2)] [] (Zjy r):=by
 refine ACall.body Tryz.func136 rfl (by kernel_rfl) ?_
 unfold Zdv at hF
 refine .seq (.rg0 [] [(0,(slc 1 Zb a0)),(1,(u64 a1)),(2,(u32 a2))] ?_)
 refine AWP.seq ?_
 refine .seq (.rg0 [] [(0,(slc 1 Zb a0)),(1,(u64 a1)),(11,(vb (decide (a1 > (IntKind.wrap .u64 a2)))))] ?_)
 refine AWP.cif hF (fun h37 hF=>?_) (fun h37 hF=>?_)
 ·refine .seq (.rg0 [] [(6,(slc 1 Zb a0))] ?_)
  refine AWP.ret ?_
  have hr:=someb hF
  subst hr
  exact (FnQ.f0 0 (.inr rfl))
 ·refine AWP.skip ?_
  refine .seq (.rg0 [] [(0,(slc 1 Zb a0)),(1,(u64 a1)),(7,(i64 (0:Int)))] ?_)
  refine AWP.seq ?_
  obtain ⟨v11,h12,hF⟩:=bindb hF
  refine AWP.mid (fun e st H=>e=.normal∧st=[(0,(slc 1 Zb a0)),(1,(u64 a1)),(7,(i64 v11))]∧H=[]) ?_ ?_
  ·clear hF
   refine AWP.kp [0,1,7] 0 ?_
   refine AWP.bround (fun n st H=>∃ (v1:Int),Zcl a0 a1 n v1=some v11∧st=[(0,(slc 1 Zb a0)),(1,(u64 a1)),(7,(i64 v1))]∧H=[]) fuel ⟨(0:Int),h12,by kernel_rfl,by kernel_rfl⟩ ?_
   rintro n13 st H ⟨v1,hF,rfl,rfl⟩
   cases n13 with
   | zero=>exact noneb hF
   | succ n13=>
    rw [Zcl] at hF
    refine AWP.seq ?_
    refine AWP.seq ?_
    obtain ⟨b14,h15,hF⟩:=bindb hF
    replace h15:=someb h15
    obtain ⟨v18,h19,hF⟩:=bindb hF
    refine AWP.to [(0,(slc 1 Zb a0)),(1,(u64 a1)),(7,(i64 v1)),(24,(vb v18))] [] ?_ ?_
    ·cases b14 with
     | false=>
      have h20:=someb (ifF h19 rfl)
      subst h20
      exact AWP.rgT [(2,.len Zb a0),(4,.bool h15)]
     | true=>
      have h21:=ifT h19 rfl
      obtain ⟨x16,h17,h21⟩:=bindb h21
      replace h21:=someb h21
      subst h21
      exact AWP.rgT [(2,.len Zb a0),(4,.bool h15),(7,.idx Zb h17)]
    refine AWP.cif hF (fun h22 hF=>?_) (fun h22 hF=>?_)
    ·refine AWP.skip ?_
     refine AWP.block ?_
     refine AWP.rg0 [] [(0,(slc 1 Zb a0)),(1,(u64 a1)),(7,(i64 (IntKind.wrap .i64 (v1 + (1:Int)))))] ?_
     refine LeQ.start ?_
     refine LeQ.pk [0,1,7] 0 ?_
     exact ⟨n13,Nat.lt_succ_self _,(IntKind.wrap .i64 (v1 + (1:Int))),hF,by kernel_rfl,by kernel_rfl⟩
    ·refine AWP.exit ?_
     refine LeQ.start ?_
     refine LeQ.pk [0,1,7] 0 ?_
     have hr:=someb hF
     subst hr
     exact ⟨rfl,by kernel_rfl,by kernel_rfl⟩
  ·rintro _ _ _ ⟨rfl,rfl,rfl⟩
   refine AWP.seq ?_
   refine AWP.seq ?_
   obtain ⟨b23,h24,hF⟩:=bindb hF
   replace h24:=someb h24
   obtain ⟨v27,h28,hF⟩:=bindb hF
   refine AWP.to [(0,(slc 1 Zb a0)),(1,(u64 a1)),(7,(i64 v11)),(38,(vb v27))] [] ?_ ?_
   ·cases b23 with
    | false=>
     have h29:=someb (ifF h28 rfl)
     subst h29
     exact AWP.rgT [(2,.len Zb a0),(4,.bool h24)]
    | true=>
     have h30:=ifT h28 rfl
     obtain ⟨x25,h26,h30⟩:=bindb h30
     replace h30:=someb h30
     subst h30
     exact AWP.rgT [(2,.len Zb a0),(4,.bool h24),(7,.idx Zb h26)]
   refine AWP.cif hF (fun h36 hF=>?_) (fun h36 hF=>?_)
   ·refine .seq (.rg0 [] [(6,(slc 1 Zb a0))] ?_)
    refine AWP.ret ?_
    have hr:=someb hF
    subst hr
    exact (FnQ.f0 0 (.inr rfl))
   ·refine AWP.skip ?_
    refine AWP.seq ?_
    obtain ⟨h31,hF⟩:=chkb hF
    obtain ⟨h32,hF⟩:=chkb hF
    obtain ⟨h33,hF⟩:=chkb hF
    obtain ⟨h34,hF⟩:=chkb hF
    obtain ⟨h35,hF⟩:=chkb hF
    refine AWP.dr [(0,.m),(3,.slice Zb a0 h31),(4,.app Zb (fun _=>by kernel_rfl) h32),(7,.app Zb (fun _=>by kernel_rfl) h33),(10,.slice Zb a0 h34),(11,.app Zb (fun _=>by kernel_rfl) h35)] 12 [] [0,4,7,11] [] [(6,(.own 0 (List.length (((([]:(List Int))++(List.drop (Int.toNat (0:Int)) (List.take (Int.toNat v11) a0)))++[a1])++(List.drop (Int.toNat v11) (List.take (Int.toNat (List.length a0:Int)) a0))))))] [bf 1 134 Zb (((([]:(List Int))++(List.drop (Int.toNat (0:Int)) (List.take (Int.toNat v11) a0)))++[a1])++(List.drop (Int.toNat v11) (List.take (Int.toNat (List.length a0:Int)) a0))) false] ?_
    refine AWP.ret ?_
    have hr:=someb hF
    subst hr
    exact (FnQ.f1 0 (.inr rfl) (.inl (Wk.ownT (i:=0) (s:=1) (t:=134) (l:=(((([]:(List Int))++(List.drop (Int.toNat (0:Int)) (List.take (Int.toNat v11) a0)))++[a1])++(List.drop (Int.toNat v11) (List.take (Int.toNat (List.length a0:Int)) a0)))) (sh:=false) (row:=Zb) (by kernel_rfl) (.inl rfl))))
def Zjz (r:(List Int)):PV→List Blk→Prop:=fun p K=>p=(slc 1 Zb r)∧K=[]
theorem Zj0 (a0:(List api_Range)) (a1:Int) (r:(List Int)) (hF:Zep a0 a1=some r):ACall Tryz.prog glob 108 [(slc 2 Zf a0),(u32 a1)] [] (Zjz r):=by
 refine ACall.body Tryz.func108 rfl (by kernel_rfl) ?_
 unfold Zep at hF
 refine .seq (.rg0 [] [(0,(slc 2 Zf a0)),(1,(u32 a1))] ?_)
 refine .seq (.rg0 [] [(0,(slc 2 Zf a0)),(1,(u32 a1)),(5,(slc 1 Zb [(0:Int)]))] ?_)
 refine AWP.seq ?_
 refine .seq (.rg0 [] [(0,(slc 2 Zf a0)),(1,(u32 a1)),(5,(slc 1 Zb [(0:Int)])),(6,(i64 (0:Int)))] ?_)
 obtain ⟨v32,h33,hF⟩:=bindb hF
 refine AWP.mid (fun e st H=>e=.normal∧st=[(5,(slc 1 Zb v32))]∧H=[]) ?_ ?_
 ·clear hF
  refine AWP.kp [0,1,5,6] 0 ?_
  refine AWP.bround (fun n st H=>∃ (v1:(List Int)),∃ (v2:Int),Zcm a0 a1 n v1 v2=some v32∧st=[(0,(slc 2 Zf a0)),(1,(u32 a1)),(5,(slc 1 Zb v1)),(6,(i64 v2))]∧H=[]) fuel ⟨[(0:Int)],(0:Int),h33,by kernel_rfl,by kernel_rfl⟩ ?_
  rintro n34 st H ⟨v1,v2,hF,rfl,rfl⟩
  cases n34 with
  | zero=>exact noneb hF
  | succ n34=>
   rw [Zcm] at hF
   refine AWP.seq ?_
   refine .seq (.rg0 [(2,.len Zf a0)] [(0,(slc 2 Zf a0)),(1,(u32 a1)),(5,(slc 1 Zb v1)),(6,(i64 v2)),(11,(vb (decide (v2<(List.length a0:Int)))))] ?_)
   refine AWP.cif hF (fun h63 hF=>?_) (fun h63 hF=>?_)
   ·refine AWP.skip ?_
    obtain ⟨v48,h49,hF⟩:=bindb hF
    refine AWP.seq ?_
    refine AWP.mid (fun e st H=>e=.normal∧st=[(0,(slc 2 Zf a0)),(1,(u32 a1)),(5,(slc 1 Zb v48)),(6,(i64 v2))]∧H=[]) ?_ ?_
    ·clear hF
     have hF:=h49
     refine AWP.block ?_
     refine AWP.seq ?_
     obtain ⟨x50,h51,hF⟩:=bindb hF
     obtain ⟨x52,h53,hF⟩:=bindb hF
     refine AWP.dr [(2,.idx Zf h51),(7,.idx Zf h53)] 11 [] [] [] [(0,(slc 2 Zf a0)),(1,(u32 a1)),(5,(slc 1 Zb v1)),(6,(i64 v2)),(24,(vb (decide (x50.Lo≤x52.Hi))))] [] ?_
     refine AWP.cif hF (fun h62 hF=>?_) (fun h62 hF=>?_)
     ·obtain ⟨x54,h55,hF⟩:=bindb hF
      obtain ⟨r56,h57,hF⟩:=bindb hF
      obtain ⟨x58,h59,hF⟩:=bindb hF
      obtain ⟨r60,h61,hF⟩:=bindb hF
      refine AWP.dr [(3,.idx Zf h55),(8,.call Tryz.func136 [] (Zho v1 (IntKind.wrap .u64 x54.Lo) a1 r56 h57)),(11,.idx Zf h59),(17,.call Tryz.func136 [] (Zho r56 (IntKind.wrap .u64 ((IntKind.wrap .u64 x58.Hi) + (1:Int))) a1 r60 h61))] 18 [] [] [] [(0,(slc 2 Zf a0)),(1,(u32 a1)),(5,(slc 1 Zb r60)),(6,(i64 v2))] [] ?_
      refine LeQ.start ?_
      refine LeQ.pk [0,1,5,6] 0 ?_
      have hr:=someb hF
      subst hr
      exact ⟨rfl,by kernel_rfl,by kernel_rfl⟩
     ·refine AWP.skip ?_
      refine LeQ.start ?_
      refine LeQ.pk [0,1,5,6] 0 ?_
      have hr:=someb hF
      subst hr
      exact ⟨rfl,by kernel_rfl,by kernel_rfl⟩
    ·rintro _ _ _ ⟨rfl,rfl,rfl⟩
     refine AWP.rg0 [] [(0,(slc 2 Zf a0)),(1,(u32 a1)),(5,(slc 1 Zb v48)),(6,(i64 (IntKind.wrap .i64 (v2 + (1:Int)))))] ?_
     refine LeQ.start ?_
     refine LeQ.pk [0,1,5,6] 0 ?_
     exact ⟨n34,Nat.lt_succ_self _,v48,(IntKind.wrap .i64 (v2 + (1:Int))),hF,by kernel_rfl,by kernel_rfl⟩
   ·refine AWP.exit ?_
    refine LeQ.start ?_
    refine LeQ.pk [5] 0 ?_
    have hr:=someb hF
    subst hr
    exact ⟨rfl,by kernel_rfl,by kernel_rfl⟩
 ·rintro _ _ _ ⟨rfl,rfl,rfl⟩
  refine .seq (.rg0 [] [(4,(slc 1 Zb v32))] ?_)
  refine AWP.ret ?_
  have hr:=someb hF
  subst hr
  exact (FnQ.f0 0 (.inr rfl))
def Zk4 (r:(List (Arr5 api_Range))):PV→List Blk→Prop:=fun p K=>p=(slc 10 Za r)∧K=[]
theorem Zi9 (a0:(List (Arr5 api_Range))) (a1:Int) (a2:Int) (r:(List (Arr5 api_Range))) (hF:Zfh a0 a1 a2=some r):ACall Tryz.prog glob 110 [(slc 10 Za a0),(i64 a1),(u64 a2)] [] (Zk4 r):=by
 refine ACall.body Tryz.func110 rfl (by kernel_rfl) ?_
 unfold Zfh at hF
 refine .seq (.rg0 [] [(0,(slc 10 Za a0)),(1,(i64 a1)),(2,(u64 a2))] ?_)
 refine .seq (.rg0 [] [(0,(slc 10 Za a0)),(1,(i64 a1)),(2,(u64 a2)),(7,nils)] ?_)
 refine AWP.own (H':=[bf 10 57 Za ([]:(List (Arr5 api_Range))) false]) (st':=[(7,(.own 0 (List.length ([]:(List (Arr5 api_Range)))))),(0,(slc 10 Za a0)),(1,(i64 a1)),(2,(u64 a2))]) 7 10 57 (by kernel_rfl) (by kernel_rfl) (by kernel_rfl) ?_
 refine AWP.pick (st':=[(0,(slc 10 Za a0)),(1,(i64 a1)),(2,(u64 a2)),(7,(.own 0 (List.length ([]:(List (Arr5 api_Range))))))]) (ks:=[0,1,2,7]) (by kernel_rfl) ?_
 refine AWP.seq ?_
 refine .seq (.rg0 [] [(0,(slc 10 Za a0)),(1,(i64 a1)),(2,(u64 a2)),(7,(.own 0 (List.length ([]:(List (Arr5 api_Range)))))),(8,(i64 (0:Int)))] ?_)
 obtain ⟨v74,h75,hF⟩:=bindb hF
 refine AWP.mid (fun e st H=>e=.normal∧st=[(7,(.own 0 (List.length v74)))]∧H=[bf 10 57 Za v74 false]) ?_ ?_
 ·clear hF
  refine AWP.kp [0,1,2,7,8] 1 ?_
  refine AWP.bround (fun n st H=>∃ (v37:(List (Arr5 api_Range))),∃ (v38:Int),Zdj a0 a1 a2 n v37 v38=some v74∧st=[(0,(slc 10 Za a0)),(1,(i64 a1)),(2,(u64 a2)),(7,(.own 0 (List.length v37))),(8,(i64 v38))]∧H=[bf 10 57 Za v37 false]) fuel ⟨([]:(List (Arr5 api_Range))),(0:Int),h75,by kernel_rfl,by kernel_rfl⟩ ?_
  rintro n76 st H ⟨v37,v38,hF,rfl,rfl⟩
  cases n76 with
  | zero=>exact noneb hF
  | succ n76=>
   rw [Zdj] at hF
   refine AWP.seq ?_
   refine .seq (.rg0 [(2,.len Za a0)] [(0,(slc 10 Za a0)),(1,(i64 a1)),(2,(u64 a2)),(7,(.own 0 (List.length v37))),(8,(i64 v38)),(12,(vb (decide (v38<(List.length a0:Int)))))] ?_)
   refine AWP.cif hF (fun h111 hF=>?_) (fun h111 hF=>?_)
   ·refine AWP.skip ?_
    obtain ⟨v93,h94,hF⟩:=bindb hF
    refine AWP.seq ?_
    refine AWP.mid (fun e st H=>e=.normal∧st=[(0,(slc 10 Za a0)),(1,(i64 a1)),(2,(u64 a2)),(7,(.own 0 (List.length v93))),(8,(i64 v38))]∧H=[bf 10 57 Za v93 false]) ?_ ?_
    ·clear hF
     have hF:=h94
     refine AWP.block ?_
     refine AWP.seq ?_
     obtain ⟨x95,h96,hF⟩:=bindb hF
     obtain ⟨h97,hF⟩:=chkb hF
     obtain ⟨b98,h99,hF⟩:=bindb hF
     replace h99:=someb h99
     obtain ⟨v103,h104,hF⟩:=bindb hF
     refine AWP.to [(0,(slc 10 Za a0)),(1,(i64 a1)),(2,(u64 a2)),(7,(.own 0 (List.length v37))),(8,(i64 v38)),(36,(vb v103))] [bf 10 57 Za v37 false] ?_ ?_
     ·cases b98 with
      | false=>
       have h105:=someb (ifF h104 rfl)
       subst h105
       exact AWP.rgT [(3,.idx Za h96),(4,.ixd h97),(6,.ldA Zf (Arr5.get x95) 0 2 0 h97),(10,.bool h99)]
      | true=>
       have h106:=ifT h104 rfl
       obtain ⟨x100,h101,h106⟩:=bindb h106
       obtain ⟨h102,h106⟩:=chkb h106
       replace h106:=someb h106
       subst h106
       exact AWP.rgT [(3,.idx Za h96),(4,.ixd h97),(6,.ldA Zf (Arr5.get x95) 0 2 0 h97),(10,.bool h99),(15,.idx Za h101),(16,.ixd h102),(18,.ldA Zf (Arr5.get x100) 0 2 1 h102)]
     refine AWP.cif hF (fun h110 hF=>?_) (fun h110 hF=>?_)
     ·obtain ⟨x107,h108,hF⟩:=bindb hF
      obtain ⟨h109,hF⟩:=chkb hF
      refine AWP.rg [(3,.idx Za h108),(6,.app Za (fun _=>by kernel_rfl) h109)] [(0,(slc 10 Za a0)),(1,(i64 a1)),(2,(u64 a2)),(7,(.own 0 (List.length (v37++[x107])))),(8,(i64 v38))] [bf 10 57 Za (v37++[x107]) false] ?_
      refine LeQ.start ?_
      refine LeQ.pk [0,1,2,7,8] 1 ?_
      have hr:=someb hF
      subst hr
      exact ⟨rfl,by kernel_rfl,by kernel_rfl⟩
     ·refine AWP.skip ?_
      refine LeQ.start ?_
      refine LeQ.pk [0,1,2,7,8] 1 ?_
      have hr:=someb hF
      subst hr
      exact ⟨rfl,by kernel_rfl,by kernel_rfl⟩
    ·rintro _ _ _ ⟨rfl,rfl,rfl⟩
     refine AWP.rg0 [] [(0,(slc 10 Za a0)),(1,(i64 a1)),(2,(u64 a2)),(7,(.own 0 (List.length v93))),(8,(i64 (IntKind.wrap .i64 (v38 + (1:Int)))))] ?_
     refine LeQ.start ?_
     refine LeQ.pk [0,1,2,7,8] 1 ?_
     exact ⟨n76,Nat.lt_succ_self _,v93,(IntKind.wrap .i64 (v38 + (1:Int))),hF,by kernel_rfl,by kernel_rfl⟩
   ·refine AWP.exit ?_
    refine LeQ.start ?_
    refine LeQ.pk [7] 1 ?_
    have hr:=someb hF
    subst hr
    exact ⟨rfl,by kernel_rfl,by kernel_rfl⟩
 ·rintro _ _ _ ⟨rfl,rfl,rfl⟩
  refine .seq (.rg0 [] [(6,(.own 0 (List.length v74)))] ?_)
  refine AWP.ret ?_
  have hr:=someb hF
  subst hr
  exact (FnQ.f1 0 (.inr rfl) (.inl (Wk.ownT (i:=0) (s:=10) (t:=57) (l:=v74) (sh:=false) (row:=Za) (by kernel_rfl) (.inl rfl))))
def Zii (r:Bool):PV→List Blk→Prop:=fun p K=>p=(vb r)∧K=[]
abbrev Zkp (r:Bool):Exit→St→List Blk→Prop:=FnQ Tryz.prog Tryz.f111.results 0 (Zii r)
theorem Zkq (a0:(List (Arr5 api_Range))) (a1:(List (Arr5 api_Range))) (r:Bool) (hF:Zen a0 a1=some r):ACall Tryz.prog glob 111 [(slc 10 Za a0),(slc 10 Za a1)] [] (Zii r):=by
 refine ACall.body Tryz.func111 rfl (by kernel_rfl) ?_
 unfold Zen at hF
 refine .seq (.rg0 [] [(0,(slc 10 Za a0)),(1,(slc 10 Za a1))] ?_)
 refine AWP.seq ?_
 refine .seq (.rg0 [(1,.len Za a0),(3,.len Za a1)] [(0,(slc 10 Za a0)),(1,(slc 10 Za a1)),(10,(vb ((List.length a0:Int) != (List.length a1:Int))))] ?_)
 refine AWP.cif hF (fun h18 hF=>?_) (fun h18 hF=>?_)
 ·refine .seq (.rg0 [] [(4,(vb false))] ?_)
  refine AWP.ret ?_
  have hr:=someb hF
  subst hr
  exact (FnQ.f0 0 (.inr rfl))
 ·refine AWP.skip ?_
  refine AWP.seq ?_
  refine .seq (.rg0 [] [(0,(slc 10 Za a0)),(1,(slc 10 Za a1)),(5,(i64 (0:Int)))] ?_)
  obtain ⟨o8,h9,hF⟩:=bindb hF
  refine AWP.mid (fun e st H=>(e=.normal∧o8=(.inl ())∧st=[]∧H=[])∨(e=.ret∧∃ (r:Bool),o8=(.inr r)∧Zkp r e st H)) ?_ ?_
  ·clear hF
   refine AWP.kp [0,1,5] 0 ?_
   refine AWP.bround (fun n st H=>∃ (v1:Int),Zcz a0 a1 n v1=some o8∧st=[(0,(slc 10 Za a0)),(1,(slc 10 Za a1)),(5,(i64 v1))]∧H=[]) fuel ⟨(0:Int),h9,by kernel_rfl,by kernel_rfl⟩ ?_
   rintro n10 st H ⟨v1,hF,rfl,rfl⟩
   cases n10 with
   | zero=>exact noneb hF
   | succ n10=>
    rw [Zcz] at hF
    refine AWP.seq ?_
    refine .seq (.rg0 [(2,.len Za a0)] [(0,(slc 10 Za a0)),(1,(slc 10 Za a1)),(5,(i64 v1)),(14,(vb (decide (v1<(List.length a0:Int)))))] ?_)
    refine AWP.cif hF (fun h16 hF=>?_) (fun h16 hF=>?_)
    ·refine AWP.skip ?_
     refine AWP.seq ?_
     refine AWP.block ?_
     refine AWP.seq ?_
     obtain ⟨x11,h12,hF⟩:=bindb hF
     obtain ⟨x13,h14,hF⟩:=bindb hF
     refine AWP.dr [(2,.idx Za h12),(6,.idx Za h14)] 9 [] [] [] [(0,(slc 10 Za a0)),(1,(slc 10 Za a1)),(5,(i64 v1)),(25,(vb (!(Zd5 x11 x13))))] [] ?_
     refine AWP.cif hF (fun h15 hF=>?_) (fun h15 hF=>?_)
     ·refine .seq (.rg0 [] [(4,(vb false))] ?_)
      refine AWP.ret ?_
      exact LeQ.of (.inr ⟨rfl,false,(someb hF).symm,(FnQ.f0 0 (.inr rfl))⟩)
     ·refine AWP.skip ?_
      refine AWP.rg0 [] [(0,(slc 10 Za a0)),(1,(slc 10 Za a1)),(5,(i64 (IntKind.wrap .i64 (v1 + (1:Int)))))] ?_
      refine LeQ.start ?_
      refine LeQ.pk [0,1,5] 0 ?_
      exact ⟨n10,Nat.lt_succ_self _,(IntKind.wrap .i64 (v1 + (1:Int))),hF,by kernel_rfl,by kernel_rfl⟩
    ·refine AWP.exit ?_
     refine LeQ.start ?_
     refine LeQ.pk [] 0 ?_
     exact (.inl ⟨rfl,(someb hF).symm,by kernel_rfl,by kernel_rfl⟩)
  ·rintro _ _ _ (⟨rfl,rfl,rfl,rfl⟩ | ⟨rfl,r17,rfl,hq⟩)
   ·refine .seq (.rg0 [] [(4,(vb true))] ?_)
    refine AWP.ret ?_
    have hr:=someb hF
    subst hr
    exact (FnQ.f0 0 (.inr rfl))
   ·have hr:=someb hF
    subst hr
    exact hq
def Zh3 (r:(List (Arr5 api_Range))):PV→List Blk→Prop:=fun p K=>p=(slc 10 Za r)∧K=[]
theorem Zjf:∀ (nr:Nat) (a0:(List (Arr5 api_Range))) (a1:(List (Arr5 api_Range))) (a2:Int) (a3:Int) (r:(List (Arr5 api_Range))) (hF:Zbe nr a0 a1 a2 a3=some r),ACall Tryz.prog glob 60 [(slc 10 Za a0),(slc 10 Za a1),(i64 a2),(i64 a3)] [] (Zh3 r):=by
 intro nr
 induction nr with
 | zero=>intro a0 a1 a2 a3 r hF; exact noneb (by rw [Zbe] at hF; exact hF)
 | succ nr ih=>
  intro a0 a1 a2 a3 r hF
  refine ACall.body Tryz.func60 rfl (by kernel_rfl) ?_
  rw [Zbe] at hF
  refine .seq (.rg0 [] [(0,(slc 10 Za a0)),(1,(slc 10 Za a1)),(2,(i64 a2)),(3,(i64 a3))] ?_)
  refine AWP.seq ?_
  refine .seq (.rg0 [] [(0,(slc 10 Za a0)),(1,(slc 10 Za a1)),(2,(i64 a2)),(3,(i64 a3)),(19,(vb (a3 == (5:Int))))] ?_)
  refine AWP.cif hF (fun h570 hF=>?_) (fun h570 hF=>?_)
  ·refine AWP.seq ?_
   refine AWP.seq ?_
   obtain ⟨r1,h2,hF⟩:=bindb hF
   refine AWP.rg0 [(2,.len Za a0),(5,.len Za a1),(7,.call Tryz.func106 [] (Zkf a2 (decide ((List.length a0:Int) > (0:Int))) (decide ((List.length a1:Int) > (0:Int))) r1 h2))] [(27,(vb r1))] ?_
   refine AWP.cif hF (fun h3 hF=>?_) (fun h3 hF=>?_)
   ·refine .seq (.rg0 [] [(8,(slc 10 Za [(Arr5.mk Zi Zi Zi Zi Zi)]))] ?_)
    refine AWP.ret ?_
    have hr:=someb hF
    subst hr
    exact (FnQ.f0 0 (.inr rfl))
   ·refine AWP.skip ?_
    refine .seq (.rg0 [] [(8,nils)] ?_)
    refine AWP.ret ?_
    have hr:=someb hF
    subst hr
    exact (FnQ.f1 0 (.inr rfl) (.inl (.nil 10)))
  ·refine AWP.skip ?_
   refine AWP.seq ?_
   refine AWP.seq ?_
   obtain ⟨r4,h5,hF⟩:=bindb hF
   refine AWP.rg0 [(2,.len Za a0),(5,.len Za a1),(7,.call Tryz.func107 [] (Zko a2 (decide ((List.length a0:Int) > (0:Int))) (decide ((List.length a1:Int) > (0:Int))) r4 h5))] [(0,(slc 10 Za a0)),(1,(slc 10 Za a1)),(2,(i64 a2)),(3,(i64 a3)),(37,(vb r4))] ?_
   refine AWP.cif hF (fun h569 hF=>?_) (fun h569 hF=>?_)
   ·refine .seq (.rg0 [] [(8,nils)] ?_)
    refine AWP.ret ?_
    have hr:=someb hF
    subst hr
    exact (FnQ.f1 0 (.inr rfl) (.inl (.nil 10)))
   ·refine AWP.skip ?_
    refine .seq (.rg0 [] [(0,(slc 10 Za a0)),(1,(slc 10 Za a1)),(2,(i64 a2)),(3,(i64 a3)),(9,nils),(10,nils)] ?_)
    refine AWP.own (H':=[bf 10 57 Za ([]:(List (Arr5 api_Range))) false]) (st':=[(9,(.own 0 (List.length ([]:(List (Arr5 api_Range)))))),(0,(slc 10 Za a0)),(1,(slc 10 Za a1)),(2,(i64 a2)),(3,(i64 a3)),(10,nils)]) 9 10 57 (by kernel_rfl) (by kernel_rfl) (by kernel_rfl) ?_
    refine AWP.pick (st':=[(0,(slc 10 Za a0)),(1,(slc 10 Za a1)),(2,(i64 a2)),(3,(i64 a3)),(9,(.own 0 (List.length ([]:(List (Arr5 api_Range)))))),(10,nils)]) (ks:=[0,1,2,3,9,10]) (by kernel_rfl) ?_
    refine AWP.seq ?_
    obtain ⟨r6,h7,hF⟩:=bindb hF
    obtain ⟨r8,h9,hF⟩:=bindb hF
    obtain ⟨r10,h11,hF⟩:=bindb hF
    refine AWP.rg0 [(3,.call Tryz.func109 [] (Zjx a0 a1 a3 r6 h7)),(5,.call Tryz.func43 [] (Zge a3 r8 h9)),(6,.call Tryz.func108 [] (Zj0 r6 r8 r10 h11))] [(0,(slc 10 Za a0)),(1,(slc 10 Za a1)),(2,(i64 a2)),(3,(i64 a3)),(9,(.own 0 (List.length ([]:(List (Arr5 api_Range)))))),(10,nils),(11,(slc 1 Zb r10))] ?_
    refine AWP.seq ?_
    refine .seq (.rg0 [] [(0,(slc 10 Za a0)),(1,(slc 10 Za a1)),(2,(i64 a2)),(3,(i64 a3)),(9,(.own 0 (List.length ([]:(List (Arr5 api_Range)))))),(10,nils),(11,(slc 1 Zb r10)),(12,(i64 (0:Int)))] ?_)
    obtain ⟨v383,h384,hF⟩:=bindb hF
    refine AWP.mid (fun e st H=>e=.normal∧st=[(9,(.own 0 (List.length v383)))]∧H=[bf 10 57 Za v383 false]) ?_ ?_
    ·clear hF
     refine AWP.wk (p:=nils) (q:=(slc 10 Za ([]:(List (Arr5 api_Range))))) (st':=[(10,(slc 10 Za ([]:(List (Arr5 api_Range))))),(0,(slc 10 Za a0)),(1,(slc 10 Za a1)),(2,(i64 a2)),(3,(i64 a3)),(9,(.own 0 (List.length ([]:(List (Arr5 api_Range)))))),(11,(slc 1 Zb r10)),(12,(i64 (0:Int)))]) 10 (by kernel_rfl) (.nil 10) (by kernel_rfl) ?_
     refine AWP.kp [0,1,2,3,9,10,11,12] 1 ?_
     refine AWP.bround (fun n st H=>∃ (v197:(List (Arr5 api_Range))),∃ (v198:(List (Arr5 api_Range))),∃ (v199:Int),Zcu a0 a1 a2 a3 (Zbe nr) r10 n v197 v198 v199=some v383∧st=[(0,(slc 10 Za a0)),(1,(slc 10 Za a1)),(2,(i64 a2)),(3,(i64 a3)),(9,(.own 0 (List.length v197))),(10,(slc 10 Za v198)),(11,(slc 1 Zb r10)),(12,(i64 v199))]∧H=[bf 10 57 Za v197 false]) fuel ⟨([]:(List (Arr5 api_Range))),([]:(List (Arr5 api_Range))),(0:Int),h384,by kernel_rfl,by kernel_rfl⟩ ?_
     rintro n385 st H ⟨v197,v198,v199,hF,rfl,rfl⟩
     cases n385 with
     | zero=>exact noneb hF
     | succ n385=>
      rw [Zcu] at hF
      refine AWP.seq ?_
      refine .seq (.rg0 [(2,.len Zb r10)] [(0,(slc 10 Za a0)),(1,(slc 10 Za a1)),(2,(i64 a2)),(3,(i64 a3)),(9,(.own 0 (List.length v197))),(10,(slc 10 Za v198)),(11,(slc 1 Zb r10)),(12,(i64 v199)),(48,(vb (decide (v199<(List.length r10:Int)))))] ?_)
      refine AWP.cif hF (fun h568 hF=>?_) (fun h568 hF=>?_)
      ·refine AWP.skip ?_
       obtain ⟨o477,h478,hF⟩:=bindb hF
       refine AWP.seq ?_
       refine AWP.mid (fun e st H=>(e=.normal∧∃ (v475:(List (Arr5 api_Range))),∃ (v476:(List (Arr5 api_Range))),o477=(v475,v476)∧st=[(0,(slc 10 Za a0)),(1,(slc 10 Za a1)),(2,(i64 a2)),(3,(i64 a3)),(9,(.own 0 (List.length v475))),(10,(slc 10 Za v476)),(11,(slc 1 Zb r10)),(12,(i64 v199))]∧H=[bf 10 57 Za v475 false])) ?_ ?_
       ·clear hF
        have hF:=h478
        refine AWP.block ?_
        refine AWP.seq ?_
        obtain ⟨r479,h480,hF⟩:=bindb hF
        refine AWP.rg0 [(1,.call Tryz.func43 [] (Zge a3 r479 h480))] [(0,(slc 10 Za a0)),(1,(slc 10 Za a1)),(2,(i64 a2)),(3,(i64 a3)),(9,(.own 0 (List.length v197))),(10,(slc 10 Za v198)),(11,(slc 1 Zb r10)),(12,(i64 v199)),(13,(u64 (IntKind.wrap .u64 r479)))] ?_
        obtain ⟨v484,h485,hF⟩:=bindb hF
        refine AWP.seq ?_
        refine AWP.mid (fun e st H=>e=.normal∧st=[(0,(slc 10 Za a0)),(1,(slc 10 Za a1)),(2,(i64 a2)),(3,(i64 a3)),(9,(.own 0 (List.length v197))),(10,(slc 10 Za v198)),(11,(slc 1 Zb r10)),(12,(i64 v199)),(13,(u64 v484))]∧H=[bf 10 57 Za v197 false]) ?_ ?_
        ·clear hF
         have hF:=h485
         refine .seq (.rg0 [(3,.len Zb r10)] [(0,(slc 10 Za a0)),(1,(slc 10 Za a1)),(2,(i64 a2)),(3,(i64 a3)),(9,(.own 0 (List.length v197))),(10,(slc 10 Za v198)),(11,(slc 1 Zb r10)),(12,(i64 v199)),(13,(u64 (IntKind.wrap .u64 r479))),(58,(vb (decide ((IntKind.wrap .i64 (v199 + (1:Int)))<(List.length r10:Int)))))] ?_)
         refine AWP.cif hF (fun h488 hF=>?_) (fun h488 hF=>?_)
         ·obtain ⟨x486,h487,hF⟩:=bindb hF
          refine AWP.rg0 [(3,.idx Zb h487)] [(0,(slc 10 Za a0)),(1,(slc 10 Za a1)),(2,(i64 a2)),(3,(i64 a3)),(9,(.own 0 (List.length v197))),(10,(slc 10 Za v198)),(11,(slc 1 Zb r10)),(12,(i64 v199)),(13,(u64 (IntKind.wrap .u64 (x486 - (1:Int)))))] ?_
          refine LeQ.start ?_
          refine LeQ.pk [0,1,2,3,9,10,11,12,13] 1 ?_
          have hr:=someb hF
          subst hr
          exact ⟨rfl,by kernel_rfl,by kernel_rfl⟩
         ·refine AWP.skip ?_
          refine LeQ.start ?_
          refine LeQ.pk [0,1,2,3,9,10,11,12,13] 1 ?_
          have hr:=someb hF
          subst hr
          exact ⟨rfl,by kernel_rfl,by kernel_rfl⟩
        ·rintro _ _ _ ⟨rfl,rfl,rfl⟩
         refine AWP.seq ?_
         obtain ⟨x489,h490,hF⟩:=bindb hF
         obtain ⟨r491,h492,hF⟩:=bindb hF
         obtain ⟨x493,h494,hF⟩:=bindb hF
         obtain ⟨r495,h496,hF⟩:=bindb hF
         obtain ⟨r497,h498,hF⟩:=bindb hF
         refine AWP.dr [(4,.idx Zb h490),(6,.call Tryz.func110 [] (Zi9 a0 a3 x489 r491 h492)),(11,.idx Zb h494),(13,.call Tryz.func110 [] (Zi9 a1 a3 x493 r495 h496)),(17,.call Tryz.func60 [] (ih r491 r495 a2 (IntKind.wrap .i64 (a3 + (1:Int))) r497 h498))] 18 [] [] [] [(0,(slc 10 Za a0)),(1,(slc 10 Za a1)),(2,(i64 a2)),(3,(i64 a3)),(9,(.own 0 (List.length v197))),(10,(slc 10 Za v198)),(11,(slc 1 Zb r10)),(12,(i64 v199)),(13,(u64 v484)),(14,(slc 10 Za r497))] [bf 10 57 Za v197 false] ?_
         refine AWP.seq ?_
         refine AWP.seq ?_
         obtain ⟨b499,h500,hF⟩:=bindb hF
         replace h500:=someb h500
         obtain ⟨b501,h502,hF⟩:=bindb hF
         replace h502:=someb h502
         obtain ⟨v505,h506,hF⟩:=bindb hF
         refine AWP.to [(0,(slc 10 Za a0)),(1,(slc 10 Za a1)),(2,(i64 a2)),(3,(i64 a3)),(9,(.own 0 (List.length v197))),(10,(slc 10 Za v198)),(11,(slc 1 Zb r10)),(12,(i64 v199)),(13,(u64 v484)),(14,(slc 10 Za r497)),(94,(vb v505))] [bf 10 57 Za v197 false] ?_ ?_
         ·cases b499 with
          | false=>
           subst h502
           have h507:=someb (ifF h506 rfl)
           subst h507
           exact AWP.rgT [(2,.bool h500)]
          | true=>
           cases b501 with
           | false=>
            have h508:=someb (ifF h506 rfl)
            subst h508
            exact AWP.rgT [(2,.bool h500),(4,.len Za r497),(7,.bool h502)]
           | true=>
            have h509:=ifT h506 rfl
            obtain ⟨r503,h504,h509⟩:=bindb h509
            replace h509:=someb h509
            subst h509
            exact AWP.rgT [(2,.bool h500),(4,.len Za r497),(7,.bool h502),(10,.call Tryz.func111 [] (Zkq r497 v198 r503 h504))]
         refine AWP.cif hF (fun h567 hF=>?_) (fun h567 hF=>?_)
         ·refine AWP.seq ?_
          refine .seq (.rg0 [(1,.len Za v197),(3,.len Za r497)] [(0,(slc 10 Za a0)),(1,(slc 10 Za a1)),(2,(i64 a2)),(3,(i64 a3)),(9,(.own 0 (List.length v197))),(10,(slc 10 Za v198)),(11,(slc 1 Zb r10)),(12,(i64 v199)),(13,(u64 v484)),(15,(i64 (IntKind.wrap .i64 ((List.length v197:Int) - (List.length r497:Int)))))] ?_)
          obtain ⟨v525,h526,hF⟩:=bindb hF
          refine AWP.mid (fun e st H=>e=.normal∧st=[(0,(slc 10 Za a0)),(1,(slc 10 Za a1)),(2,(i64 a2)),(3,(i64 a3)),(9,(.own 0 (List.length v525))),(10,(slc 10 Za v198)),(11,(slc 1 Zb r10)),(12,(i64 v199))]∧H=[bf 10 57 Za v525 false]) ?_ ?_
          ·clear hF
           refine AWP.kp [0,1,2,3,9,10,11,12,13,15] 1 ?_
           refine AWP.bround (fun n st H=>∃ (v517:(List (Arr5 api_Range))),∃ (v518:Int),Zct a3 v484 n v517 v518=some v525∧st=[(0,(slc 10 Za a0)),(1,(slc 10 Za a1)),(2,(i64 a2)),(3,(i64 a3)),(9,(.own 0 (List.length v517))),(10,(slc 10 Za v198)),(11,(slc 1 Zb r10)),(12,(i64 v199)),(13,(u64 v484)),(15,(i64 v518))]∧H=[bf 10 57 Za v517 false]) fuel ⟨v197,(IntKind.wrap .i64 ((List.length v197:Int) - (List.length r497:Int))),h526,by kernel_rfl,by kernel_rfl⟩ ?_
           rintro n527 st H ⟨v517,v518,hF,rfl,rfl⟩
           cases n527 with
           | zero=>exact noneb hF
           | succ n527=>
            rw [Zct] at hF
            refine AWP.seq ?_
            refine .seq (.rg0 [(2,.len Za v517)] [(0,(slc 10 Za a0)),(1,(slc 10 Za a1)),(2,(i64 a2)),(3,(i64 a3)),(9,(.own 0 (List.length v517))),(10,(slc 10 Za v198)),(11,(slc 1 Zb r10)),(12,(i64 v199)),(13,(u64 v484)),(15,(i64 v518)),(103,(vb (decide (v518<(List.length v517:Int)))))] ?_)
            refine AWP.cif hF (fun h533 hF=>?_) (fun h533 hF=>?_)
            ·refine AWP.skip ?_
             refine AWP.seq ?_
             refine AWP.block ?_
             obtain ⟨x528,h529,hF⟩:=bindb hF
             obtain ⟨h530,hF⟩:=chkb hF
             refine AWP.rg [(5,.idx Za h529),(6,.ixE Za v517 v518 h530),(7,.fdE Za v517 v518),(8,.stEd Za h529 (fun q532=>(Arr5.set x528 q532 ({ (Arr5.get x528 q532) with Hi:=(IntKind.wrap .u32 v484) }:api_Range))) 0 2 1 h530)] [(0,(slc 10 Za a0)),(1,(slc 10 Za a1)),(2,(i64 a2)),(3,(i64 a3)),(9,(.own 0 (List.length v517))),(10,(slc 10 Za v198)),(11,(slc 1 Zb r10)),(12,(i64 v199)),(13,(u64 v484)),(15,(i64 v518))] [bf 10 57 Za (List.set v517 (Int.toNat v518) (Arr5.set x528 a3 ({ (Arr5.get x528 a3) with Hi:=(IntKind.wrap .u32 v484) }:api_Range))) false] ?_
             rw [show ([(0,(slc 10 Za a0)),(1,(slc 10 Za a1)),(2,(i64 a2)),(3,(i64 a3)),(9,(.own 0 (List.length v517))),(10,(slc 10 Za v198)),(11,(slc 1 Zb r10)),(12,(i64 v199)),(13,(u64 v484)),(15,(i64 v518))]:St)=[(0,(slc 10 Za a0)),(1,(slc 10 Za a1)),(2,(i64 a2)),(3,(i64 a3)),(9,(.own 0 (List.length (List.set v517 (Int.toNat v518) (Arr5.set x528 a3 ({ (Arr5.get x528 a3) with Hi:=(IntKind.wrap .u32 v484) }:api_Range)))))),(10,(slc 10 Za v198)),(11,(slc 1 Zb r10)),(12,(i64 v199)),(13,(u64 v484)),(15,(i64 v518))] by simp only [List.length_set]]
             refine AWP.rg0 [] [(0,(slc 10 Za a0)),(1,(slc 10 Za a1)),(2,(i64 a2)),(3,(i64 a3)),(9,(.own 0 (List.length (List.set v517 (Int.toNat v518) (Arr5.set x528 a3 ({ (Arr5.get x528 a3) with Hi:=(IntKind.wrap .u32 v484) }:api_Range)))))),(10,(slc 10 Za v198)),(11,(slc 1 Zb r10)),(12,(i64 v199)),(13,(u64 v484)),(15,(i64 (IntKind.wrap .i64 (v518 + (1:Int)))))] ?_
             refine LeQ.start ?_
             refine LeQ.pk [0,1,2,3,9,10,11,12,13,15] 1 ?_
             exact ⟨n527,Nat.lt_succ_self _,(List.set v517 (Int.toNat v518) (Arr5.set x528 a3 ({ (Arr5.get x528 a3) with Hi:=(IntKind.wrap .u32 v484) }:api_Range))),(IntKind.wrap .i64 (v518 + (1:Int))),hF,by kernel_rfl,by kernel_rfl⟩
            ·refine AWP.exit ?_
             refine LeQ.start ?_
             refine LeQ.pk [0,1,2,3,9,10,11,12] 1 ?_
             have hr:=someb hF
             subst hr
             exact ⟨rfl,by kernel_rfl,by kernel_rfl⟩
          ·rintro _ _ _ ⟨rfl,rfl,rfl⟩
           refine AWP.exit ?_
           refine LeQ.start ?_
           refine LeQ.pk [0,1,2,3,9,10,11,12] 1 ?_
           exact ⟨rfl,v525,v198,(someb hF).symm,by kernel_rfl,by kernel_rfl⟩
         ·refine AWP.skip ?_
          refine .seq (.rg0 [] [(0,(slc 10 Za a0)),(1,(slc 10 Za a1)),(2,(i64 a2)),(3,(i64 a3)),(9,(.own 0 (List.length v197))),(10,(slc 10 Za r497)),(11,(slc 1 Zb r10)),(12,(i64 v199)),(13,(u64 v484)),(14,(slc 10 Za r497))] ?_)
          refine .seq (.rg0 [] [(0,(slc 10 Za a0)),(1,(slc 10 Za a1)),(2,(i64 a2)),(3,(i64 a3)),(9,(.own 0 (List.length v197))),(10,(slc 10 Za r497)),(11,(slc 1 Zb r10)),(12,(i64 v199)),(13,(u64 v484)),(14,(slc 10 Za r497)),(16,(i64 (0:Int)))] ?_)
          obtain ⟨v555,h556,hF⟩:=bindb hF
          refine AWP.mid (fun e st H=>e=.normal∧st=[(0,(slc 10 Za a0)),(1,(slc 10 Za a1)),(2,(i64 a2)),(3,(i64 a3)),(9,(.own 0 (List.length v555))),(10,(slc 10 Za r497)),(11,(slc 1 Zb r10)),(12,(i64 v199))]∧H=[bf 10 57 Za v555 false]) ?_ ?_
          ·clear hF
           refine AWP.kp [0,1,2,3,9,10,11,12,13,14,16] 1 ?_
           refine AWP.bround (fun n st H=>∃ (v544:(List (Arr5 api_Range))),∃ (v545:Int),Zb9 a3 r10 v199 v484 r497 n v544 v545=some v555∧st=[(0,(slc 10 Za a0)),(1,(slc 10 Za a1)),(2,(i64 a2)),(3,(i64 a3)),(9,(.own 0 (List.length v544))),(10,(slc 10 Za r497)),(11,(slc 1 Zb r10)),(12,(i64 v199)),(13,(u64 v484)),(14,(slc 10 Za r497)),(16,(i64 v545))]∧H=[bf 10 57 Za v544 false]) fuel ⟨v197,(0:Int),h556,by kernel_rfl,by kernel_rfl⟩ ?_
           rintro n557 st H ⟨v544,v545,hF,rfl,rfl⟩
           cases n557 with
           | zero=>exact noneb hF
           | succ n557=>
            rw [Zb9] at hF
            refine AWP.seq ?_
            refine .seq (.rg0 [(2,.len Za r497)] [(0,(slc 10 Za a0)),(1,(slc 10 Za a1)),(2,(i64 a2)),(3,(i64 a3)),(9,(.own 0 (List.length v544))),(10,(slc 10 Za r497)),(11,(slc 1 Zb r10)),(12,(i64 v199)),(13,(u64 v484)),(14,(slc 10 Za r497)),(16,(i64 v545)),(118,(vb (decide (v545<(List.length r497:Int)))))] ?_)
            refine AWP.cif hF (fun h566 hF=>?_) (fun h566 hF=>?_)
            ·refine AWP.skip ?_
             refine AWP.seq ?_
             refine AWP.block ?_
             refine AWP.seq ?_
             obtain ⟨x558,h559,hF⟩:=bindb hF
             refine AWP.rg [(2,.idx Za h559)] [(0,(slc 10 Za a0)),(1,(slc 10 Za a1)),(2,(i64 a2)),(3,(i64 a3)),(9,(.own 0 (List.length v544))),(10,(slc 10 Za r497)),(11,(slc 1 Zb r10)),(12,(i64 v199)),(13,(u64 v484)),(14,(slc 10 Za r497)),(16,(i64 v545)),(17,(.ptr 1 0))] [bf 10 57 Za v544 false,.cells (Za x558)] ?_
             refine AWP.seq ?_
             obtain ⟨x560,h561,hF⟩:=bindb hF
             obtain ⟨h562,hF⟩:=chkb hF
             refine AWP.rg [(3,.idx Zb h561),(9,.ixd h562),(10,.stA (fun q564=>Za (Arr5.set x558 q564 (api_Range.mk (IntKind.wrap .u32 x560) (IntKind.wrap .u32 v484)))) 0 2 0 h562)] [(0,(slc 10 Za a0)),(1,(slc 10 Za a1)),(2,(i64 a2)),(3,(i64 a3)),(9,(.own 0 (List.length v544))),(10,(slc 10 Za r497)),(11,(slc 1 Zb r10)),(12,(i64 v199)),(13,(u64 v484)),(14,(slc 10 Za r497)),(16,(i64 v545)),(17,(.ptr 1 0))] [bf 10 57 Za v544 false,.cells (Za (Arr5.set x558 a3 (api_Range.mk (IntKind.wrap .u32 x560) (IntKind.wrap .u32 v484))))] ?_
             obtain ⟨h565,hF⟩:=chkb hF
             refine AWP.rg [(3,.app Za (fun _=>by kernel_rfl) h565)] [(0,(slc 10 Za a0)),(1,(slc 10 Za a1)),(2,(i64 a2)),(3,(i64 a3)),(9,(.own 0 (List.length (v544++[(Arr5.set x558 a3 (api_Range.mk (IntKind.wrap .u32 x560) (IntKind.wrap .u32 v484)))])))),(10,(slc 10 Za r497)),(11,(slc 1 Zb r10)),(12,(i64 v199)),(13,(u64 v484)),(14,(slc 10 Za r497)),(16,(i64 v545))] [bf 10 57 Za (v544++[(Arr5.set x558 a3 (api_Range.mk (IntKind.wrap .u32 x560) (IntKind.wrap .u32 v484)))]) false,.cells (Za (Arr5.set x558 a3 (api_Range.mk (IntKind.wrap .u32 x560) (IntKind.wrap .u32 v484))))] ?_
             refine AWP.rg0 [] [(0,(slc 10 Za a0)),(1,(slc 10 Za a1)),(2,(i64 a2)),(3,(i64 a3)),(9,(.own 0 (List.length (v544++[(Arr5.set x558 a3 (api_Range.mk (IntKind.wrap .u32 x560) (IntKind.wrap .u32 v484)))])))),(10,(slc 10 Za r497)),(11,(slc 1 Zb r10)),(12,(i64 v199)),(13,(u64 v484)),(14,(slc 10 Za r497)),(16,(i64 (IntKind.wrap .i64 (v545 + (1:Int)))))] ?_
             refine LeQ.start ?_
             refine LeQ.pk [0,1,2,3,9,10,11,12,13,14,16] 1 ?_
             exact ⟨n557,Nat.lt_succ_self _,(v544++[(Arr5.set x558 a3 (api_Range.mk (IntKind.wrap .u32 x560) (IntKind.wrap .u32 v484)))]),(IntKind.wrap .i64 (v545 + (1:Int))),hF,by kernel_rfl,by kernel_rfl⟩
            ·refine AWP.exit ?_
             refine LeQ.start ?_
             refine LeQ.pk [0,1,2,3,9,10,11,12] 1 ?_
             have hr:=someb hF
             subst hr
             exact ⟨rfl,by kernel_rfl,by kernel_rfl⟩
          ·rintro _ _ _ ⟨rfl,rfl,rfl⟩
           refine LeQ.start ?_
           refine LeQ.pk [0,1,2,3,9,10,11,12] 1 ?_
           exact ⟨rfl,v555,r497,(someb hF).symm,by kernel_rfl,by kernel_rfl⟩
       ·rintro _ _ _ ⟨rfl,v475,v476,rfl,rfl,rfl⟩
        refine AWP.rg0 [] [(0,(slc 10 Za a0)),(1,(slc 10 Za a1)),(2,(i64 a2)),(3,(i64 a3)),(9,(.own 0 (List.length v475))),(10,(slc 10 Za v476)),(11,(slc 1 Zb r10)),(12,(i64 (IntKind.wrap .i64 (v199 + (1:Int)))))] ?_
        refine LeQ.start ?_
        refine LeQ.pk [0,1,2,3,9,10,11,12] 1 ?_
        exact ⟨n385,Nat.lt_succ_self _,v475,v476,(IntKind.wrap .i64 (v199 + (1:Int))),hF,by kernel_rfl,by kernel_rfl⟩
      ·refine AWP.exit ?_
       refine LeQ.start ?_
       refine LeQ.pk [9] 1 ?_
       have hr:=someb hF
       subst hr
       exact ⟨rfl,by kernel_rfl,by kernel_rfl⟩
    ·rintro _ _ _ ⟨rfl,rfl,rfl⟩
     refine .seq (.rg0 [] [(8,(.own 0 (List.length v383)))] ?_)
     refine AWP.ret ?_
     have hr:=someb hF
     subst hr
     exact (FnQ.f1 0 (.inr rfl) (.inl (Wk.ownT (i:=0) (s:=10) (t:=57) (l:=v383) (sh:=false) (row:=Za) (by kernel_rfl) (.inl rfl))))
theorem Zh4 (a0:(List (Arr5 api_Range))) (a1:(List (Arr5 api_Range))) (a2:Int) (a3:Int) (r:(List (Arr5 api_Range))) (hF:Zbe fuel a0 a1 a2 a3=some r):ACall Tryz.prog glob 60 [(slc 10 Za a0),(slc 10 Za a1),(i64 a2),(i64 a3)] [] (Zh3 r):=Zjf fuel a0 a1 a2 a3 r hF
def Zjg (r:((List (Arr5 api_Range)) × Int)):PV→List Blk→Prop:=fun p K=>p=(.tup [(slc 10 Za r.1),(i64 r.2)])∧K=[]
theorem Zjh (a0:(List (Arr5 api_Range))) (r:((List (Arr5 api_Range)) × Int)) (hF:Zeh a0=some r):ACall Tryz.prog glob 97 [(slc 10 Za a0)] [] (Zjg r):=by
 refine ACall.body Tryz.func97 rfl (by kernel_rfl) ?_
 unfold Zeh at hF
 refine .seq (.rg0 [] [(0,(slc 10 Za a0))] ?_)
 refine AWP.seq ?_
 refine .seq (.rg0 [(1,.len Za a0)] [(0,(slc 10 Za a0)),(6,(vb (decide ((List.length a0:Int) > (4096:Int)))))] ?_)
 refine AWP.cif hF (fun h1 hF=>?_) (fun h1 hF=>?_)
 ·refine .seq (.rg0 [] [(2,nils),(3,(i64 (3:Int)))] ?_)
  refine AWP.ret ?_
  have hr:=someb hF
  subst hr
  exact (FnQ.f1 0 (.inr rfl) (.inr ⟨_,_,rfl,rfl,(.cons _ _ _ _ (.nil 10) (.cons _ _ _ _ (.refl _) .nil))⟩))
 ·refine AWP.skip ?_
  refine .seq (.rg0 [] [(2,(slc 10 Za a0)),(3,(i64 (0:Int)))] ?_)
  refine AWP.ret ?_
  have hr:=someb hF
  subst hr
  exact (FnQ.f0 0 (.inr rfl))
def Zij (r:((List (Arr5 api_Range)) × Int)):PV→List Blk→Prop:=fun p K=>p=(.tup [(slc 10 Za r.1),(i64 r.2)])∧K=[]
abbrev Zik (r:((List (Arr5 api_Range)) × Int)):Exit→St→List Blk→Prop:=FnQ Tryz.prog Tryz.f48.results 0 (Zij r)
theorem Zkr (a0:(List (Arr5 api_Range))) (r:((List (Arr5 api_Range)) × Int)) (hF:Zfi a0=some r):ACall Tryz.prog glob 48 [(slc 10 Za a0)] [] (Zij r):=by
 refine ACall.body Tryz.func48 rfl (by kernel_rfl) ?_
 unfold Zfi at hF
 refine .seq (.rg0 [] [(0,(slc 10 Za a0))] ?_)
 refine .seq (.rg0 [] [(0,(slc 10 Za a0)),(4,nils)] ?_)
 refine AWP.seq ?_
 refine .seq (.rg0 [] [(0,(slc 10 Za a0)),(4,nils),(5,(i64 (0:Int)))] ?_)
 obtain ⟨o31,h32,hF⟩:=bindb hF
 refine AWP.mid (fun e st H=>(e=.normal∧∃ (v30:(List (Arr5 api_Range))),o31=(.inl v30)∧st=[(4,(slc 10 Za v30))]∧H=[])∨(e=.ret∧∃ (r:((List (Arr5 api_Range)) × Int)),o31=(.inr r)∧Zik r e st H)) ?_ ?_
 ·clear hF
  refine AWP.wk (p:=nils) (q:=(slc 10 Za ([]:(List (Arr5 api_Range))))) (st':=[(4,(slc 10 Za ([]:(List (Arr5 api_Range))))),(0,(slc 10 Za a0)),(5,(i64 (0:Int)))]) 4 (by kernel_rfl) (.nil 10) (by kernel_rfl) ?_
  refine AWP.kp [0,4,5] 0 ?_
  refine AWP.bround (fun n st H=>∃ (v1:(List (Arr5 api_Range))),∃ (v2:Int),Zc0 a0 n v1 v2=some o31∧st=[(0,(slc 10 Za a0)),(4,(slc 10 Za v1)),(5,(i64 v2))]∧H=[]) fuel ⟨([]:(List (Arr5 api_Range))),(0:Int),h32,by kernel_rfl,by kernel_rfl⟩ ?_
  rintro n33 st H ⟨v1,v2,hF,rfl,rfl⟩
  cases n33 with
  | zero=>exact noneb hF
  | succ n33=>
   rw [Zc0] at hF
   refine AWP.seq ?_
   refine .seq (.rg0 [(2,.len Za a0)] [(0,(slc 10 Za a0)),(4,(slc 10 Za v1)),(5,(i64 v2)),(11,(vb (decide (v2<(List.length a0:Int)))))] ?_)
   refine AWP.cif hF (fun h60 hF=>?_) (fun h60 hF=>?_)
   ·refine AWP.skip ?_
    obtain ⟨o46,h47,hF⟩:=bindb hF
    refine AWP.seq ?_
    refine AWP.mid (fun e st H=>(e=.normal∧∃ (v45:(List (Arr5 api_Range))),o46=(.inl v45)∧st=[(0,(slc 10 Za a0)),(4,(slc 10 Za v45)),(5,(i64 v2))]∧H=[])∨(e=.ret∧∃ (r:((List (Arr5 api_Range)) × Int)),o46=(.inr r)∧Zik r e st H)) ?_ ?_
    ·clear hF
     have hF:=h47
     refine AWP.block ?_
     refine AWP.seq ?_
     refine AWP.seq ?_
     obtain ⟨x48,h49,hF⟩:=bindb hF
     obtain ⟨r50,h51,hF⟩:=bindb hF
     refine AWP.rg0 [(2,.idx Za h49),(4,.call Tryz.func96 [] (Zh2 x48 r50 h51))] [(0,(slc 10 Za a0)),(4,(slc 10 Za v1)),(5,(i64 v2)),(19,(vb (!r50)))] ?_
     refine AWP.cif hF (fun h58 hF=>?_) (fun h58 hF=>?_)
     ·refine AWP.exit ?_
      refine LeQ.start ?_
      refine LeQ.pk [0,4,5] 0 ?_
      exact (.inl ⟨rfl,v1,(someb hF).symm,by kernel_rfl,by kernel_rfl⟩)
     ·refine AWP.skip ?_
      refine AWP.seq ?_
      obtain ⟨h52,hF⟩:=chkb hF
      obtain ⟨r53,h54,hF⟩:=bindb hF
      obtain ⟨r55,h56,hF⟩:=bindb hF
      refine AWP.rg0 [(5,.slice Za a0 h52),(6,.call Tryz.func60 [] (Zh4 v1 (List.drop (Int.toNat v2) (List.take (Int.toNat (IntKind.wrap .i64 (v2 + (1:Int)))) a0)) (0:Int) (0:Int) r53 h54)),(7,.call Tryz.func97 [] (Zjh r53 r55 h56))] [(0,(slc 10 Za a0)),(5,(i64 v2)),(6,(slc 10 Za r55.1)),(7,(i64 r55.2))] ?_
      refine AWP.seq ?_
      refine .seq (.rg0 [] [(0,(slc 10 Za a0)),(5,(i64 v2)),(6,(slc 10 Za r55.1)),(7,(i64 r55.2)),(32,(vb (r55.2 != (0:Int))))] ?_)
      refine AWP.cif hF (fun h57 hF=>?_) (fun h57 hF=>?_)
      ·refine .seq (.rg0 [] [(2,nils),(3,(i64 r55.2))] ?_)
       refine AWP.ret ?_
       exact LeQ.of (.inr ⟨rfl,(([]:(List (Arr5 api_Range))),r55.2),(someb hF).symm,(FnQ.f1 0 (.inr rfl) (.inr ⟨_,_,rfl,rfl,(.cons _ _ _ _ (.nil 10) (.cons _ _ _ _ (.refl _) .nil))⟩))⟩)
      ·refine AWP.skip ?_
       refine AWP.rg0 [] [(0,(slc 10 Za a0)),(4,(slc 10 Za r55.1)),(5,(i64 v2))] ?_
       refine LeQ.start ?_
       refine LeQ.pk [0,4,5] 0 ?_
       exact (.inl ⟨rfl,r55.1,(someb hF).symm,by kernel_rfl,by kernel_rfl⟩)
    ·rintro _ _ _ (⟨rfl,v45,rfl,rfl,rfl⟩ | ⟨rfl,r59,rfl,hq⟩)
     ·refine AWP.rg0 [] [(0,(slc 10 Za a0)),(4,(slc 10 Za v45)),(5,(i64 (IntKind.wrap .i64 (v2 + (1:Int)))))] ?_
      refine LeQ.start ?_
      refine LeQ.pk [0,4,5] 0 ?_
      exact ⟨n33,Nat.lt_succ_self _,v45,(IntKind.wrap .i64 (v2 + (1:Int))),hF,by kernel_rfl,by kernel_rfl⟩
     ·exact LeQ.of (.inr ⟨rfl,r59,(someb hF).symm,hq⟩)
   ·refine AWP.exit ?_
    refine LeQ.start ?_
    refine LeQ.pk [4] 0 ?_
    exact (.inl ⟨rfl,v1,(someb hF).symm,by kernel_rfl,by kernel_rfl⟩)
 ·rintro _ _ _ (⟨rfl,v30,rfl,rfl,rfl⟩ | ⟨rfl,r61,rfl,hq⟩)
  ·refine .seq (.rg0 [] [(2,(slc 10 Za v30)),(3,(i64 (0:Int)))] ?_)
   refine AWP.ret ?_
   have hr:=someb hF
   subst hr
   exact (FnQ.f0 0 (.inr rfl))
  ·have hr:=someb hF
   subst hr
   exact hq
def Zji (r:((List (Arr5 api_Range)) × nsggen_Tape)):PV→List Blk→Prop:=fun p K=>p=(slc 10 Za r.1)∧K=[.cells (Zd r.2)]
theorem Zjj (a0:nsggen_Tape) (a1:Int) (r:((List (Arr5 api_Range)) × nsggen_Tape)) (hF:Zei a0 a1=some r):ACall Tryz.prog glob 15 [(.ptr 0 0),(i64 a1)] [.cells (Zd a0)] (Zji r):=by
 refine ACall.body Tryz.func15 rfl (by kernel_rfl) ?_
 unfold Zei at hF
 refine .seq (.rg0 [] [(0,(.ptr 0 0)),(1,(i64 a1))] ?_)
 refine AWP.seq ?_
 obtain ⟨r1,h2,hF⟩:=bindb hF
 obtain ⟨r3,h4,hF⟩:=bindb hF
 refine AWP.rg [(2,.call Tryz.func20 [] (Ziz a0 a1 false r1 h2)),(3,.call Tryz.func48 [] (Zkr r1.1 r3 h4))] [(5,(slc 10 Za r3.1))] [.cells (Zd r1.2)] ?_
 refine .seq (.rg0 [] [(4,(slc 10 Za r3.1))] ?_)
 refine AWP.ret ?_
 have hr:=someb hF
 subst hr
 exact (FnQ.f0 1 (.inr rfl))
def Zju (r:Bool):PV→List Blk→Prop:=fun p K=>p=(vb r)∧K=[]
abbrev Zk6 (r:Bool):Exit→St→List Blk→Prop:=FnQ Tryz.prog Tryz.f98.results 0 (Zju r)
theorem Zgb (a0:(Arr5 api_Range)) (r:Bool) (hF:Zem a0=some r):ACall Tryz.prog glob 98 [(Zl a0)] [] (Zju r):=by
 refine ACall.body Tryz.func98 rfl (by kernel_rfl) ?_
 unfold Zem at hF
 refine .seq (.rg [] [(1,(.ptr 0 0))] [.cells (Za a0)] ?_)
 refine AWP.seq ?_
 refine .seq (.rg0 [] [(5,(Zl a0)),(6,(i64 (0:Int)))] ?_)
 obtain ⟨o12,h13,hF⟩:=bindb hF
 refine AWP.mid (fun e st H=>(e=.normal∧o12=(.inl ())∧st=[]∧H=[.cells (Za a0)])∨(e=.ret∧∃ (r:Bool),o12=(.inr r)∧Zk6 r e st H)) ?_ ?_
 ·clear hF
  refine AWP.kp [5,6] 1 ?_
  refine AWP.bround (fun n st H=>∃ (v1:Int),Zad a0 n v1=some o12∧st=[(5,(Zl a0)),(6,(i64 v1))]∧H=[.cells (Za a0)]) fuel ⟨(0:Int),h13,by kernel_rfl,by kernel_rfl⟩ ?_
  rintro n14 st H ⟨v1,hF,rfl,rfl⟩
  cases n14 with
  | zero=>exact noneb hF
  | succ n14=>
   rw [Zad] at hF
   refine .seq (.rg0 [] [(5,(Zl a0)),(6,(i64 v1)),(7,(vb (decide (v1<(5:Int)))))] ?_)
   refine AWP.seq ?_
   refine AWP.cif hF (fun h24 hF=>?_) (fun h24 hF=>?_)
   ·refine AWP.skip ?_
    refine AWP.seq ?_
    refine AWP.block ?_
    refine AWP.seq ?_
    obtain ⟨h15,hF⟩:=chkb hF
    refine AWP.rg [(1,.ixA Zf (Arr5.get a0) h15)] [(3,(i64 v1)),(4,(.ptr 1 0)),(5,(Zl a0)),(6,(i64 v1))] [.cells (Za a0),.cells (Zf (Arr5.get a0 v1))] ?_
    refine AWP.seq ?_
    obtain ⟨b16,h17,hF⟩:=bindb hF
    replace h17:=someb h17
    obtain ⟨v19,h20,hF⟩:=bindb hF
    refine AWP.to [(5,(Zl a0)),(6,(i64 v1)),(22,(vb v19))] [.cells (Za a0),.cells (Zf (Arr5.get a0 v1))] ?_ ?_
    ·cases b16 with
     | false=>
      have h21:=ifF h20 rfl
      obtain ⟨h18,h21⟩:=chkb h21
      replace h21:=someb h21
      subst h21
      exact AWP.drT [(5,.bool h17),(9,.ixd h18),(10,.ldA Zfz (Arr5.get Zao) 0 1 0 h18)] 13 [] [] []
     | true=>
      have h22:=someb (ifT h20 rfl)
      subst h22
      exact AWP.drT [(5,.bool h17)] 13 [] [] []
    refine AWP.cif hF (fun h23 hF=>?_) (fun h23 hF=>?_)
    ·refine .seq (.rg0 [] [(2,(vb false))] ?_)
     refine AWP.ret ?_
     exact LeQ.of (.inr ⟨rfl,false,(someb hF).symm,(FnQ.f0 0 (.inr rfl))⟩)
    ·refine AWP.skip ?_
     refine AWP.rg0 [] [(5,(Zl a0)),(6,(i64 (IntKind.wrap .i64 (v1 + (1:Int)))))] ?_
     refine LeQ.start ?_
     refine LeQ.pk [5,6] 1 ?_
     exact ⟨n14,Nat.lt_succ_self _,(IntKind.wrap .i64 (v1 + (1:Int))),hF,by kernel_rfl,by kernel_rfl⟩
   ·refine AWP.exit ?_
    refine LeQ.start ?_
    refine LeQ.pk [] 1 ?_
    exact (.inl ⟨rfl,(someb hF).symm,by kernel_rfl,by kernel_rfl⟩)
 ·rintro _ _ _ (⟨rfl,rfl,rfl,rfl⟩ | ⟨rfl,r25,rfl,hq⟩)
  ·refine .seq (.rg0 [] [(2,(vb true))] ?_)
   refine AWP.ret ?_
   have hr:=someb hF
   subst hr
   exact (FnQ.f0 0 (.inr rfl))
  ·have hr:=someb hF
   subst hr
   exact hq
def Zg5 (r:Bool):PV→List Blk→Prop:=fun p K=>p=(vb r)∧K=[]
abbrev Zi0 (r:Bool):Exit→St→List Blk→Prop:=FnQ Tryz.prog Tryz.f52.results 0 (Zg5 r)
theorem Zfm (a0:api_Move) (r:Bool) (hF:Zci a0=some r):ACall Tryz.prog glob 52 [(Zf9 a0)] [] (Zg5 r):=by
 refine ACall.body Tryz.func52 rfl (by kernel_rfl) ?_
 unfold Zci at hF
 refine .seq (.rg [] [(1,(.ptr 0 0))] [.cells (Ze a0)] ?_)
 refine AWP.seq ?_
 refine AWP.seq ?_
 obtain ⟨r1,h2,hF⟩:=bindb hF
 obtain ⟨b3,h4,hF⟩:=bindb hF
 replace h4:=someb h4
 obtain ⟨v7,h8,hF⟩:=bindb hF
 refine AWP.to [(1,(.ptr 0 0)),(14,(vb v7))] [.cells (Ze a0)] ?_ ?_
 ·cases b3 with
  | false=>
   have h9:=ifF h8 rfl
   obtain ⟨r5,h6,h9⟩:=bindb h9
   replace h9:=someb h9
   subst h9
   exact AWP.rgT [(2,.call Tryz.func98 [] (Zgb a0.From r1 h2)),(4,.bool h4),(7,.call Tryz.func98 [] (Zgb a0.To r5 h6))]
  | true=>
   have h10:=someb (ifT h8 rfl)
   subst h10
   exact AWP.rgT [(2,.call Tryz.func98 [] (Zgb a0.From r1 h2)),(4,.bool h4)]
 refine AWP.cif hF (fun h26 hF=>?_) (fun h26 hF=>?_)
 ·refine .seq (.rg0 [] [(2,(vb false))] ?_)
  refine AWP.ret ?_
  have hr:=someb hF
  subst hr
  exact (FnQ.f0 0 (.inr rfl))
 ·refine AWP.skip ?_
  refine AWP.seq ?_
  refine .seq (.rg0 [] [(1,(.ptr 0 0)),(16,(Zl a0.From)),(17,(i64 (0:Int)))] ?_)
  obtain ⟨o17,h18,hF⟩:=bindb hF
  refine AWP.mid (fun e st H=>(e=.normal∧o17=(.inl ())∧st=[]∧H=[.cells (Ze a0)])∨(e=.ret∧∃ (r:Bool),o17=(.inr r)∧Zi0 r e st H)) ?_ ?_
  ·clear hF
   refine AWP.kp [1,16,17] 1 ?_
   refine AWP.bround (fun n st H=>∃ (v11:Int),Zb1 a0 n v11=some o17∧st=[(1,(.ptr 0 0)),(16,(Zl a0.From)),(17,(i64 v11))]∧H=[.cells (Ze a0)]) fuel ⟨(0:Int),h18,by kernel_rfl,by kernel_rfl⟩ ?_
   rintro n19 st H ⟨v11,hF,rfl,rfl⟩
   cases n19 with
   | zero=>exact noneb hF
   | succ n19=>
    rw [Zb1] at hF
    refine .seq (.rg0 [] [(1,(.ptr 0 0)),(16,(Zl a0.From)),(17,(i64 v11)),(18,(vb (decide (v11<(5:Int)))))] ?_)
    refine AWP.seq ?_
    refine AWP.cif hF (fun h24 hF=>?_) (fun h24 hF=>?_)
    ·refine AWP.skip ?_
     refine AWP.seq ?_
     refine AWP.block ?_
     refine AWP.seq ?_
     obtain ⟨h20,hF⟩:=chkb hF
     refine AWP.rg [(1,.ixA Zf (Arr5.get a0.From) h20)] [(1,(.ptr 0 0)),(3,(i64 v11)),(4,(.ptr 1 0)),(16,(Zl a0.From)),(17,(i64 v11))] [.cells (Ze a0),.cells (Zf (Arr5.get a0.From v11))] ?_
     refine AWP.seq ?_
     obtain ⟨h21,hF⟩:=chkb hF
     obtain ⟨h22,hF⟩:=chkb hF
     refine AWP.dr [(7,.ixd h21),(9,.ldA Zf (Arr5.get a0.To) 10 2 1 h21),(12,.ixd h22),(14,.ldA Zf (Arr5.get a0.To) 10 2 0 h22)] 17 [] [] [] [(1,(.ptr 0 0)),(16,(Zl a0.From)),(17,(i64 v11)),(37,(vb ((IntKind.wrap .u32 ((Arr5.get a0.From v11).Hi - (Arr5.get a0.From v11).Lo)) != (IntKind.wrap .u32 ((Arr5.get a0.To v11).Hi - (Arr5.get a0.To v11).Lo)))))] [.cells (Ze a0),.cells (Zf (Arr5.get a0.From v11))] ?_
     refine AWP.cif hF (fun h23 hF=>?_) (fun h23 hF=>?_)
     ·refine .seq (.rg0 [] [(2,(vb false))] ?_)
      refine AWP.ret ?_
      exact LeQ.of (.inr ⟨rfl,false,(someb hF).symm,(FnQ.f0 0 (.inr rfl))⟩)
     ·refine AWP.skip ?_
      refine AWP.rg0 [] [(1,(.ptr 0 0)),(16,(Zl a0.From)),(17,(i64 (IntKind.wrap .i64 (v11 + (1:Int)))))] ?_
      refine LeQ.start ?_
      refine LeQ.pk [1,16,17] 1 ?_
      exact ⟨n19,Nat.lt_succ_self _,(IntKind.wrap .i64 (v11 + (1:Int))),hF,by kernel_rfl,by kernel_rfl⟩
    ·refine AWP.exit ?_
     refine LeQ.start ?_
     refine LeQ.pk [] 1 ?_
     exact (.inl ⟨rfl,(someb hF).symm,by kernel_rfl,by kernel_rfl⟩)
  ·rintro _ _ _ (⟨rfl,rfl,rfl,rfl⟩ | ⟨rfl,r25,rfl,hq⟩)
   ·refine .seq (.rg0 [] [(2,(vb true))] ?_)
    refine AWP.ret ?_
    have hr:=someb hF
    subst hr
    exact (FnQ.f0 0 (.inr rfl))
   ·have hr:=someb hF
    subst hr
    exact hq
def Zks (r:(List (Arr5 api_Range))):PV→List Blk→Prop:=fun p K=>p=(slc 10 Za r)∧K=[]
theorem Zkt (a0:(List api_Move)) (r:(List (Arr5 api_Range))) (hF:Zfj a0=some r):ACall Tryz.prog glob 50 [(slc 20 Ze a0)] [] (Zks r):=by
 refine ACall.body Tryz.func50 rfl (by kernel_rfl) ?_
 unfold Zfj at hF
 refine .seq (.rg0 [] [(0,(slc 20 Ze a0))] ?_)
 refine .seq (.rg0 [] [(0,(slc 20 Ze a0)),(3,nils)] ?_)
 refine AWP.own (H':=[bf 10 57 Za ([]:(List (Arr5 api_Range))) false]) (st':=[(3,(.own 0 (List.length ([]:(List (Arr5 api_Range)))))),(0,(slc 20 Ze a0))]) 3 10 57 (by kernel_rfl) (by kernel_rfl) (by kernel_rfl) ?_
 refine AWP.pick (st':=[(0,(slc 20 Ze a0)),(3,(.own 0 (List.length ([]:(List (Arr5 api_Range))))))]) (ks:=[0,3]) (by kernel_rfl) ?_
 refine AWP.seq ?_
 refine .seq (.rg0 [(1,.len Ze a0)] [(3,(.own 0 (List.length ([]:(List (Arr5 api_Range)))))),(6,(slc 20 Ze a0)),(7,(i64 (List.length a0:Int))),(8,(i64 (0:Int)))] ?_)
 obtain ⟨v54,h55,hF⟩:=bindb hF
 refine AWP.mid (fun e st H=>e=.normal∧st=[(3,(.own 0 (List.length v54)))]∧H=[bf 10 57 Za v54 false]) ?_ ?_
 ·clear hF
  refine AWP.kp [3,6,7,8] 1 ?_
  refine AWP.bround (fun n st H=>∃ (v27:(List (Arr5 api_Range))),∃ (v28:Int),Zc1 a0 n v27 v28=some v54∧st=[(3,(.own 0 (List.length v27))),(6,(slc 20 Ze a0)),(7,(i64 (List.length a0:Int))),(8,(i64 v28))]∧H=[bf 10 57 Za v27 false]) fuel ⟨([]:(List (Arr5 api_Range))),(0:Int),h55,by kernel_rfl,by kernel_rfl⟩ ?_
  rintro n56 st H ⟨v27,v28,hF,rfl,rfl⟩
  cases n56 with
  | zero=>exact noneb hF
  | succ n56=>
   rw [Zc1] at hF
   refine .seq (.rg0 [] [(3,(.own 0 (List.length v27))),(6,(slc 20 Ze a0)),(7,(i64 (List.length a0:Int))),(8,(i64 v28)),(9,(vb (decide (v28<(List.length a0:Int)))))] ?_)
   refine AWP.seq ?_
   refine AWP.cif hF (fun h81 hF=>?_) (fun h81 hF=>?_)
   ·refine AWP.skip ?_
    obtain ⟨v68,h69,hF⟩:=bindb hF
    refine AWP.seq ?_
    refine AWP.mid (fun e st H=>e=.normal∧st=[(3,(.own 0 (List.length v68))),(6,(slc 20 Ze a0)),(7,(i64 (List.length a0:Int))),(8,(i64 v28))]∧H=[bf 10 57 Za v68 false]) ?_ ?_
    ·clear hF
     have hF:=h69
     refine AWP.block ?_
     refine AWP.seq ?_
     obtain ⟨x70,h71,hF⟩:=bindb hF
     refine AWP.rg [(0,.idx Ze h71)] [(3,(.own 0 (List.length v27))),(5,(.ptr 1 0)),(6,(slc 20 Ze a0)),(7,(i64 (List.length a0:Int))),(8,(i64 v28))] [bf 10 57 Za v27 false,.cells (Ze x70)] ?_
     obtain ⟨v75,h76,hF⟩:=bindb hF
     refine AWP.seq ?_
     refine AWP.mid (fun e st H=>e=.normal∧st=[(3,(.own 0 (List.length v27))),(5,(.ptr 1 0)),(6,(slc 20 Ze a0)),(7,(i64 (List.length a0:Int))),(8,(i64 v28))]∧H=[bf 10 57 Za v27 false,.cells (Ze v75)]) ?_ ?_
     ·clear hF
      have hF:=h76
      refine AWP.seq ?_
      obtain ⟨r77,h78,hF⟩:=bindb hF
      refine AWP.rg0 [(1,.call Tryz.func52 [] (Zfm x70 r77 h78))] [(3,(.own 0 (List.length v27))),(5,(.ptr 1 0)),(6,(slc 20 Ze a0)),(7,(i64 (List.length a0:Int))),(8,(i64 v28)),(14,(vb (!r77)))] ?_
      refine AWP.cif hF (fun h79 hF=>?_) (fun h79 hF=>?_)
      ·refine AWP.rg [] [(3,(.own 0 (List.length v27))),(5,(.ptr 1 0)),(6,(slc 20 Ze a0)),(7,(i64 (List.length a0:Int))),(8,(i64 v28))] [bf 10 57 Za v27 false,.cells (Ze ({ x70 with From:=(Arr5.mk (api_Range.mk (1:Int) (0:Int)) Zi Zi Zi Zi) }:api_Move))] ?_
       refine LeQ.start ?_
       refine LeQ.pk [3,5,6,7,8] 2 ?_
       have hr:=someb hF
       subst hr
       exact ⟨rfl,by kernel_rfl,by kernel_rfl⟩
      ·refine AWP.skip ?_
       refine LeQ.start ?_
       refine LeQ.pk [3,5,6,7,8] 2 ?_
       have hr:=someb hF
       subst hr
       exact ⟨rfl,by kernel_rfl,by kernel_rfl⟩
     ·rintro _ _ _ ⟨rfl,rfl,rfl⟩
      obtain ⟨h80,hF⟩:=chkb hF
      refine AWP.rg [(4,.app Za (fun _=>by kernel_rfl) h80)] [(3,(.own 0 (List.length (v27++[v75.From])))),(6,(slc 20 Ze a0)),(7,(i64 (List.length a0:Int))),(8,(i64 v28))] [bf 10 57 Za (v27++[v75.From]) false,.cells (Ze v75)] ?_
      refine LeQ.start ?_
      refine LeQ.pk [3,6,7,8] 1 ?_
      have hr:=someb hF
      subst hr
      exact ⟨rfl,by kernel_rfl,by kernel_rfl⟩
    ·rintro _ _ _ ⟨rfl,rfl,rfl⟩
     refine AWP.rg0 [] [(3,(.own 0 (List.length v68))),(6,(slc 20 Ze a0)),(7,(i64 (List.length a0:Int))),(8,(i64 (IntKind.wrap .i64 (v28 + (1:Int)))))] ?_
     refine LeQ.start ?_
     refine LeQ.pk [3,6,7,8] 1 ?_
     exact ⟨n56,Nat.lt_succ_self _,v68,(IntKind.wrap .i64 (v28 + (1:Int))),hF,by kernel_rfl,by kernel_rfl⟩
   ·refine AWP.exit ?_
    refine LeQ.start ?_
    refine LeQ.pk [3] 1 ?_
    have hr:=someb hF
    subst hr
    exact ⟨rfl,by kernel_rfl,by kernel_rfl⟩
 ·rintro _ _ _ ⟨rfl,rfl,rfl⟩
  refine .seq (.rg0 [] [(2,(.own 0 (List.length v54)))] ?_)
  refine AWP.ret ?_
  have hr:=someb hF
  subst hr
  exact (FnQ.f1 0 (.inr rfl) (.inl (Wk.ownT (i:=0) (s:=10) (t:=57) (l:=v54) (sh:=false) (row:=Za) (by kernel_rfl) (.inl rfl))))
def Zi1 (r:Bool):PV→List Blk→Prop:=fun p K=>p=(vb r)∧K=[]
theorem Zes (a0:(Arr5 api_Range)) (r:Bool) (hF:Zb4 a0=some r):ACall Tryz.prog glob 144 [(Zl a0)] [] (Zi1 r):=by
 refine ACall.body Tryz.func144 rfl (by kernel_rfl) ?_
 unfold Zb4 at hF
 refine .seq (.rg [] [(1,(.ptr 0 0))] [.cells (Za a0)] ?_)
 refine AWP.seq ?_
 obtain ⟨r1,h2,hF⟩:=bindb hF
 refine AWP.rg0 [(1,.call Tryz.func98 [] (Zgb a0 r1 h2))] [(2,(vb (!r1)))] ?_
 refine AWP.ret ?_
 have hr:=someb hF
 subst hr
 exact (FnQ.f0 0 (.inr rfl))
def Zc3 (a1:(List (Arr5 api_Range))) (s0:List Value) (r:Int):PV→List Blk→Prop:=fun p K=>p=(i64 r)∧K=[.cells (cel Za a1 s0)]
abbrev Ze1 (a1:(List (Arr5 api_Range))) (s0:List Value) (r:Int):Exit→St→List Blk→Prop:=FnQ Tryz.prog Tryz.f150.results 1 (Zc3 a1 s0 r)
theorem Ze2 (a0:Nat) (a1:(List (Arr5 api_Range))) (s0:List Value) (r:Int) (hF:Za5 a0 a1=some r):ACall Tryz.prog glob 150 [(.vw 0 0 a0),(.sc (.func (.func 144) #[] #[]))] [.cells (cel Za a1 s0)] (Zc3 a1 s0 r):=by
 refine ACall.body Tryz.func150 rfl (by kernel_rfl) ?_
 unfold Za5 at hF
 refine .seq (.rg0 [] [(0,(.vw 0 0 a0)),(1,(.sc (.func (.func 144) #[] #[])))] ?_)
 refine AWP.seq ?_
 refine .seq (.rg0 [(1,.lenV a0)] [(0,(.vw 0 0 a0)),(1,(.sc (.func (.func 144) #[] #[]))),(7,(i64 (a0:Int))),(8,(i64 (0:Int)))] ?_)
 obtain ⟨o8,h9,hF⟩:=bindb hF
 refine AWP.mid (fun e st H=>(e=.normal∧o8=(.inl ())∧st=[]∧H=[.cells (cel Za a1 s0)])∨(e=.ret∧∃ (r:Int),o8=(.inr r)∧Ze1 a1 s0 r e st H)) ?_ ?_
 ·clear hF
  refine AWP.kp [0,1,7,8] 1 ?_
  refine AWP.bround (fun n st H=>∃ (v1:Int),Zu a0 a1 n v1=some o8∧st=[(0,(.vw 0 0 a0)),(1,(.sc (.func (.func 144) #[] #[]))),(7,(i64 (a0:Int))),(8,(i64 v1))]∧H=[.cells (cel Za a1 s0)]) fuel ⟨(0:Int),h9,by kernel_rfl,by kernel_rfl⟩ ?_
  rintro n10 st H ⟨v1,hF,rfl,rfl⟩
  cases n10 with
  | zero=>exact noneb hF
  | succ n10=>
   rw [Zu] at hF
   refine .seq (.rg0 [] [(0,(.vw 0 0 a0)),(1,(.sc (.func (.func 144) #[] #[]))),(7,(i64 (a0:Int))),(8,(i64 v1)),(9,(vb (decide (v1<(a0:Int)))))] ?_)
   refine AWP.seq ?_
   refine AWP.cif hF (fun h16 hF=>?_) (fun h16 hF=>?_)
   ·refine AWP.skip ?_
    refine AWP.seq ?_
    refine AWP.block ?_
    refine .seq (.rg0 [] [(0,(.vw 0 0 a0)),(1,(.sc (.func (.func 144) #[] #[]))),(5,(i64 v1)),(7,(i64 (a0:Int))),(8,(i64 v1))] ?_)
    refine AWP.seq ?_
    obtain ⟨x11,h12,hF⟩:=bindb hF
    obtain ⟨r13,h14,hF⟩:=bindb hF
    refine AWP.rg0 [(3,.idxV (idxn_lt h12)),(4,.ldV Za (s:=10) (fun _=>rfl) s0 (idxn_idx h12) (0 + Int.toNat v1 * 10) (Nat.zero_add _) []),(5,.call Tryz.func144 [] (Zes x11 r13 h14))] [(0,(.vw 0 0 a0)),(1,(.sc (.func (.func 144) #[] #[]))),(5,(i64 v1)),(7,(i64 (a0:Int))),(8,(i64 v1)),(16,(vb r13))] ?_
    refine AWP.cif hF (fun h15 hF=>?_) (fun h15 hF=>?_)
    ·refine .seq (.rg0 [] [(4,(i64 v1))] ?_)
     refine AWP.ret ?_
     exact LeQ.of (.inr ⟨rfl,v1,(someb hF).symm,(FnQ.f0 1 (.inr rfl))⟩)
    ·refine AWP.skip ?_
     refine AWP.rg0 [] [(0,(.vw 0 0 a0)),(1,(.sc (.func (.func 144) #[] #[]))),(7,(i64 (a0:Int))),(8,(i64 (IntKind.wrap .i64 (v1 + (1:Int)))))] ?_
     refine LeQ.start ?_
     refine LeQ.pk [0,1,7,8] 1 ?_
     exact ⟨n10,Nat.lt_succ_self _,(IntKind.wrap .i64 (v1 + (1:Int))),hF,by kernel_rfl,by kernel_rfl⟩
   ·refine AWP.exit ?_
    refine LeQ.start ?_
    refine LeQ.pk [] 1 ?_
    exact (.inl ⟨rfl,(someb hF).symm,by kernel_rfl,by kernel_rfl⟩)
 ·rintro _ _ _ (⟨rfl,rfl,rfl,rfl⟩ | ⟨rfl,r17,rfl,hq⟩)
  ·refine .seq (.rg0 [] [(4,(i64 (-1:Int)))] ?_)
   refine AWP.ret ?_
   have hr:=someb hF
   subst hr
   exact (FnQ.f0 1 (.inr rfl))
  ·have hr:=someb hF
   subst hr
   exact hq
def Zey (s0:List Value) (r:(Nat × (List (Arr5 api_Range)))):PV→List Blk→Prop:=fun p K=>p=(.vw 0 0 r.1)∧K=[.cells (cel Za r.2 s0)]
theorem Zez (a0:Nat) (a1:(List (Arr5 api_Range))) (s0:List Value) (r:(Nat × (List (Arr5 api_Range)))) (hF:Zah a0 a1=some r):ACall Tryz.prog glob 142 [(.vw 0 0 a0),(.sc (.func (.func 144) #[] #[]))] [.cells (cel Za a1 s0)] (Zey s0 r):=by
 refine ACall.body Tryz.func142 rfl (by kernel_rfl) ?_
 unfold Zah at hF
 refine .seq (.rg0 [] [(0,(.vw 0 0 a0)),(1,(.sc (.func (.func 144) #[] #[])))] ?_)
 refine AWP.seq ?_
 obtain ⟨r1,h2,hF⟩:=bindb hF
 refine AWP.rg0 [(2,.callC Tryz.func150 [] (closedH.c (cel_closed (row:=Za) (fun _=>rfl) a1 s0) closedH.n) (closedH.c (cel_closed (row:=Za) (fun _=>rfl) a1 s0) closedH.n) (Ze2 a0 a1 s0 r1 h2))] [(0,(.vw 0 0 a0)),(1,(.sc (.func (.func 144) #[] #[]))),(5,(i64 r1))] ?_
 refine AWP.seq ?_
 refine .seq (.rg0 [] [(0,(.vw 0 0 a0)),(1,(.sc (.func (.func 144) #[] #[]))),(5,(i64 r1)),(12,(vb (r1 == (-1:Int))))] ?_)
 refine AWP.cif hF (fun h73 hF=>?_) (fun h73 hF=>?_)
 ·refine .seq (.rg0 [] [(4,(.vw 0 0 a0))] ?_)
  refine AWP.ret ?_
  have hr:=someb hF
  subst hr
  exact (FnQ.f0 1 (.inr rfl))
 ·refine AWP.skip ?_
  refine AWP.seq ?_
  refine .seq (.rg0 [] [(0,(.vw 0 0 a0)),(1,(.sc (.func (.func 144) #[] #[]))),(5,(i64 r1)),(6,(i64 (IntKind.wrap .i64 (r1 + (1:Int)))))] ?_)
  obtain ⟨o48,h49,hF⟩:=bindb hF
  refine AWP.mid (fun e st H=>(e=.normal∧∃ (v46:(List (Arr5 api_Range))),∃ (v47:Int),o48=(v46,v47)∧st=[(0,(.vw 0 0 a0)),(5,(i64 v47))]∧H=[.cells (cel Za v46 s0)])) ?_ ?_
  ·clear hF
   refine AWP.kp [0,1,5,6] 1 ?_
   refine AWP.bround (fun n st H=>∃ (v24:(List (Arr5 api_Range))),∃ (v25:Int),∃ (v26:Int),Zt a0 n v24 v25 v26=some o48∧st=[(0,(.vw 0 0 a0)),(1,(.sc (.func (.func 144) #[] #[]))),(5,(i64 v25)),(6,(i64 v26))]∧H=[.cells (cel Za v24 s0)]) fuel ⟨a1,r1,(IntKind.wrap .i64 (r1 + (1:Int))),h49,by kernel_rfl,by kernel_rfl⟩ ?_
   rintro n50 st H ⟨v24,v25,v26,hF,rfl,rfl⟩
   cases n50 with
   | zero=>exact noneb hF
   | succ n50=>
    rw [Zt] at hF
    refine AWP.seq ?_
    refine .seq (.rg0 [(2,.lenV a0)] [(0,(.vw 0 0 a0)),(1,(.sc (.func (.func 144) #[] #[]))),(5,(i64 v25)),(6,(i64 v26)),(19,(vb (decide (v26<(a0:Int)))))] ?_)
    refine AWP.cif hF (fun h69 hF=>?_) (fun h69 hF=>?_)
    ·refine AWP.skip ?_
     obtain ⟨o60,h61,hF⟩:=bindb hF
     refine AWP.seq ?_
     refine AWP.mid (fun e st H=>(e=.normal∧∃ (v58:(List (Arr5 api_Range))),∃ (v59:Int),o60=(v58,v59)∧st=[(0,(.vw 0 0 a0)),(1,(.sc (.func (.func 144) #[] #[]))),(5,(i64 v59)),(6,(i64 v26))]∧H=[.cells (cel Za v58 s0)])) ?_ ?_
     ·clear hF
      have hF:=h61
      refine AWP.block ?_
      refine AWP.seq ?_
      obtain ⟨x62,h63,hF⟩:=bindb hF
      refine AWP.rg [(2,.idxV (idxn_lt h63)),(3,.ldV Za (s:=10) (fun _=>rfl) s0 (idxn_idx h63) (0 + Int.toNat v26 * 10) (Nat.zero_add _) [])] [(0,(.vw 0 0 a0)),(1,(.sc (.func (.func 144) #[] #[]))),(5,(i64 v25)),(6,(i64 v26)),(7,(.ptr 1 0))] [.cells (cel Za v24 s0),.cells (Za x62)] ?_
      refine AWP.seq ?_
      obtain ⟨r64,h65,hF⟩:=bindb hF
      refine AWP.rg0 [(2,.call Tryz.func144 [] (Zes x62 r64 h65))] [(0,(.vw 0 0 a0)),(1,(.sc (.func (.func 144) #[] #[]))),(5,(i64 v25)),(6,(i64 v26)),(7,(.ptr 1 0)),(29,(vb (!r64)))] ?_
      refine AWP.cif hF (fun h68 hF=>?_) (fun h68 hF=>?_)
      ·refine AWP.seq ?_
       obtain ⟨x66,h67,hF⟩:=bindb hF
       refine AWP.rg [(3,.idxV (idxn_lt h67)),(4,.stV Za (s:=10) (fun _=>rfl) s0 (idxn_idx h67) x62 (0 + Int.toNat v25 * 10) (Nat.zero_add _) [])] [(0,(.vw 0 0 a0)),(1,(.sc (.func (.func 144) #[] #[]))),(5,(i64 v25)),(6,(i64 v26))] [.cells (cel Za (List.set v24 (Int.toNat v25) x62) s0),.cells (Za x62)] ?_
       refine AWP.rg0 [] [(0,(.vw 0 0 a0)),(1,(.sc (.func (.func 144) #[] #[]))),(5,(i64 (IntKind.wrap .i64 (v25 + (1:Int))))),(6,(i64 v26))] ?_
       refine LeQ.start ?_
       refine LeQ.pk [0,1,5,6] 1 ?_
       exact ⟨rfl,(List.set v24 (Int.toNat v25) x62),(IntKind.wrap .i64 (v25 + (1:Int))),(someb hF).symm,by kernel_rfl,by kernel_rfl⟩
      ·refine AWP.skip ?_
       refine LeQ.start ?_
       refine LeQ.pk [0,1,5,6] 1 ?_
       exact ⟨rfl,v24,v25,(someb hF).symm,by kernel_rfl,by kernel_rfl⟩
     ·rintro _ _ _ ⟨rfl,v58,v59,rfl,rfl,rfl⟩
      refine AWP.rg0 [] [(0,(.vw 0 0 a0)),(1,(.sc (.func (.func 144) #[] #[]))),(5,(i64 v59)),(6,(i64 (IntKind.wrap .i64 (v26 + (1:Int)))))] ?_
      refine LeQ.start ?_
      refine LeQ.pk [0,1,5,6] 1 ?_
      exact ⟨n50,Nat.lt_succ_self _,v58,v59,(IntKind.wrap .i64 (v26 + (1:Int))),hF,by kernel_rfl,by kernel_rfl⟩
    ·refine AWP.exit ?_
     refine LeQ.start ?_
     refine LeQ.pk [0,5] 1 ?_
     exact ⟨rfl,v24,v25,(someb hF).symm,by kernel_rfl,by kernel_rfl⟩
  ·rintro _ _ _ ⟨rfl,v46,v47,rfl,rfl,rfl⟩
   refine AWP.seq ?_
   obtain ⟨h70,hF⟩:=chkb hF
   obtain ⟨h71,hF⟩:=chkb hF
   refine AWP.rg [(2,.sliceV h70),(3,.clrV Za (s:=10) (fun _=>rfl) (fun _=>rfl) s0 v46 Zj (lo:=Int.toNat v47) (n:=(Int.toNat (a0:Int) - Int.toNat v47)) h71 (0 + Int.toNat v47 * 10) (Nat.zero_add _))] [(0,(.vw 0 0 a0)),(5,(i64 v47))] [.cells (cel Za (List.take (Int.toNat v47) v46++List.replicate (Int.toNat (a0:Int) - Int.toNat v47) Zj++List.drop (Int.toNat v47 + (Int.toNat (a0:Int) - Int.toNat v47)) v46) s0)] ?_
   refine AWP.seq ?_
   obtain ⟨h72,hF⟩:=chkb hF
   refine AWP.rg0 [(2,.sliceV h72)] [(4,(.vw 0 0 (Int.toNat v47)))] ?_
   refine AWP.ret ?_
   have hr:=someb hF
   subst hr
   exact (FnQ.f0 1 (.inr rfl))
def Zcx (r:Int):PV→List Blk→Prop:=fun p K=>p=(i64 r)∧K=[]
abbrev Zet (r:Int):Exit→St→List Blk→Prop:=FnQ Tryz.prog Tryz.f150.results 0 (Zcx r)
theorem Zeu (a0:(List (Arr5 api_Range))) (r:Int) (hF:Zbs a0=some r):ACall Tryz.prog glob 150 [(slc 10 Za a0),(.sc (.func (.func 144) #[] #[]))] [] (Zcx r):=by
 refine ACall.body Tryz.func150 rfl (by kernel_rfl) ?_
 unfold Zbs at hF
 refine .seq (.rg0 [] [(0,(slc 10 Za a0)),(1,(.sc (.func (.func 144) #[] #[])))] ?_)
 refine AWP.seq ?_
 refine .seq (.rg0 [(1,.len Za a0)] [(0,(slc 10 Za a0)),(1,(.sc (.func (.func 144) #[] #[]))),(7,(i64 (List.length a0:Int))),(8,(i64 (0:Int)))] ?_)
 obtain ⟨o8,h9,hF⟩:=bindb hF
 refine AWP.mid (fun e st H=>(e=.normal∧o8=(.inl ())∧st=[]∧H=[])∨(e=.ret∧∃ (r:Int),o8=(.inr r)∧Zet r e st H)) ?_ ?_
 ·clear hF
  refine AWP.kp [0,1,7,8] 0 ?_
  refine AWP.bround (fun n st H=>∃ (v1:Int),Zas a0 n v1=some o8∧st=[(0,(slc 10 Za a0)),(1,(.sc (.func (.func 144) #[] #[]))),(7,(i64 (List.length a0:Int))),(8,(i64 v1))]∧H=[]) fuel ⟨(0:Int),h9,by kernel_rfl,by kernel_rfl⟩ ?_
  rintro n10 st H ⟨v1,hF,rfl,rfl⟩
  cases n10 with
  | zero=>exact noneb hF
  | succ n10=>
   rw [Zas] at hF
   refine .seq (.rg0 [] [(0,(slc 10 Za a0)),(1,(.sc (.func (.func 144) #[] #[]))),(7,(i64 (List.length a0:Int))),(8,(i64 v1)),(9,(vb (decide (v1<(List.length a0:Int)))))] ?_)
   refine AWP.seq ?_
   refine AWP.cif hF (fun h16 hF=>?_) (fun h16 hF=>?_)
   ·refine AWP.skip ?_
    refine AWP.seq ?_
    refine AWP.block ?_
    refine .seq (.rg0 [] [(0,(slc 10 Za a0)),(1,(.sc (.func (.func 144) #[] #[]))),(5,(i64 v1)),(7,(i64 (List.length a0:Int))),(8,(i64 v1))] ?_)
    refine AWP.seq ?_
    obtain ⟨x11,h12,hF⟩:=bindb hF
    obtain ⟨r13,h14,hF⟩:=bindb hF
    refine AWP.rg0 [(3,.idx Za h12),(5,.call Tryz.func144 [] (Zes x11 r13 h14))] [(0,(slc 10 Za a0)),(1,(.sc (.func (.func 144) #[] #[]))),(5,(i64 v1)),(7,(i64 (List.length a0:Int))),(8,(i64 v1)),(16,(vb r13))] ?_
    refine AWP.cif hF (fun h15 hF=>?_) (fun h15 hF=>?_)
    ·refine .seq (.rg0 [] [(4,(i64 v1))] ?_)
     refine AWP.ret ?_
     exact LeQ.of (.inr ⟨rfl,v1,(someb hF).symm,(FnQ.f0 0 (.inr rfl))⟩)
    ·refine AWP.skip ?_
     refine AWP.rg0 [] [(0,(slc 10 Za a0)),(1,(.sc (.func (.func 144) #[] #[]))),(7,(i64 (List.length a0:Int))),(8,(i64 (IntKind.wrap .i64 (v1 + (1:Int)))))] ?_
     refine LeQ.start ?_
     refine LeQ.pk [0,1,7,8] 0 ?_
     exact ⟨n10,Nat.lt_succ_self _,(IntKind.wrap .i64 (v1 + (1:Int))),hF,by kernel_rfl,by kernel_rfl⟩
   ·refine AWP.exit ?_
    refine LeQ.start ?_
    refine LeQ.pk [] 0 ?_
    exact (.inl ⟨rfl,(someb hF).symm,by kernel_rfl,by kernel_rfl⟩)
 ·rintro _ _ _ (⟨rfl,rfl,rfl,rfl⟩ | ⟨rfl,r17,rfl,hq⟩)
  ·refine .seq (.rg0 [] [(4,(i64 (-1:Int)))] ?_)
   refine AWP.ret ?_
   have hr:=someb hF
   subst hr
   exact (FnQ.f0 0 (.inr rfl))
  ·have hr:=someb hF
   subst hr
   exact hq
def Zed (r:(List (Arr5 api_Range))):PV→List Blk→Prop:=fun p K=>p=(slc 10 Za r)∧K=[]
theorem Zee (r:(List (Arr5 api_Range))) (hF:Zbg=some r):ACall Tryz.prog glob 142 [(slc 10 Za ([]:(List (Arr5 api_Range)))),(.sc (.func (.func 144) #[] #[]))] [] (Zed r):=by
 refine ACall.body Tryz.func142 rfl (by kernel_rfl) ?_
 unfold Zbg at hF
 refine .seq (.rg0 [] [(0,(slc 10 Za ([]:(List (Arr5 api_Range))))),(1,(.sc (.func (.func 144) #[] #[])))] ?_)
 refine AWP.seq ?_
 obtain ⟨r1,h2,hF⟩:=bindb hF
 refine AWP.rg0 [(2,.call Tryz.func150 [] (Zeu ([]:(List (Arr5 api_Range))) r1 h2))] [(0,(slc 10 Za ([]:(List (Arr5 api_Range))))),(1,(.sc (.func (.func 144) #[] #[]))),(5,(i64 r1))] ?_
 refine AWP.seq ?_
 refine .seq (.rg0 [] [(0,(slc 10 Za ([]:(List (Arr5 api_Range))))),(1,(.sc (.func (.func 144) #[] #[]))),(5,(i64 r1)),(12,(vb (r1 == (-1:Int))))] ?_)
 refine AWP.cif hF (fun h34 hF=>?_) (fun h34 hF=>?_)
 ·refine .seq (.rg0 [] [(4,(slc 10 Za ([]:(List (Arr5 api_Range)))))] ?_)
  refine AWP.ret ?_
  have hr:=someb hF
  subst hr
  exact (FnQ.f0 0 (.inr rfl))
 ·refine AWP.skip ?_
  refine AWP.seq ?_
  refine .seq (.rg0 [] [(0,(slc 10 Za ([]:(List (Arr5 api_Range))))),(1,(.sc (.func (.func 144) #[] #[]))),(5,(i64 r1)),(6,(i64 (IntKind.wrap .i64 (r1 + (1:Int)))))] ?_)
  obtain ⟨v18,h19,hF⟩:=bindb hF
  refine AWP.mid (fun e st H=>e=.normal∧st=[(0,(slc 10 Za ([]:(List (Arr5 api_Range))))),(5,(i64 v18))]∧H=[]) ?_ ?_
  ·clear hF
   refine AWP.kp [0,1,5,6] 0 ?_
   refine AWP.bround (fun n st H=>∃ (v3:Int),∃ (v4:Int),Zai n v3 v4=some v18∧st=[(0,(slc 10 Za ([]:(List (Arr5 api_Range))))),(1,(.sc (.func (.func 144) #[] #[]))),(5,(i64 v3)),(6,(i64 v4))]∧H=[]) fuel ⟨r1,(IntKind.wrap .i64 (r1 + (1:Int))),h19,by kernel_rfl,by kernel_rfl⟩ ?_
   rintro n20 st H ⟨v3,v4,hF,rfl,rfl⟩
   cases n20 with
   | zero=>exact noneb hF
   | succ n20=>
    rw [Zai] at hF
    refine AWP.seq ?_
    refine .seq (.rg0 [(2,.len Za ([]:(List (Arr5 api_Range))))] [(0,(slc 10 Za ([]:(List (Arr5 api_Range))))),(1,(.sc (.func (.func 144) #[] #[]))),(5,(i64 v3)),(6,(i64 v4)),(19,(vb (decide (v4<(List.length ([]:(List (Arr5 api_Range))):Int)))))] ?_)
    refine AWP.cif hF (fun h33 hF=>?_) (fun h33 hF=>?_)
    ·refine AWP.skip ?_
     obtain ⟨o26,h27,hF⟩:=bindb hF
     refine AWP.seq ?_
     refine AWP.mid (fun e st H=>(e=.normal∧o26=()∧st=[(0,(slc 10 Za ([]:(List (Arr5 api_Range))))),(1,(.sc (.func (.func 144) #[] #[]))),(5,(i64 v3)),(6,(i64 v4))]∧H=[])) ?_ ?_
     ·clear hF
      have hF:=h27
      refine AWP.block ?_
      refine AWP.seq ?_
      obtain ⟨x28,h29,hF⟩:=bindb hF
      refine AWP.rg [(2,.idx Za h29)] [(0,(slc 10 Za ([]:(List (Arr5 api_Range))))),(1,(.sc (.func (.func 144) #[] #[]))),(5,(i64 v3)),(6,(i64 v4)),(7,(.ptr 0 0))] [.cells (Za x28)] ?_
      refine AWP.seq ?_
      obtain ⟨r30,h31,hF⟩:=bindb hF
      refine AWP.rg0 [(2,.call Tryz.func144 [] (Zes x28 r30 h31))] [(0,(slc 10 Za ([]:(List (Arr5 api_Range))))),(1,(.sc (.func (.func 144) #[] #[]))),(5,(i64 v3)),(6,(i64 v4)),(7,(.ptr 0 0)),(29,(vb (!r30)))] ?_
      refine AWP.cif hF (fun h32 hF=>?_) (fun h32 hF=>?_)
      ·refine AWP.seq ?_
       exact noneb hF
      ·refine AWP.skip ?_
       refine LeQ.start ?_
       refine LeQ.pk [0,1,5,6] 0 ?_
       exact ⟨rfl,(someb hF).symm,by kernel_rfl,by kernel_rfl⟩
     ·rintro _ _ _ ⟨rfl,rfl,rfl,rfl⟩
      refine AWP.rg0 [] [(0,(slc 10 Za ([]:(List (Arr5 api_Range))))),(1,(.sc (.func (.func 144) #[] #[]))),(5,(i64 v3)),(6,(i64 (IntKind.wrap .i64 (v4 + (1:Int)))))] ?_
      refine LeQ.start ?_
      refine LeQ.pk [0,1,5,6] 0 ?_
      exact ⟨n20,Nat.lt_succ_self _,v3,(IntKind.wrap .i64 (v4 + (1:Int))),hF,by kernel_rfl,by kernel_rfl⟩
    ·refine AWP.exit ?_
     refine LeQ.start ?_
     refine LeQ.pk [0,5] 0 ?_
     have hr:=someb hF
     subst hr
     exact ⟨rfl,by kernel_rfl,by kernel_rfl⟩
  ·rintro _ _ _ ⟨rfl,rfl,rfl⟩
   refine AWP.seq ?_
   exact noneb hF
def Zjk (r:(List (Arr5 api_Range))):PV→List Blk→Prop:=fun p K=>p=(slc 10 Za r)∧K=[]
theorem Zf5 (a0:(List (Arr5 api_Range))) (r:(List (Arr5 api_Range))) (hF:Zdn a0=some r):ACall Tryz.prog glob 129 [(slc 10 Za a0)] [] (Zjk r):=by
 refine ACall.body Tryz.func129 rfl (by kernel_rfl) ?_
 unfold Zdn at hF
 refine .seq (.rg0 [] [(0,(slc 10 Za a0))] ?_)
 refine AWP.seq ?_
 obtain ⟨h1,hF⟩:=chkb hF
 obtain ⟨r2,h3,hF⟩:=bindb hF
 refine AWP.rg [(1,.clone Tryz.func143 Za (fun _=>by kernel_rfl) h1),(2,.callBE (s:=10) Za Tryz.func142 (fun _=>rfl) h3 (fun h sp_=>Zez (List.length a0) a0 sp_ _ h) (fun h=>Zee _ h))] [(2,(slc 10 Za (List.take r2.1 r2.2)))] [bf 10 57 Za r2.2 true] ?_
 refine AWP.ret ?_
 have hr:=someb hF
 subst hr
 exact (FnQ.f0 0 (.inr rfl))
def Zjl (r:(List (Arr5 api_Range))):PV→List Blk→Prop:=fun p K=>p=(slc 10 Za r)∧K=[]
theorem Zjm (a0:Int) (a1:(List (Arr5 api_Range))) (r:(List (Arr5 api_Range))) (hF:Zej a0 a1=some r):ACall Tryz.prog glob 145 [(i64 a0),(slc 10 Za a1)] [] (Zjl r):=by
 refine ACall.body Tryz.func145 rfl (by kernel_rfl) ?_
 unfold Zej at hF
 refine .seq (.rg0 [] [(0,(i64 a0)),(1,(slc 10 Za a1))] ?_)
 refine AWP.seq ?_
 obtain ⟨h1,hF⟩:=chkb hF
 refine AWP.rg [(1,.clone Tryz.func143 Za (fun _=>by kernel_rfl) h1)] [(0,(i64 a0)),(5,(.own 0 (List.length a1)))] [bf 10 57 Za a1 false] ?_
 refine AWP.seq ?_
 refine .seq (.rg0 [(1,.len Za a1)] [(0,(i64 a0)),(5,(.own 0 (List.length a1))),(11,(i64 (List.length a1:Int))),(12,(i64 (0:Int)))] ?_)
 obtain ⟨v55,h56,hF⟩:=bindb hF
 refine AWP.mid (fun e st H=>e=.normal∧st=[(5,(.own 0 (List.length v55)))]∧H=[bf 10 57 Za v55 false]) ?_ ?_
 ·clear hF
  refine AWP.kp [0,5,11,12] 1 ?_
  refine AWP.bround (fun n st H=>∃ (v28:(List (Arr5 api_Range))),∃ (v29:Int),Zce a0 a1 n v28 v29=some v55∧st=[(0,(i64 a0)),(5,(.own 0 (List.length v28))),(11,(i64 (List.length a1:Int))),(12,(i64 v29))]∧H=[bf 10 57 Za v28 false]) fuel ⟨a1,(0:Int),h56,by kernel_rfl,by kernel_rfl⟩ ?_
  rintro n57 st H ⟨v28,v29,hF,rfl,rfl⟩
  cases n57 with
  | zero=>exact noneb hF
  | succ n57=>
   rw [Zce] at hF
   refine .seq (.rg0 [] [(0,(i64 a0)),(5,(.own 0 (List.length v28))),(11,(i64 (List.length a1:Int))),(12,(i64 v29)),(13,(vb (decide (v29<(List.length a1:Int)))))] ?_)
   refine AWP.seq ?_
   refine AWP.cif hF (fun h82 hF=>?_) (fun h82 hF=>?_)
   ·refine AWP.skip ?_
    refine AWP.seq ?_
    refine AWP.block ?_
    refine .seq (.rg0 [] [(0,(i64 a0)),(5,(.own 0 (List.length v28))),(6,(i64 v29)),(11,(i64 (List.length a1:Int))),(12,(i64 v29))] ?_)
    refine .seq (.rg0 [] [(0,(i64 a0)),(5,(.own 0 (List.length v28))),(6,(i64 v29)),(7,(i64 (0:Int))),(11,(i64 (List.length a1:Int))),(12,(i64 v29))] ?_)
    obtain ⟨v73,h74,hF⟩:=bindb hF
    refine AWP.mid (fun e st H=>e=.normal∧st=[(0,(i64 a0)),(5,(.own 0 (List.length v73))),(11,(i64 (List.length a1:Int))),(12,(i64 v29))]∧H=[bf 10 57 Za v73 false]) ?_ ?_
    ·clear hF
     refine AWP.kp [0,5,6,7,11,12] 1 ?_
     refine AWP.bround (fun n st H=>∃ (v65:(List (Arr5 api_Range))),∃ (v66:Int),Zba a0 v29 n v65 v66=some v73∧st=[(0,(i64 a0)),(5,(.own 0 (List.length v65))),(6,(i64 v29)),(7,(i64 v66)),(11,(i64 (List.length a1:Int))),(12,(i64 v29))]∧H=[bf 10 57 Za v65 false]) fuel ⟨v28,(0:Int),h74,by kernel_rfl,by kernel_rfl⟩ ?_
     rintro n75 st H ⟨v65,v66,hF,rfl,rfl⟩
     cases n75 with
     | zero=>exact noneb hF
     | succ n75=>
      rw [Zba] at hF
      refine AWP.seq ?_
      refine .seq (.rg0 [] [(0,(i64 a0)),(5,(.own 0 (List.length v65))),(6,(i64 v29)),(7,(i64 v66)),(11,(i64 (List.length a1:Int))),(12,(i64 v29)),(17,(vb (decide (v66≤a0))))] ?_)
      refine AWP.cif hF (fun h81 hF=>?_) (fun h81 hF=>?_)
      ·refine AWP.skip ?_
       refine AWP.seq ?_
       refine AWP.block ?_
       obtain ⟨x76,h77,hF⟩:=bindb hF
       obtain ⟨h78,hF⟩:=chkb hF
       refine AWP.rg [(4,.idx Za h77),(5,.ixE Za v65 v29 h78),(6,.stEd Za h77 (fun q80=>(Arr5.set x76 q80 (api_Range.mk (0:Int) (0:Int)))) 0 2 0 h78)] [(0,(i64 a0)),(5,(.own 0 (List.length v65))),(6,(i64 v29)),(7,(i64 v66)),(11,(i64 (List.length a1:Int))),(12,(i64 v29))] [bf 10 57 Za (List.set v65 (Int.toNat v29) (Arr5.set x76 v66 (api_Range.mk (0:Int) (0:Int)))) false] ?_
       rw [show ([(0,(i64 a0)),(5,(.own 0 (List.length v65))),(6,(i64 v29)),(7,(i64 v66)),(11,(i64 (List.length a1:Int))),(12,(i64 v29))]:St)=[(0,(i64 a0)),(5,(.own 0 (List.length (List.set v65 (Int.toNat v29) (Arr5.set x76 v66 (api_Range.mk (0:Int) (0:Int))))))),(6,(i64 v29)),(7,(i64 v66)),(11,(i64 (List.length a1:Int))),(12,(i64 v29))] by simp only [List.length_set]]
       refine AWP.rg0 [] [(0,(i64 a0)),(5,(.own 0 (List.length (List.set v65 (Int.toNat v29) (Arr5.set x76 v66 (api_Range.mk (0:Int) (0:Int))))))),(6,(i64 v29)),(7,(i64 (IntKind.wrap .i64 (v66 + (1:Int))))),(11,(i64 (List.length a1:Int))),(12,(i64 v29))] ?_
       refine LeQ.start ?_
       refine LeQ.pk [0,5,6,7,11,12] 1 ?_
       exact ⟨n75,Nat.lt_succ_self _,(List.set v65 (Int.toNat v29) (Arr5.set x76 v66 (api_Range.mk (0:Int) (0:Int)))),(IntKind.wrap .i64 (v66 + (1:Int))),hF,by kernel_rfl,by kernel_rfl⟩
      ·refine AWP.exit ?_
       refine LeQ.start ?_
       refine LeQ.pk [0,5,11,12] 1 ?_
       have hr:=someb hF
       subst hr
       exact ⟨rfl,by kernel_rfl,by kernel_rfl⟩
    ·rintro _ _ _ ⟨rfl,rfl,rfl⟩
     refine AWP.rg0 [] [(0,(i64 a0)),(5,(.own 0 (List.length v73))),(11,(i64 (List.length a1:Int))),(12,(i64 (IntKind.wrap .i64 (v29 + (1:Int)))))] ?_
     refine LeQ.start ?_
     refine LeQ.pk [0,5,11,12] 1 ?_
     exact ⟨n57,Nat.lt_succ_self _,v73,(IntKind.wrap .i64 (v29 + (1:Int))),hF,by kernel_rfl,by kernel_rfl⟩
   ·refine AWP.exit ?_
    refine LeQ.start ?_
    refine LeQ.pk [5] 1 ?_
    have hr:=someb hF
    subst hr
    exact ⟨rfl,by kernel_rfl,by kernel_rfl⟩
 ·rintro _ _ _ ⟨rfl,rfl,rfl⟩
  refine .seq (.rg0 [] [(4,(.own 0 (List.length v55)))] ?_)
  refine AWP.ret ?_
  have hr:=someb hF
  subst hr
  exact (FnQ.f1 0 (.inr rfl) (.inl (Wk.ownT (i:=0) (s:=10) (t:=57) (l:=v55) (sh:=false) (row:=Za) (by kernel_rfl) (.inl rfl))))
def Ze3 (r:Bool):PV→List Blk→Prop:=fun p K=>p=(vb r)∧K=[]
abbrev Zgu (r:Bool):Exit→St→List Blk→Prop:=FnQ Tryz.prog Tryz.f146.results 0 (Ze3 r)
theorem Zco (a0:(List (Arr5 api_Range))) (a1:(List (Arr5 api_Range))) (r:Bool) (hF:Zaa a0 a1=some r):ACall Tryz.prog glob 146 [(slc 10 Za a0),(slc 10 Za a1)] [] (Ze3 r):=by
 refine ACall.body Tryz.func146 rfl (by kernel_rfl) ?_
 unfold Zaa at hF
 refine .seq (.rg0 [] [(0,(slc 10 Za a0)),(1,(slc 10 Za a1))] ?_)
 refine AWP.seq ?_
 refine .seq (.rg0 [(1,.len Za a0),(3,.len Za a1)] [(0,(slc 10 Za a0)),(1,(slc 10 Za a1)),(10,(vb ((List.length a0:Int) != (List.length a1:Int))))] ?_)
 refine AWP.cif hF (fun h18 hF=>?_) (fun h18 hF=>?_)
 ·refine .seq (.rg0 [] [(4,(vb false))] ?_)
  refine AWP.ret ?_
  have hr:=someb hF
  subst hr
  exact (FnQ.f0 0 (.inr rfl))
 ·refine AWP.skip ?_
  refine AWP.seq ?_
  refine .seq (.rg0 [(1,.len Za a0)] [(0,(slc 10 Za a0)),(1,(slc 10 Za a1)),(12,(i64 (List.length a0:Int))),(13,(i64 (0:Int)))] ?_)
  obtain ⟨o8,h9,hF⟩:=bindb hF
  refine AWP.mid (fun e st H=>(e=.normal∧o8=(.inl ())∧st=[]∧H=[])∨(e=.ret∧∃ (r:Bool),o8=(.inr r)∧Zgu r e st H)) ?_ ?_
  ·clear hF
   refine AWP.kp [0,1,12,13] 0 ?_
   refine AWP.bround (fun n st H=>∃ (v1:Int),Zal a0 a1 n v1=some o8∧st=[(0,(slc 10 Za a0)),(1,(slc 10 Za a1)),(12,(i64 (List.length a0:Int))),(13,(i64 v1))]∧H=[]) fuel ⟨(0:Int),h9,by kernel_rfl,by kernel_rfl⟩ ?_
   rintro n10 st H ⟨v1,hF,rfl,rfl⟩
   cases n10 with
   | zero=>exact noneb hF
   | succ n10=>
    rw [Zal] at hF
    refine .seq (.rg0 [] [(0,(slc 10 Za a0)),(1,(slc 10 Za a1)),(12,(i64 (List.length a0:Int))),(13,(i64 v1)),(14,(vb (decide (v1<(List.length a0:Int)))))] ?_)
    refine AWP.seq ?_
    refine AWP.cif hF (fun h16 hF=>?_) (fun h16 hF=>?_)
    ·refine AWP.skip ?_
     refine AWP.seq ?_
     refine AWP.block ?_
     refine .seq (.rg0 [] [(0,(slc 10 Za a0)),(1,(slc 10 Za a1)),(5,(i64 v1)),(12,(i64 (List.length a0:Int))),(13,(i64 v1))] ?_)
     refine AWP.seq ?_
     obtain ⟨x11,h12,hF⟩:=bindb hF
     obtain ⟨x13,h14,hF⟩:=bindb hF
     refine AWP.dr [(2,.idx Za h12),(6,.idx Za h14)] 9 [] [] [] [(0,(slc 10 Za a0)),(1,(slc 10 Za a1)),(12,(i64 (List.length a0:Int))),(13,(i64 v1)),(24,(vb (!(Zd5 x11 x13))))] [] ?_
     refine AWP.cif hF (fun h15 hF=>?_) (fun h15 hF=>?_)
     ·refine .seq (.rg0 [] [(4,(vb false))] ?_)
      refine AWP.ret ?_
      exact LeQ.of (.inr ⟨rfl,false,(someb hF).symm,(FnQ.f0 0 (.inr rfl))⟩)
     ·refine AWP.skip ?_
      refine AWP.rg0 [] [(0,(slc 10 Za a0)),(1,(slc 10 Za a1)),(12,(i64 (List.length a0:Int))),(13,(i64 (IntKind.wrap .i64 (v1 + (1:Int)))))] ?_
      refine LeQ.start ?_
      refine LeQ.pk [0,1,12,13] 0 ?_
      exact ⟨n10,Nat.lt_succ_self _,(IntKind.wrap .i64 (v1 + (1:Int))),hF,by kernel_rfl,by kernel_rfl⟩
    ·refine AWP.exit ?_
     refine LeQ.start ?_
     refine LeQ.pk [] 0 ?_
     exact (.inl ⟨rfl,(someb hF).symm,by kernel_rfl,by kernel_rfl⟩)
  ·rintro _ _ _ (⟨rfl,rfl,rfl,rfl⟩ | ⟨rfl,r17,rfl,hq⟩)
   ·refine .seq (.rg0 [] [(4,(vb true))] ?_)
    refine AWP.ret ?_
    have hr:=someb hF
    subst hr
    exact (FnQ.f0 0 (.inr rfl))
   ·have hr:=someb hF
    subst hr
    exact hq
def Zfn (r:Bool):PV→List Blk→Prop:=fun p K=>p=(vb r)∧K=[]
abbrev Zg6 (r:Bool):Exit→St→List Blk→Prop:=FnQ Tryz.prog Tryz.f130.results 0 (Zfn r)
theorem Zil:∀ (nr:Nat) (a0:Int) (a1:(List (Arr5 api_Range))) (r:Bool) (hF:Za4 nr a0 a1=some r),ACall Tryz.prog glob 130 [(i64 a0),(slc 10 Za a1)] [] (Zfn r):=by
 intro nr
 induction nr with
 | zero=>intro a0 a1 r hF; exact noneb (by rw [Za4] at hF; exact hF)
 | succ nr ih=>
  intro a0 a1 r hF
  refine ACall.body Tryz.func130 rfl (by kernel_rfl) ?_
  rw [Za4] at hF
  refine .seq (.rg0 [] [(0,(i64 a0)),(1,(slc 10 Za a1))] ?_)
  refine AWP.seq ?_
  refine .seq (.rg0 [] [(0,(i64 a0)),(1,(slc 10 Za a1)),(9,(vb (a0 == (5:Int))))] ?_)
  refine AWP.cif hF (fun h240 hF=>?_) (fun h240 hF=>?_)
  ·refine .seq (.rg0 [(1,.len Za a1)] [(4,(vb (decide ((List.length a1:Int)≤(1:Int)))))] ?_)
   refine AWP.ret ?_
   have hr:=someb hF
   subst hr
   exact (FnQ.f0 0 (.inr rfl))
  ·refine AWP.skip ?_
   refine .seq (.rg [] [(0,(i64 a0)),(1,(slc 10 Za a1)),(5,(.ptr 0 0))] [.cells (Zc Zef)] ?_)
   refine AWP.seq ?_
   obtain ⟨o159,h160,hF⟩:=bindb hF
   refine AWP.mid (fun e st H=>(e=.normal∧∃ (v158:packetset_group),o159=(.inl v158)∧st=[]∧H=[.cells (Zc v158)])∨(e=.ret∧∃ (r:Bool),o159=(.inr r)∧Zg6 r e st H)) ?_ ?_
   ·clear hF
    refine AWP.kp [0,1,5] 1 ?_
    refine AWP.bround (fun n st H=>∃ (v79:packetset_group),∃ (v80:(List (Arr5 api_Range))),Zbm a0 (Za4 nr) n v79 v80=some o159∧st=[(0,(i64 a0)),(1,(slc 10 Za v80)),(5,(.ptr 0 0))]∧H=[.cells (Zc v79)]) fuel ⟨Zef,a1,h160,by kernel_rfl,by kernel_rfl⟩ ?_
    rintro n161 st H ⟨v79,v80,hF,rfl,rfl⟩
    cases n161 with
    | zero=>exact noneb hF
    | succ n161=>
     rw [Zbm] at hF
     refine AWP.seq ?_
     refine .seq (.rg0 [(1,.len Za v80)] [(0,(i64 a0)),(1,(slc 10 Za v80)),(5,(.ptr 0 0)),(15,(vb (decide ((List.length v80:Int) > (0:Int)))))] ?_)
     refine AWP.cif hF (fun h238 hF=>?_) (fun h238 hF=>?_)
     ·refine AWP.skip ?_
      refine AWP.block ?_
      refine .seq (.rg0 [] [(0,(i64 a0)),(1,(slc 10 Za v80)),(5,(.ptr 0 0)),(6,(i64 (1:Int)))] ?_)
      refine AWP.seq ?_
      obtain ⟨v176,h177,hF⟩:=bindb hF
      refine AWP.mid (fun e st H=>e=.normal∧st=[(0,(i64 a0)),(1,(slc 10 Za v80)),(5,(.ptr 0 0)),(6,(i64 v176))]∧H=[.cells (Zc v79)]) ?_ ?_
      ·clear hF
       refine AWP.kp [0,1,5,6] 1 ?_
       refine AWP.bround (fun n st H=>∃ (v162:Int),Zb2 a0 v80 n v162=some v176∧st=[(0,(i64 a0)),(1,(slc 10 Za v80)),(5,(.ptr 0 0)),(6,(i64 v162))]∧H=[.cells (Zc v79)]) fuel ⟨(1:Int),h177,by kernel_rfl,by kernel_rfl⟩ ?_
       rintro n178 st H ⟨v162,hF,rfl,rfl⟩
       cases n178 with
       | zero=>exact noneb hF
       | succ n178=>
        rw [Zb2] at hF
        refine AWP.seq ?_
        refine AWP.seq ?_
        obtain ⟨b179,h180,hF⟩:=bindb hF
        replace h180:=someb h180
        obtain ⟨v187,h188,hF⟩:=bindb hF
        refine AWP.to [(0,(i64 a0)),(1,(slc 10 Za v80)),(5,(.ptr 0 0)),(6,(i64 v162)),(33,(vb v187))] [.cells (Zc v79)] ?_ ?_
        ·cases b179 with
         | false=>
          have h189:=someb (ifF h188 rfl)
          subst h189
          exact AWP.drT [(2,.len Za v80),(4,.bool h180)] 18 [] [] []
         | true=>
          have h190:=ifT h188 rfl
          obtain ⟨x181,h182,h190⟩:=bindb h190
          obtain ⟨h183,h190⟩:=chkb h190
          obtain ⟨x184,h185,h190⟩:=bindb h190
          obtain ⟨h186,h190⟩:=chkb h190
          replace h190:=someb h190
          subst h190
          exact AWP.drT [(2,.len Za v80),(4,.bool h180),(8,.idx Za h182),(9,.ixd h183),(10,.ldA Zf (Arr5.get x181) 0 2 0 h183),(13,.idx Za h185),(14,.ixd h186),(15,.ldA Zf (Arr5.get x184) 0 2 0 h186)] 18 [] [] []
        refine AWP.cif hF (fun h191 hF=>?_) (fun h191 hF=>?_)
        ·refine AWP.skip ?_
         refine AWP.block ?_
         refine AWP.rg0 [] [(0,(i64 a0)),(1,(slc 10 Za v80)),(5,(.ptr 0 0)),(6,(i64 (IntKind.wrap .i64 (v162 + (1:Int)))))] ?_
         refine LeQ.start ?_
         refine LeQ.pk [0,1,5,6] 1 ?_
         exact ⟨n178,Nat.lt_succ_self _,(IntKind.wrap .i64 (v162 + (1:Int))),hF,by kernel_rfl,by kernel_rfl⟩
        ·refine AWP.exit ?_
         refine LeQ.start ?_
         refine LeQ.pk [0,1,5,6] 1 ?_
         have hr:=someb hF
         subst hr
         exact ⟨rfl,by kernel_rfl,by kernel_rfl⟩
      ·rintro _ _ _ ⟨rfl,rfl,rfl⟩
       refine AWP.seq ?_
       obtain ⟨x192,h193,hF⟩:=bindb hF
       obtain ⟨h194,hF⟩:=chkb hF
       obtain ⟨h195,hF⟩:=chkb hF
       obtain ⟨r196,h197,hF⟩:=bindb hF
       refine AWP.dr [(2,.idx Za h193),(3,.ixd h194),(4,.ldA Zf (Arr5.get x192) 0 2 0 h194),(8,.slice Za v80 h195),(9,.call Tryz.func145 [] (Zjm a0 (List.drop (Int.toNat (0:Int)) (List.take (Int.toNat v176) v80)) r196 h197))] 12 [] [11] [] [(0,(i64 a0)),(1,(slc 10 Za v80)),(5,(.ptr 0 0)),(6,(i64 v176)),(7,(.ptr 1 0))] [.cells (Zc v79),.cells (Zc (packetset_group.mk (Arr5.get x192 a0) r196))] ?_
       refine AWP.seq ?_
       refine AWP.seq ?_
       obtain ⟨h198,hF⟩:=chkb hF
       obtain ⟨r199,h200,hF⟩:=bindb hF
       refine AWP.rg0 [(4,.slice Za v80 h198),(5,.call Tryz.func130 [] (ih (IntKind.wrap .i64 (a0 + (1:Int))) (List.drop (Int.toNat (0:Int)) (List.take (Int.toNat v176) v80)) r199 h200))] [(0,(i64 a0)),(1,(slc 10 Za v80)),(5,(.ptr 0 0)),(6,(i64 v176)),(7,(.ptr 1 0)),(53,(vb (!r199)))] ?_
       refine AWP.cif hF (fun h237 hF=>?_) (fun h237 hF=>?_)
       ·refine .seq (.rg0 [] [(4,(vb false))] ?_)
        refine AWP.ret ?_
        exact LeQ.of (.inr ⟨rfl,false,(someb hF).symm,(FnQ.f0 0 (.inr rfl))⟩)
       ·refine AWP.skip ?_
        obtain ⟨o217,h218,hF⟩:=bindb hF
        refine AWP.seq ?_
        refine AWP.mid (fun e st H=>(e=.normal∧o217=(.inl ())∧st=[(0,(i64 a0)),(1,(slc 10 Za v80)),(5,(.ptr 0 0)),(6,(i64 v176)),(7,(.ptr 1 0))]∧H=[.cells (Zc v79),.cells (Zc (packetset_group.mk (Arr5.get x192 a0) r196))])∨(e=.ret∧∃ (r:Bool),o217=(.inr r)∧Zg6 r e st H)) ?_ ?_
        ·clear hF
         have hF:=h218
         refine .seq (.rg0 [(2,.len Za v79.f_rest)] [(0,(i64 a0)),(1,(slc 10 Za v80)),(5,(.ptr 0 0)),(6,(i64 v176)),(7,(.ptr 1 0)),(57,(vb (decide ((List.length v79.f_rest:Int) > (0:Int)))))] ?_)
         refine AWP.cif hF (fun h234 hF=>?_) (fun h234 hF=>?_)
         ·refine AWP.seq ?_
          obtain ⟨b219,h220,hF⟩:=bindb hF
          replace h220:=someb h220
          obtain ⟨v227,h228,hF⟩:=bindb hF
          refine AWP.to [(0,(i64 a0)),(1,(slc 10 Za v80)),(5,(.ptr 0 0)),(6,(i64 v176)),(7,(.ptr 1 0)),(81,(vb v227))] [.cells (Zc v79),.cells (Zc (packetset_group.mk (Arr5.get x192 a0) r196))] ?_ ?_
          ·cases b219 with
           | false=>
            have h229:=ifF h228 rfl
            obtain ⟨b221,h222,h229⟩:=bindb h229
            replace h222:=someb h222
            obtain ⟨v225,h226,h229⟩:=bindb h229
            replace h229:=someb h229
            subst h229
            cases b221 with
            | false=>
             have h230:=someb (ifF h226 rfl)
             subst h230
             exact AWP.rgT [(7,.bool h220),(16,.bool h222)]
            | true=>
             have h231:=ifT h226 rfl
             obtain ⟨r223,h224,h231⟩:=bindb h231
             replace h231:=someb h231
             subst h231
             exact AWP.rgT [(7,.bool h220),(16,.bool h222),(21,.call Tryz.func146 [] (Zco r196 v79.f_rest r223 h224))]
           | true=>
            have h232:=someb (ifT h228 rfl)
            subst h232
            exact AWP.rgT [(7,.bool h220)]
          refine AWP.cif hF (fun h233 hF=>?_) (fun h233 hF=>?_)
          ·refine .seq (.rg0 [] [(4,(vb false))] ?_)
           refine AWP.ret ?_
           exact LeQ.of (.inr ⟨rfl,false,(someb hF).symm,(FnQ.f0 0 (.inr rfl))⟩)
          ·refine AWP.skip ?_
           refine LeQ.start ?_
           refine LeQ.pk [0,1,5,6,7] 2 ?_
           exact (.inl ⟨rfl,(someb hF).symm,by kernel_rfl,by kernel_rfl⟩)
         ·refine AWP.skip ?_
          refine LeQ.start ?_
          refine LeQ.pk [0,1,5,6,7] 2 ?_
          exact (.inl ⟨rfl,(someb hF).symm,by kernel_rfl,by kernel_rfl⟩)
        ·rintro _ _ _ (⟨rfl,rfl,rfl,rfl⟩ | ⟨rfl,r236,rfl,hq⟩)
         ·obtain ⟨h235,hF⟩:=chkb hF
          refine AWP.dr [(3,.slice Za v80 h235)] 5 [] [4] [] [(0,(i64 a0)),(1,(slc 10 Za (List.drop (Int.toNat v176) (List.take (Int.toNat (List.length v80:Int)) v80)))),(5,(.ptr 0 0))] [.cells (Zc (packetset_group.mk (Arr5.get x192 a0) r196)),.cells (Zc (packetset_group.mk (Arr5.get x192 a0) r196))] ?_
          refine LeQ.start ?_
          refine LeQ.pk [0,1,5] 1 ?_
          exact ⟨n161,Nat.lt_succ_self _,(packetset_group.mk (Arr5.get x192 a0) r196),(List.drop (Int.toNat v176) (List.take (Int.toNat (List.length v80:Int)) v80)),hF,by kernel_rfl,by kernel_rfl⟩
         ·exact LeQ.of (.inr ⟨rfl,r236,(someb hF).symm,hq⟩)
     ·refine AWP.exit ?_
      refine LeQ.start ?_
      refine LeQ.pk [] 1 ?_
      exact (.inl ⟨rfl,v79,(someb hF).symm,by kernel_rfl,by kernel_rfl⟩)
   ·rintro _ _ _ (⟨rfl,v158,rfl,rfl,rfl⟩ | ⟨rfl,r239,rfl,hq⟩)
    ·refine .seq (.rg0 [] [(4,(vb true))] ?_)
     refine AWP.ret ?_
     have hr:=someb hF
     subst hr
     exact (FnQ.f0 0 (.inr rfl))
    ·have hr:=someb hF
     subst hr
     exact hq
theorem Zi2 (a0:Int) (a1:(List (Arr5 api_Range))) (r:Bool) (hF:Za4 fuel a0 a1=some r):ACall Tryz.prog glob 130 [(i64 a0),(slc 10 Za a1)] [] (Zfn r):=Zil fuel a0 a1 r hF
def Zjn (r:Bool):PV→List Blk→Prop:=fun p K=>p=(vb r)∧K=[]
theorem Zhg (a0:(List (Arr5 api_Range))) (r:Bool) (hF:Zc2 a0=some r):ACall Tryz.prog glob 99 [(slc 10 Za a0)] [] (Zjn r):=by
 refine ACall.body Tryz.func99 rfl (by kernel_rfl) ?_
 unfold Zc2 at hF
 refine .seq (.rg0 [] [(0,(slc 10 Za a0))] ?_)
 refine AWP.seq ?_
 obtain ⟨b1,h2,hF⟩:=bindb hF
 replace h2:=someb h2
 obtain ⟨v5,h6,hF⟩:=bindb hF
 obtain ⟨b7,h8,hF⟩:=bindb hF
 replace h8:=someb h8
 obtain ⟨v11,h12,hF⟩:=bindb hF
 refine AWP.to [(2,(vb v11))] [] ?_ ?_
 ·cases b1 with
  | false=>
   have h13:=someb (ifF h6 rfl)
   subst h13
   subst h8
   have h14:=someb (ifF h12 rfl)
   subst h14
   exact AWP.rgT [(1,.len Za a0),(3,.bool h2)]
  | true=>
   have h15:=ifT h6 rfl
   obtain ⟨r3,h4,h15⟩:=bindb h15
   replace h15:=someb h15
   subst h15
   cases b7 with
   | false=>
    have h16:=someb (ifF h12 rfl)
    subst h16
    exact AWP.rgT [(1,.len Za a0),(3,.bool h2),(5,.call Tryz.func129 [] (Zf5 a0 r3 h4)),(6,.len Za r3),(8,.len Za a0),(11,.bool h8)]
   | true=>
    have h17:=ifT h12 rfl
    obtain ⟨r9,h10,h17⟩:=bindb h17
    replace h17:=someb h17
    subst h17
    exact AWP.rgT [(1,.len Za a0),(3,.bool h2),(5,.call Tryz.func129 [] (Zf5 a0 r3 h4)),(6,.len Za r3),(8,.len Za a0),(11,.bool h8),(13,.call Tryz.func130 [] (Zi2 (0:Int) a0 r9 h10))]
 refine AWP.ret ?_
 have hr:=someb hF
 subst hr
 exact (FnQ.f0 0 (.inr rfl))
def Zja (r:Bool):PV→List Blk→Prop:=fun p K=>p=(vb r)∧K=[]
theorem Zg8 (a0:Bool) (a1:Bool) (r:Bool) (hF:Zdc a0 a1=some r):ACall Tryz.prog glob 132 [(vb a0),(vb a1)] [] (Zja r):=by
 refine ACall.body Tryz.func132 rfl (by kernel_rfl) ?_
 unfold Zdc at hF
 refine .seq (.rg0 [] [(0,(vb a0)),(1,(vb a1))] ?_)
 refine AWP.seq ?_
 obtain ⟨b1,h2,hF⟩:=bindb hF
 replace h2:=someb h2
 refine AWP.to [(4,(vb (b1 || a1)))] [] ?_ ?_
 ·cases b1 with
  | false=>
   exact AWP.rgT [(1,.bool h2)]
  | true=>
   exact AWP.rgT [(1,.bool h2)]
 refine AWP.ret ?_
 have hr:=someb hF
 subst hr
 exact (FnQ.f0 0 (.inr rfl))
def Zlc (r:Int):PV→List Blk→Prop:=fun p K=>p=(u32 r)∧K=[]
theorem Zld (a0:Int) (r:Int) (hF:Zh0 a0=some r):ACall Tryz.prog glob 119 [(i64 a0)] [] (Zlc r):=by
 refine ACall.body Tryz.func119 rfl (by kernel_rfl) ?_
 unfold Zh0 at hF
 refine .seq (.rg0 [] [(0,(i64 a0))] ?_)
 refine AWP.seq ?_
 refine AWP.seq ?_
 obtain ⟨b1,h2,hF⟩:=bindb hF
 replace h2:=someb h2
 refine AWP.to [(0,(i64 a0)),(8,(vb (b1 || (decide (a0 ≥ (5:Int))))))] [] ?_ ?_
 ·cases b1 with
  | false=>
   exact AWP.rgT [(2,.bool h2)]
  | true=>
   exact AWP.rgT [(2,.bool h2)]
 refine AWP.cif hF (fun h4 hF=>?_) (fun h4 hF=>?_)
 ·refine .seq (.rg0 [] [(2,(u32 (0:Int)))] ?_)
  refine AWP.ret ?_
  have hr:=someb hF
  subst hr
  exact (FnQ.f0 0 (.inr rfl))
 ·refine AWP.skip ?_
  refine AWP.seq ?_
  obtain ⟨h3,hF⟩:=chkb hF
  refine AWP.rg0 [(1,.ixd h3),(2,.ldA Zfz (Arr5.get Zao) 0 1 0 h3)] [(2,(u32 (Arr5.get Zao a0)))] ?_
  refine AWP.ret ?_
  have hr:=someb hF
  subst hr
  exact (FnQ.f0 0 (.inr rfl))
def Zjo (r:Int):PV→List Blk→Prop:=fun p K=>p=(i64 r)∧K=[]
theorem Zjp (a0:Int) (r:Int) (hF:Zfb a0=some r):ACall Tryz.prog glob 170 [(u64 a0)] [] (Zjo r):=by
 refine ACall.body Tryz.func170 rfl (by kernel_rfl) ?_
 unfold Zfb at hF
 refine .seq (.rg0 [] [(0,(u64 a0)),(2,(i64 (0:Int)))] ?_)
 obtain ⟨o4,h5,hF⟩:=bindb hF
 refine AWP.seq ?_
 refine AWP.mid (fun e st H=>(e=.normal∧∃ (v2:Int),∃ (v3:Int),o4=(v2,v3)∧st=[(0,(u64 v2)),(2,(i64 v3))]∧H=[])) ?_ ?_
 ·clear hF
  have hF:=h5
  refine .seq (.rg0 [] [(0,(u64 a0)),(2,(i64 (0:Int))),(4,(vb (decide (a0 ≥ (4294967296:Int)))))] ?_)
  refine AWP.cif hF (fun h6 hF=>?_) (fun h6 hF=>?_)
  ·refine .seq (.rg0 [] [(0,(u64 (bShr .u64 a0 (32:Int))))] ?_)
   refine AWP.rg0 [] [(0,(u64 (bShr .u64 a0 (32:Int)))),(2,(i64 (32:Int)))] ?_
   refine LeQ.start ?_
   refine LeQ.pk [0,2] 0 ?_
   exact ⟨rfl,(bShr .u64 a0 (32:Int)),(32:Int),(someb hF).symm,by kernel_rfl,by kernel_rfl⟩
  ·refine AWP.skip ?_
   refine LeQ.start ?_
   refine LeQ.pk [0,2] 0 ?_
   exact ⟨rfl,a0,(0:Int),(someb hF).symm,by kernel_rfl,by kernel_rfl⟩
 ·rintro _ _ _ ⟨rfl,v2,v3,rfl,rfl,rfl⟩
  obtain ⟨o10,h11,hF⟩:=bindb hF
  refine AWP.seq ?_
  refine AWP.mid (fun e st H=>(e=.normal∧∃ (v8:Int),∃ (v9:Int),o10=(v8,v9)∧st=[(0,(u64 v8)),(2,(i64 v9))]∧H=[])) ?_ ?_
  ·clear hF
   have hF:=h11
   refine .seq (.rg0 [] [(0,(u64 v2)),(2,(i64 v3)),(8,(vb (decide (v2 ≥ (65536:Int)))))] ?_)
   refine AWP.cif hF (fun h12 hF=>?_) (fun h12 hF=>?_)
   ·refine .seq (.rg0 [] [(0,(u64 (bShr .u64 v2 (16:Int)))),(2,(i64 v3))] ?_)
    refine AWP.rg0 [] [(0,(u64 (bShr .u64 v2 (16:Int)))),(2,(i64 (IntKind.wrap .i64 (v3 + (16:Int)))))] ?_
    refine LeQ.start ?_
    refine LeQ.pk [0,2] 0 ?_
    exact ⟨rfl,(bShr .u64 v2 (16:Int)),(IntKind.wrap .i64 (v3 + (16:Int))),(someb hF).symm,by kernel_rfl,by kernel_rfl⟩
   ·refine AWP.skip ?_
    refine LeQ.start ?_
    refine LeQ.pk [0,2] 0 ?_
    exact ⟨rfl,v2,v3,(someb hF).symm,by kernel_rfl,by kernel_rfl⟩
  ·rintro _ _ _ ⟨rfl,v8,v9,rfl,rfl,rfl⟩
   obtain ⟨o16,h17,hF⟩:=bindb hF
   refine AWP.seq ?_
   refine AWP.mid (fun e st H=>(e=.normal∧∃ (v14:Int),∃ (v15:Int),o16=(v14,v15)∧st=[(0,(u64 v14)),(2,(i64 v15))]∧H=[])) ?_ ?_
   ·clear hF
    have hF:=h17
    refine .seq (.rg0 [] [(0,(u64 v8)),(2,(i64 v9)),(14,(vb (decide (v8 ≥ (256:Int)))))] ?_)
    refine AWP.cif hF (fun h18 hF=>?_) (fun h18 hF=>?_)
    ·refine .seq (.rg0 [] [(0,(u64 (bShr .u64 v8 (8:Int)))),(2,(i64 v9))] ?_)
     refine AWP.rg0 [] [(0,(u64 (bShr .u64 v8 (8:Int)))),(2,(i64 (IntKind.wrap .i64 (v9 + (8:Int)))))] ?_
     refine LeQ.start ?_
     refine LeQ.pk [0,2] 0 ?_
     exact ⟨rfl,(bShr .u64 v8 (8:Int)),(IntKind.wrap .i64 (v9 + (8:Int))),(someb hF).symm,by kernel_rfl,by kernel_rfl⟩
    ·refine AWP.skip ?_
     refine LeQ.start ?_
     refine LeQ.pk [0,2] 0 ?_
     exact ⟨rfl,v8,v9,(someb hF).symm,by kernel_rfl,by kernel_rfl⟩
   ·rintro _ _ _ ⟨rfl,v14,v15,rfl,rfl,rfl⟩
    refine AWP.seq ?_
    obtain ⟨x19,h20,hF⟩:=bindb hF
    refine AWP.rg0 [(3,.str h20)] [(2,(i64 (IntKind.wrap .i64 (v15 + (IntKind.wrap .i64 x19)))))] ?_
    refine AWP.ret ?_
    have hr:=someb hF
    subst hr
    exact (FnQ.f0 0 (.inr rfl))
def Zkg (r:Int):PV→List Blk→Prop:=fun p K=>p=(i64 r)∧K=[]
theorem Zh5 (a0:Int) (r:Int) (hF:Zd7 a0=some r):ACall Tryz.prog glob 158 [(u64 a0)] [] (Zkg r):=by
 refine ACall.body Tryz.func158 rfl (by kernel_rfl) ?_
 unfold Zd7 at hF
 refine .seq (.rg0 [] [(0,(u64 a0))] ?_)
 refine AWP.seq ?_
 refine AWP.cF ?_
 refine AWP.skip ?_
 refine AWP.seq ?_
 obtain ⟨r1,h2,hF⟩:=bindb hF
 refine AWP.rg0 [(1,.call Tryz.func170 [] (Zjp a0 r1 h2))] [(2,(i64 r1))] ?_
 refine AWP.ret ?_
 have hr:=someb hF
 subst hr
 exact (FnQ.f0 0 (.inr rfl))
def Zjb (r:Bool):PV→List Blk→Prop:=fun p K=>p=(vb r)∧K=[]
theorem Zd3 (a0:Int) (r:Bool) (hF:Zd2 a0=some r):ACall Tryz.prog glob 176 [(u64 a0)] [] (Zjb r):=by
 refine ACall.body Tryz.func176 rfl (by kernel_rfl) ?_
 unfold Zd2 at hF
 refine .seq (.rg0 [] [(0,(u64 a0))] ?_)
 refine .seq (.rg0 [] [(2,(vb (a0 != a0)))] ?_)
 refine AWP.ret ?_
 have hr:=someb hF
 subst hr
 exact (FnQ.f0 0 (.inr rfl))
def Zjq (r:Bool):PV→List Blk→Prop:=fun p K=>p=(vb r)∧K=[]
theorem Zaq (a0:Int) (a1:Int) (r:Bool) (hF:Zz a0 a1=some r):ACall Tryz.prog glob 166 [(u64 a0),(u64 a1)] [] (Zjq r):=by
 refine ACall.body Tryz.func166 rfl (by kernel_rfl) ?_
 unfold Zz at hF
 refine .seq (.rg0 [] [(0,(u64 a0)),(1,(u64 a1))] ?_)
 refine AWP.seq ?_
 obtain ⟨r1,h2,hF⟩:=bindb hF
 obtain ⟨b3,h4,hF⟩:=bindb hF
 replace h4:=someb h4
 obtain ⟨v7,h8,hF⟩:=bindb hF
 obtain ⟨b9,h10,hF⟩:=bindb hF
 replace h10:=someb h10
 refine AWP.to [(4,(vb (b9 || (decide (a0<a1)))))] [] ?_ ?_
 ·cases b3 with
  | false=>
   have h11:=someb (ifF h8 rfl)
   subst h11
   subst h10
   exact AWP.rgT [(1,.call Tryz.func176 [] (Zd3 a0 r1 h2)),(2,.bool h4)]
  | true=>
   have h12:=ifT h8 rfl
   obtain ⟨r5,h6,h12⟩:=bindb h12
   replace h12:=someb h12
   subst h12
   cases b9 with
   | false=>
    exact AWP.rgT [(1,.call Tryz.func176 [] (Zd3 a0 r1 h2)),(2,.bool h4),(4,.call Tryz.func176 [] (Zd3 a1 r5 h6)),(7,.bool h10)]
   | true=>
    exact AWP.rgT [(1,.call Tryz.func176 [] (Zd3 a0 r1 h2)),(2,.bool h4),(4,.call Tryz.func176 [] (Zd3 a1 r5 h6)),(7,.bool h10)]
 refine AWP.ret ?_
 have hr:=someb hF
 subst hr
 exact (FnQ.f0 0 (.inr rfl))
def Zft (s0:List Value) (r:(List Int)):PV→List Blk→Prop:=fun p K=>p=(.tup [])∧K=[.cells (cel Zb r s0)]
theorem Zfu (a0:Nat) (a1:(List Int)) (s0:List Value) (a2:Int) (a3:Int) (r:(List Int)) (hF:Zbd a0 a1 a2 a3=some r):ACall Tryz.prog glob 160 [(.vw 0 0 a0),(i64 a2),(i64 a3)] [.cells (cel Zb a1 s0)] (Zft s0 r):=by
 refine ACall.body Tryz.func160 rfl (by kernel_rfl) ?_
 unfold Zbd at hF
 refine .seq (.rg0 [] [(0,(.vw 0 0 a0)),(1,(i64 a2)),(2,(i64 a3)),(6,(i64 (IntKind.wrap .i64 (a2 + (1:Int)))))] ?_)
 obtain ⟨v144,h145,hF⟩:=bindb hF
 refine AWP.mid (fun e st H=>e=.normal∧st=[]∧H=[.cells (cel Zb v144 s0)]) ?_ ?_
 ·clear hF
  refine AWP.kp [0,1,2,6] 1 ?_
  refine AWP.bround (fun n st H=>∃ (v72:(List Int)),∃ (v73:Int),Z7 a0 a2 a3 n v72 v73=some v144∧st=[(0,(.vw 0 0 a0)),(1,(i64 a2)),(2,(i64 a3)),(6,(i64 v73))]∧H=[.cells (cel Zb v72 s0)]) fuel ⟨a1,(IntKind.wrap .i64 (a2 + (1:Int))),h145,by kernel_rfl,by kernel_rfl⟩ ?_
  rintro n146 st H ⟨v72,v73,hF,rfl,rfl⟩
  cases n146 with
  | zero=>exact noneb hF
  | succ n146=>
   rw [Z7] at hF
   refine AWP.seq ?_
   refine .seq (.rg0 [] [(0,(.vw 0 0 a0)),(1,(i64 a2)),(2,(i64 a3)),(6,(i64 v73)),(12,(vb (decide (v73<a3))))] ?_)
   refine AWP.cif hF (fun h216 hF=>?_) (fun h216 hF=>?_)
   ·refine AWP.skip ?_
    refine AWP.seq ?_
    refine AWP.block ?_
    refine .seq (.rg0 [] [(0,(.vw 0 0 a0)),(1,(i64 a2)),(2,(i64 a3)),(6,(i64 v73)),(7,(i64 v73))] ?_)
    obtain ⟨v192,h193,hF⟩:=bindb hF
    refine AWP.mid (fun e st H=>e=.normal∧st=[(0,(.vw 0 0 a0)),(1,(i64 a2)),(2,(i64 a3)),(6,(i64 v73))]∧H=[.cells (cel Zb v192 s0)]) ?_ ?_
    ·clear hF
     refine AWP.kp [0,1,2,6,7] 1 ?_
     refine AWP.bround (fun n st H=>∃ (v169:(List Int)),∃ (v170:Int),Z6 a0 a2 n v169 v170=some v192∧st=[(0,(.vw 0 0 a0)),(1,(i64 a2)),(2,(i64 a3)),(6,(i64 v73)),(7,(i64 v170))]∧H=[.cells (cel Zb v169 s0)]) fuel ⟨v72,v73,h193,by kernel_rfl,by kernel_rfl⟩ ?_
     rintro n194 st H ⟨v169,v170,hF,rfl,rfl⟩
     cases n194 with
     | zero=>exact noneb hF
     | succ n194=>
      rw [Z6] at hF
      refine AWP.seq ?_
      refine AWP.seq ?_
      obtain ⟨b195,h196,hF⟩:=bindb hF
      replace h196:=someb h196
      obtain ⟨v203,h204,hF⟩:=bindb hF
      refine AWP.to [(0,(.vw 0 0 a0)),(1,(i64 a2)),(2,(i64 a3)),(6,(i64 v73)),(7,(i64 v170)),(30,(vb v203))] [.cells (cel Zb v169 s0)] ?_ ?_
      ·cases b195 with
       | false=>
        have h205:=someb (ifF h204 rfl)
        subst h205
        exact AWP.drT [(3,.bool h196)] 15 [] [] []
       | true=>
        have h206:=ifT h204 rfl
        obtain ⟨x197,h198,h206⟩:=bindb h206
        obtain ⟨x199,h200,h206⟩:=bindb h206
        obtain ⟨r201,h202,h206⟩:=bindb h206
        replace h206:=someb h206
        subst h206
        exact AWP.drT [(3,.bool h196),(6,.idxV (idxn_lt h198)),(7,.ldV Zb (s:=1) (fun _=>rfl) s0 (idxn_idx h198) (0 + Int.toNat v170 * 1) (Nat.zero_add _) []),(11,.idxV (idxn_lt h200)),(12,.ldV Zb (s:=1) (fun _=>rfl) s0 (idxn_idx h200) (0 + Int.toNat (IntKind.wrap .i64 (v170 - (1:Int))) * 1) (Nat.zero_add _) []),(13,.call Tryz.func166 [] (Zaq x197 x199 r201 h202))] 15 [] [] []
      refine AWP.cif hF (fun h215 hF=>?_) (fun h215 hF=>?_)
      ·refine AWP.skip ?_
       refine AWP.seq ?_
       refine AWP.block ?_
       obtain ⟨x207,h208,hF⟩:=bindb hF
       obtain ⟨x209,h210,hF⟩:=bindb hF
       obtain ⟨x211,h212,hF⟩:=bindb hF
       obtain ⟨x213,h214,hF⟩:=bindb hF
       refine AWP.dr [(8,.idxV (idxn_lt h208)),(9,.ldV Zb (s:=1) (fun _=>rfl) s0 (idxn_idx h208) (0 + Int.toNat (IntKind.wrap .i64 (v170 - (1:Int))) * 1) (Nat.zero_add _) []),(12,.idxV (idxn_lt h210)),(13,.ldV Zb (s:=1) (fun _=>rfl) s0 (idxn_idx h210) (0 + Int.toNat v170 * 1) (Nat.zero_add _) []),(14,.idxV (idxn_lt h212)),(15,.stV Zb (s:=1) (fun _=>rfl) s0 (idxn_idx h212) x207 (0 + Int.toNat v170 * 1) (Nat.zero_add _) []),(16,.idxV (idxn_lt h214)),(17,.stV Zb (s:=1) (fun _=>rfl) s0 (idxn_idx h214) x209 (0 + Int.toNat (IntKind.wrap .i64 (v170 - (1:Int))) * 1) (Nat.zero_add _) [])] 16 [] [15] [] [(0,(.vw 0 0 a0)),(1,(i64 a2)),(2,(i64 a3)),(6,(i64 v73)),(7,(i64 v170))] [.cells (cel Zb (List.set (List.set v169 (Int.toNat v170) x207) (Int.toNat (IntKind.wrap .i64 (v170 - (1:Int)))) x209) s0)] ?_
       refine AWP.rg0 [] [(0,(.vw 0 0 a0)),(1,(i64 a2)),(2,(i64 a3)),(6,(i64 v73)),(7,(i64 (IntKind.wrap .i64 (v170 - (1:Int)))))] ?_
       refine LeQ.start ?_
       refine LeQ.pk [0,1,2,6,7] 1 ?_
       exact ⟨n194,Nat.lt_succ_self _,(List.set (List.set v169 (Int.toNat v170) x207) (Int.toNat (IntKind.wrap .i64 (v170 - (1:Int)))) x209),(IntKind.wrap .i64 (v170 - (1:Int))),hF,by kernel_rfl,by kernel_rfl⟩
      ·refine AWP.exit ?_
       refine LeQ.start ?_
       refine LeQ.pk [0,1,2,6] 1 ?_
       have hr:=someb hF
       subst hr
       exact ⟨rfl,by kernel_rfl,by kernel_rfl⟩
    ·rintro _ _ _ ⟨rfl,rfl,rfl⟩
     refine AWP.rg0 [] [(0,(.vw 0 0 a0)),(1,(i64 a2)),(2,(i64 a3)),(6,(i64 (IntKind.wrap .i64 (v73 + (1:Int)))))] ?_
     refine LeQ.start ?_
     refine LeQ.pk [0,1,2,6] 1 ?_
     exact ⟨n146,Nat.lt_succ_self _,v192,(IntKind.wrap .i64 (v73 + (1:Int))),hF,by kernel_rfl,by kernel_rfl⟩
   ·refine AWP.exit ?_
    refine LeQ.start ?_
    refine LeQ.pk [] 1 ?_
    have hr:=someb hF
    subst hr
    exact ⟨rfl,by kernel_rfl,by kernel_rfl⟩
 ·rintro _ _ _ ⟨rfl,rfl,rfl⟩
  have hr:=someb hF
  subst hr
  exact (FnQ.f0 1 (.inl rfl))
def Zev (s0:List Value) (r:(List Int)):PV→List Blk→Prop:=fun p K=>p=(.tup [])∧K=[.cells (cel Zb r s0)]
abbrev Zgm (s0:List Value) (r:(List Int)):Exit→St→List Blk→Prop:=FnQ Tryz.prog Tryz.f171.results 1 (Zev s0 r)
theorem Zew (a0:Nat) (a1:(List Int)) (s0:List Value) (a2:Int) (a3:Int) (a4:Int) (r:(List Int)) (hF:Zbc a0 a1 a2 a3 a4=some r):ACall Tryz.prog glob 171 [(.vw 0 0 a0),(i64 a2),(i64 a3),(i64 a4)] [.cells (cel Zb a1 s0)] (Zev s0 r):=by
 refine ACall.body Tryz.func171 rfl (by kernel_rfl) ?_
 unfold Zbc at hF
 refine .seq (.rg0 [] [(0,(.vw 0 0 a0)),(2,(i64 a3)),(3,(i64 a4)),(8,(i64 a2))] ?_)
 obtain ⟨o93,h94,hF⟩:=bindb hF
 refine AWP.mid (fun e st H=>(e=.normal∧∃ (v92:(List Int)),o93=(.inl v92)∧st=[]∧H=[.cells (cel Zb v92 s0)])∨(e=.ret∧∃ (r:(List Int)),o93=(.inr r)∧Zgm s0 r e st H)) ?_ ?_
 ·clear hF
  refine AWP.kp [0,2,3,8] 1 ?_
  refine AWP.bround (fun n st H=>∃ (v46:(List Int)),∃ (v47:Int),Z2 a0 a3 a4 n v46 v47=some o93∧st=[(0,(.vw 0 0 a0)),(2,(i64 a3)),(3,(i64 a4)),(8,(i64 v47))]∧H=[.cells (cel Zb v46 s0)]) fuel ⟨a1,a2,h94,by kernel_rfl,by kernel_rfl⟩ ?_
  rintro n95 st H ⟨v46,v47,hF,rfl,rfl⟩
  cases n95 with
  | zero=>exact noneb hF
  | succ n95=>
   rw [Z2] at hF
   refine AWP.block ?_
   refine .seq (.rg0 [] [(0,(.vw 0 0 a0)),(2,(i64 a3)),(3,(i64 a4)),(8,(i64 v47)),(9,(i64 (IntKind.wrap .i64 ((IntKind.wrap .i64 ((2:Int) * v47)) + (1:Int)))))] ?_)
   refine AWP.seq ?_
   refine .seq (.rg0 [] [(0,(.vw 0 0 a0)),(2,(i64 a3)),(3,(i64 a4)),(8,(i64 v47)),(9,(i64 (IntKind.wrap .i64 ((IntKind.wrap .i64 ((2:Int) * v47)) + (1:Int))))),(16,(vb (decide ((IntKind.wrap .i64 ((IntKind.wrap .i64 ((2:Int) * v47)) + (1:Int))) ≥ a3))))] ?_)
   refine AWP.cif hF (fun h139 hF=>?_) (fun h139 hF=>?_)
   ·refine AWP.exit ?_
    refine LeQ.start ?_
    refine LeQ.pk [] 1 ?_
    exact (.inl ⟨rfl,v46,(someb hF).symm,by kernel_rfl,by kernel_rfl⟩)
   ·refine AWP.skip ?_
    obtain ⟨v109,h110,hF⟩:=bindb hF
    refine AWP.seq ?_
    refine AWP.mid (fun e st H=>e=.normal∧st=[(0,(.vw 0 0 a0)),(2,(i64 a3)),(3,(i64 a4)),(8,(i64 v47)),(9,(i64 v109))]∧H=[.cells (cel Zb v46 s0)]) ?_ ?_
    ·clear hF
     have hF:=h110
     refine AWP.seq ?_
     obtain ⟨b111,h112,hF⟩:=bindb hF
     replace h112:=someb h112
     obtain ⟨v119,h120,hF⟩:=bindb hF
     refine AWP.to [(0,(.vw 0 0 a0)),(2,(i64 a3)),(3,(i64 a4)),(8,(i64 v47)),(9,(i64 (IntKind.wrap .i64 ((IntKind.wrap .i64 ((2:Int) * v47)) + (1:Int))))),(36,(vb v119))] [.cells (cel Zb v46 s0)] ?_ ?_
     ·cases b111 with
      | false=>
       have h121:=someb (ifF h120 rfl)
       subst h121
       exact AWP.drT [(4,.bool h112)] 20 [] [] []
      | true=>
       have h122:=ifT h120 rfl
       obtain ⟨x113,h114,h122⟩:=bindb h122
       obtain ⟨x115,h116,h122⟩:=bindb h122
       obtain ⟨r117,h118,h122⟩:=bindb h122
       replace h122:=someb h122
       subst h122
       exact AWP.drT [(4,.bool h112),(9,.idxV (idxn_lt h114)),(10,.ldV Zb (s:=1) (fun _=>rfl) s0 (idxn_idx h114) (0 + Int.toNat (IntKind.wrap .i64 (a4 + (IntKind.wrap .i64 ((IntKind.wrap .i64 ((2:Int) * v47)) + (1:Int))))) * 1) (Nat.zero_add _) []),(16,.idxV (idxn_lt h116)),(17,.ldV Zb (s:=1) (fun _=>rfl) s0 (idxn_idx h116) (0 + Int.toNat (IntKind.wrap .i64 ((IntKind.wrap .i64 (a4 + (IntKind.wrap .i64 ((IntKind.wrap .i64 ((2:Int) * v47)) + (1:Int))))) + (1:Int))) * 1) (Nat.zero_add _) []),(18,.call Tryz.func166 [] (Zaq x113 x115 r117 h118))] 20 [] [] []
     refine AWP.cif hF (fun h123 hF=>?_) (fun h123 hF=>?_)
     ·refine AWP.rg0 [] [(0,(.vw 0 0 a0)),(2,(i64 a3)),(3,(i64 a4)),(8,(i64 v47)),(9,(i64 (IntKind.wrap .i64 ((IntKind.wrap .i64 ((IntKind.wrap .i64 ((2:Int) * v47)) + (1:Int))) + (1:Int)))))] ?_
      refine LeQ.start ?_
      refine LeQ.pk [0,2,3,8,9] 1 ?_
      have hr:=someb hF
      subst hr
      exact ⟨rfl,by kernel_rfl,by kernel_rfl⟩
     ·refine AWP.skip ?_
      refine LeQ.start ?_
      refine LeQ.pk [0,2,3,8,9] 1 ?_
      have hr:=someb hF
      subst hr
      exact ⟨rfl,by kernel_rfl,by kernel_rfl⟩
    ·rintro _ _ _ ⟨rfl,rfl,rfl⟩
     refine AWP.seq ?_
     refine AWP.seq ?_
     obtain ⟨x124,h125,hF⟩:=bindb hF
     obtain ⟨x126,h127,hF⟩:=bindb hF
     obtain ⟨r128,h129,hF⟩:=bindb hF
     refine AWP.dr [(4,.idxV (idxn_lt h125)),(5,.ldV Zb (s:=1) (fun _=>rfl) s0 (idxn_idx h125) (0 + Int.toNat (IntKind.wrap .i64 (a4 + v47)) * 1) (Nat.zero_add _) []),(10,.idxV (idxn_lt h127)),(11,.ldV Zb (s:=1) (fun _=>rfl) s0 (idxn_idx h127) (0 + Int.toNat (IntKind.wrap .i64 (a4 + v109)) * 1) (Nat.zero_add _) []),(12,.call Tryz.func166 [] (Zaq x124 x126 r128 h129))] 14 [] [] [] [(0,(.vw 0 0 a0)),(2,(i64 a3)),(3,(i64 a4)),(8,(i64 v47)),(9,(i64 v109)),(52,(vb (!r128)))] [.cells (cel Zb v46 s0)] ?_
     refine AWP.cif hF (fun h138 hF=>?_) (fun h138 hF=>?_)
     ·refine AWP.ret ?_
      exact LeQ.of (.inr ⟨rfl,v46,(someb hF).symm,(FnQ.f0 1 (.inr rfl))⟩)
     ·refine AWP.skip ?_
      refine AWP.seq ?_
      obtain ⟨x130,h131,hF⟩:=bindb hF
      obtain ⟨x132,h133,hF⟩:=bindb hF
      obtain ⟨x134,h135,hF⟩:=bindb hF
      obtain ⟨x136,h137,hF⟩:=bindb hF
      refine AWP.dr [(12,.idxV (idxn_lt h131)),(13,.ldV Zb (s:=1) (fun _=>rfl) s0 (idxn_idx h131) (0 + Int.toNat (IntKind.wrap .i64 (a4 + v109)) * 1) (Nat.zero_add _) []),(18,.idxV (idxn_lt h133)),(19,.ldV Zb (s:=1) (fun _=>rfl) s0 (idxn_idx h133) (0 + Int.toNat (IntKind.wrap .i64 (a4 + v47)) * 1) (Nat.zero_add _) []),(20,.idxV (idxn_lt h135)),(21,.stV Zb (s:=1) (fun _=>rfl) s0 (idxn_idx h135) x130 (0 + Int.toNat (IntKind.wrap .i64 (a4 + v47)) * 1) (Nat.zero_add _) []),(22,.idxV (idxn_lt h137)),(23,.stV Zb (s:=1) (fun _=>rfl) s0 (idxn_idx h137) x132 (0 + Int.toNat (IntKind.wrap .i64 (a4 + v109)) * 1) (Nat.zero_add _) [])] 22 [] [21] [] [(0,(.vw 0 0 a0)),(2,(i64 a3)),(3,(i64 a4)),(9,(i64 v109))] [.cells (cel Zb (List.set (List.set v46 (Int.toNat (IntKind.wrap .i64 (a4 + v47))) x130) (Int.toNat (IntKind.wrap .i64 (a4 + v109))) x132) s0)] ?_
      refine AWP.rg0 [] [(0,(.vw 0 0 a0)),(2,(i64 a3)),(3,(i64 a4)),(8,(i64 v109))] ?_
      refine LeQ.start ?_
      refine LeQ.pk [0,2,3,8] 1 ?_
      exact ⟨n95,Nat.lt_succ_self _,(List.set (List.set v46 (Int.toNat (IntKind.wrap .i64 (a4 + v47))) x130) (Int.toNat (IntKind.wrap .i64 (a4 + v109))) x132),v109,hF,by kernel_rfl,by kernel_rfl⟩
 ·rintro _ _ _ (⟨rfl,v92,rfl,rfl,rfl⟩ | ⟨rfl,r140,rfl,hq⟩)
  ·have hr:=someb hF
   subst hr
   exact (FnQ.f0 1 (.inl rfl))
  ·have hr:=someb hF
   subst hr
   exact hq
def Zgn (s0:List Value) (r:(List Int)):PV→List Blk→Prop:=fun p K=>p=(.tup [])∧K=[.cells (cel Zb r s0)]
theorem Zgo (a0:Nat) (a1:(List Int)) (s0:List Value) (a2:Int) (a3:Int) (r:(List Int)) (hF:Zbt a0 a1 a2 a3=some r):ACall Tryz.prog glob 161 [(.vw 0 0 a0),(i64 a2),(i64 a3)] [.cells (cel Zb a1 s0)] (Zgn s0 r):=by
 refine ACall.body Tryz.func161 rfl (by kernel_rfl) ?_
 unfold Zbt at hF
 refine .seq (.rg0 [] [(0,(.vw 0 0 a0)),(1,(i64 a2)),(2,(i64 a3)),(6,(i64 a2))] ?_)
 refine .seq (.rg0 [] [(0,(.vw 0 0 a0)),(1,(i64 a2)),(2,(i64 a3)),(6,(i64 a2)),(7,(i64 (0:Int)))] ?_)
 refine .seq (.rg0 [] [(0,(.vw 0 0 a0)),(6,(i64 a2)),(7,(i64 (0:Int))),(8,(i64 (IntKind.wrap .i64 (a3 - a2))))] ?_)
 refine AWP.seq ?_
 refine .seq (.rg0 [] [(0,(.vw 0 0 a0)),(6,(i64 a2)),(7,(i64 (0:Int))),(8,(i64 (IntKind.wrap .i64 (a3 - a2)))),(9,(i64 (IntKind.wrap .i64 (Int.tdiv (IntKind.wrap .i64 ((IntKind.wrap .i64 (a3 - a2)) - (1:Int))) (2:Int)))))] ?_)
 obtain ⟨v10,h11,hF⟩:=bindb hF
 refine AWP.mid (fun e st H=>e=.normal∧st=[(0,(.vw 0 0 a0)),(6,(i64 a2)),(7,(i64 (0:Int))),(8,(i64 (IntKind.wrap .i64 (a3 - a2))))]∧H=[.cells (cel Zb v10 s0)]) ?_ ?_
 ·clear hF
  refine AWP.kp [0,6,7,8,9] 1 ?_
  refine AWP.bround (fun n st H=>∃ (v5:(List Int)),∃ (v6:Int),Zaj a0 a2 a3 n v5 v6=some v10∧st=[(0,(.vw 0 0 a0)),(6,(i64 a2)),(7,(i64 (0:Int))),(8,(i64 (IntKind.wrap .i64 (a3 - a2)))),(9,(i64 v6))]∧H=[.cells (cel Zb v5 s0)]) fuel ⟨a1,(IntKind.wrap .i64 (Int.tdiv (IntKind.wrap .i64 ((IntKind.wrap .i64 (a3 - a2)) - (1:Int))) (2:Int))),h11,by kernel_rfl,by kernel_rfl⟩ ?_
  rintro n12 st H ⟨v5,v6,hF,rfl,rfl⟩
  cases n12 with
  | zero=>exact noneb hF
  | succ n12=>
   rw [Zaj] at hF
   refine AWP.seq ?_
   refine .seq (.rg0 [] [(0,(.vw 0 0 a0)),(6,(i64 a2)),(7,(i64 (0:Int))),(8,(i64 (IntKind.wrap .i64 (a3 - a2)))),(9,(i64 v6)),(19,(vb (decide (v6 ≥ (0:Int)))))] ?_)
   refine AWP.cif hF (fun h15 hF=>?_) (fun h15 hF=>?_)
   ·refine AWP.skip ?_
    refine AWP.seq ?_
    refine AWP.block ?_
    obtain ⟨r13,h14,hF⟩:=bindb hF
    refine AWP.rg [(4,.callC Tryz.func171 [] (closedH.c (cel_closed (row:=Zb) (fun _=>rfl) v5 s0) closedH.n) (closedH.c (cel_closed (row:=Zb) (fun _=>rfl) r13 s0) closedH.n) (Zew a0 v5 s0 v6 (IntKind.wrap .i64 (a3 - a2)) a2 r13 h14))] [(0,(.vw 0 0 a0)),(6,(i64 a2)),(7,(i64 (0:Int))),(8,(i64 (IntKind.wrap .i64 (a3 - a2)))),(9,(i64 v6))] [.cells (cel Zb r13 s0)] ?_
    refine AWP.rg0 [] [(0,(.vw 0 0 a0)),(6,(i64 a2)),(7,(i64 (0:Int))),(8,(i64 (IntKind.wrap .i64 (a3 - a2)))),(9,(i64 (IntKind.wrap .i64 (v6 - (1:Int)))))] ?_
    refine LeQ.start ?_
    refine LeQ.pk [0,6,7,8,9] 1 ?_
    exact ⟨n12,Nat.lt_succ_self _,r13,(IntKind.wrap .i64 (v6 - (1:Int))),hF,by kernel_rfl,by kernel_rfl⟩
   ·refine AWP.exit ?_
    refine LeQ.start ?_
    refine LeQ.pk [0,6,7,8] 1 ?_
    have hr:=someb hF
    subst hr
    exact ⟨rfl,by kernel_rfl,by kernel_rfl⟩
 ·rintro _ _ _ ⟨rfl,rfl,rfl⟩
  refine .seq (.rg0 [] [(0,(.vw 0 0 a0)),(6,(i64 a2)),(7,(i64 (0:Int))),(10,(i64 (IntKind.wrap .i64 ((IntKind.wrap .i64 (a3 - a2)) - (1:Int)))))] ?_)
  obtain ⟨v41,h42,hF⟩:=bindb hF
  refine AWP.mid (fun e st H=>e=.normal∧st=[]∧H=[.cells (cel Zb v41 s0)]) ?_ ?_
  ·clear hF
   refine AWP.kp [0,6,7,10] 1 ?_
   refine AWP.bround (fun n st H=>∃ (v28:(List Int)),∃ (v29:Int),Zak a0 a2 n v28 v29=some v41∧st=[(0,(.vw 0 0 a0)),(6,(i64 a2)),(7,(i64 (0:Int))),(10,(i64 v29))]∧H=[.cells (cel Zb v28 s0)]) fuel ⟨v10,(IntKind.wrap .i64 ((IntKind.wrap .i64 (a3 - a2)) - (1:Int))),h42,by kernel_rfl,by kernel_rfl⟩ ?_
   rintro n43 st H ⟨v28,v29,hF,rfl,rfl⟩
   cases n43 with
   | zero=>exact noneb hF
   | succ n43=>
    rw [Zak] at hF
    refine AWP.seq ?_
    refine .seq (.rg0 [] [(0,(.vw 0 0 a0)),(6,(i64 a2)),(7,(i64 (0:Int))),(10,(i64 v29)),(30,(vb (decide (v29 ≥ (0:Int)))))] ?_)
    refine AWP.cif hF (fun h54 hF=>?_) (fun h54 hF=>?_)
    ·refine AWP.skip ?_
     refine AWP.seq ?_
     refine AWP.block ?_
     refine AWP.seq ?_
     obtain ⟨x44,h45,hF⟩:=bindb hF
     obtain ⟨x46,h47,hF⟩:=bindb hF
     obtain ⟨x48,h49,hF⟩:=bindb hF
     obtain ⟨x50,h51,hF⟩:=bindb hF
     refine AWP.dr [(10,.idxV (idxn_lt h45)),(11,.ldV Zb (s:=1) (fun _=>rfl) s0 (idxn_idx h45) (0 + Int.toNat (IntKind.wrap .i64 (a2 + v29)) * 1) (Nat.zero_add _) []),(14,.idxV (idxn_lt h47)),(15,.ldV Zb (s:=1) (fun _=>rfl) s0 (idxn_idx h47) (0 + Int.toNat a2 * 1) (Nat.zero_add _) []),(16,.idxV (idxn_lt h49)),(17,.stV Zb (s:=1) (fun _=>rfl) s0 (idxn_idx h49) x44 (0 + Int.toNat a2 * 1) (Nat.zero_add _) []),(18,.idxV (idxn_lt h51)),(19,.stV Zb (s:=1) (fun _=>rfl) s0 (idxn_idx h51) x46 (0 + Int.toNat (IntKind.wrap .i64 (a2 + v29)) * 1) (Nat.zero_add _) [])] 18 [] [17] [] [(0,(.vw 0 0 a0)),(6,(i64 a2)),(7,(i64 (0:Int))),(10,(i64 v29))] [.cells (cel Zb (List.set (List.set v28 (Int.toNat a2) x44) (Int.toNat (IntKind.wrap .i64 (a2 + v29))) x46) s0)] ?_
     obtain ⟨r52,h53,hF⟩:=bindb hF
     refine AWP.rg [(4,.callC Tryz.func171 [] (closedH.c (cel_closed (row:=Zb) (fun _=>rfl) (List.set (List.set v28 (Int.toNat a2) x44) (Int.toNat (IntKind.wrap .i64 (a2 + v29))) x46) s0) closedH.n) (closedH.c (cel_closed (row:=Zb) (fun _=>rfl) r52 s0) closedH.n) (Zew a0 (List.set (List.set v28 (Int.toNat a2) x44) (Int.toNat (IntKind.wrap .i64 (a2 + v29))) x46) s0 (0:Int) v29 a2 r52 h53))] [(0,(.vw 0 0 a0)),(6,(i64 a2)),(7,(i64 (0:Int))),(10,(i64 v29))] [.cells (cel Zb r52 s0)] ?_
     refine AWP.rg0 [] [(0,(.vw 0 0 a0)),(6,(i64 a2)),(7,(i64 (0:Int))),(10,(i64 (IntKind.wrap .i64 (v29 - (1:Int)))))] ?_
     refine LeQ.start ?_
     refine LeQ.pk [0,6,7,10] 1 ?_
     exact ⟨n43,Nat.lt_succ_self _,r52,(IntKind.wrap .i64 (v29 - (1:Int))),hF,by kernel_rfl,by kernel_rfl⟩
    ·refine AWP.exit ?_
     refine LeQ.start ?_
     refine LeQ.pk [] 1 ?_
     have hr:=someb hF
     subst hr
     exact ⟨rfl,by kernel_rfl,by kernel_rfl⟩
  ·rintro _ _ _ ⟨rfl,rfl,rfl⟩
   have hr:=someb hF
   subst hr
   exact (FnQ.f0 1 (.inl rfl))
def Zhv (r:Int):PV→List Blk→Prop:=fun p K=>p=(u64 r)∧K=[]
theorem Zhw (a0:Int) (r:Int) (hF:Zdr a0=some r):ACall Tryz.prog glob 172 [(i64 a0)] [] (Zhv r):=by
 refine ACall.body Tryz.func172 rfl (by kernel_rfl) ?_
 unfold Zdr at hF
 refine .seq (.rg0 [] [(0,(i64 a0))] ?_)
 refine AWP.seq ?_
 obtain ⟨r1,h2,hF⟩:=bindb hF
 obtain ⟨h3,hF⟩:=chkb hF
 refine AWP.rg0 [(2,.call Tryz.func158 [] (Zh5 (IntKind.wrap .u64 a0) r1 h2)),(3,.sh h3)] [(2,(u64 (bShl .u64 (1:Int) r1)))] ?_
 refine AWP.ret ?_
 have hr:=someb hF
 subst hr
 exact (FnQ.f0 0 (.inr rfl))
def Zh9 (r:(Int × Int)):PV→List Blk→Prop:=fun p K=>p=(u64 r.1)∧K=[.cells (Zb r.2)]
theorem Zia (a0:Int) (r:(Int × Int)) (hF:Zc6 a0=some r):ACall Tryz.prog glob 173 [(.ptr 0 0)] [.cells (Zb a0)] (Zh9 r):=by
 refine ACall.body Tryz.func173 rfl (by kernel_rfl) ?_
 unfold Zc6 at hF
 refine .seq (.rg0 [] [(0,(.ptr 0 0))] ?_)
 refine .seq (.dr [] 8 [] [] [] [(0,(.ptr 0 0))] [.cells (Zb (bXor .u64 a0 (bShl .u64 a0 (13:Int))))] ?_)
 refine .seq (.dr [] 8 [] [] [] [(0,(.ptr 0 0))] [.cells (Zb (bXor .u64 (bXor .u64 a0 (bShl .u64 a0 (13:Int))) (bShr .u64 (bXor .u64 a0 (bShl .u64 a0 (13:Int))) (7:Int))))] ?_)
 refine .seq (.dr [] 8 [] [] [] [(0,(.ptr 0 0))] [.cells (Zb (bXor .u64 (bXor .u64 (bXor .u64 a0 (bShl .u64 a0 (13:Int))) (bShr .u64 (bXor .u64 a0 (bShl .u64 a0 (13:Int))) (7:Int))) (bShl .u64 (bXor .u64 (bXor .u64 a0 (bShl .u64 a0 (13:Int))) (bShr .u64 (bXor .u64 a0 (bShl .u64 a0 (13:Int))) (7:Int))) (17:Int))))] ?_)
 refine .seq (.rg0 [] [(2,(u64 (bXor .u64 (bXor .u64 (bXor .u64 a0 (bShl .u64 a0 (13:Int))) (bShr .u64 (bXor .u64 a0 (bShl .u64 a0 (13:Int))) (7:Int))) (bShl .u64 (bXor .u64 (bXor .u64 a0 (bShl .u64 a0 (13:Int))) (bShr .u64 (bXor .u64 a0 (bShl .u64 a0 (13:Int))) (7:Int))) (17:Int)))))] ?_)
 refine AWP.ret ?_
 have hr:=someb hF
 subst hr
 exact (FnQ.f0 1 (.inr rfl))
def Zfv (s0:List Value) (r:(List Int)):PV→List Blk→Prop:=fun p K=>p=(.tup [])∧K=[.cells (cel Zb r s0)]
theorem Zfw (a0:Nat) (a1:(List Int)) (s0:List Value) (a2:Int) (a3:Int) (r:(List Int)) (hF:Zar a0 a1 a2 a3=some r):ACall Tryz.prog glob 162 [(.vw 0 0 a0),(i64 a2),(i64 a3)] [.cells (cel Zb a1 s0)] (Zfv s0 r):=by
 refine ACall.body Tryz.func162 rfl (by kernel_rfl) ?_
 unfold Zar at hF
 refine .seq (.rg0 [] [(0,(.vw 0 0 a0)),(1,(i64 a2)),(6,(i64 (IntKind.wrap .i64 (a3 - a2))))] ?_)
 refine .seq (.rg0 [] [(0,(.vw 0 0 a0)),(1,(i64 a2)),(6,(i64 (IntKind.wrap .i64 (a3 - a2)))),(15,(vb (decide ((IntKind.wrap .i64 (a3 - a2)) ≥ (8:Int)))))] ?_)
 refine AWP.cif hF (fun h111 hF=>?_) (fun h111 hF=>?_)
 ·refine .seq (.rg [] [(0,(.vw 0 0 a0)),(1,(i64 a2)),(6,(i64 (IntKind.wrap .i64 (a3 - a2)))),(7,(.ptr 1 0))] [.cells (cel Zb a1 s0),.cells (Zb (IntKind.wrap .u64 (IntKind.wrap .i64 (a3 - a2))))] ?_)
  refine AWP.seq ?_
  obtain ⟨r1,h2,hF⟩:=bindb hF
  refine AWP.rg0 [(1,.call Tryz.func172 [] (Zhw (IntKind.wrap .i64 (a3 - a2)) r1 h2))] [(0,(.vw 0 0 a0)),(1,(i64 a2)),(6,(i64 (IntKind.wrap .i64 (a3 - a2)))),(7,(.ptr 1 0)),(8,(u64 r1))] ?_
  refine .seq (.rg0 [] [(0,(.vw 0 0 a0)),(1,(i64 a2)),(6,(i64 (IntKind.wrap .i64 (a3 - a2)))),(7,(.ptr 1 0)),(8,(u64 r1)),(9,(i64 (IntKind.wrap .i64 ((IntKind.wrap .i64 (a2 + (IntKind.wrap .i64 ((IntKind.wrap .i64 (Int.tdiv (IntKind.wrap .i64 (a3 - a2)) (4:Int))) * (2:Int))))) - (1:Int)))))] ?_)
  obtain ⟨o75,h76,hF⟩:=bindb hF
  refine AWP.mid (fun e st H=>(e=.normal∧∃ (v73:(List Int)),∃ (v74:Int),o75=(v73,v74)∧st=[]∧H=[.cells (cel Zb v73 s0),.cells (Zb v74)])) ?_ ?_
  ·clear hF
   refine AWP.kp [0,1,6,7,8,9] 2 ?_
   refine AWP.bround (fun n st H=>∃ (v37:(List Int)),∃ (v38:Int),∃ (v39:Int),Zn a0 a2 a3 r1 n v37 v38 v39=some o75∧st=[(0,(.vw 0 0 a0)),(1,(i64 a2)),(6,(i64 (IntKind.wrap .i64 (a3 - a2)))),(7,(.ptr 1 0)),(8,(u64 r1)),(9,(i64 v39))]∧H=[.cells (cel Zb v37 s0),.cells (Zb v38)]) fuel ⟨a1,(IntKind.wrap .u64 (IntKind.wrap .i64 (a3 - a2))),(IntKind.wrap .i64 ((IntKind.wrap .i64 (a2 + (IntKind.wrap .i64 ((IntKind.wrap .i64 (Int.tdiv (IntKind.wrap .i64 (a3 - a2)) (4:Int))) * (2:Int))))) - (1:Int))),h76,by kernel_rfl,by kernel_rfl⟩ ?_
   rintro n77 st H ⟨v37,v38,v39,hF,rfl,rfl⟩
   cases n77 with
   | zero=>exact noneb hF
   | succ n77=>
    rw [Zn] at hF
    refine AWP.seq ?_
    refine .seq (.rg0 [] [(0,(.vw 0 0 a0)),(1,(i64 a2)),(6,(i64 (IntKind.wrap .i64 (a3 - a2)))),(7,(.ptr 1 0)),(8,(u64 r1)),(9,(i64 v39)),(33,(vb (decide (v39≤(IntKind.wrap .i64 ((IntKind.wrap .i64 (a2 + (IntKind.wrap .i64 ((IntKind.wrap .i64 (Int.tdiv (IntKind.wrap .i64 (a3 - a2)) (4:Int))) * (2:Int))))) + (1:Int)))))))] ?_)
    refine AWP.cif hF (fun h110 hF=>?_) (fun h110 hF=>?_)
    ·refine AWP.skip ?_
     obtain ⟨o94,h95,hF⟩:=bindb hF
     refine AWP.seq ?_
     refine AWP.mid (fun e st H=>(e=.normal∧∃ (v92:(List Int)),∃ (v93:Int),o94=(v92,v93)∧st=[(0,(.vw 0 0 a0)),(1,(i64 a2)),(6,(i64 (IntKind.wrap .i64 (a3 - a2)))),(7,(.ptr 1 0)),(8,(u64 r1)),(9,(i64 v39))]∧H=[.cells (cel Zb v92 s0),.cells (Zb v93)])) ?_ ?_
     ·clear hF
      have hF:=h95
      refine AWP.block ?_
      refine AWP.seq ?_
      obtain ⟨r96,h97,hF⟩:=bindb hF
      refine AWP.rg [(0,.call Tryz.func173 [] (Zia v38 r96 h97))] [(0,(.vw 0 0 a0)),(1,(i64 a2)),(6,(i64 (IntKind.wrap .i64 (a3 - a2)))),(7,(.ptr 1 0)),(8,(u64 r1)),(9,(i64 v39)),(10,(i64 (IntKind.wrap .i64 (bAnd .u64 r96.1 (IntKind.wrap .u64 (r1 - (1:Int)))))))] [.cells (cel Zb v37 s0),.cells (Zb r96.2)] ?_
      obtain ⟨v99,h100,hF⟩:=bindb hF
      refine AWP.seq ?_
      refine AWP.mid (fun e st H=>e=.normal∧st=[(0,(.vw 0 0 a0)),(1,(i64 a2)),(6,(i64 (IntKind.wrap .i64 (a3 - a2)))),(7,(.ptr 1 0)),(8,(u64 r1)),(9,(i64 v39)),(10,(i64 v99))]∧H=[.cells (cel Zb v37 s0),.cells (Zb r96.2)]) ?_ ?_
      ·clear hF
       have hF:=h100
       refine .seq (.rg0 [] [(0,(.vw 0 0 a0)),(1,(i64 a2)),(6,(i64 (IntKind.wrap .i64 (a3 - a2)))),(7,(.ptr 1 0)),(8,(u64 r1)),(9,(i64 v39)),(10,(i64 (IntKind.wrap .i64 (bAnd .u64 r96.1 (IntKind.wrap .u64 (r1 - (1:Int))))))),(43,(vb (decide ((IntKind.wrap .i64 (bAnd .u64 r96.1 (IntKind.wrap .u64 (r1 - (1:Int))))) ≥ (IntKind.wrap .i64 (a3 - a2))))))] ?_)
       refine AWP.cif hF (fun h101 hF=>?_) (fun h101 hF=>?_)
       ·refine AWP.rg0 [] [(0,(.vw 0 0 a0)),(1,(i64 a2)),(6,(i64 (IntKind.wrap .i64 (a3 - a2)))),(7,(.ptr 1 0)),(8,(u64 r1)),(9,(i64 v39)),(10,(i64 (IntKind.wrap .i64 ((IntKind.wrap .i64 (bAnd .u64 r96.1 (IntKind.wrap .u64 (r1 - (1:Int))))) - (IntKind.wrap .i64 (a3 - a2))))))] ?_
        refine LeQ.start ?_
        refine LeQ.pk [0,1,6,7,8,9,10] 2 ?_
        have hr:=someb hF
        subst hr
        exact ⟨rfl,by kernel_rfl,by kernel_rfl⟩
       ·refine AWP.skip ?_
        refine LeQ.start ?_
        refine LeQ.pk [0,1,6,7,8,9,10] 2 ?_
        have hr:=someb hF
        subst hr
        exact ⟨rfl,by kernel_rfl,by kernel_rfl⟩
      ·rintro _ _ _ ⟨rfl,rfl,rfl⟩
       obtain ⟨x102,h103,hF⟩:=bindb hF
       obtain ⟨x104,h105,hF⟩:=bindb hF
       obtain ⟨x106,h107,hF⟩:=bindb hF
       obtain ⟨x108,h109,hF⟩:=bindb hF
       refine AWP.dr [(10,.idxV (idxn_lt h103)),(11,.ldV Zb (s:=1) (fun _=>rfl) s0 (idxn_idx h103) (0 + Int.toNat (IntKind.wrap .i64 (a2 + v99)) * 1) (Nat.zero_add _) []),(14,.idxV (idxn_lt h105)),(15,.ldV Zb (s:=1) (fun _=>rfl) s0 (idxn_idx h105) (0 + Int.toNat v39 * 1) (Nat.zero_add _) []),(16,.idxV (idxn_lt h107)),(17,.stV Zb (s:=1) (fun _=>rfl) s0 (idxn_idx h107) x102 (0 + Int.toNat v39 * 1) (Nat.zero_add _) []),(18,.idxV (idxn_lt h109)),(19,.stV Zb (s:=1) (fun _=>rfl) s0 (idxn_idx h109) x104 (0 + Int.toNat (IntKind.wrap .i64 (a2 + v99)) * 1) (Nat.zero_add _) [])] 18 [] [17] [] [(0,(.vw 0 0 a0)),(1,(i64 a2)),(6,(i64 (IntKind.wrap .i64 (a3 - a2)))),(7,(.ptr 1 0)),(8,(u64 r1)),(9,(i64 v39))] [.cells (cel Zb (List.set (List.set v37 (Int.toNat v39) x102) (Int.toNat (IntKind.wrap .i64 (a2 + v99))) x104) s0),.cells (Zb r96.2)] ?_
       refine LeQ.start ?_
       refine LeQ.pk [0,1,6,7,8,9] 2 ?_
       exact ⟨rfl,(List.set (List.set v37 (Int.toNat v39) x102) (Int.toNat (IntKind.wrap .i64 (a2 + v99))) x104),r96.2,(someb hF).symm,by kernel_rfl,by kernel_rfl⟩
     ·rintro _ _ _ ⟨rfl,v92,v93,rfl,rfl,rfl⟩
      refine AWP.rg0 [] [(0,(.vw 0 0 a0)),(1,(i64 a2)),(6,(i64 (IntKind.wrap .i64 (a3 - a2)))),(7,(.ptr 1 0)),(8,(u64 r1)),(9,(i64 (IntKind.wrap .i64 (v39 + (1:Int)))))] ?_
      refine LeQ.start ?_
      refine LeQ.pk [0,1,6,7,8,9] 2 ?_
      exact ⟨n77,Nat.lt_succ_self _,v92,v93,(IntKind.wrap .i64 (v39 + (1:Int))),hF,by kernel_rfl,by kernel_rfl⟩
    ·refine AWP.exit ?_
     refine LeQ.start ?_
     refine LeQ.pk [] 2 ?_
     exact ⟨rfl,v37,v38,(someb hF).symm,by kernel_rfl,by kernel_rfl⟩
  ·rintro _ _ _ ⟨rfl,v73,v74,rfl,rfl,rfl⟩
   have hr:=someb hF
   subst hr
   exact (FnQ.f0 1 (.inl rfl))
 ·refine AWP.skip ?_
  have hr:=someb hF
  subst hr
  exact (FnQ.f0 1 (.inl rfl))
def Zg0 (a1:(List Int)) (s0:List Value) (r:(Int × Int × Int)):PV→List Blk→Prop:=fun p K=>p=(.tup [(i64 r.1),(i64 r.2.1)])∧K=[.cells (cel Zb a1 s0),.cells (Z3 r.2.2)]
theorem Zdp (a0:Nat) (a1:(List Int)) (s0:List Value) (a2:Int) (a3:Int) (a4:Int) (r:(Int × Int × Int)) (hF:Za2 a0 a1 a2 a3 a4=some r):ACall Tryz.prog glob 177 [(.vw 0 0 a0),(i64 a2),(i64 a3),(.ptr 1 0)] [.cells (cel Zb a1 s0),.cells (Z3 a4)] (Zg0 a1 s0 r):=by
 refine ACall.body Tryz.func177 rfl (by kernel_rfl) ?_
 unfold Za2 at hF
 refine .seq (.rg0 [] [(0,(.vw 0 0 a0)),(1,(i64 a2)),(2,(i64 a3)),(3,(.ptr 1 0))] ?_)
 refine AWP.seq ?_
 refine AWP.seq ?_
 obtain ⟨x1,h2,hF⟩:=bindb hF
 obtain ⟨x3,h4,hF⟩:=bindb hF
 obtain ⟨r5,h6,hF⟩:=bindb hF
 refine AWP.dr [(2,.idxV (idxn_lt h2)),(3,.ldV Zb (s:=1) (fun _=>rfl) s0 (idxn_idx h2) (0 + Int.toNat a3 * 1) (Nat.zero_add _) []),(6,.idxV (idxn_lt h4)),(7,.ldV Zb (s:=1) (fun _=>rfl) s0 (idxn_idx h4) (0 + Int.toNat a2 * 1) (Nat.zero_add _) []),(8,.call Tryz.func166 [] (Zaq x1 x3 r5 h6))] 9 [] [] [] [(1,(i64 a2)),(2,(i64 a3)),(3,(.ptr 1 0)),(18,(vb r5))] [.cells (cel Zb a1 s0),.cells (Z3 a4)] ?_
 refine AWP.cif hF (fun h7 hF=>?_) (fun h7 hF=>?_)
 ·refine .seq (.rg [] [(1,(i64 a2)),(2,(i64 a3))] [.cells (cel Zb a1 s0),.cells (Z3 (IntKind.wrap .i64 (a4 + (1:Int))))] ?_)
  refine .seq (.rg0 [] [(8,(i64 a3)),(9,(i64 a2))] ?_)
  refine AWP.ret ?_
  have hr:=someb hF
  subst hr
  exact (FnQ.f0 2 (.inr rfl))
 ·refine AWP.skip ?_
  refine .seq (.rg0 [] [(8,(i64 a2)),(9,(i64 a3))] ?_)
  refine AWP.ret ?_
  have hr:=someb hF
  subst hr
  exact (FnQ.f0 2 (.inr rfl))
def Zg1 (a1:(List Int)) (s0:List Value) (r:(Int × Int)):PV→List Blk→Prop:=fun p K=>p=(i64 r.1)∧K=[.cells (cel Zb a1 s0),.cells (Z3 r.2)]
theorem Ze6 (a0:Nat) (a1:(List Int)) (s0:List Value) (a2:Int) (a3:Int) (a4:Int) (a5:Int) (r:(Int × Int)) (hF:Zbi a0 a1 a2 a3 a4 a5=some r):ACall Tryz.prog glob 175 [(.vw 0 0 a0),(i64 a2),(i64 a3),(i64 a4),(.ptr 1 0)] [.cells (cel Zb a1 s0),.cells (Z3 a5)] (Zg1 a1 s0 r):=by
 refine ACall.body Tryz.func175 rfl (by kernel_rfl) ?_
 unfold Zbi at hF
 refine .seq (.rg0 [] [(0,(.vw 0 0 a0)),(1,(i64 a2)),(2,(i64 a3)),(3,(i64 a4)),(4,(.ptr 1 0))] ?_)
 refine AWP.seq ?_
 obtain ⟨r1,h2,hF⟩:=bindb hF
 refine AWP.rg [(4,.callC Tryz.func177 [] (closedH.c (cel_closed (row:=Zb) (fun _=>rfl) a1 s0) (closedH.c (cs:=Z3 a5) rfl closedH.n)) (closedH.c (cel_closed (row:=Zb) (fun _=>rfl) a1 s0) (closedH.c (cs:=Z3 r1.2.2) rfl closedH.n)) (Zdp a0 a1 s0 a2 a3 a5 r1 h2))] [(0,(.vw 0 0 a0)),(1,(i64 r1.1)),(2,(i64 r1.2.1)),(3,(i64 a4)),(4,(.ptr 1 0))] [.cells (cel Zb a1 s0),.cells (Z3 r1.2.2)] ?_
 refine AWP.seq ?_
 obtain ⟨r3,h4,hF⟩:=bindb hF
 refine AWP.rg [(4,.callC Tryz.func177 [] (closedH.c (cel_closed (row:=Zb) (fun _=>rfl) a1 s0) (closedH.c (cs:=Z3 r1.2.2) rfl closedH.n)) (closedH.c (cel_closed (row:=Zb) (fun _=>rfl) a1 s0) (closedH.c (cs:=Z3 r3.2.2) rfl closedH.n)) (Zdp a0 a1 s0 r1.2.1 a4 r1.2.2 r3 h4))] [(0,(.vw 0 0 a0)),(1,(i64 r1.1)),(2,(i64 r3.1)),(4,(.ptr 1 0))] [.cells (cel Zb a1 s0),.cells (Z3 r3.2.2)] ?_
 refine AWP.seq ?_
 obtain ⟨r5,h6,hF⟩:=bindb hF
 refine AWP.rg [(4,.callC Tryz.func177 [] (closedH.c (cel_closed (row:=Zb) (fun _=>rfl) a1 s0) (closedH.c (cs:=Z3 r3.2.2) rfl closedH.n)) (closedH.c (cel_closed (row:=Zb) (fun _=>rfl) a1 s0) (closedH.c (cs:=Z3 r5.2.2) rfl closedH.n)) (Zdp a0 a1 s0 r1.1 r3.1 r3.2.2 r5 h6))] [(2,(i64 r5.2.1))] [.cells (cel Zb a1 s0),.cells (Z3 r5.2.2)] ?_
 refine .seq (.rg0 [] [(10,(i64 r5.2.1))] ?_)
 refine AWP.ret ?_
 have hr:=someb hF
 subst hr
 exact (FnQ.f0 2 (.inr rfl))
def Zfp (a1:(List Int)) (s0:List Value) (r:(Int × Int)):PV→List Blk→Prop:=fun p K=>p=(i64 r.1)∧K=[.cells (cel Zb a1 s0),.cells (Z3 r.2)]
theorem Zcp (a0:Nat) (a1:(List Int)) (s0:List Value) (a2:Int) (a3:Int) (r:(Int × Int)) (hF:Zac a0 a1 a2 a3=some r):ACall Tryz.prog glob 174 [(.vw 0 0 a0),(i64 a2),(.ptr 1 0)] [.cells (cel Zb a1 s0),.cells (Z3 a3)] (Zfp a1 s0 r):=by
 refine ACall.body Tryz.func174 rfl (by kernel_rfl) ?_
 unfold Zac at hF
 refine .seq (.rg0 [] [(0,(.vw 0 0 a0)),(1,(i64 a2)),(2,(.ptr 1 0))] ?_)
 refine AWP.seq ?_
 obtain ⟨r1,h2,hF⟩:=bindb hF
 refine AWP.rg [(7,.callC Tryz.func175 [] (closedH.c (cel_closed (row:=Zb) (fun _=>rfl) a1 s0) (closedH.c (cs:=Z3 a3) rfl closedH.n)) (closedH.c (cel_closed (row:=Zb) (fun _=>rfl) a1 s0) (closedH.c (cs:=Z3 r1.2) rfl closedH.n)) (Ze6 a0 a1 s0 (IntKind.wrap .i64 (a2 - (1:Int))) a2 (IntKind.wrap .i64 (a2 + (1:Int))) a3 r1 h2))] [(6,(i64 r1.1))] [.cells (cel Zb a1 s0),.cells (Z3 r1.2)] ?_
 refine AWP.ret ?_
 have hr:=someb hF
 subst hr
 exact (FnQ.f0 2 (.inr rfl))
end Go.AM

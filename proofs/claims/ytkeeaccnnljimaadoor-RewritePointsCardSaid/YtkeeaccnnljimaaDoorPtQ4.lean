/- Parts of a proof, printed short. No condition. -/
import Derived.Test.YtkeeaccnnljimaaDoorProg
import Derived.Test.YtkeeaccnnljimaaDoorPtQ3
set_option maxRecDepth 100000
namespace Go.AM
open Go Go.Proofs
def Zkw (r:Bool):PV→List Blk→Prop:=fun p K=>p=(vb r)∧K=[]
theorem Zhj (r:Bool) (hF:Zf8=some r):ACall Tryd.prog glob 10 [] [] (Zkw r):=by
 have hr:=someb hF
 subst hr
 exact (T8_ok _ (List.mem_cons.2 (.inl rfl))).1
def Zla (r:nsggen_Tape):PV→List Blk→Prop:=fun p K=>p=(.ptr 0 0)∧K=[.cells (Ze r)]
theorem Zlb (a0:(List Int)) (r:nsggen_Tape) (hF:Zg1 a0=some r):ACall Tryd.prog glob 6 [(slc 1 Z5 a0)] [] (Zla r):=by
 refine ACall.body Tryd.func6 rfl (by kernel_rfl) ?_
 unfold Zg1 at hF
 refine .seq (.rg0 [] [(0,(slc 1 Z5 a0))] ?_)
 refine .seq (.rg [] [(2,(.ptr 0 0))] [.cells (Ze (nsggen_Tape.mk a0 (0:Int)))] ?_)
 refine AWP.ret ?_
 have hr:=someb hF
 subst hr
 exact (FnQ.f0 1 (.inr rfl))
def Zlc (r:Int):PV→List Blk→Prop:=fun p K=>p=(i64 r)∧K=[]
theorem Zjf (a0:Int) (a1:Int) (r:Int) (hF:Zfl a0 a1=some r):ACall Tryd.prog glob 45 [(i64 a0),(i64 a1)] [] (Zlc r):=by
 refine ACall.body Tryd.func45 rfl (by kernel_rfl) ?_
 unfold Zfl at hF
 refine .seq (.rg0 [] [(0,(i64 a0)),(1,(i64 a1))] ?_)
 refine AWP.seq ?_
 obtain ⟨h1,hF⟩:=chkb hF
 refine AWP.rg0 [(4,.rem h1)] [(4,(i64 (IntKind.wrap .i64 (Int.tmod (IntKind.wrap .u64 a0) (IntKind.wrap .u64 a1)))))] ?_
 refine AWP.ret ?_
 have hr:=someb hF
 subst hr
 exact (FnQ.f0 0 (.inr rfl))
def Zjg (r:(Int × nsggen_Tape)):PV→List Blk→Prop:=fun p K=>p=(i64 r.1)∧K=[.cells (Ze r.2)]
theorem Zn (a0:nsggen_Tape) (a1:Int) (r:(Int × nsggen_Tape)) (hF:Zm a0 a1=some r):ACall Tryd.prog glob 18 [(.ptr 0 0),(i64 a1)] [.cells (Ze a0)] (Zjg r):=by
 refine ACall.body Tryd.func18 rfl (by kernel_rfl) ?_
 unfold Zm at hF
 refine .seq (.rg0 [] [(0,(.ptr 0 0)),(1,(i64 a1))] ?_)
 refine AWP.seq ?_
 refine AWP.seq ?_
 obtain ⟨b1,h2,hF⟩:=bindb hF
 replace h2:=someb h2
 refine AWP.to [(0,(.ptr 0 0)),(1,(i64 a1)),(18,(vb (b1 || (decide (a0.f_i ≥ (List.length a0.f_l:Int))))))] [.cells (Ze a0)] ?_ ?_
 ·cases b1 with
  | false=>
   exact AWP.drT [(2,.bool h2),(11,.len Z5 a0.f_l)] 14 [] [] []
  | true=>
   exact AWP.drT [(2,.bool h2)] 14 [] [] []
 refine AWP.cif hF (fun h7 hF=>?_) (fun h7 hF=>?_)
 ·refine .seq (.rg0 [] [(4,(i64 (0:Int)))] ?_)
  refine AWP.ret ?_
  have hr:=someb hF
  subst hr
  exact (FnQ.f0 1 (.inr rfl))
 ·refine AWP.skip ?_
  refine .seq (.rg [] [(0,(.ptr 0 0)),(1,(i64 a1))] [.cells (Ze ({ a0 with f_i:=(IntKind.wrap .i64 (a0.f_i + (1:Int))) }:nsggen_Tape))] ?_)
  refine AWP.seq ?_
  obtain ⟨x3,h4,hF⟩:=bindb hF
  obtain ⟨r5,h6,hF⟩:=bindb hF
  refine AWP.dr [(9,.idx Z5 h4),(12,.call Tryd.func45 [] (Zjf x3 a1 r5 h6))] 13 [] [] [] [(4,(i64 r5))] [.cells (Ze ({ a0 with f_i:=(IntKind.wrap .i64 (a0.f_i + (1:Int))) }:nsggen_Tape))] ?_
  refine AWP.ret ?_
  have hr:=someb hF
  subst hr
  exact (FnQ.f0 1 (.inr rfl))
def Zi5 (r:Int):PV→List Blk→Prop:=fun p K=>p=(u32 r)∧K=[]
abbrev Zk6 (r:Int):Exit→St→List Blk→Prop:=FnQ Tryd.prog Tryd.f30.results 0 (Zi5 r)
theorem Zhs (a0:Int) (r:Int) (hF:Ze4 a0=some r):ACall Tryd.prog glob 30 [(i64 a0)] [] (Zi5 r):=by
 refine ACall.body Tryd.func30 rfl (by kernel_rfl) ?_
 unfold Ze4 at hF
 refine .seq (.rg0 [] [(0,(i64 a0))] ?_)
 obtain ⟨o12,h13,hF⟩:=bindb hF
 refine AWP.seq ?_
 refine AWP.mid (fun e st H=>(e=.normal∧o12=(.inl ())∧st=[]∧H=[])∨(e=.ret∧∃ (r:Int),o12=(.inr r)∧Zk6 r e st H)) ?_ ?_
 ·clear hF
  have hF:=h13
  refine .seq (.rg0 [] [(3,(i64 a0))] ?_)
  refine AWP.block ?_
  obtain ⟨v15,h16,hF⟩:=bindb hF
  refine AWP.seq ?_
  refine AWP.mid (fun e st H=>e=.normal∧st=[(3,(i64 a0)),(4,(vb v15))]∧H=[]) ?_ ?_
  ·clear hF
   have hF:=h16
   refine .seq (.rg0 [] [(3,(i64 a0)),(4,(vb (a0 == (0:Int))))] ?_)
   refine AWP.cif hF (fun h17 hF=>?_) (fun h17 hF=>?_)
   ·refine AWP.skip ?_
    refine LeQ.start ?_
    refine LeQ.pk [3,4] 0 ?_
    have hr:=someb hF
    subst hr
    exact ⟨rfl,by kernel_rfl,by kernel_rfl⟩
   ·refine AWP.rg0 [] [(3,(i64 a0)),(4,(vb (a0 == (1:Int))))] ?_
    refine LeQ.start ?_
    refine LeQ.pk [3,4] 0 ?_
    have hr:=someb hF
    subst hr
    exact ⟨rfl,by kernel_rfl,by kernel_rfl⟩
  ·rintro _ _ _ ⟨rfl,rfl,rfl⟩
   refine AWP.cif hF (fun h24 hF=>?_) (fun h24 hF=>?_)
   ·refine .seq (.rg0 [] [(2,(u32 (4294967295:Int)))] ?_)
    refine AWP.ret ?_
    exact LeQ.of (.inr ⟨rfl,(4294967295:Int),(someb hF).symm,(FnQ.f0 0 (.inr rfl))⟩)
   ·refine .seq (.rg0 [] [(3,(i64 a0)),(7,(vb (a0 == (2:Int))))] ?_)
    refine AWP.cif hF (fun h23 hF=>?_) (fun h23 hF=>?_)
    ·refine .seq (.rg0 [] [(2,(u32 (255:Int)))] ?_)
     refine AWP.ret ?_
     exact LeQ.of (.inr ⟨rfl,(255:Int),(someb hF).symm,(FnQ.f0 0 (.inr rfl))⟩)
    ·obtain ⟨v19,h20,hF⟩:=bindb hF
     refine AWP.seq ?_
     refine AWP.mid (fun e st H=>e=.normal∧st=[(9,(vb v19))]∧H=[]) ?_ ?_
     ·clear hF
      have hF:=h20
      refine .seq (.rg0 [] [(3,(i64 a0)),(9,(vb (a0 == (3:Int))))] ?_)
      refine AWP.cif hF (fun h21 hF=>?_) (fun h21 hF=>?_)
      ·refine AWP.skip ?_
       refine LeQ.start ?_
       refine LeQ.pk [9] 0 ?_
       have hr:=someb hF
       subst hr
       exact ⟨rfl,by kernel_rfl,by kernel_rfl⟩
      ·refine AWP.rg0 [] [(9,(vb (a0 == (4:Int))))] ?_
       refine LeQ.start ?_
       refine LeQ.pk [9] 0 ?_
       have hr:=someb hF
       subst hr
       exact ⟨rfl,by kernel_rfl,by kernel_rfl⟩
     ·rintro _ _ _ ⟨rfl,rfl,rfl⟩
      refine AWP.cif hF (fun h22 hF=>?_) (fun h22 hF=>?_)
      ·refine .seq (.rg0 [] [(2,(u32 (65535:Int)))] ?_)
       refine AWP.ret ?_
       exact LeQ.of (.inr ⟨rfl,(65535:Int),(someb hF).symm,(FnQ.f0 0 (.inr rfl))⟩)
      ·refine AWP.skip ?_
       refine LeQ.start ?_
       refine LeQ.pk [] 0 ?_
       exact (.inl ⟨rfl,(someb hF).symm,by kernel_rfl,by kernel_rfl⟩)
 ·rintro _ _ _ (⟨rfl,rfl,rfl,rfl⟩ | ⟨rfl,r25,rfl,hq⟩)
  ·refine .seq (.rg0 [] [(2,(u32 (0:Int)))] ?_)
   refine AWP.ret ?_
   have hr:=someb hF
   subst hr
   exact (FnQ.f0 0 (.inr rfl))
  ·have hr:=someb hF
   subst hr
   exact hq
def Zkx (r:(Arr5 api_Range)):PV→List Blk→Prop:=fun p K=>p=(Zk r)∧K=[]
theorem Zip (r:(Arr5 api_Range)) (hF:Zfm=some r):ACall Tryd.prog glob 27 [] [] (Zkx r):=by
 refine ACall.body Tryd.func27 rfl (by kernel_rfl) ?_
 unfold Zfm at hF
 refine .seq (.rg [] [(0,(.ptr 0 0))] [.cells (Za Zl)] ?_)
 refine .seq (.rg [] [(0,(.ptr 0 0)),(1,(.ptr 1 0))] [.cells (Za Zl),.cells (Za Zl)] ?_)
 refine AWP.seq ?_
 refine .seq (.rg0 [] [(0,(.ptr 0 0)),(1,(.ptr 1 0)),(2,(i64 (0:Int)))] ?_)
 obtain ⟨v16,h17,hF⟩:=bindb hF
 refine AWP.mid (fun e st H=>e=.normal∧st=[(0,(.ptr 0 0)),(1,(.ptr 1 0))]∧H=[.cells (Za Zl),.cells (Za v16)]) ?_ ?_
 ·clear hF
  refine AWP.kp [0,1,2] 2 ?_
  refine AWP.bround (fun n st H=>∃ (v8:(Arr5 api_Range)),∃ (v9:Int),Zfj n v8 v9=some v16∧st=[(0,(.ptr 0 0)),(1,(.ptr 1 0)),(2,(i64 v9))]∧H=[.cells (Za Zl),.cells (Za v8)]) fuel ⟨Zl,(0:Int),h17,by kernel_rfl,by kernel_rfl⟩ ?_
  rintro n18 st H ⟨v8,v9,hF,rfl,rfl⟩
  cases n18 with
  | zero=>exact noneb hF
  | succ n18=>
   rw [Zfj] at hF
   refine AWP.seq ?_
   refine .seq (.rg0 [] [(0,(.ptr 0 0)),(1,(.ptr 1 0)),(2,(i64 v9)),(4,(vb (decide (v9<(5:Int)))))] ?_)
   refine AWP.cif hF (fun h24 hF=>?_) (fun h24 hF=>?_)
   ·refine AWP.skip ?_
    refine AWP.seq ?_
    refine AWP.block ?_
    obtain ⟨r19,h20,hF⟩:=bindb hF
    obtain ⟨h21,hF⟩:=chkb hF
    refine AWP.rg [(2,.call Tryd.func30 [] (Zhs v9 r19 h20)),(3,.ixd h21),(5,.stA (fun q23=>Za (Arr5.set v8 q23 ({ (Arr5.get v8 q23) with Hi:=r19 }:api_Range))) 0 2 1 h21)] [(0,(.ptr 0 0)),(1,(.ptr 1 0)),(2,(i64 v9))] [.cells (Za Zl),.cells (Za (Arr5.set v8 v9 ({ (Arr5.get v8 v9) with Hi:=r19 }:api_Range)))] ?_
    refine AWP.rg0 [] [(0,(.ptr 0 0)),(1,(.ptr 1 0)),(2,(i64 (IntKind.wrap .i64 (v9 + (1:Int)))))] ?_
    refine LeQ.start ?_
    refine LeQ.pk [0,1,2] 2 ?_
    exact ⟨n18,Nat.lt_succ_self _,(Arr5.set v8 v9 ({ (Arr5.get v8 v9) with Hi:=r19 }:api_Range)),(IntKind.wrap .i64 (v9 + (1:Int))),hF,by kernel_rfl,by kernel_rfl⟩
   ·refine AWP.exit ?_
    refine LeQ.start ?_
    refine LeQ.pk [0,1] 2 ?_
    have hr:=someb hF
    subst hr
    exact ⟨rfl,by kernel_rfl,by kernel_rfl⟩
 ·rintro _ _ _ ⟨rfl,rfl,rfl⟩
  refine .seq (.rg [] [(0,(.ptr 0 0))] [.cells (Za v16),.cells (Za v16)] ?_)
  refine AWP.ret ?_
  have hr:=someb hF
  subst hr
  exact (FnQ.f0 0 (.inr rfl))
def Ziy (r:(Int × nsggen_Tape)):PV→List Blk→Prop:=fun p K=>p=(u32 r.1)∧K=[.cells (Ze r.2)]
theorem Zc7 (a0:nsggen_Tape) (a1:Int) (r:(Int × nsggen_Tape)) (hF:Zbj a0 a1=some r):ACall Tryd.prog glob 53 [(.ptr 0 0),(u32 a1)] [.cells (Ze a0)] (Ziy r):=by
 refine ACall.body Tryd.func53 rfl (by kernel_rfl) ?_
 unfold Zbj at hF
 refine .seq (.rg0 [] [(0,(.ptr 0 0)),(1,(u32 a1))] ?_)
 refine AWP.seq ?_
 obtain ⟨r1,h2,hF⟩:=bindb hF
 obtain ⟨x3,h4,hF⟩:=bindb hF
 refine AWP.rg [(7,.call Tryd.func18 [] (Zn a0 (17:Int) r1 h2)),(8,.idx Zdd h4)] [(1,(u32 a1)),(5,(u32 x3))] [.cells (Ze r1.2)] ?_
 refine .seq (.rg0 [] [(4,(u32 (iMin x3 a1)))] ?_)
 refine AWP.ret ?_
 have hr:=someb hF
 subst hr
 exact (FnQ.f0 1 (.inr rfl))
def Zkh (r:api_Prefix):PV→List Blk→Prop:=fun p K=>p=(Zhr r)∧K=[]
theorem Zg4 (a0:Int) (r:api_Prefix) (hF:Zdr a0=some r):ACall Tryd.prog glob 55 [(i64 a0)] [] (Zkh r):=by
 refine ACall.body Tryd.func55 rfl (by kernel_rfl) ?_
 unfold Zdr at hF
 refine .seq (.rg [] [(0,(i64 a0)),(2,(.ptr 0 0))] [.cells (Zck Zk9)] ?_)
 refine AWP.seq ?_
 obtain ⟨r1,h2,hF⟩:=bindb hF
 obtain ⟨x3,h4,hF⟩:=bindb hF
 refine AWP.rg [(8,.call Tryd.func45 [] (Zjf a0 (6:Int) r1 h2)),(9,.idx Zck h4)] [(2,(.ptr 0 0))] [.cells (Zck x3)] ?_
 refine AWP.ret ?_
 have hr:=someb hF
 subst hr
 exact (FnQ.f0 0 (.inr rfl))
def Zky (r:Int):PV→List Blk→Prop:=fun p K=>p=(u64 r)∧K=[]
theorem Ziq (a0:Int) (r:Int) (hF:Zf9 a0=some r):ACall Tryd.prog glob 73 [(i64 a0)] [] (Zky r):=by
 refine ACall.body Tryd.func73 rfl (by kernel_rfl) ?_
 unfold Zf9 at hF
 refine .seq (.rg0 [] [(0,(i64 a0))] ?_)
 refine AWP.seq ?_
 obtain ⟨h1,hF⟩:=chkb hF
 refine AWP.rg0 [(3,.sh h1)] [(2,(u64 (bShl .u64 (1:Int) (IntKind.wrap .u64 (IntKind.wrap .i64 ((32:Int) - a0))))))] ?_
 refine AWP.ret ?_
 have hr:=someb hF
 subst hr
 exact (FnQ.f0 0 (.inr rfl))
def Zki (r:Bool):PV→List Blk→Prop:=fun p K=>p=(vb r)∧K=[]
theorem Zkj (a0:api_Prefix) (r:Bool) (hF:Zg2 a0=some r):ACall Tryd.prog glob 72 [(Zhr a0)] [] (Zki r):=by
 refine ACall.body Tryd.func72 rfl (by kernel_rfl) ?_
 unfold Zg2 at hF
 refine .seq (.rg [] [(1,(.ptr 0 0))] [.cells (Zck a0)] ?_)
 refine AWP.seq ?_
 obtain ⟨b1,h2,hF⟩:=bindb hF
 replace h2:=someb h2
 obtain ⟨b3,h4,hF⟩:=bindb hF
 replace h4:=someb h4
 obtain ⟨v8,h9,hF⟩:=bindb hF
 refine AWP.to [(2,(vb v8))] [.cells (Zck a0)] ?_ ?_
 ·cases b1 with
  | false=>
   subst h4
   have h10:=someb (ifF h9 rfl)
   subst h10
   exact AWP.drT [(3,.bool h2)] 18 [] [] []
  | true=>
   cases b3 with
   | false=>
    have h11:=someb (ifF h9 rfl)
    subst h11
    exact AWP.drT [(3,.bool h2),(8,.bool h4)] 18 [] [] []
   | true=>
    have h12:=ifT h9 rfl
    obtain ⟨r5,h6,h12⟩:=bindb h12
    obtain ⟨h7,h12⟩:=chkb h12
    replace h12:=someb h12
    subst h12
    exact AWP.drT [(3,.bool h2),(8,.bool h4),(14,.call Tryd.func73 [] (Ziq a0.Bits r5 h6)),(15,.rem h7)] 18 [] [] []
 refine AWP.ret ?_
 have hr:=someb hF
 subst hr
 exact (FnQ.f0 0 (.inr rfl))
def Zld (r:(api_Range × Bool)):PV→List Blk→Prop:=fun p K=>p=(.tup [(Zh0 r.1),(vb r.2)])∧K=[]
theorem Zh1 (a0:api_Prefix) (r:(api_Range × Bool)) (hF:Zfn a0=some r):ACall Tryd.prog glob 54 [(Zhr a0)] [] (Zld r):=by
 refine ACall.body Tryd.func54 rfl (by kernel_rfl) ?_
 unfold Zfn at hF
 refine .seq (.rg [] [(1,(.ptr 0 0)),(2,(.ptr 1 0))] [.cells (Zck a0),.cells (Zg Zj)] ?_)
 refine AWP.seq ?_
 refine AWP.seq ?_
 obtain ⟨r1,h2,hF⟩:=bindb hF
 refine AWP.rg0 [(1,.call Tryd.func72 [] (Zkj a0 r1 h2))] [(1,(.ptr 0 0)),(2,(.ptr 1 0)),(6,(vb (!r1)))] ?_
 refine AWP.cif hF (fun h5 hF=>?_) (fun h5 hF=>?_)
 ·refine .seq (.rg [] [(2,(.ptr 1 0)),(3,(vb false))] [.cells (Zck a0),.cells (Zg (api_Range.mk (0:Int) (0:Int)))] ?_)
  refine AWP.ret ?_
  have hr:=someb hF
  subst hr
  exact (FnQ.f0 0 (.inr rfl))
 ·refine AWP.skip ?_
  refine AWP.seq ?_
  obtain ⟨r3,h4,hF⟩:=bindb hF
  refine AWP.dr [(7,.call Tryd.func73 [] (Ziq a0.Bits r3 h4))] 12 [] [] [] [(2,(.ptr 1 0)),(3,(vb true))] [.cells (Zck a0),.cells (Zg (api_Range.mk a0.Addr (IntKind.wrap .u32 (IntKind.wrap .u64 ((IntKind.wrap .u64 ((IntKind.wrap .u64 a0.Addr) + r3)) - (1:Int))))))] ?_
  refine AWP.ret ?_
  have hr:=someb hF
  subst hr
  exact (FnQ.f0 0 (.inr rfl))
def Zjh (r:(api_Move × nsggen_Tape)):PV→List Blk→Prop:=fun p K=>p=(Zfs r.1)∧K=[.cells (Ze r.2)]
theorem Zji (a0:nsggen_Tape) (r:(api_Move × nsggen_Tape)) (hF:Zea a0=some r):ACall Tryd.prog glob 23 [(.ptr 0 0)] [.cells (Ze a0)] (Zjh r):=by
 refine ACall.body Tryd.func23 rfl (by kernel_rfl) ?_
 unfold Zea at hF
 refine .seq (.rg [] [(0,(.ptr 0 0)),(2,(.ptr 1 0))] [.cells (Ze a0),.cells (Zd Zdi)] ?_)
 refine AWP.seq ?_
 obtain ⟨r1,h2,hF⟩:=bindb hF
 refine AWP.rg [(0,.call Tryd.func27 [] (Zip r1 h2))] [(0,(.ptr 0 0)),(2,(.ptr 1 0)),(3,(.ptr 2 0))] [.cells (Ze a0),.cells (Zd Zdi),.cells (Za r1)] ?_
 refine AWP.seq ?_
 obtain ⟨r3,h4,hF⟩:=bindb hF
 obtain ⟨x5,h6,hF⟩:=bindb hF
 refine AWP.rg [(2,.call Tryd.func18 [] (Zn a0 (2:Int) r3 h4)),(3,.idx Zdd h6)] [(0,(.ptr 0 0)),(2,(.ptr 1 0)),(3,(.ptr 2 0)),(4,(u32 x5))] [.cells (Ze r3.2),.cells (Zd Zdi),.cells (Za r1)] ?_
 refine .seq (.rg [] [(0,(.ptr 0 0)),(2,(.ptr 1 0)),(3,(.ptr 2 0))] [.cells (Ze r3.2),.cells (Zd Zdi),.cells (Za ({ r1 with x2:=(api_Range.mk x5 x5) }:(Arr5 api_Range)))] ?_)
 refine AWP.seq ?_
 obtain ⟨r7,h8,hF⟩:=bindb hF
 obtain ⟨x9,h10,hF⟩:=bindb hF
 obtain ⟨r11,h12,hF⟩:=bindb hF
 refine AWP.dr [(2,.call Tryd.func18 [] (Zn r3.2 (2:Int) r7 h8)),(3,.idx Zdd h10),(6,.call Tryd.func53 [] (Zc7 r7.2 (65000:Int) r11 h12))] 8 [] [2,6] [] [(0,(.ptr 0 0)),(2,(.ptr 1 0)),(3,(.ptr 2 0)),(5,(u32 x9)),(6,(u32 r11.1))] [.cells (Ze r11.2),.cells (Zd Zdi),.cells (Za ({ r1 with x2:=(api_Range.mk x5 x5) }:(Arr5 api_Range)))] ?_
 refine AWP.seq ?_
 obtain ⟨r13,h14,hF⟩:=bindb hF
 obtain ⟨r15,h16,hF⟩:=bindb hF
 refine AWP.rg [(1,.call Tryd.func18 [] (Zn r11.2 (3:Int) r13 h14)),(4,.call Tryd.func18 [] (Zn r13.2 (4:Int) r15 h16))] [(0,(.ptr 0 0)),(2,(.ptr 1 0)),(3,(.ptr 2 0)),(5,(u32 x9)),(6,(u32 r11.1)),(7,(u32 (IntKind.wrap .u32 r13.1))),(8,(u32 (IntKind.wrap .u32 r15.1)))] [.cells (Ze r15.2),.cells (Zd Zdi),.cells (Za ({ r1 with x2:=(api_Range.mk x5 x5) }:(Arr5 api_Range)))] ?_
 refine .seq (.rg0 [] [(0,(.ptr 0 0)),(2,(.ptr 1 0)),(3,(.ptr 2 0)),(5,(u32 x9)),(6,(u32 r11.1)),(7,(u32 (IntKind.wrap .u32 r13.1))),(8,(u32 (iMin (IntKind.wrap .u32 r15.1) (IntKind.wrap .u32 ((65535:Int) - r11.1)))))] ?_)
 refine .seq (.rg [] [(0,(.ptr 0 0)),(2,(.ptr 1 0)),(3,(.ptr 2 0)),(7,(u32 (IntKind.wrap .u32 r13.1))),(8,(u32 (iMin (IntKind.wrap .u32 r15.1) (IntKind.wrap .u32 ((65535:Int) - r11.1)))))] [.cells (Ze r15.2),.cells (Zd Zdi),.cells (Za ({ ({ ({ r1 with x2:=(api_Range.mk x5 x5) }:(Arr5 api_Range)) with x1:=(api_Range.mk x9 (IntKind.wrap .u32 (x9 + (IntKind.wrap .u32 r13.1)))) }:(Arr5 api_Range)) with x4:=(api_Range.mk r11.1 (IntKind.wrap .u32 (r11.1 + (iMin (IntKind.wrap .u32 r15.1) (IntKind.wrap .u32 ((65535:Int) - r11.1)))))) }:(Arr5 api_Range)))] ?_)
 refine .seq (.rg [] [(0,(.ptr 0 0)),(2,(.ptr 1 0)),(3,(.ptr 2 0)),(7,(u32 (IntKind.wrap .u32 r13.1))),(8,(u32 (iMin (IntKind.wrap .u32 r15.1) (IntKind.wrap .u32 ((65535:Int) - r11.1))))),(9,(.ptr 3 0))] [.cells (Ze r15.2),.cells (Zd Zdi),.cells (Za ({ ({ ({ r1 with x2:=(api_Range.mk x5 x5) }:(Arr5 api_Range)) with x1:=(api_Range.mk x9 (IntKind.wrap .u32 (x9 + (IntKind.wrap .u32 r13.1)))) }:(Arr5 api_Range)) with x4:=(api_Range.mk r11.1 (IntKind.wrap .u32 (r11.1 + (iMin (IntKind.wrap .u32 r15.1) (IntKind.wrap .u32 ((65535:Int) - r11.1)))))) }:(Arr5 api_Range))),.cells (Za ({ ({ ({ r1 with x2:=(api_Range.mk x5 x5) }:(Arr5 api_Range)) with x1:=(api_Range.mk x9 (IntKind.wrap .u32 (x9 + (IntKind.wrap .u32 r13.1)))) }:(Arr5 api_Range)) with x4:=(api_Range.mk r11.1 (IntKind.wrap .u32 (r11.1 + (iMin (IntKind.wrap .u32 r15.1) (IntKind.wrap .u32 ((65535:Int) - r11.1)))))) }:(Arr5 api_Range)))] ?_)
 refine AWP.seq ?_
 obtain ⟨r17,h18,hF⟩:=bindb hF
 obtain ⟨r19,h20,hF⟩:=bindb hF
 obtain ⟨r21,h22,hF⟩:=bindb hF
 refine AWP.rg [(1,.call Tryd.func18 [] (Zn r15.2 (5:Int) r17 h18)),(2,.call Tryd.func55 [] (Zg4 r17.1 r19 h20)),(3,.call Tryd.func54 [] (Zh1 r19 r21 h22))] [(0,(.ptr 0 0)),(2,(.ptr 1 0)),(3,(.ptr 2 0)),(7,(u32 (IntKind.wrap .u32 r13.1))),(8,(u32 (iMin (IntKind.wrap .u32 r15.1) (IntKind.wrap .u32 ((65535:Int) - r11.1))))),(9,(.ptr 3 0)),(10,(.ptr 4 0))] [.cells (Ze r17.2),.cells (Zd Zdi),.cells (Za ({ ({ ({ r1 with x2:=(api_Range.mk x5 x5) }:(Arr5 api_Range)) with x1:=(api_Range.mk x9 (IntKind.wrap .u32 (x9 + (IntKind.wrap .u32 r13.1)))) }:(Arr5 api_Range)) with x4:=(api_Range.mk r11.1 (IntKind.wrap .u32 (r11.1 + (iMin (IntKind.wrap .u32 r15.1) (IntKind.wrap .u32 ((65535:Int) - r11.1)))))) }:(Arr5 api_Range))),.cells (Za ({ ({ ({ r1 with x2:=(api_Range.mk x5 x5) }:(Arr5 api_Range)) with x1:=(api_Range.mk x9 (IntKind.wrap .u32 (x9 + (IntKind.wrap .u32 r13.1)))) }:(Arr5 api_Range)) with x4:=(api_Range.mk r11.1 (IntKind.wrap .u32 (r11.1 + (iMin (IntKind.wrap .u32 r15.1) (IntKind.wrap .u32 ((65535:Int) - r11.1)))))) }:(Arr5 api_Range))),.cells (Zg r21.1)] ?_
 refine AWP.seq ?_
 obtain ⟨r23,h24,hF⟩:=bindb hF
 refine AWP.rg [(1,.call Tryd.func53 [] (Zc7 r17.2 (65000:Int) r23 h24))] [(2,(.ptr 1 0)),(3,(.ptr 2 0)),(6,(u32 r23.1)),(7,(u32 (IntKind.wrap .u32 r13.1))),(8,(u32 (iMin (IntKind.wrap .u32 r15.1) (IntKind.wrap .u32 ((65535:Int) - r11.1))))),(9,(.ptr 3 0)),(10,(.ptr 4 0))] [.cells (Ze r23.2),.cells (Zd Zdi),.cells (Za ({ ({ ({ r1 with x2:=(api_Range.mk x5 x5) }:(Arr5 api_Range)) with x1:=(api_Range.mk x9 (IntKind.wrap .u32 (x9 + (IntKind.wrap .u32 r13.1)))) }:(Arr5 api_Range)) with x4:=(api_Range.mk r11.1 (IntKind.wrap .u32 (r11.1 + (iMin (IntKind.wrap .u32 r15.1) (IntKind.wrap .u32 ((65535:Int) - r11.1)))))) }:(Arr5 api_Range))),.cells (Za ({ ({ ({ r1 with x2:=(api_Range.mk x5 x5) }:(Arr5 api_Range)) with x1:=(api_Range.mk x9 (IntKind.wrap .u32 (x9 + (IntKind.wrap .u32 r13.1)))) }:(Arr5 api_Range)) with x4:=(api_Range.mk r11.1 (IntKind.wrap .u32 (r11.1 + (iMin (IntKind.wrap .u32 r15.1) (IntKind.wrap .u32 ((65535:Int) - r11.1)))))) }:(Arr5 api_Range))),.cells (Zg r21.1)] ?_
 refine .seq (.rg0 [] [(2,(.ptr 1 0)),(3,(.ptr 2 0)),(6,(u32 (iMin r23.1 (IntKind.wrap .u32 ((65535:Int) - (iMin (IntKind.wrap .u32 r15.1) (IntKind.wrap .u32 ((65535:Int) - r11.1)))))))),(7,(u32 (IntKind.wrap .u32 r13.1))),(8,(u32 (iMin (IntKind.wrap .u32 r15.1) (IntKind.wrap .u32 ((65535:Int) - r11.1))))),(9,(.ptr 3 0)),(10,(.ptr 4 0))] ?_)
 refine .seq (.rg [] [(2,(.ptr 1 0)),(3,(.ptr 2 0)),(9,(.ptr 3 0))] [.cells (Ze r23.2),.cells (Zd Zdi),.cells (Za ({ ({ ({ r1 with x2:=(api_Range.mk x5 x5) }:(Arr5 api_Range)) with x1:=(api_Range.mk x9 (IntKind.wrap .u32 (x9 + (IntKind.wrap .u32 r13.1)))) }:(Arr5 api_Range)) with x4:=(api_Range.mk r11.1 (IntKind.wrap .u32 (r11.1 + (iMin (IntKind.wrap .u32 r15.1) (IntKind.wrap .u32 ((65535:Int) - r11.1)))))) }:(Arr5 api_Range))),.cells (Za ({ ({ ({ ({ ({ r1 with x2:=(api_Range.mk x5 x5) }:(Arr5 api_Range)) with x1:=(api_Range.mk x9 (IntKind.wrap .u32 (x9 + (IntKind.wrap .u32 r13.1)))) }:(Arr5 api_Range)) with x4:=(api_Range.mk r11.1 (IntKind.wrap .u32 (r11.1 + (iMin (IntKind.wrap .u32 r15.1) (IntKind.wrap .u32 ((65535:Int) - r11.1)))))) }:(Arr5 api_Range)) with x1:=(api_Range.mk r21.1.Lo (IntKind.wrap .u32 (r21.1.Lo + (IntKind.wrap .u32 r13.1)))) }:(Arr5 api_Range)) with x4:=(api_Range.mk (iMin r23.1 (IntKind.wrap .u32 ((65535:Int) - (iMin (IntKind.wrap .u32 r15.1) (IntKind.wrap .u32 ((65535:Int) - r11.1)))))) (IntKind.wrap .u32 ((iMin r23.1 (IntKind.wrap .u32 ((65535:Int) - (iMin (IntKind.wrap .u32 r15.1) (IntKind.wrap .u32 ((65535:Int) - r11.1)))))) + (iMin (IntKind.wrap .u32 r15.1) (IntKind.wrap .u32 ((65535:Int) - r11.1)))))) }:(Arr5 api_Range))),.cells (Zg r21.1)] ?_)
 refine .seq (.rg [] [(2,(.ptr 1 0))] [.cells (Ze r23.2),.cells (Zd (api_Move.mk ({ ({ ({ r1 with x2:=(api_Range.mk x5 x5) }:(Arr5 api_Range)) with x1:=(api_Range.mk x9 (IntKind.wrap .u32 (x9 + (IntKind.wrap .u32 r13.1)))) }:(Arr5 api_Range)) with x4:=(api_Range.mk r11.1 (IntKind.wrap .u32 (r11.1 + (iMin (IntKind.wrap .u32 r15.1) (IntKind.wrap .u32 ((65535:Int) - r11.1)))))) }:(Arr5 api_Range)) ({ ({ ({ ({ ({ r1 with x2:=(api_Range.mk x5 x5) }:(Arr5 api_Range)) with x1:=(api_Range.mk x9 (IntKind.wrap .u32 (x9 + (IntKind.wrap .u32 r13.1)))) }:(Arr5 api_Range)) with x4:=(api_Range.mk r11.1 (IntKind.wrap .u32 (r11.1 + (iMin (IntKind.wrap .u32 r15.1) (IntKind.wrap .u32 ((65535:Int) - r11.1)))))) }:(Arr5 api_Range)) with x1:=(api_Range.mk r21.1.Lo (IntKind.wrap .u32 (r21.1.Lo + (IntKind.wrap .u32 r13.1)))) }:(Arr5 api_Range)) with x4:=(api_Range.mk (iMin r23.1 (IntKind.wrap .u32 ((65535:Int) - (iMin (IntKind.wrap .u32 r15.1) (IntKind.wrap .u32 ((65535:Int) - r11.1)))))) (IntKind.wrap .u32 ((iMin r23.1 (IntKind.wrap .u32 ((65535:Int) - (iMin (IntKind.wrap .u32 r15.1) (IntKind.wrap .u32 ((65535:Int) - r11.1)))))) + (iMin (IntKind.wrap .u32 r15.1) (IntKind.wrap .u32 ((65535:Int) - r11.1)))))) }:(Arr5 api_Range)))),.cells (Za ({ ({ ({ r1 with x2:=(api_Range.mk x5 x5) }:(Arr5 api_Range)) with x1:=(api_Range.mk x9 (IntKind.wrap .u32 (x9 + (IntKind.wrap .u32 r13.1)))) }:(Arr5 api_Range)) with x4:=(api_Range.mk r11.1 (IntKind.wrap .u32 (r11.1 + (iMin (IntKind.wrap .u32 r15.1) (IntKind.wrap .u32 ((65535:Int) - r11.1)))))) }:(Arr5 api_Range))),.cells (Za ({ ({ ({ ({ ({ r1 with x2:=(api_Range.mk x5 x5) }:(Arr5 api_Range)) with x1:=(api_Range.mk x9 (IntKind.wrap .u32 (x9 + (IntKind.wrap .u32 r13.1)))) }:(Arr5 api_Range)) with x4:=(api_Range.mk r11.1 (IntKind.wrap .u32 (r11.1 + (iMin (IntKind.wrap .u32 r15.1) (IntKind.wrap .u32 ((65535:Int) - r11.1)))))) }:(Arr5 api_Range)) with x1:=(api_Range.mk r21.1.Lo (IntKind.wrap .u32 (r21.1.Lo + (IntKind.wrap .u32 r13.1)))) }:(Arr5 api_Range)) with x4:=(api_Range.mk (iMin r23.1 (IntKind.wrap .u32 ((65535:Int) - (iMin (IntKind.wrap .u32 r15.1) (IntKind.wrap .u32 ((65535:Int) - r11.1)))))) (IntKind.wrap .u32 ((iMin r23.1 (IntKind.wrap .u32 ((65535:Int) - (iMin (IntKind.wrap .u32 r15.1) (IntKind.wrap .u32 ((65535:Int) - r11.1)))))) + (iMin (IntKind.wrap .u32 r15.1) (IntKind.wrap .u32 ((65535:Int) - r11.1)))))) }:(Arr5 api_Range))),.cells (Zg r21.1)] ?_)
 refine AWP.ret ?_
 have hr:=someb hF
 subst hr
 exact (FnQ.f0 1 (.inr rfl))
def Zih (r:((Arr5 api_Range) × nsggen_Tape)):PV→List Blk→Prop:=fun p K=>p=(Zk r.1)∧K=[.cells (Ze r.2)]
theorem Zgl (a0:nsggen_Tape) (a1:(Arr5 api_Range)) (r:((Arr5 api_Range) × nsggen_Tape)) (hF:Zcv a0 a1=some r):ACall Tryd.prog glob 24 [(.ptr 0 0),(Zk a1)] [.cells (Ze a0)] (Zih r):=by
 refine ACall.body Tryd.func24 rfl (by kernel_rfl) ?_
 unfold Zcv at hF
 refine .seq (.rg [] [(0,(.ptr 0 0)),(3,(.ptr 1 0)),(4,(.ptr 2 0))] [.cells (Ze a0),.cells (Za a1),.cells (Za Zl)] ?_)
 refine AWP.seq ?_
 obtain ⟨r1,h2,hF⟩:=bindb hF
 refine AWP.rg [(1,.call Tryd.func18 [] (Zn a0 (5:Int) r1 h2))] [(0,(.ptr 0 0)),(3,(.ptr 1 0)),(4,(.ptr 2 0)),(5,(i64 r1.1))] [.cells (Ze r1.2),.cells (Za a1),.cells (Za Zl)] ?_
 obtain ⟨o27,h28,hF⟩:=bindb hF
 refine AWP.seq ?_
 refine AWP.mid (fun e st H=>(e=.normal∧∃ (v25:nsggen_Tape),∃ (v26:(Arr5 api_Range)),o27=(v25,v26)∧st=[(3,(.ptr 1 0)),(4,(.ptr 2 0))]∧H=[.cells (Ze v25),.cells (Za v26),.cells (Za Zl)])) ?_ ?_
 ·clear hF
  have hF:=h28
  refine AWP.seq ?_
  obtain ⟨r29,h30,hF⟩:=bindb hF
  refine AWP.rg [(1,.call Tryd.func18 [] (Zn r1.2 (3:Int) r29 h30))] [(3,(.ptr 1 0)),(4,(.ptr 2 0)),(5,(i64 r1.1)),(9,(i64 r29.1))] [.cells (Ze r29.2),.cells (Za a1),.cells (Za Zl)] ?_
  refine AWP.block ?_
  refine .seq (.rg0 [] [(3,(.ptr 1 0)),(4,(.ptr 2 0)),(5,(i64 r1.1)),(9,(i64 r29.1)),(13,(vb (r29.1 == (0:Int))))] ?_)
  refine AWP.cif hF (fun h50 hF=>?_) (fun h50 hF=>?_)
  ·obtain ⟨h31,hF⟩:=chkb hF
   obtain ⟨h32,hF⟩:=chkb hF
   obtain ⟨h33,hF⟩:=chkb hF
   obtain ⟨h35,hF⟩:=chkb hF
   refine AWP.dr [(3,.ixd h31),(5,.ldA Zg (Arr5.get a1) 0 2 1 h31),(7,.ixd h32),(9,.ldA Zg (Arr5.get a1) 0 2 0 h32),(10,.ixd h33),(12,.stA (fun q39=>Za (Arr5.set a1 q39 ({ (Arr5.get a1 q39) with Lo:=(Arr5.get a1 r1.1).Hi }:api_Range))) 0 2 0 h33),(13,.ixd h35),(15,.stA (fun q40=>Za (Arr5.set (Arr5.set a1 r1.1 ({ (Arr5.get a1 r1.1) with Lo:=(Arr5.get a1 r1.1).Hi }:api_Range)) q40 ({ (Arr5.get (Arr5.set a1 r1.1 ({ (Arr5.get a1 r1.1) with Lo:=(Arr5.get a1 r1.1).Hi }:api_Range)) q40) with Hi:=(Arr5.get a1 r1.1).Lo }:api_Range))) 0 2 1 h35)] 13 [] [12] [] [(3,(.ptr 1 0)),(4,(.ptr 2 0))] [.cells (Ze r29.2),.cells (Za (Arr5.set (Arr5.set a1 r1.1 ({ (Arr5.get a1 r1.1) with Lo:=(Arr5.get a1 r1.1).Hi }:api_Range)) r1.1 ({ (Arr5.get (Arr5.set a1 r1.1 ({ (Arr5.get a1 r1.1) with Lo:=(Arr5.get a1 r1.1).Hi }:api_Range)) r1.1) with Hi:=(Arr5.get a1 r1.1).Lo }:api_Range))),.cells (Za Zl)] ?_
   refine LeQ.start ?_
   refine LeQ.pk [3,4] 3 ?_
   exact ⟨rfl,r29.2,(Arr5.set (Arr5.set a1 r1.1 ({ (Arr5.get a1 r1.1) with Lo:=(Arr5.get a1 r1.1).Hi }:api_Range)) r1.1 ({ (Arr5.get (Arr5.set a1 r1.1 ({ (Arr5.get a1 r1.1) with Lo:=(Arr5.get a1 r1.1).Hi }:api_Range)) r1.1) with Hi:=(Arr5.get a1 r1.1).Lo }:api_Range)),(someb hF).symm,by kernel_rfl,by kernel_rfl⟩
  ·refine .seq (.rg0 [] [(3,(.ptr 1 0)),(4,(.ptr 2 0)),(5,(i64 r1.1)),(29,(vb (r29.1 == (1:Int))))] ?_)
   refine AWP.cif hF (fun h49 hF=>?_) (fun h49 hF=>?_)
   ·obtain ⟨h43,hF⟩:=chkb hF
    refine AWP.rg [(1,.ixd h43),(3,.stA (fun q45=>Za (Arr5.set a1 q45 ({ (Arr5.get a1 q45) with Hi:=(4294967295:Int) }:api_Range))) 0 2 1 h43)] [(3,(.ptr 1 0)),(4,(.ptr 2 0))] [.cells (Ze r29.2),.cells (Za (Arr5.set a1 r1.1 ({ (Arr5.get a1 r1.1) with Hi:=(4294967295:Int) }:api_Range))),.cells (Za Zl)] ?_
    refine LeQ.start ?_
    refine LeQ.pk [3,4] 3 ?_
    exact ⟨rfl,r29.2,(Arr5.set a1 r1.1 ({ (Arr5.get a1 r1.1) with Hi:=(4294967295:Int) }:api_Range)),(someb hF).symm,by kernel_rfl,by kernel_rfl⟩
   ·obtain ⟨h46,hF⟩:=chkb hF
    refine AWP.rg [(2,.ixd h46),(3,.stA (fun q48=>Za (Arr5.set a1 q48 (api_Range.mk (1:Int) (0:Int)))) 0 2 0 h46)] [(3,(.ptr 1 0)),(4,(.ptr 2 0))] [.cells (Ze r29.2),.cells (Za (Arr5.set a1 r1.1 (api_Range.mk (1:Int) (0:Int)))),.cells (Za Zl)] ?_
    refine LeQ.start ?_
    refine LeQ.pk [3,4] 3 ?_
    exact ⟨rfl,r29.2,(Arr5.set a1 r1.1 (api_Range.mk (1:Int) (0:Int))),(someb hF).symm,by kernel_rfl,by kernel_rfl⟩
 ·rintro _ _ _ ⟨rfl,v25,v26,rfl,rfl,rfl⟩
  refine .seq (.rg [] [(4,(.ptr 2 0))] [.cells (Ze v25),.cells (Za v26),.cells (Za v26)] ?_)
  refine AWP.ret ?_
  have hr:=someb hF
  subst hr
  exact (FnQ.f0 1 (.inr rfl))
def Zi6 (r:((List api_Move) × nsggen_Tape)):PV→List Blk→Prop:=fun p K=>p=(slc 20 Zd r.1)∧K=[.cells (Ze r.2)]
theorem Zi7 (a0:nsggen_Tape) (a1:Int) (a2:Bool) (r:((List api_Move) × nsggen_Tape)) (hF:Zd2 a0 a1 a2=some r):ACall Tryd.prog glob 7 [(.ptr 0 0),(i64 a1),(vb a2)] [.cells (Ze a0)] (Zi6 r):=by
 refine ACall.body Tryd.func7 rfl (by kernel_rfl) ?_
 unfold Zd2 at hF
 refine .seq (.rg0 [] [(0,(.ptr 0 0)),(1,(i64 a1)),(2,(vb a2))] ?_)
 refine .seq (.rg0 [] [(0,(.ptr 0 0)),(1,(i64 a1)),(2,(vb a2)),(7,nils)] ?_)
 refine AWP.own (H':=[.cells (Ze a0),bf 20 59 Zd ([]:(List api_Move)) false]) (st':=[(7,(.own 1 (List.length ([]:(List api_Move))))),(0,(.ptr 0 0)),(1,(i64 a1)),(2,(vb a2))]) 7 20 59 (by kernel_rfl) (by kernel_rfl) (by kernel_rfl) ?_
 refine AWP.pick (st':=[(0,(.ptr 0 0)),(1,(i64 a1)),(2,(vb a2)),(7,(.own 1 (List.length ([]:(List api_Move)))))]) (ks:=[0,1,2,7]) (by kernel_rfl) ?_
 refine AWP.seq ?_
 refine AWP.seq ?_
 obtain ⟨r1,h2,hF⟩:=bindb hF
 refine AWP.rg [(3,.call Tryd.func18 [] (Zn a0 (IntKind.wrap .i64 (a1 + (1:Int))) r1 h2))] [(0,(.ptr 0 0)),(2,(vb a2)),(7,(.own 1 (List.length ([]:(List api_Move))))),(8,(i64 r1.1))] [.cells (Ze r1.2),bf 20 59 Zd ([]:(List api_Move)) false] ?_
 obtain ⟨o223,h224,hF⟩:=bindb hF
 refine AWP.mid (fun e st H=>(e=.normal∧∃ (v221:nsggen_Tape),∃ (v222:(List api_Move)),o223=(v221,v222)∧st=[(7,(.own 1 (List.length v222)))]∧H=[.cells (Ze v221),bf 20 59 Zd v222 false])) ?_ ?_
 ·clear hF
  refine AWP.kp [0,2,7,8] 2 ?_
  refine AWP.bround (fun n st H=>∃ (v111:nsggen_Tape),∃ (v112:(List api_Move)),∃ (v113:Int),Zbt a2 n v111 v112 v113=some o223∧st=[(0,(.ptr 0 0)),(2,(vb a2)),(7,(.own 1 (List.length v112))),(8,(i64 v113))]∧H=[.cells (Ze v111),bf 20 59 Zd v112 false]) fuel ⟨r1.2,([]:(List api_Move)),r1.1,h224,by kernel_rfl,by kernel_rfl⟩ ?_
  rintro n225 st H ⟨v111,v112,v113,hF,rfl,rfl⟩
  cases n225 with
  | zero=>exact noneb hF
  | succ n225=>
   rw [Zbt] at hF
   refine AWP.seq ?_
   refine .seq (.rg0 [] [(0,(.ptr 0 0)),(2,(vb a2)),(7,(.own 1 (List.length v112))),(8,(i64 v113)),(15,(vb (decide (v113 > (0:Int)))))] ?_)
   refine AWP.cif hF (fun h332 hF=>?_) (fun h332 hF=>?_)
   ·refine AWP.skip ?_
    obtain ⟨o279,h280,hF⟩:=bindb hF
    refine AWP.seq ?_
    refine AWP.mid (fun e st H=>(e=.normal∧∃ (v277:nsggen_Tape),∃ (v278:(List api_Move)),o279=(v277,v278)∧st=[(0,(.ptr 0 0)),(2,(vb a2)),(7,(.own 1 (List.length v278))),(8,(i64 v113))]∧H=[.cells (Ze v277),bf 20 59 Zd v278 false])) ?_ ?_
    ·clear hF
     have hF:=h280
     refine AWP.block ?_
     refine AWP.seq ?_
     obtain ⟨r281,h282,hF⟩:=bindb hF
     refine AWP.rg [(1,.call Tryd.func23 [] (Zji v111 r281 h282))] [(0,(.ptr 0 0)),(2,(vb a2)),(7,(.own 1 (List.length v112))),(8,(i64 v113)),(9,(.ptr 2 0))] [.cells (Ze r281.2),bf 20 59 Zd v112 false,.cells (Zd r281.1)] ?_
     obtain ⟨o296,h297,hF⟩:=bindb hF
     refine AWP.seq ?_
     refine AWP.mid (fun e st H=>(e=.normal∧∃ (v294:nsggen_Tape),∃ (v295:api_Move),o296=(v294,v295)∧st=[(0,(.ptr 0 0)),(2,(vb a2)),(7,(.own 1 (List.length v112))),(8,(i64 v113)),(9,(.ptr 2 0))]∧H=[.cells (Ze v294),bf 20 59 Zd v112 false,.cells (Zd v295)])) ?_ ?_
     ·clear hF
      have hF:=h297
      refine AWP.seq ?_
      obtain ⟨b298,h299,hF⟩:=bindb hF
      replace h299:=someb h299
      obtain ⟨v302,h303,hF⟩:=bindb hF
      refine AWP.to [(0,(.ptr 0 0)),(2,(vb a2)),(7,(.own 1 (List.length v112))),(8,(i64 v113)),(9,(.ptr 2 0)),(25,(vb v302.1))] [.cells (Ze v302.2),bf 20 59 Zd v112 false,.cells (Zd r281.1)] ?_ ?_
      ·cases b298 with
       | false=>
        have h304:=someb (ifF h303 rfl)
        subst h304
        exact AWP.rgT [(1,.bool h299)]
       | true=>
        have h305:=ifT h303 rfl
        obtain ⟨r300,h301,h305⟩:=bindb h305
        replace h305:=someb h305
        subst h305
        exact AWP.rgT [(1,.bool h299),(3,.call Tryd.func18 [] (Zn r281.2 (6:Int) r300 h301))]
      refine AWP.cif hF (fun h308 hF=>?_) (fun h308 hF=>?_)
      ·obtain ⟨r306,h307,hF⟩:=bindb hF
       refine AWP.rg [(3,.call Tryd.func24 [] (Zgl v302.2 r281.1.To r306 h307))] [(0,(.ptr 0 0)),(2,(vb a2)),(7,(.own 1 (List.length v112))),(8,(i64 v113)),(9,(.ptr 2 0))] [.cells (Ze r306.2),bf 20 59 Zd v112 false,.cells (Zd ({ r281.1 with To:=r306.1 }:api_Move))] ?_
       refine LeQ.start ?_
       refine LeQ.pk [0,2,7,8,9] 3 ?_
       exact ⟨rfl,r306.2,({ r281.1 with To:=r306.1 }:api_Move),(someb hF).symm,by kernel_rfl,by kernel_rfl⟩
      ·refine AWP.skip ?_
       refine LeQ.start ?_
       refine LeQ.pk [0,2,7,8,9] 3 ?_
       exact ⟨rfl,v302.2,r281.1,(someb hF).symm,by kernel_rfl,by kernel_rfl⟩
     ·rintro _ _ _ ⟨rfl,v294,v295,rfl,rfl,rfl⟩
      obtain ⟨o320,h321,hF⟩:=bindb hF
      refine AWP.seq ?_
      refine AWP.mid (fun e st H=>(e=.normal∧∃ (v318:nsggen_Tape),∃ (v319:api_Move),o320=(v318,v319)∧st=[(0,(.ptr 0 0)),(2,(vb a2)),(7,(.own 1 (List.length v112))),(8,(i64 v113)),(9,(.ptr 2 0))]∧H=[.cells (Ze v318),bf 20 59 Zd v112 false,.cells (Zd v319)])) ?_ ?_
      ·clear hF
       have hF:=h321
       refine AWP.seq ?_
       obtain ⟨b322,h323,hF⟩:=bindb hF
       replace h323:=someb h323
       obtain ⟨v326,h327,hF⟩:=bindb hF
       refine AWP.to [(0,(.ptr 0 0)),(2,(vb a2)),(7,(.own 1 (List.length v112))),(8,(i64 v113)),(9,(.ptr 2 0)),(36,(vb v326.1))] [.cells (Ze v326.2),bf 20 59 Zd v112 false,.cells (Zd v295)] ?_ ?_
       ·cases b322 with
        | false=>
         have h328:=someb (ifF h327 rfl)
         subst h328
         exact AWP.rgT [(1,.bool h323)]
        | true=>
         have h329:=ifT h327 rfl
         obtain ⟨r324,h325,h329⟩:=bindb h329
         replace h329:=someb h329
         subst h329
         exact AWP.rgT [(1,.bool h323),(3,.call Tryd.func18 [] (Zn v294 (6:Int) r324 h325))]
       refine AWP.cif hF (fun h330 hF=>?_) (fun h330 hF=>?_)
       ·refine AWP.rg [] [(0,(.ptr 0 0)),(2,(vb a2)),(7,(.own 1 (List.length v112))),(8,(i64 v113)),(9,(.ptr 2 0))] [.cells (Ze v326.2),bf 20 59 Zd v112 false,.cells (Zd ({ ({ v295 with From:=v295.To }:api_Move) with To:=v295.From }:api_Move))] ?_
        refine LeQ.start ?_
        refine LeQ.pk [0,2,7,8,9] 3 ?_
        exact ⟨rfl,v326.2,({ ({ v295 with From:=v295.To }:api_Move) with To:=v295.From }:api_Move),(someb hF).symm,by kernel_rfl,by kernel_rfl⟩
       ·refine AWP.skip ?_
        refine LeQ.start ?_
        refine LeQ.pk [0,2,7,8,9] 3 ?_
        exact ⟨rfl,v326.2,v295,(someb hF).symm,by kernel_rfl,by kernel_rfl⟩
      ·rintro _ _ _ ⟨rfl,v318,v319,rfl,rfl,rfl⟩
       obtain ⟨h331,hF⟩:=chkb hF
       refine AWP.rg [(3,.app Zd (fun _=>by kernel_rfl) h331)] [(0,(.ptr 0 0)),(2,(vb a2)),(7,(.own 1 (List.length (v112++[v319])))),(8,(i64 v113))] [.cells (Ze v318),bf 20 59 Zd (v112++[v319]) false,.cells (Zd v319)] ?_
       refine LeQ.start ?_
       refine LeQ.pk [0,2,7,8] 2 ?_
       exact ⟨rfl,v318,(v112++[v319]),(someb hF).symm,by kernel_rfl,by kernel_rfl⟩
    ·rintro _ _ _ ⟨rfl,v277,v278,rfl,rfl,rfl⟩
     refine AWP.rg0 [] [(0,(.ptr 0 0)),(2,(vb a2)),(7,(.own 1 (List.length v278))),(8,(i64 (IntKind.wrap .i64 (v113 - (1:Int)))))] ?_
     refine LeQ.start ?_
     refine LeQ.pk [0,2,7,8] 2 ?_
     exact ⟨n225,Nat.lt_succ_self _,v277,v278,(IntKind.wrap .i64 (v113 - (1:Int))),hF,by kernel_rfl,by kernel_rfl⟩
   ·refine AWP.exit ?_
    refine LeQ.start ?_
    refine LeQ.pk [7] 2 ?_
    exact ⟨rfl,v111,v112,(someb hF).symm,by kernel_rfl,by kernel_rfl⟩
 ·rintro _ _ _ ⟨rfl,v221,v222,rfl,rfl,rfl⟩
  refine .seq (.rg0 [] [(6,(.own 1 (List.length v222)))] ?_)
  refine AWP.ret ?_
  have hr:=someb hF
  subst hr
  exact (FnQ.f1 1 (.inr rfl) (.inl (Wk.ownT (i:=1) (s:=20) (t:=59) (l:=v222) (sh:=false) (row:=Zd) (by kernel_rfl) (.inl rfl))))
def Zjj (r:(Int × nsggen_Tape)):PV→List Blk→Prop:=fun p K=>p=(u32 r.1)∧K=[.cells (Ze r.2)]
theorem Zee (a0:nsggen_Tape) (r:(Int × nsggen_Tape)) (hF:Zb5 a0=some r):ACall Tryd.prog glob 58 [(.ptr 0 0)] [.cells (Ze a0)] (Zjj r):=by
 refine ACall.body Tryd.func58 rfl (by kernel_rfl) ?_
 unfold Zb5 at hF
 refine .seq (.rg0 [] [(0,(.ptr 0 0))] ?_)
 refine AWP.seq ?_
 refine AWP.seq ?_
 obtain ⟨r1,h2,hF⟩:=bindb hF
 refine AWP.rg [(1,.call Tryd.func18 [] (Zn a0 (5:Int) r1 h2))] [(0,(.ptr 0 0)),(8,(vb (r1.1 == (4:Int))))] [.cells (Ze r1.2)] ?_
 refine AWP.cif hF (fun h17 hF=>?_) (fun h17 hF=>?_)
 ·refine AWP.seq ?_
  obtain ⟨r3,h4,hF⟩:=bindb hF
  obtain ⟨x5,h6,hF⟩:=bindb hF
  refine AWP.rg [(2,.call Tryd.func18 [] (Zn r1.2 (6:Int) r3 h4)),(3,.idx Zdd h6)] [(2,(u32 x5))] [.cells (Ze r3.2)] ?_
  refine AWP.ret ?_
  have hr:=someb hF
  subst hr
  exact (FnQ.f0 1 (.inr rfl))
 ·refine AWP.skip ?_
  refine AWP.seq ?_
  obtain ⟨r7,h8,hF⟩:=bindb hF
  obtain ⟨r9,h10,hF⟩:=bindb hF
  refine AWP.rg [(1,.call Tryd.func18 [] (Zn r1.2 (6:Int) r7 h8)),(2,.call Tryd.func55 [] (Zg4 r7.1 r9 h10))] [(0,(.ptr 0 0)),(3,(.ptr 1 0))] [.cells (Ze r7.2),.cells (Zck r9)] ?_
  refine AWP.seq ?_
  obtain ⟨r11,h12,hF⟩:=bindb hF
  refine AWP.rg [(1,.call Tryd.func54 [] (Zh1 r9 r11 h12))] [(0,(.ptr 0 0)),(4,(.ptr 2 0))] [.cells (Ze r7.2),.cells (Zck r9),.cells (Zg r11.1)] ?_
  refine AWP.seq ?_
  obtain ⟨r13,h14,hF⟩:=bindb hF
  obtain ⟨x15,h16,hF⟩:=bindb hF
  refine AWP.dr [(15,.call Tryd.func18 [] (Zn r7.2 (5:Int) r13 h14)),(16,.idx Zdd h16)] 18 [] [15] [] [(2,(u32 x15))] [.cells (Ze r13.2),.cells (Zck r9),.cells (Zg r11.1)] ?_
  refine AWP.ret ?_
  have hr:=someb hF
  subst hr
  exact (FnQ.f0 1 (.inr rfl))
def Zh8 (r:(api_Range × nsggen_Tape)):PV→List Blk→Prop:=fun p K=>p=(Zh0 r.1)∧K=[.cells (Ze r.2)]
theorem Zgc (a0:nsggen_Tape) (r:(api_Range × nsggen_Tape)) (hF:Zcq a0=some r):ACall Tryd.prog glob 62 [(.ptr 0 0)] [.cells (Ze a0)] (Zh8 r):=by
 refine ACall.body Tryd.func62 rfl (by kernel_rfl) ?_
 unfold Zcq at hF
 refine .seq (.rg [] [(0,(.ptr 0 0)),(2,(.ptr 1 0))] [.cells (Ze a0),.cells (Zg Zj)] ?_)
 refine AWP.seq ?_
 refine AWP.seq ?_
 obtain ⟨r1,h2,hF⟩:=bindb hF
 refine AWP.rg [(1,.call Tryd.func18 [] (Zn a0 (4:Int) r1 h2))] [(0,(.ptr 0 0)),(2,(.ptr 1 0)),(9,(i64 r1.1))] [.cells (Ze r1.2),.cells (Zg Zj)] ?_
 refine AWP.block ?_
 refine .seq (.rg0 [] [(0,(.ptr 0 0)),(2,(.ptr 1 0)),(9,(i64 r1.1)),(10,(vb (r1.1 == (0:Int))))] ?_)
 refine AWP.cif hF (fun h17 hF=>?_) (fun h17 hF=>?_)
 ·refine AWP.seq ?_
  obtain ⟨r3,h4,hF⟩:=bindb hF
  obtain ⟨r5,h6,hF⟩:=bindb hF
  obtain ⟨r7,h8,hF⟩:=bindb hF
  refine AWP.rg [(1,.call Tryd.func18 [] (Zn r1.2 (6:Int) r3 h4)),(2,.call Tryd.func55 [] (Zg4 r3.1 r5 h6)),(3,.call Tryd.func54 [] (Zh1 r5 r7 h8))] [(2,(.ptr 1 0)),(3,(.ptr 2 0))] [.cells (Ze r3.2),.cells (Zg Zj),.cells (Zg r7.1)] ?_
  refine .seq (.rg [] [(2,(.ptr 1 0))] [.cells (Ze r3.2),.cells (Zg r7.1),.cells (Zg r7.1)] ?_)
  refine AWP.ret ?_
  have hr:=someb hF
  subst hr
  exact (FnQ.f0 1 (.inr rfl))
 ·refine .seq (.rg0 [] [(0,(.ptr 0 0)),(2,(.ptr 1 0)),(9,(i64 r1.1)),(20,(vb (r1.1 == (1:Int))))] ?_)
  refine AWP.cif hF (fun h16 hF=>?_) (fun h16 hF=>?_)
  ·refine AWP.seq ?_
   obtain ⟨r9,h10,hF⟩:=bindb hF
   obtain ⟨r11,h12,hF⟩:=bindb hF
   refine AWP.rg [(1,.call Tryd.func58 [] (Zee r1.2 r9 h10)),(3,.call Tryd.func58 [] (Zee r9.2 r11 h12))] [(2,(.ptr 1 0)),(5,(u32 r9.1)),(6,(u32 r11.1))] [.cells (Ze r11.2),.cells (Zg Zj)] ?_
   refine .seq (.rg [] [(2,(.ptr 1 0))] [.cells (Ze r11.2),.cells (Zg (api_Range.mk (iMin r9.1 r11.1) (iMax r9.1 r11.1)))] ?_)
   refine AWP.ret ?_
   have hr:=someb hF
   subst hr
   exact (FnQ.f0 1 (.inr rfl))
  ·refine .seq (.rg0 [] [(0,(.ptr 0 0)),(2,(.ptr 1 0)),(33,(vb (r1.1 == (2:Int))))] ?_)
   refine AWP.cif hF (fun h15 hF=>?_) (fun h15 hF=>?_)
   ·refine AWP.seq ?_
    obtain ⟨r13,h14,hF⟩:=bindb hF
    refine AWP.rg [(1,.call Tryd.func58 [] (Zee r1.2 r13 h14))] [(2,(.ptr 1 0)),(7,(u32 r13.1))] [.cells (Ze r13.2),.cells (Zg Zj)] ?_
    refine .seq (.rg [] [(2,(.ptr 1 0))] [.cells (Ze r13.2),.cells (Zg (api_Range.mk r13.1 r13.1))] ?_)
    refine AWP.ret ?_
    have hr:=someb hF
    subst hr
    exact (FnQ.f0 1 (.inr rfl))
   ·refine AWP.skip ?_
    refine .seq (.rg [] [(2,(.ptr 1 0))] [.cells (Ze r1.2),.cells (Zg (api_Range.mk (0:Int) (4294967295:Int)))] ?_)
    refine AWP.ret ?_
    have hr:=someb hF
    subst hr
    exact (FnQ.f0 1 (.inr rfl))
def Zi8 (r:(api_Range × nsggen_Tape)):PV→List Blk→Prop:=fun p K=>p=(Zh0 r.1)∧K=[.cells (Ze r.2)]
theorem Zhf (a0:nsggen_Tape) (a1:Int) (r:(api_Range × nsggen_Tape)) (hF:Zde a0 a1=some r):ACall Tryd.prog glob 63 [(.ptr 0 0),(u32 a1)] [.cells (Ze a0)] (Zi8 r):=by
 refine ACall.body Tryd.func63 rfl (by kernel_rfl) ?_
 unfold Zde at hF
 refine .seq (.rg [] [(0,(.ptr 0 0)),(1,(u32 a1)),(4,(.ptr 1 0))] [.cells (Ze a0),.cells (Zg Zj)] ?_)
 refine AWP.seq ?_
 obtain ⟨r1,h2,hF⟩:=bindb hF
 obtain ⟨r3,h4,hF⟩:=bindb hF
 refine AWP.rg [(2,.call Tryd.func53 [] (Zc7 a0 a1 r1 h2)),(5,.call Tryd.func53 [] (Zc7 r1.2 a1 r3 h4))] [(4,(.ptr 1 0)),(5,(u32 r1.1)),(6,(u32 r3.1))] [.cells (Ze r3.2),.cells (Zg Zj)] ?_
 refine .seq (.rg [] [(4,(.ptr 1 0))] [.cells (Ze r3.2),.cells (Zg (api_Range.mk (iMin r1.1 r3.1) (iMax r1.1 r3.1)))] ?_)
 refine AWP.ret ?_
 have hr:=someb hF
 subst hr
 exact (FnQ.f0 1 (.inr rfl))
def Zjs (r:((Arr5 api_Range) × nsggen_Tape)):PV→List Blk→Prop:=fun p K=>p=(Zk r.1)∧K=[.cells (Ze r.2)]
theorem Zjt (a0:nsggen_Tape) (r:((Arr5 api_Range) × nsggen_Tape)) (hF:Zeo a0=some r):ACall Tryd.prog glob 39 [(.ptr 0 0)] [.cells (Ze a0)] (Zjs r):=by
 refine ACall.body Tryd.func39 rfl (by kernel_rfl) ?_
 unfold Zeo at hF
 refine .seq (.rg [] [(0,(.ptr 0 0)),(2,(.ptr 1 0))] [.cells (Ze a0),.cells (Za Zl)] ?_)
 refine AWP.seq ?_
 obtain ⟨r1,h2,hF⟩:=bindb hF
 refine AWP.rg [(0,.call Tryd.func27 [] (Zip r1 h2))] [(0,(.ptr 0 0)),(2,(.ptr 1 0)),(3,(.ptr 2 0))] [.cells (Ze a0),.cells (Za Zl),.cells (Za r1)] ?_
 refine AWP.seq ?_
 refine AWP.seq ?_
 obtain ⟨r3,h4,hF⟩:=bindb hF
 refine AWP.rg [(1,.call Tryd.func18 [] (Zn a0 (3:Int) r3 h4))] [(0,(.ptr 0 0)),(2,(.ptr 1 0)),(3,(.ptr 2 0)),(4,(i64 (IntKind.wrap .i64 ((1:Int) + r3.1))))] [.cells (Ze r3.2),.cells (Za Zl),.cells (Za r1)] ?_
 obtain ⟨o93,h94,hF⟩:=bindb hF
 refine AWP.mid (fun e st H=>(e=.normal∧∃ (v91:nsggen_Tape),∃ (v92:(Arr5 api_Range)),o93=(v91,v92)∧st=[(2,(.ptr 1 0)),(3,(.ptr 2 0))]∧H=[.cells (Ze v91),.cells (Za Zl),.cells (Za v92)])) ?_ ?_
 ·clear hF
  refine AWP.kp [0,2,3,4] 3 ?_
  refine AWP.bround (fun n st H=>∃ (v47:nsggen_Tape),∃ (v48:(Arr5 api_Range)),∃ (v49:Int),Zb7 n v47 v48 v49=some o93∧st=[(0,(.ptr 0 0)),(2,(.ptr 1 0)),(3,(.ptr 2 0)),(4,(i64 v49))]∧H=[.cells (Ze v47),.cells (Za Zl),.cells (Za v48)]) fuel ⟨r3.2,r1,(IntKind.wrap .i64 ((1:Int) + r3.1)),h94,by kernel_rfl,by kernel_rfl⟩ ?_
  rintro n95 st H ⟨v47,v48,v49,hF,rfl,rfl⟩
  cases n95 with
  | zero=>exact noneb hF
  | succ n95=>
   rw [Zb7] at hF
   refine AWP.seq ?_
   refine .seq (.rg0 [] [(0,(.ptr 0 0)),(2,(.ptr 1 0)),(3,(.ptr 2 0)),(4,(i64 v49)),(11,(vb (decide (v49 > (0:Int)))))] ?_)
   refine AWP.cif hF (fun h136 hF=>?_) (fun h136 hF=>?_)
   ·refine AWP.skip ?_
    obtain ⟨o116,h117,hF⟩:=bindb hF
    refine AWP.seq ?_
    refine AWP.mid (fun e st H=>(e=.normal∧∃ (v114:nsggen_Tape),∃ (v115:(Arr5 api_Range)),o116=(v114,v115)∧st=[(0,(.ptr 0 0)),(2,(.ptr 1 0)),(3,(.ptr 2 0)),(4,(i64 v49))]∧H=[.cells (Ze v114),.cells (Za Zl),.cells (Za v115)])) ?_ ?_
    ·clear hF
     have hF:=h117
     refine AWP.block ?_
     refine AWP.seq ?_
     obtain ⟨r118,h119,hF⟩:=bindb hF
     refine AWP.rg [(1,.call Tryd.func18 [] (Zn v47 (5:Int) r118 h119))] [(0,(.ptr 0 0)),(2,(.ptr 1 0)),(3,(.ptr 2 0)),(4,(i64 v49)),(15,(i64 r118.1))] [.cells (Ze r118.2),.cells (Za Zl),.cells (Za v48)] ?_
     refine AWP.block ?_
     refine .seq (.rg0 [] [(0,(.ptr 0 0)),(2,(.ptr 1 0)),(3,(.ptr 2 0)),(4,(i64 v49)),(15,(i64 r118.1)),(19,(vb (r118.1 == (0:Int))))] ?_)
     refine AWP.cif hF (fun h135 hF=>?_) (fun h135 hF=>?_)
     ·obtain ⟨r120,h121,hF⟩:=bindb hF
      refine AWP.rg [(1,.call Tryd.func62 [] (Zgc r118.2 r120 h121))] [(0,(.ptr 0 0)),(2,(.ptr 1 0)),(3,(.ptr 2 0)),(4,(i64 v49))] [.cells (Ze r120.2),.cells (Za Zl),.cells (Za ({ v48 with x0:=r120.1 }:(Arr5 api_Range)))] ?_
      refine LeQ.start ?_
      refine LeQ.pk [0,2,3,4] 3 ?_
      exact ⟨rfl,r120.2,({ v48 with x0:=r120.1 }:(Arr5 api_Range)),(someb hF).symm,by kernel_rfl,by kernel_rfl⟩
     ·refine .seq (.rg0 [] [(0,(.ptr 0 0)),(2,(.ptr 1 0)),(3,(.ptr 2 0)),(4,(i64 v49)),(15,(i64 r118.1)),(24,(vb (r118.1 == (1:Int))))] ?_)
      refine AWP.cif hF (fun h134 hF=>?_) (fun h134 hF=>?_)
      ·obtain ⟨r122,h123,hF⟩:=bindb hF
       refine AWP.rg [(1,.call Tryd.func62 [] (Zgc r118.2 r122 h123))] [(0,(.ptr 0 0)),(2,(.ptr 1 0)),(3,(.ptr 2 0)),(4,(i64 v49))] [.cells (Ze r122.2),.cells (Za Zl),.cells (Za ({ v48 with x1:=r122.1 }:(Arr5 api_Range)))] ?_
       refine LeQ.start ?_
       refine LeQ.pk [0,2,3,4] 3 ?_
       exact ⟨rfl,r122.2,({ v48 with x1:=r122.1 }:(Arr5 api_Range)),(someb hF).symm,by kernel_rfl,by kernel_rfl⟩
      ·refine .seq (.rg0 [] [(0,(.ptr 0 0)),(2,(.ptr 1 0)),(3,(.ptr 2 0)),(4,(i64 v49)),(15,(i64 r118.1)),(29,(vb (r118.1 == (2:Int))))] ?_)
       refine AWP.cif hF (fun h133 hF=>?_) (fun h133 hF=>?_)
       ·refine AWP.seq ?_
        obtain ⟨r124,h125,hF⟩:=bindb hF
        obtain ⟨x126,h127,hF⟩:=bindb hF
        refine AWP.rg [(2,.call Tryd.func18 [] (Zn r118.2 (6:Int) r124 h125)),(3,.idx Zdd h127)] [(0,(.ptr 0 0)),(2,(.ptr 1 0)),(3,(.ptr 2 0)),(4,(i64 v49)),(5,(u32 x126))] [.cells (Ze r124.2),.cells (Za Zl),.cells (Za v48)] ?_
        refine AWP.rg [] [(0,(.ptr 0 0)),(2,(.ptr 1 0)),(3,(.ptr 2 0)),(4,(i64 v49))] [.cells (Ze r124.2),.cells (Za Zl),.cells (Za ({ v48 with x2:=(api_Range.mk x126 x126) }:(Arr5 api_Range)))] ?_
        refine LeQ.start ?_
        refine LeQ.pk [0,2,3,4] 3 ?_
        exact ⟨rfl,r124.2,({ v48 with x2:=(api_Range.mk x126 x126) }:(Arr5 api_Range)),(someb hF).symm,by kernel_rfl,by kernel_rfl⟩
       ·refine .seq (.rg0 [] [(0,(.ptr 0 0)),(2,(.ptr 1 0)),(3,(.ptr 2 0)),(4,(i64 v49)),(40,(vb (r118.1 == (3:Int))))] ?_)
        refine AWP.cif hF (fun h132 hF=>?_) (fun h132 hF=>?_)
        ·obtain ⟨r128,h129,hF⟩:=bindb hF
         refine AWP.rg [(1,.call Tryd.func63 [] (Zhf r118.2 (65535:Int) r128 h129))] [(0,(.ptr 0 0)),(2,(.ptr 1 0)),(3,(.ptr 2 0)),(4,(i64 v49))] [.cells (Ze r128.2),.cells (Za Zl),.cells (Za ({ v48 with x3:=r128.1 }:(Arr5 api_Range)))] ?_
         refine LeQ.start ?_
         refine LeQ.pk [0,2,3,4] 3 ?_
         exact ⟨rfl,r128.2,({ v48 with x3:=r128.1 }:(Arr5 api_Range)),(someb hF).symm,by kernel_rfl,by kernel_rfl⟩
        ·obtain ⟨r130,h131,hF⟩:=bindb hF
         refine AWP.rg [(1,.call Tryd.func63 [] (Zhf r118.2 (65535:Int) r130 h131))] [(0,(.ptr 0 0)),(2,(.ptr 1 0)),(3,(.ptr 2 0)),(4,(i64 v49))] [.cells (Ze r130.2),.cells (Za Zl),.cells (Za ({ v48 with x4:=r130.1 }:(Arr5 api_Range)))] ?_
         refine LeQ.start ?_
         refine LeQ.pk [0,2,3,4] 3 ?_
         exact ⟨rfl,r130.2,({ v48 with x4:=r130.1 }:(Arr5 api_Range)),(someb hF).symm,by kernel_rfl,by kernel_rfl⟩
    ·rintro _ _ _ ⟨rfl,v114,v115,rfl,rfl,rfl⟩
     refine AWP.rg0 [] [(0,(.ptr 0 0)),(2,(.ptr 1 0)),(3,(.ptr 2 0)),(4,(i64 (IntKind.wrap .i64 (v49 - (1:Int)))))] ?_
     refine LeQ.start ?_
     refine LeQ.pk [0,2,3,4] 3 ?_
     exact ⟨n95,Nat.lt_succ_self _,v114,v115,(IntKind.wrap .i64 (v49 - (1:Int))),hF,by kernel_rfl,by kernel_rfl⟩
   ·refine AWP.exit ?_
    refine LeQ.start ?_
    refine LeQ.pk [2,3] 3 ?_
    exact ⟨rfl,v47,v48,(someb hF).symm,by kernel_rfl,by kernel_rfl⟩
 ·rintro _ _ _ ⟨rfl,v91,v92,rfl,rfl,rfl⟩
  refine .seq (.rg [] [(2,(.ptr 1 0))] [.cells (Ze v91),.cells (Za v92),.cells (Za v92)] ?_)
  refine AWP.ret ?_
  have hr:=someb hF
  subst hr
  exact (FnQ.f0 1 (.inr rfl))
def Zi9 (r:((List (Arr5 api_Range)) × nsggen_Tape)):PV→List Blk→Prop:=fun p K=>p=(slc 10 Za r.1)∧K=[.cells (Ze r.2)]
theorem Zja (a0:nsggen_Tape) (a1:Int) (a2:Bool) (r:((List (Arr5 api_Range)) × nsggen_Tape)) (hF:Zd3 a0 a1 a2=some r):ACall Tryd.prog glob 16 [(.ptr 0 0),(i64 a1),(vb a2)] [.cells (Ze a0)] (Zi9 r):=by
 refine ACall.body Tryd.func16 rfl (by kernel_rfl) ?_
 unfold Zd3 at hF
 refine .seq (.rg0 [] [(0,(.ptr 0 0)),(1,(i64 a1)),(2,(vb a2))] ?_)
 refine .seq (.rg0 [] [(0,(.ptr 0 0)),(1,(i64 a1)),(2,(vb a2)),(7,nils)] ?_)
 refine AWP.own (H':=[.cells (Ze a0),bf 10 50 Za ([]:(List (Arr5 api_Range))) false]) (st':=[(7,(.own 1 (List.length ([]:(List (Arr5 api_Range)))))),(0,(.ptr 0 0)),(1,(i64 a1)),(2,(vb a2))]) 7 10 50 (by kernel_rfl) (by kernel_rfl) (by kernel_rfl) ?_
 refine AWP.pick (st':=[(0,(.ptr 0 0)),(1,(i64 a1)),(2,(vb a2)),(7,(.own 1 (List.length ([]:(List (Arr5 api_Range))))))]) (ks:=[0,1,2,7]) (by kernel_rfl) ?_
 refine AWP.seq ?_
 refine AWP.seq ?_
 obtain ⟨r1,h2,hF⟩:=bindb hF
 refine AWP.rg [(3,.call Tryd.func18 [] (Zn a0 (IntKind.wrap .i64 (a1 + (1:Int))) r1 h2))] [(0,(.ptr 0 0)),(2,(vb a2)),(7,(.own 1 (List.length ([]:(List (Arr5 api_Range)))))),(8,(i64 r1.1))] [.cells (Ze r1.2),bf 10 50 Za ([]:(List (Arr5 api_Range))) false] ?_
 obtain ⟨o135,h136,hF⟩:=bindb hF
 refine AWP.mid (fun e st H=>(e=.normal∧∃ (v133:nsggen_Tape),∃ (v134:(List (Arr5 api_Range))),o135=(v133,v134)∧st=[(7,(.own 1 (List.length v134)))]∧H=[.cells (Ze v133),bf 10 50 Za v134 false])) ?_ ?_
 ·clear hF
  refine AWP.kp [0,2,7,8] 2 ?_
  refine AWP.bround (fun n st H=>∃ (v67:nsggen_Tape),∃ (v68:(List (Arr5 api_Range))),∃ (v69:Int),Zbu a2 n v67 v68 v69=some o135∧st=[(0,(.ptr 0 0)),(2,(vb a2)),(7,(.own 1 (List.length v68))),(8,(i64 v69))]∧H=[.cells (Ze v67),bf 10 50 Za v68 false]) fuel ⟨r1.2,([]:(List (Arr5 api_Range))),r1.1,h136,by kernel_rfl,by kernel_rfl⟩ ?_
  rintro n137 st H ⟨v67,v68,v69,hF,rfl,rfl⟩
  cases n137 with
  | zero=>exact noneb hF
  | succ n137=>
   rw [Zbu] at hF
   refine AWP.seq ?_
   refine .seq (.rg0 [] [(0,(.ptr 0 0)),(2,(vb a2)),(7,(.own 1 (List.length v68))),(8,(i64 v69)),(15,(vb (decide (v69 > (0:Int)))))] ?_)
   refine AWP.cif hF (fun h200 hF=>?_) (fun h200 hF=>?_)
   ·refine AWP.skip ?_
    obtain ⟨o169,h170,hF⟩:=bindb hF
    refine AWP.seq ?_
    refine AWP.mid (fun e st H=>(e=.normal∧∃ (v167:nsggen_Tape),∃ (v168:(List (Arr5 api_Range))),o169=(v167,v168)∧st=[(0,(.ptr 0 0)),(2,(vb a2)),(7,(.own 1 (List.length v168))),(8,(i64 v69))]∧H=[.cells (Ze v167),bf 10 50 Za v168 false])) ?_ ?_
    ·clear hF
     have hF:=h170
     refine AWP.block ?_
     refine AWP.seq ?_
     obtain ⟨r171,h172,hF⟩:=bindb hF
     refine AWP.rg [(1,.call Tryd.func39 [] (Zjt v67 r171 h172))] [(0,(.ptr 0 0)),(2,(vb a2)),(7,(.own 1 (List.length v68))),(8,(i64 v69)),(9,(.ptr 2 0))] [.cells (Ze r171.2),bf 10 50 Za v68 false,.cells (Za r171.1)] ?_
     obtain ⟨o186,h187,hF⟩:=bindb hF
     refine AWP.seq ?_
     refine AWP.mid (fun e st H=>(e=.normal∧∃ (v184:nsggen_Tape),∃ (v185:(Arr5 api_Range)),o186=(v184,v185)∧st=[(0,(.ptr 0 0)),(2,(vb a2)),(7,(.own 1 (List.length v68))),(8,(i64 v69)),(9,(.ptr 2 0))]∧H=[.cells (Ze v184),bf 10 50 Za v68 false,.cells (Za v185)])) ?_ ?_
     ·clear hF
      have hF:=h187
      refine AWP.seq ?_
      obtain ⟨b188,h189,hF⟩:=bindb hF
      replace h189:=someb h189
      obtain ⟨v192,h193,hF⟩:=bindb hF
      refine AWP.to [(0,(.ptr 0 0)),(2,(vb a2)),(7,(.own 1 (List.length v68))),(8,(i64 v69)),(9,(.ptr 2 0)),(25,(vb v192.1))] [.cells (Ze v192.2),bf 10 50 Za v68 false,.cells (Za r171.1)] ?_ ?_
      ·cases b188 with
       | false=>
        have h194:=someb (ifF h193 rfl)
        subst h194
        exact AWP.rgT [(1,.bool h189)]
       | true=>
        have h195:=ifT h193 rfl
        obtain ⟨r190,h191,h195⟩:=bindb h195
        replace h195:=someb h195
        subst h195
        exact AWP.rgT [(1,.bool h189),(3,.call Tryd.func18 [] (Zn r171.2 (8:Int) r190 h191))]
      refine AWP.cif hF (fun h198 hF=>?_) (fun h198 hF=>?_)
      ·obtain ⟨r196,h197,hF⟩:=bindb hF
       refine AWP.rg [(2,.call Tryd.func24 [] (Zgl v192.2 r171.1 r196 h197))] [(0,(.ptr 0 0)),(2,(vb a2)),(7,(.own 1 (List.length v68))),(8,(i64 v69)),(9,(.ptr 2 0))] [.cells (Ze r196.2),bf 10 50 Za v68 false,.cells (Za r196.1)] ?_
       refine LeQ.start ?_
       refine LeQ.pk [0,2,7,8,9] 3 ?_
       exact ⟨rfl,r196.2,r196.1,(someb hF).symm,by kernel_rfl,by kernel_rfl⟩
      ·refine AWP.skip ?_
       refine LeQ.start ?_
       refine LeQ.pk [0,2,7,8,9] 3 ?_
       exact ⟨rfl,v192.2,r171.1,(someb hF).symm,by kernel_rfl,by kernel_rfl⟩
     ·rintro _ _ _ ⟨rfl,v184,v185,rfl,rfl,rfl⟩
      obtain ⟨h199,hF⟩:=chkb hF
      refine AWP.rg [(3,.app Za (fun _=>by kernel_rfl) h199)] [(0,(.ptr 0 0)),(2,(vb a2)),(7,(.own 1 (List.length (v68++[v185])))),(8,(i64 v69))] [.cells (Ze v184),bf 10 50 Za (v68++[v185]) false,.cells (Za v185)] ?_
      refine LeQ.start ?_
      refine LeQ.pk [0,2,7,8] 2 ?_
      exact ⟨rfl,v184,(v68++[v185]),(someb hF).symm,by kernel_rfl,by kernel_rfl⟩
    ·rintro _ _ _ ⟨rfl,v167,v168,rfl,rfl,rfl⟩
     refine AWP.rg0 [] [(0,(.ptr 0 0)),(2,(vb a2)),(7,(.own 1 (List.length v168))),(8,(i64 (IntKind.wrap .i64 (v69 - (1:Int)))))] ?_
     refine LeQ.start ?_
     refine LeQ.pk [0,2,7,8] 2 ?_
     exact ⟨n137,Nat.lt_succ_self _,v167,v168,(IntKind.wrap .i64 (v69 - (1:Int))),hF,by kernel_rfl,by kernel_rfl⟩
   ·refine AWP.exit ?_
    refine LeQ.start ?_
    refine LeQ.pk [7] 2 ?_
    exact ⟨rfl,v67,v68,(someb hF).symm,by kernel_rfl,by kernel_rfl⟩
 ·rintro _ _ _ ⟨rfl,v133,v134,rfl,rfl,rfl⟩
  refine .seq (.rg0 [] [(6,(.own 1 (List.length v134)))] ?_)
  refine AWP.ret ?_
  have hr:=someb hF
  subst hr
  exact (FnQ.f1 1 (.inr rfl) (.inl (Wk.ownT (i:=1) (s:=10) (t:=50) (l:=v134) (sh:=false) (row:=Za) (by kernel_rfl) (.inl rfl))))
def Zj6 (r:Bool):PV→List Blk→Prop:=fun p K=>p=(vb r)∧K=[]
abbrev Zli (r:Bool):Exit→St→List Blk→Prop:=FnQ Tryd.prog Tryd.f59.results 0 (Zj6 r)
theorem Zft (a0:(Arr5 api_Range)) (r:Bool) (hF:Zd7 a0=some r):ACall Tryd.prog glob 59 [(Zk a0)] [] (Zj6 r):=by
 refine ACall.body Tryd.func59 rfl (by kernel_rfl) ?_
 unfold Zd7 at hF
 refine .seq (.rg [] [(1,(.ptr 0 0))] [.cells (Za a0)] ?_)
 refine AWP.seq ?_
 refine .seq (.rg0 [] [(5,(Zk a0)),(6,(i64 (0:Int)))] ?_)
 obtain ⟨o12,h13,hF⟩:=bindb hF
 refine AWP.mid (fun e st H=>(e=.normal∧o12=(.inl ())∧st=[]∧H=[.cells (Za a0)])∨(e=.ret∧∃ (r:Bool),o12=(.inr r)∧Zli r e st H)) ?_ ?_
 ·clear hF
  refine AWP.kp [5,6] 1 ?_
  refine AWP.bround (fun n st H=>∃ (v1:Int),Zag a0 n v1=some o12∧st=[(5,(Zk a0)),(6,(i64 v1))]∧H=[.cells (Za a0)]) fuel ⟨(0:Int),h13,by kernel_rfl,by kernel_rfl⟩ ?_
  rintro n14 st H ⟨v1,hF,rfl,rfl⟩
  cases n14 with
  | zero=>exact noneb hF
  | succ n14=>
   rw [Zag] at hF
   refine .seq (.rg0 [] [(5,(Zk a0)),(6,(i64 v1)),(7,(vb (decide (v1<(5:Int)))))] ?_)
   refine AWP.seq ?_
   refine AWP.cif hF (fun h24 hF=>?_) (fun h24 hF=>?_)
   ·refine AWP.skip ?_
    refine AWP.seq ?_
    refine AWP.block ?_
    refine AWP.seq ?_
    obtain ⟨h15,hF⟩:=chkb hF
    refine AWP.rg [(1,.ixA Zg (Arr5.get a0) h15)] [(3,(i64 v1)),(4,(.ptr 1 0)),(5,(Zk a0)),(6,(i64 v1))] [.cells (Za a0),.cells (Zg (Arr5.get a0 v1))] ?_
    refine AWP.seq ?_
    obtain ⟨b16,h17,hF⟩:=bindb hF
    replace h17:=someb h17
    obtain ⟨v19,h20,hF⟩:=bindb hF
    refine AWP.to [(5,(Zk a0)),(6,(i64 v1)),(22,(vb v19))] [.cells (Za a0),.cells (Zg (Arr5.get a0 v1))] ?_ ?_
    ·cases b16 with
     | false=>
      have h21:=ifF h20 rfl
      obtain ⟨h18,h21⟩:=chkb h21
      replace h21:=someb h21
      subst h21
      exact AWP.drT [(5,.bool h17),(9,.ixd h18),(10,.ldA Zdd (Arr5.get Zaf) 0 1 0 h18)] 13 [] [] []
     | true=>
      have h22:=someb (ifT h20 rfl)
      subst h22
      exact AWP.drT [(5,.bool h17)] 13 [] [] []
    refine AWP.cif hF (fun h23 hF=>?_) (fun h23 hF=>?_)
    ·refine .seq (.rg0 [] [(2,(vb false))] ?_)
     refine AWP.ret ?_
     exact LeQ.of (.inr ⟨rfl,false,(someb hF).symm,(FnQ.f0 0 (.inr rfl))⟩)
    ·refine AWP.skip ?_
     refine AWP.rg0 [] [(5,(Zk a0)),(6,(i64 (IntKind.wrap .i64 (v1 + (1:Int)))))] ?_
     refine LeQ.start ?_
     refine LeQ.pk [5,6] 1 ?_
     exact ⟨n14,Nat.lt_succ_self _,(IntKind.wrap .i64 (v1 + (1:Int))),hF,by kernel_rfl,by kernel_rfl⟩
   ·refine AWP.exit ?_
    refine LeQ.start ?_
    refine LeQ.pk [] 1 ?_
    exact (.inl ⟨rfl,(someb hF).symm,by kernel_rfl,by kernel_rfl⟩)
 ·rintro _ _ _ (⟨rfl,rfl,rfl,rfl⟩ | ⟨rfl,r25,rfl,hq⟩)
  ·refine .seq (.rg0 [] [(2,(vb true))] ?_)
   refine AWP.ret ?_
   have hr:=someb hF
   subst hr
   exact (FnQ.f0 0 (.inr rfl))
  ·have hr:=someb hF
   subst hr
   exact hq
def Zhg (r:Bool):PV→List Blk→Prop:=fun p K=>p=(vb r)∧K=[]
abbrev Zjb (r:Bool):Exit→St→List Blk→Prop:=FnQ Tryd.prog Tryd.f35.results 0 (Zhg r)
theorem Zd4 (a0:api_Move) (r:Bool) (hF:Zcg a0=some r):ACall Tryd.prog glob 35 [(Zfs a0)] [] (Zhg r):=by
 refine ACall.body Tryd.func35 rfl (by kernel_rfl) ?_
 unfold Zcg at hF
 refine .seq (.rg [] [(1,(.ptr 0 0))] [.cells (Zd a0)] ?_)
 refine AWP.seq ?_
 refine AWP.seq ?_
 obtain ⟨r1,h2,hF⟩:=bindb hF
 obtain ⟨b3,h4,hF⟩:=bindb hF
 replace h4:=someb h4
 obtain ⟨v7,h8,hF⟩:=bindb hF
 refine AWP.to [(1,(.ptr 0 0)),(14,(vb v7))] [.cells (Zd a0)] ?_ ?_
 ·cases b3 with
  | false=>
   have h9:=ifF h8 rfl
   obtain ⟨r5,h6,h9⟩:=bindb h9
   replace h9:=someb h9
   subst h9
   exact AWP.rgT [(2,.call Tryd.func59 [] (Zft a0.From r1 h2)),(4,.bool h4),(7,.call Tryd.func59 [] (Zft a0.To r5 h6))]
  | true=>
   have h10:=someb (ifT h8 rfl)
   subst h10
   exact AWP.rgT [(2,.call Tryd.func59 [] (Zft a0.From r1 h2)),(4,.bool h4)]
 refine AWP.cif hF (fun h26 hF=>?_) (fun h26 hF=>?_)
 ·refine .seq (.rg0 [] [(2,(vb false))] ?_)
  refine AWP.ret ?_
  have hr:=someb hF
  subst hr
  exact (FnQ.f0 0 (.inr rfl))
 ·refine AWP.skip ?_
  refine AWP.seq ?_
  refine .seq (.rg0 [] [(1,(.ptr 0 0)),(16,(Zk a0.From)),(17,(i64 (0:Int)))] ?_)
  obtain ⟨o17,h18,hF⟩:=bindb hF
  refine AWP.mid (fun e st H=>(e=.normal∧o17=(.inl ())∧st=[]∧H=[.cells (Zd a0)])∨(e=.ret∧∃ (r:Bool),o17=(.inr r)∧Zjb r e st H)) ?_ ?_
  ·clear hF
   refine AWP.kp [1,16,17] 1 ?_
   refine AWP.bround (fun n st H=>∃ (v11:Int),Zcd a0 n v11=some o17∧st=[(1,(.ptr 0 0)),(16,(Zk a0.From)),(17,(i64 v11))]∧H=[.cells (Zd a0)]) fuel ⟨(0:Int),h18,by kernel_rfl,by kernel_rfl⟩ ?_
   rintro n19 st H ⟨v11,hF,rfl,rfl⟩
   cases n19 with
   | zero=>exact noneb hF
   | succ n19=>
    rw [Zcd] at hF
    refine .seq (.rg0 [] [(1,(.ptr 0 0)),(16,(Zk a0.From)),(17,(i64 v11)),(18,(vb (decide (v11<(5:Int)))))] ?_)
    refine AWP.seq ?_
    refine AWP.cif hF (fun h24 hF=>?_) (fun h24 hF=>?_)
    ·refine AWP.skip ?_
     refine AWP.seq ?_
     refine AWP.block ?_
     refine AWP.seq ?_
     obtain ⟨h20,hF⟩:=chkb hF
     refine AWP.rg [(1,.ixA Zg (Arr5.get a0.From) h20)] [(1,(.ptr 0 0)),(3,(i64 v11)),(4,(.ptr 1 0)),(16,(Zk a0.From)),(17,(i64 v11))] [.cells (Zd a0),.cells (Zg (Arr5.get a0.From v11))] ?_
     refine AWP.seq ?_
     obtain ⟨h21,hF⟩:=chkb hF
     obtain ⟨h22,hF⟩:=chkb hF
     refine AWP.dr [(7,.ixd h21),(9,.ldA Zg (Arr5.get a0.To) 10 2 1 h21),(12,.ixd h22),(14,.ldA Zg (Arr5.get a0.To) 10 2 0 h22)] 17 [] [] [] [(1,(.ptr 0 0)),(16,(Zk a0.From)),(17,(i64 v11)),(37,(vb ((IntKind.wrap .u32 ((Arr5.get a0.From v11).Hi - (Arr5.get a0.From v11).Lo)) != (IntKind.wrap .u32 ((Arr5.get a0.To v11).Hi - (Arr5.get a0.To v11).Lo)))))] [.cells (Zd a0),.cells (Zg (Arr5.get a0.From v11))] ?_
     refine AWP.cif hF (fun h23 hF=>?_) (fun h23 hF=>?_)
     ·refine .seq (.rg0 [] [(2,(vb false))] ?_)
      refine AWP.ret ?_
      exact LeQ.of (.inr ⟨rfl,false,(someb hF).symm,(FnQ.f0 0 (.inr rfl))⟩)
     ·refine AWP.skip ?_
      refine AWP.rg0 [] [(1,(.ptr 0 0)),(16,(Zk a0.From)),(17,(i64 (IntKind.wrap .i64 (v11 + (1:Int)))))] ?_
      refine LeQ.start ?_
      refine LeQ.pk [1,16,17] 1 ?_
      exact ⟨n19,Nat.lt_succ_self _,(IntKind.wrap .i64 (v11 + (1:Int))),hF,by kernel_rfl,by kernel_rfl⟩
    ·refine AWP.exit ?_
     refine LeQ.start ?_
     refine LeQ.pk [] 1 ?_
     exact (.inl ⟨rfl,(someb hF).symm,by kernel_rfl,by kernel_rfl⟩)
  ·rintro _ _ _ (⟨rfl,rfl,rfl,rfl⟩ | ⟨rfl,r25,rfl,hq⟩)
   ·refine .seq (.rg0 [] [(2,(vb true))] ?_)
    refine AWP.ret ?_
    have hr:=someb hF
    subst hr
    exact (FnQ.f0 0 (.inr rfl))
   ·have hr:=someb hF
    subst hr
    exact hq
def Zkz (r:(List (Arr5 api_Range))):PV→List Blk→Prop:=fun p K=>p=(slc 10 Za r)∧K=[]
theorem Zk0 (a0:(List api_Move)) (r:(List (Arr5 api_Range))) (hF:Zfq a0=some r):ACall Tryd.prog glob 41 [(slc 20 Zd a0)] [] (Zkz r):=by
 refine ACall.body Tryd.func41 rfl (by kernel_rfl) ?_
 unfold Zfq at hF
 refine .seq (.rg0 [] [(0,(slc 20 Zd a0))] ?_)
 refine .seq (.rg0 [] [(0,(slc 20 Zd a0)),(3,nils)] ?_)
 refine AWP.own (H':=[bf 10 50 Za ([]:(List (Arr5 api_Range))) false]) (st':=[(3,(.own 0 (List.length ([]:(List (Arr5 api_Range)))))),(0,(slc 20 Zd a0))]) 3 10 50 (by kernel_rfl) (by kernel_rfl) (by kernel_rfl) ?_
 refine AWP.pick (st':=[(0,(slc 20 Zd a0)),(3,(.own 0 (List.length ([]:(List (Arr5 api_Range))))))]) (ks:=[0,3]) (by kernel_rfl) ?_
 refine AWP.seq ?_
 refine .seq (.rg0 [(1,.len Zd a0)] [(3,(.own 0 (List.length ([]:(List (Arr5 api_Range)))))),(6,(slc 20 Zd a0)),(7,(i64 (List.length a0:Int))),(8,(i64 (0:Int)))] ?_)
 obtain ⟨v54,h55,hF⟩:=bindb hF
 refine AWP.mid (fun e st H=>e=.normal∧st=[(3,(.own 0 (List.length v54)))]∧H=[bf 10 50 Za v54 false]) ?_ ?_
 ·clear hF
  refine AWP.kp [3,6,7,8] 1 ?_
  refine AWP.bround (fun n st H=>∃ (v27:(List (Arr5 api_Range))),∃ (v28:Int),Zda a0 n v27 v28=some v54∧st=[(3,(.own 0 (List.length v27))),(6,(slc 20 Zd a0)),(7,(i64 (List.length a0:Int))),(8,(i64 v28))]∧H=[bf 10 50 Za v27 false]) fuel ⟨([]:(List (Arr5 api_Range))),(0:Int),h55,by kernel_rfl,by kernel_rfl⟩ ?_
  rintro n56 st H ⟨v27,v28,hF,rfl,rfl⟩
  cases n56 with
  | zero=>exact noneb hF
  | succ n56=>
   rw [Zda] at hF
   refine .seq (.rg0 [] [(3,(.own 0 (List.length v27))),(6,(slc 20 Zd a0)),(7,(i64 (List.length a0:Int))),(8,(i64 v28)),(9,(vb (decide (v28<(List.length a0:Int)))))] ?_)
   refine AWP.seq ?_
   refine AWP.cif hF (fun h81 hF=>?_) (fun h81 hF=>?_)
   ·refine AWP.skip ?_
    obtain ⟨v68,h69,hF⟩:=bindb hF
    refine AWP.seq ?_
    refine AWP.mid (fun e st H=>e=.normal∧st=[(3,(.own 0 (List.length v68))),(6,(slc 20 Zd a0)),(7,(i64 (List.length a0:Int))),(8,(i64 v28))]∧H=[bf 10 50 Za v68 false]) ?_ ?_
    ·clear hF
     have hF:=h69
     refine AWP.block ?_
     refine AWP.seq ?_
     obtain ⟨x70,h71,hF⟩:=bindb hF
     refine AWP.rg [(0,.idx Zd h71)] [(3,(.own 0 (List.length v27))),(5,(.ptr 1 0)),(6,(slc 20 Zd a0)),(7,(i64 (List.length a0:Int))),(8,(i64 v28))] [bf 10 50 Za v27 false,.cells (Zd x70)] ?_
     obtain ⟨v75,h76,hF⟩:=bindb hF
     refine AWP.seq ?_
     refine AWP.mid (fun e st H=>e=.normal∧st=[(3,(.own 0 (List.length v27))),(5,(.ptr 1 0)),(6,(slc 20 Zd a0)),(7,(i64 (List.length a0:Int))),(8,(i64 v28))]∧H=[bf 10 50 Za v27 false,.cells (Zd v75)]) ?_ ?_
     ·clear hF
      have hF:=h76
      refine AWP.seq ?_
      obtain ⟨r77,h78,hF⟩:=bindb hF
      refine AWP.rg0 [(1,.call Tryd.func35 [] (Zd4 x70 r77 h78))] [(3,(.own 0 (List.length v27))),(5,(.ptr 1 0)),(6,(slc 20 Zd a0)),(7,(i64 (List.length a0:Int))),(8,(i64 v28)),(14,(vb (!r77)))] ?_
      refine AWP.cif hF (fun h79 hF=>?_) (fun h79 hF=>?_)
      ·refine AWP.rg [] [(3,(.own 0 (List.length v27))),(5,(.ptr 1 0)),(6,(slc 20 Zd a0)),(7,(i64 (List.length a0:Int))),(8,(i64 v28))] [bf 10 50 Za v27 false,.cells (Zd ({ x70 with From:=(Arr5.mk (api_Range.mk (1:Int) (0:Int)) Zj Zj Zj Zj) }:api_Move))] ?_
       refine LeQ.start ?_
       refine LeQ.pk [3,5,6,7,8] 2 ?_
       have hr:=someb hF
       subst hr
       exact ⟨rfl,by kernel_rfl,by kernel_rfl⟩
      ·refine AWP.skip ?_
       refine LeQ.start ?_
       refine LeQ.pk [3,5,6,7,8] 2 ?_
       have hr:=someb hF
       subst hr
       exact ⟨rfl,by kernel_rfl,by kernel_rfl⟩
     ·rintro _ _ _ ⟨rfl,rfl,rfl⟩
      obtain ⟨h80,hF⟩:=chkb hF
      refine AWP.rg [(4,.app Za (fun _=>by kernel_rfl) h80)] [(3,(.own 0 (List.length (v27++[v75.From])))),(6,(slc 20 Zd a0)),(7,(i64 (List.length a0:Int))),(8,(i64 v28))] [bf 10 50 Za (v27++[v75.From]) false,.cells (Zd v75)] ?_
      refine LeQ.start ?_
      refine LeQ.pk [3,6,7,8] 1 ?_
      have hr:=someb hF
      subst hr
      exact ⟨rfl,by kernel_rfl,by kernel_rfl⟩
    ·rintro _ _ _ ⟨rfl,rfl,rfl⟩
     refine AWP.rg0 [] [(3,(.own 0 (List.length v68))),(6,(slc 20 Zd a0)),(7,(i64 (List.length a0:Int))),(8,(i64 (IntKind.wrap .i64 (v28 + (1:Int)))))] ?_
     refine LeQ.start ?_
     refine LeQ.pk [3,6,7,8] 1 ?_
     exact ⟨n56,Nat.lt_succ_self _,v68,(IntKind.wrap .i64 (v28 + (1:Int))),hF,by kernel_rfl,by kernel_rfl⟩
   ·refine AWP.exit ?_
    refine LeQ.start ?_
    refine LeQ.pk [3] 1 ?_
    have hr:=someb hF
    subst hr
    exact ⟨rfl,by kernel_rfl,by kernel_rfl⟩
 ·rintro _ _ _ ⟨rfl,rfl,rfl⟩
  refine .seq (.rg0 [] [(2,(.own 0 (List.length v54)))] ?_)
  refine AWP.ret ?_
  have hr:=someb hF
  subst hr
  exact (FnQ.f1 0 (.inr rfl) (.inl (Wk.ownT (i:=0) (s:=10) (t:=50) (l:=v54) (sh:=false) (row:=Za) (by kernel_rfl) (.inl rfl))))
def Zjc (r:Bool):PV→List Blk→Prop:=fun p K=>p=(vb r)∧K=[]
theorem Zeu (a0:(Arr5 api_Range)) (r:Bool) (hF:Zch a0=some r):ACall Tryd.prog glob 82 [(Zk a0)] [] (Zjc r):=by
 refine ACall.body Tryd.func82 rfl (by kernel_rfl) ?_
 unfold Zch at hF
 refine .seq (.rg [] [(1,(.ptr 0 0))] [.cells (Za a0)] ?_)
 refine AWP.seq ?_
 obtain ⟨r1,h2,hF⟩:=bindb hF
 refine AWP.rg0 [(1,.call Tryd.func59 [] (Zft a0 r1 h2))] [(2,(vb (!r1)))] ?_
 refine AWP.ret ?_
 have hr:=someb hF
 subst hr
 exact (FnQ.f0 0 (.inr rfl))
def Zdc (a1:(List (Arr5 api_Range))) (s0:List Value) (r:Int):PV→List Blk→Prop:=fun p K=>p=(i64 r)∧K=[.cells (cel Za a1 s0)]
abbrev Zfa (a1:(List (Arr5 api_Range))) (s0:List Value) (r:Int):Exit→St→List Blk→Prop:=FnQ Tryd.prog Tryd.f86.results 1 (Zdc a1 s0 r)
theorem Zfb (a0:Nat) (a1:(List (Arr5 api_Range))) (s0:List Value) (r:Int) (hF:Zbe a0 a1=some r):ACall Tryd.prog glob 86 [(.vw 0 0 a0),(.sc (.func (.func 82) #[] #[]))] [.cells (cel Za a1 s0)] (Zdc a1 s0 r):=by
 refine ACall.body Tryd.func86 rfl (by kernel_rfl) ?_
 unfold Zbe at hF
 refine .seq (.rg0 [] [(0,(.vw 0 0 a0)),(1,(.sc (.func (.func 82) #[] #[])))] ?_)
 refine AWP.seq ?_
 refine .seq (.rg0 [(1,.lenV a0)] [(0,(.vw 0 0 a0)),(1,(.sc (.func (.func 82) #[] #[]))),(7,(i64 (a0:Int))),(8,(i64 (0:Int)))] ?_)
 obtain ⟨o8,h9,hF⟩:=bindb hF
 refine AWP.mid (fun e st H=>(e=.normal∧o8=(.inl ())∧st=[]∧H=[.cells (cel Za a1 s0)])∨(e=.ret∧∃ (r:Int),o8=(.inr r)∧Zfa a1 s0 r e st H)) ?_ ?_
 ·clear hF
  refine AWP.kp [0,1,7,8] 1 ?_
  refine AWP.bround (fun n st H=>∃ (v1:Int),Zw a0 a1 n v1=some o8∧st=[(0,(.vw 0 0 a0)),(1,(.sc (.func (.func 82) #[] #[]))),(7,(i64 (a0:Int))),(8,(i64 v1))]∧H=[.cells (cel Za a1 s0)]) fuel ⟨(0:Int),h9,by kernel_rfl,by kernel_rfl⟩ ?_
  rintro n10 st H ⟨v1,hF,rfl,rfl⟩
  cases n10 with
  | zero=>exact noneb hF
  | succ n10=>
   rw [Zw] at hF
   refine .seq (.rg0 [] [(0,(.vw 0 0 a0)),(1,(.sc (.func (.func 82) #[] #[]))),(7,(i64 (a0:Int))),(8,(i64 v1)),(9,(vb (decide (v1<(a0:Int)))))] ?_)
   refine AWP.seq ?_
   refine AWP.cif hF (fun h16 hF=>?_) (fun h16 hF=>?_)
   ·refine AWP.skip ?_
    refine AWP.seq ?_
    refine AWP.block ?_
    refine .seq (.rg0 [] [(0,(.vw 0 0 a0)),(1,(.sc (.func (.func 82) #[] #[]))),(5,(i64 v1)),(7,(i64 (a0:Int))),(8,(i64 v1))] ?_)
    refine AWP.seq ?_
    obtain ⟨x11,h12,hF⟩:=bindb hF
    obtain ⟨r13,h14,hF⟩:=bindb hF
    refine AWP.rg0 [(3,.idxV (idxn_lt h12)),(4,.ldV Za (s:=10) (fun _=>rfl) s0 (idxn_idx h12) (0 + Int.toNat v1 * 10) (Nat.zero_add _) []),(5,.call Tryd.func82 [] (Zeu x11 r13 h14))] [(0,(.vw 0 0 a0)),(1,(.sc (.func (.func 82) #[] #[]))),(5,(i64 v1)),(7,(i64 (a0:Int))),(8,(i64 v1)),(16,(vb r13))] ?_
    refine AWP.cif hF (fun h15 hF=>?_) (fun h15 hF=>?_)
    ·refine .seq (.rg0 [] [(4,(i64 v1))] ?_)
     refine AWP.ret ?_
     exact LeQ.of (.inr ⟨rfl,v1,(someb hF).symm,(FnQ.f0 1 (.inr rfl))⟩)
    ·refine AWP.skip ?_
     refine AWP.rg0 [] [(0,(.vw 0 0 a0)),(1,(.sc (.func (.func 82) #[] #[]))),(7,(i64 (a0:Int))),(8,(i64 (IntKind.wrap .i64 (v1 + (1:Int)))))] ?_
     refine LeQ.start ?_
     refine LeQ.pk [0,1,7,8] 1 ?_
     exact ⟨n10,Nat.lt_succ_self _,(IntKind.wrap .i64 (v1 + (1:Int))),hF,by kernel_rfl,by kernel_rfl⟩
   ·refine AWP.exit ?_
    refine LeQ.start ?_
    refine LeQ.pk [] 1 ?_
    exact (.inl ⟨rfl,(someb hF).symm,by kernel_rfl,by kernel_rfl⟩)
 ·rintro _ _ _ (⟨rfl,rfl,rfl,rfl⟩ | ⟨rfl,r17,rfl,hq⟩)
  ·refine .seq (.rg0 [] [(4,(i64 (-1:Int)))] ?_)
   refine AWP.ret ?_
   have hr:=someb hF
   subst hr
   exact (FnQ.f0 1 (.inr rfl))
  ·have hr:=someb hF
   subst hr
   exact hq
def Ze2 (s0:List Value) (r:(Nat × (List (Arr5 api_Range)))):PV→List Blk→Prop:=fun p K=>p=(.vw 0 0 r.1)∧K=[.cells (cel Za r.2 s0)]
theorem Ze3 (a0:Nat) (a1:(List (Arr5 api_Range))) (s0:List Value) (r:(Nat × (List (Arr5 api_Range)))) (hF:Zak a0 a1=some r):ACall Tryd.prog glob 80 [(.vw 0 0 a0),(.sc (.func (.func 82) #[] #[]))] [.cells (cel Za a1 s0)] (Ze2 s0 r):=by
 refine ACall.body Tryd.func80 rfl (by kernel_rfl) ?_
 unfold Zak at hF
 refine .seq (.rg0 [] [(0,(.vw 0 0 a0)),(1,(.sc (.func (.func 82) #[] #[])))] ?_)
 refine AWP.seq ?_
 obtain ⟨r1,h2,hF⟩:=bindb hF
 refine AWP.rg0 [(2,.callC Tryd.func86 [] (closedH.c (cel_closed (row:=Za) (fun _=>rfl) a1 s0) closedH.n) (closedH.c (cel_closed (row:=Za) (fun _=>rfl) a1 s0) closedH.n) (Zfb a0 a1 s0 r1 h2))] [(0,(.vw 0 0 a0)),(1,(.sc (.func (.func 82) #[] #[]))),(5,(i64 r1))] ?_
 refine AWP.seq ?_
 refine .seq (.rg0 [] [(0,(.vw 0 0 a0)),(1,(.sc (.func (.func 82) #[] #[]))),(5,(i64 r1)),(12,(vb (r1 == (-1:Int))))] ?_)
 refine AWP.cif hF (fun h73 hF=>?_) (fun h73 hF=>?_)
 ·refine .seq (.rg0 [] [(4,(.vw 0 0 a0))] ?_)
  refine AWP.ret ?_
  have hr:=someb hF
  subst hr
  exact (FnQ.f0 1 (.inr rfl))
 ·refine AWP.skip ?_
  refine AWP.seq ?_
  refine .seq (.rg0 [] [(0,(.vw 0 0 a0)),(1,(.sc (.func (.func 82) #[] #[]))),(5,(i64 r1)),(6,(i64 (IntKind.wrap .i64 (r1 + (1:Int)))))] ?_)
  obtain ⟨o48,h49,hF⟩:=bindb hF
  refine AWP.mid (fun e st H=>(e=.normal∧∃ (v46:(List (Arr5 api_Range))),∃ (v47:Int),o48=(v46,v47)∧st=[(0,(.vw 0 0 a0)),(5,(i64 v47))]∧H=[.cells (cel Za v46 s0)])) ?_ ?_
  ·clear hF
   refine AWP.kp [0,1,5,6] 1 ?_
   refine AWP.bround (fun n st H=>∃ (v24:(List (Arr5 api_Range))),∃ (v25:Int),∃ (v26:Int),Zv a0 n v24 v25 v26=some o48∧st=[(0,(.vw 0 0 a0)),(1,(.sc (.func (.func 82) #[] #[]))),(5,(i64 v25)),(6,(i64 v26))]∧H=[.cells (cel Za v24 s0)]) fuel ⟨a1,r1,(IntKind.wrap .i64 (r1 + (1:Int))),h49,by kernel_rfl,by kernel_rfl⟩ ?_
   rintro n50 st H ⟨v24,v25,v26,hF,rfl,rfl⟩
   cases n50 with
   | zero=>exact noneb hF
   | succ n50=>
    rw [Zv] at hF
    refine AWP.seq ?_
    refine .seq (.rg0 [(2,.lenV a0)] [(0,(.vw 0 0 a0)),(1,(.sc (.func (.func 82) #[] #[]))),(5,(i64 v25)),(6,(i64 v26)),(19,(vb (decide (v26<(a0:Int)))))] ?_)
    refine AWP.cif hF (fun h69 hF=>?_) (fun h69 hF=>?_)
    ·refine AWP.skip ?_
     obtain ⟨o60,h61,hF⟩:=bindb hF
     refine AWP.seq ?_
     refine AWP.mid (fun e st H=>(e=.normal∧∃ (v58:(List (Arr5 api_Range))),∃ (v59:Int),o60=(v58,v59)∧st=[(0,(.vw 0 0 a0)),(1,(.sc (.func (.func 82) #[] #[]))),(5,(i64 v59)),(6,(i64 v26))]∧H=[.cells (cel Za v58 s0)])) ?_ ?_
     ·clear hF
      have hF:=h61
      refine AWP.block ?_
      refine AWP.seq ?_
      obtain ⟨x62,h63,hF⟩:=bindb hF
      refine AWP.rg [(2,.idxV (idxn_lt h63)),(3,.ldV Za (s:=10) (fun _=>rfl) s0 (idxn_idx h63) (0 + Int.toNat v26 * 10) (Nat.zero_add _) [])] [(0,(.vw 0 0 a0)),(1,(.sc (.func (.func 82) #[] #[]))),(5,(i64 v25)),(6,(i64 v26)),(7,(.ptr 1 0))] [.cells (cel Za v24 s0),.cells (Za x62)] ?_
      refine AWP.seq ?_
      obtain ⟨r64,h65,hF⟩:=bindb hF
      refine AWP.rg0 [(2,.call Tryd.func82 [] (Zeu x62 r64 h65))] [(0,(.vw 0 0 a0)),(1,(.sc (.func (.func 82) #[] #[]))),(5,(i64 v25)),(6,(i64 v26)),(7,(.ptr 1 0)),(29,(vb (!r64)))] ?_
      refine AWP.cif hF (fun h68 hF=>?_) (fun h68 hF=>?_)
      ·refine AWP.seq ?_
       obtain ⟨x66,h67,hF⟩:=bindb hF
       refine AWP.rg [(3,.idxV (idxn_lt h67)),(4,.stV Za (s:=10) (fun _=>rfl) s0 (idxn_idx h67) x62 (0 + Int.toNat v25 * 10) (Nat.zero_add _) [])] [(0,(.vw 0 0 a0)),(1,(.sc (.func (.func 82) #[] #[]))),(5,(i64 v25)),(6,(i64 v26))] [.cells (cel Za (List.set v24 (Int.toNat v25) x62) s0),.cells (Za x62)] ?_
       refine AWP.rg0 [] [(0,(.vw 0 0 a0)),(1,(.sc (.func (.func 82) #[] #[]))),(5,(i64 (IntKind.wrap .i64 (v25 + (1:Int))))),(6,(i64 v26))] ?_
       refine LeQ.start ?_
       refine LeQ.pk [0,1,5,6] 1 ?_
       exact ⟨rfl,(List.set v24 (Int.toNat v25) x62),(IntKind.wrap .i64 (v25 + (1:Int))),(someb hF).symm,by kernel_rfl,by kernel_rfl⟩
      ·refine AWP.skip ?_
       refine LeQ.start ?_
       refine LeQ.pk [0,1,5,6] 1 ?_
       exact ⟨rfl,v24,v25,(someb hF).symm,by kernel_rfl,by kernel_rfl⟩
     ·rintro _ _ _ ⟨rfl,v58,v59,rfl,rfl,rfl⟩
      refine AWP.rg0 [] [(0,(.vw 0 0 a0)),(1,(.sc (.func (.func 82) #[] #[]))),(5,(i64 v59)),(6,(i64 (IntKind.wrap .i64 (v26 + (1:Int)))))] ?_
      refine LeQ.start ?_
      refine LeQ.pk [0,1,5,6] 1 ?_
      exact ⟨n50,Nat.lt_succ_self _,v58,v59,(IntKind.wrap .i64 (v26 + (1:Int))),hF,by kernel_rfl,by kernel_rfl⟩
    ·refine AWP.exit ?_
     refine LeQ.start ?_
     refine LeQ.pk [0,5] 1 ?_
     exact ⟨rfl,v24,v25,(someb hF).symm,by kernel_rfl,by kernel_rfl⟩
  ·rintro _ _ _ ⟨rfl,v46,v47,rfl,rfl,rfl⟩
   refine AWP.seq ?_
   obtain ⟨h70,hF⟩:=chkb hF
   obtain ⟨h71,hF⟩:=chkb hF
   refine AWP.rg [(2,.sliceV h70),(3,.clrV Za (s:=10) (fun _=>rfl) (fun _=>rfl) s0 v46 Zl (lo:=Int.toNat v47) (n:=(Int.toNat (a0:Int) - Int.toNat v47)) h71 (0 + Int.toNat v47 * 10) (Nat.zero_add _))] [(0,(.vw 0 0 a0)),(5,(i64 v47))] [.cells (cel Za (List.take (Int.toNat v47) v46++List.replicate (Int.toNat (a0:Int) - Int.toNat v47) Zl++List.drop (Int.toNat v47 + (Int.toNat (a0:Int) - Int.toNat v47)) v46) s0)] ?_
   refine AWP.seq ?_
   obtain ⟨h72,hF⟩:=chkb hF
   refine AWP.rg0 [(2,.sliceV h72)] [(4,(.vw 0 0 (Int.toNat v47)))] ?_
   refine AWP.ret ?_
   have hr:=someb hF
   subst hr
   exact (FnQ.f0 1 (.inr rfl))
def Zc5 (r:Int):PV→List Blk→Prop:=fun p K=>p=(i64 r)∧K=[]
abbrev Zev (r:Int):Exit→St→List Blk→Prop:=FnQ Tryd.prog Tryd.f86.results 0 (Zc5 r)
theorem Zew (a0:(List (Arr5 api_Range))) (r:Int) (hF:Zb2 a0=some r):ACall Tryd.prog glob 86 [(slc 10 Za a0),(.sc (.func (.func 82) #[] #[]))] [] (Zc5 r):=by
 refine ACall.body Tryd.func86 rfl (by kernel_rfl) ?_
 unfold Zb2 at hF
 refine .seq (.rg0 [] [(0,(slc 10 Za a0)),(1,(.sc (.func (.func 82) #[] #[])))] ?_)
 refine AWP.seq ?_
 refine .seq (.rg0 [(1,.len Za a0)] [(0,(slc 10 Za a0)),(1,(.sc (.func (.func 82) #[] #[]))),(7,(i64 (List.length a0:Int))),(8,(i64 (0:Int)))] ?_)
 obtain ⟨o8,h9,hF⟩:=bindb hF
 refine AWP.mid (fun e st H=>(e=.normal∧o8=(.inl ())∧st=[]∧H=[])∨(e=.ret∧∃ (r:Int),o8=(.inr r)∧Zev r e st H)) ?_ ?_
 ·clear hF
  refine AWP.kp [0,1,7,8] 0 ?_
  refine AWP.bround (fun n st H=>∃ (v1:Int),Zax a0 n v1=some o8∧st=[(0,(slc 10 Za a0)),(1,(.sc (.func (.func 82) #[] #[]))),(7,(i64 (List.length a0:Int))),(8,(i64 v1))]∧H=[]) fuel ⟨(0:Int),h9,by kernel_rfl,by kernel_rfl⟩ ?_
  rintro n10 st H ⟨v1,hF,rfl,rfl⟩
  cases n10 with
  | zero=>exact noneb hF
  | succ n10=>
   rw [Zax] at hF
   refine .seq (.rg0 [] [(0,(slc 10 Za a0)),(1,(.sc (.func (.func 82) #[] #[]))),(7,(i64 (List.length a0:Int))),(8,(i64 v1)),(9,(vb (decide (v1<(List.length a0:Int)))))] ?_)
   refine AWP.seq ?_
   refine AWP.cif hF (fun h16 hF=>?_) (fun h16 hF=>?_)
   ·refine AWP.skip ?_
    refine AWP.seq ?_
    refine AWP.block ?_
    refine .seq (.rg0 [] [(0,(slc 10 Za a0)),(1,(.sc (.func (.func 82) #[] #[]))),(5,(i64 v1)),(7,(i64 (List.length a0:Int))),(8,(i64 v1))] ?_)
    refine AWP.seq ?_
    obtain ⟨x11,h12,hF⟩:=bindb hF
    obtain ⟨r13,h14,hF⟩:=bindb hF
    refine AWP.rg0 [(3,.idx Za h12),(5,.call Tryd.func82 [] (Zeu x11 r13 h14))] [(0,(slc 10 Za a0)),(1,(.sc (.func (.func 82) #[] #[]))),(5,(i64 v1)),(7,(i64 (List.length a0:Int))),(8,(i64 v1)),(16,(vb r13))] ?_
    refine AWP.cif hF (fun h15 hF=>?_) (fun h15 hF=>?_)
    ·refine .seq (.rg0 [] [(4,(i64 v1))] ?_)
     refine AWP.ret ?_
     exact LeQ.of (.inr ⟨rfl,v1,(someb hF).symm,(FnQ.f0 0 (.inr rfl))⟩)
    ·refine AWP.skip ?_
     refine AWP.rg0 [] [(0,(slc 10 Za a0)),(1,(.sc (.func (.func 82) #[] #[]))),(7,(i64 (List.length a0:Int))),(8,(i64 (IntKind.wrap .i64 (v1 + (1:Int)))))] ?_
     refine LeQ.start ?_
     refine LeQ.pk [0,1,7,8] 0 ?_
     exact ⟨n10,Nat.lt_succ_self _,(IntKind.wrap .i64 (v1 + (1:Int))),hF,by kernel_rfl,by kernel_rfl⟩
   ·refine AWP.exit ?_
    refine LeQ.start ?_
    refine LeQ.pk [] 0 ?_
    exact (.inl ⟨rfl,(someb hF).symm,by kernel_rfl,by kernel_rfl⟩)
 ·rintro _ _ _ (⟨rfl,rfl,rfl,rfl⟩ | ⟨rfl,r17,rfl,hq⟩)
  ·refine .seq (.rg0 [] [(4,(i64 (-1:Int)))] ?_)
   refine AWP.ret ?_
   have hr:=someb hF
   subst hr
   exact (FnQ.f0 0 (.inr rfl))
  ·have hr:=someb hF
   subst hr
   exact hq
def Zek (r:(List (Arr5 api_Range))):PV→List Blk→Prop:=fun p K=>p=(slc 10 Za r)∧K=[]
theorem Zel (r:(List (Arr5 api_Range))) (hF:Zbp=some r):ACall Tryd.prog glob 80 [(slc 10 Za ([]:(List (Arr5 api_Range)))),(.sc (.func (.func 82) #[] #[]))] [] (Zek r):=by
 refine ACall.body Tryd.func80 rfl (by kernel_rfl) ?_
 unfold Zbp at hF
 refine .seq (.rg0 [] [(0,(slc 10 Za ([]:(List (Arr5 api_Range))))),(1,(.sc (.func (.func 82) #[] #[])))] ?_)
 refine AWP.seq ?_
 obtain ⟨r1,h2,hF⟩:=bindb hF
 refine AWP.rg0 [(2,.call Tryd.func86 [] (Zew ([]:(List (Arr5 api_Range))) r1 h2))] [(0,(slc 10 Za ([]:(List (Arr5 api_Range))))),(1,(.sc (.func (.func 82) #[] #[]))),(5,(i64 r1))] ?_
 refine AWP.seq ?_
 refine .seq (.rg0 [] [(0,(slc 10 Za ([]:(List (Arr5 api_Range))))),(1,(.sc (.func (.func 82) #[] #[]))),(5,(i64 r1)),(12,(vb (r1 == (-1:Int))))] ?_)
 refine AWP.cif hF (fun h34 hF=>?_) (fun h34 hF=>?_)
 ·refine .seq (.rg0 [] [(4,(slc 10 Za ([]:(List (Arr5 api_Range)))))] ?_)
  refine AWP.ret ?_
  have hr:=someb hF
  subst hr
  exact (FnQ.f0 0 (.inr rfl))
 ·refine AWP.skip ?_
  refine AWP.seq ?_
  refine .seq (.rg0 [] [(0,(slc 10 Za ([]:(List (Arr5 api_Range))))),(1,(.sc (.func (.func 82) #[] #[]))),(5,(i64 r1)),(6,(i64 (IntKind.wrap .i64 (r1 + (1:Int)))))] ?_)
  obtain ⟨v18,h19,hF⟩:=bindb hF
  refine AWP.mid (fun e st H=>e=.normal∧st=[(0,(slc 10 Za ([]:(List (Arr5 api_Range))))),(5,(i64 v18))]∧H=[]) ?_ ?_
  ·clear hF
   refine AWP.kp [0,1,5,6] 0 ?_
   refine AWP.bround (fun n st H=>∃ (v3:Int),∃ (v4:Int),Zal n v3 v4=some v18∧st=[(0,(slc 10 Za ([]:(List (Arr5 api_Range))))),(1,(.sc (.func (.func 82) #[] #[]))),(5,(i64 v3)),(6,(i64 v4))]∧H=[]) fuel ⟨r1,(IntKind.wrap .i64 (r1 + (1:Int))),h19,by kernel_rfl,by kernel_rfl⟩ ?_
   rintro n20 st H ⟨v3,v4,hF,rfl,rfl⟩
   cases n20 with
   | zero=>exact noneb hF
   | succ n20=>
    rw [Zal] at hF
    refine AWP.seq ?_
    refine .seq (.rg0 [(2,.len Za ([]:(List (Arr5 api_Range))))] [(0,(slc 10 Za ([]:(List (Arr5 api_Range))))),(1,(.sc (.func (.func 82) #[] #[]))),(5,(i64 v3)),(6,(i64 v4)),(19,(vb (decide (v4<(List.length ([]:(List (Arr5 api_Range))):Int)))))] ?_)
    refine AWP.cif hF (fun h33 hF=>?_) (fun h33 hF=>?_)
    ·refine AWP.skip ?_
     obtain ⟨o26,h27,hF⟩:=bindb hF
     refine AWP.seq ?_
     refine AWP.mid (fun e st H=>(e=.normal∧o26=()∧st=[(0,(slc 10 Za ([]:(List (Arr5 api_Range))))),(1,(.sc (.func (.func 82) #[] #[]))),(5,(i64 v3)),(6,(i64 v4))]∧H=[])) ?_ ?_
     ·clear hF
      have hF:=h27
      refine AWP.block ?_
      refine AWP.seq ?_
      obtain ⟨x28,h29,hF⟩:=bindb hF
      refine AWP.rg [(2,.idx Za h29)] [(0,(slc 10 Za ([]:(List (Arr5 api_Range))))),(1,(.sc (.func (.func 82) #[] #[]))),(5,(i64 v3)),(6,(i64 v4)),(7,(.ptr 0 0))] [.cells (Za x28)] ?_
      refine AWP.seq ?_
      obtain ⟨r30,h31,hF⟩:=bindb hF
      refine AWP.rg0 [(2,.call Tryd.func82 [] (Zeu x28 r30 h31))] [(0,(slc 10 Za ([]:(List (Arr5 api_Range))))),(1,(.sc (.func (.func 82) #[] #[]))),(5,(i64 v3)),(6,(i64 v4)),(7,(.ptr 0 0)),(29,(vb (!r30)))] ?_
      refine AWP.cif hF (fun h32 hF=>?_) (fun h32 hF=>?_)
      ·refine AWP.seq ?_
       exact noneb hF
      ·refine AWP.skip ?_
       refine LeQ.start ?_
       refine LeQ.pk [0,1,5,6] 0 ?_
       exact ⟨rfl,(someb hF).symm,by kernel_rfl,by kernel_rfl⟩
     ·rintro _ _ _ ⟨rfl,rfl,rfl,rfl⟩
      refine AWP.rg0 [] [(0,(slc 10 Za ([]:(List (Arr5 api_Range))))),(1,(.sc (.func (.func 82) #[] #[]))),(5,(i64 v3)),(6,(i64 (IntKind.wrap .i64 (v4 + (1:Int)))))] ?_
      refine LeQ.start ?_
      refine LeQ.pk [0,1,5,6] 0 ?_
      exact ⟨n20,Nat.lt_succ_self _,v3,(IntKind.wrap .i64 (v4 + (1:Int))),hF,by kernel_rfl,by kernel_rfl⟩
    ·refine AWP.exit ?_
     refine LeQ.start ?_
     refine LeQ.pk [0,5] 0 ?_
     have hr:=someb hF
     subst hr
     exact ⟨rfl,by kernel_rfl,by kernel_rfl⟩
  ·rintro _ _ _ ⟨rfl,rfl,rfl⟩
   refine AWP.seq ?_
   exact noneb hF
def Zju (r:(List (Arr5 api_Range))):PV→List Blk→Prop:=fun p K=>p=(slc 10 Za r)∧K=[]
theorem Zgf (a0:(List (Arr5 api_Range))) (r:(List (Arr5 api_Range))) (hF:Zdw a0=some r):ACall Tryd.prog glob 74 [(slc 10 Za a0)] [] (Zju r):=by
 refine ACall.body Tryd.func74 rfl (by kernel_rfl) ?_
 unfold Zdw at hF
 refine .seq (.rg0 [] [(0,(slc 10 Za a0))] ?_)
 refine AWP.seq ?_
 obtain ⟨h1,hF⟩:=chkb hF
 obtain ⟨r2,h3,hF⟩:=bindb hF
 refine AWP.rg [(1,.clone Tryd.func81 Za (fun _=>by kernel_rfl) h1),(2,.callBE (s:=10) Za Tryd.func80 (fun _=>rfl) h3 (fun h sp_=>Ze3 (List.length a0) a0 sp_ _ h) (fun h=>Zel _ h))] [(2,(slc 10 Za (List.take r2.1 r2.2)))] [bf 10 50 Za r2.2 true] ?_
 refine AWP.ret ?_
 have hr:=someb hF
 subst hr
 exact (FnQ.f0 0 (.inr rfl))
def Zjv (r:(List (Arr5 api_Range))):PV→List Blk→Prop:=fun p K=>p=(slc 10 Za r)∧K=[]
theorem Zjw (a0:Int) (a1:(List (Arr5 api_Range))) (r:(List (Arr5 api_Range))) (hF:Zep a0 a1=some r):ACall Tryd.prog glob 83 [(i64 a0),(slc 10 Za a1)] [] (Zjv r):=by
 refine ACall.body Tryd.func83 rfl (by kernel_rfl) ?_
 unfold Zep at hF
 refine .seq (.rg0 [] [(0,(i64 a0)),(1,(slc 10 Za a1))] ?_)
 refine AWP.seq ?_
 obtain ⟨h1,hF⟩:=chkb hF
 refine AWP.rg [(1,.clone Tryd.func81 Za (fun _=>by kernel_rfl) h1)] [(0,(i64 a0)),(5,(.own 0 (List.length a1)))] [bf 10 50 Za a1 false] ?_
 refine AWP.seq ?_
 refine .seq (.rg0 [(1,.len Za a1)] [(0,(i64 a0)),(5,(.own 0 (List.length a1))),(11,(i64 (List.length a1:Int))),(12,(i64 (0:Int)))] ?_)
 obtain ⟨v55,h56,hF⟩:=bindb hF
 refine AWP.mid (fun e st H=>e=.normal∧st=[(5,(.own 0 (List.length v55)))]∧H=[bf 10 50 Za v55 false]) ?_ ?_
 ·clear hF
  refine AWP.kp [0,5,11,12] 1 ?_
  refine AWP.bround (fun n st H=>∃ (v28:(List (Arr5 api_Range))),∃ (v29:Int),Zcs a0 a1 n v28 v29=some v55∧st=[(0,(i64 a0)),(5,(.own 0 (List.length v28))),(11,(i64 (List.length a1:Int))),(12,(i64 v29))]∧H=[bf 10 50 Za v28 false]) fuel ⟨a1,(0:Int),h56,by kernel_rfl,by kernel_rfl⟩ ?_
  rintro n57 st H ⟨v28,v29,hF,rfl,rfl⟩
  cases n57 with
  | zero=>exact noneb hF
  | succ n57=>
   rw [Zcs] at hF
   refine .seq (.rg0 [] [(0,(i64 a0)),(5,(.own 0 (List.length v28))),(11,(i64 (List.length a1:Int))),(12,(i64 v29)),(13,(vb (decide (v29<(List.length a1:Int)))))] ?_)
   refine AWP.seq ?_
   refine AWP.cif hF (fun h82 hF=>?_) (fun h82 hF=>?_)
   ·refine AWP.skip ?_
    refine AWP.seq ?_
    refine AWP.block ?_
    refine .seq (.rg0 [] [(0,(i64 a0)),(5,(.own 0 (List.length v28))),(6,(i64 v29)),(11,(i64 (List.length a1:Int))),(12,(i64 v29))] ?_)
    refine .seq (.rg0 [] [(0,(i64 a0)),(5,(.own 0 (List.length v28))),(6,(i64 v29)),(7,(i64 (0:Int))),(11,(i64 (List.length a1:Int))),(12,(i64 v29))] ?_)
    obtain ⟨v73,h74,hF⟩:=bindb hF
    refine AWP.mid (fun e st H=>e=.normal∧st=[(0,(i64 a0)),(5,(.own 0 (List.length v73))),(11,(i64 (List.length a1:Int))),(12,(i64 v29))]∧H=[bf 10 50 Za v73 false]) ?_ ?_
    ·clear hF
     refine AWP.kp [0,5,6,7,11,12] 1 ?_
     refine AWP.bround (fun n st H=>∃ (v65:(List (Arr5 api_Range))),∃ (v66:Int),Zbk a0 v29 n v65 v66=some v73∧st=[(0,(i64 a0)),(5,(.own 0 (List.length v65))),(6,(i64 v29)),(7,(i64 v66)),(11,(i64 (List.length a1:Int))),(12,(i64 v29))]∧H=[bf 10 50 Za v65 false]) fuel ⟨v28,(0:Int),h74,by kernel_rfl,by kernel_rfl⟩ ?_
     rintro n75 st H ⟨v65,v66,hF,rfl,rfl⟩
     cases n75 with
     | zero=>exact noneb hF
     | succ n75=>
      rw [Zbk] at hF
      refine AWP.seq ?_
      refine .seq (.rg0 [] [(0,(i64 a0)),(5,(.own 0 (List.length v65))),(6,(i64 v29)),(7,(i64 v66)),(11,(i64 (List.length a1:Int))),(12,(i64 v29)),(17,(vb (decide (v66≤a0))))] ?_)
      refine AWP.cif hF (fun h81 hF=>?_) (fun h81 hF=>?_)
      ·refine AWP.skip ?_
       refine AWP.seq ?_
       refine AWP.block ?_
       obtain ⟨x76,h77,hF⟩:=bindb hF
       obtain ⟨h78,hF⟩:=chkb hF
       refine AWP.rg [(4,.idx Za h77),(5,.ixE Za v65 v29 h78),(6,.stEd Za h77 (fun q80=>(Arr5.set x76 q80 (api_Range.mk (0:Int) (0:Int)))) 0 2 0 h78)] [(0,(i64 a0)),(5,(.own 0 (List.length v65))),(6,(i64 v29)),(7,(i64 v66)),(11,(i64 (List.length a1:Int))),(12,(i64 v29))] [bf 10 50 Za (List.set v65 (Int.toNat v29) (Arr5.set x76 v66 (api_Range.mk (0:Int) (0:Int)))) false] ?_
       rw [show ([(0,(i64 a0)),(5,(.own 0 (List.length v65))),(6,(i64 v29)),(7,(i64 v66)),(11,(i64 (List.length a1:Int))),(12,(i64 v29))]:St)=[(0,(i64 a0)),(5,(.own 0 (List.length (List.set v65 (Int.toNat v29) (Arr5.set x76 v66 (api_Range.mk (0:Int) (0:Int))))))),(6,(i64 v29)),(7,(i64 v66)),(11,(i64 (List.length a1:Int))),(12,(i64 v29))] by simp only [List.length_set]]
       refine AWP.rg0 [] [(0,(i64 a0)),(5,(.own 0 (List.length (List.set v65 (Int.toNat v29) (Arr5.set x76 v66 (api_Range.mk (0:Int) (0:Int))))))),(6,(i64 v29)),(7,(i64 (IntKind.wrap .i64 (v66 + (1:Int))))),(11,(i64 (List.length a1:Int))),(12,(i64 v29))] ?_
       refine LeQ.start ?_
       refine LeQ.pk [0,5,6,7,11,12] 1 ?_
       exact ⟨n75,Nat.lt_succ_self _,(List.set v65 (Int.toNat v29) (Arr5.set x76 v66 (api_Range.mk (0:Int) (0:Int)))),(IntKind.wrap .i64 (v66 + (1:Int))),hF,by kernel_rfl,by kernel_rfl⟩
      ·refine AWP.exit ?_
       refine LeQ.start ?_
       refine LeQ.pk [0,5,11,12] 1 ?_
       have hr:=someb hF
       subst hr
       exact ⟨rfl,by kernel_rfl,by kernel_rfl⟩
    ·rintro _ _ _ ⟨rfl,rfl,rfl⟩
     refine AWP.rg0 [] [(0,(i64 a0)),(5,(.own 0 (List.length v73))),(11,(i64 (List.length a1:Int))),(12,(i64 (IntKind.wrap .i64 (v29 + (1:Int)))))] ?_
     refine LeQ.start ?_
     refine LeQ.pk [0,5,11,12] 1 ?_
     exact ⟨n57,Nat.lt_succ_self _,v73,(IntKind.wrap .i64 (v29 + (1:Int))),hF,by kernel_rfl,by kernel_rfl⟩
   ·refine AWP.exit ?_
    refine LeQ.start ?_
    refine LeQ.pk [5] 1 ?_
    have hr:=someb hF
    subst hr
    exact ⟨rfl,by kernel_rfl,by kernel_rfl⟩
 ·rintro _ _ _ ⟨rfl,rfl,rfl⟩
  refine .seq (.rg0 [] [(4,(.own 0 (List.length v55)))] ?_)
  refine AWP.ret ?_
  have hr:=someb hF
  subst hr
  exact (FnQ.f1 0 (.inr rfl) (.inl (Wk.ownT (i:=0) (s:=10) (t:=50) (l:=v55) (sh:=false) (row:=Za) (by kernel_rfl) (.inl rfl))))
def Zfc (r:Bool):PV→List Blk→Prop:=fun p K=>p=(vb r)∧K=[]
abbrev Zg5 (r:Bool):Exit→St→List Blk→Prop:=FnQ Tryd.prog Tryd.f84.results 0 (Zfc r)
theorem Zcz (a0:(List (Arr5 api_Range))) (a1:(List (Arr5 api_Range))) (r:Bool) (hF:Zac a0 a1=some r):ACall Tryd.prog glob 84 [(slc 10 Za a0),(slc 10 Za a1)] [] (Zfc r):=by
 refine ACall.body Tryd.func84 rfl (by kernel_rfl) ?_
 unfold Zac at hF
 refine .seq (.rg0 [] [(0,(slc 10 Za a0)),(1,(slc 10 Za a1))] ?_)
 refine AWP.seq ?_
 refine .seq (.rg0 [(1,.len Za a0),(3,.len Za a1)] [(0,(slc 10 Za a0)),(1,(slc 10 Za a1)),(10,(vb ((List.length a0:Int) != (List.length a1:Int))))] ?_)
 refine AWP.cif hF (fun h18 hF=>?_) (fun h18 hF=>?_)
 ·refine .seq (.rg0 [] [(4,(vb false))] ?_)
  refine AWP.ret ?_
  have hr:=someb hF
  subst hr
  exact (FnQ.f0 0 (.inr rfl))
 ·refine AWP.skip ?_
  refine AWP.seq ?_
  refine .seq (.rg0 [(1,.len Za a0)] [(0,(slc 10 Za a0)),(1,(slc 10 Za a1)),(12,(i64 (List.length a0:Int))),(13,(i64 (0:Int)))] ?_)
  obtain ⟨o8,h9,hF⟩:=bindb hF
  refine AWP.mid (fun e st H=>(e=.normal∧o8=(.inl ())∧st=[]∧H=[])∨(e=.ret∧∃ (r:Bool),o8=(.inr r)∧Zg5 r e st H)) ?_ ?_
  ·clear hF
   refine AWP.kp [0,1,12,13] 0 ?_
   refine AWP.bround (fun n st H=>∃ (v1:Int),Zaq a0 a1 n v1=some o8∧st=[(0,(slc 10 Za a0)),(1,(slc 10 Za a1)),(12,(i64 (List.length a0:Int))),(13,(i64 v1))]∧H=[]) fuel ⟨(0:Int),h9,by kernel_rfl,by kernel_rfl⟩ ?_
   rintro n10 st H ⟨v1,hF,rfl,rfl⟩
   cases n10 with
   | zero=>exact noneb hF
   | succ n10=>
    rw [Zaq] at hF
    refine .seq (.rg0 [] [(0,(slc 10 Za a0)),(1,(slc 10 Za a1)),(12,(i64 (List.length a0:Int))),(13,(i64 v1)),(14,(vb (decide (v1<(List.length a0:Int)))))] ?_)
    refine AWP.seq ?_
    refine AWP.cif hF (fun h16 hF=>?_) (fun h16 hF=>?_)
    ·refine AWP.skip ?_
     refine AWP.seq ?_
     refine AWP.block ?_
     refine .seq (.rg0 [] [(0,(slc 10 Za a0)),(1,(slc 10 Za a1)),(5,(i64 v1)),(12,(i64 (List.length a0:Int))),(13,(i64 v1))] ?_)
     refine AWP.seq ?_
     obtain ⟨x11,h12,hF⟩:=bindb hF
     obtain ⟨x13,h14,hF⟩:=bindb hF
     refine AWP.dr [(2,.idx Za h12),(6,.idx Za h14)] 9 [] [] [] [(0,(slc 10 Za a0)),(1,(slc 10 Za a1)),(12,(i64 (List.length a0:Int))),(13,(i64 v1)),(24,(vb (!(Zfv x11 x13))))] [] ?_
     refine AWP.cif hF (fun h15 hF=>?_) (fun h15 hF=>?_)
     ·refine .seq (.rg0 [] [(4,(vb false))] ?_)
      refine AWP.ret ?_
      exact LeQ.of (.inr ⟨rfl,false,(someb hF).symm,(FnQ.f0 0 (.inr rfl))⟩)
     ·refine AWP.skip ?_
      refine AWP.rg0 [] [(0,(slc 10 Za a0)),(1,(slc 10 Za a1)),(12,(i64 (List.length a0:Int))),(13,(i64 (IntKind.wrap .i64 (v1 + (1:Int)))))] ?_
      refine LeQ.start ?_
      refine LeQ.pk [0,1,12,13] 0 ?_
      exact ⟨n10,Nat.lt_succ_self _,(IntKind.wrap .i64 (v1 + (1:Int))),hF,by kernel_rfl,by kernel_rfl⟩
    ·refine AWP.exit ?_
     refine LeQ.start ?_
     refine LeQ.pk [] 0 ?_
     exact (.inl ⟨rfl,(someb hF).symm,by kernel_rfl,by kernel_rfl⟩)
  ·rintro _ _ _ (⟨rfl,rfl,rfl,rfl⟩ | ⟨rfl,r17,rfl,hq⟩)
   ·refine .seq (.rg0 [] [(4,(vb true))] ?_)
    refine AWP.ret ?_
    have hr:=someb hF
    subst hr
    exact (FnQ.f0 0 (.inr rfl))
   ·have hr:=someb hF
    subst hr
    exact hq
def Zfu (r:Bool):PV→List Blk→Prop:=fun p K=>p=(vb r)∧K=[]
abbrev Zhh (r:Bool):Exit→St→List Blk→Prop:=FnQ Tryd.prog Tryd.f75.results 0 (Zfu r)
theorem Zir:∀ (nr:Nat) (a0:Int) (a1:(List (Arr5 api_Range))) (r:Bool) (hF:Zbd nr a0 a1=some r),ACall Tryd.prog glob 75 [(i64 a0),(slc 10 Za a1)] [] (Zfu r):=by
 intro nr
 induction nr with
 | zero=>intro a0 a1 r hF; exact noneb (by rw [Zbd] at hF; exact hF)
 | succ nr ih=>
  intro a0 a1 r hF
  refine ACall.body Tryd.func75 rfl (by kernel_rfl) ?_
  rw [Zbd] at hF
  refine .seq (.rg0 [] [(0,(i64 a0)),(1,(slc 10 Za a1))] ?_)
  refine AWP.seq ?_
  refine .seq (.rg0 [] [(0,(i64 a0)),(1,(slc 10 Za a1)),(9,(vb (a0 == (5:Int))))] ?_)
  refine AWP.cif hF (fun h240 hF=>?_) (fun h240 hF=>?_)
  ·refine .seq (.rg0 [(1,.len Za a1)] [(4,(vb (decide ((List.length a1:Int)≤(1:Int)))))] ?_)
   refine AWP.ret ?_
   have hr:=someb hF
   subst hr
   exact (FnQ.f0 0 (.inr rfl))
  ·refine AWP.skip ?_
   refine .seq (.rg [] [(0,(i64 a0)),(1,(slc 10 Za a1)),(5,(.ptr 0 0))] [.cells (Zc Zem)] ?_)
   refine AWP.seq ?_
   obtain ⟨o159,h160,hF⟩:=bindb hF
   refine AWP.mid (fun e st H=>(e=.normal∧∃ (v158:packetset_group),o159=(.inl v158)∧st=[]∧H=[.cells (Zc v158)])∨(e=.ret∧∃ (r:Bool),o159=(.inr r)∧Zhh r e st H)) ?_ ?_
   ·clear hF
    refine AWP.kp [0,1,5] 1 ?_
    refine AWP.bround (fun n st H=>∃ (v79:packetset_group),∃ (v80:(List (Arr5 api_Range))),Zbv a0 (Zbd nr) n v79 v80=some o159∧st=[(0,(i64 a0)),(1,(slc 10 Za v80)),(5,(.ptr 0 0))]∧H=[.cells (Zc v79)]) fuel ⟨Zem,a1,h160,by kernel_rfl,by kernel_rfl⟩ ?_
    rintro n161 st H ⟨v79,v80,hF,rfl,rfl⟩
    cases n161 with
    | zero=>exact noneb hF
    | succ n161=>
     rw [Zbv] at hF
     refine AWP.seq ?_
     refine .seq (.rg0 [(1,.len Za v80)] [(0,(i64 a0)),(1,(slc 10 Za v80)),(5,(.ptr 0 0)),(15,(vb (decide ((List.length v80:Int) > (0:Int)))))] ?_)
     refine AWP.cif hF (fun h238 hF=>?_) (fun h238 hF=>?_)
     ·refine AWP.skip ?_
      refine AWP.block ?_
      refine .seq (.rg0 [] [(0,(i64 a0)),(1,(slc 10 Za v80)),(5,(.ptr 0 0)),(6,(i64 (1:Int)))] ?_)
      refine AWP.seq ?_
      obtain ⟨v176,h177,hF⟩:=bindb hF
      refine AWP.mid (fun e st H=>e=.normal∧st=[(0,(i64 a0)),(1,(slc 10 Za v80)),(5,(.ptr 0 0)),(6,(i64 v176))]∧H=[.cells (Zc v79)]) ?_ ?_
      ·clear hF
       refine AWP.kp [0,1,5,6] 1 ?_
       refine AWP.bround (fun n st H=>∃ (v162:Int),Zce a0 v80 n v162=some v176∧st=[(0,(i64 a0)),(1,(slc 10 Za v80)),(5,(.ptr 0 0)),(6,(i64 v162))]∧H=[.cells (Zc v79)]) fuel ⟨(1:Int),h177,by kernel_rfl,by kernel_rfl⟩ ?_
       rintro n178 st H ⟨v162,hF,rfl,rfl⟩
       cases n178 with
       | zero=>exact noneb hF
       | succ n178=>
        rw [Zce] at hF
        refine AWP.seq ?_
        refine AWP.seq ?_
        obtain ⟨b179,h180,hF⟩:=bindb hF
        replace h180:=someb h180
        obtain ⟨v187,h188,hF⟩:=bindb hF
        refine AWP.to [(0,(i64 a0)),(1,(slc 10 Za v80)),(5,(.ptr 0 0)),(6,(i64 v162)),(33,(vb v187))] [.cells (Zc v79)] ?_ ?_
        ·cases b179 with
         | false=>
          have h189:=someb (ifF h188 rfl)
          subst h189
          exact AWP.drT [(2,.len Za v80),(4,.bool h180)] 18 [] [] []
         | true=>
          have h190:=ifT h188 rfl
          obtain ⟨x181,h182,h190⟩:=bindb h190
          obtain ⟨h183,h190⟩:=chkb h190
          obtain ⟨x184,h185,h190⟩:=bindb h190
          obtain ⟨h186,h190⟩:=chkb h190
          replace h190:=someb h190
          subst h190
          exact AWP.drT [(2,.len Za v80),(4,.bool h180),(8,.idx Za h182),(9,.ixd h183),(10,.ldA Zg (Arr5.get x181) 0 2 0 h183),(13,.idx Za h185),(14,.ixd h186),(15,.ldA Zg (Arr5.get x184) 0 2 0 h186)] 18 [] [] []
        refine AWP.cif hF (fun h191 hF=>?_) (fun h191 hF=>?_)
        ·refine AWP.skip ?_
         refine AWP.block ?_
         refine AWP.rg0 [] [(0,(i64 a0)),(1,(slc 10 Za v80)),(5,(.ptr 0 0)),(6,(i64 (IntKind.wrap .i64 (v162 + (1:Int)))))] ?_
         refine LeQ.start ?_
         refine LeQ.pk [0,1,5,6] 1 ?_
         exact ⟨n178,Nat.lt_succ_self _,(IntKind.wrap .i64 (v162 + (1:Int))),hF,by kernel_rfl,by kernel_rfl⟩
        ·refine AWP.exit ?_
         refine LeQ.start ?_
         refine LeQ.pk [0,1,5,6] 1 ?_
         have hr:=someb hF
         subst hr
         exact ⟨rfl,by kernel_rfl,by kernel_rfl⟩
      ·rintro _ _ _ ⟨rfl,rfl,rfl⟩
       refine AWP.seq ?_
       obtain ⟨x192,h193,hF⟩:=bindb hF
       obtain ⟨h194,hF⟩:=chkb hF
       obtain ⟨h195,hF⟩:=chkb hF
       obtain ⟨r196,h197,hF⟩:=bindb hF
       refine AWP.dr [(2,.idx Za h193),(3,.ixd h194),(4,.ldA Zg (Arr5.get x192) 0 2 0 h194),(8,.slice Za v80 h195),(9,.call Tryd.func83 [] (Zjw a0 (List.drop (Int.toNat (0:Int)) (List.take (Int.toNat v176) v80)) r196 h197))] 12 [] [11] [] [(0,(i64 a0)),(1,(slc 10 Za v80)),(5,(.ptr 0 0)),(6,(i64 v176)),(7,(.ptr 1 0))] [.cells (Zc v79),.cells (Zc (packetset_group.mk (Arr5.get x192 a0) r196))] ?_
       refine AWP.seq ?_
       refine AWP.seq ?_
       obtain ⟨h198,hF⟩:=chkb hF
       obtain ⟨r199,h200,hF⟩:=bindb hF
       refine AWP.rg0 [(4,.slice Za v80 h198),(5,.call Tryd.func75 [] (ih (IntKind.wrap .i64 (a0 + (1:Int))) (List.drop (Int.toNat (0:Int)) (List.take (Int.toNat v176) v80)) r199 h200))] [(0,(i64 a0)),(1,(slc 10 Za v80)),(5,(.ptr 0 0)),(6,(i64 v176)),(7,(.ptr 1 0)),(53,(vb (!r199)))] ?_
       refine AWP.cif hF (fun h237 hF=>?_) (fun h237 hF=>?_)
       ·refine .seq (.rg0 [] [(4,(vb false))] ?_)
        refine AWP.ret ?_
        exact LeQ.of (.inr ⟨rfl,false,(someb hF).symm,(FnQ.f0 0 (.inr rfl))⟩)
       ·refine AWP.skip ?_
        obtain ⟨o217,h218,hF⟩:=bindb hF
        refine AWP.seq ?_
        refine AWP.mid (fun e st H=>(e=.normal∧o217=(.inl ())∧st=[(0,(i64 a0)),(1,(slc 10 Za v80)),(5,(.ptr 0 0)),(6,(i64 v176)),(7,(.ptr 1 0))]∧H=[.cells (Zc v79),.cells (Zc (packetset_group.mk (Arr5.get x192 a0) r196))])∨(e=.ret∧∃ (r:Bool),o217=(.inr r)∧Zhh r e st H)) ?_ ?_
        ·clear hF
         have hF:=h218
         refine .seq (.rg0 [(2,.len Za v79.f_rest)] [(0,(i64 a0)),(1,(slc 10 Za v80)),(5,(.ptr 0 0)),(6,(i64 v176)),(7,(.ptr 1 0)),(57,(vb (decide ((List.length v79.f_rest:Int) > (0:Int)))))] ?_)
         refine AWP.cif hF (fun h234 hF=>?_) (fun h234 hF=>?_)
         ·refine AWP.seq ?_
          obtain ⟨b219,h220,hF⟩:=bindb hF
          replace h220:=someb h220
          obtain ⟨v227,h228,hF⟩:=bindb hF
          refine AWP.to [(0,(i64 a0)),(1,(slc 10 Za v80)),(5,(.ptr 0 0)),(6,(i64 v176)),(7,(.ptr 1 0)),(81,(vb v227))] [.cells (Zc v79),.cells (Zc (packetset_group.mk (Arr5.get x192 a0) r196))] ?_ ?_
          ·cases b219 with
           | false=>
            have h229:=ifF h228 rfl
            obtain ⟨b221,h222,h229⟩:=bindb h229
            replace h222:=someb h222
            obtain ⟨v225,h226,h229⟩:=bindb h229
            replace h229:=someb h229
            subst h229
            cases b221 with
            | false=>
             have h230:=someb (ifF h226 rfl)
             subst h230
             exact AWP.rgT [(7,.bool h220),(16,.bool h222)]
            | true=>
             have h231:=ifT h226 rfl
             obtain ⟨r223,h224,h231⟩:=bindb h231
             replace h231:=someb h231
             subst h231
             exact AWP.rgT [(7,.bool h220),(16,.bool h222),(21,.call Tryd.func84 [] (Zcz r196 v79.f_rest r223 h224))]
           | true=>
            have h232:=someb (ifT h228 rfl)
            subst h232
            exact AWP.rgT [(7,.bool h220)]
          refine AWP.cif hF (fun h233 hF=>?_) (fun h233 hF=>?_)
          ·refine .seq (.rg0 [] [(4,(vb false))] ?_)
           refine AWP.ret ?_
           exact LeQ.of (.inr ⟨rfl,false,(someb hF).symm,(FnQ.f0 0 (.inr rfl))⟩)
          ·refine AWP.skip ?_
           refine LeQ.start ?_
           refine LeQ.pk [0,1,5,6,7] 2 ?_
           exact (.inl ⟨rfl,(someb hF).symm,by kernel_rfl,by kernel_rfl⟩)
         ·refine AWP.skip ?_
          refine LeQ.start ?_
          refine LeQ.pk [0,1,5,6,7] 2 ?_
          exact (.inl ⟨rfl,(someb hF).symm,by kernel_rfl,by kernel_rfl⟩)
        ·rintro _ _ _ (⟨rfl,rfl,rfl,rfl⟩ | ⟨rfl,r236,rfl,hq⟩)
         ·obtain ⟨h235,hF⟩:=chkb hF
          refine AWP.dr [(3,.slice Za v80 h235)] 5 [] [4] [] [(0,(i64 a0)),(1,(slc 10 Za (List.drop (Int.toNat v176) (List.take (Int.toNat (List.length v80:Int)) v80)))),(5,(.ptr 0 0))] [.cells (Zc (packetset_group.mk (Arr5.get x192 a0) r196)),.cells (Zc (packetset_group.mk (Arr5.get x192 a0) r196))] ?_
          refine LeQ.start ?_
          refine LeQ.pk [0,1,5] 1 ?_
          exact ⟨n161,Nat.lt_succ_self _,(packetset_group.mk (Arr5.get x192 a0) r196),(List.drop (Int.toNat v176) (List.take (Int.toNat (List.length v80:Int)) v80)),hF,by kernel_rfl,by kernel_rfl⟩
         ·exact LeQ.of (.inr ⟨rfl,r236,(someb hF).symm,hq⟩)
     ·refine AWP.exit ?_
      refine LeQ.start ?_
      refine LeQ.pk [] 1 ?_
      exact (.inl ⟨rfl,v79,(someb hF).symm,by kernel_rfl,by kernel_rfl⟩)
   ·rintro _ _ _ (⟨rfl,v158,rfl,rfl,rfl⟩ | ⟨rfl,r239,rfl,hq⟩)
    ·refine .seq (.rg0 [] [(4,(vb true))] ?_)
     refine AWP.ret ?_
     have hr:=someb hF
     subst hr
     exact (FnQ.f0 0 (.inr rfl))
    ·have hr:=someb hF
     subst hr
     exact hq
theorem Zjd (a0:Int) (a1:(List (Arr5 api_Range))) (r:Bool) (hF:Zbd fuel a0 a1=some r):ACall Tryd.prog glob 75 [(i64 a0),(slc 10 Za a1)] [] (Zfu r):=Zir fuel a0 a1 r hF
def Zjx (r:Bool):PV→List Blk→Prop:=fun p K=>p=(vb r)∧K=[]
theorem Zhu (a0:(List (Arr5 api_Range))) (r:Bool) (hF:Zdb a0=some r):ACall Tryd.prog glob 64 [(slc 10 Za a0)] [] (Zjx r):=by
 refine ACall.body Tryd.func64 rfl (by kernel_rfl) ?_
 unfold Zdb at hF
 refine .seq (.rg0 [] [(0,(slc 10 Za a0))] ?_)
 refine AWP.seq ?_
 obtain ⟨b1,h2,hF⟩:=bindb hF
 replace h2:=someb h2
 obtain ⟨v5,h6,hF⟩:=bindb hF
 obtain ⟨b7,h8,hF⟩:=bindb hF
 replace h8:=someb h8
 obtain ⟨v11,h12,hF⟩:=bindb hF
 refine AWP.to [(2,(vb v11))] [] ?_ ?_
 ·cases b1 with
  | false=>
   have h13:=someb (ifF h6 rfl)
   subst h13
   subst h8
   have h14:=someb (ifF h12 rfl)
   subst h14
   exact AWP.rgT [(1,.len Za a0),(3,.bool h2)]
  | true=>
   have h15:=ifT h6 rfl
   obtain ⟨r3,h4,h15⟩:=bindb h15
   replace h15:=someb h15
   subst h15
   cases b7 with
   | false=>
    have h16:=someb (ifF h12 rfl)
    subst h16
    exact AWP.rgT [(1,.len Za a0),(3,.bool h2),(5,.call Tryd.func74 [] (Zgf a0 r3 h4)),(6,.len Za r3),(8,.len Za a0),(11,.bool h8)]
   | true=>
    have h17:=ifT h12 rfl
    obtain ⟨r9,h10,h17⟩:=bindb h17
    replace h17:=someb h17
    subst h17
    exact AWP.rgT [(1,.len Za a0),(3,.bool h2),(5,.call Tryd.func74 [] (Zgf a0 r3 h4)),(6,.len Za r3),(8,.len Za a0),(11,.bool h8),(13,.call Tryd.func75 [] (Zjd (0:Int) a0 r9 h10))]
 refine AWP.ret ?_
 have hr:=someb hF
 subst hr
 exact (FnQ.f0 0 (.inr rfl))
def Zjk (r:Bool):PV→List Blk→Prop:=fun p K=>p=(vb r)∧K=[]
theorem Zhk (a0:Bool) (a1:Bool) (r:Bool) (hF:Zdm a0 a1=some r):ACall Tryd.prog glob 77 [(vb a0),(vb a1)] [] (Zjk r):=by
 refine ACall.body Tryd.func77 rfl (by kernel_rfl) ?_
 unfold Zdm at hF
 refine .seq (.rg0 [] [(0,(vb a0)),(1,(vb a1))] ?_)
 refine AWP.seq ?_
 obtain ⟨b1,h2,hF⟩:=bindb hF
 replace h2:=someb h2
 refine AWP.to [(4,(vb (b1 || a1)))] [] ?_ ?_
 ·cases b1 with
  | false=>
   exact AWP.rgT [(1,.bool h2)]
  | true=>
   exact AWP.rgT [(1,.bool h2)]
 refine AWP.ret ?_
 have hr:=someb hF
 subst hr
 exact (FnQ.f0 0 (.inr rfl))
def Zlt (r:Int):PV→List Blk→Prop:=fun p K=>p=(u32 r)∧K=[]
theorem Zlu (a0:Int) (r:Int) (hF:Zie a0=some r):ACall Tryd.prog glob 89 [(i64 a0)] [] (Zlt r):=by
 refine ACall.body Tryd.func89 rfl (by kernel_rfl) ?_
 unfold Zie at hF
 refine .seq (.rg0 [] [(0,(i64 a0))] ?_)
 refine AWP.seq ?_
 refine AWP.seq ?_
 obtain ⟨b1,h2,hF⟩:=bindb hF
 replace h2:=someb h2
 refine AWP.to [(0,(i64 a0)),(8,(vb (b1 || (decide (a0 ≥ (5:Int))))))] [] ?_ ?_
 ·cases b1 with
  | false=>
   exact AWP.rgT [(2,.bool h2)]
  | true=>
   exact AWP.rgT [(2,.bool h2)]
 refine AWP.cif hF (fun h4 hF=>?_) (fun h4 hF=>?_)
 ·refine .seq (.rg0 [] [(2,(u32 (0:Int)))] ?_)
  refine AWP.ret ?_
  have hr:=someb hF
  subst hr
  exact (FnQ.f0 0 (.inr rfl))
 ·refine AWP.skip ?_
  refine AWP.seq ?_
  obtain ⟨h3,hF⟩:=chkb hF
  refine AWP.rg0 [(1,.ixd h3),(2,.ldA Zdd (Arr5.get Zaf) 0 1 0 h3)] [(2,(u32 (Arr5.get Zaf a0)))] ?_
  refine AWP.ret ?_
  have hr:=someb hF
  subst hr
  exact (FnQ.f0 0 (.inr rfl))
def Zjy (r:Int):PV→List Blk→Prop:=fun p K=>p=(i64 r)∧K=[]
theorem Zjz (a0:Int) (r:Int) (hF:Zfk a0=some r):ACall Tryd.prog glob 104 [(u64 a0)] [] (Zjy r):=by
 refine ACall.body Tryd.func104 rfl (by kernel_rfl) ?_
 unfold Zfk at hF
 refine .seq (.rg0 [] [(0,(u64 a0)),(2,(i64 (0:Int)))] ?_)
 obtain ⟨o4,h5,hF⟩:=bindb hF
 refine AWP.seq ?_
 refine AWP.mid (fun e st H=>(e=.normal∧∃ (v2:Int),∃ (v3:Int),o4=(v2,v3)∧st=[(0,(u64 v2)),(2,(i64 v3))]∧H=[])) ?_ ?_
 ·clear hF
  have hF:=h5
  refine .seq (.rg0 [] [(0,(u64 a0)),(2,(i64 (0:Int))),(4,(vb (decide (a0 ≥ (4294967296:Int)))))] ?_)
  refine AWP.cif hF (fun h6 hF=>?_) (fun h6 hF=>?_)
  ·refine .seq (.rg0 [] [(0,(u64 (bShr .u64 a0 (32:Int))))] ?_)
   refine AWP.rg0 [] [(0,(u64 (bShr .u64 a0 (32:Int)))),(2,(i64 (32:Int)))] ?_
   refine LeQ.start ?_
   refine LeQ.pk [0,2] 0 ?_
   exact ⟨rfl,(bShr .u64 a0 (32:Int)),(32:Int),(someb hF).symm,by kernel_rfl,by kernel_rfl⟩
  ·refine AWP.skip ?_
   refine LeQ.start ?_
   refine LeQ.pk [0,2] 0 ?_
   exact ⟨rfl,a0,(0:Int),(someb hF).symm,by kernel_rfl,by kernel_rfl⟩
 ·rintro _ _ _ ⟨rfl,v2,v3,rfl,rfl,rfl⟩
  obtain ⟨o10,h11,hF⟩:=bindb hF
  refine AWP.seq ?_
  refine AWP.mid (fun e st H=>(e=.normal∧∃ (v8:Int),∃ (v9:Int),o10=(v8,v9)∧st=[(0,(u64 v8)),(2,(i64 v9))]∧H=[])) ?_ ?_
  ·clear hF
   have hF:=h11
   refine .seq (.rg0 [] [(0,(u64 v2)),(2,(i64 v3)),(8,(vb (decide (v2 ≥ (65536:Int)))))] ?_)
   refine AWP.cif hF (fun h12 hF=>?_) (fun h12 hF=>?_)
   ·refine .seq (.rg0 [] [(0,(u64 (bShr .u64 v2 (16:Int)))),(2,(i64 v3))] ?_)
    refine AWP.rg0 [] [(0,(u64 (bShr .u64 v2 (16:Int)))),(2,(i64 (IntKind.wrap .i64 (v3 + (16:Int)))))] ?_
    refine LeQ.start ?_
    refine LeQ.pk [0,2] 0 ?_
    exact ⟨rfl,(bShr .u64 v2 (16:Int)),(IntKind.wrap .i64 (v3 + (16:Int))),(someb hF).symm,by kernel_rfl,by kernel_rfl⟩
   ·refine AWP.skip ?_
    refine LeQ.start ?_
    refine LeQ.pk [0,2] 0 ?_
    exact ⟨rfl,v2,v3,(someb hF).symm,by kernel_rfl,by kernel_rfl⟩
  ·rintro _ _ _ ⟨rfl,v8,v9,rfl,rfl,rfl⟩
   obtain ⟨o16,h17,hF⟩:=bindb hF
   refine AWP.seq ?_
   refine AWP.mid (fun e st H=>(e=.normal∧∃ (v14:Int),∃ (v15:Int),o16=(v14,v15)∧st=[(0,(u64 v14)),(2,(i64 v15))]∧H=[])) ?_ ?_
   ·clear hF
    have hF:=h17
    refine .seq (.rg0 [] [(0,(u64 v8)),(2,(i64 v9)),(14,(vb (decide (v8 ≥ (256:Int)))))] ?_)
    refine AWP.cif hF (fun h18 hF=>?_) (fun h18 hF=>?_)
    ·refine .seq (.rg0 [] [(0,(u64 (bShr .u64 v8 (8:Int)))),(2,(i64 v9))] ?_)
     refine AWP.rg0 [] [(0,(u64 (bShr .u64 v8 (8:Int)))),(2,(i64 (IntKind.wrap .i64 (v9 + (8:Int)))))] ?_
     refine LeQ.start ?_
     refine LeQ.pk [0,2] 0 ?_
     exact ⟨rfl,(bShr .u64 v8 (8:Int)),(IntKind.wrap .i64 (v9 + (8:Int))),(someb hF).symm,by kernel_rfl,by kernel_rfl⟩
    ·refine AWP.skip ?_
     refine LeQ.start ?_
     refine LeQ.pk [0,2] 0 ?_
     exact ⟨rfl,v8,v9,(someb hF).symm,by kernel_rfl,by kernel_rfl⟩
   ·rintro _ _ _ ⟨rfl,v14,v15,rfl,rfl,rfl⟩
    refine AWP.seq ?_
    obtain ⟨x19,h20,hF⟩:=bindb hF
    refine AWP.rg0 [(3,.str h20)] [(2,(i64 (IntKind.wrap .i64 (v15 + (IntKind.wrap .i64 x19)))))] ?_
    refine AWP.ret ?_
    have hr:=someb hF
    subst hr
    exact (FnQ.f0 0 (.inr rfl))
def Zkk (r:Int):PV→List Blk→Prop:=fun p K=>p=(i64 r)∧K=[]
theorem Zif (a0:Int) (r:Int) (hF:Zeh a0=some r):ACall Tryd.prog glob 93 [(u64 a0)] [] (Zkk r):=by
 refine ACall.body Tryd.func93 rfl (by kernel_rfl) ?_
 unfold Zeh at hF
 refine .seq (.rg0 [] [(0,(u64 a0))] ?_)
 refine AWP.seq ?_
 refine AWP.cF ?_
 refine AWP.skip ?_
 refine AWP.seq ?_
 obtain ⟨r1,h2,hF⟩:=bindb hF
 refine AWP.rg0 [(1,.call Tryd.func104 [] (Zjz a0 r1 h2))] [(2,(i64 r1))] ?_
 refine AWP.ret ?_
 have hr:=someb hF
 subst hr
 exact (FnQ.f0 0 (.inr rfl))
def Zjl (r:Bool):PV→List Blk→Prop:=fun p K=>p=(vb r)∧K=[]
theorem Zef (a0:Int) (r:Bool) (hF:Zeb a0=some r):ACall Tryd.prog glob 110 [(u64 a0)] [] (Zjl r):=by
 refine ACall.body Tryd.func110 rfl (by kernel_rfl) ?_
 unfold Zeb at hF
 refine .seq (.rg0 [] [(0,(u64 a0))] ?_)
 refine .seq (.rg0 [] [(2,(vb (a0 != a0)))] ?_)
 refine AWP.ret ?_
 have hr:=someb hF
 subst hr
 exact (FnQ.f0 0 (.inr rfl))
def Zj0 (r:Bool):PV→List Blk→Prop:=fun p K=>p=(vb r)∧K=[]
theorem Zav (a0:Int) (a1:Int) (r:Bool) (hF:Z1 a0 a1=some r):ACall Tryd.prog glob 100 [(u64 a0),(u64 a1)] [] (Zj0 r):=by
 refine ACall.body Tryd.func100 rfl (by kernel_rfl) ?_
 unfold Z1 at hF
 refine .seq (.rg0 [] [(0,(u64 a0)),(1,(u64 a1))] ?_)
 refine AWP.seq ?_
 obtain ⟨r1,h2,hF⟩:=bindb hF
 obtain ⟨b3,h4,hF⟩:=bindb hF
 replace h4:=someb h4
 obtain ⟨v7,h8,hF⟩:=bindb hF
 obtain ⟨b9,h10,hF⟩:=bindb hF
 replace h10:=someb h10
 refine AWP.to [(4,(vb (b9 || (decide (a0<a1)))))] [] ?_ ?_
 ·cases b3 with
  | false=>
   have h11:=someb (ifF h8 rfl)
   subst h11
   subst h10
   exact AWP.rgT [(1,.call Tryd.func110 [] (Zef a0 r1 h2)),(2,.bool h4)]
  | true=>
   have h12:=ifT h8 rfl
   obtain ⟨r5,h6,h12⟩:=bindb h12
   replace h12:=someb h12
   subst h12
   cases b9 with
   | false=>
    exact AWP.rgT [(1,.call Tryd.func110 [] (Zef a0 r1 h2)),(2,.bool h4),(4,.call Tryd.func110 [] (Zef a1 r5 h6)),(7,.bool h10)]
   | true=>
    exact AWP.rgT [(1,.call Tryd.func110 [] (Zef a0 r1 h2)),(2,.bool h4),(4,.call Tryd.func110 [] (Zef a1 r5 h6)),(7,.bool h10)]
 refine AWP.ret ?_
 have hr:=someb hF
 subst hr
 exact (FnQ.f0 0 (.inr rfl))
def Zf1 (s0:List Value) (r:(List Int)):PV→List Blk→Prop:=fun p K=>p=(.tup [])∧K=[.cells (cel Zb r s0)]
theorem Zf2 (a0:Nat) (a1:(List Int)) (s0:List Value) (a2:Int) (a3:Int) (r:(List Int)) (hF:Zbn a0 a1 a2 a3=some r):ACall Tryd.prog glob 94 [(.vw 0 0 a0),(i64 a2),(i64 a3)] [.cells (cel Zb a1 s0)] (Zf1 s0 r):=by
 refine ACall.body Tryd.func94 rfl (by kernel_rfl) ?_
 unfold Zbn at hF
 refine .seq (.rg0 [] [(0,(.vw 0 0 a0)),(1,(i64 a2)),(2,(i64 a3)),(6,(i64 (IntKind.wrap .i64 (a2 + (1:Int)))))] ?_)
 obtain ⟨v144,h145,hF⟩:=bindb hF
 refine AWP.mid (fun e st H=>e=.normal∧st=[]∧H=[.cells (cel Zb v144 s0)]) ?_ ?_
 ·clear hF
  refine AWP.kp [0,1,2,6] 1 ?_
  refine AWP.bround (fun n st H=>∃ (v72:(List Int)),∃ (v73:Int),Z9 a0 a2 a3 n v72 v73=some v144∧st=[(0,(.vw 0 0 a0)),(1,(i64 a2)),(2,(i64 a3)),(6,(i64 v73))]∧H=[.cells (cel Zb v72 s0)]) fuel ⟨a1,(IntKind.wrap .i64 (a2 + (1:Int))),h145,by kernel_rfl,by kernel_rfl⟩ ?_
  rintro n146 st H ⟨v72,v73,hF,rfl,rfl⟩
  cases n146 with
  | zero=>exact noneb hF
  | succ n146=>
   rw [Z9] at hF
   refine AWP.seq ?_
   refine .seq (.rg0 [] [(0,(.vw 0 0 a0)),(1,(i64 a2)),(2,(i64 a3)),(6,(i64 v73)),(12,(vb (decide (v73<a3))))] ?_)
   refine AWP.cif hF (fun h216 hF=>?_) (fun h216 hF=>?_)
   ·refine AWP.skip ?_
    refine AWP.seq ?_
    refine AWP.block ?_
    refine .seq (.rg0 [] [(0,(.vw 0 0 a0)),(1,(i64 a2)),(2,(i64 a3)),(6,(i64 v73)),(7,(i64 v73))] ?_)
    obtain ⟨v192,h193,hF⟩:=bindb hF
    refine AWP.mid (fun e st H=>e=.normal∧st=[(0,(.vw 0 0 a0)),(1,(i64 a2)),(2,(i64 a3)),(6,(i64 v73))]∧H=[.cells (cel Zb v192 s0)]) ?_ ?_
    ·clear hF
     refine AWP.kp [0,1,2,6,7] 1 ?_
     refine AWP.bround (fun n st H=>∃ (v169:(List Int)),∃ (v170:Int),Z8 a0 a2 n v169 v170=some v192∧st=[(0,(.vw 0 0 a0)),(1,(i64 a2)),(2,(i64 a3)),(6,(i64 v73)),(7,(i64 v170))]∧H=[.cells (cel Zb v169 s0)]) fuel ⟨v72,v73,h193,by kernel_rfl,by kernel_rfl⟩ ?_
     rintro n194 st H ⟨v169,v170,hF,rfl,rfl⟩
     cases n194 with
     | zero=>exact noneb hF
     | succ n194=>
      rw [Z8] at hF
      refine AWP.seq ?_
      refine AWP.seq ?_
      obtain ⟨b195,h196,hF⟩:=bindb hF
      replace h196:=someb h196
      obtain ⟨v203,h204,hF⟩:=bindb hF
      refine AWP.to [(0,(.vw 0 0 a0)),(1,(i64 a2)),(2,(i64 a3)),(6,(i64 v73)),(7,(i64 v170)),(30,(vb v203))] [.cells (cel Zb v169 s0)] ?_ ?_
      ·cases b195 with
       | false=>
        have h205:=someb (ifF h204 rfl)
        subst h205
        exact AWP.drT [(3,.bool h196)] 15 [] [] []
       | true=>
        have h206:=ifT h204 rfl
        obtain ⟨x197,h198,h206⟩:=bindb h206
        obtain ⟨x199,h200,h206⟩:=bindb h206
        obtain ⟨r201,h202,h206⟩:=bindb h206
        replace h206:=someb h206
        subst h206
        exact AWP.drT [(3,.bool h196),(6,.idxV (idxn_lt h198)),(7,.ldV Zb (s:=1) (fun _=>rfl) s0 (idxn_idx h198) (0 + Int.toNat v170 * 1) (Nat.zero_add _) []),(11,.idxV (idxn_lt h200)),(12,.ldV Zb (s:=1) (fun _=>rfl) s0 (idxn_idx h200) (0 + Int.toNat (IntKind.wrap .i64 (v170 - (1:Int))) * 1) (Nat.zero_add _) []),(13,.call Tryd.func100 [] (Zav x197 x199 r201 h202))] 15 [] [] []
      refine AWP.cif hF (fun h215 hF=>?_) (fun h215 hF=>?_)
      ·refine AWP.skip ?_
       refine AWP.seq ?_
       refine AWP.block ?_
       obtain ⟨x207,h208,hF⟩:=bindb hF
       obtain ⟨x209,h210,hF⟩:=bindb hF
       obtain ⟨x211,h212,hF⟩:=bindb hF
       obtain ⟨x213,h214,hF⟩:=bindb hF
       refine AWP.dr [(8,.idxV (idxn_lt h208)),(9,.ldV Zb (s:=1) (fun _=>rfl) s0 (idxn_idx h208) (0 + Int.toNat (IntKind.wrap .i64 (v170 - (1:Int))) * 1) (Nat.zero_add _) []),(12,.idxV (idxn_lt h210)),(13,.ldV Zb (s:=1) (fun _=>rfl) s0 (idxn_idx h210) (0 + Int.toNat v170 * 1) (Nat.zero_add _) []),(14,.idxV (idxn_lt h212)),(15,.stV Zb (s:=1) (fun _=>rfl) s0 (idxn_idx h212) x207 (0 + Int.toNat v170 * 1) (Nat.zero_add _) []),(16,.idxV (idxn_lt h214)),(17,.stV Zb (s:=1) (fun _=>rfl) s0 (idxn_idx h214) x209 (0 + Int.toNat (IntKind.wrap .i64 (v170 - (1:Int))) * 1) (Nat.zero_add _) [])] 16 [] [15] [] [(0,(.vw 0 0 a0)),(1,(i64 a2)),(2,(i64 a3)),(6,(i64 v73)),(7,(i64 v170))] [.cells (cel Zb (List.set (List.set v169 (Int.toNat v170) x207) (Int.toNat (IntKind.wrap .i64 (v170 - (1:Int)))) x209) s0)] ?_
       refine AWP.rg0 [] [(0,(.vw 0 0 a0)),(1,(i64 a2)),(2,(i64 a3)),(6,(i64 v73)),(7,(i64 (IntKind.wrap .i64 (v170 - (1:Int)))))] ?_
       refine LeQ.start ?_
       refine LeQ.pk [0,1,2,6,7] 1 ?_
       exact ⟨n194,Nat.lt_succ_self _,(List.set (List.set v169 (Int.toNat v170) x207) (Int.toNat (IntKind.wrap .i64 (v170 - (1:Int)))) x209),(IntKind.wrap .i64 (v170 - (1:Int))),hF,by kernel_rfl,by kernel_rfl⟩
      ·refine AWP.exit ?_
       refine LeQ.start ?_
       refine LeQ.pk [0,1,2,6] 1 ?_
       have hr:=someb hF
       subst hr
       exact ⟨rfl,by kernel_rfl,by kernel_rfl⟩
    ·rintro _ _ _ ⟨rfl,rfl,rfl⟩
     refine AWP.rg0 [] [(0,(.vw 0 0 a0)),(1,(i64 a2)),(2,(i64 a3)),(6,(i64 (IntKind.wrap .i64 (v73 + (1:Int)))))] ?_
     refine LeQ.start ?_
     refine LeQ.pk [0,1,2,6] 1 ?_
     exact ⟨n146,Nat.lt_succ_self _,v192,(IntKind.wrap .i64 (v73 + (1:Int))),hF,by kernel_rfl,by kernel_rfl⟩
   ·refine AWP.exit ?_
    refine LeQ.start ?_
    refine LeQ.pk [] 1 ?_
    have hr:=someb hF
    subst hr
    exact ⟨rfl,by kernel_rfl,by kernel_rfl⟩
 ·rintro _ _ _ ⟨rfl,rfl,rfl⟩
  have hr:=someb hF
  subst hr
  exact (FnQ.f0 1 (.inl rfl))
def Zez (s0:List Value) (r:(List Int)):PV→List Blk→Prop:=fun p K=>p=(.tup [])∧K=[.cells (cel Zb r s0)]
abbrev Zgv (s0:List Value) (r:(List Int)):Exit→St→List Blk→Prop:=FnQ Tryd.prog Tryd.f105.results 1 (Zez s0 r)
theorem Ze0 (a0:Nat) (a1:(List Int)) (s0:List Value) (a2:Int) (a3:Int) (a4:Int) (r:(List Int)) (hF:Zbm a0 a1 a2 a3 a4=some r):ACall Tryd.prog glob 105 [(.vw 0 0 a0),(i64 a2),(i64 a3),(i64 a4)] [.cells (cel Zb a1 s0)] (Zez s0 r):=by
 refine ACall.body Tryd.func105 rfl (by kernel_rfl) ?_
 unfold Zbm at hF
 refine .seq (.rg0 [] [(0,(.vw 0 0 a0)),(2,(i64 a3)),(3,(i64 a4)),(8,(i64 a2))] ?_)
 obtain ⟨o93,h94,hF⟩:=bindb hF
 refine AWP.mid (fun e st H=>(e=.normal∧∃ (v92:(List Int)),o93=(.inl v92)∧st=[]∧H=[.cells (cel Zb v92 s0)])∨(e=.ret∧∃ (r:(List Int)),o93=(.inr r)∧Zgv s0 r e st H)) ?_ ?_
 ·clear hF
  refine AWP.kp [0,2,3,8] 1 ?_
  refine AWP.bround (fun n st H=>∃ (v46:(List Int)),∃ (v47:Int),Z4 a0 a3 a4 n v46 v47=some o93∧st=[(0,(.vw 0 0 a0)),(2,(i64 a3)),(3,(i64 a4)),(8,(i64 v47))]∧H=[.cells (cel Zb v46 s0)]) fuel ⟨a1,a2,h94,by kernel_rfl,by kernel_rfl⟩ ?_
  rintro n95 st H ⟨v46,v47,hF,rfl,rfl⟩
  cases n95 with
  | zero=>exact noneb hF
  | succ n95=>
   rw [Z4] at hF
   refine AWP.block ?_
   refine .seq (.rg0 [] [(0,(.vw 0 0 a0)),(2,(i64 a3)),(3,(i64 a4)),(8,(i64 v47)),(9,(i64 (IntKind.wrap .i64 ((IntKind.wrap .i64 ((2:Int) * v47)) + (1:Int)))))] ?_)
   refine AWP.seq ?_
   refine .seq (.rg0 [] [(0,(.vw 0 0 a0)),(2,(i64 a3)),(3,(i64 a4)),(8,(i64 v47)),(9,(i64 (IntKind.wrap .i64 ((IntKind.wrap .i64 ((2:Int) * v47)) + (1:Int))))),(16,(vb (decide ((IntKind.wrap .i64 ((IntKind.wrap .i64 ((2:Int) * v47)) + (1:Int))) ≥ a3))))] ?_)
   refine AWP.cif hF (fun h139 hF=>?_) (fun h139 hF=>?_)
   ·refine AWP.exit ?_
    refine LeQ.start ?_
    refine LeQ.pk [] 1 ?_
    exact (.inl ⟨rfl,v46,(someb hF).symm,by kernel_rfl,by kernel_rfl⟩)
   ·refine AWP.skip ?_
    obtain ⟨v109,h110,hF⟩:=bindb hF
    refine AWP.seq ?_
    refine AWP.mid (fun e st H=>e=.normal∧st=[(0,(.vw 0 0 a0)),(2,(i64 a3)),(3,(i64 a4)),(8,(i64 v47)),(9,(i64 v109))]∧H=[.cells (cel Zb v46 s0)]) ?_ ?_
    ·clear hF
     have hF:=h110
     refine AWP.seq ?_
     obtain ⟨b111,h112,hF⟩:=bindb hF
     replace h112:=someb h112
     obtain ⟨v119,h120,hF⟩:=bindb hF
     refine AWP.to [(0,(.vw 0 0 a0)),(2,(i64 a3)),(3,(i64 a4)),(8,(i64 v47)),(9,(i64 (IntKind.wrap .i64 ((IntKind.wrap .i64 ((2:Int) * v47)) + (1:Int))))),(36,(vb v119))] [.cells (cel Zb v46 s0)] ?_ ?_
     ·cases b111 with
      | false=>
       have h121:=someb (ifF h120 rfl)
       subst h121
       exact AWP.drT [(4,.bool h112)] 20 [] [] []
      | true=>
       have h122:=ifT h120 rfl
       obtain ⟨x113,h114,h122⟩:=bindb h122
       obtain ⟨x115,h116,h122⟩:=bindb h122
       obtain ⟨r117,h118,h122⟩:=bindb h122
       replace h122:=someb h122
       subst h122
       exact AWP.drT [(4,.bool h112),(9,.idxV (idxn_lt h114)),(10,.ldV Zb (s:=1) (fun _=>rfl) s0 (idxn_idx h114) (0 + Int.toNat (IntKind.wrap .i64 (a4 + (IntKind.wrap .i64 ((IntKind.wrap .i64 ((2:Int) * v47)) + (1:Int))))) * 1) (Nat.zero_add _) []),(16,.idxV (idxn_lt h116)),(17,.ldV Zb (s:=1) (fun _=>rfl) s0 (idxn_idx h116) (0 + Int.toNat (IntKind.wrap .i64 ((IntKind.wrap .i64 (a4 + (IntKind.wrap .i64 ((IntKind.wrap .i64 ((2:Int) * v47)) + (1:Int))))) + (1:Int))) * 1) (Nat.zero_add _) []),(18,.call Tryd.func100 [] (Zav x113 x115 r117 h118))] 20 [] [] []
     refine AWP.cif hF (fun h123 hF=>?_) (fun h123 hF=>?_)
     ·refine AWP.rg0 [] [(0,(.vw 0 0 a0)),(2,(i64 a3)),(3,(i64 a4)),(8,(i64 v47)),(9,(i64 (IntKind.wrap .i64 ((IntKind.wrap .i64 ((IntKind.wrap .i64 ((2:Int) * v47)) + (1:Int))) + (1:Int)))))] ?_
      refine LeQ.start ?_
      refine LeQ.pk [0,2,3,8,9] 1 ?_
      have hr:=someb hF
      subst hr
      exact ⟨rfl,by kernel_rfl,by kernel_rfl⟩
     ·refine AWP.skip ?_
      refine LeQ.start ?_
      refine LeQ.pk [0,2,3,8,9] 1 ?_
      have hr:=someb hF
      subst hr
      exact ⟨rfl,by kernel_rfl,by kernel_rfl⟩
    ·rintro _ _ _ ⟨rfl,rfl,rfl⟩
     refine AWP.seq ?_
     refine AWP.seq ?_
     obtain ⟨x124,h125,hF⟩:=bindb hF
     obtain ⟨x126,h127,hF⟩:=bindb hF
     obtain ⟨r128,h129,hF⟩:=bindb hF
     refine AWP.dr [(4,.idxV (idxn_lt h125)),(5,.ldV Zb (s:=1) (fun _=>rfl) s0 (idxn_idx h125) (0 + Int.toNat (IntKind.wrap .i64 (a4 + v47)) * 1) (Nat.zero_add _) []),(10,.idxV (idxn_lt h127)),(11,.ldV Zb (s:=1) (fun _=>rfl) s0 (idxn_idx h127) (0 + Int.toNat (IntKind.wrap .i64 (a4 + v109)) * 1) (Nat.zero_add _) []),(12,.call Tryd.func100 [] (Zav x124 x126 r128 h129))] 14 [] [] [] [(0,(.vw 0 0 a0)),(2,(i64 a3)),(3,(i64 a4)),(8,(i64 v47)),(9,(i64 v109)),(52,(vb (!r128)))] [.cells (cel Zb v46 s0)] ?_
     refine AWP.cif hF (fun h138 hF=>?_) (fun h138 hF=>?_)
     ·refine AWP.ret ?_
      exact LeQ.of (.inr ⟨rfl,v46,(someb hF).symm,(FnQ.f0 1 (.inr rfl))⟩)
     ·refine AWP.skip ?_
      refine AWP.seq ?_
      obtain ⟨x130,h131,hF⟩:=bindb hF
      obtain ⟨x132,h133,hF⟩:=bindb hF
      obtain ⟨x134,h135,hF⟩:=bindb hF
      obtain ⟨x136,h137,hF⟩:=bindb hF
      refine AWP.dr [(12,.idxV (idxn_lt h131)),(13,.ldV Zb (s:=1) (fun _=>rfl) s0 (idxn_idx h131) (0 + Int.toNat (IntKind.wrap .i64 (a4 + v109)) * 1) (Nat.zero_add _) []),(18,.idxV (idxn_lt h133)),(19,.ldV Zb (s:=1) (fun _=>rfl) s0 (idxn_idx h133) (0 + Int.toNat (IntKind.wrap .i64 (a4 + v47)) * 1) (Nat.zero_add _) []),(20,.idxV (idxn_lt h135)),(21,.stV Zb (s:=1) (fun _=>rfl) s0 (idxn_idx h135) x130 (0 + Int.toNat (IntKind.wrap .i64 (a4 + v47)) * 1) (Nat.zero_add _) []),(22,.idxV (idxn_lt h137)),(23,.stV Zb (s:=1) (fun _=>rfl) s0 (idxn_idx h137) x132 (0 + Int.toNat (IntKind.wrap .i64 (a4 + v109)) * 1) (Nat.zero_add _) [])] 22 [] [21] [] [(0,(.vw 0 0 a0)),(2,(i64 a3)),(3,(i64 a4)),(9,(i64 v109))] [.cells (cel Zb (List.set (List.set v46 (Int.toNat (IntKind.wrap .i64 (a4 + v47))) x130) (Int.toNat (IntKind.wrap .i64 (a4 + v109))) x132) s0)] ?_
      refine AWP.rg0 [] [(0,(.vw 0 0 a0)),(2,(i64 a3)),(3,(i64 a4)),(8,(i64 v109))] ?_
      refine LeQ.start ?_
      refine LeQ.pk [0,2,3,8] 1 ?_
      exact ⟨n95,Nat.lt_succ_self _,(List.set (List.set v46 (Int.toNat (IntKind.wrap .i64 (a4 + v47))) x130) (Int.toNat (IntKind.wrap .i64 (a4 + v109))) x132),v109,hF,by kernel_rfl,by kernel_rfl⟩
 ·rintro _ _ _ (⟨rfl,v92,rfl,rfl,rfl⟩ | ⟨rfl,r140,rfl,hq⟩)
  ·have hr:=someb hF
   subst hr
   exact (FnQ.f0 1 (.inl rfl))
  ·have hr:=someb hF
   subst hr
   exact hq
def Zgw (s0:List Value) (r:(List Int)):PV→List Blk→Prop:=fun p K=>p=(.tup [])∧K=[.cells (cel Zb r s0)]
theorem Zgx (a0:Nat) (a1:(List Int)) (s0:List Value) (a2:Int) (a3:Int) (r:(List Int)) (hF:Zb3 a0 a1 a2 a3=some r):ACall Tryd.prog glob 95 [(.vw 0 0 a0),(i64 a2),(i64 a3)] [.cells (cel Zb a1 s0)] (Zgw s0 r):=by
 refine ACall.body Tryd.func95 rfl (by kernel_rfl) ?_
 unfold Zb3 at hF
 refine .seq (.rg0 [] [(0,(.vw 0 0 a0)),(1,(i64 a2)),(2,(i64 a3)),(6,(i64 a2))] ?_)
 refine .seq (.rg0 [] [(0,(.vw 0 0 a0)),(1,(i64 a2)),(2,(i64 a3)),(6,(i64 a2)),(7,(i64 (0:Int)))] ?_)
 refine .seq (.rg0 [] [(0,(.vw 0 0 a0)),(6,(i64 a2)),(7,(i64 (0:Int))),(8,(i64 (IntKind.wrap .i64 (a3 - a2))))] ?_)
 refine AWP.seq ?_
 refine .seq (.rg0 [] [(0,(.vw 0 0 a0)),(6,(i64 a2)),(7,(i64 (0:Int))),(8,(i64 (IntKind.wrap .i64 (a3 - a2)))),(9,(i64 (IntKind.wrap .i64 (Int.tdiv (IntKind.wrap .i64 ((IntKind.wrap .i64 (a3 - a2)) - (1:Int))) (2:Int)))))] ?_)
 obtain ⟨v10,h11,hF⟩:=bindb hF
 refine AWP.mid (fun e st H=>e=.normal∧st=[(0,(.vw 0 0 a0)),(6,(i64 a2)),(7,(i64 (0:Int))),(8,(i64 (IntKind.wrap .i64 (a3 - a2))))]∧H=[.cells (cel Zb v10 s0)]) ?_ ?_
 ·clear hF
  refine AWP.kp [0,6,7,8,9] 1 ?_
  refine AWP.bround (fun n st H=>∃ (v5:(List Int)),∃ (v6:Int),Zam a0 a2 a3 n v5 v6=some v10∧st=[(0,(.vw 0 0 a0)),(6,(i64 a2)),(7,(i64 (0:Int))),(8,(i64 (IntKind.wrap .i64 (a3 - a2)))),(9,(i64 v6))]∧H=[.cells (cel Zb v5 s0)]) fuel ⟨a1,(IntKind.wrap .i64 (Int.tdiv (IntKind.wrap .i64 ((IntKind.wrap .i64 (a3 - a2)) - (1:Int))) (2:Int))),h11,by kernel_rfl,by kernel_rfl⟩ ?_
  rintro n12 st H ⟨v5,v6,hF,rfl,rfl⟩
  cases n12 with
  | zero=>exact noneb hF
  | succ n12=>
   rw [Zam] at hF
   refine AWP.seq ?_
   refine .seq (.rg0 [] [(0,(.vw 0 0 a0)),(6,(i64 a2)),(7,(i64 (0:Int))),(8,(i64 (IntKind.wrap .i64 (a3 - a2)))),(9,(i64 v6)),(19,(vb (decide (v6 ≥ (0:Int)))))] ?_)
   refine AWP.cif hF (fun h15 hF=>?_) (fun h15 hF=>?_)
   ·refine AWP.skip ?_
    refine AWP.seq ?_
    refine AWP.block ?_
    obtain ⟨r13,h14,hF⟩:=bindb hF
    refine AWP.rg [(4,.callC Tryd.func105 [] (closedH.c (cel_closed (row:=Zb) (fun _=>rfl) v5 s0) closedH.n) (closedH.c (cel_closed (row:=Zb) (fun _=>rfl) r13 s0) closedH.n) (Ze0 a0 v5 s0 v6 (IntKind.wrap .i64 (a3 - a2)) a2 r13 h14))] [(0,(.vw 0 0 a0)),(6,(i64 a2)),(7,(i64 (0:Int))),(8,(i64 (IntKind.wrap .i64 (a3 - a2)))),(9,(i64 v6))] [.cells (cel Zb r13 s0)] ?_
    refine AWP.rg0 [] [(0,(.vw 0 0 a0)),(6,(i64 a2)),(7,(i64 (0:Int))),(8,(i64 (IntKind.wrap .i64 (a3 - a2)))),(9,(i64 (IntKind.wrap .i64 (v6 - (1:Int)))))] ?_
    refine LeQ.start ?_
    refine LeQ.pk [0,6,7,8,9] 1 ?_
    exact ⟨n12,Nat.lt_succ_self _,r13,(IntKind.wrap .i64 (v6 - (1:Int))),hF,by kernel_rfl,by kernel_rfl⟩
   ·refine AWP.exit ?_
    refine LeQ.start ?_
    refine LeQ.pk [0,6,7,8] 1 ?_
    have hr:=someb hF
    subst hr
    exact ⟨rfl,by kernel_rfl,by kernel_rfl⟩
 ·rintro _ _ _ ⟨rfl,rfl,rfl⟩
  refine .seq (.rg0 [] [(0,(.vw 0 0 a0)),(6,(i64 a2)),(7,(i64 (0:Int))),(10,(i64 (IntKind.wrap .i64 ((IntKind.wrap .i64 (a3 - a2)) - (1:Int)))))] ?_)
  obtain ⟨v41,h42,hF⟩:=bindb hF
  refine AWP.mid (fun e st H=>e=.normal∧st=[]∧H=[.cells (cel Zb v41 s0)]) ?_ ?_
  ·clear hF
   refine AWP.kp [0,6,7,10] 1 ?_
   refine AWP.bround (fun n st H=>∃ (v28:(List Int)),∃ (v29:Int),Zan a0 a2 n v28 v29=some v41∧st=[(0,(.vw 0 0 a0)),(6,(i64 a2)),(7,(i64 (0:Int))),(10,(i64 v29))]∧H=[.cells (cel Zb v28 s0)]) fuel ⟨v10,(IntKind.wrap .i64 ((IntKind.wrap .i64 (a3 - a2)) - (1:Int))),h42,by kernel_rfl,by kernel_rfl⟩ ?_
   rintro n43 st H ⟨v28,v29,hF,rfl,rfl⟩
   cases n43 with
   | zero=>exact noneb hF
   | succ n43=>
    rw [Zan] at hF
    refine AWP.seq ?_
    refine .seq (.rg0 [] [(0,(.vw 0 0 a0)),(6,(i64 a2)),(7,(i64 (0:Int))),(10,(i64 v29)),(30,(vb (decide (v29 ≥ (0:Int)))))] ?_)
    refine AWP.cif hF (fun h54 hF=>?_) (fun h54 hF=>?_)
    ·refine AWP.skip ?_
     refine AWP.seq ?_
     refine AWP.block ?_
     refine AWP.seq ?_
     obtain ⟨x44,h45,hF⟩:=bindb hF
     obtain ⟨x46,h47,hF⟩:=bindb hF
     obtain ⟨x48,h49,hF⟩:=bindb hF
     obtain ⟨x50,h51,hF⟩:=bindb hF
     refine AWP.dr [(10,.idxV (idxn_lt h45)),(11,.ldV Zb (s:=1) (fun _=>rfl) s0 (idxn_idx h45) (0 + Int.toNat (IntKind.wrap .i64 (a2 + v29)) * 1) (Nat.zero_add _) []),(14,.idxV (idxn_lt h47)),(15,.ldV Zb (s:=1) (fun _=>rfl) s0 (idxn_idx h47) (0 + Int.toNat a2 * 1) (Nat.zero_add _) []),(16,.idxV (idxn_lt h49)),(17,.stV Zb (s:=1) (fun _=>rfl) s0 (idxn_idx h49) x44 (0 + Int.toNat a2 * 1) (Nat.zero_add _) []),(18,.idxV (idxn_lt h51)),(19,.stV Zb (s:=1) (fun _=>rfl) s0 (idxn_idx h51) x46 (0 + Int.toNat (IntKind.wrap .i64 (a2 + v29)) * 1) (Nat.zero_add _) [])] 18 [] [17] [] [(0,(.vw 0 0 a0)),(6,(i64 a2)),(7,(i64 (0:Int))),(10,(i64 v29))] [.cells (cel Zb (List.set (List.set v28 (Int.toNat a2) x44) (Int.toNat (IntKind.wrap .i64 (a2 + v29))) x46) s0)] ?_
     obtain ⟨r52,h53,hF⟩:=bindb hF
     refine AWP.rg [(4,.callC Tryd.func105 [] (closedH.c (cel_closed (row:=Zb) (fun _=>rfl) (List.set (List.set v28 (Int.toNat a2) x44) (Int.toNat (IntKind.wrap .i64 (a2 + v29))) x46) s0) closedH.n) (closedH.c (cel_closed (row:=Zb) (fun _=>rfl) r52 s0) closedH.n) (Ze0 a0 (List.set (List.set v28 (Int.toNat a2) x44) (Int.toNat (IntKind.wrap .i64 (a2 + v29))) x46) s0 (0:Int) v29 a2 r52 h53))] [(0,(.vw 0 0 a0)),(6,(i64 a2)),(7,(i64 (0:Int))),(10,(i64 v29))] [.cells (cel Zb r52 s0)] ?_
     refine AWP.rg0 [] [(0,(.vw 0 0 a0)),(6,(i64 a2)),(7,(i64 (0:Int))),(10,(i64 (IntKind.wrap .i64 (v29 - (1:Int)))))] ?_
     refine LeQ.start ?_
     refine LeQ.pk [0,6,7,10] 1 ?_
     exact ⟨n43,Nat.lt_succ_self _,r52,(IntKind.wrap .i64 (v29 - (1:Int))),hF,by kernel_rfl,by kernel_rfl⟩
    ·refine AWP.exit ?_
     refine LeQ.start ?_
     refine LeQ.pk [] 1 ?_
     have hr:=someb hF
     subst hr
     exact ⟨rfl,by kernel_rfl,by kernel_rfl⟩
  ·rintro _ _ _ ⟨rfl,rfl,rfl⟩
   have hr:=someb hF
   subst hr
   exact (FnQ.f0 1 (.inl rfl))
def Zh9 (r:Int):PV→List Blk→Prop:=fun p K=>p=(u64 r)∧K=[]
theorem Zia (a0:Int) (r:Int) (hF:Zd0 a0=some r):ACall Tryd.prog glob 106 [(i64 a0)] [] (Zh9 r):=by
 refine ACall.body Tryd.func106 rfl (by kernel_rfl) ?_
 unfold Zd0 at hF
 refine .seq (.rg0 [] [(0,(i64 a0))] ?_)
 refine AWP.seq ?_
 obtain ⟨r1,h2,hF⟩:=bindb hF
 obtain ⟨h3,hF⟩:=chkb hF
 refine AWP.rg0 [(2,.call Tryd.func93 [] (Zif (IntKind.wrap .u64 a0) r1 h2)),(3,.sh h3)] [(2,(u64 (bShl .u64 (1:Int) r1)))] ?_
 refine AWP.ret ?_
 have hr:=someb hF
 subst hr
 exact (FnQ.f0 0 (.inr rfl))
def Zii (r:(Int × Int)):PV→List Blk→Prop:=fun p K=>p=(u64 r.1)∧K=[.cells (Zb r.2)]
theorem Zij (a0:Int) (r:(Int × Int)) (hF:Zdg a0=some r):ACall Tryd.prog glob 107 [(.ptr 0 0)] [.cells (Zb a0)] (Zii r):=by
 refine ACall.body Tryd.func107 rfl (by kernel_rfl) ?_
 unfold Zdg at hF
 refine .seq (.rg0 [] [(0,(.ptr 0 0))] ?_)
 refine .seq (.dr [] 8 [] [] [] [(0,(.ptr 0 0))] [.cells (Zb (bXor .u64 a0 (bShl .u64 a0 (13:Int))))] ?_)
 refine .seq (.dr [] 8 [] [] [] [(0,(.ptr 0 0))] [.cells (Zb (bXor .u64 (bXor .u64 a0 (bShl .u64 a0 (13:Int))) (bShr .u64 (bXor .u64 a0 (bShl .u64 a0 (13:Int))) (7:Int))))] ?_)
 refine .seq (.dr [] 8 [] [] [] [(0,(.ptr 0 0))] [.cells (Zb (bXor .u64 (bXor .u64 (bXor .u64 a0 (bShl .u64 a0 (13:Int))) (bShr .u64 (bXor .u64 a0 (bShl .u64 a0 (13:Int))) (7:Int))) (bShl .u64 (bXor .u64 (bXor .u64 a0 (bShl .u64 a0 (13:Int))) (bShr .u64 (bXor .u64 a0 (bShl .u64 a0 (13:Int))) (7:Int))) (17:Int))))] ?_)
 refine .seq (.rg0 [] [(2,(u64 (bXor .u64 (bXor .u64 (bXor .u64 a0 (bShl .u64 a0 (13:Int))) (bShr .u64 (bXor .u64 a0 (bShl .u64 a0 (13:Int))) (7:Int))) (bShl .u64 (bXor .u64 (bXor .u64 a0 (bShl .u64 a0 (13:Int))) (bShr .u64 (bXor .u64 a0 (bShl .u64 a0 (13:Int))) (7:Int))) (17:Int)))))] ?_)
 refine AWP.ret ?_
 have hr:=someb hF
 subst hr
 exact (FnQ.f0 1 (.inr rfl))
def Zf3 (s0:List Value) (r:(List Int)):PV→List Blk→Prop:=fun p K=>p=(.tup [])∧K=[.cells (cel Zb r s0)]
theorem Zf4 (a0:Nat) (a1:(List Int)) (s0:List Value) (a2:Int) (a3:Int) (r:(List Int)) (hF:Zaw a0 a1 a2 a3=some r):ACall Tryd.prog glob 96 [(.vw 0 0 a0),(i64 a2),(i64 a3)] [.cells (cel Zb a1 s0)] (Zf3 s0 r):=by
 refine ACall.body Tryd.func96 rfl (by kernel_rfl) ?_
 unfold Zaw at hF
 refine .seq (.rg0 [] [(0,(.vw 0 0 a0)),(1,(i64 a2)),(6,(i64 (IntKind.wrap .i64 (a3 - a2))))] ?_)
 refine .seq (.rg0 [] [(0,(.vw 0 0 a0)),(1,(i64 a2)),(6,(i64 (IntKind.wrap .i64 (a3 - a2)))),(15,(vb (decide ((IntKind.wrap .i64 (a3 - a2)) ≥ (8:Int)))))] ?_)
 refine AWP.cif hF (fun h111 hF=>?_) (fun h111 hF=>?_)
 ·refine .seq (.rg [] [(0,(.vw 0 0 a0)),(1,(i64 a2)),(6,(i64 (IntKind.wrap .i64 (a3 - a2)))),(7,(.ptr 1 0))] [.cells (cel Zb a1 s0),.cells (Zb (IntKind.wrap .u64 (IntKind.wrap .i64 (a3 - a2))))] ?_)
  refine AWP.seq ?_
  obtain ⟨r1,h2,hF⟩:=bindb hF
  refine AWP.rg0 [(1,.call Tryd.func106 [] (Zia (IntKind.wrap .i64 (a3 - a2)) r1 h2))] [(0,(.vw 0 0 a0)),(1,(i64 a2)),(6,(i64 (IntKind.wrap .i64 (a3 - a2)))),(7,(.ptr 1 0)),(8,(u64 r1))] ?_
  refine .seq (.rg0 [] [(0,(.vw 0 0 a0)),(1,(i64 a2)),(6,(i64 (IntKind.wrap .i64 (a3 - a2)))),(7,(.ptr 1 0)),(8,(u64 r1)),(9,(i64 (IntKind.wrap .i64 ((IntKind.wrap .i64 (a2 + (IntKind.wrap .i64 ((IntKind.wrap .i64 (Int.tdiv (IntKind.wrap .i64 (a3 - a2)) (4:Int))) * (2:Int))))) - (1:Int)))))] ?_)
  obtain ⟨o75,h76,hF⟩:=bindb hF
  refine AWP.mid (fun e st H=>(e=.normal∧∃ (v73:(List Int)),∃ (v74:Int),o75=(v73,v74)∧st=[]∧H=[.cells (cel Zb v73 s0),.cells (Zb v74)])) ?_ ?_
  ·clear hF
   refine AWP.kp [0,1,6,7,8,9] 2 ?_
   refine AWP.bround (fun n st H=>∃ (v37:(List Int)),∃ (v38:Int),∃ (v39:Int),Zp a0 a2 a3 r1 n v37 v38 v39=some o75∧st=[(0,(.vw 0 0 a0)),(1,(i64 a2)),(6,(i64 (IntKind.wrap .i64 (a3 - a2)))),(7,(.ptr 1 0)),(8,(u64 r1)),(9,(i64 v39))]∧H=[.cells (cel Zb v37 s0),.cells (Zb v38)]) fuel ⟨a1,(IntKind.wrap .u64 (IntKind.wrap .i64 (a3 - a2))),(IntKind.wrap .i64 ((IntKind.wrap .i64 (a2 + (IntKind.wrap .i64 ((IntKind.wrap .i64 (Int.tdiv (IntKind.wrap .i64 (a3 - a2)) (4:Int))) * (2:Int))))) - (1:Int))),h76,by kernel_rfl,by kernel_rfl⟩ ?_
   rintro n77 st H ⟨v37,v38,v39,hF,rfl,rfl⟩
   cases n77 with
   | zero=>exact noneb hF
   | succ n77=>
    rw [Zp] at hF
    refine AWP.seq ?_
    refine .seq (.rg0 [] [(0,(.vw 0 0 a0)),(1,(i64 a2)),(6,(i64 (IntKind.wrap .i64 (a3 - a2)))),(7,(.ptr 1 0)),(8,(u64 r1)),(9,(i64 v39)),(33,(vb (decide (v39≤(IntKind.wrap .i64 ((IntKind.wrap .i64 (a2 + (IntKind.wrap .i64 ((IntKind.wrap .i64 (Int.tdiv (IntKind.wrap .i64 (a3 - a2)) (4:Int))) * (2:Int))))) + (1:Int)))))))] ?_)
    refine AWP.cif hF (fun h110 hF=>?_) (fun h110 hF=>?_)
    ·refine AWP.skip ?_
     obtain ⟨o94,h95,hF⟩:=bindb hF
     refine AWP.seq ?_
     refine AWP.mid (fun e st H=>(e=.normal∧∃ (v92:(List Int)),∃ (v93:Int),o94=(v92,v93)∧st=[(0,(.vw 0 0 a0)),(1,(i64 a2)),(6,(i64 (IntKind.wrap .i64 (a3 - a2)))),(7,(.ptr 1 0)),(8,(u64 r1)),(9,(i64 v39))]∧H=[.cells (cel Zb v92 s0),.cells (Zb v93)])) ?_ ?_
     ·clear hF
      have hF:=h95
      refine AWP.block ?_
      refine AWP.seq ?_
      obtain ⟨r96,h97,hF⟩:=bindb hF
      refine AWP.rg [(0,.call Tryd.func107 [] (Zij v38 r96 h97))] [(0,(.vw 0 0 a0)),(1,(i64 a2)),(6,(i64 (IntKind.wrap .i64 (a3 - a2)))),(7,(.ptr 1 0)),(8,(u64 r1)),(9,(i64 v39)),(10,(i64 (IntKind.wrap .i64 (bAnd .u64 r96.1 (IntKind.wrap .u64 (r1 - (1:Int)))))))] [.cells (cel Zb v37 s0),.cells (Zb r96.2)] ?_
      obtain ⟨v99,h100,hF⟩:=bindb hF
      refine AWP.seq ?_
      refine AWP.mid (fun e st H=>e=.normal∧st=[(0,(.vw 0 0 a0)),(1,(i64 a2)),(6,(i64 (IntKind.wrap .i64 (a3 - a2)))),(7,(.ptr 1 0)),(8,(u64 r1)),(9,(i64 v39)),(10,(i64 v99))]∧H=[.cells (cel Zb v37 s0),.cells (Zb r96.2)]) ?_ ?_
      ·clear hF
       have hF:=h100
       refine .seq (.rg0 [] [(0,(.vw 0 0 a0)),(1,(i64 a2)),(6,(i64 (IntKind.wrap .i64 (a3 - a2)))),(7,(.ptr 1 0)),(8,(u64 r1)),(9,(i64 v39)),(10,(i64 (IntKind.wrap .i64 (bAnd .u64 r96.1 (IntKind.wrap .u64 (r1 - (1:Int))))))),(43,(vb (decide ((IntKind.wrap .i64 (bAnd .u64 r96.1 (IntKind.wrap .u64 (r1 - (1:Int))))) ≥ (IntKind.wrap .i64 (a3 - a2))))))] ?_)
       refine AWP.cif hF (fun h101 hF=>?_) (fun h101 hF=>?_)
       ·refine AWP.rg0 [] [(0,(.vw 0 0 a0)),(1,(i64 a2)),(6,(i64 (IntKind.wrap .i64 (a3 - a2)))),(7,(.ptr 1 0)),(8,(u64 r1)),(9,(i64 v39)),(10,(i64 (IntKind.wrap .i64 ((IntKind.wrap .i64 (bAnd .u64 r96.1 (IntKind.wrap .u64 (r1 - (1:Int))))) - (IntKind.wrap .i64 (a3 - a2))))))] ?_
        refine LeQ.start ?_
        refine LeQ.pk [0,1,6,7,8,9,10] 2 ?_
        have hr:=someb hF
        subst hr
        exact ⟨rfl,by kernel_rfl,by kernel_rfl⟩
       ·refine AWP.skip ?_
        refine LeQ.start ?_
        refine LeQ.pk [0,1,6,7,8,9,10] 2 ?_
        have hr:=someb hF
        subst hr
        exact ⟨rfl,by kernel_rfl,by kernel_rfl⟩
      ·rintro _ _ _ ⟨rfl,rfl,rfl⟩
       obtain ⟨x102,h103,hF⟩:=bindb hF
       obtain ⟨x104,h105,hF⟩:=bindb hF
       obtain ⟨x106,h107,hF⟩:=bindb hF
       obtain ⟨x108,h109,hF⟩:=bindb hF
       refine AWP.dr [(10,.idxV (idxn_lt h103)),(11,.ldV Zb (s:=1) (fun _=>rfl) s0 (idxn_idx h103) (0 + Int.toNat (IntKind.wrap .i64 (a2 + v99)) * 1) (Nat.zero_add _) []),(14,.idxV (idxn_lt h105)),(15,.ldV Zb (s:=1) (fun _=>rfl) s0 (idxn_idx h105) (0 + Int.toNat v39 * 1) (Nat.zero_add _) []),(16,.idxV (idxn_lt h107)),(17,.stV Zb (s:=1) (fun _=>rfl) s0 (idxn_idx h107) x102 (0 + Int.toNat v39 * 1) (Nat.zero_add _) []),(18,.idxV (idxn_lt h109)),(19,.stV Zb (s:=1) (fun _=>rfl) s0 (idxn_idx h109) x104 (0 + Int.toNat (IntKind.wrap .i64 (a2 + v99)) * 1) (Nat.zero_add _) [])] 18 [] [17] [] [(0,(.vw 0 0 a0)),(1,(i64 a2)),(6,(i64 (IntKind.wrap .i64 (a3 - a2)))),(7,(.ptr 1 0)),(8,(u64 r1)),(9,(i64 v39))] [.cells (cel Zb (List.set (List.set v37 (Int.toNat v39) x102) (Int.toNat (IntKind.wrap .i64 (a2 + v99))) x104) s0),.cells (Zb r96.2)] ?_
       refine LeQ.start ?_
       refine LeQ.pk [0,1,6,7,8,9] 2 ?_
       exact ⟨rfl,(List.set (List.set v37 (Int.toNat v39) x102) (Int.toNat (IntKind.wrap .i64 (a2 + v99))) x104),r96.2,(someb hF).symm,by kernel_rfl,by kernel_rfl⟩
     ·rintro _ _ _ ⟨rfl,v92,v93,rfl,rfl,rfl⟩
      refine AWP.rg0 [] [(0,(.vw 0 0 a0)),(1,(i64 a2)),(6,(i64 (IntKind.wrap .i64 (a3 - a2)))),(7,(.ptr 1 0)),(8,(u64 r1)),(9,(i64 (IntKind.wrap .i64 (v39 + (1:Int)))))] ?_
      refine LeQ.start ?_
      refine LeQ.pk [0,1,6,7,8,9] 2 ?_
      exact ⟨n77,Nat.lt_succ_self _,v92,v93,(IntKind.wrap .i64 (v39 + (1:Int))),hF,by kernel_rfl,by kernel_rfl⟩
    ·refine AWP.exit ?_
     refine LeQ.start ?_
     refine LeQ.pk [] 2 ?_
     exact ⟨rfl,v37,v38,(someb hF).symm,by kernel_rfl,by kernel_rfl⟩
  ·rintro _ _ _ ⟨rfl,v73,v74,rfl,rfl,rfl⟩
   have hr:=someb hF
   subst hr
   exact (FnQ.f0 1 (.inl rfl))
 ·refine AWP.skip ?_
  have hr:=someb hF
  subst hr
  exact (FnQ.f0 1 (.inl rfl))
def Zhb (a1:(List Int)) (s0:List Value) (r:(Int × Int × Int)):PV→List Blk→Prop:=fun p K=>p=(.tup [(i64 r.1),(i64 r.2.1)])∧K=[.cells (cel Zb a1 s0),.cells (Z5 r.2.2)]
theorem Zdy (a0:Nat) (a1:(List Int)) (s0:List Value) (a2:Int) (a3:Int) (a4:Int) (r:(Int × Int × Int)) (hF:Zba a0 a1 a2 a3 a4=some r):ACall Tryd.prog glob 111 [(.vw 0 0 a0),(i64 a2),(i64 a3),(.ptr 1 0)] [.cells (cel Zb a1 s0),.cells (Z5 a4)] (Zhb a1 s0 r):=by
 refine ACall.body Tryd.func111 rfl (by kernel_rfl) ?_
 unfold Zba at hF
 refine .seq (.rg0 [] [(0,(.vw 0 0 a0)),(1,(i64 a2)),(2,(i64 a3)),(3,(.ptr 1 0))] ?_)
 refine AWP.seq ?_
 refine AWP.seq ?_
 obtain ⟨x1,h2,hF⟩:=bindb hF
 obtain ⟨x3,h4,hF⟩:=bindb hF
 obtain ⟨r5,h6,hF⟩:=bindb hF
 refine AWP.dr [(2,.idxV (idxn_lt h2)),(3,.ldV Zb (s:=1) (fun _=>rfl) s0 (idxn_idx h2) (0 + Int.toNat a3 * 1) (Nat.zero_add _) []),(6,.idxV (idxn_lt h4)),(7,.ldV Zb (s:=1) (fun _=>rfl) s0 (idxn_idx h4) (0 + Int.toNat a2 * 1) (Nat.zero_add _) []),(8,.call Tryd.func100 [] (Zav x1 x3 r5 h6))] 9 [] [] [] [(1,(i64 a2)),(2,(i64 a3)),(3,(.ptr 1 0)),(18,(vb r5))] [.cells (cel Zb a1 s0),.cells (Z5 a4)] ?_
 refine AWP.cif hF (fun h7 hF=>?_) (fun h7 hF=>?_)
 ·refine .seq (.rg [] [(1,(i64 a2)),(2,(i64 a3))] [.cells (cel Zb a1 s0),.cells (Z5 (IntKind.wrap .i64 (a4 + (1:Int))))] ?_)
  refine .seq (.rg0 [] [(8,(i64 a3)),(9,(i64 a2))] ?_)
  refine AWP.ret ?_
  have hr:=someb hF
  subst hr
  exact (FnQ.f0 2 (.inr rfl))
 ·refine AWP.skip ?_
  refine .seq (.rg0 [] [(8,(i64 a2)),(9,(i64 a3))] ?_)
  refine AWP.ret ?_
  have hr:=someb hF
  subst hr
  exact (FnQ.f0 2 (.inr rfl))
def Zhc (a1:(List Int)) (s0:List Value) (r:(Int × Int)):PV→List Blk→Prop:=fun p K=>p=(i64 r.1)∧K=[.cells (cel Zb a1 s0),.cells (Z5 r.2)]
theorem Zff (a0:Nat) (a1:(List Int)) (s0:List Value) (a2:Int) (a3:Int) (a4:Int) (a5:Int) (r:(Int × Int)) (hF:Zbr a0 a1 a2 a3 a4 a5=some r):ACall Tryd.prog glob 109 [(.vw 0 0 a0),(i64 a2),(i64 a3),(i64 a4),(.ptr 1 0)] [.cells (cel Zb a1 s0),.cells (Z5 a5)] (Zhc a1 s0 r):=by
 refine ACall.body Tryd.func109 rfl (by kernel_rfl) ?_
 unfold Zbr at hF
 refine .seq (.rg0 [] [(0,(.vw 0 0 a0)),(1,(i64 a2)),(2,(i64 a3)),(3,(i64 a4)),(4,(.ptr 1 0))] ?_)
 refine AWP.seq ?_
 obtain ⟨r1,h2,hF⟩:=bindb hF
 refine AWP.rg [(4,.callC Tryd.func111 [] (closedH.c (cel_closed (row:=Zb) (fun _=>rfl) a1 s0) (closedH.c (cs:=Z5 a5) rfl closedH.n)) (closedH.c (cel_closed (row:=Zb) (fun _=>rfl) a1 s0) (closedH.c (cs:=Z5 r1.2.2) rfl closedH.n)) (Zdy a0 a1 s0 a2 a3 a5 r1 h2))] [(0,(.vw 0 0 a0)),(1,(i64 r1.1)),(2,(i64 r1.2.1)),(3,(i64 a4)),(4,(.ptr 1 0))] [.cells (cel Zb a1 s0),.cells (Z5 r1.2.2)] ?_
 refine AWP.seq ?_
 obtain ⟨r3,h4,hF⟩:=bindb hF
 refine AWP.rg [(4,.callC Tryd.func111 [] (closedH.c (cel_closed (row:=Zb) (fun _=>rfl) a1 s0) (closedH.c (cs:=Z5 r1.2.2) rfl closedH.n)) (closedH.c (cel_closed (row:=Zb) (fun _=>rfl) a1 s0) (closedH.c (cs:=Z5 r3.2.2) rfl closedH.n)) (Zdy a0 a1 s0 r1.2.1 a4 r1.2.2 r3 h4))] [(0,(.vw 0 0 a0)),(1,(i64 r1.1)),(2,(i64 r3.1)),(4,(.ptr 1 0))] [.cells (cel Zb a1 s0),.cells (Z5 r3.2.2)] ?_
 refine AWP.seq ?_
 obtain ⟨r5,h6,hF⟩:=bindb hF
 refine AWP.rg [(4,.callC Tryd.func111 [] (closedH.c (cel_closed (row:=Zb) (fun _=>rfl) a1 s0) (closedH.c (cs:=Z5 r3.2.2) rfl closedH.n)) (closedH.c (cel_closed (row:=Zb) (fun _=>rfl) a1 s0) (closedH.c (cs:=Z5 r5.2.2) rfl closedH.n)) (Zdy a0 a1 s0 r1.1 r3.1 r3.2.2 r5 h6))] [(2,(i64 r5.2.1))] [.cells (cel Zb a1 s0),.cells (Z5 r5.2.2)] ?_
 refine .seq (.rg0 [] [(10,(i64 r5.2.1))] ?_)
 refine AWP.ret ?_
 have hr:=someb hF
 subst hr
 exact (FnQ.f0 2 (.inr rfl))
def Zfx (a1:(List Int)) (s0:List Value) (r:(Int × Int)):PV→List Blk→Prop:=fun p K=>p=(i64 r.1)∧K=[.cells (cel Zb a1 s0),.cells (Z5 r.2)]
theorem Zc0 (a0:Nat) (a1:(List Int)) (s0:List Value) (a2:Int) (a3:Int) (r:(Int × Int)) (hF:Zae a0 a1 a2 a3=some r):ACall Tryd.prog glob 108 [(.vw 0 0 a0),(i64 a2),(.ptr 1 0)] [.cells (cel Zb a1 s0),.cells (Z5 a3)] (Zfx a1 s0 r):=by
 refine ACall.body Tryd.func108 rfl (by kernel_rfl) ?_
 unfold Zae at hF
 refine .seq (.rg0 [] [(0,(.vw 0 0 a0)),(1,(i64 a2)),(2,(.ptr 1 0))] ?_)
 refine AWP.seq ?_
 obtain ⟨r1,h2,hF⟩:=bindb hF
 refine AWP.rg [(7,.callC Tryd.func109 [] (closedH.c (cel_closed (row:=Zb) (fun _=>rfl) a1 s0) (closedH.c (cs:=Z5 a3) rfl closedH.n)) (closedH.c (cel_closed (row:=Zb) (fun _=>rfl) a1 s0) (closedH.c (cs:=Z5 r1.2) rfl closedH.n)) (Zff a0 a1 s0 (IntKind.wrap .i64 (a2 - (1:Int))) a2 (IntKind.wrap .i64 (a2 + (1:Int))) a3 r1 h2))] [(6,(i64 r1.1))] [.cells (cel Zb a1 s0),.cells (Z5 r1.2)] ?_
 refine AWP.ret ?_
 have hr:=someb hF
 subst hr
 exact (FnQ.f0 2 (.inr rfl))
def Zgg (a1:(List Int)) (s0:List Value) (r:(Int × Int)):PV→List Blk→Prop:=fun p K=>p=(.tup [(i64 r.1),(i64 r.2)])∧K=[.cells (cel Zb a1 s0)]
theorem Zgh (a0:Nat) (a1:(List Int)) (s0:List Value) (a2:Int) (a3:Int) (r:(Int × Int)) (hF:Zbq a0 a1 a2 a3=some r):ACall Tryd.prog glob 97 [(.vw 0 0 a0),(i64 a2),(i64 a3)] [.cells (cel Zb a1 s0)] (Zgg a1 s0 r):=by
 refine ACall.body Tryd.func97 rfl (by kernel_rfl) ?_
 unfold Zbq at hF
 refine .seq (.rg0 [] [(0,(.vw 0 0 a0)),(1,(i64 a2)),(2,(i64 a3))] ?_)
 refine .seq (.rg0 [] [(0,(.vw 0 0 a0)),(1,(i64 a2)),(8,(i64 (IntKind.wrap .i64 (a3 - a2))))] ?_)
 refine .seq (.rg [] [(0,(.vw 0 0 a0)),(1,(i64 a2)),(8,(i64 (IntKind.wrap .i64 (a3 - a2)))),(9,(.ptr 1 0))] [.cells (cel Zb a1 s0),.cells (Z5 (0:Int))] ?_)
 refine .seq (.rg0 [] [(0,(.vw 0 0 a0)),(1,(i64 a2)),(8,(i64 (IntKind.wrap .i64 (a3 - a2)))),(9,(.ptr 1 0)),(10,(i64 (IntKind.wrap .i64 (a2 + (IntKind.wrap .i64 ((IntKind.wrap .i64 (Int.tdiv (IntKind.wrap .i64 (a3 - a2)) (4:Int))) * (1:Int)))))))] ?_)
 refine .seq (.rg0 [] [(0,(.vw 0 0 a0)),(1,(i64 a2)),(8,(i64 (IntKind.wrap .i64 (a3 - a2)))),(9,(.ptr 1 0)),(10,(i64 (IntKind.wrap .i64 (a2 + (IntKind.wrap .i64 ((IntKind.wrap .i64 (Int.tdiv (IntKind.wrap .i64 (a3 - a2)) (4:Int))) * (1:Int))))))),(11,(i64 (IntKind.wrap .i64 (a2 + (IntKind.wrap .i64 ((IntKind.wrap .i64 (Int.tdiv (IntKind.wrap .i64 (a3 - a2)) (4:Int))) * (2:Int)))))))] ?_)
 refine .seq (.rg0 [] [(0,(.vw 0 0 a0)),(8,(i64 (IntKind.wrap .i64 (a3 - a2)))),(9,(.ptr 1 0)),(10,(i64 (IntKind.wrap .i64 (a2 + (IntKind.wrap .i64 ((IntKind.wrap .i64 (Int.tdiv (IntKind.wrap .i64 (a3 - a2)) (4:Int))) * (1:Int))))))),(11,(i64 (IntKind.wrap .i64 (a2 + (IntKind.wrap .i64 ((IntKind.wrap .i64 (Int.tdiv (IntKind.wrap .i64 (a3 - a2)) (4:Int))) * (2:Int))))))),(12,(i64 (IntKind.wrap .i64 (a2 + (IntKind.wrap .i64 ((IntKind.wrap .i64 (Int.tdiv (IntKind.wrap .i64 (a3 - a2)) (4:Int))) * (3:Int)))))))] ?_)
 obtain ⟨o26,h27,hF⟩:=bindb hF
 refine AWP.seq ?_
 refine AWP.mid (fun e st H=>(e=.normal∧∃ (v24:Int),∃ (v25:Int),o26=(v24,v25)∧st=[(9,(.ptr 1 0)),(11,(i64 v25))]∧H=[.cells (cel Zb a1 s0),.cells (Z5 v24)])) ?_ ?_
 ·clear hF
  have hF:=h27
  refine .seq (.rg0 [] [(0,(.vw 0 0 a0)),(8,(i64 (IntKind.wrap .i64 (a3 - a2)))),(9,(.ptr 1 0)),(10,(i64 (IntKind.wrap .i64 (a2 + (IntKind.wrap .i64 ((IntKind.wrap .i64 (Int.tdiv (IntKind.wrap .i64 (a3 - a2)) (4:Int))) * (1:Int))))))),(11,(i64 (IntKind.wrap .i64 (a2 + (IntKind.wrap .i64 ((IntKind.wrap .i64 (Int.tdiv (IntKind.wrap .i64 (a3 - a2)) (4:Int))) * (2:Int))))))),(12,(i64 (IntKind.wrap .i64 (a2 + (IntKind.wrap .i64 ((IntKind.wrap .i64 (Int.tdiv (IntKind.wrap .i64 (a3 - a2)) (4:Int))) * (3:Int))))))),(32,(vb (decide ((IntKind.wrap .i64 (a3 - a2)) ≥ (8:Int)))))] ?_)
  refine AWP.cif hF (fun h50 hF=>?_) (fun h50 hF=>?_)
  ·obtain ⟨o39,h40,hF⟩:=bindb hF
   refine AWP.seq ?_
   refine AWP.mid (fun e st H=>(e=.normal∧∃ (v35:Int),∃ (v36:Int),∃ (v37:Int),∃ (v38:Int),o39=(v35,v36,v37,v38)∧st=[(0,(.vw 0 0 a0)),(9,(.ptr 1 0)),(10,(i64 v36)),(11,(i64 v37)),(12,(i64 v38))]∧H=[.cells (cel Zb a1 s0),.cells (Z5 v35)])) ?_ ?_
   ·clear hF
    have hF:=h40
    refine .seq (.rg0 [] [(0,(.vw 0 0 a0)),(9,(.ptr 1 0)),(10,(i64 (IntKind.wrap .i64 (a2 + (IntKind.wrap .i64 ((IntKind.wrap .i64 (Int.tdiv (IntKind.wrap .i64 (a3 - a2)) (4:Int))) * (1:Int))))))),(11,(i64 (IntKind.wrap .i64 (a2 + (IntKind.wrap .i64 ((IntKind.wrap .i64 (Int.tdiv (IntKind.wrap .i64 (a3 - a2)) (4:Int))) * (2:Int))))))),(12,(i64 (IntKind.wrap .i64 (a2 + (IntKind.wrap .i64 ((IntKind.wrap .i64 (Int.tdiv (IntKind.wrap .i64 (a3 - a2)) (4:Int))) * (3:Int))))))),(34,(vb (decide ((IntKind.wrap .i64 (a3 - a2)) ≥ (50:Int)))))] ?_)
    refine AWP.cif hF (fun h47 hF=>?_) (fun h47 hF=>?_)
    ·refine AWP.seq ?_
     obtain ⟨r41,h42,hF⟩:=bindb hF
     refine AWP.rg [(2,.callC Tryd.func108 [] (closedH.c (cel_closed (row:=Zb) (fun _=>rfl) a1 s0) (closedH.c (cs:=Z5 (0:Int)) rfl closedH.n)) (closedH.c (cel_closed (row:=Zb) (fun _=>rfl) a1 s0) (closedH.c (cs:=Z5 r41.2) rfl closedH.n)) (Zc0 a0 a1 s0 (IntKind.wrap .i64 (a2 + (IntKind.wrap .i64 ((IntKind.wrap .i64 (Int.tdiv (IntKind.wrap .i64 (a3 - a2)) (4:Int))) * (1:Int))))) (0:Int) r41 h42))] [(0,(.vw 0 0 a0)),(9,(.ptr 1 0)),(10,(i64 r41.1)),(11,(i64 (IntKind.wrap .i64 (a2 + (IntKind.wrap .i64 ((IntKind.wrap .i64 (Int.tdiv (IntKind.wrap .i64 (a3 - a2)) (4:Int))) * (2:Int))))))),(12,(i64 (IntKind.wrap .i64 (a2 + (IntKind.wrap .i64 ((IntKind.wrap .i64 (Int.tdiv (IntKind.wrap .i64 (a3 - a2)) (4:Int))) * (3:Int)))))))] [.cells (cel Zb a1 s0),.cells (Z5 r41.2)] ?_
     refine AWP.seq ?_
     obtain ⟨r43,h44,hF⟩:=bindb hF
     refine AWP.rg [(2,.callC Tryd.func108 [] (closedH.c (cel_closed (row:=Zb) (fun _=>rfl) a1 s0) (closedH.c (cs:=Z5 r41.2) rfl closedH.n)) (closedH.c (cel_closed (row:=Zb) (fun _=>rfl) a1 s0) (closedH.c (cs:=Z5 r43.2) rfl closedH.n)) (Zc0 a0 a1 s0 (IntKind.wrap .i64 (a2 + (IntKind.wrap .i64 ((IntKind.wrap .i64 (Int.tdiv (IntKind.wrap .i64 (a3 - a2)) (4:Int))) * (2:Int))))) r41.2 r43 h44))] [(0,(.vw 0 0 a0)),(9,(.ptr 1 0)),(10,(i64 r41.1)),(11,(i64 r43.1)),(12,(i64 (IntKind.wrap .i64 (a2 + (IntKind.wrap .i64 ((IntKind.wrap .i64 (Int.tdiv (IntKind.wrap .i64 (a3 - a2)) (4:Int))) * (3:Int)))))))] [.cells (cel Zb a1 s0),.cells (Z5 r43.2)] ?_
     obtain ⟨r45,h46,hF⟩:=bindb hF
     refine AWP.rg [(2,.callC Tryd.func108 [] (closedH.c (cel_closed (row:=Zb) (fun _=>rfl) a1 s0) (closedH.c (cs:=Z5 r43.2) rfl closedH.n)) (closedH.c (cel_closed (row:=Zb) (fun _=>rfl) a1 s0) (closedH.c (cs:=Z5 r45.2) rfl closedH.n)) (Zc0 a0 a1 s0 (IntKind.wrap .i64 (a2 + (IntKind.wrap .i64 ((IntKind.wrap .i64 (Int.tdiv (IntKind.wrap .i64 (a3 - a2)) (4:Int))) * (3:Int))))) r43.2 r45 h46))] [(0,(.vw 0 0 a0)),(9,(.ptr 1 0)),(10,(i64 r41.1)),(11,(i64 r43.1)),(12,(i64 r45.1))] [.cells (cel Zb a1 s0),.cells (Z5 r45.2)] ?_
     refine LeQ.start ?_
     refine LeQ.pk [0,9,10,11,12] 2 ?_
     exact ⟨rfl,r45.2,r41.1,r43.1,r45.1,(someb hF).symm,by kernel_rfl,by kernel_rfl⟩
    ·refine AWP.skip ?_
     refine LeQ.start ?_
     refine LeQ.pk [0,9,10,11,12] 2 ?_
     exact ⟨rfl,(0:Int),(IntKind.wrap .i64 (a2 + (IntKind.wrap .i64 ((IntKind.wrap .i64 (Int.tdiv (IntKind.wrap .i64 (a3 - a2)) (4:Int))) * (1:Int))))),(IntKind.wrap .i64 (a2 + (IntKind.wrap .i64 ((IntKind.wrap .i64 (Int.tdiv (IntKind.wrap .i64 (a3 - a2)) (4:Int))) * (2:Int))))),(IntKind.wrap .i64 (a2 + (IntKind.wrap .i64 ((IntKind.wrap .i64 (Int.tdiv (IntKind.wrap .i64 (a3 - a2)) (4:Int))) * (3:Int))))),(someb hF).symm,by kernel_rfl,by kernel_rfl⟩
   ·rintro _ _ _ ⟨rfl,v35,v36,v37,v38,rfl,rfl,rfl⟩
    obtain ⟨r48,h49,hF⟩:=bindb hF
    refine AWP.rg [(4,.callC Tryd.func109 [] (closedH.c (cel_closed (row:=Zb) (fun _=>rfl) a1 s0) (closedH.c (cs:=Z5 v35) rfl closedH.n)) (closedH.c (cel_closed (row:=Zb) (fun _=>rfl) a1 s0) (closedH.c (cs:=Z5 r48.2) rfl closedH.n)) (Zff a0 a1 s0 v36 v37 v38 v35 r48 h49))] [(9,(.ptr 1 0)),(11,(i64 r48.1))] [.cells (cel Zb a1 s0),.cells (Z5 r48.2)] ?_
    refine LeQ.start ?_
    refine LeQ.pk [9,11] 2 ?_
    exact ⟨rfl,r48.2,r48.1,(someb hF).symm,by kernel_rfl,by kernel_rfl⟩
  ·refine AWP.skip ?_
   refine LeQ.start ?_
   refine LeQ.pk [9,11] 2 ?_
   exact ⟨rfl,(0:Int),(IntKind.wrap .i64 (a2 + (IntKind.wrap .i64 ((IntKind.wrap .i64 (Int.tdiv (IntKind.wrap .i64 (a3 - a2)) (4:Int))) * (2:Int))))),(someb hF).symm,by kernel_rfl,by kernel_rfl⟩
 ·rintro _ _ _ ⟨rfl,v24,v25,rfl,rfl,rfl⟩
  refine .seq (.rg0 [] [(11,(i64 v25)),(49,(i64 v24))] ?_)
  refine AWP.block ?_
  refine .seq (.rg0 [] [(11,(i64 v25)),(49,(i64 v24)),(51,(vb (v24 == (0:Int))))] ?_)
  refine AWP.cif hF (fun h52 hF=>?_) (fun h52 hF=>?_)
  ·refine .seq (.rg0 [] [(6,(i64 v25)),(7,(i64 (1:Int)))] ?_)
   refine AWP.ret ?_
   have hr:=someb hF
   subst hr
   exact (FnQ.f0 1 (.inr rfl))
  ·refine .seq (.rg0 [] [(11,(i64 v25)),(54,(vb (v24 == (12:Int))))] ?_)
   refine AWP.cif hF (fun h51 hF=>?_) (fun h51 hF=>?_)
   ·refine .seq (.rg0 [] [(6,(i64 v25)),(7,(i64 (2:Int)))] ?_)
    refine AWP.ret ?_
    have hr:=someb hF
    subst hr
    exact (FnQ.f0 1 (.inr rfl))
   ·refine .seq (.rg0 [] [(6,(i64 v25)),(7,(i64 (0:Int)))] ?_)
    refine AWP.ret ?_
    have hr:=someb hF
    subst hr
    exact (FnQ.f0 1 (.inr rfl))
def Zga (s0:List Value) (r:(List Int)):PV→List Blk→Prop:=fun p K=>p=(.tup [])∧K=[.cells (cel Zb r s0)]
theorem Zgb (a0:Nat) (a1:(List Int)) (s0:List Value) (a2:Int) (a3:Int) (r:(List Int)) (hF:Zaz a0 a1 a2 a3=some r):ACall Tryd.prog glob 98 [(.vw 0 0 a0),(i64 a2),(i64 a3)] [.cells (cel Zb a1 s0)] (Zga s0 r):=by
 refine ACall.body Tryd.func98 rfl (by kernel_rfl) ?_
 unfold Zaz at hF
 refine .seq (.rg0 [] [(0,(.vw 0 0 a0)),(2,(i64 a3)),(6,(i64 a2))] ?_)
 refine .seq (.rg0 [] [(0,(.vw 0 0 a0)),(6,(i64 a2)),(7,(i64 (IntKind.wrap .i64 (a3 - (1:Int)))))] ?_)
 obtain ⟨v24,h25,hF⟩:=bindb hF
 refine AWP.mid (fun e st H=>e=.normal∧st=[]∧H=[.cells (cel Zb v24 s0)]) ?_ ?_
 ·clear hF
  refine AWP.kp [0,6,7] 1 ?_
  refine AWP.bround (fun n st H=>∃ (v12:(List Int)),∃ (v13:Int),∃ (v14:Int),Zaa a0 n v12 v13 v14=some v24∧st=[(0,(.vw 0 0 a0)),(6,(i64 v13)),(7,(i64 v14))]∧H=[.cells (cel Zb v12 s0)]) fuel ⟨a1,a2,(IntKind.wrap .i64 (a3 - (1:Int))),h25,by kernel_rfl,by kernel_rfl⟩ ?_
  rintro n26 st H ⟨v12,v13,v14,hF,rfl,rfl⟩
  cases n26 with
  | zero=>exact noneb hF
  | succ n26=>
   rw [Zaa] at hF
   refine AWP.seq ?_
   refine .seq (.rg0 [] [(0,(.vw 0 0 a0)),(6,(i64 v13)),(7,(i64 v14)),(13,(vb (decide (v13<v14))))] ?_)
   refine AWP.cif hF (fun h35 hF=>?_) (fun h35 hF=>?_)
   ·refine AWP.skip ?_
    refine AWP.block ?_
    refine AWP.seq ?_
    obtain ⟨x27,h28,hF⟩:=bindb hF
    obtain ⟨x29,h30,hF⟩:=bindb hF
    obtain ⟨x31,h32,hF⟩:=bindb hF
    obtain ⟨x33,h34,hF⟩:=bindb hF
    refine AWP.dr [(6,.idxV (idxn_lt h28)),(7,.ldV Zb (s:=1) (fun _=>rfl) s0 (idxn_idx h28) (0 + Int.toNat v14 * 1) (Nat.zero_add _) []),(10,.idxV (idxn_lt h30)),(11,.ldV Zb (s:=1) (fun _=>rfl) s0 (idxn_idx h30) (0 + Int.toNat v13 * 1) (Nat.zero_add _) []),(12,.idxV (idxn_lt h32)),(13,.stV Zb (s:=1) (fun _=>rfl) s0 (idxn_idx h32) x27 (0 + Int.toNat v13 * 1) (Nat.zero_add _) []),(14,.idxV (idxn_lt h34)),(15,.stV Zb (s:=1) (fun _=>rfl) s0 (idxn_idx h34) x29 (0 + Int.toNat v14 * 1) (Nat.zero_add _) [])] 14 [] [13] [] [(0,(.vw 0 0 a0)),(6,(i64 v13)),(7,(i64 v14))] [.cells (cel Zb (List.set (List.set v12 (Int.toNat v13) x27) (Int.toNat v14) x29) s0)] ?_
    refine .seq (.rg0 [] [(0,(.vw 0 0 a0)),(6,(i64 (IntKind.wrap .i64 (v13 + (1:Int))))),(7,(i64 v14))] ?_)
    refine AWP.rg0 [] [(0,(.vw 0 0 a0)),(6,(i64 (IntKind.wrap .i64 (v13 + (1:Int))))),(7,(i64 (IntKind.wrap .i64 (v14 - (1:Int)))))] ?_
    refine LeQ.start ?_
    refine LeQ.pk [0,6,7] 1 ?_
    exact ⟨n26,Nat.lt_succ_self _,(List.set (List.set v12 (Int.toNat v13) x27) (Int.toNat v14) x29),(IntKind.wrap .i64 (v13 + (1:Int))),(IntKind.wrap .i64 (v14 - (1:Int))),hF,by kernel_rfl,by kernel_rfl⟩
   ·refine AWP.exit ?_
    refine LeQ.start ?_
    refine LeQ.pk [] 1 ?_
    have hr:=someb hF
    subst hr
    exact ⟨rfl,by kernel_rfl,by kernel_rfl⟩
 ·rintro _ _ _ ⟨rfl,rfl,rfl⟩
  have hr:=someb hF
  subst hr
  exact (FnQ.f0 1 (.inl rfl))
def Zdj (s0:List Value) (r:(Bool × (List Int))):PV→List Blk→Prop:=fun p K=>p=(vb r.1)∧K=[.cells (cel Zb r.2 s0)]
abbrev Zdk (s0:List Value) (r:(Bool × (List Int))):Exit→St→List Blk→Prop:=FnQ Tryd.prog Tryd.f99.results 1 (Zdj s0 r)
theorem Zfi (a0:Nat) (a1:(List Int)) (s0:List Value) (a2:Int) (a3:Int) (r:(Bool × (List Int))) (hF:Zab a0 a1 a2 a3=some r):ACall Tryd.prog glob 99 [(.vw 0 0 a0),(i64 a2),(i64 a3)] [.cells (cel Zb a1 s0)] (Zdj s0 r):=by
 refine ACall.body Tryd.func99 rfl (by kernel_rfl) ?_
 unfold Zab at hF
 refine .seq (.rg0 [] [(0,(.vw 0 0 a0)),(1,(i64 a2)),(2,(i64 a3))] ?_)
 refine .seq (.rg0 [] [(0,(.vw 0 0 a0)),(1,(i64 a2)),(2,(i64 a3)),(7,(i64 (IntKind.wrap .i64 (a2 + (1:Int)))))] ?_)
 refine AWP.seq ?_
 refine .seq (.rg0 [] [(0,(.vw 0 0 a0)),(1,(i64 a2)),(2,(i64 a3)),(7,(i64 (IntKind.wrap .i64 (a2 + (1:Int))))),(8,(i64 (0:Int)))] ?_)
 obtain ⟨o847,h848,hF⟩:=bindb hF
 refine AWP.mid (fun e st H=>(e=.normal∧∃ (v846:(List Int)),o847=(.inl v846)∧st=[]∧H=[.cells (cel Zb v846 s0)])∨(e=.ret∧∃ (r:(Bool × (List Int))),o847=(.inr r)∧Zdk s0 r e st H)) ?_ ?_
 ·clear hF
  refine AWP.kp [0,1,2,7,8] 1 ?_
  refine AWP.bround (fun n st H=>∃ (v423:(List Int)),∃ (v424:Int),∃ (v425:Int),Zz a0 a2 a3 n v423 v424 v425=some o847∧st=[(0,(.vw 0 0 a0)),(1,(i64 a2)),(2,(i64 a3)),(7,(i64 v424)),(8,(i64 v425))]∧H=[.cells (cel Zb v423 s0)]) fuel ⟨a1,(IntKind.wrap .i64 (a2 + (1:Int))),(0:Int),h848,by kernel_rfl,by kernel_rfl⟩ ?_
  rintro n849 st H ⟨v423,v424,v425,hF,rfl,rfl⟩
  cases n849 with
  | zero=>exact noneb hF
  | succ n849=>
   rw [Zz] at hF
   refine AWP.seq ?_
   refine .seq (.rg0 [] [(0,(.vw 0 0 a0)),(1,(i64 a2)),(2,(i64 a3)),(7,(i64 v424)),(8,(i64 v425)),(14,(vb (decide (v425<(5:Int)))))] ?_)
   refine AWP.cif hF (fun h1269 hF=>?_) (fun h1269 hF=>?_)
   ·refine AWP.skip ?_
    obtain ⟨o1059,h1060,hF⟩:=bindb hF
    refine AWP.seq ?_
    refine AWP.mid (fun e st H=>(e=.normal∧∃ (v1057:(List Int)),∃ (v1058:Int),o1059=(.inl (v1057,v1058))∧st=[(0,(.vw 0 0 a0)),(1,(i64 a2)),(2,(i64 a3)),(7,(i64 v1058)),(8,(i64 v425))]∧H=[.cells (cel Zb v1057 s0)])∨(e=.ret∧∃ (r:(Bool × (List Int))),o1059=(.inr r)∧Zdk s0 r e st H)) ?_ ?_
    ·clear hF
     have hF:=h1060
     refine AWP.block ?_
     refine AWP.seq ?_
     obtain ⟨v1075,h1076,hF⟩:=bindb hF
     refine AWP.mid (fun e st H=>e=.normal∧st=[(0,(.vw 0 0 a0)),(1,(i64 a2)),(2,(i64 a3)),(7,(i64 v1075)),(8,(i64 v425))]∧H=[.cells (cel Zb v423 s0)]) ?_ ?_
     ·clear hF
      refine AWP.kp [0,1,2,7,8] 1 ?_
      refine AWP.bround (fun n st H=>∃ (v1061:Int),Zx a0 a3 v423 n v1061=some v1075∧st=[(0,(.vw 0 0 a0)),(1,(i64 a2)),(2,(i64 a3)),(7,(i64 v1061)),(8,(i64 v425))]∧H=[.cells (cel Zb v423 s0)]) fuel ⟨v424,h1076,by kernel_rfl,by kernel_rfl⟩ ?_
      rintro n1077 st H ⟨v1061,hF,rfl,rfl⟩
      cases n1077 with
      | zero=>exact noneb hF
      | succ n1077=>
       rw [Zx] at hF
       refine AWP.seq ?_
       refine AWP.seq ?_
       obtain ⟨b1078,h1079,hF⟩:=bindb hF
       replace h1079:=someb h1079
       obtain ⟨v1086,h1087,hF⟩:=bindb hF
       refine AWP.to [(0,(.vw 0 0 a0)),(1,(i64 a2)),(2,(i64 a3)),(7,(i64 v1061)),(8,(i64 v425)),(32,(vb v1086))] [.cells (cel Zb v423 s0)] ?_ ?_
       ·cases b1078 with
        | false=>
         have h1088:=someb (ifF h1087 rfl)
         subst h1088
         exact AWP.drT [(3,.bool h1079)] 16 [] [] []
        | true=>
         have h1089:=ifT h1087 rfl
         obtain ⟨x1080,h1081,h1089⟩:=bindb h1089
         obtain ⟨x1082,h1083,h1089⟩:=bindb h1089
         obtain ⟨r1084,h1085,h1089⟩:=bindb h1089
         replace h1089:=someb h1089
         subst h1089
         exact AWP.drT [(3,.bool h1079),(6,.idxV (idxn_lt h1081)),(7,.ldV Zb (s:=1) (fun _=>rfl) s0 (idxn_idx h1081) (0 + Int.toNat v1061 * 1) (Nat.zero_add _) []),(11,.idxV (idxn_lt h1083)),(12,.ldV Zb (s:=1) (fun _=>rfl) s0 (idxn_idx h1083) (0 + Int.toNat (IntKind.wrap .i64 (v1061 - (1:Int))) * 1) (Nat.zero_add _) []),(13,.call Tryd.func100 [] (Zav x1080 x1082 r1084 h1085))] 16 [] [] []
       refine AWP.cif hF (fun h1090 hF=>?_) (fun h1090 hF=>?_)
       ·refine AWP.skip ?_
        refine AWP.block ?_
        refine AWP.rg0 [] [(0,(.vw 0 0 a0)),(1,(i64 a2)),(2,(i64 a3)),(7,(i64 (IntKind.wrap .i64 (v1061 + (1:Int))))),(8,(i64 v425))] ?_
        refine LeQ.start ?_
        refine LeQ.pk [0,1,2,7,8] 1 ?_
        exact ⟨n1077,Nat.lt_succ_self _,(IntKind.wrap .i64 (v1061 + (1:Int))),hF,by kernel_rfl,by kernel_rfl⟩
       ·refine AWP.exit ?_
        refine LeQ.start ?_
        refine LeQ.pk [0,1,2,7,8] 1 ?_
        have hr:=someb hF
        subst hr
        exact ⟨rfl,by kernel_rfl,by kernel_rfl⟩
     ·rintro _ _ _ ⟨rfl,rfl,rfl⟩
      refine AWP.seq ?_
      refine .seq (.rg0 [] [(0,(.vw 0 0 a0)),(1,(i64 a2)),(2,(i64 a3)),(7,(i64 v1075)),(8,(i64 v425)),(37,(vb (v1075 == a3)))] ?_)
      refine AWP.cif hF (fun h1267 hF=>?_) (fun h1267 hF=>?_)
      ·refine .seq (.rg0 [] [(6,(vb true))] ?_)
       refine AWP.ret ?_
       exact LeQ.of (.inr ⟨rfl,(true,v423),(someb hF).symm,(FnQ.f0 1 (.inr rfl))⟩)
      ·refine AWP.skip ?_
       refine AWP.seq ?_
       refine .seq (.rg0 [] [(0,(.vw 0 0 a0)),(1,(i64 a2)),(2,(i64 a3)),(7,(i64 v1075)),(8,(i64 v425)),(41,(vb (decide ((IntKind.wrap .i64 (a3 - a2))<(50:Int)))))] ?_)
       refine AWP.cif hF (fun h1266 hF=>?_) (fun h1266 hF=>?_)
       ·refine .seq (.rg0 [] [(6,(vb false))] ?_)
        refine AWP.ret ?_
        exact LeQ.of (.inr ⟨rfl,(false,v423),(someb hF).symm,(FnQ.f0 1 (.inr rfl))⟩)
       ·refine AWP.skip ?_
        refine AWP.seq ?_
        obtain ⟨x1091,h1092,hF⟩:=bindb hF
        obtain ⟨x1093,h1094,hF⟩:=bindb hF
        obtain ⟨x1095,h1096,hF⟩:=bindb hF
        obtain ⟨x1097,h1098,hF⟩:=bindb hF
        refine AWP.dr [(8,.idxV (idxn_lt h1092)),(9,.ldV Zb (s:=1) (fun _=>rfl) s0 (idxn_idx h1092) (0 + Int.toNat (IntKind.wrap .i64 (v1075 - (1:Int))) * 1) (Nat.zero_add _) []),(12,.idxV (idxn_lt h1094)),(13,.ldV Zb (s:=1) (fun _=>rfl) s0 (idxn_idx h1094) (0 + Int.toNat v1075 * 1) (Nat.zero_add _) []),(14,.idxV (idxn_lt h1096)),(15,.stV Zb (s:=1) (fun _=>rfl) s0 (idxn_idx h1096) x1091 (0 + Int.toNat v1075 * 1) (Nat.zero_add _) []),(16,.idxV (idxn_lt h1098)),(17,.stV Zb (s:=1) (fun _=>rfl) s0 (idxn_idx h1098) x1093 (0 + Int.toNat (IntKind.wrap .i64 (v1075 - (1:Int))) * 1) (Nat.zero_add _) [])] 16 [] [15] [] [(0,(.vw 0 0 a0)),(1,(i64 a2)),(2,(i64 a3)),(7,(i64 v1075)),(8,(i64 v425))] [.cells (cel Zb (List.set (List.set v423 (Int.toNat v1075) x1091) (Int.toNat (IntKind.wrap .i64 (v1075 - (1:Int)))) x1093) s0)] ?_
        obtain ⟨v1154,h1155,hF⟩:=bindb hF
        refine AWP.seq ?_
        refine AWP.mid (fun e st H=>e=.normal∧st=[(0,(.vw 0 0 a0)),(1,(i64 a2)),(2,(i64 a3)),(7,(i64 v1075)),(8,(i64 v425))]∧H=[.cells (cel Zb v1154 s0)]) ?_ ?_
        ·clear hF
         have hF:=h1155
         refine .seq (.rg0 [] [(0,(.vw 0 0 a0)),(1,(i64 a2)),(2,(i64 a3)),(7,(i64 v1075)),(8,(i64 v425)),(61,(vb (decide ((IntKind.wrap .i64 (v1075 - a2)) ≥ (2:Int)))))] ?_)
         refine AWP.cif hF (fun h1210 hF=>?_) (fun h1210 hF=>?_)
         ·refine .seq (.rg0 [] [(0,(.vw 0 0 a0)),(1,(i64 a2)),(2,(i64 a3)),(7,(i64 v1075)),(8,(i64 v425)),(9,(i64 (IntKind.wrap .i64 (v1075 - (1:Int)))))] ?_)
          obtain ⟨v1191,h1192,hF⟩:=bindb hF
          refine AWP.mid (fun e st H=>e=.normal∧st=[(0,(.vw 0 0 a0)),(1,(i64 a2)),(2,(i64 a3)),(7,(i64 v1075)),(8,(i64 v425))]∧H=[.cells (cel Zb v1191 s0)]) ?_ ?_
          ·clear hF
           refine AWP.kp [0,1,2,7,8,9] 1 ?_
           refine AWP.bround (fun n st H=>∃ (v1173:(List Int)),∃ (v1174:Int),Zt a0 n v1173 v1174=some v1191∧st=[(0,(.vw 0 0 a0)),(1,(i64 a2)),(2,(i64 a3)),(7,(i64 v1075)),(8,(i64 v425)),(9,(i64 v1174))]∧H=[.cells (cel Zb v1173 s0)]) fuel ⟨(List.set (List.set v423 (Int.toNat v1075) x1091) (Int.toNat (IntKind.wrap .i64 (v1075 - (1:Int)))) x1093),(IntKind.wrap .i64 (v1075 - (1:Int))),h1192,by kernel_rfl,by kernel_rfl⟩ ?_
           rintro n1193 st H ⟨v1173,v1174,hF,rfl,rfl⟩
           cases n1193 with
           | zero=>exact noneb hF
           | succ n1193=>
            rw [Zt] at hF
            refine AWP.seq ?_
            refine .seq (.rg0 [] [(0,(.vw 0 0 a0)),(1,(i64 a2)),(2,(i64 a3)),(7,(i64 v1075)),(8,(i64 v425)),(9,(i64 v1174)),(65,(vb (decide (v1174 ≥ (1:Int)))))] ?_)
            refine AWP.cif hF (fun h1209 hF=>?_) (fun h1209 hF=>?_)
            ·refine AWP.skip ?_
             refine AWP.seq ?_
             refine AWP.block ?_
             refine AWP.seq ?_
             refine AWP.seq ?_
             obtain ⟨x1194,h1195,hF⟩:=bindb hF
             obtain ⟨x1196,h1197,hF⟩:=bindb hF
             obtain ⟨r1198,h1199,hF⟩:=bindb hF
             refine AWP.dr [(2,.idxV (idxn_lt h1195)),(3,.ldV Zb (s:=1) (fun _=>rfl) s0 (idxn_idx h1195) (0 + Int.toNat v1174 * 1) (Nat.zero_add _) []),(7,.idxV (idxn_lt h1197)),(8,.ldV Zb (s:=1) (fun _=>rfl) s0 (idxn_idx h1197) (0 + Int.toNat (IntKind.wrap .i64 (v1174 - (1:Int))) * 1) (Nat.zero_add _) []),(9,.call Tryd.func100 [] (Zav x1194 x1196 r1198 h1199))] 11 [] [] [] [(0,(.vw 0 0 a0)),(1,(i64 a2)),(2,(i64 a3)),(7,(i64 v1075)),(8,(i64 v425)),(9,(i64 v1174)),(78,(vb (!r1198)))] [.cells (cel Zb v1173 s0)] ?_
             refine AWP.cif hF (fun h1208 hF=>?_) (fun h1208 hF=>?_)
             ·refine AWP.exit ?_
              refine LeQ.start ?_
              refine LeQ.pk [0,1,2,7,8] 1 ?_
              have hr:=someb hF
              subst hr
              exact ⟨rfl,by kernel_rfl,by kernel_rfl⟩
             ·refine AWP.skip ?_
              obtain ⟨x1200,h1201,hF⟩:=bindb hF
              obtain ⟨x1202,h1203,hF⟩:=bindb hF
              obtain ⟨x1204,h1205,hF⟩:=bindb hF
              obtain ⟨x1206,h1207,hF⟩:=bindb hF
              refine AWP.dr [(8,.idxV (idxn_lt h1201)),(9,.ldV Zb (s:=1) (fun _=>rfl) s0 (idxn_idx h1201) (0 + Int.toNat (IntKind.wrap .i64 (v1174 - (1:Int))) * 1) (Nat.zero_add _) []),(12,.idxV (idxn_lt h1203)),(13,.ldV Zb (s:=1) (fun _=>rfl) s0 (idxn_idx h1203) (0 + Int.toNat v1174 * 1) (Nat.zero_add _) []),(14,.idxV (idxn_lt h1205)),(15,.stV Zb (s:=1) (fun _=>rfl) s0 (idxn_idx h1205) x1200 (0 + Int.toNat v1174 * 1) (Nat.zero_add _) []),(16,.idxV (idxn_lt h1207)),(17,.stV Zb (s:=1) (fun _=>rfl) s0 (idxn_idx h1207) x1202 (0 + Int.toNat (IntKind.wrap .i64 (v1174 - (1:Int))) * 1) (Nat.zero_add _) [])] 16 [] [15] [] [(0,(.vw 0 0 a0)),(1,(i64 a2)),(2,(i64 a3)),(7,(i64 v1075)),(8,(i64 v425)),(9,(i64 v1174))] [.cells (cel Zb (List.set (List.set v1173 (Int.toNat v1174) x1200) (Int.toNat (IntKind.wrap .i64 (v1174 - (1:Int)))) x1202) s0)] ?_
              refine AWP.rg0 [] [(0,(.vw 0 0 a0)),(1,(i64 a2)),(2,(i64 a3)),(7,(i64 v1075)),(8,(i64 v425)),(9,(i64 (IntKind.wrap .i64 (v1174 - (1:Int)))))] ?_
              refine LeQ.start ?_
              refine LeQ.pk [0,1,2,7,8,9] 1 ?_
              exact ⟨n1193,Nat.lt_succ_self _,(List.set (List.set v1173 (Int.toNat v1174) x1200) (Int.toNat (IntKind.wrap .i64 (v1174 - (1:Int)))) x1202),(IntKind.wrap .i64 (v1174 - (1:Int))),hF,by kernel_rfl,by kernel_rfl⟩
            ·refine AWP.exit ?_
             refine LeQ.start ?_
             refine LeQ.pk [0,1,2,7,8] 1 ?_
             have hr:=someb hF
             subst hr
             exact ⟨rfl,by kernel_rfl,by kernel_rfl⟩
          ·rintro _ _ _ ⟨rfl,rfl,rfl⟩
           refine LeQ.start ?_
           refine LeQ.pk [0,1,2,7,8] 1 ?_
           have hr:=someb hF
           subst hr
           exact ⟨rfl,by kernel_rfl,by kernel_rfl⟩
         ·refine AWP.skip ?_
          refine LeQ.start ?_
          refine LeQ.pk [0,1,2,7,8] 1 ?_
          have hr:=someb hF
          subst hr
          exact ⟨rfl,by kernel_rfl,by kernel_rfl⟩
        ·rintro _ _ _ ⟨rfl,rfl,rfl⟩
         refine .seq (.rg0 [] [(0,(.vw 0 0 a0)),(1,(i64 a2)),(2,(i64 a3)),(7,(i64 v1075)),(8,(i64 v425)),(98,(vb (decide ((IntKind.wrap .i64 (a3 - v1075)) ≥ (2:Int)))))] ?_)
         refine AWP.cif hF (fun h1265 hF=>?_) (fun h1265 hF=>?_)
         ·refine .seq (.rg0 [] [(0,(.vw 0 0 a0)),(1,(i64 a2)),(2,(i64 a3)),(7,(i64 v1075)),(8,(i64 v425)),(10,(i64 (IntKind.wrap .i64 (v1075 + (1:Int)))))] ?_)
          obtain ⟨v1246,h1247,hF⟩:=bindb hF
          refine AWP.mid (fun e st H=>e=.normal∧st=[(0,(.vw 0 0 a0)),(1,(i64 a2)),(2,(i64 a3)),(7,(i64 v1075)),(8,(i64 v425))]∧H=[.cells (cel Zb v1246 s0)]) ?_ ?_
          ·clear hF
           refine AWP.kp [0,1,2,7,8,10] 1 ?_
           refine AWP.bround (fun n st H=>∃ (v1228:(List Int)),∃ (v1229:Int),Zy a0 a3 n v1228 v1229=some v1246∧st=[(0,(.vw 0 0 a0)),(1,(i64 a2)),(2,(i64 a3)),(7,(i64 v1075)),(8,(i64 v425)),(10,(i64 v1229))]∧H=[.cells (cel Zb v1228 s0)]) fuel ⟨v1154,(IntKind.wrap .i64 (v1075 + (1:Int))),h1247,by kernel_rfl,by kernel_rfl⟩ ?_
           rintro n1248 st H ⟨v1228,v1229,hF,rfl,rfl⟩
           cases n1248 with
           | zero=>exact noneb hF
           | succ n1248=>
            rw [Zy] at hF
            refine AWP.seq ?_
            refine .seq (.rg0 [] [(0,(.vw 0 0 a0)),(1,(i64 a2)),(2,(i64 a3)),(7,(i64 v1075)),(8,(i64 v425)),(10,(i64 v1229)),(103,(vb (decide (v1229<a3))))] ?_)
            refine AWP.cif hF (fun h1264 hF=>?_) (fun h1264 hF=>?_)
            ·refine AWP.skip ?_
             refine AWP.seq ?_
             refine AWP.block ?_
             refine AWP.seq ?_
             refine AWP.seq ?_
             obtain ⟨x1249,h1250,hF⟩:=bindb hF
             obtain ⟨x1251,h1252,hF⟩:=bindb hF
             obtain ⟨r1253,h1254,hF⟩:=bindb hF
             refine AWP.dr [(2,.idxV (idxn_lt h1250)),(3,.ldV Zb (s:=1) (fun _=>rfl) s0 (idxn_idx h1250) (0 + Int.toNat v1229 * 1) (Nat.zero_add _) []),(7,.idxV (idxn_lt h1252)),(8,.ldV Zb (s:=1) (fun _=>rfl) s0 (idxn_idx h1252) (0 + Int.toNat (IntKind.wrap .i64 (v1229 - (1:Int))) * 1) (Nat.zero_add _) []),(9,.call Tryd.func100 [] (Zav x1249 x1251 r1253 h1254))] 11 [] [] [] [(0,(.vw 0 0 a0)),(1,(i64 a2)),(2,(i64 a3)),(7,(i64 v1075)),(8,(i64 v425)),(10,(i64 v1229)),(116,(vb (!r1253)))] [.cells (cel Zb v1228 s0)] ?_
             refine AWP.cif hF (fun h1263 hF=>?_) (fun h1263 hF=>?_)
             ·refine AWP.exit ?_
              refine LeQ.start ?_
              refine LeQ.pk [0,1,2,7,8] 1 ?_
              have hr:=someb hF
              subst hr
              exact ⟨rfl,by kernel_rfl,by kernel_rfl⟩
             ·refine AWP.skip ?_
              obtain ⟨x1255,h1256,hF⟩:=bindb hF
              obtain ⟨x1257,h1258,hF⟩:=bindb hF
              obtain ⟨x1259,h1260,hF⟩:=bindb hF
              obtain ⟨x1261,h1262,hF⟩:=bindb hF
              refine AWP.dr [(8,.idxV (idxn_lt h1256)),(9,.ldV Zb (s:=1) (fun _=>rfl) s0 (idxn_idx h1256) (0 + Int.toNat (IntKind.wrap .i64 (v1229 - (1:Int))) * 1) (Nat.zero_add _) []),(12,.idxV (idxn_lt h1258)),(13,.ldV Zb (s:=1) (fun _=>rfl) s0 (idxn_idx h1258) (0 + Int.toNat v1229 * 1) (Nat.zero_add _) []),(14,.idxV (idxn_lt h1260)),(15,.stV Zb (s:=1) (fun _=>rfl) s0 (idxn_idx h1260) x1255 (0 + Int.toNat v1229 * 1) (Nat.zero_add _) []),(16,.idxV (idxn_lt h1262)),(17,.stV Zb (s:=1) (fun _=>rfl) s0 (idxn_idx h1262) x1257 (0 + Int.toNat (IntKind.wrap .i64 (v1229 - (1:Int))) * 1) (Nat.zero_add _) [])] 16 [] [15] [] [(0,(.vw 0 0 a0)),(1,(i64 a2)),(2,(i64 a3)),(7,(i64 v1075)),(8,(i64 v425)),(10,(i64 v1229))] [.cells (cel Zb (List.set (List.set v1228 (Int.toNat v1229) x1255) (Int.toNat (IntKind.wrap .i64 (v1229 - (1:Int)))) x1257) s0)] ?_
              refine AWP.rg0 [] [(0,(.vw 0 0 a0)),(1,(i64 a2)),(2,(i64 a3)),(7,(i64 v1075)),(8,(i64 v425)),(10,(i64 (IntKind.wrap .i64 (v1229 + (1:Int)))))] ?_
              refine LeQ.start ?_
              refine LeQ.pk [0,1,2,7,8,10] 1 ?_
              exact ⟨n1248,Nat.lt_succ_self _,(List.set (List.set v1228 (Int.toNat v1229) x1255) (Int.toNat (IntKind.wrap .i64 (v1229 - (1:Int)))) x1257),(IntKind.wrap .i64 (v1229 + (1:Int))),hF,by kernel_rfl,by kernel_rfl⟩
            ·refine AWP.exit ?_
             refine LeQ.start ?_
             refine LeQ.pk [0,1,2,7,8] 1 ?_
             have hr:=someb hF
             subst hr
             exact ⟨rfl,by kernel_rfl,by kernel_rfl⟩
          ·rintro _ _ _ ⟨rfl,rfl,rfl⟩
           refine LeQ.start ?_
           refine LeQ.pk [0,1,2,7,8] 1 ?_
           exact (.inl ⟨rfl,v1246,v1075,(someb hF).symm,by kernel_rfl,by kernel_rfl⟩)
         ·refine AWP.skip ?_
          refine LeQ.start ?_
          refine LeQ.pk [0,1,2,7,8] 1 ?_
          exact (.inl ⟨rfl,v1154,v1075,(someb hF).symm,by kernel_rfl,by kernel_rfl⟩)
    ·rintro _ _ _ (⟨rfl,v1057,v1058,rfl,rfl,rfl⟩ | ⟨rfl,r1268,rfl,hq⟩)
     ·refine AWP.rg0 [] [(0,(.vw 0 0 a0)),(1,(i64 a2)),(2,(i64 a3)),(7,(i64 v1058)),(8,(i64 (IntKind.wrap .i64 (v425 + (1:Int)))))] ?_
      refine LeQ.start ?_
      refine LeQ.pk [0,1,2,7,8] 1 ?_
      exact ⟨n849,Nat.lt_succ_self _,v1057,v1058,(IntKind.wrap .i64 (v425 + (1:Int))),hF,by kernel_rfl,by kernel_rfl⟩
     ·exact LeQ.of (.inr ⟨rfl,r1268,(someb hF).symm,hq⟩)
   ·refine AWP.exit ?_
    refine LeQ.start ?_
    refine LeQ.pk [] 1 ?_
    exact (.inl ⟨rfl,v423,(someb hF).symm,by kernel_rfl,by kernel_rfl⟩)
 ·rintro _ _ _ (⟨rfl,v846,rfl,rfl,rfl⟩ | ⟨rfl,r1270,rfl,hq⟩)
  ·refine .seq (.rg0 [] [(6,(vb false))] ?_)
   refine AWP.ret ?_
   have hr:=someb hF
   subst hr
   exact (FnQ.f0 1 (.inr rfl))
  ·have hr:=someb hF
   subst hr
   exact hq
def Zfy (s0:List Value) (r:(Int × (List Int))):PV→List Blk→Prop:=fun p K=>p=(i64 r.1)∧K=[.cells (cel Zb r.2 s0)]
theorem Zfz (a0:Nat) (a1:(List Int)) (s0:List Value) (a2:Int) (a3:Int) (a4:Int) (r:(Int × (List Int))) (hF:Zbi a0 a1 a2 a3 a4=some r):ACall Tryd.prog glob 101 [(.vw 0 0 a0),(i64 a2),(i64 a3),(i64 a4)] [.cells (cel Zb a1 s0)] (Zfy s0 r):=by
 refine ACall.body Tryd.func101 rfl (by kernel_rfl) ?_
 unfold Zbi at hF
 refine .seq (.rg0 [] [(0,(.vw 0 0 a0)),(1,(i64 a2)),(2,(i64 a3)),(3,(i64 a4))] ?_)
 refine AWP.seq ?_
 obtain ⟨x1,h2,hF⟩:=bindb hF
 obtain ⟨x3,h4,hF⟩:=bindb hF
 obtain ⟨x5,h6,hF⟩:=bindb hF
 obtain ⟨x7,h8,hF⟩:=bindb hF
 refine AWP.dr [(6,.idxV (idxn_lt h2)),(7,.ldV Zb (s:=1) (fun _=>rfl) s0 (idxn_idx h2) (0 + Int.toNat a4 * 1) (Nat.zero_add _) []),(10,.idxV (idxn_lt h4)),(11,.ldV Zb (s:=1) (fun _=>rfl) s0 (idxn_idx h4) (0 + Int.toNat a2 * 1) (Nat.zero_add _) []),(12,.idxV (idxn_lt h6)),(13,.stV Zb (s:=1) (fun _=>rfl) s0 (idxn_idx h6) x1 (0 + Int.toNat a2 * 1) (Nat.zero_add _) []),(14,.idxV (idxn_lt h8)),(15,.stV Zb (s:=1) (fun _=>rfl) s0 (idxn_idx h8) x3 (0 + Int.toNat a4 * 1) (Nat.zero_add _) [])] 14 [] [13] [] [(0,(.vw 0 0 a0)),(1,(i64 a2)),(2,(i64 a3))] [.cells (cel Zb (List.set (List.set a1 (Int.toNat a2) x1) (Int.toNat a4) x3) s0)] ?_
 refine .seq (.rg0 [] [(0,(.vw 0 0 a0)),(1,(i64 a2)),(9,(i64 (IntKind.wrap .i64 (a2 + (1:Int))))),(10,(i64 (IntKind.wrap .i64 (a3 - (1:Int)))))] ?_)
 refine AWP.seq ?_
 obtain ⟨o154,h155,hF⟩:=bindb hF
 refine AWP.mid (fun e st H=>(e=.normal∧∃ (v152:(List Int)),∃ (v153:Int),o154=(v152,v153)∧st=[(9,(i64 v153))]∧H=[.cells (cel Zb v152 s0)])) ?_ ?_
 ·clear hF
  refine AWP.kp [0,1,9,10] 1 ?_
  refine AWP.bround (fun n st H=>∃ (v80:(List Int)),∃ (v81:Int),∃ (v82:Int),Z6 a0 a2 n v80 v81 v82=some o154∧st=[(0,(.vw 0 0 a0)),(1,(i64 a2)),(9,(i64 v81)),(10,(i64 v82))]∧H=[.cells (cel Zb v80 s0)]) fuel ⟨(List.set (List.set a1 (Int.toNat a2) x1) (Int.toNat a4) x3),(IntKind.wrap .i64 (a2 + (1:Int))),(IntKind.wrap .i64 (a3 - (1:Int))),h155,by kernel_rfl,by kernel_rfl⟩ ?_
  rintro n156 st H ⟨v80,v81,v82,hF,rfl,rfl⟩
  cases n156 with
  | zero=>exact noneb hF
  | succ n156=>
   rw [Z6] at hF
   refine AWP.block ?_
   refine AWP.seq ?_
   obtain ⟨v171,h172,hF⟩:=bindb hF
   refine AWP.mid (fun e st H=>e=.normal∧st=[(0,(.vw 0 0 a0)),(1,(i64 a2)),(9,(i64 v171)),(10,(i64 v82))]∧H=[.cells (cel Zb v80 s0)]) ?_ ?_
   ·clear hF
    refine AWP.kp [0,1,9,10] 1 ?_
    refine AWP.bround (fun n st H=>∃ (v157:Int),Zah a0 a2 v80 v82 n v157=some v171∧st=[(0,(.vw 0 0 a0)),(1,(i64 a2)),(9,(i64 v157)),(10,(i64 v82))]∧H=[.cells (cel Zb v80 s0)]) fuel ⟨v81,h172,by kernel_rfl,by kernel_rfl⟩ ?_
    rintro n173 st H ⟨v157,hF,rfl,rfl⟩
    cases n173 with
    | zero=>exact noneb hF
    | succ n173=>
     rw [Zah] at hF
     refine AWP.seq ?_
     refine AWP.seq ?_
     obtain ⟨b174,h175,hF⟩:=bindb hF
     replace h175:=someb h175
     obtain ⟨v182,h183,hF⟩:=bindb hF
     refine AWP.to [(0,(.vw 0 0 a0)),(1,(i64 a2)),(9,(i64 v157)),(10,(i64 v82)),(43,(vb v182))] [.cells (cel Zb v80 s0)] ?_ ?_
     ·cases b174 with
      | false=>
       have h184:=someb (ifF h183 rfl)
       subst h184
       exact AWP.drT [(3,.bool h175)] 15 [] [] []
      | true=>
       have h185:=ifT h183 rfl
       obtain ⟨x176,h177,h185⟩:=bindb h185
       obtain ⟨x178,h179,h185⟩:=bindb h185
       obtain ⟨r180,h181,h185⟩:=bindb h185
       replace h185:=someb h185
       subst h185
       exact AWP.drT [(3,.bool h175),(6,.idxV (idxn_lt h177)),(7,.ldV Zb (s:=1) (fun _=>rfl) s0 (idxn_idx h177) (0 + Int.toNat a2 * 1) (Nat.zero_add _) []),(10,.idxV (idxn_lt h179)),(11,.ldV Zb (s:=1) (fun _=>rfl) s0 (idxn_idx h179) (0 + Int.toNat v157 * 1) (Nat.zero_add _) []),(12,.call Tryd.func100 [] (Zav x176 x178 r180 h181))] 15 [] [] []
     refine AWP.cif hF (fun h186 hF=>?_) (fun h186 hF=>?_)
     ·refine AWP.skip ?_
      refine AWP.block ?_
      refine AWP.rg0 [] [(0,(.vw 0 0 a0)),(1,(i64 a2)),(9,(i64 (IntKind.wrap .i64 (v157 + (1:Int))))),(10,(i64 v82))] ?_
      refine LeQ.start ?_
      refine LeQ.pk [0,1,9,10] 1 ?_
      exact ⟨n173,Nat.lt_succ_self _,(IntKind.wrap .i64 (v157 + (1:Int))),hF,by kernel_rfl,by kernel_rfl⟩
     ·refine AWP.exit ?_
      refine LeQ.start ?_
      refine LeQ.pk [0,1,9,10] 1 ?_
      have hr:=someb hF
      subst hr
      exact ⟨rfl,by kernel_rfl,by kernel_rfl⟩
   ·rintro _ _ _ ⟨rfl,rfl,rfl⟩
    refine AWP.seq ?_
    obtain ⟨v201,h202,hF⟩:=bindb hF
    refine AWP.mid (fun e st H=>e=.normal∧st=[(0,(.vw 0 0 a0)),(1,(i64 a2)),(9,(i64 v171)),(10,(i64 v201))]∧H=[.cells (cel Zb v80 s0)]) ?_ ?_
    ·clear hF
     refine AWP.kp [0,1,9,10] 1 ?_
     refine AWP.bround (fun n st H=>∃ (v187:Int),Zai a0 a2 v80 v171 n v187=some v201∧st=[(0,(.vw 0 0 a0)),(1,(i64 a2)),(9,(i64 v171)),(10,(i64 v187))]∧H=[.cells (cel Zb v80 s0)]) fuel ⟨v82,h202,by kernel_rfl,by kernel_rfl⟩ ?_
     rintro n203 st H ⟨v187,hF,rfl,rfl⟩
     cases n203 with
     | zero=>exact noneb hF
     | succ n203=>
      rw [Zai] at hF
      refine AWP.seq ?_
      refine AWP.seq ?_
      obtain ⟨b204,h205,hF⟩:=bindb hF
      replace h205:=someb h205
      obtain ⟨v212,h213,hF⟩:=bindb hF
      refine AWP.to [(0,(.vw 0 0 a0)),(1,(i64 a2)),(9,(i64 v171)),(10,(i64 v187)),(59,(vb v212))] [.cells (cel Zb v80 s0)] ?_ ?_
      ·cases b204 with
       | false=>
        have h214:=someb (ifF h213 rfl)
        subst h214
        exact AWP.drT [(3,.bool h205)] 14 [] [] []
       | true=>
        have h215:=ifT h213 rfl
        obtain ⟨x206,h207,h215⟩:=bindb h215
        obtain ⟨x208,h209,h215⟩:=bindb h215
        obtain ⟨r210,h211,h215⟩:=bindb h215
        replace h215:=someb h215
        subst h215
        exact AWP.drT [(3,.bool h205),(6,.idxV (idxn_lt h207)),(7,.ldV Zb (s:=1) (fun _=>rfl) s0 (idxn_idx h207) (0 + Int.toNat a2 * 1) (Nat.zero_add _) []),(10,.idxV (idxn_lt h209)),(11,.ldV Zb (s:=1) (fun _=>rfl) s0 (idxn_idx h209) (0 + Int.toNat v187 * 1) (Nat.zero_add _) []),(12,.call Tryd.func100 [] (Zav x206 x208 r210 h211))] 14 [] [] []
      refine AWP.cif hF (fun h216 hF=>?_) (fun h216 hF=>?_)
      ·refine AWP.skip ?_
       refine AWP.block ?_
       refine AWP.rg0 [] [(0,(.vw 0 0 a0)),(1,(i64 a2)),(9,(i64 v171)),(10,(i64 (IntKind.wrap .i64 (v187 - (1:Int)))))] ?_
       refine LeQ.start ?_
       refine LeQ.pk [0,1,9,10] 1 ?_
       exact ⟨n203,Nat.lt_succ_self _,(IntKind.wrap .i64 (v187 - (1:Int))),hF,by kernel_rfl,by kernel_rfl⟩
      ·refine AWP.exit ?_
       refine LeQ.start ?_
       refine LeQ.pk [0,1,9,10] 1 ?_
       have hr:=someb hF
       subst hr
       exact ⟨rfl,by kernel_rfl,by kernel_rfl⟩
    ·rintro _ _ _ ⟨rfl,rfl,rfl⟩
     refine AWP.seq ?_
     refine .seq (.rg0 [] [(0,(.vw 0 0 a0)),(1,(i64 a2)),(9,(i64 v171)),(10,(i64 v201)),(64,(vb (decide (v171 > v201))))] ?_)
     refine AWP.cif hF (fun h225 hF=>?_) (fun h225 hF=>?_)
     ·refine AWP.exit ?_
      refine LeQ.start ?_
      refine LeQ.pk [9] 1 ?_
      exact ⟨rfl,v80,v171,(someb hF).symm,by kernel_rfl,by kernel_rfl⟩
     ·refine AWP.skip ?_
      refine AWP.seq ?_
      obtain ⟨x217,h218,hF⟩:=bindb hF
      obtain ⟨x219,h220,hF⟩:=bindb hF
      obtain ⟨x221,h222,hF⟩:=bindb hF
      obtain ⟨x223,h224,hF⟩:=bindb hF
      refine AWP.dr [(6,.idxV (idxn_lt h218)),(7,.ldV Zb (s:=1) (fun _=>rfl) s0 (idxn_idx h218) (0 + Int.toNat v201 * 1) (Nat.zero_add _) []),(10,.idxV (idxn_lt h220)),(11,.ldV Zb (s:=1) (fun _=>rfl) s0 (idxn_idx h220) (0 + Int.toNat v171 * 1) (Nat.zero_add _) []),(12,.idxV (idxn_lt h222)),(13,.stV Zb (s:=1) (fun _=>rfl) s0 (idxn_idx h222) x217 (0 + Int.toNat v171 * 1) (Nat.zero_add _) []),(14,.idxV (idxn_lt h224)),(15,.stV Zb (s:=1) (fun _=>rfl) s0 (idxn_idx h224) x219 (0 + Int.toNat v201 * 1) (Nat.zero_add _) [])] 14 [] [13] [] [(0,(.vw 0 0 a0)),(1,(i64 a2)),(9,(i64 v171)),(10,(i64 v201))] [.cells (cel Zb (List.set (List.set v80 (Int.toNat v171) x217) (Int.toNat v201) x219) s0)] ?_
      refine .seq (.rg0 [] [(0,(.vw 0 0 a0)),(1,(i64 a2)),(9,(i64 (IntKind.wrap .i64 (v171 + (1:Int))))),(10,(i64 v201))] ?_)
      refine AWP.rg0 [] [(0,(.vw 0 0 a0)),(1,(i64 a2)),(9,(i64 (IntKind.wrap .i64 (v171 + (1:Int))))),(10,(i64 (IntKind.wrap .i64 (v201 - (1:Int)))))] ?_
      refine LeQ.start ?_
      refine LeQ.pk [0,1,9,10] 1 ?_
      exact ⟨n156,Nat.lt_succ_self _,(List.set (List.set v80 (Int.toNat v171) x217) (Int.toNat v201) x219),(IntKind.wrap .i64 (v171 + (1:Int))),(IntKind.wrap .i64 (v201 - (1:Int))),hF,by kernel_rfl,by kernel_rfl⟩
 ·rintro _ _ _ ⟨rfl,v152,v153,rfl,rfl,rfl⟩
  refine .seq (.rg0 [] [(8,(i64 v153))] ?_)
  refine AWP.ret ?_
  have hr:=someb hF
  subst hr
  exact (FnQ.f0 1 (.inr rfl))
def Zgp (s0:List Value) (r:(Int × Bool × (List Int))):PV→List Blk→Prop:=fun p K=>p=(.tup [(i64 r.1),(vb r.2.1)])∧K=[.cells (cel Zb r.2.2 s0)]
theorem Zgq (a0:Nat) (a1:(List Int)) (s0:List Value) (a2:Int) (a3:Int) (a4:Int) (r:(Int × Bool × (List Int))) (hF:Zbz a0 a1 a2 a3 a4=some r):ACall Tryd.prog glob 102 [(.vw 0 0 a0),(i64 a2),(i64 a3),(i64 a4)] [.cells (cel Zb a1 s0)] (Zgp s0 r):=by
 refine ACall.body Tryd.func102 rfl (by kernel_rfl) ?_
 unfold Zbz at hF
 refine .seq (.rg0 [] [(0,(.vw 0 0 a0)),(1,(i64 a2)),(2,(i64 a3)),(3,(i64 a4))] ?_)
 refine AWP.seq ?_
 obtain ⟨x1,h2,hF⟩:=bindb hF
 obtain ⟨x3,h4,hF⟩:=bindb hF
 obtain ⟨x5,h6,hF⟩:=bindb hF
 obtain ⟨x7,h8,hF⟩:=bindb hF
 refine AWP.dr [(6,.idxV (idxn_lt h2)),(7,.ldV Zb (s:=1) (fun _=>rfl) s0 (idxn_idx h2) (0 + Int.toNat a4 * 1) (Nat.zero_add _) []),(10,.idxV (idxn_lt h4)),(11,.ldV Zb (s:=1) (fun _=>rfl) s0 (idxn_idx h4) (0 + Int.toNat a2 * 1) (Nat.zero_add _) []),(12,.idxV (idxn_lt h6)),(13,.stV Zb (s:=1) (fun _=>rfl) s0 (idxn_idx h6) x1 (0 + Int.toNat a2 * 1) (Nat.zero_add _) []),(14,.idxV (idxn_lt h8)),(15,.stV Zb (s:=1) (fun _=>rfl) s0 (idxn_idx h8) x3 (0 + Int.toNat a4 * 1) (Nat.zero_add _) [])] 14 [] [13] [] [(0,(.vw 0 0 a0)),(1,(i64 a2)),(2,(i64 a3))] [.cells (cel Zb (List.set (List.set a1 (Int.toNat a2) x1) (Int.toNat a4) x3) s0)] ?_
 refine .seq (.rg0 [] [(0,(.vw 0 0 a0)),(1,(i64 a2)),(10,(i64 (IntKind.wrap .i64 (a2 + (1:Int))))),(11,(i64 (IntKind.wrap .i64 (a3 - (1:Int)))))] ?_)
 refine AWP.seq ?_
 obtain ⟨v23,h24,hF⟩:=bindb hF
 refine AWP.mid (fun e st H=>e=.normal∧st=[(0,(.vw 0 0 a0)),(1,(i64 a2)),(10,(i64 v23)),(11,(i64 (IntKind.wrap .i64 (a3 - (1:Int)))))]∧H=[.cells (cel Zb (List.set (List.set a1 (Int.toNat a2) x1) (Int.toNat a4) x3) s0)]) ?_ ?_
 ·clear hF
  refine AWP.kp [0,1,10,11] 1 ?_
  refine AWP.bround (fun n st H=>∃ (v9:Int),Za0 a0 a1 a2 a3 a4 x1 x3 n v9=some v23∧st=[(0,(.vw 0 0 a0)),(1,(i64 a2)),(10,(i64 v9)),(11,(i64 (IntKind.wrap .i64 (a3 - (1:Int)))))]∧H=[.cells (cel Zb (List.set (List.set a1 (Int.toNat a2) x1) (Int.toNat a4) x3) s0)]) fuel ⟨(IntKind.wrap .i64 (a2 + (1:Int))),h24,by kernel_rfl,by kernel_rfl⟩ ?_
  rintro n25 st H ⟨v9,hF,rfl,rfl⟩
  cases n25 with
  | zero=>exact noneb hF
  | succ n25=>
   rw [Za0] at hF
   refine AWP.seq ?_
   refine AWP.seq ?_
   obtain ⟨b26,h27,hF⟩:=bindb hF
   replace h27:=someb h27
   obtain ⟨v34,h35,hF⟩:=bindb hF
   refine AWP.to [(0,(.vw 0 0 a0)),(1,(i64 a2)),(10,(i64 v9)),(11,(i64 (IntKind.wrap .i64 (a3 - (1:Int))))),(43,(vb v34))] [.cells (cel Zb (List.set (List.set a1 (Int.toNat a2) x1) (Int.toNat a4) x3) s0)] ?_ ?_
   ·cases b26 with
    | false=>
     have h36:=someb (ifF h35 rfl)
     subst h36
     exact AWP.drT [(3,.bool h27)] 14 [] [] []
    | true=>
     have h37:=ifT h35 rfl
     obtain ⟨x28,h29,h37⟩:=bindb h37
     obtain ⟨x30,h31,h37⟩:=bindb h37
     obtain ⟨r32,h33,h37⟩:=bindb h37
     replace h37:=someb h37
     subst h37
     exact AWP.drT [(3,.bool h27),(6,.idxV (idxn_lt h29)),(7,.ldV Zb (s:=1) (fun _=>rfl) s0 (idxn_idx h29) (0 + Int.toNat v9 * 1) (Nat.zero_add _) []),(10,.idxV (idxn_lt h31)),(11,.ldV Zb (s:=1) (fun _=>rfl) s0 (idxn_idx h31) (0 + Int.toNat a2 * 1) (Nat.zero_add _) []),(12,.call Tryd.func100 [] (Zav x28 x30 r32 h33))] 14 [] [] []
   refine AWP.cif hF (fun h38 hF=>?_) (fun h38 hF=>?_)
   ·refine AWP.skip ?_
    refine AWP.block ?_
    refine AWP.rg0 [] [(0,(.vw 0 0 a0)),(1,(i64 a2)),(10,(i64 (IntKind.wrap .i64 (v9 + (1:Int))))),(11,(i64 (IntKind.wrap .i64 (a3 - (1:Int)))))] ?_
    refine LeQ.start ?_
    refine LeQ.pk [0,1,10,11] 1 ?_
    exact ⟨n25,Nat.lt_succ_self _,(IntKind.wrap .i64 (v9 + (1:Int))),hF,by kernel_rfl,by kernel_rfl⟩
   ·refine AWP.exit ?_
    refine LeQ.start ?_
    refine LeQ.pk [0,1,10,11] 1 ?_
    have hr:=someb hF
    subst hr
    exact ⟨rfl,by kernel_rfl,by kernel_rfl⟩
 ·rintro _ _ _ ⟨rfl,rfl,rfl⟩
  refine AWP.seq ?_
  obtain ⟨v53,h54,hF⟩:=bindb hF
  refine AWP.mid (fun e st H=>e=.normal∧st=[(0,(.vw 0 0 a0)),(1,(i64 a2)),(10,(i64 v23)),(11,(i64 v53))]∧H=[.cells (cel Zb (List.set (List.set a1 (Int.toNat a2) x1) (Int.toNat a4) x3) s0)]) ?_ ?_
  ·clear hF
   refine AWP.kp [0,1,10,11] 1 ?_
   refine AWP.bround (fun n st H=>∃ (v39:Int),Za1 a0 a1 a2 a4 x1 x3 v23 n v39=some v53∧st=[(0,(.vw 0 0 a0)),(1,(i64 a2)),(10,(i64 v23)),(11,(i64 v39))]∧H=[.cells (cel Zb (List.set (List.set a1 (Int.toNat a2) x1) (Int.toNat a4) x3) s0)]) fuel ⟨(IntKind.wrap .i64 (a3 - (1:Int))),h54,by kernel_rfl,by kernel_rfl⟩ ?_
   rintro n55 st H ⟨v39,hF,rfl,rfl⟩
   cases n55 with
   | zero=>exact noneb hF
   | succ n55=>
    rw [Za1] at hF
    refine AWP.seq ?_
    refine AWP.seq ?_
    obtain ⟨b56,h57,hF⟩:=bindb hF
    replace h57:=someb h57
    obtain ⟨v64,h65,hF⟩:=bindb hF
    refine AWP.to [(0,(.vw 0 0 a0)),(1,(i64 a2)),(10,(i64 v23)),(11,(i64 v39)),(60,(vb v64))] [.cells (cel Zb (List.set (List.set a1 (Int.toNat a2) x1) (Int.toNat a4) x3) s0)] ?_ ?_
    ·cases b56 with
     | false=>
      have h66:=someb (ifF h65 rfl)
      subst h66
      exact AWP.drT [(3,.bool h57)] 15 [] [] []
     | true=>
      have h67:=ifT h65 rfl
      obtain ⟨x58,h59,h67⟩:=bindb h67
      obtain ⟨x60,h61,h67⟩:=bindb h67
      obtain ⟨r62,h63,h67⟩:=bindb h67
      replace h67:=someb h67
      subst h67
      exact AWP.drT [(3,.bool h57),(6,.idxV (idxn_lt h59)),(7,.ldV Zb (s:=1) (fun _=>rfl) s0 (idxn_idx h59) (0 + Int.toNat v39 * 1) (Nat.zero_add _) []),(10,.idxV (idxn_lt h61)),(11,.ldV Zb (s:=1) (fun _=>rfl) s0 (idxn_idx h61) (0 + Int.toNat a2 * 1) (Nat.zero_add _) []),(12,.call Tryd.func100 [] (Zav x58 x60 r62 h63))] 15 [] [] []
    refine AWP.cif hF (fun h68 hF=>?_) (fun h68 hF=>?_)
    ·refine AWP.skip ?_
     refine AWP.block ?_
     refine AWP.rg0 [] [(0,(.vw 0 0 a0)),(1,(i64 a2)),(10,(i64 v23)),(11,(i64 (IntKind.wrap .i64 (v39 - (1:Int)))))] ?_
     refine LeQ.start ?_
     refine LeQ.pk [0,1,10,11] 1 ?_
     exact ⟨n55,Nat.lt_succ_self _,(IntKind.wrap .i64 (v39 - (1:Int))),hF,by kernel_rfl,by kernel_rfl⟩
    ·refine AWP.exit ?_
     refine LeQ.start ?_
     refine LeQ.pk [0,1,10,11] 1 ?_
     have hr:=someb hF
     subst hr
     exact ⟨rfl,by kernel_rfl,by kernel_rfl⟩
  ·rintro _ _ _ ⟨rfl,rfl,rfl⟩
   refine AWP.seq ?_
   refine .seq (.rg0 [] [(0,(.vw 0 0 a0)),(1,(i64 a2)),(10,(i64 v23)),(11,(i64 v53)),(65,(vb (decide (v23 > v53))))] ?_)
   refine AWP.cif hF (fun h310 hF=>?_) (fun h310 hF=>?_)
   ·refine AWP.seq ?_
    obtain ⟨x69,h70,hF⟩:=bindb hF
    obtain ⟨x71,h72,hF⟩:=bindb hF
    obtain ⟨x73,h74,hF⟩:=bindb hF
    obtain ⟨x75,h76,hF⟩:=bindb hF
    refine AWP.dr [(6,.idxV (idxn_lt h70)),(7,.ldV Zb (s:=1) (fun _=>rfl) s0 (idxn_idx h70) (0 + Int.toNat a2 * 1) (Nat.zero_add _) []),(10,.idxV (idxn_lt h72)),(11,.ldV Zb (s:=1) (fun _=>rfl) s0 (idxn_idx h72) (0 + Int.toNat v53 * 1) (Nat.zero_add _) []),(12,.idxV (idxn_lt h74)),(13,.stV Zb (s:=1) (fun _=>rfl) s0 (idxn_idx h74) x69 (0 + Int.toNat v53 * 1) (Nat.zero_add _) []),(14,.idxV (idxn_lt h76)),(15,.stV Zb (s:=1) (fun _=>rfl) s0 (idxn_idx h76) x71 (0 + Int.toNat a2 * 1) (Nat.zero_add _) [])] 14 [] [13] [] [(11,(i64 v53))] [.cells (cel Zb (List.set (List.set (List.set (List.set a1 (Int.toNat a2) x1) (Int.toNat a4) x3) (Int.toNat v53) x69) (Int.toNat a2) x71) s0)] ?_
    refine .seq (.rg0 [] [(8,(i64 v53)),(9,(vb true))] ?_)
    refine AWP.ret ?_
    have hr:=someb hF
    subst hr
    exact (FnQ.f0 1 (.inr rfl))
   ·refine AWP.skip ?_
    refine AWP.seq ?_
    obtain ⟨x77,h78,hF⟩:=bindb hF
    obtain ⟨x79,h80,hF⟩:=bindb hF
    obtain ⟨x81,h82,hF⟩:=bindb hF
    obtain ⟨x83,h84,hF⟩:=bindb hF
    refine AWP.dr [(6,.idxV (idxn_lt h78)),(7,.ldV Zb (s:=1) (fun _=>rfl) s0 (idxn_idx h78) (0 + Int.toNat v53 * 1) (Nat.zero_add _) []),(10,.idxV (idxn_lt h80)),(11,.ldV Zb (s:=1) (fun _=>rfl) s0 (idxn_idx h80) (0 + Int.toNat v23 * 1) (Nat.zero_add _) []),(12,.idxV (idxn_lt h82)),(13,.stV Zb (s:=1) (fun _=>rfl) s0 (idxn_idx h82) x77 (0 + Int.toNat v23 * 1) (Nat.zero_add _) []),(14,.idxV (idxn_lt h84)),(15,.stV Zb (s:=1) (fun _=>rfl) s0 (idxn_idx h84) x79 (0 + Int.toNat v53 * 1) (Nat.zero_add _) [])] 14 [] [13] [] [(0,(.vw 0 0 a0)),(1,(i64 a2)),(10,(i64 v23)),(11,(i64 v53))] [.cells (cel Zb (List.set (List.set (List.set (List.set a1 (Int.toNat a2) x1) (Int.toNat a4) x3) (Int.toNat v23) x77) (Int.toNat v53) x79) s0)] ?_
    refine .seq (.rg0 [] [(0,(.vw 0 0 a0)),(1,(i64 a2)),(10,(i64 (IntKind.wrap .i64 (v23 + (1:Int))))),(11,(i64 v53))] ?_)
    refine .seq (.rg0 [] [(0,(.vw 0 0 a0)),(1,(i64 a2)),(10,(i64 (IntKind.wrap .i64 (v23 + (1:Int))))),(11,(i64 (IntKind.wrap .i64 (v53 - (1:Int)))))] ?_)
    refine AWP.seq ?_
    obtain ⟨o230,h231,hF⟩:=bindb hF
    refine AWP.mid (fun e st H=>(e=.normal∧∃ (v228:(List Int)),∃ (v229:Int),o230=(v228,v229)∧st=[(0,(.vw 0 0 a0)),(1,(i64 a2)),(11,(i64 v229))]∧H=[.cells (cel Zb v228 s0)])) ?_ ?_
    ·clear hF
     refine AWP.kp [0,1,10,11] 1 ?_
     refine AWP.bround (fun n st H=>∃ (v156:(List Int)),∃ (v157:Int),∃ (v158:Int),Zaj a0 a2 n v156 v157 v158=some o230∧st=[(0,(.vw 0 0 a0)),(1,(i64 a2)),(10,(i64 v157)),(11,(i64 v158))]∧H=[.cells (cel Zb v156 s0)]) fuel ⟨(List.set (List.set (List.set (List.set a1 (Int.toNat a2) x1) (Int.toNat a4) x3) (Int.toNat v23) x77) (Int.toNat v53) x79),(IntKind.wrap .i64 (v23 + (1:Int))),(IntKind.wrap .i64 (v53 - (1:Int))),h231,by kernel_rfl,by kernel_rfl⟩ ?_
     rintro n232 st H ⟨v156,v157,v158,hF,rfl,rfl⟩
     cases n232 with
     | zero=>exact noneb hF
     | succ n232=>
      rw [Zaj] at hF
      refine AWP.block ?_
      refine AWP.seq ?_
      obtain ⟨v247,h248,hF⟩:=bindb hF
      refine AWP.mid (fun e st H=>e=.normal∧st=[(0,(.vw 0 0 a0)),(1,(i64 a2)),(10,(i64 v247)),(11,(i64 v158))]∧H=[.cells (cel Zb v156 s0)]) ?_ ?_
      ·clear hF
       refine AWP.kp [0,1,10,11] 1 ?_
       refine AWP.bround (fun n st H=>∃ (v233:Int),Za2 a0 a2 v156 v158 n v233=some v247∧st=[(0,(.vw 0 0 a0)),(1,(i64 a2)),(10,(i64 v233)),(11,(i64 v158))]∧H=[.cells (cel Zb v156 s0)]) fuel ⟨v157,h248,by kernel_rfl,by kernel_rfl⟩ ?_
       rintro n249 st H ⟨v233,hF,rfl,rfl⟩
       cases n249 with
       | zero=>exact noneb hF
       | succ n249=>
        rw [Za2] at hF
        refine AWP.seq ?_
        refine AWP.seq ?_
        obtain ⟨b250,h251,hF⟩:=bindb hF
        replace h251:=someb h251
        obtain ⟨v258,h259,hF⟩:=bindb hF
        refine AWP.to [(0,(.vw 0 0 a0)),(1,(i64 a2)),(10,(i64 v233)),(11,(i64 v158)),(112,(vb v258))] [.cells (cel Zb v156 s0)] ?_ ?_
        ·cases b250 with
         | false=>
          have h260:=someb (ifF h259 rfl)
          subst h260
          exact AWP.drT [(3,.bool h251)] 14 [] [] []
         | true=>
          have h261:=ifT h259 rfl
          obtain ⟨x252,h253,h261⟩:=bindb h261
          obtain ⟨x254,h255,h261⟩:=bindb h261
          obtain ⟨r256,h257,h261⟩:=bindb h261
          replace h261:=someb h261
          subst h261
          exact AWP.drT [(3,.bool h251),(6,.idxV (idxn_lt h253)),(7,.ldV Zb (s:=1) (fun _=>rfl) s0 (idxn_idx h253) (0 + Int.toNat v233 * 1) (Nat.zero_add _) []),(10,.idxV (idxn_lt h255)),(11,.ldV Zb (s:=1) (fun _=>rfl) s0 (idxn_idx h255) (0 + Int.toNat a2 * 1) (Nat.zero_add _) []),(12,.call Tryd.func100 [] (Zav x252 x254 r256 h257))] 14 [] [] []
        refine AWP.cif hF (fun h262 hF=>?_) (fun h262 hF=>?_)
        ·refine AWP.skip ?_
         refine AWP.block ?_
         refine AWP.rg0 [] [(0,(.vw 0 0 a0)),(1,(i64 a2)),(10,(i64 (IntKind.wrap .i64 (v233 + (1:Int))))),(11,(i64 v158))] ?_
         refine LeQ.start ?_
         refine LeQ.pk [0,1,10,11] 1 ?_
         exact ⟨n249,Nat.lt_succ_self _,(IntKind.wrap .i64 (v233 + (1:Int))),hF,by kernel_rfl,by kernel_rfl⟩
        ·refine AWP.exit ?_
         refine LeQ.start ?_
         refine LeQ.pk [0,1,10,11] 1 ?_
         have hr:=someb hF
         subst hr
         exact ⟨rfl,by kernel_rfl,by kernel_rfl⟩
      ·rintro _ _ _ ⟨rfl,rfl,rfl⟩
       refine AWP.seq ?_
       obtain ⟨v277,h278,hF⟩:=bindb hF
       refine AWP.mid (fun e st H=>e=.normal∧st=[(0,(.vw 0 0 a0)),(1,(i64 a2)),(10,(i64 v247)),(11,(i64 v277))]∧H=[.cells (cel Zb v156 s0)]) ?_ ?_
       ·clear hF
        refine AWP.kp [0,1,10,11] 1 ?_
        refine AWP.bround (fun n st H=>∃ (v263:Int),Za3 a0 a2 v156 v247 n v263=some v277∧st=[(0,(.vw 0 0 a0)),(1,(i64 a2)),(10,(i64 v247)),(11,(i64 v263))]∧H=[.cells (cel Zb v156 s0)]) fuel ⟨v158,h278,by kernel_rfl,by kernel_rfl⟩ ?_
        rintro n279 st H ⟨v263,hF,rfl,rfl⟩
        cases n279 with
        | zero=>exact noneb hF
        | succ n279=>
         rw [Za3] at hF
         refine AWP.seq ?_
         refine AWP.seq ?_
         obtain ⟨b280,h281,hF⟩:=bindb hF
         replace h281:=someb h281
         obtain ⟨v288,h289,hF⟩:=bindb hF
         refine AWP.to [(0,(.vw 0 0 a0)),(1,(i64 a2)),(10,(i64 v247)),(11,(i64 v263)),(129,(vb v288))] [.cells (cel Zb v156 s0)] ?_ ?_
         ·cases b280 with
          | false=>
           have h290:=someb (ifF h289 rfl)
           subst h290
           exact AWP.drT [(3,.bool h281)] 15 [] [] []
          | true=>
           have h291:=ifT h289 rfl
           obtain ⟨x282,h283,h291⟩:=bindb h291
           obtain ⟨x284,h285,h291⟩:=bindb h291
           obtain ⟨r286,h287,h291⟩:=bindb h291
           replace h291:=someb h291
           subst h291
           exact AWP.drT [(3,.bool h281),(6,.idxV (idxn_lt h283)),(7,.ldV Zb (s:=1) (fun _=>rfl) s0 (idxn_idx h283) (0 + Int.toNat v263 * 1) (Nat.zero_add _) []),(10,.idxV (idxn_lt h285)),(11,.ldV Zb (s:=1) (fun _=>rfl) s0 (idxn_idx h285) (0 + Int.toNat a2 * 1) (Nat.zero_add _) []),(12,.call Tryd.func100 [] (Zav x282 x284 r286 h287))] 15 [] [] []
         refine AWP.cif hF (fun h292 hF=>?_) (fun h292 hF=>?_)
         ·refine AWP.skip ?_
          refine AWP.block ?_
          refine AWP.rg0 [] [(0,(.vw 0 0 a0)),(1,(i64 a2)),(10,(i64 v247)),(11,(i64 (IntKind.wrap .i64 (v263 - (1:Int)))))] ?_
          refine LeQ.start ?_
          refine LeQ.pk [0,1,10,11] 1 ?_
          exact ⟨n279,Nat.lt_succ_self _,(IntKind.wrap .i64 (v263 - (1:Int))),hF,by kernel_rfl,by kernel_rfl⟩
         ·refine AWP.exit ?_
          refine LeQ.start ?_
          refine LeQ.pk [0,1,10,11] 1 ?_
          have hr:=someb hF
          subst hr
          exact ⟨rfl,by kernel_rfl,by kernel_rfl⟩
       ·rintro _ _ _ ⟨rfl,rfl,rfl⟩
        refine AWP.seq ?_
        refine .seq (.rg0 [] [(0,(.vw 0 0 a0)),(1,(i64 a2)),(10,(i64 v247)),(11,(i64 v277)),(134,(vb (decide (v247 > v277))))] ?_)
        refine AWP.cif hF (fun h301 hF=>?_) (fun h301 hF=>?_)
        ·refine AWP.exit ?_
         refine LeQ.start ?_
         refine LeQ.pk [0,1,11] 1 ?_
         exact ⟨rfl,v156,v277,(someb hF).symm,by kernel_rfl,by kernel_rfl⟩
        ·refine AWP.skip ?_
         refine AWP.seq ?_
         obtain ⟨x293,h294,hF⟩:=bindb hF
         obtain ⟨x295,h296,hF⟩:=bindb hF
         obtain ⟨x297,h298,hF⟩:=bindb hF
         obtain ⟨x299,h300,hF⟩:=bindb hF
         refine AWP.dr [(6,.idxV (idxn_lt h294)),(7,.ldV Zb (s:=1) (fun _=>rfl) s0 (idxn_idx h294) (0 + Int.toNat v277 * 1) (Nat.zero_add _) []),(10,.idxV (idxn_lt h296)),(11,.ldV Zb (s:=1) (fun _=>rfl) s0 (idxn_idx h296) (0 + Int.toNat v247 * 1) (Nat.zero_add _) []),(12,.idxV (idxn_lt h298)),(13,.stV Zb (s:=1) (fun _=>rfl) s0 (idxn_idx h298) x293 (0 + Int.toNat v247 * 1) (Nat.zero_add _) []),(14,.idxV (idxn_lt h300)),(15,.stV Zb (s:=1) (fun _=>rfl) s0 (idxn_idx h300) x295 (0 + Int.toNat v277 * 1) (Nat.zero_add _) [])] 14 [] [13] [] [(0,(.vw 0 0 a0)),(1,(i64 a2)),(10,(i64 v247)),(11,(i64 v277))] [.cells (cel Zb (List.set (List.set v156 (Int.toNat v247) x293) (Int.toNat v277) x295) s0)] ?_
         refine .seq (.rg0 [] [(0,(.vw 0 0 a0)),(1,(i64 a2)),(10,(i64 (IntKind.wrap .i64 (v247 + (1:Int))))),(11,(i64 v277))] ?_)
         refine AWP.rg0 [] [(0,(.vw 0 0 a0)),(1,(i64 a2)),(10,(i64 (IntKind.wrap .i64 (v247 + (1:Int))))),(11,(i64 (IntKind.wrap .i64 (v277 - (1:Int)))))] ?_
         refine LeQ.start ?_
         refine LeQ.pk [0,1,10,11] 1 ?_
         exact ⟨n232,Nat.lt_succ_self _,(List.set (List.set v156 (Int.toNat v247) x293) (Int.toNat v277) x295),(IntKind.wrap .i64 (v247 + (1:Int))),(IntKind.wrap .i64 (v277 - (1:Int))),hF,by kernel_rfl,by kernel_rfl⟩
    ·rintro _ _ _ ⟨rfl,v228,v229,rfl,rfl,rfl⟩
     refine AWP.seq ?_
     obtain ⟨x302,h303,hF⟩:=bindb hF
     obtain ⟨x304,h305,hF⟩:=bindb hF
     obtain ⟨x306,h307,hF⟩:=bindb hF
     obtain ⟨x308,h309,hF⟩:=bindb hF
     refine AWP.dr [(6,.idxV (idxn_lt h303)),(7,.ldV Zb (s:=1) (fun _=>rfl) s0 (idxn_idx h303) (0 + Int.toNat a2 * 1) (Nat.zero_add _) []),(10,.idxV (idxn_lt h305)),(11,.ldV Zb (s:=1) (fun _=>rfl) s0 (idxn_idx h305) (0 + Int.toNat v229 * 1) (Nat.zero_add _) []),(12,.idxV (idxn_lt h307)),(13,.stV Zb (s:=1) (fun _=>rfl) s0 (idxn_idx h307) x302 (0 + Int.toNat v229 * 1) (Nat.zero_add _) []),(14,.idxV (idxn_lt h309)),(15,.stV Zb (s:=1) (fun _=>rfl) s0 (idxn_idx h309) x304 (0 + Int.toNat a2 * 1) (Nat.zero_add _) [])] 14 [] [13] [] [(11,(i64 v229))] [.cells (cel Zb (List.set (List.set v228 (Int.toNat v229) x302) (Int.toNat a2) x304) s0)] ?_
     refine .seq (.rg0 [] [(8,(i64 v229)),(9,(vb false))] ?_)
     refine AWP.ret ?_
     have hr:=someb hF
     subst hr
     exact (FnQ.f0 1 (.inr rfl))
end Go.AM

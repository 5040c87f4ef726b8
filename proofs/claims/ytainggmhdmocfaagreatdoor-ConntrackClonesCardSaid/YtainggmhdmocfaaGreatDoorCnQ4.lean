/- Parts of a proof, printed short. No condition. -/
import Derived.Test.YtainggmhdmocfaaGreatDoorProg
import Derived.Test.YtainggmhdmocfaaGreatDoorCnQ3
set_option maxRecDepth 100000
namespace Go.AM
open Go Go.Proofs
def Zmz (r:Bool):PV→List Blk→Prop:=fun p K=>p=(vb r)∧K=[]
theorem Zm0 (r:Bool) (hF:Zfs=some r):ACall Tryz.prog glob 11 [] [] (Zmz r):=by
 have hr:=someb hF
 subst hr
 exact(T3_ok _ (List.mem_cons.2 (.inl rfl))).1
def Zko (r:(Int × (List (Zc × Za)))):PV→List Blk→Prop:=fun p K=>p=(.tup [(.ptr 1 0),(i64 (0:Int))])∧K=[.fm (List.map (entF Zh Zf) r.2),.cells [(i64 r.1),(.mp 0)]]
theorem Zkp (a:Int) (r:(Int × (List (Zc × Za)))) (hF:Zdb a=some r):ACall Tryz.prog glob 5 [(i64 a)] [] (Zko r):=by
 refine ACall.body Tryz.func5 rfl (by kernel_rfl) ?_
 unfold Zdb at hF
 refine AWP.seq (AWP.rg0 [] [(0,(i64 a))] (AWP.seq (AWP.seq ?_)))
 obtain⟨c,b,hF⟩:=bindb hF
 replace b:=someb b
 refine AWP.to [(0,(i64 a)),(9,(vb (c || (decide (a > (64:Int))))))] [] ?_ ?_
 ·cases c with
  | false=>
   exact AWP.rgT [(2,.bool b)]
  | true=>
   exact AWP.rgT [(2,.bool b)]
 refine AWP.cif hF (fun d hF=>?_) (fun d hF=>?_)
 ·refine AWP.seq (AWP.rg0 [] [(2,(.sc (.pointer none))),(3,(i64 (2:Int)))] (AWP.ret ?_))
  exact noneb hF
 ·refine AWP.skip (AWP.seq (AWP.rg [(1,.mkM)] [(2,(.ptr 1 0)),(3,(i64 (0:Int)))] [.fm (List.map (entF Zh Zf) ([]:(List (Zc × Za)))),.cells [(i64 a),(.mp 0)]] (AWP.ret ?_)))
  have hr:=someb hF
  subst hr
  exact(FnQ.f0 2 (.inr rfl))
def Zpc (r:Zq):PV→List Blk→Prop:=fun p K=>p=(.ptr 0 0)∧K=[.cells (Zt r)]
theorem Zpd (a:(List Int)) (r:Zq) (hF:Zft a=some r):ACall Tryz.prog glob 7 [(slc 1 Z4 a)] [] (Zpc r):=by
 refine ACall.body Tryz.func7 rfl (by kernel_rfl) ?_
 unfold Zft at hF
 refine AWP.seq (AWP.rg0 [] [(0,(slc 1 Z4 a))] (AWP.seq (AWP.rg [] [(2,(.ptr 0 0))] [.cells (Zt (Zq.mk a (0:Int)))] (AWP.ret ?_))))
 have hr:=someb hF
 subst hr
 exact(FnQ.f0 1 (.inr rfl))
def Zpe (r:Int):PV→List Blk→Prop:=fun p K=>p=(i64 r)∧K=[]
theorem Zpf (a:Int) (b:Int) (r:Int) (hF:Zex a b=some r):ACall Tryz.prog glob 6 [(i64 a),(i64 b)] [] (Zpe r):=by
 refine ACall.body Tryz.func6 rfl (by kernel_rfl) ?_
 unfold Zex at hF
 refine AWP.seq (AWP.rg0 [] [(0,(i64 a)),(1,(i64 b))] (AWP.seq ?_))
 obtain⟨c,hF⟩:=chkb hF
 refine AWP.rg0 [(4,.rem c)] [(4,(i64 (ZI (Int.tmod (IntKind.wrap .u64 a) (IntKind.wrap .u64 b)))))] (AWP.ret ?_)
 have hr:=someb hF
 subst hr
 exact(FnQ.f0 0 (.inr rfl))
def Zkq (r:(Int × Zq)):PV→List Blk→Prop:=fun p K=>p=(i64 r.1)∧K=[.cells (Zt r.2)]
theorem Zo (a:Zq) (b:Int) (r:(Int × Zq)) (hF:Z0 a b=some r):ACall Tryz.prog glob 14 [(.ptr 0 0),(i64 b)] [.cells (Zt a)] (Zkq r):=by
 refine ACall.body Tryz.func14 rfl (by kernel_rfl) ?_
 unfold Z0 at hF
 refine AWP.seq (AWP.rg0 [] [(0,(.ptr 0 0)),(1,(i64 b))] (AWP.seq (AWP.seq ?_)))
 obtain⟨d,c,hF⟩:=bindb hF
 replace c:=someb c
 refine AWP.to [(0,(.ptr 0 0)),(1,(i64 b)),(18,(vb (d || (decide (a.f_i ≥ (List.length a.f_l:Int))))))] [.cells (Zt a)] ?_ ?_
 ·cases d with
  | false=>
   exact AWP.drT [(2,.bool c),(11,.len Z4 a.f_l)] 14 [] [] []
  | true=>
   exact AWP.drT [(2,.bool c)] 14 [] [] []
 refine AWP.cif hF (fun g hF=>?_) (fun g hF=>?_)
 ·refine AWP.seq (AWP.rg0 [] [(4,(i64 (0:Int)))] (AWP.ret ?_))
  have hr:=someb hF
  subst hr
  exact(FnQ.f0 1 (.inr rfl))
 ·refine AWP.skip (AWP.seq (AWP.rg [] [(0,(.ptr 0 0)),(1,(i64 b))] [.cells (Zt ({ a with f_i:=(ZI (a.f_i + (1:Int))) }:Zq))] (AWP.seq ?_)))
  obtain⟨i,j,hF⟩:=bindb hF
  obtain⟨f,k,hF⟩:=bindb hF
  refine AWP.dr [(9,.idx Z4 j),(12,.call Tryz.func6 [] (Zpf i b f k))] 13 [] [] [] [(4,(i64 f))] [.cells (Zt ({ a with f_i:=(ZI (a.f_i + (1:Int))) }:Zq))] (AWP.ret ?_)
  have hr:=someb hF
  subst hr
  exact(FnQ.f0 1 (.inr rfl))
def Zm1 (r:(Zc × Zq)):PV→List Blk→Prop:=fun p K=>p=(Zv r.1)∧K=[.cells (Zt r.2)]
theorem Zcb (d:Zq) (r:(Zc × Zq)) (hF:Zd4 d=some r):ACall Tryz.prog glob 15 [(.ptr 0 0)] [.cells (Zt d)] (Zm1 r):=by
 refine ACall.body Tryz.func15 rfl (by kernel_rfl) ?_
 unfold Zd4 at hF
 refine AWP.seq (AWP.rg [] [(0,(.ptr 0 0)),(2,(.ptr 1 0))] [.cells (Zt d),.cells (Ze Zl)] (AWP.seq ?_))
 obtain⟨b,g,hF⟩:=bindb hF
 obtain⟨c,i,hF⟩:=bindb hF
 obtain⟨f,j,hF⟩:=bindb hF
 obtain⟨a,k,hF⟩:=bindb hF
 refine AWP.to [(2,(.ptr 1 0)),(3,(.ptr 2 0))] [.cells (Zt a.2),.cells (Ze Zl),.cells (Ze (Zc.mk (IntKind.wrap .u32 ((167772160:Int) + (IntKind.wrap .u32 b.1))) (167772416:Int) f (IntKind.wrap .u16 (ZI ((1000:Int) + a.1))) (80:Int)))] ?_ ?_
 ·refine AWP.of_draw (by kernel_rfl) ?_
  refine ADraw.either 14 1 (by kernel_rfl) ?_ ?_
  ·refine ADraw.either 14 6 (by kernel_rfl) ?_ ?_
   ·refine ADraw.either 14 10 (by kernel_rfl) ?_ ?_
    ·exact ADraw.drT [(1,.call Tryz.func14 [] (Zo d (3:Int) b g)),(6,.call Tryz.func14 [] (Zo b.2 (4:Int) c i)),(7,.idx Zmi j),(10,.call Tryz.func14 [] (Zo c.2 (2:Int) a k))] 15 [] [1,6,10,14] []
    ·exact ADraw.drT [(1,.call Tryz.func14 [] (Zo d (3:Int) b g)),(6,.call Tryz.func14 [] (Zo b.2 (4:Int) c i)),(7,.idx Zmi j),(10,.call Tryz.func14 [] (Zo c.2 (2:Int) a k))] 15 [0,1,2,3,4,5,6,7,8,9,14,10,11,12,13] [1,6,14,10] []
   ·exact ADraw.drT [(1,.call Tryz.func14 [] (Zo d (3:Int) b g)),(6,.call Tryz.func14 [] (Zo b.2 (4:Int) c i)),(7,.idx Zmi j),(10,.call Tryz.func14 [] (Zo c.2 (2:Int) a k))] 15 [0,1,2,3,4,5,9,14,6,7,8,10,11,12,13] [1,14,6,10] []
  ·exact ADraw.drT [(1,.call Tryz.func14 [] (Zo d (3:Int) b g)),(6,.call Tryz.func14 [] (Zo b.2 (4:Int) c i)),(7,.idx Zmi j),(10,.call Tryz.func14 [] (Zo c.2 (2:Int) a k))] 15 [0,4,5,9,14,1,2,3,6,7,8,10,11,12,13] [14,1,6,10] []
 obtain⟨l,m,hF⟩:=bindb hF
 refine AWP.seq ?_
 refine AWP.mid (fun e st H=>e=.normal∧st=[(2,(.ptr 1 0)),(3,(.ptr 2 0))]∧H=[.cells (Zt a.2),.cells (Ze Zl),.cells (Ze l)]) ?_ ?_
 ·clear hF
  have hF:=m
  refine AWP.seq (AWP.rg0 [] [(2,(.ptr 1 0)),(3,(.ptr 2 0)),(19,(u8 f))] (AWP.block (AWP.seq (AWP.rg0 [] [(2,(.ptr 1 0)),(3,(.ptr 2 0)),(19,(u8 f)),(20,(vb (f == (1:Int))))] ?_))))
  refine AWP.cif hF (fun n hF=>?_) (fun n hF=>?_)
  ·refine AWP.rg [] [(2,(.ptr 1 0)),(3,(.ptr 2 0))] [.cells (Zt a.2),.cells (Ze Zl),.cells (Ze ({ (Zc.mk (IntKind.wrap .u32 ((167772160:Int) + (IntKind.wrap .u32 b.1))) (167772416:Int) f (IntKind.wrap .u16 (ZI ((1000:Int) + a.1))) (80:Int)) with DstPort:=(8:Int) }:Zc))] (LeQ.start (LeQ.pk [2,3] 3 ?_))
   have hr:=someb hF
   subst hr
   exact⟨rfl,by kernel_rfl,by kernel_rfl⟩
  ·refine AWP.seq (AWP.rg0 [] [(2,(.ptr 1 0)),(3,(.ptr 2 0)),(23,(vb (f == (50:Int))))] ?_)
   refine AWP.cif hF (fun o hF=>?_) (fun o hF=>?_)
   ·refine AWP.rg [] [(2,(.ptr 1 0)),(3,(.ptr 2 0))] [.cells (Zt a.2),.cells (Ze Zl),.cells (Ze ({ ({ (Zc.mk (IntKind.wrap .u32 ((167772160:Int) + (IntKind.wrap .u32 b.1))) (167772416:Int) f (IntKind.wrap .u16 (ZI ((1000:Int) + a.1))) (80:Int)) with SrcPort:=(0:Int) }:Zc) with DstPort:=(0:Int) }:Zc))] (LeQ.start (LeQ.pk [2,3] 3 ?_))
    have hr:=someb hF
    subst hr
    exact⟨rfl,by kernel_rfl,by kernel_rfl⟩
   ·refine AWP.skip (LeQ.start (LeQ.pk [2,3] 3 ?_))
    have hr:=someb hF
    subst hr
    exact⟨rfl,by kernel_rfl,by kernel_rfl⟩
 ·rintro _ _ _ ⟨rfl,rfl,rfl⟩
  refine AWP.seq (AWP.rg [] [(2,(.ptr 1 0))] [.cells (Zt a.2),.cells (Ze l),.cells (Ze l)] (AWP.ret ?_))
  have hr:=someb hF
  subst hr
  exact(FnQ.f0 1 (.inr rfl))
def Zj1 (r:Int):PV→List Blk→Prop:=fun p K=>p=(u32 r)∧K=[]
abbrev Zon (r:Int):Exit→St→List Blk→Prop:=FnQ Tryz.prog Tryz.f56.results 0 (Zj1 r)
theorem Zj2 (a:Int) (r:Int) (hF:Zep a=some r):ACall Tryz.prog glob 56 [(i64 a)] [] (Zj1 r):=by
 refine ACall.body Tryz.func56 rfl (by kernel_rfl) ?_
 unfold Zep at hF
 refine AWP.seq (AWP.rg0 [] [(0,(i64 a))] ?_)
 obtain⟨b,c,hF⟩:=bindb hF
 refine AWP.seq ?_
 refine AWP.mid (fun e st H=>(e=.normal∧b=(.inl ())∧st=[]∧H=[])∨(e=.ret∧∃ r,b=(.inr r)∧Zon r e st H)) ?_ ?_
 ·clear hF
  have hF:=c
  refine AWP.seq (AWP.rg0 [] [(3,(i64 a))] (AWP.block ?_))
  obtain⟨d,f,hF⟩:=bindb hF
  refine AWP.seq ?_
  refine AWP.mid (fun e st H=>e=.normal∧st=[(3,(i64 a)),(4,(vb d))]∧H=[]) ?_ ?_
  ·clear hF
   have hF:=f
   refine AWP.seq (AWP.rg0 [] [(3,(i64 a)),(4,(vb (a == (0:Int))))] ?_)
   refine AWP.cif hF (fun g hF=>?_) (fun g hF=>?_)
   ·refine AWP.skip (LeQ.start (LeQ.pk [3,4] 0 ?_))
    have hr:=someb hF
    subst hr
    exact⟨rfl,by kernel_rfl,by kernel_rfl⟩
   ·refine AWP.rg0 [] [(3,(i64 a)),(4,(vb (a == (1:Int))))] (LeQ.start (LeQ.pk [3,4] 0 ?_))
    have hr:=someb hF
    subst hr
    exact⟨rfl,by kernel_rfl,by kernel_rfl⟩
  ·rintro _ _ _ ⟨rfl,rfl,rfl⟩
   refine AWP.cif hF (fun i hF=>?_) (fun i hF=>?_)
   ·refine AWP.seq (AWP.rg0 [] [(2,(u32 (4294967295:Int)))] (AWP.ret ?_))
    exact LeQ.of (.inr ⟨rfl,(4294967295:Int),(someb hF).symm,(FnQ.f0 0 (.inr rfl))⟩)
   ·refine AWP.seq (AWP.rg0 [] [(3,(i64 a)),(7,(vb (a == (2:Int))))] ?_)
    refine AWP.cif hF (fun j hF=>?_) (fun j hF=>?_)
    ·refine AWP.seq (AWP.rg0 [] [(2,(u32 (255:Int)))] (AWP.ret ?_))
     exact LeQ.of (.inr ⟨rfl,(255:Int),(someb hF).symm,(FnQ.f0 0 (.inr rfl))⟩)
    ·obtain⟨k,l,hF⟩:=bindb hF
     refine AWP.seq ?_
     refine AWP.mid (fun e st H=>e=.normal∧st=[(9,(vb k))]∧H=[]) ?_ ?_
     ·clear hF
      have hF:=l
      refine AWP.seq (AWP.rg0 [] [(3,(i64 a)),(9,(vb (a == (3:Int))))] ?_)
      refine AWP.cif hF (fun m hF=>?_) (fun m hF=>?_)
      ·refine AWP.skip (LeQ.start (LeQ.pk [9] 0 ?_))
       have hr:=someb hF
       subst hr
       exact⟨rfl,by kernel_rfl,by kernel_rfl⟩
      ·refine AWP.rg0 [] [(9,(vb (a == (4:Int))))] (LeQ.start (LeQ.pk [9] 0 ?_))
       have hr:=someb hF
       subst hr
       exact⟨rfl,by kernel_rfl,by kernel_rfl⟩
     ·rintro _ _ _ ⟨rfl,rfl,rfl⟩
      refine AWP.cif hF (fun n hF=>?_) (fun n hF=>?_)
      ·refine AWP.seq (AWP.rg0 [] [(2,(u32 (65535:Int)))] (AWP.ret ?_))
       exact LeQ.of (.inr ⟨rfl,(65535:Int),(someb hF).symm,(FnQ.f0 0 (.inr rfl))⟩)
      ·refine AWP.skip (LeQ.start (LeQ.pk [] 0 ?_))
       exact(.inl ⟨rfl,(someb hF).symm,by kernel_rfl,by kernel_rfl⟩)
 ·rintro _ _ _ (⟨rfl,rfl,rfl,rfl⟩ | ⟨rfl,o,rfl,hq⟩)
  ·refine AWP.seq (AWP.rg0 [] [(2,(u32 (0:Int)))] (AWP.ret ?_))
   have hr:=someb hF
   subst hr
   exact(FnQ.f0 0 (.inr rfl))
  ·have hr:=someb hF
   subst hr
   exact hq
def Zno (r:ZB):PV→List Blk→Prop:=fun p K=>p=(Zz r)∧K=[]
theorem Znp (r:ZB) (hF:Ze7=some r):ACall Tryz.prog glob 34 [] [] (Zno r):=by
 refine ACall.body Tryz.func34 rfl (by kernel_rfl) ?_
 unfold Ze7 at hF
 refine AWP.seq (AWP.rg [] [(0,(.ptr 0 0))] [.cells (Zd Zr)] (AWP.seq (AWP.rg [] [(0,(.ptr 0 0)),(1,(.ptr 1 0))] [.cells (Zd Zr),.cells (Zd Zr)] (AWP.seq (AWP.seq (AWP.rg0 [] [(0,(.ptr 0 0)),(1,(.ptr 1 0)),(2,(i64 (0:Int)))] ?_))))))
 obtain⟨c,j,hF⟩:=bindb hF
 refine AWP.mid (fun e st H=>e=.normal∧st=[(0,(.ptr 0 0)),(1,(.ptr 1 0))]∧H=[.cells (Zd Zr),.cells (Zd c)]) ?_ ?_
 ·clear hF
  refine AWP.kp [0,1,2] 2 ?_
  refine AWP.bround (fun n st H=>∃ b,∃ a,Zea n b a=some c∧st=[(0,(.ptr 0 0)),(1,(.ptr 1 0)),(2,(i64 a))]∧H=[.cells (Zd Zr),.cells (Zd b)]) fuel ⟨Zr,(0:Int),j,by kernel_rfl,by kernel_rfl⟩ ?_
  rintro f st H ⟨b,a,hF,rfl,rfl⟩
  cases f with
  | zero=>exact noneb hF
  | succ f=>
   rw [Zea] at hF
   refine AWP.seq (AWP.seq (AWP.rg0 [] [(0,(.ptr 0 0)),(1,(.ptr 1 0)),(2,(i64 a)),(4,(vb (decide (a<(5:Int)))))] ?_))
   refine AWP.cif hF (fun k hF=>?_) (fun k hF=>?_)
   ·refine AWP.skip (AWP.seq (AWP.block ?_))
    obtain⟨d,l,hF⟩:=bindb hF
    obtain⟨g,hF⟩:=chkb hF
    refine AWP.rg [(2,.call Tryz.func56 [] (Zj2 a d l)),(3,.ixd g),(5,.stA (fun i=>Zd (Arr5.set b i ({ (Arr5.get b i) with Hi:=d }:Zj))) 0 2 1 g)] [(0,(.ptr 0 0)),(1,(.ptr 1 0)),(2,(i64 a))] [.cells (Zd Zr),.cells (Zd (Arr5.set b a ({ (Arr5.get b a) with Hi:=d }:Zj)))] (AWP.rg0 [] [(0,(.ptr 0 0)),(1,(.ptr 1 0)),(2,(i64 (ZI (a + (1:Int)))))] (LeQ.start (LeQ.pk [0,1,2] 2 ?_)))
    exact⟨f,Nat.lt_succ_self _,(Arr5.set b a ({ (Arr5.get b a) with Hi:=d }:Zj)),(ZI (a + (1:Int))),hF,by kernel_rfl,by kernel_rfl⟩
   ·refine AWP.exit (LeQ.start (LeQ.pk [0,1] 2 ?_))
    have hr:=someb hF
    subst hr
    exact⟨rfl,by kernel_rfl,by kernel_rfl⟩
 ·rintro _ _ _ ⟨rfl,rfl,rfl⟩
  refine AWP.seq (AWP.rg [] [(0,(.ptr 0 0))] [.cells (Zd c),.cells (Zd c)] (AWP.ret ?_))
  have hr:=someb hF
  subst hr
  exact(FnQ.f0 0 (.inr rfl))
def Zl0 (r:((List Zp) × Zq)):PV→List Blk→Prop:=fun p K=>p=(slc 13 Zn r.1)∧K=[.cells (Zt r.2)]
theorem Zl1 (k:Zq) (r:((List Zp) × Zq)) (hF:Zdy k=some r):ACall Tryz.prog glob 16 [(.ptr 0 0)] [.cells (Zt k)] (Zl0 r):=by
 refine ACall.body Tryz.func16 rfl (by kernel_rfl) ?_
 unfold Zdy at hF
 refine AWP.seq (AWP.rg0 [] [(0,(.ptr 0 0))] (AWP.seq (AWP.seq ?_)))
 obtain⟨g,o,hF⟩:=bindb hF
 refine AWP.rg [(1,.call Tryz.func14 [] (Zo k (3:Int) g o))] [(0,(.ptr 0 0)),(8,(vb (g.1 == (0:Int))))] [.cells (Zt g.2)] ?_
 refine AWP.cif hF (fun p hF=>?_) (fun p hF=>?_)
 ·refine AWP.seq (AWP.rg0 [] [(2,nils)] (AWP.ret ?_))
  have hr:=someb hF
  subst hr
  exact(FnQ.f1 1 (.inr rfl) (.inl (.nil 13)))
 ·refine AWP.skip (AWP.seq ?_)
  obtain⟨c,q,hF⟩:=bindb hF
  refine AWP.rg [(0,.call Tryz.func34 [] (Znp c q))] [(0,(.ptr 0 0)),(3,(.ptr 1 0))] [.cells (Zt g.2),.cells (Zd c)] (AWP.seq ?_)
  obtain⟨a,s,hF⟩:=bindb hF
  refine AWP.rg [(1,.call Tryz.func14 [] (Zo g.2 (3:Int) a s))] [(0,(.ptr 0 0)),(3,(.ptr 1 0))] [.cells (Zt a.2),.cells (Zd ({ c with x0:=(Zj.mk (167772160:Int) (IntKind.wrap .u32 ((167772160:Int) + (IntKind.wrap .u32 a.1)))) }:ZB))] (AWP.seq ?_)
  obtain⟨i,t,hF⟩:=bindb hF
  obtain⟨b,u,hF⟩:=bindb hF
  refine AWP.rg [(2,.call Tryz.func14 [] (Zo a.2 (5:Int) i t)),(3,.idx Zet u)] [(0,(.ptr 0 0)),(3,(.ptr 1 0)),(4,(u32 b))] [.cells (Zt i.2),.cells (Zd ({ c with x0:=(Zj.mk (167772160:Int) (IntKind.wrap .u32 ((167772160:Int) + (IntKind.wrap .u32 a.1)))) }:ZB))] (AWP.seq ?_)
  obtain⟨d,n,hF⟩:=bindb hF
  refine AWP.to [(0,(.ptr 0 0)),(5,(.ptr 2 0))] [.cells (Zt d.2),.cells (Zd ({ c with x0:=(Zj.mk (167772160:Int) (IntKind.wrap .u32 ((167772160:Int) + (IntKind.wrap .u32 a.1)))) }:ZB)),.cells (Zn (Zp.mk ({ c with x0:=(Zj.mk (167772160:Int) (IntKind.wrap .u32 ((167772160:Int) + (IntKind.wrap .u32 a.1)))) }:ZB) (3325256705:Int) (Zj.mk b (iMin (IntKind.wrap .u32 (b + (IntKind.wrap .u32 d.1))) (65535:Int)))))] ?_ ?_
  ·refine AWP.of_draw (by kernel_rfl) ?_
   refine ADraw.either 10 4 (by kernel_rfl) ?_ ?_
   ·exact ADraw.drT [(4,.call Tryz.func14 [] (Zo i.2 (3:Int) d n))] 11 [] [4,10] []
   ·exact ADraw.drT [(4,.call Tryz.func14 [] (Zo i.2 (3:Int) d n))] 11 [0,1,2,3,10,4,5,6,7,8,9] [10,4] []
  obtain⟨v,w,hF⟩:=bindb hF
  refine AWP.seq ?_
  refine AWP.mid (fun e st H=>(e=.normal∧∃ l,∃ m,∃ j,v=(l,m,j)∧st=[(5,(.ptr 2 0))]∧H=[.cells (Zt l),.cells (Zd m),.cells (Zn j)])) ?_ ?_
  ·clear hF
   have hF:=w
   refine AWP.seq ?_
   obtain⟨f,x,hF⟩:=bindb hF
   refine AWP.rg [(1,.call Tryz.func14 [] (Zo d.2 (8:Int) f x))] [(5,(.ptr 2 0)),(33,(vb (f.1 == (7:Int))))] [.cells (Zt f.2),.cells (Zd ({ c with x0:=(Zj.mk (167772160:Int) (IntKind.wrap .u32 ((167772160:Int) + (IntKind.wrap .u32 a.1)))) }:ZB)),.cells (Zn (Zp.mk ({ c with x0:=(Zj.mk (167772160:Int) (IntKind.wrap .u32 ((167772160:Int) + (IntKind.wrap .u32 a.1)))) }:ZB) (3325256705:Int) (Zj.mk b (iMin (IntKind.wrap .u32 (b + (IntKind.wrap .u32 d.1))) (65535:Int)))))] ?_
   refine AWP.cif hF (fun y hF=>?_) (fun y hF=>?_)
   ·refine AWP.rg [] [(5,(.ptr 2 0))] [.cells (Zt f.2),.cells (Zd ({ c with x0:=(Zj.mk (167772160:Int) (IntKind.wrap .u32 ((167772160:Int) + (IntKind.wrap .u32 a.1)))) }:ZB)),.cells (Zn ({ (Zp.mk ({ c with x0:=(Zj.mk (167772160:Int) (IntKind.wrap .u32 ((167772160:Int) + (IntKind.wrap .u32 a.1)))) }:ZB) (3325256705:Int) (Zj.mk b (iMin (IntKind.wrap .u32 (b + (IntKind.wrap .u32 d.1))) (65535:Int)))) with Ports:=({ (Zj.mk b (iMin (IntKind.wrap .u32 (b + (IntKind.wrap .u32 d.1))) (65535:Int))) with Hi:=(65536:Int) }:Zj) }:Zp))] (LeQ.start (LeQ.pk [5] 3 ?_))
    exact⟨rfl,f.2,({ c with x0:=(Zj.mk (167772160:Int) (IntKind.wrap .u32 ((167772160:Int) + (IntKind.wrap .u32 a.1)))) }:ZB),({ (Zp.mk ({ c with x0:=(Zj.mk (167772160:Int) (IntKind.wrap .u32 ((167772160:Int) + (IntKind.wrap .u32 a.1)))) }:ZB) (3325256705:Int) (Zj.mk b (iMin (IntKind.wrap .u32 (b + (IntKind.wrap .u32 d.1))) (65535:Int)))) with Ports:=({ (Zj.mk b (iMin (IntKind.wrap .u32 (b + (IntKind.wrap .u32 d.1))) (65535:Int))) with Hi:=(65536:Int) }:Zj) }:Zp),(someb hF).symm,by kernel_rfl,by kernel_rfl⟩
   ·refine AWP.skip (LeQ.start (LeQ.pk [5] 3 ?_))
    exact⟨rfl,f.2,({ c with x0:=(Zj.mk (167772160:Int) (IntKind.wrap .u32 ((167772160:Int) + (IntKind.wrap .u32 a.1)))) }:ZB),(Zp.mk ({ c with x0:=(Zj.mk (167772160:Int) (IntKind.wrap .u32 ((167772160:Int) + (IntKind.wrap .u32 a.1)))) }:ZB) (3325256705:Int) (Zj.mk b (iMin (IntKind.wrap .u32 (b + (IntKind.wrap .u32 d.1))) (65535:Int)))),(someb hF).symm,by kernel_rfl,by kernel_rfl⟩
  ·rintro _ _ _ ⟨rfl,l,m,j,rfl,rfl,rfl⟩
   refine AWP.seq (AWP.rg0 [] [(2,(slc 13 Zn [j]))] (AWP.ret ?_))
   have hr:=someb hF
   subst hr
   exact(FnQ.f0 1 (.inr rfl))
def Znq (r:(Zw × Zq)):PV→List Blk→Prop:=fun p K=>p=(Zfr r.1)∧K=[.cells (Zt r.2)]
theorem Ze8 (i:Zq) (k:Int) (r:(Zw × Zq)) (hF:Zc6 i k=some r):ACall Tryz.prog glob 8 [(.ptr 0 0),(i64 k)] [.cells (Zt i)] (Znq r):=by
 refine ACall.body Tryz.func8 rfl (by kernel_rfl) ?_
 unfold Zc6 at hF
 refine AWP.seq (AWP.rg [] [(0,(.ptr 0 0)),(1,(i64 k)),(4,(.ptr 1 0))] [.cells (Zt i),.cells (Zs Zb2)] (AWP.seq ?_))
 obtain⟨g,l,hF⟩:=bindb hF
 obtain⟨w,m,hF⟩:=bindb hF
 obtain⟨b,n,hF⟩:=bindb hF
 obtain⟨c,o,hF⟩:=bindb hF
 obtain⟨d,p,hF⟩:=bindb hF
 obtain⟨a,q,hF⟩:=bindb hF
 obtain⟨f,s,hF⟩:=bindb hF
 obtain⟨j,t,hF⟩:=bindb hF
 obtain⟨x,u,hF⟩:=bindb hF
 refine AWP.to [(0,(.ptr 0 0)),(4,(.ptr 1 0)),(5,(.ptr 2 0))] [.cells (Zt j.2),.cells (Zs Zb2),.cells (Zs (Zw.mk w (ZI (b.1 - (ZI (c.1 * d.1)))) a.1 Zl ByteArray.empty (decide (f.1 > (0:Int))) (0:Int) (ZI (k + x)) ([]:(List Zp))))] ?_ ?_
 ·refine AWP.of_draw (by kernel_rfl) ?_
  refine ADraw.either 26 2 (by kernel_rfl) ?_ ?_
  ·refine ADraw.either 26 6 (by kernel_rfl) ?_ ?_
   ·refine ADraw.either 26 8 (by kernel_rfl) ?_ ?_
    ·refine ADraw.either 26 10 (by kernel_rfl) ?_ ?_
     ·refine ADraw.either 26 14 (by kernel_rfl) ?_ ?_
      ·refine ADraw.either 26 16 (by kernel_rfl) ?_ ?_
       ·refine ADraw.either 26 21 (by kernel_rfl) ?_ ?_
        ·exact ADraw.drT [(2,.call Tryz.func14 [] (Zo i (12:Int) g l)),(3,.idx Z4 m),(6,.call Tryz.func14 [] (Zo g.2 (3:Int) b n)),(8,.call Tryz.func14 [] (Zo b.2 (2:Int) c o)),(10,.call Tryz.func14 [] (Zo c.2 (2:Int) d p)),(14,.call Tryz.func15 [] (Zcb d.2 a q)),(16,.call Tryz.func14 [] (Zo a.2 (4:Int) f s)),(21,.call Tryz.func14 [] (Zo f.2 (8:Int) j t)),(22,.idx Z4 u)] 27 [] [2,6,8,10,14,16,21,26] []
        ·exact ADraw.drT [(2,.call Tryz.func14 [] (Zo i (12:Int) g l)),(3,.idx Z4 m),(6,.call Tryz.func14 [] (Zo g.2 (3:Int) b n)),(8,.call Tryz.func14 [] (Zo b.2 (2:Int) c o)),(10,.call Tryz.func14 [] (Zo c.2 (2:Int) d p)),(14,.call Tryz.func15 [] (Zcb d.2 a q)),(16,.call Tryz.func14 [] (Zo a.2 (4:Int) f s)),(21,.call Tryz.func14 [] (Zo f.2 (8:Int) j t)),(22,.idx Z4 u)] 27 [0,1,2,3,4,5,6,7,8,9,10,11,12,13,14,15,16,17,18,19,20,26,21,22,23,24,25] [2,6,8,10,14,16,26,21] []
       ·exact ADraw.drT [(2,.call Tryz.func14 [] (Zo i (12:Int) g l)),(3,.idx Z4 m),(6,.call Tryz.func14 [] (Zo g.2 (3:Int) b n)),(8,.call Tryz.func14 [] (Zo b.2 (2:Int) c o)),(10,.call Tryz.func14 [] (Zo c.2 (2:Int) d p)),(14,.call Tryz.func15 [] (Zcb d.2 a q)),(16,.call Tryz.func14 [] (Zo a.2 (4:Int) f s)),(21,.call Tryz.func14 [] (Zo f.2 (8:Int) j t)),(22,.idx Z4 u)] 27 [0,1,2,3,4,5,6,7,8,9,10,11,12,13,14,15,18,19,20,26,16,17,21,22,23,24,25] [2,6,8,10,14,26,16,21] []
      ·exact ADraw.drT [(2,.call Tryz.func14 [] (Zo i (12:Int) g l)),(3,.idx Z4 m),(6,.call Tryz.func14 [] (Zo g.2 (3:Int) b n)),(8,.call Tryz.func14 [] (Zo b.2 (2:Int) c o)),(10,.call Tryz.func14 [] (Zo c.2 (2:Int) d p)),(14,.call Tryz.func15 [] (Zcb d.2 a q)),(16,.call Tryz.func14 [] (Zo a.2 (4:Int) f s)),(21,.call Tryz.func14 [] (Zo f.2 (8:Int) j t)),(22,.idx Z4 u)] 27 [0,1,2,3,4,5,6,7,8,9,10,11,12,13,15,18,19,20,26,14,16,17,21,22,23,24,25] [2,6,8,10,26,14,16,21] []
     ·exact ADraw.drT [(2,.call Tryz.func14 [] (Zo i (12:Int) g l)),(3,.idx Z4 m),(6,.call Tryz.func14 [] (Zo g.2 (3:Int) b n)),(8,.call Tryz.func14 [] (Zo b.2 (2:Int) c o)),(10,.call Tryz.func14 [] (Zo c.2 (2:Int) d p)),(14,.call Tryz.func15 [] (Zcb d.2 a q)),(16,.call Tryz.func14 [] (Zo a.2 (4:Int) f s)),(21,.call Tryz.func14 [] (Zo f.2 (8:Int) j t)),(22,.idx Z4 u)] 27 [0,1,2,3,4,5,6,7,8,9,13,15,18,19,20,26,10,11,12,14,16,17,21,22,23,24,25] [2,6,8,26,10,14,16,21] []
    ·exact ADraw.drT [(2,.call Tryz.func14 [] (Zo i (12:Int) g l)),(3,.idx Z4 m),(6,.call Tryz.func14 [] (Zo g.2 (3:Int) b n)),(8,.call Tryz.func14 [] (Zo b.2 (2:Int) c o)),(10,.call Tryz.func14 [] (Zo c.2 (2:Int) d p)),(14,.call Tryz.func15 [] (Zcb d.2 a q)),(16,.call Tryz.func14 [] (Zo a.2 (4:Int) f s)),(21,.call Tryz.func14 [] (Zo f.2 (8:Int) j t)),(22,.idx Z4 u)] 27 [0,1,2,3,4,5,6,7,9,13,15,18,19,20,26,8,10,11,12,14,16,17,21,22,23,24,25] [2,6,26,8,10,14,16,21] []
   ·exact ADraw.drT [(2,.call Tryz.func14 [] (Zo i (12:Int) g l)),(3,.idx Z4 m),(6,.call Tryz.func14 [] (Zo g.2 (3:Int) b n)),(8,.call Tryz.func14 [] (Zo b.2 (2:Int) c o)),(10,.call Tryz.func14 [] (Zo c.2 (2:Int) d p)),(14,.call Tryz.func15 [] (Zcb d.2 a q)),(16,.call Tryz.func14 [] (Zo a.2 (4:Int) f s)),(21,.call Tryz.func14 [] (Zo f.2 (8:Int) j t)),(22,.idx Z4 u)] 27 [0,1,2,3,4,5,7,9,13,15,18,19,20,26,6,8,10,11,12,14,16,17,21,22,23,24,25] [2,26,6,8,10,14,16,21] []
  ·exact ADraw.drT [(2,.call Tryz.func14 [] (Zo i (12:Int) g l)),(3,.idx Z4 m),(6,.call Tryz.func14 [] (Zo g.2 (3:Int) b n)),(8,.call Tryz.func14 [] (Zo b.2 (2:Int) c o)),(10,.call Tryz.func14 [] (Zo c.2 (2:Int) d p)),(14,.call Tryz.func15 [] (Zcb d.2 a q)),(16,.call Tryz.func14 [] (Zo a.2 (4:Int) f s)),(21,.call Tryz.func14 [] (Zo f.2 (8:Int) j t)),(22,.idx Z4 u)] 27 [0,1,5,7,9,13,15,18,19,20,26,2,3,4,6,8,10,11,12,14,16,17,21,22,23,24,25] [26,2,6,8,10,14,16,21] []
 refine AWP.seq (AWP.rg [] [(0,(.ptr 0 0)),(4,(.ptr 1 0)),(5,(.ptr 2 0))] [.cells (Zt j.2),.cells (Zs Zb2),.cells (Zs ({ (Zw.mk w (ZI (b.1 - (ZI (c.1 * d.1)))) a.1 Zl ByteArray.empty (decide (f.1 > (0:Int))) (0:Int) (ZI (k + x)) ([]:(List Zp))) with Sent:=a.1 }:Zw))] ?_)
 obtain⟨a5,a6,hF⟩:=bindb hF
 refine AWP.seq ?_
 refine AWP.mid (fun e st H=>(e=.normal∧∃ a1,∃ v,a5=(a1,v)∧st=[(0,(.ptr 0 0)),(4,(.ptr 1 0)),(5,(.ptr 2 0))]∧H=[.cells (Zt a1),.cells (Zs Zb2),.cells (Zs v)])) ?_ ?_
 ·clear hF
  have hF:=a6
  refine AWP.seq ?_
  obtain⟨y,a7,hF⟩:=bindb hF
  refine AWP.rg [(1,.call Tryz.func14 [] (Zo j.2 (4:Int) y a7))] [(0,(.ptr 0 0)),(4,(.ptr 1 0)),(5,(.ptr 2 0)),(37,(vb (y.1 == (0:Int))))] [.cells (Zt y.2),.cells (Zs Zb2),.cells (Zs ({ (Zw.mk w (ZI (b.1 - (ZI (c.1 * d.1)))) a.1 Zl ByteArray.empty (decide (f.1 > (0:Int))) (0:Int) (ZI (k + x)) ([]:(List Zp))) with Sent:=a.1 }:Zw))] ?_
  refine AWP.cif hF (fun a8 hF=>?_) (fun a8 hF=>?_)
  ·refine AWP.rg [] [(0,(.ptr 0 0)),(4,(.ptr 1 0)),(5,(.ptr 2 0))] [.cells (Zt y.2),.cells (Zs Zb2),.cells (Zs ({ (Zw.mk w (ZI (b.1 - (ZI (c.1 * d.1)))) a.1 Zl ByteArray.empty (decide (f.1 > (0:Int))) (0:Int) (ZI (k + x)) ([]:(List Zp))) with Sent:=({ a.1 with Dst:=(3405803781:Int) }:Zc) }:Zw))] (LeQ.start (LeQ.pk [0,4,5] 3 ?_))
   exact⟨rfl,y.2,({ (Zw.mk w (ZI (b.1 - (ZI (c.1 * d.1)))) a.1 Zl ByteArray.empty (decide (f.1 > (0:Int))) (0:Int) (ZI (k + x)) ([]:(List Zp))) with Sent:=({ a.1 with Dst:=(3405803781:Int) }:Zc) }:Zw),(someb hF).symm,by kernel_rfl,by kernel_rfl⟩
  ·refine AWP.skip (LeQ.start (LeQ.pk [0,4,5] 3 ?_))
   exact⟨rfl,y.2,({ (Zw.mk w (ZI (b.1 - (ZI (c.1 * d.1)))) a.1 Zl ByteArray.empty (decide (f.1 > (0:Int))) (0:Int) (ZI (k + x)) ([]:(List Zp))) with Sent:=a.1 }:Zw),(someb hF).symm,by kernel_rfl,by kernel_rfl⟩
 ·rintro _ _ _ ⟨rfl,a1,v,rfl,rfl,rfl⟩
  refine AWP.seq ?_
  obtain⟨a3,a9,hF⟩:=bindb hF
  obtain⟨a0,b0,hF⟩:=bindb hF
  refine AWP.rg [(2,.call Tryz.func14 [] (Zo a1 (2:Int) a3 a9)),(3,.idx Znk b0)] [(0,(.ptr 0 0)),(4,(.ptr 1 0)),(5,(.ptr 2 0))] [.cells (Zt a3.2),.cells (Zs Zb2),.cells (Zs ({ v with Class:=a0 }:Zw))] (AWP.seq ?_)
  obtain⟨a4,b1,hF⟩:=bindb hF
  obtain⟨a2,b2,hF⟩:=bindb hF
  refine AWP.rg [(2,.call Tryz.func14 [] (Zo a3.2 (8:Int) a4 b1)),(3,.idx Z4 b2)] [(0,(.ptr 0 0)),(4,(.ptr 1 0)),(5,(.ptr 2 0))] [.cells (Zt a4.2),.cells (Zs Zb2),.cells (Zs ({ ({ v with Class:=a0 }:Zw) with Flags:=a2 }:Zw))] (AWP.seq ?_)
  obtain⟨z,b3,hF⟩:=bindb hF
  refine AWP.rg [(1,.call Tryz.func16 [] (Zl1 a4.2 z b3))] [(4,(.ptr 1 0)),(5,(.ptr 2 0))] [.cells (Zt z.2),.cells (Zs Zb2),.cells (Zs ({ ({ ({ v with Class:=a0 }:Zw) with Flags:=a2 }:Zw) with Hides:=z.1 }:Zw))] (AWP.seq (AWP.rg [] [(4,(.ptr 1 0))] [.cells (Zt z.2),.cells (Zs ({ ({ ({ v with Class:=a0 }:Zw) with Flags:=a2 }:Zw) with Hides:=z.1 }:Zw)),.cells (Zs ({ ({ ({ v with Class:=a0 }:Zw) with Flags:=a2 }:Zw) with Hides:=z.1 }:Zw))] (AWP.ret ?_)))
  have hr:=someb hF
  subst hr
  exact(FnQ.f0 1 (.inr rfl))
def Zhu (a:Int) (r:(Int × (List (Zc × Za)))):PV→List Blk→Prop:=fun p K=>p=(i64 r.1)∧K=[.fm (List.map (entF Zh Zf) r.2),.cells [(i64 a),(.mp 0)]]
theorem Zas (d:Int) (g:(List (Zc × Za))) (a:Int) (r:(Int × (List (Zc × Za)))) (hF:Z3 d g a=some r):ACall Tryz.prog glob 26 [(.ptr 1 0),(i64 a)] [.fm (List.map (entF Zh Zf) g),.cells [(i64 d),(.mp 0)]] (Zhu d r):=by
 refine ACall.body Tryz.func26 rfl (by kernel_rfl) ?_
 unfold Z3 at hF
 refine AWP.seq (AWP.rg0 [] [(0,(.ptr 1 0)),(1,(i64 a))] (AWP.seq (AWP.seq (AWP.rg0 [(1,.ptrNil)] [(0,(.ptr 1 0)),(1,(i64 a)),(9,(vb false))] ?_))))
 refine AWP.cF ?_
 refine AWP.skip (AWP.seq (AWP.rg0 [] [(0,(.ptr 1 0)),(1,(i64 a)),(5,(i64 (0:Int)))] (AWP.seq (AWP.seq ?_))))
 refine AWP.openM Zh Zf g 0 (fun u c w=>?_)
 refine AWP.rg [(4,.rngE)] [(0,(.ptr 1 0)),(1,(i64 a)),(5,(i64 (0:Int))),(14,(.ptr 2 0))] [.map (List.map (entT Zh Zf) u) c,.cells [(i64 d),(.mp 0)],.iter (some 0) c [] c] ?_
 have o:=allpb hF
 clear hF
 refine AWP.kp [0,1,5,14] 3 ?_ (hfar:=(farM (farC (by kernel_rfl) (farC (by kernel_rfl) farN))))
 refine AWP.mid (fun e st H=>∃ m,∃(k:Empty ⊕ ((List (Zc × Za)) × Int)),m.Perm g∧mfold (Za4 a) m (g,(0:Int))=some k∧overM Zh Zf (fun(s_:((List (Zc × Za)) × Int))=>s_.1) (fun(s_:((List (Zc × Za)) × Int))=>[(0,(.ptr 1 0)),(1,(i64 a)),(5,(i64 s_.2)),(14,(.ptr 2 0))]) (fun(s_:((List (Zc × Za)) × Int)) (x_ y_:Blk)=>[x_,.cells [(i64 d),(.mp 0)],y_]) (fun(_:Empty) _ _ _=>False) 0 c k e st H) ?_ ?_
 ·refine AWP.rangeQ (it:=14) (t:=15) (b:=16) (i:=0) (q:=2) (cl:=c) (kv:=Zh) (vv:=Zf) (B:=Za4 a) (M:=(fun(s_:((List (Zc × Za)) × Int))=>s_.1)) (stf:=(fun(s_:((List (Zc × Za)) × Int))=>[(0,(.ptr 1 0)),(1,(i64 a)),(5,(i64 s_.2)),(14,(.ptr 2 0))])) (Hf:=(fun(s_:((List (Zc × Za)) × Int)) (x_ y_:Blk)=>[x_,.cells [(i64 d),(.mp 0)],y_])) (Qe:=(fun(_:Empty) _ _ _=>False)) (L:=g) (si_:=(g,(0:Int))) (Ei_:=u) (by kernel_rfl) (fun _=>rfl) (fun _ _ _=>rfl) (fun _ _ _=>rfl) (fun _ _ _ _=>rfl) (fun _ _ _=>rfl) (fun y_ _ _ _ _=>(by cases y_)) w rfl (fun l_ h_=>isb (o l_ h_)) rfl rfl ?_ (fun l_ o_ h1_ h2_ e st H h3_=>LeQ.of ⟨l_,o_,h1_,h2_,h3_⟩)
  rintro p n ⟨s,f⟩ ⟨x,j⟩ k hF v l
  rw [Za4] at hF
  show AWP _ _ _ _ _ _ [(0,(.ptr 1 0)),(1,(i64 a)),(5,(i64 j)),(14,(.ptr 2 0))] [.map (List.map (entT Zh Zf) p) c,.cells [(i64 d),(.mp 0)],.iter (some 0) c (n++[s]) c]
  refine AWP.block (AWP.seq (AWP.rg [(0,.entE Zf l n v)] [(0,(.ptr 1 0)),(1,(i64 a)),(5,(i64 j)),(6,(.ptr 3 0)),(7,(.ptr 4 0)),(14,(.ptr 2 0))] [.map (List.map (entT Zh Zf) p) c,.cells [(i64 d),(.mp 0)],.iter (some 0) c (n++[s]) c,.cells (Ze f.1),.cells (Zb f.2)] (AWP.seq (AWP.rg0 [] [(0,(.ptr 1 0)),(1,(i64 a)),(5,(i64 j)),(6,(.ptr 3 0)),(14,(.ptr 2 0)),(23,(vb (decide (f.2.Expires≤a))))] ?_))))
  refine AWP.cif hF (fun z hF=>?_) (fun z hF=>?_)
  ·refine AWP.seq (AWP.dr [(5,.delE Zak Zf l f.1)] 6 [] [5] [] [(0,(.ptr 1 0)),(1,(i64 a)),(5,(i64 j)),(14,(.ptr 2 0))] [.map (List.map (entT Zh Zf) (List.filter (fun y=>!Zg f.1 y.2.1) p)) c,.cells [(i64 d),(.mp 0)],.iter (some 0) c (n++[s]) c,.cells (Ze f.1),.cells (Zb f.2)] (AWP.rg0 [] [(0,(.ptr 1 0)),(1,(i64 a)),(5,(i64 (ZI (j + (1:Int))))),(14,(.ptr 2 0))] (LeQ.start ?_)))
   refine LeQ.pk [0,1,5,14] 3 ?_ (hfar:=(farM (farC (by kernel_rfl) (farC (by kernel_rfl) farN))))
   have hr:=someb hF
   subst hr
   exact roundM.mk ((Zjg (vv:=Zf) Zak l f.1).2) (keepsE.del Zak l v)
  ·refine AWP.skip (LeQ.start ?_)
   refine LeQ.pk [0,1,5,14] 3 ?_ (hfar:=(farM (farC (by kernel_rfl) (farC (by kernel_rfl) farN))))
   have hr:=someb hF
   subst hr
   exact roundM.mk l (.inl rfl)
 ·rintro e st H ⟨m,k,a0,a1,a2⟩
  have hF:=overb a1 (o m a0)
  clear o
  obtain a3 | ⟨x,j⟩:=k
  ·exact (by cases a3)
  ·obtain⟨rfl,a5,a6,a4,rfl,rfl⟩:=a2
   refine AWP.closeM Zf 0 a4 ?_
   refine AWP.seq (AWP.rg0 [] [(4,(i64 j))] (AWP.ret ?_))
   have hr:=someb hF
   subst hr
   exact(FnQ.f0 2 (.inr rfl))
def Zgh (r:Bool):PV→List Blk→Prop:=fun p K=>p=(vb r)∧K=[]
theorem Zgi (a:Za) (r:Bool) (hF:Zca a=some r):ACall Tryz.prog glob 36 [(Z2 a)] [] (Zgh r):=by
 refine ACall.body Tryz.func36 rfl (by kernel_rfl) ?_
 unfold Zca at hF
 refine AWP.seq (AWP.rg [] [(1,(.ptr 0 0))] [.cells (Zb a)] (AWP.seq (AWP.rg0 [] [(2,(vb (a.From != (-1:Int))))] (AWP.ret ?_))))
 have hr:=someb hF
 subst hr
 exact(FnQ.f0 0 (.inr rfl))
def Zeg (a:Int) (b:(List (Zc × Za))) (r:(Za × Int)):PV→List Blk→Prop:=fun p K=>p=(.tup [(Z2 r.1),(i64 r.2)])∧K=[.fm (List.map (entF Zh Zf) b),.cells [(i64 a),(.mp 0)]]
theorem Zeh (c:Int) (a:(List (Zc × Za))) (b:Zc) (i:Bool) (r:(Za × Int)) (hF:Z5 c a b i=some r):ACall Tryz.prog glob 35 [(.ptr 1 0),(Zv b),(vb i),(.sc (.func (.func 36) #[] #[]))] [.fm (List.map (entF Zh Zf) a),.cells [(i64 c),(.mp 0)]] (Zeg c a r):=by
 refine ACall.body Tryz.func35 rfl (by kernel_rfl) ?_
 unfold Z5 at hF
 refine AWP.seq (AWP.rg [] [(0,(.ptr 1 0)),(2,(vb i)),(3,(.sc (.func (.func 36) #[] #[]))),(5,(.ptr 2 0)),(8,(.ptr 3 0))] [.fm (List.map (entF Zh Zf) a),.cells [(i64 c),(.mp 0)],.cells (Ze b),.cells (Zb Zm)] (AWP.seq (AWP.dr [(5,.lookM Zak Zf Zm a b)] 11 [] [9,10] [] [(0,(.ptr 1 0)),(2,(vb i)),(3,(.sc (.func (.func 36) #[] #[]))),(5,(.ptr 2 0)),(8,(.ptr 3 0)),(10,(.ptr 4 0)),(11,(vb (mget Zg a b).isSome))] [.fm (List.map (entF Zh Zf) a),.cells [(i64 c),(.mp 0)],.cells (Ze b),.cells (Zb Zm),.cells (Zb ((mget Zg a b).getD Zm))] (AWP.seq (AWP.block (AWP.seq ?_))))))
 obtain⟨m,f,hF⟩:=bindb hF
 replace f:=someb f
 obtain⟨n,k,hF⟩:=bindb hF
 refine AWP.to [(0,(.ptr 1 0)),(5,(.ptr 2 0)),(8,(.ptr 3 0)),(10,(.ptr 4 0)),(11,(vb (mget Zg a b).isSome)),(21,(vb n))] [.fm (List.map (entF Zh Zf) a),.cells [(i64 c),(.mp 0)],.cells (Ze b),.cells (Zb Zm),.cells (Zb ((mget Zg a b).getD Zm))] ?_ ?_
 ·cases m with
  | false=>
   have o:=someb (ifF k rfl)
   subst o
   exact AWP.rgT [(2,.bool f)]
  | true=>
   have d:=ifT k rfl
   obtain⟨p,j,d⟩:=bindb d
   replace j:=someb j
   obtain⟨x,l,d⟩:=bindb d
   replace d:=someb d
   subst d
   cases p with
   | false=>
    have g:=ifF l rfl
    obtain⟨q,s,g⟩:=bindb g
    replace g:=someb g
    subst g
    exact AWP.rgT [(2,.bool f),(5,.bool j),(8,.call Tryz.func36 [] (Zgi ((mget Zg a b).getD Zm) q s))]
   | true=>
    have t:=someb (ifT l rfl)
    subst t
    exact AWP.rgT [(2,.bool f),(5,.bool j)]
 refine AWP.cif hF (fun u hF=>?_) (fun u hF=>?_)
 ·refine AWP.seq (AWP.rg [] [(8,(.ptr 3 0)),(9,(i64 (16:Int)))] [.fm (List.map (entF Zh Zf) a),.cells [(i64 c),(.mp 0)],.cells (Ze b),.cells (Zb (Za.mk Zl Zl Zl (0:Int) (0:Int) false ByteArray.empty (0:Int) (0:Int))),.cells (Zb ((mget Zg a b).getD Zm))] (AWP.ret ?_))
  have hr:=someb hF
  subst hr
  exact(FnQ.f0 2 (.inr rfl))
 ·refine AWP.seq (AWP.rg0 [] [(0,(.ptr 1 0)),(5,(.ptr 2 0)),(8,(.ptr 3 0)),(10,(.ptr 4 0)),(35,(vb (mget Zg a b).isSome))] ?_)
  refine AWP.cif hF (fun v hF=>?_) (fun v hF=>?_)
  ·refine AWP.seq (AWP.rg [] [(8,(.ptr 3 0)),(9,(i64 (0:Int)))] [.fm (List.map (entF Zh Zf) a),.cells [(i64 c),(.mp 0)],.cells (Ze b),.cells (Zb ((mget Zg a b).getD Zm)),.cells (Zb ((mget Zg a b).getD Zm))] (AWP.ret ?_))
   have hr:=someb hF
   subst hr
   exact(FnQ.f0 2 (.inr rfl))
  ·refine AWP.seq (AWP.dr [(4,.lenM Zh Zf a)] 11 [] [] [] [(5,(.ptr 2 0)),(8,(.ptr 3 0)),(38,(vb (decide ((List.length a:Int) ≥ c))))] [.fm (List.map (entF Zh Zf) a),.cells [(i64 c),(.mp 0)],.cells (Ze b),.cells (Zb Zm),.cells (Zb ((mget Zg a b).getD Zm))] ?_)
   refine AWP.cif hF (fun w hF=>?_) (fun w hF=>?_)
   ·refine AWP.seq (AWP.rg [] [(8,(.ptr 3 0)),(9,(i64 (9:Int)))] [.fm (List.map (entF Zh Zf) a),.cells [(i64 c),(.mp 0)],.cells (Ze b),.cells (Zb (Za.mk Zl Zl Zl (0:Int) (0:Int) false ByteArray.empty (0:Int) (0:Int))),.cells (Zb ((mget Zg a b).getD Zm))] (AWP.ret ?_))
    have hr:=someb hF
    subst hr
    exact(FnQ.f0 2 (.inr rfl))
   ·refine AWP.skip (AWP.seq (AWP.rg [] [(8,(.ptr 3 0)),(9,(i64 (0:Int)))] [.fm (List.map (entF Zh Zf) a),.cells [(i64 c),(.mp 0)],.cells (Ze b),.cells (Zb (Za.mk b Zl Zl (-1:Int) (-1:Int) false ByteArray.empty (1:Int) (0:Int))),.cells (Zb ((mget Zg a b).getD Zm))] (AWP.ret ?_)))
    have hr:=someb hF
    subst hr
    exact(FnQ.f0 2 (.inr rfl))
def Zjh (r:Int):PV→List Blk→Prop:=fun p K=>p=(i64 r)∧K=[]
theorem Zji (a:Za) (r:Int) (hF:Zcr a=some r):ACall Tryz.prog glob 57 [(Z2 a)] [] (Zjh r):=by
 refine ACall.body Tryz.func57 rfl (by kernel_rfl) ?_
 unfold Zcr at hF
 refine AWP.seq (AWP.rg [] [(1,(.ptr 0 0))] [.cells (Zb a)] (AWP.seq (AWP.seq (AWP.rg0 [] [(1,(.ptr 0 0)),(6,(vb (a.Real.Proto != (6:Int))))] ?_))))
 refine AWP.cif hF (fun b hF=>?_) (fun b hF=>?_)
 ·refine AWP.seq (AWP.rg0 [] [(2,(i64 (60:Int)))] (AWP.ret ?_))
  have hr:=someb hF
  subst hr
  exact(FnQ.f0 0 (.inr rfl))
 ·refine AWP.skip (AWP.seq (AWP.seq (AWP.rg0 [] [(8,(i64 a.State))] (AWP.block (AWP.seq (AWP.rg0 [] [(8,(i64 a.State)),(9,(vb (a.State == (2:Int))))] ?_))))))
  refine AWP.cif hF (fun c hF=>?_) (fun c hF=>?_)
  ·refine AWP.seq (AWP.rg0 [] [(2,(i64 (600:Int)))] (AWP.ret ?_))
   have hr:=someb hF
   subst hr
   exact(FnQ.f0 0 (.inr rfl))
  ·refine AWP.seq (AWP.rg0 [] [(11,(vb (a.State == (3:Int))))] ?_)
   refine AWP.cif hF (fun d hF=>?_) (fun d hF=>?_)
   ·refine AWP.seq (AWP.rg0 [] [(2,(i64 (10:Int)))] (AWP.ret ?_))
    have hr:=someb hF
    subst hr
    exact(FnQ.f0 0 (.inr rfl))
   ·refine AWP.skip (AWP.seq (AWP.rg0 [] [(2,(i64 (30:Int)))] (AWP.ret ?_)))
    have hr:=someb hF
    subst hr
    exact(FnQ.f0 0 (.inr rfl))
def Zis (a:Int) (r:(List (Zc × Za))):PV→List Blk→Prop:=fun p K=>p=(.tup [])∧K=[.fm (List.map (entF Zh Zf) r),.cells [(i64 a),(.mp 0)]]
theorem Zdk (a:Int) (b:(List (Zc × Za))) (d:Za) (c:Int) (r:(List (Zc × Za))) (hF:Zan a b d c=some r):ACall Tryz.prog glob 37 [(.ptr 1 0),(Z2 d),(i64 c)] [.fm (List.map (entF Zh Zf) b),.cells [(i64 a),(.mp 0)]] (Zis a r):=by
 refine ACall.body Tryz.func37 rfl (by kernel_rfl) ?_
 unfold Zan at hF
 refine AWP.seq (AWP.rg [] [(0,(.ptr 1 0)),(2,(i64 c)),(4,(.ptr 2 0))] [.fm (List.map (entF Zh Zf) b),.cells [(i64 a),(.mp 0)],.cells (Zb d)] (AWP.seq ?_))
 obtain⟨f,i,hF⟩:=bindb hF
 refine AWP.rg0 [(1,.call Tryz.func57 [] (Zji d f i))] [(0,(.ptr 1 0)),(2,(i64 c)),(4,(.ptr 2 0)),(6,(i64 f))] (AWP.seq (AWP.rg [] [(0,(.ptr 1 0)),(2,(i64 c)),(4,(.ptr 2 0)),(6,(i64 f))] [.fm (List.map (entF Zh Zf) b),.cells [(i64 a),(.mp 0)],.cells (Zb ({ d with Expires:=(9223372036854775807:Int) }:Za))] ?_))
 obtain⟨g,j,hF⟩:=bindb hF
 refine AWP.seq ?_
 refine AWP.mid (fun e st H=>e=.normal∧st=[(0,(.ptr 1 0)),(4,(.ptr 2 0))]∧H=[.fm (List.map (entF Zh Zf) b),.cells [(i64 a),(.mp 0)],.cells (Zb g)]) ?_ ?_
 ·clear hF
  have hF:=j
  refine AWP.seq (AWP.rg0 [] [(0,(.ptr 1 0)),(2,(i64 c)),(4,(.ptr 2 0)),(6,(i64 f)),(13,(vb (decide (c≤(ZI ((9223372036854775807:Int) - f))))))] ?_)
  refine AWP.cif hF (fun k hF=>?_) (fun k hF=>?_)
  ·refine AWP.rg [] [(0,(.ptr 1 0)),(4,(.ptr 2 0))] [.fm (List.map (entF Zh Zf) b),.cells [(i64 a),(.mp 0)],.cells (Zb ({ d with Expires:=(ZI (c + f)) }:Za))] (LeQ.start (LeQ.pk [0,4] 3 ?_))
   have hr:=someb hF
   subst hr
   exact⟨rfl,by kernel_rfl,by kernel_rfl⟩
  ·refine AWP.skip (LeQ.start (LeQ.pk [0,4] 3 ?_))
   have hr:=someb hF
   subst hr
   exact⟨rfl,by kernel_rfl,by kernel_rfl⟩
 ·rintro _ _ _ ⟨rfl,rfl,rfl⟩
  refine AWP.dr [(7,.putM Zak Zf b g.Real g)] 7 [] [] [] [] [.fm (List.map (entF Zh Zf) (mput Zg b g.Real g)),.cells [(i64 a),(.mp 0)],.cells (Zb g)] ?_
  have hr:=someb hF
  subst hr
  exact(FnQ.f0 2 (.inl rfl))
def Zgv (a:Int) (r:(Int × (List (Zc × Za)))):PV→List Blk→Prop:=fun p K=>p=(i64 r.1)∧K=[.fm (List.map (entF Zh Zf) r.2),.cells [(i64 a),(.mp 0)]]
theorem Zgw (d:Int) (o:(List (Zc × Za))) (c:Int) (i:Zc) (a:Zc) (f:ByteArray) (j:Bool) (g:Int) (r:(Int × (List (Zc × Za)))) (hF:Zbs d o c i a f j g=some r):ACall Tryz.prog glob 17 [(.ptr 1 0),(i64 c),(Zv i),(Zv a),(vstr f),(vb j),(i64 g)] [.fm (List.map (entF Zh Zf) o),.cells [(i64 d),(.mp 0)]] (Zgv d r):=by
 refine ACall.body Tryz.func17 rfl (by kernel_rfl) ?_
 unfold Zbs at hF
 refine AWP.seq (AWP.rg [] [(0,(.ptr 1 0)),(1,(i64 c)),(4,(vstr f)),(5,(vb j)),(6,(i64 g)),(9,(.ptr 2 0)),(10,(.ptr 3 0))] [.fm (List.map (entF Zh Zf) o),.cells [(i64 d),(.mp 0)],.cells (Ze i),.cells (Ze a)] (AWP.seq (AWP.seq (AWP.rg0 [(1,.ptrNil)] [(0,(.ptr 1 0)),(1,(i64 c)),(4,(vstr f)),(5,(vb j)),(6,(i64 g)),(9,(.ptr 2 0)),(10,(.ptr 3 0)),(20,(vb false))] ?_))))
 refine AWP.cF ?_
 refine AWP.skip (AWP.seq ?_)
 obtain⟨b,t,hF⟩:=bindb hF
 refine AWP.rg [(2,.callS Tryz.func26 [0,1] [] (Zas d o g b t))] [(0,(.ptr 1 0)),(1,(i64 c)),(4,(vstr f)),(5,(vb j)),(6,(i64 g)),(9,(.ptr 2 0)),(10,(.ptr 3 0))] [.fm (List.map (entF Zh Zf) b.2),.cells [(i64 d),(.mp 0)],.cells (Ze i),.cells (Ze a)] (AWP.seq (AWP.seq (AWP.rg0 [] [(0,(.ptr 1 0)),(1,(i64 c)),(4,(vstr f)),(5,(vb j)),(6,(i64 g)),(9,(.ptr 2 0)),(10,(.ptr 3 0)),(25,(vb (decide (c<(0:Int)))))] ?_)))
 refine AWP.cif hF (fun u hF=>?_) (fun u hF=>?_)
 ·refine AWP.seq (AWP.rg0 [] [(14,(i64 (1:Int)))] (AWP.ret ?_))
  have hr:=someb hF
  subst hr
  exact(FnQ.f0 2 (.inr rfl))
 ·refine AWP.skip (AWP.seq (AWP.seq (AWP.dr [(5,.lookM Zak Zf Zm b.2 a)] 11 [] [9,10] [] [(0,(.ptr 1 0)),(1,(i64 c)),(4,(vstr f)),(5,(vb j)),(6,(i64 g)),(9,(.ptr 2 0)),(10,(.ptr 3 0)),(15,(.ptr 4 0)),(16,(vb (mget Zg b.2 a).isSome))] [.fm (List.map (entF Zh Zf) b.2),.cells [(i64 d),(.mp 0)],.cells (Ze i),.cells (Ze a),.cells (Zb ((mget Zg b.2 a).getD Zm))] (AWP.seq ?_))))
  obtain⟨v,l,hF⟩:=bindb hF
  replace l:=someb l
  obtain⟨w,m,hF⟩:=bindb hF
  replace m:=someb m
  obtain⟨x,q,hF⟩:=bindb hF
  refine AWP.to [(0,(.ptr 1 0)),(1,(i64 c)),(4,(vstr f)),(5,(vb j)),(6,(i64 g)),(9,(.ptr 2 0)),(10,(.ptr 3 0)),(52,(vb x))] [.fm (List.map (entF Zh Zf) b.2),.cells [(i64 d),(.mp 0)],.cells (Ze i),.cells (Ze a),.cells (Zb ((mget Zg b.2 a).getD Zm))] ?_ ?_
  ·cases v with
   | false=>
    subst m
    have y:=someb (ifF q rfl)
    subst y
    exact AWP.rgT [(1,.bool l)]
   | true=>
    cases w with
    | false=>
     have z:=someb (ifF q rfl)
     subst z
     exact AWP.rgT [(1,.bool l),(6,.bool m)]
    | true=>
     have n:=ifT q rfl
     obtain⟨a0,p,n⟩:=bindb n
     replace p:=someb p
     replace n:=someb n
     subst n
     cases a0 with
     | false=>
      exact AWP.rgT [(1,.bool l),(6,.bool m),(11,.bool p)]
     | true=>
      exact AWP.rgT [(1,.bool l),(6,.bool m),(11,.bool p)]
  refine AWP.cif hF (fun a1 hF=>?_) (fun a1 hF=>?_)
  ·refine AWP.seq (AWP.rg0 [] [(14,(i64 (12:Int)))] (AWP.ret ?_))
   have hr:=someb hF
   subst hr
   exact(FnQ.f0 2 (.inr rfl))
  ·refine AWP.skip (AWP.seq ?_)
   obtain⟨k,a2,hF⟩:=bindb hF
   refine AWP.rg [(3,.callS Tryz.func35 [0,1] [] (Zeh d b.2 a j k a2))] [(0,(.ptr 1 0)),(1,(i64 c)),(4,(vstr f)),(6,(i64 g)),(9,(.ptr 2 0)),(17,(.ptr 5 0)),(18,(i64 k.2))] [.fm (List.map (entF Zh Zf) b.2),.cells [(i64 d),(.mp 0)],.cells (Ze i),.cells (Ze a),.cells (Zb ((mget Zg b.2 a).getD Zm)),.cells (Zb k.1)] (AWP.seq (AWP.seq (AWP.rg0 [] [(0,(.ptr 1 0)),(1,(i64 c)),(4,(vstr f)),(6,(i64 g)),(9,(.ptr 2 0)),(17,(.ptr 5 0)),(18,(i64 k.2)),(61,(vb (k.2 != (0:Int))))] ?_)))
   refine AWP.cif hF (fun a3 hF=>?_) (fun a3 hF=>?_)
   ·refine AWP.seq (AWP.rg0 [] [(14,(i64 k.2))] (AWP.ret ?_))
    have hr:=someb hF
    subst hr
    exact(FnQ.f0 2 (.inr rfl))
   ·refine AWP.skip (AWP.seq (AWP.dr [] 7 [] [4,6] [] [(0,(.ptr 1 0)),(6,(i64 g)),(17,(.ptr 5 0))] [.fm (List.map (entF Zh Zf) b.2),.cells [(i64 d),(.mp 0)],.cells (Ze i),.cells (Ze a),.cells (Zb ((mget Zg b.2 a).getD Zm)),.cells (Zb ({ ({ ({ k.1 with From:=c }:Za) with Sent:=i }:Za) with Class:=f }:Za))] (AWP.seq ?_)))
    obtain⟨s,a4,hF⟩:=bindb hF
    refine AWP.rg [(3,.callS Tryz.func37 [0,1] [] (Zdk d b.2 ({ ({ ({ k.1 with From:=c }:Za) with Sent:=i }:Za) with Class:=f }:Za) g s a4))] [] [.fm (List.map (entF Zh Zf) s),.cells [(i64 d),(.mp 0)],.cells (Ze i),.cells (Ze a),.cells (Zb ((mget Zg b.2 a).getD Zm)),.cells (Zb ({ ({ ({ k.1 with From:=c }:Za) with Sent:=i }:Za) with Class:=f }:Za))] (AWP.seq (AWP.rg0 [] [(14,(i64 (0:Int)))] (AWP.ret ?_)))
    have hr:=someb hF
    subst hr
    exact(FnQ.f0 2 (.inr rfl))
def Zif (r:(Int × Zk)):PV→List Blk→Prop:=fun p K=>p=(i64 r.1)∧K=[.cells (Zi r.2)]
theorem Zbc (a:Zk) (b:Int) (r:(Int × Zk)) (hF:Z6 a b=some r):ACall Tryz.prog glob 27 [(.ptr 0 0),(i64 b)] [.cells (Zi a)] (Zif r):=by
 refine ACall.body Tryz.func27 rfl (by kernel_rfl) ?_
 unfold Z6 at hF
 refine AWP.seq (AWP.rg0 [] [(0,(.ptr 0 0)),(1,(i64 b))] (AWP.seq (AWP.rg0 [] [(0,(.ptr 0 0)),(1,(i64 b)),(5,nils)] ?_)))
 refine AWP.own (H':=[.cells (Zi a),bf 21 67 Zb ([]:(List Za)) false]) (st':=[(5,(.own 1 (List.length ([]:(List Za))))),(0,(.ptr 0 0)),(1,(i64 b))]) 5 21 67 (by kernel_rfl) (by kernel_rfl) (by kernel_rfl) ?_
 refine AWP.pick (st':=[(0,(.ptr 0 0)),(1,(i64 b)),(5,(.own 1 (List.length ([]:(List Za)))))]) (ks:=[0,1,5]) (by kernel_rfl) ?_
 refine AWP.seq (AWP.seq (AWP.rg0 [] [(0,(.ptr 0 0)),(1,(i64 b)),(5,(.own 1 (List.length ([]:(List Za))))),(6,(i64 (0:Int)))] ?_))
 obtain⟨c,k,hF⟩:=bindb hF
 refine AWP.mid (fun e st H=>e=.normal∧st=[(0,(.ptr 0 0)),(5,(.own 1 (List.length c)))]∧H=[.cells (Zi a),bf 21 67 Zb c false]) ?_ ?_
 ·clear hF
  refine AWP.kp [0,1,5,6] 2 ?_
  refine AWP.bround (fun n st H=>∃ f,∃ d,Zat a b n f d=some c∧st=[(0,(.ptr 0 0)),(1,(i64 b)),(5,(.own 1 (List.length f))),(6,(i64 d))]∧H=[.cells (Zi a),bf 21 67 Zb f false]) fuel ⟨([]:(List Za)),(0:Int),k,by kernel_rfl,by kernel_rfl⟩ ?_
  rintro i st H ⟨f,d,hF,rfl,rfl⟩
  cases i with
  | zero=>exact noneb hF
  | succ i=>
   rw [Zat] at hF
   refine AWP.seq (AWP.seq (AWP.rg0 [(5,.len Zb a.L)] [(0,(.ptr 0 0)),(1,(i64 b)),(5,(.own 1 (List.length f))),(6,(i64 d)),(14,(vb (decide (d<(List.length a.L:Int)))))] ?_))
   refine AWP.cif hF (fun l hF=>?_) (fun l hF=>?_)
   ·refine AWP.skip ?_
    obtain⟨g,m,hF⟩:=bindb hF
    refine AWP.seq ?_
    refine AWP.mid (fun e st H=>e=.normal∧st=[(0,(.ptr 0 0)),(1,(i64 b)),(5,(.own 1 (List.length g))),(6,(i64 d))]∧H=[.cells (Zi a),bf 21 67 Zb g false]) ?_ ?_
    ·clear hF
     have hF:=m
     refine AWP.block (AWP.seq ?_)
     obtain⟨o,p,hF⟩:=bindb hF
     refine AWP.rg0 [(5,.idx Zb p)] [(0,(.ptr 0 0)),(1,(i64 b)),(5,(.own 1 (List.length f))),(6,(i64 d)),(26,(vb (decide (o.Expires > b))))] ?_
     refine AWP.cif hF (fun q hF=>?_) (fun q hF=>?_)
     ·obtain⟨j,s,hF⟩:=bindb hF
      obtain⟨t,hF⟩:=chkb hF
      refine AWP.rg [(6,.idx Zb s),(9,.app Zb (fun _=>by kernel_rfl) t)] [(0,(.ptr 0 0)),(1,(i64 b)),(5,(.own 1 (List.length (f++[j])))),(6,(i64 d))] [.cells (Zi a),bf 21 67 Zb (f++[j]) false] (LeQ.start (LeQ.pk [0,1,5,6] 2 ?_))
      have hr:=someb hF
      subst hr
      exact⟨rfl,by kernel_rfl,by kernel_rfl⟩
     ·refine AWP.skip (LeQ.start (LeQ.pk [0,1,5,6] 2 ?_))
      have hr:=someb hF
      subst hr
      exact⟨rfl,by kernel_rfl,by kernel_rfl⟩
    ·rintro _ _ _ ⟨rfl,rfl,rfl⟩
     refine AWP.rg0 [] [(0,(.ptr 0 0)),(1,(i64 b)),(5,(.own 1 (List.length g))),(6,(i64 (ZI (d + (1:Int)))))] (LeQ.start (LeQ.pk [0,1,5,6] 2 ?_))
     exact⟨i,Nat.lt_succ_self _,g,(ZI (d + (1:Int))),hF,by kernel_rfl,by kernel_rfl⟩
   ·refine AWP.exit (LeQ.start (LeQ.pk [0,5] 2 ?_))
    have hr:=someb hF
    subst hr
    exact⟨rfl,by kernel_rfl,by kernel_rfl⟩
 ·rintro _ _ _ ⟨rfl,rfl,rfl⟩
  refine AWP.seq (AWP.rg0 [(4,.len Zb a.L),(6,.len Zb c)] [(0,(.ptr 0 0)),(5,(.own 1 (List.length c))),(7,(i64 (ZI ((List.length a.L:Int) - (List.length c:Int)))))] (AWP.seq (AWP.rg [(4,.stShA Zb c)] [(7,(i64 (ZI ((List.length a.L:Int) - (List.length c:Int)))))] [.cells (Zi ({ a with L:=c }:Zk)),bf 21 67 Zb c true] (AWP.seq (AWP.rg0 [] [(4,(i64 (ZI ((List.length a.L:Int) - (List.length c:Int)))))] (AWP.ret ?_))))))
  have hr:=someb hF
  subst hr
  exact(FnQ.f0 1 (.inr rfl))
def Zfd (a:Zk) (r:Int):PV→List Blk→Prop:=fun p K=>p=(i64 r)∧K=[.cells (Zi a)]
abbrev Zig (a:Zk) (r:Int):Exit→St→List Blk→Prop:=FnQ Tryz.prog Tryz.f38.results 1 (Zfd a r)
theorem Zc8 (a:Zk) (c:Zc) (r:Int) (hF:Zav a c=some r):ACall Tryz.prog glob 38 [(.ptr 0 0),(Zv c)] [.cells (Zi a)] (Zfd a r):=by
 refine ACall.body Tryz.func38 rfl (by kernel_rfl) ?_
 unfold Zav at hF
 refine AWP.seq (AWP.rg [] [(0,(.ptr 0 0)),(3,(.ptr 1 0))] [.cells (Zi a),.cells (Ze c)] (AWP.seq (AWP.seq (AWP.rg0 [] [(0,(.ptr 0 0)),(3,(.ptr 1 0)),(5,(i64 (0:Int)))] ?_))))
 obtain⟨d,g,hF⟩:=bindb hF
 refine AWP.mid (fun e st H=>(e=.normal∧d=(.inl ())∧st=[]∧H=[.cells (Zi a),.cells (Ze c)])∨(e=.ret∧∃ r,d=(.inr r)∧Zig a r e st H)) ?_ ?_
 ·clear hF
  refine AWP.kp [0,3,5] 2 ?_
  refine AWP.bround (fun n st H=>∃ b,Zau a c n b=some d∧st=[(0,(.ptr 0 0)),(3,(.ptr 1 0)),(5,(i64 b))]∧H=[.cells (Zi a),.cells (Ze c)]) fuel ⟨(0:Int),g,by kernel_rfl,by kernel_rfl⟩ ?_
  rintro f st H ⟨b,hF,rfl,rfl⟩
  cases f with
  | zero=>exact noneb hF
  | succ f=>
   rw [Zau] at hF
   refine AWP.seq (AWP.seq (AWP.rg0 [(5,.len Zb a.L)] [(0,(.ptr 0 0)),(3,(.ptr 1 0)),(5,(i64 b)),(12,(vb (decide (b<(List.length a.L:Int)))))] ?_))
   refine AWP.cif hF (fun i hF=>?_) (fun i hF=>?_)
   ·refine AWP.skip (AWP.seq (AWP.block (AWP.seq ?_)))
    obtain⟨j,k,hF⟩:=bindb hF
    refine AWP.dr [(5,.idx Zb k)] 10 [] [] [] [(0,(.ptr 0 0)),(3,(.ptr 1 0)),(5,(i64 b)),(24,(vb (Zg j.Real c)))] [.cells (Zi a),.cells (Ze c)] ?_
    refine AWP.cif hF (fun l hF=>?_) (fun l hF=>?_)
    ·refine AWP.seq (AWP.rg0 [] [(4,(i64 b))] (AWP.ret ?_))
     exact LeQ.of (.inr ⟨rfl,b,(someb hF).symm,(FnQ.f0 1 (.inr rfl))⟩)
    ·refine AWP.skip (AWP.rg0 [] [(0,(.ptr 0 0)),(3,(.ptr 1 0)),(5,(i64 (ZI (b + (1:Int)))))] (LeQ.start (LeQ.pk [0,3,5] 2 ?_)))
     exact⟨f,Nat.lt_succ_self _,(ZI (b + (1:Int))),hF,by kernel_rfl,by kernel_rfl⟩
   ·refine AWP.exit (LeQ.start (LeQ.pk [] 2 ?_))
    exact(.inl ⟨rfl,(someb hF).symm,by kernel_rfl,by kernel_rfl⟩)
 ·rintro _ _ _ (⟨rfl,rfl,rfl,rfl⟩ | ⟨rfl,m,rfl,hq⟩)
  ·refine AWP.seq (AWP.rg0 [] [(4,(i64 (-1:Int)))] (AWP.ret ?_))
   have hr:=someb hF
   subst hr
   exact(FnQ.f0 1 (.inr rfl))
  ·have hr:=someb hF
   subst hr
   exact hq
def Zhe (a:Zk) (r:(Za × Int)):PV→List Blk→Prop:=fun p K=>p=(.tup [(Z2 r.1),(i64 r.2)])∧K=[.cells (Zi a)]
theorem Zd1 (a:Zk) (b:Zc) (c:Bool) (r:(Za × Int)) (hF:Zax a b c=some r):ACall Tryz.prog glob 39 [(.ptr 0 0),(Zv b),(vb c)] [.cells (Zi a)] (Zhe a r):=by
 refine ACall.body Tryz.func39 rfl (by kernel_rfl) ?_
 unfold Zax at hF
 refine AWP.seq (AWP.rg [] [(0,(.ptr 0 0)),(2,(vb c)),(4,(.ptr 1 0)),(6,(.ptr 2 0))] [.cells (Zi a),.cells (Ze b),.cells (Zb Zm)] (AWP.seq (AWP.seq ?_)))
 obtain⟨d,f,hF⟩:=bindb hF
 refine AWP.rg0 [(2,.call Tryz.func38 [] (Zc8 a b d f))] [(0,(.ptr 0 0)),(2,(vb c)),(4,(.ptr 1 0)),(6,(.ptr 2 0)),(8,(i64 d))] (AWP.seq (AWP.rg0 [] [(0,(.ptr 0 0)),(2,(vb c)),(4,(.ptr 1 0)),(6,(.ptr 2 0)),(8,(i64 d)),(13,(vb (decide (d ≥ (0:Int)))))] ?_))
 refine AWP.cif hF (fun g hF=>?_) (fun g hF=>?_)
 ·refine AWP.seq ?_
  obtain⟨i,j,hF⟩:=bindb hF
  refine AWP.rg [(5,.idx Zb j)] [(6,(.ptr 2 0)),(7,(i64 (0:Int)))] [.cells (Zi a),.cells (Ze b),.cells (Zb i)] (AWP.ret ?_)
  have hr:=someb hF
  subst hr
  exact(FnQ.f0 1 (.inr rfl))
 ·refine AWP.skip (AWP.seq (AWP.seq (AWP.rg0 [] [(0,(.ptr 0 0)),(4,(.ptr 1 0)),(6,(.ptr 2 0)),(22,(vb (!c)))] ?_)))
  refine AWP.cif hF (fun k hF=>?_) (fun k hF=>?_)
  ·refine AWP.seq (AWP.rg [] [(6,(.ptr 2 0)),(7,(i64 (16:Int)))] [.cells (Zi a),.cells (Ze b),.cells (Zb (Za.mk Zl Zl Zl (0:Int) (0:Int) false ByteArray.empty (0:Int) (0:Int)))] (AWP.ret ?_))
   have hr:=someb hF
   subst hr
   exact(FnQ.f0 1 (.inr rfl))
  ·refine AWP.skip (AWP.seq (AWP.seq (AWP.dr [(4,.len Zb a.L)] 10 [] [] [] [(4,(.ptr 1 0)),(6,(.ptr 2 0)),(33,(vb (decide ((List.length a.L:Int) ≥ a.Most))))] [.cells (Zi a),.cells (Ze b),.cells (Zb Zm)] ?_)))
   refine AWP.cif hF (fun l hF=>?_) (fun l hF=>?_)
   ·refine AWP.seq (AWP.rg [] [(6,(.ptr 2 0)),(7,(i64 (9:Int)))] [.cells (Zi a),.cells (Ze b),.cells (Zb (Za.mk Zl Zl Zl (0:Int) (0:Int) false ByteArray.empty (0:Int) (0:Int)))] (AWP.ret ?_))
    have hr:=someb hF
    subst hr
    exact(FnQ.f0 1 (.inr rfl))
   ·refine AWP.skip (AWP.seq (AWP.rg [] [(6,(.ptr 2 0)),(7,(i64 (0:Int)))] [.cells (Zi a),.cells (Ze b),.cells (Zb (Za.mk b Zl Zl (-1:Int) (-1:Int) false ByteArray.empty (1:Int) (0:Int)))] (AWP.ret ?_)))
    have hr:=someb hF
    subst hr
    exact(FnQ.f0 1 (.inr rfl))
def Zjj (r:Za):PV→List Blk→Prop:=fun p K=>p=(Z2 r)∧K=[]
theorem Zdr (b:Za) (a:Int) (r:Za) (hF:Zac b a=some r):ACall Tryz.prog glob 41 [(Z2 b),(i64 a)] [] (Zjj r):=by
 refine ACall.body Tryz.func41 rfl (by kernel_rfl) ?_
 unfold Zac at hF
 refine AWP.seq (AWP.rg [] [(1,(i64 a)),(2,(.ptr 0 0)),(4,(.ptr 1 0))] [.cells (Zb b),.cells (Zb Zm)] (AWP.seq (AWP.rg0 [] [(1,(i64 a)),(2,(.ptr 0 0)),(4,(.ptr 1 0)),(5,(i64 (60:Int)))] ?_)))
 obtain⟨c,f,hF⟩:=bindb hF
 refine AWP.seq ?_
 refine AWP.mid (fun e st H=>e=.normal∧st=[(1,(i64 a)),(2,(.ptr 0 0)),(4,(.ptr 1 0)),(5,(i64 c))]∧H=[.cells (Zb b),.cells (Zb Zm)]) ?_ ?_
 ·clear hF
  have hF:=f
  refine AWP.seq (AWP.rg0 [] [(1,(i64 a)),(2,(.ptr 0 0)),(4,(.ptr 1 0)),(5,(i64 (60:Int))),(9,(vb (b.Real.Proto == (6:Int))))] ?_)
  refine AWP.cif hF (fun g hF=>?_) (fun g hF=>?_)
  ·refine AWP.seq (AWP.rg0 [] [(1,(i64 a)),(2,(.ptr 0 0)),(4,(.ptr 1 0)),(11,(i64 b.State))] (AWP.block (AWP.seq (AWP.rg0 [] [(1,(i64 a)),(2,(.ptr 0 0)),(4,(.ptr 1 0)),(11,(i64 b.State)),(12,(vb (b.State == (1:Int))))] ?_))))
   refine AWP.cif hF (fun i hF=>?_) (fun i hF=>?_)
   ·refine AWP.rg0 [] [(1,(i64 a)),(2,(.ptr 0 0)),(4,(.ptr 1 0)),(5,(i64 (30:Int)))] (LeQ.start (LeQ.pk [1,2,4,5] 2 ?_))
    have hr:=someb hF
    subst hr
    exact⟨rfl,by kernel_rfl,by kernel_rfl⟩
   ·refine AWP.seq (AWP.rg0 [] [(1,(i64 a)),(2,(.ptr 0 0)),(4,(.ptr 1 0)),(14,(vb (b.State == (2:Int))))] ?_)
    refine AWP.cif hF (fun j hF=>?_) (fun j hF=>?_)
    ·refine AWP.rg0 [] [(1,(i64 a)),(2,(.ptr 0 0)),(4,(.ptr 1 0)),(5,(i64 (600:Int)))] (LeQ.start (LeQ.pk [1,2,4,5] 2 ?_))
     have hr:=someb hF
     subst hr
     exact⟨rfl,by kernel_rfl,by kernel_rfl⟩
    ·refine AWP.rg0 [] [(1,(i64 a)),(2,(.ptr 0 0)),(4,(.ptr 1 0)),(5,(i64 (10:Int)))] (LeQ.start (LeQ.pk [1,2,4,5] 2 ?_))
     have hr:=someb hF
     subst hr
     exact⟨rfl,by kernel_rfl,by kernel_rfl⟩
  ·refine AWP.skip (LeQ.start (LeQ.pk [1,2,4,5] 2 ?_))
   have hr:=someb hF
   subst hr
   exact⟨rfl,by kernel_rfl,by kernel_rfl⟩
 ·rintro _ _ _ ⟨rfl,rfl,rfl⟩
  refine AWP.seq (AWP.rg [] [(1,(i64 a)),(2,(.ptr 0 0)),(4,(.ptr 1 0)),(5,(i64 c))] [.cells (Zb ({ b with Expires:=(9223372036854775807:Int) }:Za)),.cells (Zb Zm)] ?_)
  obtain⟨d,k,hF⟩:=bindb hF
  refine AWP.seq ?_
  refine AWP.mid (fun e st H=>e=.normal∧st=[(2,(.ptr 0 0)),(4,(.ptr 1 0))]∧H=[.cells (Zb d),.cells (Zb Zm)]) ?_ ?_
  ·clear hF
   have hF:=k
   refine AWP.seq (AWP.rg0 [] [(1,(i64 a)),(2,(.ptr 0 0)),(4,(.ptr 1 0)),(5,(i64 c)),(20,(vb (decide (a≤(ZI ((9223372036854775807:Int) - c))))))] ?_)
   refine AWP.cif hF (fun l hF=>?_) (fun l hF=>?_)
   ·refine AWP.rg [] [(2,(.ptr 0 0)),(4,(.ptr 1 0))] [.cells (Zb ({ b with Expires:=(ZI (a + c)) }:Za)),.cells (Zb Zm)] (LeQ.start (LeQ.pk [2,4] 2 ?_))
    have hr:=someb hF
    subst hr
    exact⟨rfl,by kernel_rfl,by kernel_rfl⟩
   ·refine AWP.skip (LeQ.start (LeQ.pk [2,4] 2 ?_))
    have hr:=someb hF
    subst hr
    exact⟨rfl,by kernel_rfl,by kernel_rfl⟩
  ·rintro _ _ _ ⟨rfl,rfl,rfl⟩
   refine AWP.seq (AWP.rg [] [(4,(.ptr 1 0))] [.cells (Zb d),.cells (Zb d)] (AWP.ret ?_))
   have hr:=someb hF
   subst hr
   exact(FnQ.f0 0 (.inr rfl))
def Zm2 (r:(Arr5 Int)):PV→List Blk→Prop:=fun p K=>p=(Zb9 r)∧K=[]
theorem Zh8 (a:Zc) (r:(Arr5 Int)) (hF:Zdg a=some r):ACall Tryz.prog glob 87 [(Zv a)] [] (Zm2 r):=by
 refine ACall.body Tryz.func87 rfl (by kernel_rfl) ?_
 unfold Zdg at hF
 refine AWP.seq (AWP.rg [] [(1,(.ptr 0 0)),(2,(.ptr 1 0))] [.cells (Ze a),.cells (Zbl Zpa)] (AWP.seq (AWP.rg [] [(2,(.ptr 1 0))] [.cells (Ze a),.cells (Zbl (Arr5.mk a.Src a.Dst (IntKind.wrap .u32 a.Proto) (IntKind.wrap .u32 a.SrcPort) (IntKind.wrap .u32 a.DstPort)))] (AWP.ret ?_))))
 have hr:=someb hF
 subst hr
 exact(FnQ.f0 0 (.inr rfl))
def Zpg (r:ZB):PV→List Blk→Prop:=fun p K=>p=(Zz r)∧K=[]
theorem Ze0 (c:Zc) (r:ZB) (hF:Zct c=some r):ACall Tryz.prog glob 68 [(Zv c)] [] (Zpg r):=by
 refine ACall.body Tryz.func68 rfl (by kernel_rfl) ?_
 unfold Zct at hF
 refine AWP.seq (AWP.rg [] [(1,(.ptr 0 0)),(2,(.ptr 1 0))] [.cells (Ze c),.cells (Zd Zr)] (AWP.seq (AWP.rg [] [(1,(.ptr 0 0)),(2,(.ptr 1 0)),(3,(.ptr 2 0))] [.cells (Ze c),.cells (Zd Zr),.cells (Zd Zr)] (AWP.seq ?_))))
 obtain⟨b,l,hF⟩:=bindb hF
 refine AWP.rg [(1,.call Tryz.func87 [] (Zh8 c b l))] [(2,(.ptr 1 0)),(3,(.ptr 2 0)),(4,(.ptr 3 0))] [.cells (Ze c),.cells (Zd Zr),.cells (Zd Zr),.cells (Zbl b)] (AWP.seq (AWP.seq (AWP.rg0 [] [(2,(.ptr 1 0)),(3,(.ptr 2 0)),(4,(.ptr 3 0)),(5,(i64 (0:Int)))] ?_)))
 obtain⟨f,m,hF⟩:=bindb hF
 refine AWP.mid (fun e st H=>e=.normal∧st=[(2,(.ptr 1 0)),(3,(.ptr 2 0))]∧H=[.cells (Ze c),.cells (Zd Zr),.cells (Zd f),.cells (Zbl b)]) ?_ ?_
 ·clear hF
  refine AWP.kp [2,3,4,5] 4 ?_
  refine AWP.bround (fun n st H=>∃ d,∃ a,Zcs b n d a=some f∧st=[(2,(.ptr 1 0)),(3,(.ptr 2 0)),(4,(.ptr 3 0)),(5,(i64 a))]∧H=[.cells (Ze c),.cells (Zd Zr),.cells (Zd d),.cells (Zbl b)]) fuel ⟨Zr,(0:Int),m,by kernel_rfl,by kernel_rfl⟩ ?_
  rintro g st H ⟨d,a,hF,rfl,rfl⟩
  cases g with
  | zero=>exact noneb hF
  | succ g=>
   rw [Zcs] at hF
   refine AWP.seq (AWP.seq (AWP.rg0 [] [(2,(.ptr 1 0)),(3,(.ptr 2 0)),(4,(.ptr 3 0)),(5,(i64 a)),(9,(vb (decide (a<(5:Int)))))] ?_))
   refine AWP.cif hF (fun o hF=>?_) (fun o hF=>?_)
   ·refine AWP.skip (AWP.seq (AWP.block ?_))
    obtain⟨i,hF⟩:=chkb hF
    obtain⟨j,hF⟩:=chkb hF
    obtain⟨k,hF⟩:=chkb hF
    refine AWP.dr [(2,.ixd i),(3,.ldA Zet (Arr5.get b) 0 1 0 i),(5,.ixd j),(6,.ldA Zet (Arr5.get b) 0 1 0 j),(8,.ixd k),(9,.stA (fun p=>Zd (Arr5.set d p (Zj.mk (Arr5.get b a) (Arr5.get b a)))) 0 2 0 k)] 8 [] [] [] [(2,(.ptr 1 0)),(3,(.ptr 2 0)),(4,(.ptr 3 0)),(5,(i64 a))] [.cells (Ze c),.cells (Zd Zr),.cells (Zd (Arr5.set d a (Zj.mk (Arr5.get b a) (Arr5.get b a)))),.cells (Zbl b)] (AWP.rg0 [] [(2,(.ptr 1 0)),(3,(.ptr 2 0)),(4,(.ptr 3 0)),(5,(i64 (ZI (a + (1:Int)))))] (LeQ.start (LeQ.pk [2,3,4,5] 4 ?_)))
    exact⟨g,Nat.lt_succ_self _,(Arr5.set d a (Zj.mk (Arr5.get b a) (Arr5.get b a))),(ZI (a + (1:Int))),hF,by kernel_rfl,by kernel_rfl⟩
   ·refine AWP.exit (LeQ.start (LeQ.pk [2,3] 4 ?_))
    have hr:=someb hF
    subst hr
    exact⟨rfl,by kernel_rfl,by kernel_rfl⟩
 ·rintro _ _ _ ⟨rfl,rfl,rfl⟩
  refine AWP.seq (AWP.rg [] [(2,(.ptr 1 0))] [.cells (Ze c),.cells (Zd f),.cells (Zd f),.cells (Zbl b)] (AWP.ret ?_))
  have hr:=someb hF
  subst hr
  exact(FnQ.f0 0 (.inr rfl))
def Zm3 (r:Int):PV→List Blk→Prop:=fun p K=>p=(i64 r)∧K=[]
theorem Zh9 (a:Int) (b:Int) (r:Int) (hF:Zdh a b=some r):ACall Tryz.prog glob 103 [(u32 a),(u32 b)] [] (Zm3 r):=by
 refine ACall.body Tryz.func103 rfl (by kernel_rfl) ?_
 unfold Zdh at hF
 refine AWP.seq (AWP.rg0 [] [(0,(u32 a)),(1,(u32 b))] (AWP.seq (AWP.seq (AWP.rg0 [] [(0,(u32 a)),(1,(u32 b)),(7,(vb (decide (a<b))))] ?_))))
 refine AWP.cif hF (fun c hF=>?_) (fun c hF=>?_)
 ·refine AWP.seq (AWP.rg0 [] [(4,(i64 (-1:Int)))] (AWP.ret ?_))
  have hr:=someb hF
  subst hr
  exact(FnQ.f0 0 (.inr rfl))
 ·refine AWP.skip (AWP.seq (AWP.seq (AWP.rg0 [] [(10,(vb (decide (a > b))))] ?_)))
  refine AWP.cif hF (fun d hF=>?_) (fun d hF=>?_)
  ·refine AWP.seq (AWP.rg0 [] [(4,(i64 (1:Int)))] (AWP.ret ?_))
   have hr:=someb hF
   subst hr
   exact(FnQ.f0 0 (.inr rfl))
  ·refine AWP.skip (AWP.seq (AWP.rg0 [] [(4,(i64 (0:Int)))] (AWP.ret ?_)))
   have hr:=someb hF
   subst hr
   exact(FnQ.f0 0 (.inr rfl))
def Zgs (r:Int):PV→List Blk→Prop:=fun p K=>p=(i64 r)∧K=[]
abbrev Zla (r:Int):Exit→St→List Blk→Prop:=FnQ Tryz.prog Tryz.f78.results 0 (Zgs r)
theorem Zlb (a:ZB) (b:ZB) (r:Int) (hF:Zeb a b=some r):ACall Tryz.prog glob 78 [(Zz a),(Zz b)] [] (Zgs r):=by
 refine ACall.body Tryz.func78 rfl (by kernel_rfl) ?_
 unfold Zeb at hF
 refine AWP.seq (AWP.rg [] [(2,(.ptr 0 0)),(3,(.ptr 1 0))] [.cells (Zd a),.cells (Zd b)] (AWP.seq (AWP.seq (AWP.rg0 [] [(2,(.ptr 0 0)),(3,(.ptr 1 0)),(5,(i64 (0:Int)))] ?_))))
 obtain⟨d,t,hF⟩:=bindb hF
 refine AWP.mid (fun e st H=>(e=.normal∧d=(.inl ())∧st=[]∧H=[.cells (Zd a),.cells (Zd b)])∨(e=.ret∧∃ r,d=(.inr r)∧Zla r e st H)) ?_ ?_
 ·clear hF
  refine AWP.kp [2,3,5] 2 ?_
  refine AWP.bround (fun n st H=>∃ c,Zal a b n c=some d∧st=[(2,(.ptr 0 0)),(3,(.ptr 1 0)),(5,(i64 c))]∧H=[.cells (Zd a),.cells (Zd b)]) fuel ⟨(0:Int),t,by kernel_rfl,by kernel_rfl⟩ ?_
  rintro f st H ⟨c,hF,rfl,rfl⟩
  cases f with
  | zero=>exact noneb hF
  | succ f=>
   rw [Zal] at hF
   refine AWP.seq (AWP.seq (AWP.rg0 [] [(2,(.ptr 0 0)),(3,(.ptr 1 0)),(5,(i64 c)),(7,(vb (decide (c<(5:Int)))))] ?_))
   refine AWP.cif hF (fun u hF=>?_) (fun u hF=>?_)
   ·refine AWP.skip (AWP.seq (AWP.block (AWP.seq (AWP.seq ?_))))
    obtain⟨j,hF⟩:=chkb hF
    obtain⟨k,hF⟩:=chkb hF
    refine AWP.dr [(1,.ixd j),(3,.ldA Zx (Arr5.get a) 0 2 0 j),(5,.ixd k),(7,.ldA Zx (Arr5.get b) 0 2 0 k)] 9 [] [] [] [(2,(.ptr 0 0)),(3,(.ptr 1 0)),(5,(i64 c)),(18,(vb ((Arr5.get a c).Lo != (Arr5.get b c).Lo)))] [.cells (Zd a),.cells (Zd b)] ?_
    refine AWP.cif hF (fun v hF=>?_) (fun v hF=>?_)
    ·refine AWP.seq ?_
     obtain⟨l,hF⟩:=chkb hF
     obtain⟨m,hF⟩:=chkb hF
     obtain⟨g,w,hF⟩:=bindb hF
     refine AWP.dr [(1,.ixd l),(3,.ldA Zx (Arr5.get a) 0 2 0 l),(5,.ixd m),(7,.ldA Zx (Arr5.get b) 0 2 0 m),(8,.call Tryz.func103 [] (Zh9 ((Arr5.get a c).Lo) ((Arr5.get b c).Lo) g w))] 9 [] [] [] [(4,(i64 g))] [.cells (Zd a),.cells (Zd b)] (AWP.ret ?_)
     exact LeQ.of (.inr ⟨rfl,g,(someb hF).symm,(FnQ.f0 0 (.inr rfl))⟩)
    ·refine AWP.skip (AWP.seq ?_)
     obtain⟨o,hF⟩:=chkb hF
     obtain⟨p,hF⟩:=chkb hF
     refine AWP.dr [(1,.ixd o),(3,.ldA Zx (Arr5.get a) 0 2 1 o),(5,.ixd p),(7,.ldA Zx (Arr5.get b) 0 2 1 p)] 9 [] [] [] [(2,(.ptr 0 0)),(3,(.ptr 1 0)),(5,(i64 c)),(36,(vb ((Arr5.get a c).Hi != (Arr5.get b c).Hi)))] [.cells (Zd a),.cells (Zd b)] ?_
     refine AWP.cif hF (fun x hF=>?_) (fun x hF=>?_)
     ·refine AWP.seq ?_
      obtain⟨q,hF⟩:=chkb hF
      obtain⟨s,hF⟩:=chkb hF
      obtain⟨i,y,hF⟩:=bindb hF
      refine AWP.dr [(1,.ixd q),(3,.ldA Zx (Arr5.get a) 0 2 1 q),(5,.ixd s),(7,.ldA Zx (Arr5.get b) 0 2 1 s),(8,.call Tryz.func103 [] (Zh9 ((Arr5.get a c).Hi) ((Arr5.get b c).Hi) i y))] 9 [] [] [] [(4,(i64 i))] [.cells (Zd a),.cells (Zd b)] (AWP.ret ?_)
      exact LeQ.of (.inr ⟨rfl,i,(someb hF).symm,(FnQ.f0 0 (.inr rfl))⟩)
     ·refine AWP.skip (AWP.rg0 [] [(2,(.ptr 0 0)),(3,(.ptr 1 0)),(5,(i64 (ZI (c + (1:Int)))))] (LeQ.start (LeQ.pk [2,3,5] 2 ?_)))
      exact⟨f,Nat.lt_succ_self _,(ZI (c + (1:Int))),hF,by kernel_rfl,by kernel_rfl⟩
   ·refine AWP.exit (LeQ.start (LeQ.pk [] 2 ?_))
    exact(.inl ⟨rfl,(someb hF).symm,by kernel_rfl,by kernel_rfl⟩)
 ·rintro _ _ _ (⟨rfl,rfl,rfl,rfl⟩ | ⟨rfl,z,rfl,hq⟩)
  ·refine AWP.seq (AWP.rg0 [] [(4,(i64 (0:Int)))] (AWP.ret ?_))
   have hr:=someb hF
   subst hr
   exact(FnQ.f0 0 (.inr rfl))
  ·have hr:=someb hF
   subst hr
   exact hq
def Zm4 (r:Int):PV→List Blk→Prop:=fun p K=>p=(i64 r)∧K=[]
theorem Zm5 (a:Zc) (b:Zc) (r:Int) (hF:Zd5 a b=some r):ACall Tryz.prog glob 58 [(Zv a),(Zv b)] [] (Zm4 r):=by
 refine ACall.body Tryz.func58 rfl (by kernel_rfl) ?_
 unfold Zd5 at hF
 refine AWP.seq (AWP.rg [] [(2,(.ptr 0 0)),(3,(.ptr 1 0))] [.cells (Ze a),.cells (Ze b)] (AWP.seq ?_))
 obtain⟨c,g,hF⟩:=bindb hF
 obtain⟨d,i,hF⟩:=bindb hF
 obtain⟨f,j,hF⟩:=bindb hF
 refine AWP.dr [(1,.call Tryz.func68 [] (Ze0 a c g)),(3,.call Tryz.func68 [] (Ze0 b d i)),(4,.call Tryz.func78 [] (Zlb c d f j))] 5 [] [] [] [(4,(i64 f))] [.cells (Ze a),.cells (Ze b)] (AWP.ret ?_)
 have hr:=someb hF
 subst hr
 exact(FnQ.f0 0 (.inr rfl))
def Zjk (r:Zk):PV→List Blk→Prop:=fun p K=>p=(.tup [])∧K=[.cells (Zi r)]
theorem Zds (a:Zk) (b:Za) (r:Zk) (hF:Zad a b=some r):ACall Tryz.prog glob 40 [(.ptr 0 0),(Z2 b)] [.cells (Zi a)] (Zjk r):=by
 refine ACall.body Tryz.func40 rfl (by kernel_rfl) ?_
 unfold Zad at hF
 refine AWP.seq (AWP.rg [] [(0,(.ptr 0 0)),(3,(.ptr 1 0))] [.cells (Zi a),.cells (Zb b)] (AWP.seq (AWP.rg0 [] [(0,(.ptr 0 0)),(3,(.ptr 1 0)),(4,nils)] ?_)))
 refine AWP.own (H':=[.cells (Zi a),.cells (Zb b),bf 21 67 Zb ([]:(List Za)) false]) (st':=[(4,(.own 2 (List.length ([]:(List Za))))),(0,(.ptr 0 0)),(3,(.ptr 1 0))]) 4 21 67 (by kernel_rfl) (by kernel_rfl) (by kernel_rfl) ?_
 refine AWP.pick (st':=[(0,(.ptr 0 0)),(3,(.ptr 1 0)),(4,(.own 2 (List.length ([]:(List Za)))))]) (ks:=[0,3,4]) (by kernel_rfl) ?_
 refine AWP.seq (AWP.rg0 [] [(0,(.ptr 0 0)),(3,(.ptr 1 0)),(4,(.own 2 (List.length ([]:(List Za))))),(5,(i64 (0:Int)))] (AWP.seq ?_))
 obtain⟨q,u,hF⟩:=bindb hF
 refine AWP.mid (fun e st H=>(e=.normal∧∃ c,∃ i,q=(c,i)∧st=[(0,(.ptr 0 0)),(3,(.ptr 1 0)),(4,(.own 2 (List.length c))),(5,(i64 i))]∧H=[.cells (Zi a),.cells (Zb b),bf 21 67 Zb c false])) ?_ ?_
 ·clear hF
  refine AWP.kp [0,3,4,5] 3 ?_
  refine AWP.bround (fun n st H=>∃ d,∃ f,Za1 a b n d f=some q∧st=[(0,(.ptr 0 0)),(3,(.ptr 1 0)),(4,(.own 2 (List.length d))),(5,(i64 f))]∧H=[.cells (Zi a),.cells (Zb b),bf 21 67 Zb d false]) fuel ⟨([]:(List Za)),(0:Int),u,by kernel_rfl,by kernel_rfl⟩ ?_
  rintro p st H ⟨d,f,hF,rfl,rfl⟩
  cases p with
  | zero=>exact noneb hF
  | succ p=>
   rw [Za1] at hF
   refine AWP.seq (AWP.seq ?_)
   obtain⟨v,k,hF⟩:=bindb hF
   replace k:=someb k
   obtain⟨w,s,hF⟩:=bindb hF
   refine AWP.to [(0,(.ptr 0 0)),(3,(.ptr 1 0)),(4,(.own 2 (List.length d))),(5,(i64 f)),(26,(vb w))] [.cells (Zi a),.cells (Zb b),bf 21 67 Zb d false] ?_ ?_
   ·cases v with
    | false=>
     have x:=someb (ifF s rfl)
     subst x
     exact AWP.drT [(5,.len Zb a.L),(7,.bool k)] 21 [] [] []
    | true=>
     have g:=ifT s rfl
     obtain⟨y,z,g⟩:=bindb g
     obtain⟨a0,a1,g⟩:=bindb g
     replace g:=someb g
     subst g
     exact AWP.drT [(5,.len Zb a.L),(7,.bool k),(13,.idx Zb z),(18,.call Tryz.func58 [] (Zm5 y.Real b.Real a0 a1))] 21 [] [] []
   refine AWP.cif hF (fun a2 hF=>?_) (fun a2 hF=>?_)
   ·refine AWP.skip (AWP.block (AWP.seq ?_))
    obtain⟨l,a3,hF⟩:=bindb hF
    obtain⟨a4,hF⟩:=chkb hF
    refine AWP.rg [(6,.idx Zb a3),(9,.app Zb (fun _=>by kernel_rfl) a4)] [(0,(.ptr 0 0)),(3,(.ptr 1 0)),(4,(.own 2 (List.length (d++[l])))),(5,(i64 f))] [.cells (Zi a),.cells (Zb b),bf 21 67 Zb (d++[l]) false] (AWP.rg0 [] [(0,(.ptr 0 0)),(3,(.ptr 1 0)),(4,(.own 2 (List.length (d++[l])))),(5,(i64 (ZI (f + (1:Int)))))] (LeQ.start (LeQ.pk [0,3,4,5] 3 ?_)))
    exact⟨p,Nat.lt_succ_self _,(d++[l]),(ZI (f + (1:Int))),hF,by kernel_rfl,by kernel_rfl⟩
   ·refine AWP.exit (LeQ.start (LeQ.pk [0,3,4,5] 3 ?_))
    exact⟨rfl,d,f,(someb hF).symm,by kernel_rfl,by kernel_rfl⟩
 ·rintro _ _ _ ⟨rfl,c,i,rfl,rfl,rfl⟩
  refine AWP.seq ?_
  obtain⟨a5,hF⟩:=chkb hF
  refine AWP.rg [(3,.app Zb (fun _=>by kernel_rfl) a5)] [(0,(.ptr 0 0)),(3,(.ptr 1 0)),(4,(.own 2 (List.length (c++[b])))),(5,(i64 i))] [.cells (Zi a),.cells (Zb b),bf 21 67 Zb (c++[b]) false] ?_
  obtain⟨m,a6,hF⟩:=bindb hF
  refine AWP.seq ?_
  refine AWP.mid (fun e st H=>e=.normal∧st=[(0,(.ptr 0 0)),(4,(.own 2 (List.length (c++[b])))),(5,(i64 m))]∧H=[.cells (Zi a),.cells (Zb b),bf 21 67 Zb (c++[b]) false]) ?_ ?_
  ·clear hF
   have hF:=a6
   refine AWP.seq ?_
   obtain⟨a7,o,hF⟩:=bindb hF
   replace o:=someb o
   obtain⟨a8,t,hF⟩:=bindb hF
   refine AWP.to [(0,(.ptr 0 0)),(4,(.own 2 (List.length (c++[b])))),(5,(i64 i)),(62,(vb a8))] [.cells (Zi a),.cells (Zb b),bf 21 67 Zb (c++[b]) false] ?_ ?_
   ·cases a7 with
    | false=>
     have a9:=someb (ifF t rfl)
     subst a9
     exact AWP.drT [(5,.len Zb a.L),(7,.bool o)] 20 [] [] []
    | true=>
     have j:=ifT t rfl
     obtain⟨b4,b0,j⟩:=bindb j
     replace j:=someb j
     subst j
     exact AWP.drT [(5,.len Zb a.L),(7,.bool o),(13,.idx Zb b0)] 20 [] [] []
   refine AWP.cif hF (fun b1 hF=>?_) (fun b1 hF=>?_)
   ·refine AWP.rg0 [] [(0,(.ptr 0 0)),(4,(.own 2 (List.length (c++[b])))),(5,(i64 (ZI (i + (1:Int)))))] (LeQ.start (LeQ.pk [0,4,5] 3 ?_))
    have hr:=someb hF
    subst hr
    exact⟨rfl,by kernel_rfl,by kernel_rfl⟩
   ·refine AWP.skip (LeQ.start (LeQ.pk [0,4,5] 3 ?_))
    have hr:=someb hF
    subst hr
    exact⟨rfl,by kernel_rfl,by kernel_rfl⟩
  ·rintro _ _ _ ⟨rfl,rfl,rfl⟩
   obtain⟨b2,hF⟩:=chkb hF
   obtain⟨b3,hF⟩:=chkb hF
   refine AWP.rg [(7,.slice Zb a.L b2),(8,.app Zb (fun _=>by kernel_rfl) b3),(11,.stShA Zb ((c++[b])++(List.drop (Int.toNat m) (List.take (Int.toNat (List.length a.L:Int)) a.L))))] [] [.cells (Zi ({ a with L:=((c++[b])++(List.drop (Int.toNat m) (List.take (Int.toNat (List.length a.L:Int)) a.L))) }:Zk)),.cells (Zb b),bf 21 67 Zb ((c++[b])++(List.drop (Int.toNat m) (List.take (Int.toNat (List.length a.L:Int)) a.L))) true] ?_
   have hr:=someb hF
   subst hr
   exact(FnQ.f0 1 (.inl rfl))
def Zhf (r:(Int × Zk)):PV→List Blk→Prop:=fun p K=>p=(i64 r.1)∧K=[.cells (Zi r.2)]
theorem Zhg (p:Zk) (a:Int) (d:Zc) (f:Zc) (b:ByteArray) (g:Bool) (c:Int) (r:(Int × Zk)) (hF:Zbx p a d f b g c=some r):ACall Tryz.prog glob 18 [(.ptr 0 0),(i64 a),(Zv d),(Zv f),(vstr b),(vb g),(i64 c)] [.cells (Zi p)] (Zhf r):=by
 refine ACall.body Tryz.func18 rfl (by kernel_rfl) ?_
 unfold Zbx at hF
 refine AWP.seq (AWP.rg [] [(0,(.ptr 0 0)),(1,(i64 a)),(4,(vstr b)),(5,(vb g)),(6,(i64 c)),(9,(.ptr 1 0)),(10,(.ptr 2 0))] [.cells (Zi p),.cells (Ze d),.cells (Ze f)] (AWP.seq ?_))
 obtain⟨j,a2,hF⟩:=bindb hF
 refine AWP.rg [(2,.call Tryz.func27 [] (Zbc p c j a2))] [(0,(.ptr 0 0)),(1,(i64 a)),(4,(vstr b)),(5,(vb g)),(6,(i64 c)),(9,(.ptr 1 0)),(10,(.ptr 2 0))] [.cells (Zi j.2),.cells (Ze d),.cells (Ze f)] (AWP.seq (AWP.seq (AWP.rg0 [] [(0,(.ptr 0 0)),(1,(i64 a)),(4,(vstr b)),(5,(vb g)),(6,(i64 c)),(9,(.ptr 1 0)),(10,(.ptr 2 0)),(22,(vb (decide (a<(0:Int)))))] ?_)))
 refine AWP.cif hF (fun a3 hF=>?_) (fun a3 hF=>?_)
 ·refine AWP.seq (AWP.rg0 [] [(14,(i64 (1:Int)))] (AWP.ret ?_))
  have hr:=someb hF
  subst hr
  exact(FnQ.f0 1 (.inr rfl))
 ·refine AWP.skip (AWP.seq (AWP.seq ?_))
  obtain⟨v,a4,hF⟩:=bindb hF
  refine AWP.rg0 [(2,.call Tryz.func38 [] (Zc8 j.2 f v a4))] [(0,(.ptr 0 0)),(1,(i64 a)),(4,(vstr b)),(5,(vb g)),(6,(i64 c)),(9,(.ptr 1 0)),(10,(.ptr 2 0)),(15,(i64 v))] (AWP.seq ?_)
  obtain⟨a5,l,hF⟩:=bindb hF
  replace l:=someb l
  obtain⟨c0,w,hF⟩:=bindb hF
  obtain⟨a6,m,hF⟩:=bindb hF
  replace m:=someb m
  obtain⟨a7,t,hF⟩:=bindb hF
  refine AWP.to [(0,(.ptr 0 0)),(1,(i64 a)),(4,(vstr b)),(5,(vb g)),(6,(i64 c)),(9,(.ptr 1 0)),(10,(.ptr 2 0)),(62,(vb a7))] [.cells (Zi j.2),.cells (Ze d),.cells (Ze f)] ?_ ?_
  ·cases a5 with
   | false=>
    have a8:=someb (ifF w rfl)
    subst a8
    subst m
    have a9:=someb (ifF t rfl)
    subst a9
    exact AWP.drT [(2,.bool l)] 37 [] [] []
   | true=>
    have n:=ifT w rfl
    obtain⟨c1,u,n⟩:=bindb n
    replace n:=someb n
    subst n
    cases a6 with
    | false=>
     have b0:=someb (ifF t rfl)
     subst b0
     exact AWP.drT [(2,.bool l),(8,.idx Zb u),(13,.bool m)] 37 [] [] []
    | true=>
     have k:=ifT t rfl
     obtain⟨c2,x,k⟩:=bindb k
     obtain⟨b1,q,k⟩:=bindb k
     replace q:=someb q
     obtain⟨c3,y,k⟩:=bindb k
     replace k:=someb k
     subst k
     cases b1 with
     | false=>
      have o:=ifF y rfl
      obtain⟨c4,b2,o⟩:=bindb o
      replace o:=someb o
      subst o
      exact AWP.drT [(2,.bool l),(8,.idx Zb u),(13,.bool m),(19,.idx Zb x),(24,.bool q),(30,.idx Zb b2)] 37 [] [] []
     | true=>
      have b3:=someb (ifT y rfl)
      subst b3
      exact AWP.drT [(2,.bool l),(8,.idx Zb u),(13,.bool m),(19,.idx Zb x),(24,.bool q)] 37 [] [] []
  refine AWP.cif hF (fun b4 hF=>?_) (fun b4 hF=>?_)
  ·refine AWP.seq (AWP.rg0 [] [(14,(i64 (12:Int)))] (AWP.ret ?_))
   have hr:=someb hF
   subst hr
   exact(FnQ.f0 1 (.inr rfl))
  ·refine AWP.skip (AWP.seq ?_)
   obtain⟨i,b5,hF⟩:=bindb hF
   refine AWP.rg [(3,.call Tryz.func39 [] (Zd1 j.2 f g i b5))] [(0,(.ptr 0 0)),(1,(i64 a)),(4,(vstr b)),(5,(vb g)),(6,(i64 c)),(9,(.ptr 1 0)),(16,(.ptr 3 0)),(17,(i64 i.2))] [.cells (Zi j.2),.cells (Ze d),.cells (Ze f),.cells (Zb i.1)] (AWP.seq (AWP.seq (AWP.rg0 [] [(0,(.ptr 0 0)),(1,(i64 a)),(4,(vstr b)),(5,(vb g)),(6,(i64 c)),(9,(.ptr 1 0)),(16,(.ptr 3 0)),(17,(i64 i.2)),(71,(vb (i.2 != (0:Int))))] ?_)))
   refine AWP.cif hF (fun b6 hF=>?_) (fun b6 hF=>?_)
   ·refine AWP.seq (AWP.rg0 [] [(14,(i64 i.2))] (AWP.ret ?_))
    have hr:=someb hF
    subst hr
    exact(FnQ.f0 1 (.inr rfl))
   ·refine AWP.skip (AWP.seq (AWP.seq ?_))
    obtain⟨z,s,hF⟩:=bindb hF
    replace s:=someb s
    refine AWP.to [(0,(.ptr 0 0)),(1,(i64 a)),(4,(vstr b)),(6,(i64 c)),(9,(.ptr 1 0)),(16,(.ptr 3 0)),(79,(vb (z && (!g))))] [.cells (Zi j.2),.cells (Ze d),.cells (Ze f),.cells (Zb i.1)] ?_ ?_
    ·cases z with
     | false=>
      exact AWP.rgT [(3,.bool s)]
     | true=>
      exact AWP.rgT [(3,.bool s)]
    refine AWP.cif hF (fun b7 hF=>?_) (fun b7 hF=>?_)
    ·refine AWP.seq (AWP.rg0 [] [(14,(i64 (16:Int)))] (AWP.ret ?_))
     have hr:=someb hF
     subst hr
     exact(FnQ.f0 1 (.inr rfl))
    ·refine AWP.skip (AWP.seq (AWP.dr [] 7 [] [4,6] [] [(0,(.ptr 0 0)),(6,(i64 c)),(16,(.ptr 3 0))] [.cells (Zi j.2),.cells (Ze d),.cells (Ze f),.cells (Zb ({ ({ ({ i.1 with From:=a }:Za) with Sent:=d }:Za) with Class:=b }:Za))] (AWP.seq ?_)))
     obtain⟨a0,b8,hF⟩:=bindb hF
     obtain⟨a1,b9,hF⟩:=bindb hF
     refine AWP.rg [(3,.call Tryz.func41 [] (Zdr ({ ({ ({ i.1 with From:=a }:Za) with Sent:=d }:Za) with Class:=b }:Za) c a0 b8)),(4,.call Tryz.func40 [] (Zds j.2 a0 a1 b9))] [] [.cells (Zi a1),.cells (Ze d),.cells (Ze f),.cells (Zb ({ ({ ({ i.1 with From:=a }:Za) with Sent:=d }:Za) with Class:=b }:Za))] (AWP.seq (AWP.rg0 [] [(14,(i64 (0:Int)))] (AWP.ret ?_)))
     have hr:=someb hF
     subst hr
     exact(FnQ.f0 1 (.inr rfl))
def Zlp (r:Bool):PV→List Blk→Prop:=fun p K=>p=(vb r)∧K=[]
abbrev Zp6 (r:Bool):Exit→St→List Blk→Prop:=FnQ Tryz.prog Tryz.f79.results 0 (Zlp r)
theorem Zgb (a:ZB) (r:Bool) (hF:Zev a=some r):ACall Tryz.prog glob 79 [(Zz a)] [] (Zlp r):=by
 refine ACall.body Tryz.func79 rfl (by kernel_rfl) ?_
 unfold Zev at hF
 refine AWP.seq (AWP.rg [] [(1,(.ptr 0 0))] [.cells (Zd a)] (AWP.seq (AWP.seq (AWP.rg0 [] [(5,(Zz a)),(6,(i64 (0:Int)))] ?_))))
 obtain⟨f,k,hF⟩:=bindb hF
 refine AWP.mid (fun e st H=>(e=.normal∧f=(.inl ())∧st=[]∧H=[.cells (Zd a)])∨(e=.ret∧∃ r,f=(.inr r)∧Zp6 r e st H)) ?_ ?_
 ·clear hF
  refine AWP.kp [5,6] 1 ?_
  refine AWP.bround (fun n st H=>∃ b,Z7 a n b=some f∧st=[(5,(Zz a)),(6,(i64 b))]∧H=[.cells (Zd a)]) fuel ⟨(0:Int),k,by kernel_rfl,by kernel_rfl⟩ ?_
  rintro g st H ⟨b,hF,rfl,rfl⟩
  cases g with
  | zero=>exact noneb hF
  | succ g=>
   rw [Z7] at hF
   refine AWP.seq (AWP.rg0 [] [(5,(Zz a)),(6,(i64 b)),(7,(vb (decide (b<(5:Int)))))] (AWP.seq ?_))
   refine AWP.cif hF (fun l hF=>?_) (fun l hF=>?_)
   ·refine AWP.skip (AWP.seq (AWP.block (AWP.seq ?_)))
    obtain⟨m,hF⟩:=chkb hF
    refine AWP.rg [(1,.ixA Zx (Arr5.get a) m)] [(3,(i64 b)),(4,(.ptr 1 0)),(5,(Zz a)),(6,(i64 b))] [.cells (Zd a),.cells (Zx (Arr5.get a b))] (AWP.seq ?_)
    obtain⟨o,d,hF⟩:=bindb hF
    replace d:=someb d
    obtain⟨p,i,hF⟩:=bindb hF
    refine AWP.to [(5,(Zz a)),(6,(i64 b)),(22,(vb p))] [.cells (Zd a),.cells (Zx (Arr5.get a b))] ?_ ?_
    ·cases o with
     | false=>
      have c:=ifF i rfl
      obtain⟨j,c⟩:=chkb c
      replace c:=someb c
      subst c
      exact AWP.drT [(5,.bool d),(9,.ixd j),(10,.ldA Zet (Arr5.get Zdm) 0 1 0 j)] 13 [] [] []
     | true=>
      have q:=someb (ifT i rfl)
      subst q
      exact AWP.drT [(5,.bool d)] 13 [] [] []
    refine AWP.cif hF (fun s hF=>?_) (fun s hF=>?_)
    ·refine AWP.seq (AWP.rg0 [] [(2,(vb false))] (AWP.ret ?_))
     exact LeQ.of (.inr ⟨rfl,false,(someb hF).symm,(FnQ.f0 0 (.inr rfl))⟩)
    ·refine AWP.skip (AWP.rg0 [] [(5,(Zz a)),(6,(i64 (ZI (b + (1:Int)))))] (LeQ.start (LeQ.pk [5,6] 1 ?_)))
     exact⟨g,Nat.lt_succ_self _,(ZI (b + (1:Int))),hF,by kernel_rfl,by kernel_rfl⟩
   ·refine AWP.exit (LeQ.start (LeQ.pk [] 1 ?_))
    exact(.inl ⟨rfl,(someb hF).symm,by kernel_rfl,by kernel_rfl⟩)
 ·rintro _ _ _ (⟨rfl,rfl,rfl,rfl⟩ | ⟨rfl,t,rfl,hq⟩)
  ·refine AWP.seq (AWP.rg0 [] [(2,(vb true))] (AWP.ret ?_))
   have hr:=someb hF
   subst hr
   exact(FnQ.f0 0 (.inr rfl))
  ·have hr:=someb hF
   subst hr
   exact hq
def Zrs (r:Int):PV→List Blk→Prop:=fun p K=>p=(u32 r)∧K=[]
theorem Zrt (a:Int) (r:Int) (hF:Zh7 a=some r):ACall Tryz.prog glob 80 [(i64 a)] [] (Zrs r):=by
 refine ACall.body Tryz.func80 rfl (by kernel_rfl) ?_
 unfold Zh7 at hF
 refine AWP.seq (AWP.rg0 [] [(0,(i64 a))] (AWP.seq (AWP.seq ?_)))
 obtain⟨c,b,hF⟩:=bindb hF
 replace b:=someb b
 refine AWP.to [(0,(i64 a)),(8,(vb (c || (decide (a ≥ (5:Int))))))] [] ?_ ?_
 ·cases c with
  | false=>
   exact AWP.rgT [(2,.bool b)]
  | true=>
   exact AWP.rgT [(2,.bool b)]
 refine AWP.cif hF (fun f hF=>?_) (fun f hF=>?_)
 ·refine AWP.seq (AWP.rg0 [] [(2,(u32 (0:Int)))] (AWP.ret ?_))
  have hr:=someb hF
  subst hr
  exact(FnQ.f0 0 (.inr rfl))
 ·refine AWP.skip (AWP.seq ?_)
  obtain⟨d,hF⟩:=chkb hF
  refine AWP.rg0 [(1,.ixd d),(2,.ldA Zet (Arr5.get Zdm) 0 1 0 d)] [(2,(u32 (Arr5.get Zdm a)))] (AWP.ret ?_)
  have hr:=someb hF
  subst hr
  exact(FnQ.f0 0 (.inr rfl))
def Zj4 (r:Bool):PV→List Blk→Prop:=fun p K=>p=(vb r)∧K=[]
theorem Zc3 (a:Zp) (r:Bool) (hF:Zbq a=some r):ACall Tryz.prog glob 59 [(Zeu a)] [] (Zj4 r):=by
 refine ACall.body Tryz.func59 rfl (by kernel_rfl) ?_
 unfold Zbq at hF
 refine AWP.seq (AWP.rg [] [(1,(.ptr 0 0))] [.cells (Zn a)] (AWP.seq ?_))
 obtain⟨f,g,hF⟩:=bindb hF
 obtain⟨j,b,hF⟩:=bindb hF
 replace b:=someb b
 obtain⟨k,c,hF⟩:=bindb hF
 replace c:=someb c
 obtain⟨l,i,hF⟩:=bindb hF
 refine AWP.to [(2,(vb l))] [.cells (Zn a)] ?_ ?_
 ·cases j with
  | false=>
   subst c
   have m:=someb (ifF i rfl)
   subst m
   exact AWP.drT [(2,.call Tryz.func79 [] (Zgb a.Match f g)),(3,.bool b)] 19 [] [] []
  | true=>
   cases k with
   | false=>
    have n:=someb (ifF i rfl)
    subst n
    exact AWP.drT [(2,.call Tryz.func79 [] (Zgb a.Match f g)),(3,.bool b),(12,.bool c)] 19 [] [] []
   | true=>
    have d:=ifT i rfl
    obtain⟨o,p,d⟩:=bindb d
    replace d:=someb d
    subst d
    exact AWP.drT [(2,.call Tryz.func79 [] (Zgb a.Match f g)),(3,.bool b),(12,.bool c),(16,.call Tryz.func80 [] (Zrt (3:Int) o p))] 19 [] [] []
 refine AWP.ret ?_
 have hr:=someb hF
 subst hr
 exact(FnQ.f0 0 (.inr rfl))
def Zfu (r:Bool):PV→List Blk→Prop:=fun p K=>p=(vb r)∧K=[]
abbrev Zjl (r:Bool):Exit→St→List Blk→Prop:=FnQ Tryz.prog Tryz.f42.results 0 (Zfu r)
theorem Zjm (a:(List Zp)) (r:Bool) (hF:Zcu a=some r):ACall Tryz.prog glob 42 [(slc 13 Zn a)] [] (Zfu r):=by
 refine ACall.body Tryz.func42 rfl (by kernel_rfl) ?_
 unfold Zcu at hF
 refine AWP.seq (AWP.rg0 [] [(0,(slc 13 Zn a))] (AWP.seq (AWP.seq (AWP.rg0 [(1,.len Zn a)] [(0,(slc 13 Zn a)),(5,(slc 13 Zn a)),(6,(i64 (List.length a:Int))),(7,(i64 (0:Int)))] ?_))))
 obtain⟨c,i,hF⟩:=bindb hF
 refine AWP.mid (fun e st H=>(e=.normal∧c=(.inl ())∧st=[(0,(slc 13 Zn a))]∧H=[])∨(e=.ret∧∃ r,c=(.inr r)∧Zjl r e st H)) ?_ ?_
 ·clear hF
  refine AWP.kp [0,5,6,7] 0 ?_
  refine AWP.bround (fun n st H=>∃ b,Za2 a n b=some c∧st=[(0,(slc 13 Zn a)),(5,(slc 13 Zn a)),(6,(i64 (List.length a:Int))),(7,(i64 b))]∧H=[]) fuel ⟨(0:Int),i,by kernel_rfl,by kernel_rfl⟩ ?_
  rintro d st H ⟨b,hF,rfl,rfl⟩
  cases d with
  | zero=>exact noneb hF
  | succ d=>
   rw [Za2] at hF
   refine AWP.seq (AWP.rg0 [] [(0,(slc 13 Zn a)),(5,(slc 13 Zn a)),(6,(i64 (List.length a:Int))),(7,(i64 b)),(8,(vb (decide (b<(List.length a:Int)))))] (AWP.seq ?_))
   refine AWP.cif hF (fun j hF=>?_) (fun j hF=>?_)
   ·refine AWP.skip (AWP.seq (AWP.block (AWP.seq ?_)))
    obtain⟨f,k,hF⟩:=bindb hF
    refine AWP.rg [(0,.idx Zn k)] [(0,(slc 13 Zn a)),(4,(.ptr 0 0)),(5,(slc 13 Zn a)),(6,(i64 (List.length a:Int))),(7,(i64 b))] [.cells (Zn f)] (AWP.seq ?_)
    obtain⟨g,l,hF⟩:=bindb hF
    refine AWP.rg0 [(1,.call Tryz.func59 [] (Zc3 f g l))] [(0,(slc 13 Zn a)),(5,(slc 13 Zn a)),(6,(i64 (List.length a:Int))),(7,(i64 b)),(13,(vb (!g)))] ?_
    refine AWP.cif hF (fun m hF=>?_) (fun m hF=>?_)
    ·refine AWP.seq (AWP.rg0 [] [(2,(vb false))] (AWP.ret ?_))
     exact LeQ.of (.inr ⟨rfl,false,(someb hF).symm,(FnQ.f0 0 (.inr rfl))⟩)
    ·refine AWP.skip (AWP.rg0 [] [(0,(slc 13 Zn a)),(5,(slc 13 Zn a)),(6,(i64 (List.length a:Int))),(7,(i64 (ZI (b + (1:Int)))))] (LeQ.start (LeQ.pk [0,5,6,7] 0 ?_)))
     exact⟨d,Nat.lt_succ_self _,(ZI (b + (1:Int))),hF,by kernel_rfl,by kernel_rfl⟩
   ·refine AWP.exit (LeQ.start (LeQ.pk [0] 0 ?_))
    exact(.inl ⟨rfl,(someb hF).symm,by kernel_rfl,by kernel_rfl⟩)
 ·rintro _ _ _ (⟨rfl,rfl,rfl,rfl⟩ | ⟨rfl,o,rfl,hq⟩)
  ·refine AWP.seq (AWP.rg0 [(1,.len Zn a)] [(2,(vb (decide ((List.length a:Int)≤(256:Int)))))] (AWP.ret ?_))
   have hr:=someb hF
   subst hr
   exact(FnQ.f0 0 (.inr rfl))
  ·have hr:=someb hF
   subst hr
   exact hq
def Zgn (r:Bool):PV→List Blk→Prop:=fun p K=>p=(vb r)∧K=[]
theorem Zgo (a:Za) (r:Bool) (hF:Zci a=some r):ACall Tryz.prog glob 43 [(Z2 a)] [] (Zgn r):=by
 refine ACall.body Tryz.func43 rfl (by kernel_rfl) ?_
 unfold Zci at hF
 refine AWP.seq (AWP.rg [] [(1,(.ptr 0 0))] [.cells (Zb a)] (AWP.seq (AWP.rg0 [] [(2,(vb (a.To != (-1:Int))))] (AWP.ret ?_))))
 have hr:=someb hF
 subst hr
 exact(FnQ.f0 0 (.inr rfl))
def Zei (a:Int) (b:(List (Zc × Za))) (r:(Za × Int)):PV→List Blk→Prop:=fun p K=>p=(.tup [(Z2 r.1),(i64 r.2)])∧K=[.fm (List.map (entF Zh Zf) b),.cells [(i64 a),(.mp 0)]]
theorem Zej (c:Int) (a:(List (Zc × Za))) (b:Zc) (i:Bool) (r:(Za × Int)) (hF:Zab c a b i=some r):ACall Tryz.prog glob 35 [(.ptr 1 0),(Zv b),(vb i),(.sc (.func (.func 43) #[] #[]))] [.fm (List.map (entF Zh Zf) a),.cells [(i64 c),(.mp 0)]] (Zei c a r):=by
 refine ACall.body Tryz.func35 rfl (by kernel_rfl) ?_
 unfold Zab at hF
 refine AWP.seq (AWP.rg [] [(0,(.ptr 1 0)),(2,(vb i)),(3,(.sc (.func (.func 43) #[] #[]))),(5,(.ptr 2 0)),(8,(.ptr 3 0))] [.fm (List.map (entF Zh Zf) a),.cells [(i64 c),(.mp 0)],.cells (Ze b),.cells (Zb Zm)] (AWP.seq (AWP.dr [(5,.lookM Zak Zf Zm a b)] 11 [] [9,10] [] [(0,(.ptr 1 0)),(2,(vb i)),(3,(.sc (.func (.func 43) #[] #[]))),(5,(.ptr 2 0)),(8,(.ptr 3 0)),(10,(.ptr 4 0)),(11,(vb (mget Zg a b).isSome))] [.fm (List.map (entF Zh Zf) a),.cells [(i64 c),(.mp 0)],.cells (Ze b),.cells (Zb Zm),.cells (Zb ((mget Zg a b).getD Zm))] (AWP.seq (AWP.block (AWP.seq ?_))))))
 obtain⟨m,f,hF⟩:=bindb hF
 replace f:=someb f
 obtain⟨n,k,hF⟩:=bindb hF
 refine AWP.to [(0,(.ptr 1 0)),(5,(.ptr 2 0)),(8,(.ptr 3 0)),(10,(.ptr 4 0)),(11,(vb (mget Zg a b).isSome)),(21,(vb n))] [.fm (List.map (entF Zh Zf) a),.cells [(i64 c),(.mp 0)],.cells (Ze b),.cells (Zb Zm),.cells (Zb ((mget Zg a b).getD Zm))] ?_ ?_
 ·cases m with
  | false=>
   have o:=someb (ifF k rfl)
   subst o
   exact AWP.rgT [(2,.bool f)]
  | true=>
   have d:=ifT k rfl
   obtain⟨p,j,d⟩:=bindb d
   replace j:=someb j
   obtain⟨x,l,d⟩:=bindb d
   replace d:=someb d
   subst d
   cases p with
   | false=>
    have g:=ifF l rfl
    obtain⟨q,s,g⟩:=bindb g
    replace g:=someb g
    subst g
    exact AWP.rgT [(2,.bool f),(5,.bool j),(8,.call Tryz.func43 [] (Zgo ((mget Zg a b).getD Zm) q s))]
   | true=>
    have t:=someb (ifT l rfl)
    subst t
    exact AWP.rgT [(2,.bool f),(5,.bool j)]
 refine AWP.cif hF (fun u hF=>?_) (fun u hF=>?_)
 ·refine AWP.seq (AWP.rg [] [(8,(.ptr 3 0)),(9,(i64 (16:Int)))] [.fm (List.map (entF Zh Zf) a),.cells [(i64 c),(.mp 0)],.cells (Ze b),.cells (Zb (Za.mk Zl Zl Zl (0:Int) (0:Int) false ByteArray.empty (0:Int) (0:Int))),.cells (Zb ((mget Zg a b).getD Zm))] (AWP.ret ?_))
  have hr:=someb hF
  subst hr
  exact(FnQ.f0 2 (.inr rfl))
 ·refine AWP.seq (AWP.rg0 [] [(0,(.ptr 1 0)),(5,(.ptr 2 0)),(8,(.ptr 3 0)),(10,(.ptr 4 0)),(35,(vb (mget Zg a b).isSome))] ?_)
  refine AWP.cif hF (fun v hF=>?_) (fun v hF=>?_)
  ·refine AWP.seq (AWP.rg [] [(8,(.ptr 3 0)),(9,(i64 (0:Int)))] [.fm (List.map (entF Zh Zf) a),.cells [(i64 c),(.mp 0)],.cells (Ze b),.cells (Zb ((mget Zg a b).getD Zm)),.cells (Zb ((mget Zg a b).getD Zm))] (AWP.ret ?_))
   have hr:=someb hF
   subst hr
   exact(FnQ.f0 2 (.inr rfl))
  ·refine AWP.seq (AWP.dr [(4,.lenM Zh Zf a)] 11 [] [] [] [(5,(.ptr 2 0)),(8,(.ptr 3 0)),(38,(vb (decide ((List.length a:Int) ≥ c))))] [.fm (List.map (entF Zh Zf) a),.cells [(i64 c),(.mp 0)],.cells (Ze b),.cells (Zb Zm),.cells (Zb ((mget Zg a b).getD Zm))] ?_)
   refine AWP.cif hF (fun w hF=>?_) (fun w hF=>?_)
   ·refine AWP.seq (AWP.rg [] [(8,(.ptr 3 0)),(9,(i64 (9:Int)))] [.fm (List.map (entF Zh Zf) a),.cells [(i64 c),(.mp 0)],.cells (Ze b),.cells (Zb (Za.mk Zl Zl Zl (0:Int) (0:Int) false ByteArray.empty (0:Int) (0:Int))),.cells (Zb ((mget Zg a b).getD Zm))] (AWP.ret ?_))
    have hr:=someb hF
    subst hr
    exact(FnQ.f0 2 (.inr rfl))
   ·refine AWP.skip (AWP.seq (AWP.rg [] [(8,(.ptr 3 0)),(9,(i64 (0:Int)))] [.fm (List.map (entF Zh Zf) a),.cells [(i64 c),(.mp 0)],.cells (Ze b),.cells (Zb (Za.mk b Zl Zl (-1:Int) (-1:Int) false ByteArray.empty (1:Int) (0:Int))),.cells (Zb ((mget Zg a b).getD Zm))] (AWP.ret ?_)))
    have hr:=someb hF
    subst hr
    exact(FnQ.f0 2 (.inr rfl))
def Zph (r:(Arr5 Int)):PV→List Blk→Prop:=fun p K=>p=(Zb9 r)∧K=[]
theorem Zkr (a:Zc) (r:(Arr5 Int)) (hF:Zey a=some r):ACall Tryz.prog glob 85 [(Zv a)] [] (Zph r):=by
 refine ACall.body Tryz.func85 rfl (by kernel_rfl) ?_
 unfold Zey at hF
 refine AWP.seq (AWP.rg [] [(1,(.ptr 0 0)),(2,(.ptr 1 0))] [.cells (Ze a),.cells (Zbl Zpa)] (AWP.seq (AWP.rg [] [(2,(.ptr 1 0))] [.cells (Ze a),.cells (Zbl (Arr5.mk a.Src a.Dst (IntKind.wrap .u32 a.Proto) (IntKind.wrap .u32 a.SrcPort) (IntKind.wrap .u32 a.DstPort)))] (AWP.ret ?_))))
 have hr:=someb hF
 subst hr
 exact(FnQ.f0 0 (.inr rfl))
def Zit (r:Bool):PV→List Blk→Prop:=fun p K=>p=(vb r)∧K=[]
abbrev Znr (r:Bool):Exit→St→List Blk→Prop:=FnQ Tryz.prog Tryz.f62.results 0 (Zit r)
theorem Ze9 (a:ZB) (d:Zc) (r:Bool) (hF:Zc7 a d=some r):ACall Tryz.prog glob 62 [(Zz a),(Zv d)] [] (Zit r):=by
 refine ACall.body Tryz.func62 rfl (by kernel_rfl) ?_
 unfold Zc7 at hF
 refine AWP.seq (AWP.rg [] [(2,(.ptr 0 0)),(3,(.ptr 1 0))] [.cells (Zd a),.cells (Ze d)] (AWP.seq (AWP.seq ?_)))
 obtain⟨l,p,hF⟩:=bindb hF
 refine AWP.rg0 [(1,.call Tryz.func79 [] (Zgb a l p))] [(2,(.ptr 0 0)),(3,(.ptr 1 0)),(9,(vb (!l)))] ?_
 refine AWP.cif hF (fun q hF=>?_) (fun q hF=>?_)
 ·refine AWP.seq (AWP.rg0 [] [(4,(vb false))] (AWP.ret ?_))
  have hr:=someb hF
  subst hr
  exact(FnQ.f0 0 (.inr rfl))
 ·refine AWP.skip (AWP.seq (AWP.seq ?_))
  obtain⟨c,s,hF⟩:=bindb hF
  refine AWP.rg0 [(1,.call Tryz.func85 [] (Zkr d c s))] [(2,(.ptr 0 0)),(11,(Zb9 c)),(12,(i64 (0:Int)))] ?_
  obtain⟨j,t,hF⟩:=bindb hF
  refine AWP.mid (fun e st H=>(e=.normal∧j=(.inl ())∧st=[]∧H=[.cells (Zd a),.cells (Ze d)])∨(e=.ret∧∃ r,j=(.inr r)∧Znr r e st H)) ?_ ?_
  ·clear hF
   refine AWP.kp [2,11,12] 2 ?_
   refine AWP.bround (fun n st H=>∃ b,Zbn a c n b=some j∧st=[(2,(.ptr 0 0)),(11,(Zb9 c)),(12,(i64 b))]∧H=[.cells (Zd a),.cells (Ze d)]) fuel ⟨(0:Int),t,by kernel_rfl,by kernel_rfl⟩ ?_
   rintro k st H ⟨b,hF,rfl,rfl⟩
   cases k with
   | zero=>exact noneb hF
   | succ k=>
    rw [Zbn] at hF
    refine AWP.seq (AWP.rg0 [] [(2,(.ptr 0 0)),(11,(Zb9 c)),(12,(i64 b)),(13,(vb (decide (b<(5:Int)))))] (AWP.seq ?_))
    refine AWP.cif hF (fun u hF=>?_) (fun u hF=>?_)
    ·refine AWP.skip (AWP.seq (AWP.block (AWP.seq ?_)))
     obtain⟨v,hF⟩:=chkb hF
     refine AWP.rg0 [(1,.ixA Zet (Arr5.get c) v)] [(2,(.ptr 0 0)),(5,(i64 b)),(6,(u32 (Arr5.get c b))),(11,(Zb9 c)),(12,(i64 b))] (AWP.seq ?_)
     obtain⟨g,hF⟩:=chkb hF
     obtain⟨w,i,hF⟩:=bindb hF
     replace i:=someb i
     obtain⟨x,m,hF⟩:=bindb hF
     refine AWP.to [(2,(.ptr 0 0)),(11,(Zb9 c)),(12,(i64 b)),(29,(vb x))] [.cells (Zd a),.cells (Ze d)] ?_ ?_
     ·cases w with
      | false=>
       have f:=ifF m rfl
       obtain⟨o,f⟩:=chkb f
       replace f:=someb f
       subst f
       exact AWP.rgT [(2,.ixd g),(4,.ldA Zx (Arr5.get a) 0 2 0 g),(6,.bool i),(9,.ixd o),(11,.ldA Zx (Arr5.get a) 0 2 1 o)]
      | true=>
       have y:=someb (ifT m rfl)
       subst y
       exact AWP.rgT [(2,.ixd g),(4,.ldA Zx (Arr5.get a) 0 2 0 g),(6,.bool i)]
     refine AWP.cif hF (fun z hF=>?_) (fun z hF=>?_)
     ·refine AWP.seq (AWP.rg0 [] [(4,(vb false))] (AWP.ret ?_))
      exact LeQ.of (.inr ⟨rfl,false,(someb hF).symm,(FnQ.f0 0 (.inr rfl))⟩)
     ·refine AWP.skip (AWP.rg0 [] [(2,(.ptr 0 0)),(11,(Zb9 c)),(12,(i64 (ZI (b + (1:Int)))))] (LeQ.start (LeQ.pk [2,11,12] 2 ?_)))
      exact⟨k,Nat.lt_succ_self _,(ZI (b + (1:Int))),hF,by kernel_rfl,by kernel_rfl⟩
    ·refine AWP.exit (LeQ.start (LeQ.pk [] 2 ?_))
     exact(.inl ⟨rfl,(someb hF).symm,by kernel_rfl,by kernel_rfl⟩)
  ·rintro _ _ _ (⟨rfl,rfl,rfl,rfl⟩ | ⟨rfl,a0,rfl,hq⟩)
   ·refine AWP.seq (AWP.rg0 [] [(4,(vb true))] (AWP.ret ?_))
    have hr:=someb hF
    subst hr
    exact(FnQ.f0 0 (.inr rfl))
   ·have hr:=someb hF
    subst hr
    exact hq
def Ziu (a:Zc) (r:Bool):PV→List Blk→Prop:=fun p K=>p=(vb r)∧K=[.cells (Ze a)]
theorem Ziv (a:Zp) (b:Zc) (r:Bool) (hF:Zcm a b=some r):ACall Tryz.prog glob 82 [(Zeu a),(.ptr 0 0)] [.cells (Ze b)] (Ziu b r):=by
 refine ACall.body Tryz.func82 rfl (by kernel_rfl) ?_
 unfold Zcm at hF
 refine AWP.seq (AWP.rg [] [(1,(.ptr 0 0)),(2,(.ptr 1 0))] [.cells (Ze b),.cells (Zn a)] (AWP.seq ?_))
 obtain⟨f,g,hF⟩:=bindb hF
 obtain⟨j,d,hF⟩:=bindb hF
 replace d:=someb d
 obtain⟨k,i,hF⟩:=bindb hF
 refine AWP.to [(3,(vb k))] [.cells (Ze b),.cells (Zn a)] ?_ ?_
 ·cases j with
  | false=>
   have l:=someb (ifF i rfl)
   subst l
   exact AWP.rgT [(1,.call Tryz.func59 [] (Zc3 a f g)),(2,.bool d)]
  | true=>
   have c:=ifT i rfl
   obtain⟨m,n,c⟩:=bindb c
   replace c:=someb c
   subst c
   exact AWP.rgT [(1,.call Tryz.func59 [] (Zc3 a f g)),(2,.bool d),(6,.call Tryz.func62 [] (Ze9 a.Match b m n))]
 refine AWP.ret ?_
 have hr:=someb hF
 subst hr
 exact(FnQ.f0 1 (.inr rfl))
def Zbo (a:Zc) (r:Int):PV→List Blk→Prop:=fun p K=>p=(i64 r)∧K=[.cells (Ze a)]
abbrev Zdp (a:Zc) (r:Int):Exit→St→List Blk→Prop:=FnQ Tryz.prog Tryz.f81.results 1 (Zbo a r)
theorem Zdq (a:(List Zp)) (c:Zc) (r:Int) (hF:Z9 a c=some r):ACall Tryz.prog glob 81 [(slc 13 Zn a),(.fn 82 [(.ptr 0 0)])] [.cells (Ze c)] (Zbo c r):=by
 refine ACall.body Tryz.func81 rfl (by kernel_rfl) ?_
 unfold Z9 at hF
 refine AWP.seq (AWP.rg0 [] [(0,(slc 13 Zn a)),(1,(.fn 82 [(.ptr 0 0)]))] (AWP.seq (AWP.seq (AWP.rg0 [(1,.len Zn a)] [(0,(slc 13 Zn a)),(1,(.fn 82 [(.ptr 0 0)])),(7,(i64 (List.length a:Int))),(8,(i64 (0:Int)))] ?_))))
 obtain⟨d,i,hF⟩:=bindb hF
 refine AWP.mid (fun e st H=>(e=.normal∧d=(.inl ())∧st=[]∧H=[.cells (Ze c)])∨(e=.ret∧∃ r,d=(.inr r)∧Zdp c r e st H)) ?_ ?_
 ·clear hF
  refine AWP.kp [0,1,7,8] 1 ?_
  refine AWP.bround (fun n st H=>∃ b,Zy a c n b=some d∧st=[(0,(slc 13 Zn a)),(1,(.fn 82 [(.ptr 0 0)])),(7,(i64 (List.length a:Int))),(8,(i64 b))]∧H=[.cells (Ze c)]) fuel ⟨(0:Int),i,by kernel_rfl,by kernel_rfl⟩ ?_
  rintro f st H ⟨b,hF,rfl,rfl⟩
  cases f with
  | zero=>exact noneb hF
  | succ f=>
   rw [Zy] at hF
   refine AWP.seq (AWP.rg0 [] [(0,(slc 13 Zn a)),(1,(.fn 82 [(.ptr 0 0)])),(7,(i64 (List.length a:Int))),(8,(i64 b)),(9,(vb (decide (b<(List.length a:Int)))))] (AWP.seq ?_))
   refine AWP.cif hF (fun j hF=>?_) (fun j hF=>?_)
   ·refine AWP.skip (AWP.seq (AWP.block (AWP.seq (AWP.rg0 [] [(0,(slc 13 Zn a)),(1,(.fn 82 [(.ptr 0 0)])),(5,(i64 b)),(7,(i64 (List.length a:Int))),(8,(i64 b))] (AWP.seq ?_)))))
    obtain⟨k,l,hF⟩:=bindb hF
    obtain⟨g,m,hF⟩:=bindb hF
    refine AWP.rg0 [(3,.idx Zn l),(5,.callF Tryz.func82 [] (Ziv k c g m))] [(0,(slc 13 Zn a)),(1,(.fn 82 [(.ptr 0 0)])),(5,(i64 b)),(7,(i64 (List.length a:Int))),(8,(i64 b)),(16,(vb g))] ?_
    refine AWP.cif hF (fun o hF=>?_) (fun o hF=>?_)
    ·refine AWP.seq (AWP.rg0 [] [(4,(i64 b))] (AWP.ret ?_))
     exact LeQ.of (.inr ⟨rfl,b,(someb hF).symm,(FnQ.f0 1 (.inr rfl))⟩)
    ·refine AWP.skip (AWP.rg0 [] [(0,(slc 13 Zn a)),(1,(.fn 82 [(.ptr 0 0)])),(7,(i64 (List.length a:Int))),(8,(i64 (ZI (b + (1:Int)))))] (LeQ.start (LeQ.pk [0,1,7,8] 1 ?_)))
     exact⟨f,Nat.lt_succ_self _,(ZI (b + (1:Int))),hF,by kernel_rfl,by kernel_rfl⟩
   ·refine AWP.exit (LeQ.start (LeQ.pk [] 1 ?_))
    exact(.inl ⟨rfl,(someb hF).symm,by kernel_rfl,by kernel_rfl⟩)
 ·rintro _ _ _ (⟨rfl,rfl,rfl,rfl⟩ | ⟨rfl,p,rfl,hq⟩)
  ·refine AWP.seq (AWP.rg0 [] [(4,(i64 (-1:Int)))] (AWP.ret ?_))
   have hr:=someb hF
   subst hr
   exact(FnQ.f0 1 (.inr rfl))
  ·have hr:=someb hF
   subst hr
   exact hq
def Zj5 (r:Int):PV→List Blk→Prop:=fun p K=>p=(i64 r)∧K=[]
theorem Zf0 (a:(List Zp)) (b:Zc) (r:Int) (hF:Zcd a b=some r):ACall Tryz.prog glob 60 [(slc 13 Zn a),(Zv b)] [] (Zj5 r):=by
 refine ACall.body Tryz.func60 rfl (by kernel_rfl) ?_
 unfold Zcd at hF
 refine AWP.seq (AWP.rg [] [(0,(slc 13 Zn a)),(3,(.ptr 0 0))] [.cells (Ze b)] (AWP.seq ?_))
 obtain⟨c,d,hF⟩:=bindb hF
 refine AWP.rg0 [(1,.q),(2,.call Tryz.func81 [] (Zdq a b c d))] [(4,(i64 c))] (AWP.ret ?_)
 have hr:=someb hF
 subst hr
 exact(FnQ.f0 0 (.inr rfl))
def Zsl (r:ZB):PV→List Blk→Prop:=fun p K=>p=(Zz r)∧K=[]
theorem Zpi (c:Zc) (r:ZB) (hF:Zf8 c=some r):ACall Tryz.prog glob 83 [(Zv c)] [] (Zsl r):=by
 refine ACall.body Tryz.func83 rfl (by kernel_rfl) ?_
 unfold Zf8 at hF
 refine AWP.seq (AWP.rg [] [(1,(.ptr 0 0)),(2,(.ptr 1 0))] [.cells (Ze c),.cells (Zd Zr)] (AWP.seq (AWP.rg [] [(1,(.ptr 0 0)),(2,(.ptr 1 0)),(3,(.ptr 2 0))] [.cells (Ze c),.cells (Zd Zr),.cells (Zd Zr)] (AWP.seq (AWP.seq ?_)))))
 obtain⟨b,j,hF⟩:=bindb hF
 refine AWP.rg0 [(1,.call Tryz.func85 [] (Zkr c b j))] [(2,(.ptr 1 0)),(3,(.ptr 2 0)),(7,(Zb9 b)),(8,(i64 (0:Int)))] ?_
 obtain⟨f,k,hF⟩:=bindb hF
 refine AWP.mid (fun e st H=>e=.normal∧st=[(2,(.ptr 1 0)),(3,(.ptr 2 0))]∧H=[.cells (Ze c),.cells (Zd Zr),.cells (Zd f)]) ?_ ?_
 ·clear hF
  refine AWP.kp [2,3,7,8] 3 ?_
  refine AWP.bround (fun n st H=>∃ d,∃ a,Zd8 b n d a=some f∧st=[(2,(.ptr 1 0)),(3,(.ptr 2 0)),(7,(Zb9 b)),(8,(i64 a))]∧H=[.cells (Ze c),.cells (Zd Zr),.cells (Zd d)]) fuel ⟨Zr,(0:Int),k,by kernel_rfl,by kernel_rfl⟩ ?_
  rintro g st H ⟨d,a,hF,rfl,rfl⟩
  cases g with
  | zero=>exact noneb hF
  | succ g=>
   rw [Zd8] at hF
   refine AWP.seq (AWP.rg0 [] [(2,(.ptr 1 0)),(3,(.ptr 2 0)),(7,(Zb9 b)),(8,(i64 a)),(9,(vb (decide (a<(5:Int)))))] (AWP.seq ?_))
   refine AWP.cif hF (fun l hF=>?_) (fun l hF=>?_)
   ·refine AWP.skip (AWP.seq (AWP.block (AWP.seq ?_)))
    obtain⟨m,hF⟩:=chkb hF
    refine AWP.rg0 [(1,.ixA Zet (Arr5.get b) m)] [(2,(.ptr 1 0)),(3,(.ptr 2 0)),(4,(i64 a)),(5,(u32 (Arr5.get b a))),(7,(Zb9 b)),(8,(i64 a))] ?_
    obtain⟨i,hF⟩:=chkb hF
    refine AWP.rg [(4,.ixd i),(5,.stA (fun o=>Zd (Arr5.set d o (Zj.mk (Arr5.get b a) (Arr5.get b a)))) 0 2 0 i)] [(2,(.ptr 1 0)),(3,(.ptr 2 0)),(7,(Zb9 b)),(8,(i64 a))] [.cells (Ze c),.cells (Zd Zr),.cells (Zd (Arr5.set d a (Zj.mk (Arr5.get b a) (Arr5.get b a))))] (AWP.rg0 [] [(2,(.ptr 1 0)),(3,(.ptr 2 0)),(7,(Zb9 b)),(8,(i64 (ZI (a + (1:Int)))))] (LeQ.start (LeQ.pk [2,3,7,8] 3 ?_)))
    exact⟨g,Nat.lt_succ_self _,(Arr5.set d a (Zj.mk (Arr5.get b a) (Arr5.get b a))),(ZI (a + (1:Int))),hF,by kernel_rfl,by kernel_rfl⟩
   ·refine AWP.exit (LeQ.start (LeQ.pk [2,3] 3 ?_))
    have hr:=someb hF
    subst hr
    exact⟨rfl,by kernel_rfl,by kernel_rfl⟩
 ·rintro _ _ _ ⟨rfl,rfl,rfl⟩
  refine AWP.seq (AWP.rg [] [(2,(.ptr 1 0))] [.cells (Ze c),.cells (Zd f),.cells (Zd f)] (AWP.ret ?_))
  have hr:=someb hF
  subst hr
  exact(FnQ.f0 0 (.inr rfl))
def Zl2 (r:ZB):PV→List Blk→Prop:=fun p K=>p=(Zz r)∧K=[]
theorem Zl3 (a:Zp) (b:Zc) (r:ZB) (hF:Zdz a b=some r):ACall Tryz.prog glob 84 [(Zeu a),(Zv b)] [] (Zl2 r):=by
 refine ACall.body Tryz.func84 rfl (by kernel_rfl) ?_
 unfold Zdz at hF
 refine AWP.seq (AWP.rg [] [(2,(.ptr 0 0)),(3,(.ptr 1 0)),(4,(.ptr 2 0))] [.cells (Zn a),.cells (Ze b),.cells (Zd Zr)] (AWP.seq ?_))
 obtain⟨c,l,hF⟩:=bindb hF
 refine AWP.rg [(1,.call Tryz.func83 [] (Zpi b c l))] [(2,(.ptr 0 0)),(3,(.ptr 1 0)),(4,(.ptr 2 0)),(5,(.ptr 3 0))] [.cells (Zn a),.cells (Ze b),.cells (Zd Zr),.cells (Zd c)] ?_
 obtain⟨g,m,hF⟩:=bindb hF
 refine AWP.seq ?_
 refine AWP.mid (fun e st H=>e=.normal∧st=[(4,(.ptr 2 0)),(5,(.ptr 3 0))]∧H=[.cells (Zn a),.cells (Ze b),.cells (Zd Zr),.cells (Zd g)]) ?_ ?_
 ·clear hF
  have hF:=m
  refine AWP.seq ?_
  obtain⟨i,j,hF⟩:=bindb hF
  obtain⟨n,f,hF⟩:=bindb hF
  replace f:=someb f
  obtain⟨o,k,hF⟩:=bindb hF
  refine AWP.to [(2,(.ptr 0 0)),(4,(.ptr 2 0)),(5,(.ptr 3 0)),(15,(vb o))] [.cells (Zn a),.cells (Ze b),.cells (Zd Zr),.cells (Zd c)] ?_ ?_
  ·cases n with
   | false=>
    have p:=someb (ifF k rfl)
    subst p
    exact AWP.rgT [(1,.call Tryz.func59 [] (Zc3 a i j)),(2,.bool f)]
   | true=>
    have d:=ifT k rfl
    obtain⟨q,s,d⟩:=bindb d
    replace d:=someb d
    subst d
    exact AWP.rgT [(1,.call Tryz.func59 [] (Zc3 a i j)),(2,.bool f),(6,.call Tryz.func62 [] (Ze9 a.Match b q s))]
  refine AWP.cif hF (fun t hF=>?_) (fun t hF=>?_)
  ·refine AWP.seq (AWP.rg [] [(2,(.ptr 0 0)),(4,(.ptr 2 0)),(5,(.ptr 3 0))] [.cells (Zn a),.cells (Ze b),.cells (Zd Zr),.cells (Zd ({ c with x0:=(Zj.mk a.Addr a.Addr) }:ZB))] (AWP.rg [] [(4,(.ptr 2 0)),(5,(.ptr 3 0))] [.cells (Zn a),.cells (Ze b),.cells (Zd Zr),.cells (Zd ({ ({ c with x0:=(Zj.mk a.Addr a.Addr) }:ZB) with x3:=a.Ports }:ZB))] (LeQ.start (LeQ.pk [4,5] 4 ?_))))
   have hr:=someb hF
   subst hr
   exact⟨rfl,by kernel_rfl,by kernel_rfl⟩
  ·refine AWP.skip (LeQ.start (LeQ.pk [4,5] 4 ?_))
   have hr:=someb hF
   subst hr
   exact⟨rfl,by kernel_rfl,by kernel_rfl⟩
 ·rintro _ _ _ ⟨rfl,rfl,rfl⟩
  refine AWP.seq (AWP.rg [] [(4,(.ptr 2 0))] [.cells (Zn a),.cells (Ze b),.cells (Zd g),.cells (Zd g)] (AWP.ret ?_))
  have hr:=someb hF
  subst hr
  exact(FnQ.f0 0 (.inr rfl))
def Zih (r:ZB):PV→List Blk→Prop:=fun p K=>p=(Zz r)∧K=[]
theorem Zii (b:(List Zp)) (a:Zc) (r:ZB) (hF:Zce b a=some r):ACall Tryz.prog glob 61 [(slc 13 Zn b),(Zv a)] [] (Zih r):=by
 refine ACall.body Tryz.func61 rfl (by kernel_rfl) ?_
 unfold Zce at hF
 refine AWP.seq (AWP.rg [] [(0,(slc 13 Zn b)),(3,(.ptr 0 0)),(4,(.ptr 1 0))] [.cells (Ze a),.cells (Zd Zr)] (AWP.seq ?_))
 obtain⟨c,i,hF⟩:=bindb hF
 refine AWP.rg0 [(2,.call Tryz.func60 [] (Zf0 b a c i))] [(0,(slc 13 Zn b)),(3,(.ptr 0 0)),(4,(.ptr 1 0)),(5,(i64 c))] (AWP.seq (AWP.seq (AWP.rg0 [] [(0,(slc 13 Zn b)),(3,(.ptr 0 0)),(4,(.ptr 1 0)),(5,(i64 c)),(11,(vb (decide (c<(0:Int)))))] ?_)))
 refine AWP.cif hF (fun j hF=>?_) (fun j hF=>?_)
 ·refine AWP.seq ?_
  obtain⟨g,k,hF⟩:=bindb hF
  refine AWP.rg [(1,.call Tryz.func83 [] (Zpi a g k))] [(4,(.ptr 1 0))] [.cells (Ze a),.cells (Zd g)] (AWP.ret ?_)
  have hr:=someb hF
  subst hr
  exact(FnQ.f0 0 (.inr rfl))
 ·refine AWP.skip (AWP.seq ?_)
  obtain⟨l,m,hF⟩:=bindb hF
  obtain⟨d,n,hF⟩:=bindb hF
  refine AWP.dr [(2,.idx Zn m),(5,.call Tryz.func84 [] (Zl3 l a d n))] 7 [] [6] [] [(3,(.ptr 0 0)),(4,(.ptr 1 0)),(6,(.ptr 2 0))] [.cells (Ze a),.cells (Zd Zr),.cells (Zd d)] ?_
  obtain⟨f,o,hF⟩:=bindb hF
  refine AWP.seq ?_
  refine AWP.mid (fun e st H=>e=.normal∧st=[(4,(.ptr 1 0)),(6,(.ptr 2 0))]∧H=[.cells (Ze a),.cells (Zd Zr),.cells (Zd f)]) ?_ ?_
  ·clear hF
   have hF:=o
   refine AWP.seq (AWP.rg0 [] [(4,(.ptr 1 0)),(6,(.ptr 2 0)),(21,(u8 a.Proto))] (AWP.block ?_))
   obtain⟨p,q,hF⟩:=bindb hF
   refine AWP.seq ?_
   refine AWP.mid (fun e st H=>e=.normal∧st=[(4,(.ptr 1 0)),(6,(.ptr 2 0)),(24,(vb p))]∧H=[.cells (Ze a),.cells (Zd Zr),.cells (Zd d)]) ?_ ?_
   ·clear hF
    have hF:=q
    refine AWP.seq (AWP.rg0 [] [(4,(.ptr 1 0)),(6,(.ptr 2 0)),(21,(u8 a.Proto)),(24,(vb (a.Proto == (6:Int))))] ?_)
    refine AWP.cif hF (fun s hF=>?_) (fun s hF=>?_)
    ·refine AWP.skip (LeQ.start (LeQ.pk [4,6,24] 3 ?_))
     have hr:=someb hF
     subst hr
     exact⟨rfl,by kernel_rfl,by kernel_rfl⟩
    ·refine AWP.seq (AWP.rg0 [] [(4,(.ptr 1 0)),(6,(.ptr 2 0)),(21,(u8 a.Proto)),(24,(vb (a.Proto == (17:Int))))] ?_)
     refine AWP.cif hF (fun t hF=>?_) (fun t hF=>?_)
     ·refine AWP.skip (LeQ.start (LeQ.pk [4,6,24] 3 ?_))
      have hr:=someb hF
      subst hr
      exact⟨rfl,by kernel_rfl,by kernel_rfl⟩
     ·refine AWP.rg0 [] [(4,(.ptr 1 0)),(6,(.ptr 2 0)),(24,(vb (a.Proto == (1:Int))))] (LeQ.start (LeQ.pk [4,6,24] 3 ?_))
      have hr:=someb hF
      subst hr
      exact⟨rfl,by kernel_rfl,by kernel_rfl⟩
   ·rintro _ _ _ ⟨rfl,rfl,rfl⟩
    refine AWP.cif hF (fun u hF=>?_) (fun u hF=>?_)
    ·refine AWP.skip (LeQ.start (LeQ.pk [4,6] 3 ?_))
     have hr:=someb hF
     subst hr
     exact⟨rfl,by kernel_rfl,by kernel_rfl⟩
    ·refine AWP.rg [] [(4,(.ptr 1 0)),(6,(.ptr 2 0))] [.cells (Ze a),.cells (Zd Zr),.cells (Zd ({ d with x3:=(Zj.mk (0:Int) (0:Int)) }:ZB))] (LeQ.start (LeQ.pk [4,6] 3 ?_))
     have hr:=someb hF
     subst hr
     exact⟨rfl,by kernel_rfl,by kernel_rfl⟩
  ·rintro _ _ _ ⟨rfl,rfl,rfl⟩
   refine AWP.seq (AWP.rg [] [(4,(.ptr 1 0))] [.cells (Ze a),.cells (Zd f),.cells (Zd f)] (AWP.ret ?_))
   have hr:=someb hF
   subst hr
   exact(FnQ.f0 0 (.inr rfl))
def Zj6 (r:Bool):PV→List Blk→Prop:=fun p K=>p=(vb r)∧K=[]
theorem Zf1 (c:Zc) (f:Bool) (d:Int) (r:Bool) (hF:Zcy c f d=some r):ACall Tryz.prog glob 63 [(Zv c),(vb f),(u32 d)] [] (Zj6 r):=by
 refine ACall.body Tryz.func63 rfl (by kernel_rfl) ?_
 unfold Zcy at hF
 refine AWP.seq (AWP.rg [] [(1,(vb f)),(2,(u32 d)),(3,(.ptr 0 0))] [.cells (Ze c)] (AWP.seq ?_))
 obtain⟨i,a,hF⟩:=bindb hF
 replace a:=someb a
 obtain⟨g,b,hF⟩:=bindb hF
 replace b:=someb b
 refine AWP.to [(6,(vb (g || (d != (8:Int)))))] [.cells (Ze c)] ?_ ?_
 ·cases i with
  | false=>
   cases g with
   | false=>
    exact AWP.rgT [(2,.bool a),(7,.bool b)]
   | true=>
    exact AWP.rgT [(2,.bool a),(7,.bool b)]
  | true=>
   subst b
   exact AWP.rgT [(2,.bool a)]
 refine AWP.ret ?_
 have hr:=someb hF
 subst hr
 exact(FnQ.f0 0 (.inr rfl))
def Zew (a:Int) (b:(List (Zc × Za))) (r:(Zc × Bool)):PV→List Blk→Prop:=fun p K=>p=(.tup [(Zv r.1),(vb r.2)])∧K=[.fm (List.map (entF Zh Zf) b),.cells [(i64 a),(.mp 0)]]
abbrev Zgx (a:Int) (b:(List (Zc × Za))) (r:(Zc × Bool)):Exit→St→List Blk→Prop:=FnQ Tryz.prog Tryz.f44.results 2 (Zew a b r)
theorem Zgy (f:Int) (j:(List (Zc × Za))) (a:Za) (u:Int) (s:(List Zp)) (r:(Zc × Bool)) (hF:Zbt f j a u s=some r):ACall Tryz.prog glob 44 [(.ptr 1 0),(Z2 a),(i64 u),(slc 13 Zn s)] [.fm (List.map (entF Zh Zf) j),.cells [(i64 f),(.mp 0)]] (Zew f j r):=by
 refine ACall.body Tryz.func44 rfl (by kernel_rfl) ?_
 unfold Zbt at hF
 refine AWP.seq (AWP.rg [] [(0,(.ptr 1 0)),(2,(i64 u)),(3,(slc 13 Zn s)),(5,(.ptr 2 0)),(8,(.ptr 3 0))] [.fm (List.map (entF Zh Zf) j),.cells [(i64 f),(.mp 0)],.cells (Zb a),.cells (Ze Zl)] (AWP.seq ?_))
 obtain⟨g,b9,hF⟩:=bindb hF
 refine AWP.rg0 [(3,.call Tryz.func60 [] (Zf0 s a.Real g b9))] [(0,(.ptr 1 0)),(2,(i64 u)),(3,(slc 13 Zn s)),(5,(.ptr 2 0)),(8,(.ptr 3 0)),(10,(vb (decide (g ≥ (0:Int)))))] (AWP.seq ?_)
 obtain⟨d,c0,hF⟩:=bindb hF
 refine AWP.rg [(3,.call Tryz.func61 [] (Zii s a.Real d c0))] [(0,(.ptr 1 0)),(2,(i64 u)),(5,(.ptr 2 0)),(8,(.ptr 3 0)),(10,(vb (decide (g ≥ (0:Int))))),(11,(.ptr 4 0))] [.fm (List.map (entF Zh Zf) j),.cells [(i64 f),(.mp 0)],.cells (Zb a),.cells (Ze Zl),.cells (Zd d)] (AWP.seq (AWP.seq ?_))
 obtain⟨c1,v,hF⟩:=bindb hF
 replace v:=someb v
 obtain⟨e6,b3,hF⟩:=bindb hF
 obtain⟨c2,w,hF⟩:=bindb hF
 replace w:=someb w
 obtain⟨c3,a8,hF⟩:=bindb hF
 refine AWP.to [(0,(.ptr 1 0)),(5,(.ptr 2 0)),(8,(.ptr 3 0)),(10,(vb (decide (g ≥ (0:Int))))),(11,(.ptr 4 0)),(45,(vb c3))] [.fm (List.map (entF Zh Zf) j),.cells [(i64 f),(.mp 0)],.cells (Zb a),.cells (Ze Zl),.cells (Zd d)] ?_ ?_
 ·cases c1 with
  | false=>
   have c4:=someb (ifF b3 rfl)
   subst c4
   subst w
   have c5:=someb (ifF a8 rfl)
   subst c5
   exact AWP.rgT [(4,.bool v)]
  | true=>
   have x:=ifT b3 rfl
   obtain⟨b4,b5,x⟩:=bindb x
   replace x:=someb x
   subst x
   cases c2 with
   | false=>
    have c6:=someb (ifF a8 rfl)
    subst c6
    exact AWP.rgT [(4,.bool v),(8,.call Tryz.func62 [] (Ze9 d a.Delivered b4 b5)),(10,.bool w)]
   | true=>
    have y:=ifT a8 rfl
    obtain⟨c7,c8,y⟩:=bindb y
    replace y:=someb y
    subst y
    exact AWP.rgT [(4,.bool v),(8,.call Tryz.func62 [] (Ze9 d a.Delivered b4 b5)),(10,.bool w),(18,.call Tryz.func63 [] (Zf1 a.Real (decide (g ≥ (0:Int))) (IntKind.wrap .u32 a.Delivered.SrcPort) c7 c8))]
 refine AWP.cif hF (fun c9 hF=>?_) (fun c9 hF=>?_)
 ·refine AWP.seq (AWP.rg [] [(8,(.ptr 3 0)),(9,(vb true))] [.fm (List.map (entF Zh Zf) j),.cells [(i64 f),(.mp 0)],.cells (Zb a),.cells (Ze a.Delivered),.cells (Zd d)] (AWP.ret ?_))
  have hr:=someb hF
  subst hr
  exact(FnQ.f0 2 (.inr rfl))
 ·refine AWP.skip (AWP.seq (AWP.rg [(0,.mkM)] [(0,(.ptr 1 0)),(5,(.ptr 2 0)),(8,(.ptr 3 0)),(10,(vb (decide (g ≥ (0:Int))))),(11,(.ptr 4 0)),(12,(.mp 5))] [.fm (List.map (entF Zh Zf) j),.cells [(i64 f),(.mp 0)],.cells (Zb a),.cells (Ze Zl),.cells (Zd d),.fm (List.map (entF Zh Value.bool) ([]:(List (Zc × Bool))))] (AWP.seq (AWP.seq ?_))))
  refine AWP.openM Zh Zf j 0 (fun b6 c d0=>?_)
  refine AWP.rg [(4,.rngE)] [(5,(.ptr 2 0)),(8,(.ptr 3 0)),(10,(vb (decide (g ≥ (0:Int))))),(11,(.ptr 4 0)),(12,(.mp 5)),(53,(.ptr 6 0))] [.map (List.map (entT Zh Zf) b6) c,.cells [(i64 f),(.mp 0)],.cells (Zb a),.cells (Ze Zl),.cells (Zd d),.fm (List.map (entF Zh Value.bool) ([]:(List (Zc × Bool)))),.iter (some 0) c [] c] ?_
  have a9:=allpb hF
  clear hF
  refine AWP.kp [5,8,10,11,12,53] 7 ?_ (hfar:=(farM (farC (by kernel_rfl) (farC (by kernel_rfl) (farC (by kernel_rfl) (farC (by kernel_rfl) (farC (by kernel_rfl) (farC (by kernel_rfl) farN))))))))
  refine AWP.mid (fun e st H=>∃ a2,∃(z:Empty ⊕ (List (Zc × Bool))),a2.Perm j∧mfold (Zaj a) a2 ([]:(List (Zc × Bool)))=some z∧overM Zh Zf (fun(s_:(List (Zc × Bool)))=>j) (fun(s_:(List (Zc × Bool)))=>[(5,(.ptr 2 0)),(8,(.ptr 3 0)),(10,(vb (decide (g ≥ (0:Int))))),(11,(.ptr 4 0)),(12,(.mp 5)),(53,(.ptr 6 0))]) (fun(s_:(List (Zc × Bool))) (x_ y_:Blk)=>[x_,.cells [(i64 f),(.mp 0)],.cells (Zb a),.cells (Ze Zl),.cells (Zd d),.fm (List.map (entF Zh Value.bool) s_),y_]) (fun(_:Empty) _ _ _=>False) 0 c z e st H) ?_ ?_
  ·refine AWP.rangeQ (it:=53) (t:=54) (b:=55) (i:=0) (q:=6) (cl:=c) (kv:=Zh) (vv:=Zf) (B:=Zaj a) (M:=(fun(s_:(List (Zc × Bool)))=>j)) (stf:=(fun(s_:(List (Zc × Bool)))=>[(5,(.ptr 2 0)),(8,(.ptr 3 0)),(10,(vb (decide (g ≥ (0:Int))))),(11,(.ptr 4 0)),(12,(.mp 5)),(53,(.ptr 6 0))])) (Hf:=(fun(s_:(List (Zc × Bool))) (x_ y_:Blk)=>[x_,.cells [(i64 f),(.mp 0)],.cells (Zb a),.cells (Ze Zl),.cells (Zd d),.fm (List.map (entF Zh Value.bool) s_),y_])) (Qe:=(fun(_:Empty) _ _ _=>False)) (L:=j) (si_:=([]:(List (Zc × Bool)))) (Ei_:=b6) (by kernel_rfl) (fun _=>rfl) (fun _ _ _=>rfl) (fun _ _ _=>rfl) (fun _ _ _ _=>rfl) (fun _ _ _=>rfl) (fun y_ _ _ _ _=>(by cases y_)) d0 rfl (fun l_ h_=>isb (a9 l_ h_)) rfl rfl ?_ (fun l_ o_ h1_ h2_ e st H h3_=>LeQ.of ⟨l_,o_,h1_,h2_,h3_⟩)
   rintro a3 a0 ⟨a4,o⟩ l z hF d1 b0
   rw [Zaj] at hF
   show AWP _ _ _ _ _ _ [(5,(.ptr 2 0)),(8,(.ptr 3 0)),(10,(vb (decide (g ≥ (0:Int))))),(11,(.ptr 4 0)),(12,(.mp 5)),(53,(.ptr 6 0))] [.map (List.map (entT Zh Zf) a3) c,.cells [(i64 f),(.mp 0)],.cells (Zb a),.cells (Ze Zl),.cells (Zd d),.fm (List.map (entF Zh Value.bool) l),.iter (some 0) c (a0++[a4]) c]
   refine AWP.block (AWP.seq (AWP.rg [(0,.entE Zf b0 a0 d1)] [(5,(.ptr 2 0)),(8,(.ptr 3 0)),(10,(vb (decide (g ≥ (0:Int))))),(11,(.ptr 4 0)),(12,(.mp 5)),(13,(.ptr 7 0)),(14,(.ptr 8 0)),(53,(.ptr 6 0))] [.map (List.map (entT Zh Zf) a3) c,.cells [(i64 f),(.mp 0)],.cells (Zb a),.cells (Ze Zl),.cells (Zd d),.fm (List.map (entF Zh Value.bool) l),.iter (some 0) c (a0++[a4]) c,.cells (Ze o.1),.cells (Zb o.2)] (AWP.seq ?_)))
   obtain⟨b7,a5,hF⟩:=bindb hF
   replace a5:=someb a5
   refine AWP.to [(5,(.ptr 2 0)),(8,(.ptr 3 0)),(10,(vb (decide (g ≥ (0:Int))))),(11,(.ptr 4 0)),(12,(.mp 5)),(14,(.ptr 8 0)),(53,(.ptr 6 0)),(67,(vb (b7 && (o.2.To != (-1:Int)))))] [.map (List.map (entT Zh Zf) a3) c,.cells [(i64 f),(.mp 0)],.cells (Zb a),.cells (Ze Zl),.cells (Zd d),.fm (List.map (entF Zh Value.bool) l),.iter (some 0) c (a0++[a4]) c,.cells (Ze o.1),.cells (Zb o.2)] ?_ ?_
   ·cases b7 with
    | false=>
     exact AWP.rgT [(4,.bool a5)]
    | true=>
     exact AWP.rgT [(4,.bool a5)]
   refine AWP.cif hF (fun d2 hF=>?_) (fun d2 hF=>?_)
   ·refine AWP.rg [(3,.putM Zak Value.bool l o.2.Delivered true)] [(5,(.ptr 2 0)),(8,(.ptr 3 0)),(10,(vb (decide (g ≥ (0:Int))))),(11,(.ptr 4 0)),(12,(.mp 5)),(53,(.ptr 6 0))] [.map (List.map (entT Zh Zf) a3) c,.cells [(i64 f),(.mp 0)],.cells (Zb a),.cells (Ze Zl),.cells (Zd d),.fm (List.map (entF Zh Value.bool) (mput Zg l o.2.Delivered true)),.iter (some 0) c (a0++[a4]) c,.cells (Ze o.1),.cells (Zb o.2)] (LeQ.start ?_)
    refine LeQ.pk [5,8,10,11,12,53] 7 ?_ (hfar:=(farM (farC (by kernel_rfl) (farC (by kernel_rfl) (farC (by kernel_rfl) (farC (by kernel_rfl) (farC (by kernel_rfl) (farC (by kernel_rfl) farN))))))))
    have hr:=someb hF
    subst hr
    exact roundM.mk b0 (.inl rfl)
   ·refine AWP.skip (LeQ.start ?_)
    refine LeQ.pk [5,8,10,11,12,53] 7 ?_ (hfar:=(farM (farC (by kernel_rfl) (farC (by kernel_rfl) (farC (by kernel_rfl) (farC (by kernel_rfl) (farC (by kernel_rfl) (farC (by kernel_rfl) farN))))))))
    have hr:=someb hF
    subst hr
    exact roundM.mk b0 (.inl rfl)
  ·rintro e st H ⟨a2,z,d3,d4,d5⟩
   have hF:=overb d4 (a9 a2 d3)
   clear a9
   obtain d6 | l:=z
   ·exact (by cases d6)
   ·obtain⟨rfl,e7,p,d7,rfl,rfl⟩:=d5
    refine AWP.closeM Zf 0 d7 ?_
    refine AWP.seq (AWP.rg [] [(5,(.ptr 2 0)),(8,(.ptr 3 0)),(10,(vb (decide (g ≥ (0:Int))))),(11,(.ptr 4 0)),(12,(.mp 5)),(15,(.ptr 7 0))] [.fm (List.map (entF Zh Zf) j),.cells [(i64 f),(.mp 0)],.cells (Zb a),.cells (Ze Zl),.cells (Zd d),.fm (List.map (entF Zh Value.bool) l),.iter (some 0) c p c,.cells (Ze a.Real)] (AWP.seq (AWP.rg [] [(5,(.ptr 2 0)),(8,(.ptr 3 0)),(10,(vb (decide (g ≥ (0:Int))))),(11,(.ptr 4 0)),(12,(.mp 5)),(15,(.ptr 7 0))] [.fm (List.map (entF Zh Zf) j),.cells [(i64 f),(.mp 0)],.cells (Zb a),.cells (Ze Zl),.cells (Zd d),.fm (List.map (entF Zh Value.bool) l),.iter (some 0) c p c,.cells (Ze ({ a.Real with Src:=d.x0.Lo }:Zc))] (AWP.seq (AWP.seq (AWP.rg0 [] [(5,(.ptr 2 0)),(8,(.ptr 3 0)),(10,(vb (decide (g ≥ (0:Int))))),(11,(.ptr 4 0)),(12,(.mp 5)),(15,(.ptr 7 0)),(16,(u32 d.x3.Lo))] ?_))))))
    obtain⟨b1,d8,hF⟩:=bindb hF
    refine AWP.mid (fun e st H=>(e=.normal∧∃ a6,b1=(.inl a6)∧st=[(8,(.ptr 3 0))]∧H=[.fm (List.map (entF Zh Zf) j),.cells [(i64 f),(.mp 0)],.cells (Zb a),.cells (Ze Zl),.cells (Zd d),.fm (List.map (entF Zh Value.bool) l),.iter (some 0) c p c,.cells (Ze a6)])∨(e=.ret∧∃ r,b1=(.inr r)∧Zgx f j r e st H)) ?_ ?_
    ·clear hF
     refine AWP.kp [5,8,10,11,12,15,16] 8 ?_
     refine AWP.bround (fun n st H=>∃ m,∃ k,Zaa a g d l n m k=some b1∧st=[(5,(.ptr 2 0)),(8,(.ptr 3 0)),(10,(vb (decide (g ≥ (0:Int))))),(11,(.ptr 4 0)),(12,(.mp 5)),(15,(.ptr 7 0)),(16,(u32 k))]∧H=[.fm (List.map (entF Zh Zf) j),.cells [(i64 f),(.mp 0)],.cells (Zb a),.cells (Ze Zl),.cells (Zd d),.fm (List.map (entF Zh Value.bool) l),.iter (some 0) c p c,.cells (Ze m)]) fuel ⟨({ a.Real with Src:=d.x0.Lo }:Zc),d.x3.Lo,d8,by kernel_rfl,by kernel_rfl⟩ ?_
     rintro b2 st H ⟨m,k,hF,rfl,rfl⟩
     cases b2 with
     | zero=>exact noneb hF
     | succ b2=>
      rw [Zaa] at hF
      refine AWP.seq (AWP.seq (AWP.rg0 [] [(5,(.ptr 2 0)),(8,(.ptr 3 0)),(10,(vb (decide (g ≥ (0:Int))))),(11,(.ptr 4 0)),(12,(.mp 5)),(15,(.ptr 7 0)),(16,(u32 k)),(84,(vb (decide (k≤d.x3.Hi))))] ?_))
      refine AWP.cif hF (fun d9 hF=>?_) (fun d9 hF=>?_)
      ·refine AWP.skip (AWP.seq (AWP.block (AWP.seq (AWP.rg [] [(5,(.ptr 2 0)),(8,(.ptr 3 0)),(10,(vb (decide (g ≥ (0:Int))))),(11,(.ptr 4 0)),(12,(.mp 5)),(15,(.ptr 7 0)),(16,(u32 k))] [.fm (List.map (entF Zh Zf) j),.cells [(i64 f),(.mp 0)],.cells (Zb a),.cells (Ze Zl),.cells (Zd d),.fm (List.map (entF Zh Value.bool) l),.iter (some 0) c p c,.cells (Ze ({ m with SrcPort:=(IntKind.wrap .u16 k) }:Zc))] (AWP.seq ?_)))))
       obtain⟨e0,a7,hF⟩:=bindb hF
       replace a7:=someb a7
       obtain⟨e1,b8,hF⟩:=bindb hF
       refine AWP.to [(5,(.ptr 2 0)),(8,(.ptr 3 0)),(10,(vb (decide (g ≥ (0:Int))))),(11,(.ptr 4 0)),(12,(.mp 5)),(15,(.ptr 7 0)),(16,(u32 k)),(100,(vb e1))] [.fm (List.map (entF Zh Zf) j),.cells [(i64 f),(.mp 0)],.cells (Zb a),.cells (Ze Zl),.cells (Zd d),.fm (List.map (entF Zh Value.bool) l),.iter (some 0) c p c,.cells (Ze ({ m with SrcPort:=(IntKind.wrap .u16 k) }:Zc))] ?_ ?_
       ·cases e0 with
        | false=>
         have e2:=someb (ifF b8 rfl)
         subst e2
         exact AWP.rgT [(2,.lookM Zak Value.bool false l ({ m with SrcPort:=(IntKind.wrap .u16 k) }:Zc)),(4,.bool a7)]
        | true=>
         have a1:=ifT b8 rfl
         obtain⟨e3,e4,a1⟩:=bindb a1
         replace a1:=someb a1
         subst a1
         exact AWP.rgT [(2,.lookM Zak Value.bool false l ({ m with SrcPort:=(IntKind.wrap .u16 k) }:Zc)),(4,.bool a7),(9,.call Tryz.func63 [] (Zf1 a.Real (decide (g ≥ (0:Int))) k e3 e4))]
       refine AWP.cif hF (fun e5 hF=>?_) (fun e5 hF=>?_)
       ·refine AWP.seq (AWP.rg [] [(8,(.ptr 3 0)),(9,(vb true))] [.fm (List.map (entF Zh Zf) j),.cells [(i64 f),(.mp 0)],.cells (Zb a),.cells (Ze ({ m with SrcPort:=(IntKind.wrap .u16 k) }:Zc)),.cells (Zd d),.fm (List.map (entF Zh Value.bool) l),.iter (some 0) c p c,.cells (Ze ({ m with SrcPort:=(IntKind.wrap .u16 k) }:Zc))] (AWP.ret ?_))
        exact LeQ.of (.inr ⟨rfl,(({ m with SrcPort:=(IntKind.wrap .u16 k) }:Zc),true),(someb hF).symm,(FnQ.f0 2 (.inr rfl))⟩)
       ·refine AWP.skip (AWP.rg0 [] [(5,(.ptr 2 0)),(8,(.ptr 3 0)),(10,(vb (decide (g ≥ (0:Int))))),(11,(.ptr 4 0)),(12,(.mp 5)),(15,(.ptr 7 0)),(16,(u32 (IntKind.wrap .u32 (k + (1:Int)))))] (LeQ.start (LeQ.pk [5,8,10,11,12,15,16] 8 ?_)))
        exact⟨b2,Nat.lt_succ_self _,({ m with SrcPort:=(IntKind.wrap .u16 k) }:Zc),(IntKind.wrap .u32 (k + (1:Int))),hF,by kernel_rfl,by kernel_rfl⟩
      ·refine AWP.exit (LeQ.start (LeQ.pk [8] 8 ?_))
       exact(.inl ⟨rfl,m,(someb hF).symm,by kernel_rfl,by kernel_rfl⟩)
    ·rintro _ _ _ (⟨rfl,a6,rfl,rfl,rfl⟩ | ⟨rfl,e8,rfl,hq⟩)
     ·refine AWP.seq (AWP.rg [] [(8,(.ptr 3 0)),(9,(vb false))] [.fm (List.map (entF Zh Zf) j),.cells [(i64 f),(.mp 0)],.cells (Zb a),.cells (Ze (Zc.mk (0:Int) (0:Int) (0:Int) (0:Int) (0:Int))),.cells (Zd d),.fm (List.map (entF Zh Value.bool) l),.iter (some 0) c p c,.cells (Ze a6)] (AWP.ret ?_))
      have hr:=someb hF
      subst hr
      exact(FnQ.f0 2 (.inr rfl))
     ·have hr:=someb hF
      subst hr
      exact hq
def Zhh (a:Int) (r:(Zc × Int × (List (Zc × Za)))):PV→List Blk→Prop:=fun p K=>p=(.tup [(Zv r.1),(i64 r.2.1)])∧K=[.fm (List.map (entF Zh Zf) r.2.2),.cells [(i64 a),(.mp 0)]]
theorem Zhi (a:Int) (n:(List (Zc × Za))) (b:Int) (c:Zc) (d:ByteArray) (k:(List Zp)) (l:Bool) (g:Int) (r:(Zc × Int × (List (Zc × Za)))) (hF:Zby a n b c d k l g=some r):ACall Tryz.prog glob 19 [(.ptr 1 0),(i64 b),(Zv c),(vstr d),(slc 13 Zn k),(vb l),(i64 g)] [.fm (List.map (entF Zh Zf) n),.cells [(i64 a),(.mp 0)]] (Zhh a r):=by
 refine ACall.body Tryz.func19 rfl (by kernel_rfl) ?_
 unfold Zby at hF
 refine AWP.seq (AWP.rg [] [(0,(.ptr 1 0)),(1,(i64 b)),(3,(vstr d)),(4,(slc 13 Zn k)),(5,(vb l)),(6,(i64 g)),(9,(.ptr 2 0)),(14,(.ptr 3 0))] [.fm (List.map (entF Zh Zf) n),.cells [(i64 a),(.mp 0)],.cells (Ze c),.cells (Ze Zl)] (AWP.seq (AWP.seq (AWP.rg0 [(1,.ptrNil)] [(0,(.ptr 1 0)),(1,(i64 b)),(3,(vstr d)),(4,(slc 13 Zn k)),(5,(vb l)),(6,(i64 g)),(9,(.ptr 2 0)),(14,(.ptr 3 0)),(21,(vb false))] ?_))))
 refine AWP.cF ?_
 refine AWP.skip (AWP.seq ?_)
 obtain⟨j,s,hF⟩:=bindb hF
 refine AWP.rg [(2,.callS Tryz.func26 [0,1] [] (Zas a n g j s))] [(0,(.ptr 1 0)),(1,(i64 b)),(3,(vstr d)),(4,(slc 13 Zn k)),(5,(vb l)),(6,(i64 g)),(9,(.ptr 2 0)),(14,(.ptr 3 0))] [.fm (List.map (entF Zh Zf) j.2),.cells [(i64 a),(.mp 0)],.cells (Ze c),.cells (Ze Zl)] (AWP.seq (AWP.seq ?_))
 obtain⟨t,o,hF⟩:=bindb hF
 replace o:=someb o
 obtain⟨u,q,hF⟩:=bindb hF
 refine AWP.to [(0,(.ptr 1 0)),(1,(i64 b)),(3,(vstr d)),(4,(slc 13 Zn k)),(5,(vb l)),(6,(i64 g)),(9,(.ptr 2 0)),(14,(.ptr 3 0)),(32,(vb u))] [.fm (List.map (entF Zh Zf) j.2),.cells [(i64 a),(.mp 0)],.cells (Ze c),.cells (Ze Zl)] ?_ ?_
 ·cases t with
  | false=>
   have m:=ifF q rfl
   obtain⟨v,w,m⟩:=bindb m
   replace m:=someb m
   subst m
   exact AWP.rgT [(2,.bool o),(4,.call Tryz.func42 [] (Zjm k v w))]
  | true=>
   have x:=someb (ifT q rfl)
   subst x
   exact AWP.rgT [(2,.bool o)]
 refine AWP.cif hF (fun y hF=>?_) (fun y hF=>?_)
 ·refine AWP.seq (AWP.rg [] [(14,(.ptr 3 0)),(15,(i64 (1:Int)))] [.fm (List.map (entF Zh Zf) j.2),.cells [(i64 a),(.mp 0)],.cells (Ze c),.cells (Ze (Zc.mk (0:Int) (0:Int) (0:Int) (0:Int) (0:Int)))] (AWP.ret ?_))
  have hr:=someb hF
  subst hr
  exact(FnQ.f0 2 (.inr rfl))
 ·refine AWP.skip (AWP.seq ?_)
  obtain⟨f,z,hF⟩:=bindb hF
  refine AWP.rg [(3,.callS Tryz.func35 [0,1] [] (Zej a j.2 c l f z))] [(0,(.ptr 1 0)),(1,(i64 b)),(3,(vstr d)),(4,(slc 13 Zn k)),(6,(i64 g)),(14,(.ptr 3 0)),(16,(.ptr 4 0)),(17,(i64 f.2))] [.fm (List.map (entF Zh Zf) j.2),.cells [(i64 a),(.mp 0)],.cells (Ze c),.cells (Ze Zl),.cells (Zb f.1)] (AWP.seq (AWP.seq (AWP.rg0 [] [(0,(.ptr 1 0)),(1,(i64 b)),(3,(vstr d)),(4,(slc 13 Zn k)),(6,(i64 g)),(14,(.ptr 3 0)),(16,(.ptr 4 0)),(17,(i64 f.2)),(42,(vb (f.2 != (0:Int))))] ?_)))
  refine AWP.cif hF (fun a0 hF=>?_) (fun a0 hF=>?_)
  ·refine AWP.seq (AWP.rg [] [(14,(.ptr 3 0)),(15,(i64 f.2))] [.fm (List.map (entF Zh Zf) j.2),.cells [(i64 a),(.mp 0)],.cells (Ze c),.cells (Ze (Zc.mk (0:Int) (0:Int) (0:Int) (0:Int) (0:Int))),.cells (Zb f.1)] (AWP.ret ?_))
   have hr:=someb hF
   subst hr
   exact(FnQ.f0 2 (.inr rfl))
  ·refine AWP.skip (AWP.seq ?_)
   obtain⟨i,a1,hF⟩:=bindb hF
   refine AWP.rg [(4,.callS Tryz.func44 [0,1] [] (Zgy a j.2 f.1 b k i a1))] [(0,(.ptr 1 0)),(1,(i64 b)),(3,(vstr d)),(6,(i64 g)),(14,(.ptr 3 0)),(16,(.ptr 4 0)),(18,(.ptr 5 0)),(19,(vb i.2))] [.fm (List.map (entF Zh Zf) j.2),.cells [(i64 a),(.mp 0)],.cells (Ze c),.cells (Ze Zl),.cells (Zb f.1),.cells (Ze i.1)] (AWP.seq (AWP.seq (AWP.rg0 [] [(0,(.ptr 1 0)),(1,(i64 b)),(3,(vstr d)),(6,(i64 g)),(14,(.ptr 3 0)),(16,(.ptr 4 0)),(18,(.ptr 5 0)),(54,(vb (!i.2)))] ?_)))
   refine AWP.cif hF (fun a2 hF=>?_) (fun a2 hF=>?_)
   ·refine AWP.seq (AWP.rg [] [(14,(.ptr 3 0)),(15,(i64 (9:Int)))] [.fm (List.map (entF Zh Zf) j.2),.cells [(i64 a),(.mp 0)],.cells (Ze c),.cells (Ze (Zc.mk (0:Int) (0:Int) (0:Int) (0:Int) (0:Int))),.cells (Zb f.1),.cells (Ze i.1)] (AWP.ret ?_))
    have hr:=someb hF
    subst hr
    exact(FnQ.f0 2 (.inr rfl))
   ·refine AWP.skip (AWP.seq (AWP.dr [] 7 [] [4,6] [] [(0,(.ptr 1 0)),(6,(i64 g)),(14,(.ptr 3 0)),(16,(.ptr 4 0)),(18,(.ptr 5 0))] [.fm (List.map (entF Zh Zf) j.2),.cells [(i64 a),(.mp 0)],.cells (Ze c),.cells (Ze Zl),.cells (Zb ({ ({ ({ f.1 with To:=b }:Za) with Delivered:=i.1 }:Za) with Class:=d }:Za)),.cells (Ze i.1)] (AWP.seq ?_)))
    obtain⟨p,a3,hF⟩:=bindb hF
    refine AWP.rg [(3,.callS Tryz.func37 [0,1] [] (Zdk a j.2 ({ ({ ({ f.1 with To:=b }:Za) with Delivered:=i.1 }:Za) with Class:=d }:Za) g p a3))] [(14,(.ptr 3 0)),(18,(.ptr 5 0))] [.fm (List.map (entF Zh Zf) p),.cells [(i64 a),(.mp 0)],.cells (Ze c),.cells (Ze Zl),.cells (Zb ({ ({ ({ f.1 with To:=b }:Za) with Delivered:=i.1 }:Za) with Class:=d }:Za)),.cells (Ze i.1)] (AWP.seq (AWP.rg [] [(14,(.ptr 3 0)),(15,(i64 (0:Int)))] [.fm (List.map (entF Zh Zf) p),.cells [(i64 a),(.mp 0)],.cells (Ze c),.cells (Ze i.1),.cells (Zb ({ ({ ({ f.1 with To:=b }:Za) with Delivered:=i.1 }:Za) with Class:=d }:Za)),.cells (Ze i.1)] (AWP.ret ?_)))
    have hr:=someb hF
    subst hr
    exact(FnQ.f0 2 (.inr rfl))
def Zia (r:Bool):PV→List Blk→Prop:=fun p K=>p=(vb r)∧K=[]
abbrev Zm6 (r:Bool):Exit→St→List Blk→Prop:=FnQ Tryz.prog Tryz.f86.results 0 (Zia r)
theorem Za7 (a:ZB) (r:Bool) (hF:Zbh a=some r):ACall Tryz.prog glob 86 [(Zz a)] [] (Zia r):=by
 refine ACall.body Tryz.func86 rfl (by kernel_rfl) ?_
 unfold Zbh at hF
 refine AWP.seq (AWP.rg [] [(1,(.ptr 0 0))] [.cells (Zd a)] (AWP.seq (AWP.seq (AWP.rg0 [] [(1,(.ptr 0 0)),(3,(i64 (0:Int)))] ?_))))
 obtain⟨i,m,hF⟩:=bindb hF
 refine AWP.mid (fun e st H=>(e=.normal∧i=(.inl ())∧st=[]∧H=[.cells (Zd a)])∨(e=.ret∧∃ r,i=(.inr r)∧Zm6 r e st H)) ?_ ?_
 ·clear hF
  refine AWP.kp [1,3] 1 ?_
  refine AWP.bround (fun n st H=>∃ b,Z1 a n b=some i∧st=[(1,(.ptr 0 0)),(3,(i64 b))]∧H=[.cells (Zd a)]) fuel ⟨(0:Int),m,by kernel_rfl,by kernel_rfl⟩ ?_
  rintro j st H ⟨b,hF,rfl,rfl⟩
  cases j with
  | zero=>exact noneb hF
  | succ j=>
   rw [Z1] at hF
   refine AWP.seq (AWP.seq (AWP.rg0 [] [(1,(.ptr 0 0)),(3,(i64 b)),(5,(vb (decide (b<(5:Int)))))] ?_))
   refine AWP.cif hF (fun o hF=>?_) (fun o hF=>?_)
   ·refine AWP.skip (AWP.seq (AWP.block (AWP.seq ?_)))
    obtain⟨d,hF⟩:=chkb hF
    obtain⟨f,hF⟩:=chkb hF
    obtain⟨p,g,hF⟩:=bindb hF
    replace g:=someb g
    obtain⟨q,k,hF⟩:=bindb hF
    refine AWP.to [(1,(.ptr 0 0)),(3,(i64 b)),(25,(vb q))] [.cells (Zd a)] ?_ ?_
    ·cases p with
     | false=>
      have c:=ifF k rfl
      obtain⟨l,c⟩:=chkb c
      obtain⟨s,t,c⟩:=bindb c
      replace c:=someb c
      subst c
      exact AWP.drT [(1,.ixd d),(3,.ldA Zx (Arr5.get a) 0 2 0 d),(5,.ixd f),(7,.ldA Zx (Arr5.get a) 0 2 1 f),(9,.bool g),(11,.ixd l),(13,.ldA Zx (Arr5.get a) 0 2 1 l),(15,.call Tryz.func56 [] (Zj2 b s t))] 18 [] [] []
     | true=>
      have u:=someb (ifT k rfl)
      subst u
      exact AWP.drT [(1,.ixd d),(3,.ldA Zx (Arr5.get a) 0 2 0 d),(5,.ixd f),(7,.ldA Zx (Arr5.get a) 0 2 1 f),(9,.bool g)] 18 [] [] []
    refine AWP.cif hF (fun v hF=>?_) (fun v hF=>?_)
    ·refine AWP.seq (AWP.rg0 [] [(2,(vb false))] (AWP.ret ?_))
     exact LeQ.of (.inr ⟨rfl,false,(someb hF).symm,(FnQ.f0 0 (.inr rfl))⟩)
    ·refine AWP.skip (AWP.rg0 [] [(1,(.ptr 0 0)),(3,(i64 (ZI (b + (1:Int)))))] (LeQ.start (LeQ.pk [1,3] 1 ?_)))
     exact⟨j,Nat.lt_succ_self _,(ZI (b + (1:Int))),hF,by kernel_rfl,by kernel_rfl⟩
   ·refine AWP.exit (LeQ.start (LeQ.pk [] 1 ?_))
    exact(.inl ⟨rfl,(someb hF).symm,by kernel_rfl,by kernel_rfl⟩)
 ·rintro _ _ _ (⟨rfl,rfl,rfl,rfl⟩ | ⟨rfl,w,rfl,hq⟩)
  ·refine AWP.seq (AWP.rg0 [] [(2,(vb true))] (AWP.ret ?_))
   have hr:=someb hF
   subst hr
   exact(FnQ.f0 0 (.inr rfl))
  ·have hr:=someb hF
   subst hr
   exact hq
def Zj7 (r:Bool):PV→List Blk→Prop:=fun p K=>p=(vb r)∧K=[]
theorem Zc4 (a:Zp) (r:Bool) (hF:Zbr a=some r):ACall Tryz.prog glob 64 [(Zeu a)] [] (Zj7 r):=by
 refine ACall.body Tryz.func64 rfl (by kernel_rfl) ?_
 unfold Zbr at hF
 refine AWP.seq (AWP.rg [] [(1,(.ptr 0 0))] [.cells (Zn a)] (AWP.seq ?_))
 obtain⟨d,f,hF⟩:=bindb hF
 obtain⟨i,b,hF⟩:=bindb hF
 replace b:=someb b
 obtain⟨g,c,hF⟩:=bindb hF
 replace c:=someb c
 refine AWP.to [(2,(vb (g && (decide (a.Ports.Hi≤(65535:Int))))))] [.cells (Zn a)] ?_ ?_
 ·cases i with
  | false=>
   subst c
   exact AWP.rgT [(2,.call Tryz.func86 [] (Za7 a.Match d f)),(3,.bool b)]
  | true=>
   cases g with
   | false=>
    exact AWP.rgT [(2,.call Tryz.func86 [] (Za7 a.Match d f)),(3,.bool b),(12,.bool c)]
   | true=>
    exact AWP.rgT [(2,.call Tryz.func86 [] (Za7 a.Match d f)),(3,.bool b),(12,.bool c)]
 refine AWP.ret ?_
 have hr:=someb hF
 subst hr
 exact(FnQ.f0 0 (.inr rfl))
def Zfv (r:Bool):PV→List Blk→Prop:=fun p K=>p=(vb r)∧K=[]
abbrev Zjn (r:Bool):Exit→St→List Blk→Prop:=FnQ Tryz.prog Tryz.f45.results 0 (Zfv r)
theorem Zjo (a:(List Zp)) (r:Bool) (hF:Zcv a=some r):ACall Tryz.prog glob 45 [(slc 13 Zn a)] [] (Zfv r):=by
 refine ACall.body Tryz.func45 rfl (by kernel_rfl) ?_
 unfold Zcv at hF
 refine AWP.seq (AWP.rg0 [] [(0,(slc 13 Zn a))] (AWP.seq (AWP.seq (AWP.rg0 [] [(0,(slc 13 Zn a)),(3,(i64 (0:Int)))] ?_))))
 obtain⟨c,g,hF⟩:=bindb hF
 refine AWP.mid (fun e st H=>(e=.normal∧c=(.inl ())∧st=[(0,(slc 13 Zn a))]∧H=[])∨(e=.ret∧∃ r,c=(.inr r)∧Zjn r e st H)) ?_ ?_
 ·clear hF
  refine AWP.kp [0,3] 0 ?_
  refine AWP.bround (fun n st H=>∃ b,Za3 a n b=some c∧st=[(0,(slc 13 Zn a)),(3,(i64 b))]∧H=[]) fuel ⟨(0:Int),g,by kernel_rfl,by kernel_rfl⟩ ?_
  rintro d st H ⟨b,hF,rfl,rfl⟩
  cases d with
  | zero=>exact noneb hF
  | succ d=>
   rw [Za3] at hF
   refine AWP.seq (AWP.seq (AWP.rg0 [(2,.len Zn a)] [(0,(slc 13 Zn a)),(3,(i64 b)),(7,(vb (decide (b<(List.length a:Int)))))] ?_))
   refine AWP.cif hF (fun i hF=>?_) (fun i hF=>?_)
   ·refine AWP.skip (AWP.seq (AWP.block (AWP.seq ?_)))
    obtain⟨j,k,hF⟩:=bindb hF
    obtain⟨f,l,hF⟩:=bindb hF
    refine AWP.rg0 [(2,.idx Zn k),(4,.call Tryz.func64 [] (Zc4 j f l))] [(0,(slc 13 Zn a)),(3,(i64 b)),(15,(vb (!f)))] ?_
    refine AWP.cif hF (fun m hF=>?_) (fun m hF=>?_)
    ·refine AWP.seq (AWP.rg0 [] [(2,(vb false))] (AWP.ret ?_))
     exact LeQ.of (.inr ⟨rfl,false,(someb hF).symm,(FnQ.f0 0 (.inr rfl))⟩)
    ·refine AWP.skip (AWP.rg0 [] [(0,(slc 13 Zn a)),(3,(i64 (ZI (b + (1:Int)))))] (LeQ.start (LeQ.pk [0,3] 0 ?_)))
     exact⟨d,Nat.lt_succ_self _,(ZI (b + (1:Int))),hF,by kernel_rfl,by kernel_rfl⟩
   ·refine AWP.exit (LeQ.start (LeQ.pk [0] 0 ?_))
    exact(.inl ⟨rfl,(someb hF).symm,by kernel_rfl,by kernel_rfl⟩)
 ·rintro _ _ _ (⟨rfl,rfl,rfl,rfl⟩ | ⟨rfl,o,rfl,hq⟩)
  ·refine AWP.seq (AWP.rg0 [(1,.len Zn a)] [(2,(vb (decide ((List.length a:Int)≤(256:Int)))))] (AWP.ret ?_))
   have hr:=someb hF
   subst hr
   exact(FnQ.f0 0 (.inr rfl))
  ·have hr:=someb hF
   subst hr
   exact hq
def Zgj (r:Bool):PV→List Blk→Prop:=fun p K=>p=(vb r)∧K=[]
abbrev Zks (r:Bool):Exit→St→List Blk→Prop:=FnQ Tryz.prog Tryz.f65.results 0 (Zgj r)
theorem Ze1 (a:ZB) (c:Zc) (r:Bool) (hF:Zbz a c=some r):ACall Tryz.prog glob 65 [(Zz a),(Zv c)] [] (Zgj r):=by
 refine ACall.body Tryz.func65 rfl (by kernel_rfl) ?_
 unfold Zbz at hF
 refine AWP.seq (AWP.rg [] [(2,(.ptr 0 0)),(3,(.ptr 1 0))] [.cells (Zd a),.cells (Ze c)] (AWP.seq ?_))
 obtain⟨b,s,hF⟩:=bindb hF
 refine AWP.rg [(1,.call Tryz.func87 [] (Zh8 c b s))] [(2,(.ptr 0 0)),(5,(.ptr 2 0))] [.cells (Zd a),.cells (Ze c),.cells (Zbl b)] (AWP.seq (AWP.seq (AWP.rg0 [] [(2,(.ptr 0 0)),(5,(.ptr 2 0)),(6,(i64 (0:Int)))] ?_)))
 obtain⟨k,t,hF⟩:=bindb hF
 refine AWP.mid (fun e st H=>(e=.normal∧k=(.inl ())∧st=[(2,(.ptr 0 0))]∧H=[.cells (Zd a),.cells (Ze c),.cells (Zbl b)])∨(e=.ret∧∃ r,k=(.inr r)∧Zks r e st H)) ?_ ?_
 ·clear hF
  refine AWP.kp [2,5,6] 3 ?_
  refine AWP.bround (fun n st H=>∃ d,Zaz a b n d=some k∧st=[(2,(.ptr 0 0)),(5,(.ptr 2 0)),(6,(i64 d))]∧H=[.cells (Zd a),.cells (Ze c),.cells (Zbl b)]) fuel ⟨(0:Int),t,by kernel_rfl,by kernel_rfl⟩ ?_
  rintro l st H ⟨d,hF,rfl,rfl⟩
  cases l with
  | zero=>exact noneb hF
  | succ l=>
   rw [Zaz] at hF
   refine AWP.seq (AWP.seq (AWP.rg0 [] [(2,(.ptr 0 0)),(5,(.ptr 2 0)),(6,(i64 d)),(10,(vb (decide (d<(5:Int)))))] ?_))
   refine AWP.cif hF (fun u hF=>?_) (fun u hF=>?_)
   ·refine AWP.skip (AWP.seq (AWP.block (AWP.seq ?_)))
    obtain⟨g,hF⟩:=chkb hF
    obtain⟨i,hF⟩:=chkb hF
    obtain⟨v,j,hF⟩:=bindb hF
    replace j:=someb j
    obtain⟨w,m,hF⟩:=bindb hF
    refine AWP.to [(2,(.ptr 0 0)),(5,(.ptr 2 0)),(6,(i64 d)),(30,(vb w))] [.cells (Zd a),.cells (Ze c),.cells (Zbl b)] ?_ ?_
    ·cases v with
     | false=>
      have f:=ifF m rfl
      obtain⟨o,f⟩:=chkb f
      obtain⟨p,f⟩:=chkb f
      replace f:=someb f
      subst f
      exact AWP.drT [(1,.ixd g),(2,.ldA Zet (Arr5.get b) 0 1 0 g),(4,.ixd i),(6,.ldA Zx (Arr5.get a) 0 2 0 i),(8,.bool j),(10,.ixd o),(11,.ldA Zet (Arr5.get b) 0 1 0 o),(13,.ixd p),(15,.ldA Zx (Arr5.get a) 0 2 1 p)] 18 [] [] []
     | true=>
      have x:=someb (ifT m rfl)
      subst x
      exact AWP.drT [(1,.ixd g),(2,.ldA Zet (Arr5.get b) 0 1 0 g),(4,.ixd i),(6,.ldA Zx (Arr5.get a) 0 2 0 i),(8,.bool j)] 18 [] [] []
    refine AWP.cif hF (fun y hF=>?_) (fun y hF=>?_)
    ·refine AWP.seq (AWP.rg0 [] [(4,(vb false))] (AWP.ret ?_))
     exact LeQ.of (.inr ⟨rfl,false,(someb hF).symm,(FnQ.f0 0 (.inr rfl))⟩)
    ·refine AWP.skip (AWP.rg0 [] [(2,(.ptr 0 0)),(5,(.ptr 2 0)),(6,(i64 (ZI (d + (1:Int)))))] (LeQ.start (LeQ.pk [2,5,6] 3 ?_)))
     exact⟨l,Nat.lt_succ_self _,(ZI (d + (1:Int))),hF,by kernel_rfl,by kernel_rfl⟩
   ·refine AWP.exit (LeQ.start (LeQ.pk [2] 3 ?_))
    exact(.inl ⟨rfl,(someb hF).symm,by kernel_rfl,by kernel_rfl⟩)
 ·rintro _ _ _ (⟨rfl,rfl,rfl,rfl⟩ | ⟨rfl,a0,rfl,hq⟩)
  ·refine AWP.seq ?_
   obtain⟨q,z,hF⟩:=bindb hF
   refine AWP.rg0 [(1,.call Tryz.func86 [] (Za7 a q z))] [(4,(vb q))] (AWP.ret ?_)
   have hr:=someb hF
   subst hr
   exact(FnQ.f0 0 (.inr rfl))
  ·have hr:=someb hF
   subst hr
   exact hq
def Zf2 (r:Int):PV→List Blk→Prop:=fun p K=>p=(i64 r)∧K=[]
abbrev Zj8 (r:Int):Exit→St→List Blk→Prop:=FnQ Tryz.prog Tryz.f67.results 0 (Zf2 r)
theorem Zj9 (a:(List Zp)) (c:Zc) (r:Int) (hF:Zcz a c=some r):ACall Tryz.prog glob 67 [(slc 13 Zn a),(Zv c)] [] (Zf2 r):=by
 refine ACall.body Tryz.func67 rfl (by kernel_rfl) ?_
 unfold Zcz at hF
 refine AWP.seq (AWP.rg [] [(0,(slc 13 Zn a)),(3,(.ptr 0 0))] [.cells (Ze c)] (AWP.seq (AWP.seq (AWP.rg0 [] [(0,(slc 13 Zn a)),(3,(.ptr 0 0)),(5,(i64 (0:Int)))] ?_))))
 obtain⟨g,p,hF⟩:=bindb hF
 refine AWP.mid (fun e st H=>(e=.normal∧g=(.inl ())∧st=[]∧H=[.cells (Ze c)])∨(e=.ret∧∃ r,g=(.inr r)∧Zj8 r e st H)) ?_ ?_
 ·clear hF
  refine AWP.kp [0,3,5] 1 ?_
  refine AWP.bround (fun n st H=>∃ b,Zbb a c n b=some g∧st=[(0,(slc 13 Zn a)),(3,(.ptr 0 0)),(5,(i64 b))]∧H=[.cells (Ze c)]) fuel ⟨(0:Int),p,by kernel_rfl,by kernel_rfl⟩ ?_
  rintro i st H ⟨b,hF,rfl,rfl⟩
  cases i with
  | zero=>exact noneb hF
  | succ i=>
   rw [Zbb] at hF
   refine AWP.seq (AWP.seq (AWP.rg0 [(2,.len Zn a)] [(0,(slc 13 Zn a)),(3,(.ptr 0 0)),(5,(i64 b)),(9,(vb (decide (b<(List.length a:Int)))))] ?_))
   refine AWP.cif hF (fun q hF=>?_) (fun q hF=>?_)
   ·refine AWP.skip (AWP.seq (AWP.block (AWP.seq ?_)))
    obtain⟨j,k,hF⟩:=bindb hF
    obtain⟨l,m,hF⟩:=bindb hF
    obtain⟨s,f,hF⟩:=bindb hF
    replace f:=someb f
    obtain⟨t,o,hF⟩:=bindb hF
    refine AWP.to [(0,(slc 13 Zn a)),(3,(.ptr 0 0)),(5,(i64 b)),(25,(vb t))] [.cells (Ze c)] ?_ ?_
    ·cases s with
     | false=>
      have u:=someb (ifF o rfl)
      subst u
      exact AWP.drT [(2,.idx Zn k),(4,.call Tryz.func64 [] (Zc4 j l m)),(5,.bool f)] 14 [] [] []
     | true=>
      have d:=ifT o rfl
      obtain⟨v,w,d⟩:=bindb d
      obtain⟨x,y,d⟩:=bindb d
      replace d:=someb d
      subst d
      exact AWP.drT [(2,.idx Zn k),(4,.call Tryz.func64 [] (Zc4 j l m)),(5,.bool f),(8,.idx Zn w),(12,.call Tryz.func65 [] (Ze1 v.Match c x y))] 14 [] [] []
    refine AWP.cif hF (fun z hF=>?_) (fun z hF=>?_)
    ·refine AWP.seq (AWP.rg0 [] [(4,(i64 b))] (AWP.ret ?_))
     exact LeQ.of (.inr ⟨rfl,b,(someb hF).symm,(FnQ.f0 0 (.inr rfl))⟩)
    ·refine AWP.skip (AWP.rg0 [] [(0,(slc 13 Zn a)),(3,(.ptr 0 0)),(5,(i64 (ZI (b + (1:Int)))))] (LeQ.start (LeQ.pk [0,3,5] 1 ?_)))
     exact⟨i,Nat.lt_succ_self _,(ZI (b + (1:Int))),hF,by kernel_rfl,by kernel_rfl⟩
   ·refine AWP.exit (LeQ.start (LeQ.pk [] 1 ?_))
    exact(.inl ⟨rfl,(someb hF).symm,by kernel_rfl,by kernel_rfl⟩)
 ·rintro _ _ _ (⟨rfl,rfl,rfl,rfl⟩ | ⟨rfl,a0,rfl,hq⟩)
  ·refine AWP.seq (AWP.rg0 [] [(4,(i64 (-1:Int)))] (AWP.ret ?_))
   have hr:=someb hF
   subst hr
   exact(FnQ.f0 0 (.inr rfl))
  ·have hr:=someb hF
   subst hr
   exact hq
def Zl4 (r:ZB):PV→List Blk→Prop:=fun p K=>p=(Zz r)∧K=[]
theorem Zl5 (a:Zp) (b:ZB) (r:ZB) (hF:Zfg a b=some r):ACall Tryz.prog glob 88 [(Zeu a),(Zz b)] [] (Zl4 r):=by
 refine ACall.body Tryz.func88 rfl (by kernel_rfl) ?_
 unfold Zfg at hF
 refine AWP.seq (AWP.rg [] [(2,(.ptr 0 0)),(3,(.ptr 1 0)),(4,(.ptr 2 0))] [.cells (Zn a),.cells (Zd b),.cells (Zd Zr)] (AWP.seq (AWP.dr [] 9 [] [8] [] [(3,(.ptr 1 0)),(4,(.ptr 2 0))] [.cells (Zn a),.cells (Zd ({ ({ b with x0:=(Zj.mk a.Addr a.Addr) }:ZB) with x3:=a.Ports }:ZB)),.cells (Zd Zr)] (AWP.seq (AWP.rg [] [(4,(.ptr 2 0))] [.cells (Zn a),.cells (Zd ({ ({ b with x0:=(Zj.mk a.Addr a.Addr) }:ZB) with x3:=a.Ports }:ZB)),.cells (Zd ({ ({ b with x0:=(Zj.mk a.Addr a.Addr) }:ZB) with x3:=a.Ports }:ZB))] (AWP.ret ?_))))))
 have hr:=someb hF
 subst hr
 exact(FnQ.f0 0 (.inr rfl))
def Zl6 (r:ZB):PV→List Blk→Prop:=fun p K=>p=(Zz r)∧K=[]
theorem Zl7 (a:Zp) (b:Zc) (r:ZB) (hF:Zd0 a b=some r):ACall Tryz.prog glob 69 [(Zeu a),(Zv b)] [] (Zl6 r):=by
 refine ACall.body Tryz.func69 rfl (by kernel_rfl) ?_
 unfold Zd0 at hF
 refine AWP.seq (AWP.rg [] [(2,(.ptr 0 0)),(3,(.ptr 1 0)),(4,(.ptr 2 0))] [.cells (Zn a),.cells (Ze b),.cells (Zd Zr)] (AWP.seq (AWP.seq ?_)))
 obtain⟨f,g,hF⟩:=bindb hF
 obtain⟨m,d,hF⟩:=bindb hF
 replace d:=someb d
 obtain⟨n,i,hF⟩:=bindb hF
 refine AWP.to [(2,(.ptr 0 0)),(3,(.ptr 1 0)),(4,(.ptr 2 0)),(14,(vb n))] [.cells (Zn a),.cells (Ze b),.cells (Zd Zr)] ?_ ?_
 ·cases m with
  | false=>
   have c:=ifF i rfl
   obtain⟨o,p,c⟩:=bindb c
   replace c:=someb c
   subst c
   exact AWP.rgT [(1,.call Tryz.func64 [] (Zc4 a f g)),(3,.bool d),(7,.call Tryz.func65 [] (Ze1 a.Match b o p))]
  | true=>
   have q:=someb (ifT i rfl)
   subst q
   exact AWP.rgT [(1,.call Tryz.func64 [] (Zc4 a f g)),(3,.bool d)]
 refine AWP.cif hF (fun s hF=>?_) (fun s hF=>?_)
 ·refine AWP.seq ?_
  obtain⟨j,t,hF⟩:=bindb hF
  refine AWP.rg [(1,.call Tryz.func68 [] (Ze0 b j t))] [(4,(.ptr 2 0))] [.cells (Zn a),.cells (Ze b),.cells (Zd j)] (AWP.ret ?_)
  have hr:=someb hF
  subst hr
  exact(FnQ.f0 0 (.inr rfl))
 ·refine AWP.skip (AWP.seq ?_)
  obtain⟨k,u,hF⟩:=bindb hF
  obtain⟨l,v,hF⟩:=bindb hF
  refine AWP.dr [(2,.call Tryz.func68 [] (Ze0 b k u)),(3,.call Tryz.func88 [] (Zl5 a k l v))] 4 [] [] [] [(4,(.ptr 2 0))] [.cells (Zn a),.cells (Ze b),.cells (Zd l)] (AWP.ret ?_)
  have hr:=someb hF
  subst hr
  exact(FnQ.f0 0 (.inr rfl))
def Zm7 (r:ZB):PV→List Blk→Prop:=fun p K=>p=(Zz r)∧K=[]
theorem Zib (b:ZB) (a:Int) (r:ZB) (hF:Zdi b a=some r):ACall Tryz.prog glob 71 [(Zz b),(u32 a)] [] (Zm7 r):=by
 refine ACall.body Tryz.func71 rfl (by kernel_rfl) ?_
 unfold Zdi at hF
 refine AWP.seq (AWP.rg [] [(1,(u32 a)),(2,(.ptr 0 0)),(4,(.ptr 1 0))] [.cells (Zd b),.cells (Zd Zr)] (AWP.seq (AWP.rg [] [(2,(.ptr 0 0)),(4,(.ptr 1 0))] [.cells (Zd ({ b with x3:=(Zj.mk a a) }:ZB)),.cells (Zd Zr)] (AWP.seq (AWP.rg [] [(4,(.ptr 1 0))] [.cells (Zd ({ b with x3:=(Zj.mk a a) }:ZB)),.cells (Zd ({ b with x3:=(Zj.mk a a) }:ZB))] (AWP.ret ?_))))))
 have hr:=someb hF
 subst hr
 exact(FnQ.f0 0 (.inr rfl))
def Zka (r:(ZB × Bool)):PV→List Blk→Prop:=fun p K=>p=(.tup [(Zz r.1),(vb r.2)])∧K=[]
theorem Zkb (a:ZB) (c:ZB) (r:(ZB × Bool)) (hF:Zc0 a c=some r):ACall Tryz.prog glob 89 [(Zz a),(Zz c)] [] (Zka r):=by
 refine ACall.body Tryz.func89 rfl (by kernel_rfl) ?_
 unfold Zc0 at hF
 refine AWP.seq (AWP.rg [] [(2,(.ptr 0 0)),(3,(.ptr 1 0)),(4,(.ptr 2 0))] [.cells (Zd a),.cells (Zd c),.cells (Zd Zr)] (AWP.seq (AWP.rg [] [(2,(.ptr 0 0)),(3,(.ptr 1 0)),(4,(.ptr 2 0)),(6,(.ptr 3 0))] [.cells (Zd a),.cells (Zd c),.cells (Zd Zr),.cells (Zd Zr)] (AWP.seq (AWP.seq (AWP.rg0 [] [(2,(.ptr 0 0)),(3,(.ptr 1 0)),(4,(.ptr 2 0)),(6,(.ptr 3 0)),(7,(i64 (0:Int)))] ?_))))))
 obtain⟨d,z,hF⟩:=bindb hF
 refine AWP.mid (fun e st H=>e=.normal∧st=[(2,(.ptr 0 0)),(3,(.ptr 1 0)),(4,(.ptr 2 0)),(6,(.ptr 3 0))]∧H=[.cells (Zd a),.cells (Zd c),.cells (Zd Zr),.cells (Zd d)]) ?_ ?_
 ·clear hF
  refine AWP.kp [2,3,4,6,7] 4 ?_
  refine AWP.bround (fun n st H=>∃ f,∃ b,Zaw a c n f b=some d∧st=[(2,(.ptr 0 0)),(3,(.ptr 1 0)),(4,(.ptr 2 0)),(6,(.ptr 3 0)),(7,(i64 b))]∧H=[.cells (Zd a),.cells (Zd c),.cells (Zd Zr),.cells (Zd f)]) fuel ⟨Zr,(0:Int),z,by kernel_rfl,by kernel_rfl⟩ ?_
  rintro l st H ⟨f,b,hF,rfl,rfl⟩
  cases l with
  | zero=>exact noneb hF
  | succ l=>
   rw [Zaw] at hF
   refine AWP.seq (AWP.seq (AWP.rg0 [] [(2,(.ptr 0 0)),(3,(.ptr 1 0)),(4,(.ptr 2 0)),(6,(.ptr 3 0)),(7,(i64 b)),(9,(vb (decide (b<(5:Int)))))] ?_))
   refine AWP.cif hF (fun a0 hF=>?_) (fun a0 hF=>?_)
   ·refine AWP.skip (AWP.seq (AWP.block ?_))
    obtain⟨q,hF⟩:=chkb hF
    obtain⟨s,hF⟩:=chkb hF
    obtain⟨t,hF⟩:=chkb hF
    obtain⟨u,hF⟩:=chkb hF
    obtain⟨v,hF⟩:=chkb hF
    refine AWP.dr [(2,.ixd q),(4,.ldA Zx (Arr5.get a) 0 2 0 q),(6,.ixd s),(8,.ldA Zx (Arr5.get c) 0 2 0 s),(11,.ixd t),(13,.ldA Zx (Arr5.get a) 0 2 1 t),(15,.ixd u),(17,.ldA Zx (Arr5.get c) 0 2 1 u),(20,.ixd v),(21,.stA (fun a1=>Zd (Arr5.set f a1 (Zj.mk (iMax ((Arr5.get a b).Lo) ((Arr5.get c b).Lo)) (iMin ((Arr5.get a b).Hi) ((Arr5.get c b).Hi))))) 0 2 0 v)] 20 [] [] [] [(2,(.ptr 0 0)),(3,(.ptr 1 0)),(4,(.ptr 2 0)),(6,(.ptr 3 0)),(7,(i64 b))] [.cells (Zd a),.cells (Zd c),.cells (Zd Zr),.cells (Zd (Arr5.set f b (Zj.mk (iMax ((Arr5.get a b).Lo) ((Arr5.get c b).Lo)) (iMin ((Arr5.get a b).Hi) ((Arr5.get c b).Hi)))))] (AWP.rg0 [] [(2,(.ptr 0 0)),(3,(.ptr 1 0)),(4,(.ptr 2 0)),(6,(.ptr 3 0)),(7,(i64 (ZI (b + (1:Int)))))] (LeQ.start (LeQ.pk [2,3,4,6,7] 4 ?_)))
    exact⟨l,Nat.lt_succ_self _,(Arr5.set f b (Zj.mk (iMax ((Arr5.get a b).Lo) ((Arr5.get c b).Lo)) (iMin ((Arr5.get a b).Hi) ((Arr5.get c b).Hi)))),(ZI (b + (1:Int))),hF,by kernel_rfl,by kernel_rfl⟩
   ·refine AWP.exit (LeQ.start (LeQ.pk [2,3,4,6] 4 ?_))
    have hr:=someb hF
    subst hr
    exact⟨rfl,by kernel_rfl,by kernel_rfl⟩
 ·rintro _ _ _ ⟨rfl,rfl,rfl⟩
  refine AWP.seq (AWP.seq ?_)
  obtain⟨m,o,hF⟩:=bindb hF
  obtain⟨a2,g,hF⟩:=bindb hF
  replace g:=someb g
  obtain⟨b1,w,hF⟩:=bindb hF
  obtain⟨a3,i,hF⟩:=bindb hF
  replace i:=someb i
  obtain⟨a4,p,hF⟩:=bindb hF
  refine AWP.to [(4,(.ptr 2 0)),(6,(.ptr 3 0)),(45,(vb a4))] [.cells (Zd a),.cells (Zd c),.cells (Zd Zr),.cells (Zd d)] ?_ ?_
  ·cases a2 with
   | false=>
    have j:=ifF w rfl
    obtain⟨x,y,j⟩:=bindb j
    replace j:=someb j
    subst j
    cases a3 with
    | false=>
     have k:=ifF p rfl
     obtain⟨a5,a6,k⟩:=bindb k
     replace k:=someb k
     subst k
     exact AWP.rgT [(1,.call Tryz.func86 [] (Za7 a m o)),(3,.bool g),(5,.call Tryz.func86 [] (Za7 c x y)),(8,.bool i),(10,.call Tryz.func86 [] (Za7 d a5 a6))]
    | true=>
     have a7:=someb (ifT p rfl)
     subst a7
     exact AWP.rgT [(1,.call Tryz.func86 [] (Za7 a m o)),(3,.bool g),(5,.call Tryz.func86 [] (Za7 c x y)),(8,.bool i)]
   | true=>
    have a8:=someb (ifT w rfl)
    subst a8
    subst i
    have a9:=someb (ifT p rfl)
    subst a9
    exact AWP.rgT [(1,.call Tryz.func86 [] (Za7 a m o)),(3,.bool g)]
  refine AWP.cif hF (fun b0 hF=>?_) (fun b0 hF=>?_)
  ·refine AWP.seq (AWP.rg [] [(4,(.ptr 2 0)),(5,(vb false))] [.cells (Zd a),.cells (Zd c),.cells (Zd (Arr5.mk Zba Zba Zba Zba Zba)),.cells (Zd d)] (AWP.ret ?_))
   have hr:=someb hF
   subst hr
   exact(FnQ.f0 0 (.inr rfl))
  ·refine AWP.skip (AWP.seq (AWP.rg [] [(4,(.ptr 2 0)),(5,(vb true))] [.cells (Zd a),.cells (Zd c),.cells (Zd d),.cells (Zd d)] (AWP.ret ?_)))
   have hr:=someb hF
   subst hr
   exact(FnQ.f0 0 (.inr rfl))
def Zkt (r:ZL):PV→List Blk→Prop:=fun p K=>p=(slc 10 Zd r)∧K=[]
theorem Zku (d:ZB) (f:ZB) (r:ZL) (hF:Zdc d f=some r):ACall Tryz.prog glob 70 [(Zz d),(Zz f)] [] (Zkt r):=by
 refine ACall.body Tryz.func70 rfl (by kernel_rfl) ?_
 unfold Zdc at hF
 refine AWP.seq (AWP.rg [] [(2,(.ptr 0 0)),(3,(.ptr 1 0))] [.cells (Zd d),.cells (Zd f)] (AWP.seq (AWP.seq ?_)))
 obtain⟨u,a8,hF⟩:=bindb hF
 refine AWP.rg0 [(1,.call Tryz.func86 [] (Za7 d u a8))] [(2,(.ptr 0 0)),(3,(.ptr 1 0)),(14,(vb (!u)))] ?_
 refine AWP.cif hF (fun a9 hF=>?_) (fun a9 hF=>?_)
 ·refine AWP.seq (AWP.rg0 [] [(4,nils)] (AWP.ret ?_))
  have hr:=someb hF
  subst hr
  exact(FnQ.f1 0 (.inr rfl) (.inl (.nil 10)))
 ·refine AWP.skip (AWP.seq ?_)
  obtain⟨c,b0,hF⟩:=bindb hF
  refine AWP.rg [(2,.call Tryz.func89 [] (Zkb d f c b0))] [(2,(.ptr 0 0)),(5,(.ptr 2 0)),(6,(vb c.2))] [.cells (Zd d),.cells (Zd f),.cells (Zd c.1)] (AWP.seq (AWP.seq (AWP.rg0 [] [(2,(.ptr 0 0)),(5,(.ptr 2 0)),(22,(vb (!c.2)))] ?_)))
  refine AWP.cif hF (fun b1 hF=>?_) (fun b1 hF=>?_)
  ·refine AWP.seq (AWP.rg0 [] [(4,(slc 10 Zd [d]))] (AWP.ret ?_))
   have hr:=someb hF
   subst hr
   exact(FnQ.f0 0 (.inr rfl))
  ·refine AWP.skip (AWP.seq (AWP.rg0 [] [(2,(.ptr 0 0)),(5,(.ptr 2 0)),(7,nils)] ?_))
   refine AWP.own (H':=[.cells (Zd d),.cells (Zd f),.cells (Zd c.1),bf 10 77 Zd ([]:ZL) false]) (st':=[(7,(.own 3 (List.length ([]:ZL)))),(2,(.ptr 0 0)),(5,(.ptr 2 0))]) 7 10 77 (by kernel_rfl) (by kernel_rfl) (by kernel_rfl) ?_
   refine AWP.pick (st':=[(2,(.ptr 0 0)),(5,(.ptr 2 0)),(7,(.own 3 (List.length ([]:ZL))))]) (ks:=[2,5,7]) (by kernel_rfl) ?_
   refine AWP.seq (AWP.rg [] [(5,(.ptr 2 0)),(7,(.own 3 (List.length ([]:ZL)))),(8,(.ptr 4 0))] [.cells (Zd d),.cells (Zd f),.cells (Zd c.1),bf 10 77 Zd ([]:ZL) false,.cells (Zd d)] (AWP.seq (AWP.seq (AWP.rg0 [] [(5,(.ptr 2 0)),(7,(.own 3 (List.length ([]:ZL)))),(8,(.ptr 4 0)),(9,(i64 (0:Int)))] ?_))))
   obtain⟨v,b2,hF⟩:=bindb hF
   refine AWP.mid (fun e st H=>(e=.normal∧∃ k,∃ p,v=(k,p)∧st=[(7,(.own 3 (List.length k)))]∧H=[.cells (Zd d),.cells (Zd f),.cells (Zd c.1),bf 10 77 Zd k false,.cells (Zd p)])) ?_ ?_
   ·clear hF
    refine AWP.kp [5,7,8,9] 5 ?_
    refine AWP.bround (fun n st H=>∃ g,∃ b,∃ a,Za0 c n g b a=some v∧st=[(5,(.ptr 2 0)),(7,(.own 3 (List.length g))),(8,(.ptr 4 0)),(9,(i64 a))]∧H=[.cells (Zd d),.cells (Zd f),.cells (Zd c.1),bf 10 77 Zd g false,.cells (Zd b)]) fuel ⟨([]:ZL),d,(0:Int),b2,by kernel_rfl,by kernel_rfl⟩ ?_
    rintro q st H ⟨g,b,a,hF,rfl,rfl⟩
    cases q with
    | zero=>exact noneb hF
    | succ q=>
     rw [Za0] at hF
     refine AWP.seq (AWP.seq (AWP.rg0 [] [(5,(.ptr 2 0)),(7,(.own 3 (List.length g))),(8,(.ptr 4 0)),(9,(i64 a)),(27,(vb (decide (a<(5:Int)))))] ?_))
     refine AWP.cif hF (fun b3 hF=>?_) (fun b3 hF=>?_)
     ·refine AWP.skip ?_
      obtain⟨m,b4,hF⟩:=bindb hF
      refine AWP.seq ?_
      refine AWP.mid (fun e st H=>e=.normal∧st=[(5,(.ptr 2 0)),(7,(.own 3 (List.length m))),(8,(.ptr 4 0)),(9,(i64 a))]∧H=[.cells (Zd d),.cells (Zd f),.cells (Zd c.1),bf 10 77 Zd m false,.cells (Zd (Arr5.set b a (Arr5.get c.1 a)))]) ?_ ?_
      ·clear hF
       have hF:=b4
       refine AWP.block ?_
       obtain⟨j,b5,hF⟩:=bindb hF
       refine AWP.seq ?_
       refine AWP.mid (fun e st H=>e=.normal∧st=[(5,(.ptr 2 0)),(7,(.own 3 (List.length j))),(8,(.ptr 4 0)),(9,(i64 a))]∧H=[.cells (Zd d),.cells (Zd f),.cells (Zd c.1),bf 10 77 Zd j false,.cells (Zd b)]) ?_ ?_
       ·clear hF
        have hF:=b5
        refine AWP.seq ?_
        obtain⟨w,hF⟩:=chkb hF
        obtain⟨x,hF⟩:=chkb hF
        refine AWP.dr [(1,.ixd w),(3,.ldA Zx (Arr5.get b) 0 2 0 w),(5,.ixd x),(7,.ldA Zx (Arr5.get c.1) 0 2 0 x)] 9 [] [] [] [(5,(.ptr 2 0)),(7,(.own 3 (List.length g))),(8,(.ptr 4 0)),(9,(i64 a)),(38,(vb (decide ((Arr5.get b a).Lo<(Arr5.get c.1 a).Lo))))] [.cells (Zd d),.cells (Zd f),.cells (Zd c.1),bf 10 77 Zd g false,.cells (Zd b)] ?_
        refine AWP.cif hF (fun b6 hF=>?_) (fun b6 hF=>?_)
        ·refine AWP.seq (AWP.rg [] [(5,(.ptr 2 0)),(7,(.own 3 (List.length g))),(8,(.ptr 4 0)),(9,(i64 a)),(10,(.ptr 5 0))] [.cells (Zd d),.cells (Zd f),.cells (Zd c.1),bf 10 77 Zd g false,.cells (Zd b),.cells (Zd b)] (AWP.seq ?_))
         obtain⟨y,hF⟩:=chkb hF
         obtain⟨z,hF⟩:=chkb hF
         refine AWP.rg [(2,.ixd y),(4,.ldA Zx (Arr5.get c.1) 0 2 0 y),(6,.ixd z),(8,.stA (fun a0=>Zd (Arr5.set b a0 ({ (Arr5.get b a0) with Hi:=(IntKind.wrap .u32 ((Arr5.get c.1 a).Lo - (1:Int))) }:Zj))) 0 2 1 z)] [(5,(.ptr 2 0)),(7,(.own 3 (List.length g))),(8,(.ptr 4 0)),(9,(i64 a)),(10,(.ptr 5 0))] [.cells (Zd d),.cells (Zd f),.cells (Zd c.1),bf 10 77 Zd g false,.cells (Zd b),.cells (Zd (Arr5.set b a ({ (Arr5.get b a) with Hi:=(IntKind.wrap .u32 ((Arr5.get c.1 a).Lo - (1:Int))) }:Zj)))] ?_
         obtain⟨b7,hF⟩:=chkb hF
         refine AWP.rg [(3,.app Zd (fun _=>by kernel_rfl) b7)] [(5,(.ptr 2 0)),(7,(.own 3 (List.length (g++[(Arr5.set b a ({ (Arr5.get b a) with Hi:=(IntKind.wrap .u32 ((Arr5.get c.1 a).Lo - (1:Int))) }:Zj))])))),(8,(.ptr 4 0)),(9,(i64 a))] [.cells (Zd d),.cells (Zd f),.cells (Zd c.1),bf 10 77 Zd (g++[(Arr5.set b a ({ (Arr5.get b a) with Hi:=(IntKind.wrap .u32 ((Arr5.get c.1 a).Lo - (1:Int))) }:Zj))]) false,.cells (Zd b),.cells (Zd (Arr5.set b a ({ (Arr5.get b a) with Hi:=(IntKind.wrap .u32 ((Arr5.get c.1 a).Lo - (1:Int))) }:Zj)))] (LeQ.start (LeQ.pk [5,7,8,9] 5 ?_))
         have hr:=someb hF
         subst hr
         exact⟨rfl,by kernel_rfl,by kernel_rfl⟩
        ·refine AWP.skip (LeQ.start (LeQ.pk [5,7,8,9] 5 ?_))
         have hr:=someb hF
         subst hr
         exact⟨rfl,by kernel_rfl,by kernel_rfl⟩
       ·rintro _ _ _ ⟨rfl,rfl,rfl⟩
        obtain⟨o,b8,hF⟩:=bindb hF
        refine AWP.seq ?_
        refine AWP.mid (fun e st H=>e=.normal∧st=[(5,(.ptr 2 0)),(7,(.own 3 (List.length o))),(8,(.ptr 4 0)),(9,(i64 a))]∧H=[.cells (Zd d),.cells (Zd f),.cells (Zd c.1),bf 10 77 Zd o false,.cells (Zd b)]) ?_ ?_
        ·clear hF
         have hF:=b8
         refine AWP.seq ?_
         obtain⟨a1,hF⟩:=chkb hF
         obtain⟨a2,hF⟩:=chkb hF
         refine AWP.dr [(1,.ixd a1),(3,.ldA Zx (Arr5.get b) 0 2 1 a1),(5,.ixd a2),(7,.ldA Zx (Arr5.get c.1) 0 2 1 a2)] 9 [] [] [] [(5,(.ptr 2 0)),(7,(.own 3 (List.length j))),(8,(.ptr 4 0)),(9,(i64 a)),(60,(vb (decide ((Arr5.get b a).Hi > (Arr5.get c.1 a).Hi))))] [.cells (Zd d),.cells (Zd f),.cells (Zd c.1),bf 10 77 Zd j false,.cells (Zd b)] ?_
         refine AWP.cif hF (fun b9 hF=>?_) (fun b9 hF=>?_)
         ·refine AWP.seq (AWP.rg [] [(5,(.ptr 2 0)),(7,(.own 3 (List.length j))),(8,(.ptr 4 0)),(9,(i64 a)),(11,(.ptr 5 0))] [.cells (Zd d),.cells (Zd f),.cells (Zd c.1),bf 10 77 Zd j false,.cells (Zd b),.cells (Zd b)] (AWP.seq ?_))
          obtain⟨a3,hF⟩:=chkb hF
          obtain⟨a4,hF⟩:=chkb hF
          refine AWP.rg [(2,.ixd a3),(4,.ldA Zx (Arr5.get c.1) 0 2 1 a3),(6,.ixd a4),(8,.stA (fun a5=>Zd (Arr5.set b a5 ({ (Arr5.get b a5) with Lo:=(IntKind.wrap .u32 ((Arr5.get c.1 a).Hi + (1:Int))) }:Zj))) 0 2 0 a4)] [(5,(.ptr 2 0)),(7,(.own 3 (List.length j))),(8,(.ptr 4 0)),(9,(i64 a)),(11,(.ptr 5 0))] [.cells (Zd d),.cells (Zd f),.cells (Zd c.1),bf 10 77 Zd j false,.cells (Zd b),.cells (Zd (Arr5.set b a ({ (Arr5.get b a) with Lo:=(IntKind.wrap .u32 ((Arr5.get c.1 a).Hi + (1:Int))) }:Zj)))] ?_
          obtain⟨c0,hF⟩:=chkb hF
          refine AWP.rg [(3,.app Zd (fun _=>by kernel_rfl) c0)] [(5,(.ptr 2 0)),(7,(.own 3 (List.length (j++[(Arr5.set b a ({ (Arr5.get b a) with Lo:=(IntKind.wrap .u32 ((Arr5.get c.1 a).Hi + (1:Int))) }:Zj))])))),(8,(.ptr 4 0)),(9,(i64 a))] [.cells (Zd d),.cells (Zd f),.cells (Zd c.1),bf 10 77 Zd (j++[(Arr5.set b a ({ (Arr5.get b a) with Lo:=(IntKind.wrap .u32 ((Arr5.get c.1 a).Hi + (1:Int))) }:Zj))]) false,.cells (Zd b),.cells (Zd (Arr5.set b a ({ (Arr5.get b a) with Lo:=(IntKind.wrap .u32 ((Arr5.get c.1 a).Hi + (1:Int))) }:Zj)))] (LeQ.start (LeQ.pk [5,7,8,9] 5 ?_))
          have hr:=someb hF
          subst hr
          exact⟨rfl,by kernel_rfl,by kernel_rfl⟩
         ·refine AWP.skip (LeQ.start (LeQ.pk [5,7,8,9] 5 ?_))
          have hr:=someb hF
          subst hr
          exact⟨rfl,by kernel_rfl,by kernel_rfl⟩
        ·rintro _ _ _ ⟨rfl,rfl,rfl⟩
         obtain⟨a6,hF⟩:=chkb hF
         obtain⟨a7,hF⟩:=chkb hF
         refine AWP.rg [(2,.ixd a6),(3,.ldA Zx (Arr5.get c.1) 0 2 0 a6),(4,.ixd a7),(5,.stA (fun c1=>Zd (Arr5.set b c1 (Arr5.get c.1 a))) 0 2 0 a7)] [(5,(.ptr 2 0)),(7,(.own 3 (List.length o))),(8,(.ptr 4 0)),(9,(i64 a))] [.cells (Zd d),.cells (Zd f),.cells (Zd c.1),bf 10 77 Zd o false,.cells (Zd (Arr5.set b a (Arr5.get c.1 a)))] (LeQ.start (LeQ.pk [5,7,8,9] 5 ?_))
         have hr:=someb hF
         subst hr
         exact⟨rfl,by kernel_rfl,by kernel_rfl⟩
      ·rintro _ _ _ ⟨rfl,rfl,rfl⟩
       refine AWP.rg0 [] [(5,(.ptr 2 0)),(7,(.own 3 (List.length m))),(8,(.ptr 4 0)),(9,(i64 (ZI (a + (1:Int)))))] (LeQ.start (LeQ.pk [5,7,8,9] 5 ?_))
       exact⟨q,Nat.lt_succ_self _,m,(Arr5.set b a (Arr5.get c.1 a)),(ZI (a + (1:Int))),hF,by kernel_rfl,by kernel_rfl⟩
     ·refine AWP.exit (LeQ.start (LeQ.pk [7] 5 ?_))
      exact⟨rfl,g,b,(someb hF).symm,by kernel_rfl,by kernel_rfl⟩
   ·rintro _ _ _ ⟨rfl,k,p,rfl,rfl,rfl⟩
    refine AWP.seq (AWP.rg0 [] [(4,(.own 3 (List.length k)))] (AWP.ret ?_))
    have hr:=someb hF
    subst hr
    exact(FnQ.f1 0 (.inr rfl) (.inl (Wk.ownT (i:=3) (s:=10) (t:=77) (l:=k) (sh:=false) (row:=Zd) (by kernel_rfl) (.inl rfl))))
def Zfn (r:ZL):PV→List Blk→Prop:=fun p K=>p=(slc 10 Zd r)∧K=[]
abbrev Ziw (r:ZL):Exit→St→List Blk→Prop:=FnQ Tryz.prog Tryz.f47.results 0 (Zfn r)
theorem Zix (c:(List Zp)) (a:Zc) (r:ZL) (hF:Zbw c a=some r):ACall Tryz.prog glob 47 [(slc 13 Zn c),(Zv a)] [] (Zfn r):=by
 refine ACall.body Tryz.func47 rfl (by kernel_rfl) ?_
 unfold Zbw at hF
 refine AWP.seq (AWP.rg [] [(0,(slc 13 Zn c)),(3,(.ptr 0 0))] [.cells (Ze a)] (AWP.seq ?_))
 obtain⟨d,l,hF⟩:=bindb hF
 refine AWP.rg0 [(2,.call Tryz.func67 [] (Zj9 c a d l))] [(0,(slc 13 Zn c)),(3,(.ptr 0 0)),(5,(i64 d))] (AWP.seq (AWP.seq (AWP.rg0 [] [(0,(slc 13 Zn c)),(3,(.ptr 0 0)),(5,(i64 d)),(11,(vb (decide (d<(0:Int)))))] ?_)))
 refine AWP.cif hF (fun m hF=>?_) (fun m hF=>?_)
 ·refine AWP.seq ?_
  obtain⟨g,n,hF⟩:=bindb hF
  refine AWP.rg0 [(1,.call Tryz.func68 [] (Ze0 a g n))] [(4,(slc 10 Zd [g]))] (AWP.ret ?_)
  have hr:=someb hF
  subst hr
  exact(FnQ.f0 0 (.inr rfl))
 ·refine AWP.skip (AWP.seq ?_)
  obtain⟨o,p,hF⟩:=bindb hF
  obtain⟨b,q,hF⟩:=bindb hF
  refine AWP.dr [(2,.idx Zn p),(5,.call Tryz.func69 [] (Zl7 o a b q))] 7 [] [6] [] [(3,(.ptr 0 0)),(6,(.ptr 1 0))] [.cells (Ze a),.cells (Zd b)] ?_
  obtain⟨i,s,hF⟩:=bindb hF
  refine AWP.seq ?_
  refine AWP.mid (fun e st H=>(e=.normal∧i=(.inl ())∧st=[(6,(.ptr 1 0))]∧H=[.cells (Ze a),.cells (Zd b)])∨(e=.ret∧∃ r,i=(.inr r)∧Ziw r e st H)) ?_ ?_
  ·clear hF
   have hF:=s
   refine AWP.seq (AWP.rg0 [] [(6,(.ptr 1 0)),(22,(u8 a.Proto))] (AWP.block ?_))
   obtain⟨t,u,hF⟩:=bindb hF
   refine AWP.seq ?_
   refine AWP.mid (fun e st H=>e=.normal∧st=[(6,(.ptr 1 0)),(22,(u8 a.Proto)),(23,(vb t))]∧H=[.cells (Ze a),.cells (Zd b)]) ?_ ?_
   ·clear hF
    have hF:=u
    refine AWP.seq (AWP.rg0 [] [(6,(.ptr 1 0)),(22,(u8 a.Proto)),(23,(vb (a.Proto == (6:Int))))] ?_)
    refine AWP.cif hF (fun v hF=>?_) (fun v hF=>?_)
    ·refine AWP.skip (LeQ.start (LeQ.pk [6,22,23] 2 ?_))
     have hr:=someb hF
     subst hr
     exact⟨rfl,by kernel_rfl,by kernel_rfl⟩
    ·refine AWP.rg0 [] [(6,(.ptr 1 0)),(22,(u8 a.Proto)),(23,(vb (a.Proto == (17:Int))))] (LeQ.start (LeQ.pk [6,22,23] 2 ?_))
     have hr:=someb hF
     subst hr
     exact⟨rfl,by kernel_rfl,by kernel_rfl⟩
   ·rintro _ _ _ ⟨rfl,rfl,rfl⟩
    refine AWP.cif hF (fun w hF=>?_) (fun w hF=>?_)
    ·refine AWP.seq (AWP.rg0 [] [(4,(slc 10 Zd [b]))] (AWP.ret ?_))
     exact LeQ.of (.inr ⟨rfl,[b],(someb hF).symm,(FnQ.f0 0 (.inr rfl))⟩)
    ·refine AWP.seq (AWP.rg0 [] [(6,(.ptr 1 0)),(28,(vb (a.Proto == (1:Int))))] ?_)
     refine AWP.cif hF (fun x hF=>?_) (fun x hF=>?_)
     ·refine AWP.seq ?_
      obtain⟨j,y,hF⟩:=bindb hF
      obtain⟨f,z,hF⟩:=bindb hF
      refine AWP.dr [(2,.call Tryz.func71 [] (Zib b (8:Int) j y)),(3,.call Tryz.func70 [] (Zku b j f z))] 4 [] [] [] [(4,(slc 10 Zd f))] [.cells (Ze a),.cells (Zd b)] (AWP.ret ?_)
      exact LeQ.of (.inr ⟨rfl,f,(someb hF).symm,(FnQ.f0 0 (.inr rfl))⟩)
     ·refine AWP.skip (LeQ.start (LeQ.pk [6] 2 ?_))
      exact(.inl ⟨rfl,(someb hF).symm,by kernel_rfl,by kernel_rfl⟩)
  ·rintro _ _ _ (⟨rfl,rfl,rfl,rfl⟩ | ⟨rfl,a1,rfl,hq⟩)
   ·refine AWP.seq ?_
    obtain⟨k,a0,hF⟩:=bindb hF
    refine AWP.rg0 [(1,.call Tryz.func71 [] (Zib b (0:Int) k a0))] [(4,(slc 10 Zd [k]))] (AWP.ret ?_)
    have hr:=someb hF
    subst hr
    exact(FnQ.f0 0 (.inr rfl))
   ·have hr:=someb hF
    subst hr
    exact hq
def Zfo (a:Zk) (r:Bool):PV→List Blk→Prop:=fun p K=>p=(vb r)∧K=[.cells (Zi a)]
abbrev Ziy (a:Zk) (r:Bool):Exit→St→List Blk→Prop:=FnQ Tryz.prog Tryz.f66.results 1 (Zfo a r)
theorem Ziz (a:Zk) (c:Zc) (d:Zc) (r:Bool) (hF:Zcn a c d=some r):ACall Tryz.prog glob 66 [(.ptr 0 0),(Zv c),(Zv d)] [.cells (Zi a)] (Zfo a r):=by
 refine ACall.body Tryz.func66 rfl (by kernel_rfl) ?_
 unfold Zcn at hF
 refine AWP.seq (AWP.rg [] [(0,(.ptr 0 0)),(4,(.ptr 1 0)),(5,(.ptr 2 0))] [.cells (Zi a),.cells (Ze c),.cells (Ze d)] (AWP.seq (AWP.seq (AWP.rg0 [] [(0,(.ptr 0 0)),(4,(.ptr 1 0)),(5,(.ptr 2 0)),(7,(i64 (0:Int)))] ?_))))
 obtain⟨k,s,hF⟩:=bindb hF
 refine AWP.mid (fun e st H=>(e=.normal∧k=(.inl ())∧st=[]∧H=[.cells (Zi a),.cells (Ze c),.cells (Ze d)])∨(e=.ret∧∃ r,k=(.inr r)∧Ziy a r e st H)) ?_ ?_
 ·clear hF
  refine AWP.kp [0,4,5,7] 3 ?_
  refine AWP.bround (fun n st H=>∃ b,Zay a c d n b=some k∧st=[(0,(.ptr 0 0)),(4,(.ptr 1 0)),(5,(.ptr 2 0)),(7,(i64 b))]∧H=[.cells (Zi a),.cells (Ze c),.cells (Ze d)]) fuel ⟨(0:Int),s,by kernel_rfl,by kernel_rfl⟩ ?_
  rintro l st H ⟨b,hF,rfl,rfl⟩
  cases l with
  | zero=>exact noneb hF
  | succ l=>
   rw [Zay] at hF
   refine AWP.seq (AWP.seq (AWP.rg0 [(5,.len Zb a.L)] [(0,(.ptr 0 0)),(4,(.ptr 1 0)),(5,(.ptr 2 0)),(7,(i64 b)),(14,(vb (decide (b<(List.length a.L:Int)))))] ?_))
   refine AWP.cif hF (fun t hF=>?_) (fun t hF=>?_)
   ·refine AWP.skip (AWP.seq (AWP.block (AWP.seq ?_)))
    obtain⟨a2,m,hF⟩:=bindb hF
    obtain⟨u,f,hF⟩:=bindb hF
    replace f:=someb f
    obtain⟨a3,p,hF⟩:=bindb hF
    obtain⟨v,g,hF⟩:=bindb hF
    replace g:=someb g
    obtain⟨w,o,hF⟩:=bindb hF
    refine AWP.to [(0,(.ptr 0 0)),(4,(.ptr 1 0)),(5,(.ptr 2 0)),(7,(i64 b)),(49,(vb w))] [.cells (Zi a),.cells (Ze c),.cells (Ze d)] ?_ ?_
    ·cases u with
     | false=>
      have x:=someb (ifF p rfl)
      subst x
      subst g
      have y:=someb (ifF o rfl)
      subst y
      exact AWP.drT [(5,.idx Zb m),(9,.bool f)] 33 [] [] []
     | true=>
      have i:=ifT p rfl
      obtain⟨a4,q,i⟩:=bindb i
      replace i:=someb i
      subst i
      cases v with
      | false=>
       have z:=someb (ifF o rfl)
       subst z
       exact AWP.drT [(5,.idx Zb m),(9,.bool f),(15,.idx Zb q),(21,.bool g)] 33 [] [] []
      | true=>
       have j:=ifT o rfl
       obtain⟨a5,a0,j⟩:=bindb j
       replace j:=someb j
       subst j
       exact AWP.drT [(5,.idx Zb m),(9,.bool f),(15,.idx Zb q),(21,.bool g),(27,.idx Zb a0)] 33 [] [] []
    refine AWP.cif hF (fun a1 hF=>?_) (fun a1 hF=>?_)
    ·refine AWP.seq (AWP.rg0 [] [(6,(vb true))] (AWP.ret ?_))
     exact LeQ.of (.inr ⟨rfl,true,(someb hF).symm,(FnQ.f0 1 (.inr rfl))⟩)
    ·refine AWP.skip (AWP.rg0 [] [(0,(.ptr 0 0)),(4,(.ptr 1 0)),(5,(.ptr 2 0)),(7,(i64 (ZI (b + (1:Int)))))] (LeQ.start (LeQ.pk [0,4,5,7] 3 ?_)))
     exact⟨l,Nat.lt_succ_self _,(ZI (b + (1:Int))),hF,by kernel_rfl,by kernel_rfl⟩
   ·refine AWP.exit (LeQ.start (LeQ.pk [] 3 ?_))
    exact(.inl ⟨rfl,(someb hF).symm,by kernel_rfl,by kernel_rfl⟩)
 ·rintro _ _ _ (⟨rfl,rfl,rfl,rfl⟩ | ⟨rfl,a6,rfl,hq⟩)
  ·refine AWP.seq (AWP.rg0 [] [(6,(vb false))] (AWP.ret ?_))
   have hr:=someb hF
   subst hr
   exact(FnQ.f0 1 (.inr rfl))
  ·have hr:=someb hF
   subst hr
   exact hq
def Zfa (a:Zk) (r:(Zc × Bool)):PV→List Blk→Prop:=fun p K=>p=(.tup [(Zv r.1),(vb r.2)])∧K=[.cells (Zi a)]
abbrev Zd3 (a:Zk) (r:(Zc × Bool)):Exit→St→List Blk→Prop:=FnQ Tryz.prog Tryz.f46.results 1 (Zfa a r)
theorem Zhv (b:Zk) (c:Za) (g:Int) (a:ZL) (r:(Zc × Bool)) (hF:Zbj b c g a=some r):ACall Tryz.prog glob 46 [(.ptr 0 0),(Z2 c),(i64 g),(slc 10 Zd a)] [.cells (Zi b)] (Zfa b r):=by
 refine ACall.body Tryz.func46 rfl (by kernel_rfl) ?_
 unfold Zbj at hF
 refine AWP.seq (AWP.rg [] [(0,(.ptr 0 0)),(2,(i64 g)),(3,(slc 10 Zd a)),(5,(.ptr 1 0)),(8,(.ptr 2 0))] [.cells (Zi b),.cells (Zb c),.cells (Ze Zl)] (AWP.seq (AWP.seq (AWP.rg0 [] [(0,(.ptr 0 0)),(2,(i64 g)),(3,(slc 10 Zd a)),(5,(.ptr 1 0)),(8,(.ptr 2 0)),(10,(i64 (0:Int)))] ?_))))
 obtain⟨s,a0,hF⟩:=bindb hF
 refine AWP.mid (fun e st H=>(e=.normal∧s=(.inl ())∧st=[(0,(.ptr 0 0)),(3,(slc 10 Zd a)),(5,(.ptr 1 0)),(8,(.ptr 2 0))]∧H=[.cells (Zi b),.cells (Zb c),.cells (Ze Zl)])∨(e=.ret∧∃ r,s=(.inr r)∧Zd3 b r e st H)) ?_ ?_
 ·clear hF
  refine AWP.kp [0,2,3,5,8,10] 3 ?_
  refine AWP.bround (fun n st H=>∃ j,Zaf c g a n j=some s∧st=[(0,(.ptr 0 0)),(2,(i64 g)),(3,(slc 10 Zd a)),(5,(.ptr 1 0)),(8,(.ptr 2 0)),(10,(i64 j))]∧H=[.cells (Zi b),.cells (Zb c),.cells (Ze Zl)]) fuel ⟨(0:Int),a0,by kernel_rfl,by kernel_rfl⟩ ?_
  rintro t st H ⟨j,hF,rfl,rfl⟩
  cases t with
  | zero=>exact noneb hF
  | succ t=>
   rw [Zaf] at hF
   refine AWP.seq (AWP.seq (AWP.rg0 [(2,.len Zd a)] [(0,(.ptr 0 0)),(2,(i64 g)),(3,(slc 10 Zd a)),(5,(.ptr 1 0)),(8,(.ptr 2 0)),(10,(i64 j)),(18,(vb (decide (j<(List.length a:Int)))))] ?_))
   refine AWP.cif hF (fun a1 hF=>?_) (fun a1 hF=>?_)
   ·refine AWP.skip (AWP.seq (AWP.block (AWP.seq ?_)))
    obtain⟨a2,q,hF⟩:=bindb hF
    replace q:=someb q
    obtain⟨a3,y,hF⟩:=bindb hF
    refine AWP.to [(0,(.ptr 0 0)),(2,(i64 g)),(3,(slc 10 Zd a)),(5,(.ptr 1 0)),(8,(.ptr 2 0)),(10,(i64 j)),(33,(vb a3))] [.cells (Zi b),.cells (Zb c),.cells (Ze Zl)] ?_ ?_
    ·cases a2 with
     | false=>
      have a4:=someb (ifF y rfl)
      subst a4
      exact AWP.drT [(4,.bool q)] 13 [] [] []
     | true=>
      have k:=ifT y rfl
      obtain⟨a5,a6,k⟩:=bindb k
      obtain⟨a7,a8,k⟩:=bindb k
      replace k:=someb k
      subst k
      exact AWP.drT [(4,.bool q),(7,.idx Zd a6),(11,.call Tryz.func65 [] (Ze1 a5 c.Delivered a7 a8))] 13 [] [] []
    refine AWP.cif hF (fun a9 hF=>?_) (fun a9 hF=>?_)
    ·refine AWP.seq (AWP.rg [] [(8,(.ptr 2 0)),(9,(vb true))] [.cells (Zi b),.cells (Zb c),.cells (Ze c.Delivered)] (AWP.ret ?_))
     exact LeQ.of (.inr ⟨rfl,(c.Delivered,true),(someb hF).symm,(FnQ.f0 1 (.inr rfl))⟩)
    ·refine AWP.skip (AWP.rg0 [] [(0,(.ptr 0 0)),(2,(i64 g)),(3,(slc 10 Zd a)),(5,(.ptr 1 0)),(8,(.ptr 2 0)),(10,(i64 (ZI (j + (1:Int)))))] (LeQ.start (LeQ.pk [0,2,3,5,8,10] 3 ?_)))
     exact⟨t,Nat.lt_succ_self _,(ZI (j + (1:Int))),hF,by kernel_rfl,by kernel_rfl⟩
   ·refine AWP.exit (LeQ.start (LeQ.pk [0,3,5,8] 3 ?_))
    exact(.inl ⟨rfl,(someb hF).symm,by kernel_rfl,by kernel_rfl⟩)
 ·rintro _ _ _ (⟨rfl,rfl,rfl,rfl⟩ | ⟨rfl,c2,rfl,hq⟩)
  ·refine AWP.seq (AWP.seq (AWP.rg0 [] [(0,(.ptr 0 0)),(3,(slc 10 Zd a)),(5,(.ptr 1 0)),(8,(.ptr 2 0)),(11,(i64 (0:Int)))] ?_))
   obtain⟨u,b0,hF⟩:=bindb hF
   refine AWP.mid (fun e st H=>(e=.normal∧u=(.inl ())∧st=[(8,(.ptr 2 0))]∧H=[.cells (Zi b),.cells (Zb c),.cells (Ze Zl)])∨(e=.ret∧∃ r,u=(.inr r)∧Zd3 b r e st H)) ?_ ?_
   ·clear hF
    refine AWP.kp [0,3,5,8,11] 3 ?_
    refine AWP.bround (fun n st H=>∃ d,Zaq b c a n d=some u∧st=[(0,(.ptr 0 0)),(3,(slc 10 Zd a)),(5,(.ptr 1 0)),(8,(.ptr 2 0)),(11,(i64 d))]∧H=[.cells (Zi b),.cells (Zb c),.cells (Ze Zl)]) fuel ⟨(0:Int),b0,by kernel_rfl,by kernel_rfl⟩ ?_
    rintro v st H ⟨d,hF,rfl,rfl⟩
    cases v with
    | zero=>exact noneb hF
    | succ v=>
     rw [Zaq] at hF
     refine AWP.seq (AWP.seq (AWP.rg0 [(2,.len Zd a)] [(0,(.ptr 0 0)),(3,(slc 10 Zd a)),(5,(.ptr 1 0)),(8,(.ptr 2 0)),(11,(i64 d)),(39,(vb (decide (d<(List.length a:Int)))))] ?_))
     refine AWP.cif hF (fun b1 hF=>?_) (fun b1 hF=>?_)
     ·refine AWP.skip (AWP.seq (AWP.block (AWP.seq ?_)))
      obtain⟨i,b2,hF⟩:=bindb hF
      refine AWP.rg [(2,.idx Zd b2)] [(0,(.ptr 0 0)),(3,(slc 10 Zd a)),(5,(.ptr 1 0)),(8,(.ptr 2 0)),(11,(i64 d)),(12,(.ptr 3 0))] [.cells (Zi b),.cells (Zb c),.cells (Ze Zl),.cells (Zx i.x3)] (AWP.seq (AWP.rg0 [] [(0,(.ptr 0 0)),(3,(slc 10 Zd a)),(5,(.ptr 1 0)),(8,(.ptr 2 0)),(11,(i64 d)),(12,(.ptr 3 0)),(13,(u32 i.x3.Lo))] ?_))
      obtain⟨w,b3,hF⟩:=bindb hF
      refine AWP.mid (fun e st H=>(e=.normal∧w=(.inl ())∧st=[(0,(.ptr 0 0)),(3,(slc 10 Zd a)),(5,(.ptr 1 0)),(8,(.ptr 2 0)),(11,(i64 d))]∧H=[.cells (Zi b),.cells (Zb c),.cells (Ze Zl),.cells (Zx i.x3)])∨(e=.ret∧∃ r,w=(.inr r)∧Zd3 b r e st H)) ?_ ?_
      ·clear hF
       refine AWP.kp [0,3,5,8,11,12,13] 4 ?_
       refine AWP.bround (fun n st H=>∃ f,Zap b c a d i n f=some w∧st=[(0,(.ptr 0 0)),(3,(slc 10 Zd a)),(5,(.ptr 1 0)),(8,(.ptr 2 0)),(11,(i64 d)),(12,(.ptr 3 0)),(13,(u32 f))]∧H=[.cells (Zi b),.cells (Zb c),.cells (Ze Zl),.cells (Zx i.x3)]) fuel ⟨i.x3.Lo,b3,by kernel_rfl,by kernel_rfl⟩ ?_
       rintro x st H ⟨f,hF,rfl,rfl⟩
       cases x with
       | zero=>exact noneb hF
       | succ x=>
        rw [Zap] at hF
        refine AWP.seq (AWP.seq (AWP.rg0 [] [(0,(.ptr 0 0)),(3,(slc 10 Zd a)),(5,(.ptr 1 0)),(8,(.ptr 2 0)),(11,(i64 d)),(12,(.ptr 3 0)),(13,(u32 f)),(52,(vb (decide (f≤i.x3.Hi))))] ?_))
        refine AWP.cif hF (fun b4 hF=>?_) (fun b4 hF=>?_)
        ·refine AWP.skip (AWP.seq (AWP.block (AWP.seq ?_)))
         obtain⟨l,b5,hF⟩:=bindb hF
         obtain⟨m,b6,hF⟩:=bindb hF
         obtain⟨o,b7,hF⟩:=bindb hF
         obtain⟨p,b8,hF⟩:=bindb hF
         refine AWP.dr [(2,.idx Zd b5),(8,.idx Zd b6),(14,.idx Zd b7),(23,.idx Zd b8)] 30 [] [29] [] [(0,(.ptr 0 0)),(3,(slc 10 Zd a)),(5,(.ptr 1 0)),(8,(.ptr 2 0)),(11,(i64 d)),(12,(.ptr 3 0)),(13,(u32 f)),(14,(.ptr 4 0))] [.cells (Zi b),.cells (Zb c),.cells (Ze Zl),.cells (Zx i.x3),.cells (Ze (Zc.mk l.x0.Lo m.x1.Lo (IntKind.wrap .u8 o.x2.Lo) (IntKind.wrap .u16 f) (IntKind.wrap .u16 p.x4.Lo)))] (AWP.seq ?_)
         obtain⟨z,b9,hF⟩:=bindb hF
         refine AWP.rg0 [(4,.call Tryz.func66 [] (Ziz b (Zc.mk l.x0.Lo m.x1.Lo (IntKind.wrap .u8 o.x2.Lo) (IntKind.wrap .u16 f) (IntKind.wrap .u16 p.x4.Lo)) c.Real z b9))] [(0,(.ptr 0 0)),(3,(slc 10 Zd a)),(5,(.ptr 1 0)),(8,(.ptr 2 0)),(11,(i64 d)),(12,(.ptr 3 0)),(13,(u32 f)),(14,(.ptr 4 0)),(89,(vb (!z)))] ?_
         refine AWP.cif hF (fun c0 hF=>?_) (fun c0 hF=>?_)
         ·refine AWP.seq (AWP.rg [] [(8,(.ptr 2 0)),(9,(vb true))] [.cells (Zi b),.cells (Zb c),.cells (Ze (Zc.mk l.x0.Lo m.x1.Lo (IntKind.wrap .u8 o.x2.Lo) (IntKind.wrap .u16 f) (IntKind.wrap .u16 p.x4.Lo))),.cells (Zx i.x3),.cells (Ze (Zc.mk l.x0.Lo m.x1.Lo (IntKind.wrap .u8 o.x2.Lo) (IntKind.wrap .u16 f) (IntKind.wrap .u16 p.x4.Lo)))] (AWP.ret ?_))
          exact LeQ.of (.inr ⟨rfl,((Zc.mk l.x0.Lo m.x1.Lo (IntKind.wrap .u8 o.x2.Lo) (IntKind.wrap .u16 f) (IntKind.wrap .u16 p.x4.Lo)),true),(someb hF).symm,(FnQ.f0 1 (.inr rfl))⟩)
         ·refine AWP.skip (AWP.rg0 [] [(0,(.ptr 0 0)),(3,(slc 10 Zd a)),(5,(.ptr 1 0)),(8,(.ptr 2 0)),(11,(i64 d)),(12,(.ptr 3 0)),(13,(u32 (IntKind.wrap .u32 (f + (1:Int)))))] (LeQ.start (LeQ.pk [0,3,5,8,11,12,13] 4 ?_)))
          exact⟨x,Nat.lt_succ_self _,(IntKind.wrap .u32 (f + (1:Int))),hF,by kernel_rfl,by kernel_rfl⟩
        ·refine AWP.exit (LeQ.start (LeQ.pk [0,3,5,8,11] 4 ?_))
         exact(.inl ⟨rfl,(someb hF).symm,by kernel_rfl,by kernel_rfl⟩)
      ·rintro _ _ _ (⟨rfl,rfl,rfl,rfl⟩ | ⟨rfl,c1,rfl,hq⟩)
       ·refine AWP.rg0 [] [(0,(.ptr 0 0)),(3,(slc 10 Zd a)),(5,(.ptr 1 0)),(8,(.ptr 2 0)),(11,(i64 (ZI (d + (1:Int)))))] (LeQ.start (LeQ.pk [0,3,5,8,11] 3 ?_))
        exact⟨v,Nat.lt_succ_self _,(ZI (d + (1:Int))),hF,by kernel_rfl,by kernel_rfl⟩
       ·exact LeQ.of (.inr ⟨rfl,c1,(someb hF).symm,hq⟩)
     ·refine AWP.exit (LeQ.start (LeQ.pk [8] 3 ?_))
      exact(.inl ⟨rfl,(someb hF).symm,by kernel_rfl,by kernel_rfl⟩)
   ·rintro _ _ _ (⟨rfl,rfl,rfl,rfl⟩ | ⟨rfl,c3,rfl,hq⟩)
    ·refine AWP.seq (AWP.rg [] [(8,(.ptr 2 0)),(9,(vb false))] [.cells (Zi b),.cells (Zb c),.cells (Ze (Zc.mk (0:Int) (0:Int) (0:Int) (0:Int) (0:Int)))] (AWP.ret ?_))
     have hr:=someb hF
     subst hr
     exact(FnQ.f0 1 (.inr rfl))
    ·have hr:=someb hF
     subst hr
     exact hq
  ·have hr:=someb hF
   subst hr
   exact hq
def Zhw (r:(Zc × Int × Zk)):PV→List Blk→Prop:=fun p K=>p=(.tup [(Zv r.1),(i64 r.2.1)])∧K=[.cells (Zi r.2.2)]
theorem Zhx (m:Zk) (c:Int) (a:Zc) (d:ByteArray) (j:(List Zp)) (k:Bool) (g:Int) (r:(Zc × Int × Zk)) (hF:Zb5 m c a d j k g=some r):ACall Tryz.prog glob 20 [(.ptr 0 0),(i64 c),(Zv a),(vstr d),(slc 13 Zn j),(vb k),(i64 g)] [.cells (Zi m)] (Zhw r):=by
 refine ACall.body Tryz.func20 rfl (by kernel_rfl) ?_
 unfold Zb5 at hF
 refine AWP.seq (AWP.rg [] [(0,(.ptr 0 0)),(1,(i64 c)),(3,(vstr d)),(4,(slc 13 Zn j)),(5,(vb k)),(6,(i64 g)),(9,(.ptr 1 0)),(14,(.ptr 2 0))] [.cells (Zi m),.cells (Ze a),.cells (Ze Zl)] (AWP.seq ?_))
 obtain⟨f,v,hF⟩:=bindb hF
 refine AWP.rg [(2,.call Tryz.func27 [] (Zbc m g f v))] [(0,(.ptr 0 0)),(1,(i64 c)),(3,(vstr d)),(4,(slc 13 Zn j)),(5,(vb k)),(6,(i64 g)),(9,(.ptr 1 0)),(14,(.ptr 2 0))] [.cells (Zi f.2),.cells (Ze a),.cells (Ze Zl)] (AWP.seq (AWP.seq ?_))
 obtain⟨w,n,hF⟩:=bindb hF
 replace n:=someb n
 obtain⟨x,q,hF⟩:=bindb hF
 refine AWP.to [(0,(.ptr 0 0)),(1,(i64 c)),(3,(vstr d)),(4,(slc 13 Zn j)),(5,(vb k)),(6,(i64 g)),(9,(.ptr 1 0)),(14,(.ptr 2 0)),(29,(vb x))] [.cells (Zi f.2),.cells (Ze a),.cells (Ze Zl)] ?_ ?_
 ·cases w with
  | false=>
   have l:=ifF q rfl
   obtain⟨y,z,l⟩:=bindb l
   replace l:=someb l
   subst l
   exact AWP.rgT [(2,.bool n),(4,.call Tryz.func45 [] (Zjo j y z))]
  | true=>
   have a0:=someb (ifT q rfl)
   subst a0
   exact AWP.rgT [(2,.bool n)]
 refine AWP.cif hF (fun a1 hF=>?_) (fun a1 hF=>?_)
 ·refine AWP.seq (AWP.rg [] [(14,(.ptr 2 0)),(15,(i64 (1:Int)))] [.cells (Zi f.2),.cells (Ze a),.cells (Ze (Zc.mk (0:Int) (0:Int) (0:Int) (0:Int) (0:Int)))] (AWP.ret ?_))
  have hr:=someb hF
  subst hr
  exact(FnQ.f0 1 (.inr rfl))
 ·refine AWP.skip (AWP.seq ?_)
  obtain⟨b,a2,hF⟩:=bindb hF
  refine AWP.rg [(3,.call Tryz.func39 [] (Zd1 f.2 a k b a2))] [(0,(.ptr 0 0)),(1,(i64 c)),(3,(vstr d)),(4,(slc 13 Zn j)),(5,(vb k)),(6,(i64 g)),(9,(.ptr 1 0)),(14,(.ptr 2 0)),(16,(.ptr 3 0)),(17,(i64 b.2))] [.cells (Zi f.2),.cells (Ze a),.cells (Ze Zl),.cells (Zb b.1)] (AWP.seq (AWP.seq (AWP.rg0 [] [(0,(.ptr 0 0)),(1,(i64 c)),(3,(vstr d)),(4,(slc 13 Zn j)),(5,(vb k)),(6,(i64 g)),(9,(.ptr 1 0)),(14,(.ptr 2 0)),(16,(.ptr 3 0)),(17,(i64 b.2)),(39,(vb (b.2 != (0:Int))))] ?_)))
  refine AWP.cif hF (fun a3 hF=>?_) (fun a3 hF=>?_)
  ·refine AWP.seq (AWP.rg [] [(14,(.ptr 2 0)),(15,(i64 b.2))] [.cells (Zi f.2),.cells (Ze a),.cells (Ze (Zc.mk (0:Int) (0:Int) (0:Int) (0:Int) (0:Int))),.cells (Zb b.1)] (AWP.ret ?_))
   have hr:=someb hF
   subst hr
   exact(FnQ.f0 1 (.inr rfl))
  ·refine AWP.skip (AWP.seq (AWP.seq ?_))
   obtain⟨s,o,hF⟩:=bindb hF
   replace o:=someb o
   refine AWP.to [(0,(.ptr 0 0)),(1,(i64 c)),(3,(vstr d)),(4,(slc 13 Zn j)),(6,(i64 g)),(9,(.ptr 1 0)),(14,(.ptr 2 0)),(16,(.ptr 3 0)),(48,(vb (s && (!k))))] [.cells (Zi f.2),.cells (Ze a),.cells (Ze Zl),.cells (Zb b.1)] ?_ ?_
   ·cases s with
    | false=>
     exact AWP.rgT [(3,.bool o)]
    | true=>
     exact AWP.rgT [(3,.bool o)]
   refine AWP.cif hF (fun a4 hF=>?_) (fun a4 hF=>?_)
   ·refine AWP.seq (AWP.rg [] [(14,(.ptr 2 0)),(15,(i64 (16:Int)))] [.cells (Zi f.2),.cells (Ze a),.cells (Ze (Zc.mk (0:Int) (0:Int) (0:Int) (0:Int) (0:Int))),.cells (Zb b.1)] (AWP.ret ?_))
    have hr:=someb hF
    subst hr
    exact(FnQ.f0 1 (.inr rfl))
   ·refine AWP.skip (AWP.seq ?_)
    obtain⟨t,a5,hF⟩:=bindb hF
    obtain⟨i,a6,hF⟩:=bindb hF
    refine AWP.dr [(5,.call Tryz.func47 [] (Zix j a t a5)),(6,.call Tryz.func46 [] (Zhv f.2 b.1 c t i a6))] 12 [] [10,11] [] [(0,(.ptr 0 0)),(1,(i64 c)),(3,(vstr d)),(6,(i64 g)),(14,(.ptr 2 0)),(16,(.ptr 3 0)),(18,(.ptr 4 0)),(19,(vb i.2))] [.cells (Zi f.2),.cells (Ze a),.cells (Ze Zl),.cells (Zb b.1),.cells (Ze i.1)] (AWP.seq (AWP.seq (AWP.rg0 [] [(0,(.ptr 0 0)),(1,(i64 c)),(3,(vstr d)),(6,(i64 g)),(14,(.ptr 2 0)),(16,(.ptr 3 0)),(18,(.ptr 4 0)),(61,(vb (!i.2)))] ?_)))
    refine AWP.cif hF (fun a7 hF=>?_) (fun a7 hF=>?_)
    ·refine AWP.seq (AWP.rg [] [(14,(.ptr 2 0)),(15,(i64 (9:Int)))] [.cells (Zi f.2),.cells (Ze a),.cells (Ze (Zc.mk (0:Int) (0:Int) (0:Int) (0:Int) (0:Int))),.cells (Zb b.1),.cells (Ze i.1)] (AWP.ret ?_))
     have hr:=someb hF
     subst hr
     exact(FnQ.f0 1 (.inr rfl))
    ·refine AWP.skip (AWP.seq (AWP.dr [] 7 [] [4,6] [] [(0,(.ptr 0 0)),(6,(i64 g)),(14,(.ptr 2 0)),(16,(.ptr 3 0)),(18,(.ptr 4 0))] [.cells (Zi f.2),.cells (Ze a),.cells (Ze Zl),.cells (Zb ({ ({ ({ b.1 with To:=c }:Za) with Delivered:=i.1 }:Za) with Class:=d }:Za)),.cells (Ze i.1)] (AWP.seq ?_)))
     obtain⟨u,a8,hF⟩:=bindb hF
     obtain⟨p,a9,hF⟩:=bindb hF
     refine AWP.rg [(3,.call Tryz.func41 [] (Zdr ({ ({ ({ b.1 with To:=c }:Za) with Delivered:=i.1 }:Za) with Class:=d }:Za) g u a8)),(4,.call Tryz.func40 [] (Zds f.2 u p a9))] [(14,(.ptr 2 0)),(18,(.ptr 4 0))] [.cells (Zi p),.cells (Ze a),.cells (Ze Zl),.cells (Zb ({ ({ ({ b.1 with To:=c }:Za) with Delivered:=i.1 }:Za) with Class:=d }:Za)),.cells (Ze i.1)] (AWP.seq (AWP.rg [] [(14,(.ptr 2 0)),(15,(i64 (0:Int)))] [.cells (Zi p),.cells (Ze a),.cells (Ze i.1),.cells (Zb ({ ({ ({ b.1 with To:=c }:Za) with Delivered:=i.1 }:Za) with Class:=d }:Za)),.cells (Ze i.1)] (AWP.ret ?_)))
     have hr:=someb hF
     subst hr
     exact(FnQ.f0 1 (.inr rfl))
end Go.AM
set_option maxRecDepth 100000
namespace Go.AM
open Go Go.Proofs
def Zfw (a:Int) (b:(List (Zc × Za))) (r:(Za × Int)):PV→List Blk→Prop:=fun p K=>p=(.tup [(Z2 r.1),(i64 r.2)])∧K=[.fm (List.map (entF Zh Zf) b),.cells [(i64 a),(.mp 0)]]
theorem Zfx (c:Int) (a:(List (Zc × Za))) (b:Zc) (r:(Za × Int)) (hF:Za6 c a b=some r):ACall Tryz.prog glob 35 [(.ptr 1 0),(Zv b),(vb true),(.sc .nilFunc)] [.fm (List.map (entF Zh Zf) a),.cells [(i64 c),(.mp 0)]] (Zfw c a r):=by
 refine ACall.body Tryz.func35 rfl (by kernel_rfl) ?_
 unfold Za6 at hF
 refine AWP.seq (AWP.rg [] [(0,(.ptr 1 0)),(2,(vb true)),(3,(.sc .nilFunc)),(5,(.ptr 2 0)),(8,(.ptr 3 0))] [.fm (List.map (entF Zh Zf) a),.cells [(i64 c),(.mp 0)],.cells (Ze b),.cells (Zb Zm)] (AWP.seq (AWP.dr [(5,.lookM Zak Zf Zm a b)] 11 [] [9,10] [] [(0,(.ptr 1 0)),(2,(vb true)),(3,(.sc .nilFunc)),(5,(.ptr 2 0)),(8,(.ptr 3 0)),(10,(.ptr 4 0)),(11,(vb (mget Zg a b).isSome))] [.fm (List.map (entF Zh Zf) a),.cells [(i64 c),(.mp 0)],.cells (Ze b),.cells (Zb Zm),.cells (Zb ((mget Zg a b).getD Zm))] (AWP.seq (AWP.block (AWP.seq ?_))))))
 refine AWP.rg0 [] [(0,(.ptr 1 0)),(5,(.ptr 2 0)),(8,(.ptr 3 0)),(10,(.ptr 4 0)),(11,(vb (mget Zg a b).isSome)),(21,(vb false))] ?_
 refine AWP.cF ?_
 refine AWP.seq (AWP.rg0 [] [(0,(.ptr 1 0)),(5,(.ptr 2 0)),(8,(.ptr 3 0)),(10,(.ptr 4 0)),(35,(vb (mget Zg a b).isSome))] ?_)
 refine AWP.cif hF (fun d hF=>?_) (fun d hF=>?_)
 ·refine AWP.seq (AWP.rg [] [(8,(.ptr 3 0)),(9,(i64 (0:Int)))] [.fm (List.map (entF Zh Zf) a),.cells [(i64 c),(.mp 0)],.cells (Ze b),.cells (Zb ((mget Zg a b).getD Zm)),.cells (Zb ((mget Zg a b).getD Zm))] (AWP.ret ?_))
  have hr:=someb hF
  subst hr
  exact(FnQ.f0 2 (.inr rfl))
 ·refine AWP.seq (AWP.dr [(4,.lenM Zh Zf a)] 11 [] [] [] [(5,(.ptr 2 0)),(8,(.ptr 3 0)),(38,(vb (decide ((List.length a:Int) ≥ c))))] [.fm (List.map (entF Zh Zf) a),.cells [(i64 c),(.mp 0)],.cells (Ze b),.cells (Zb Zm),.cells (Zb ((mget Zg a b).getD Zm))] ?_)
  refine AWP.cif hF (fun f hF=>?_) (fun f hF=>?_)
  ·refine AWP.seq (AWP.rg [] [(8,(.ptr 3 0)),(9,(i64 (9:Int)))] [.fm (List.map (entF Zh Zf) a),.cells [(i64 c),(.mp 0)],.cells (Ze b),.cells (Zb (Za.mk Zl Zl Zl (0:Int) (0:Int) false ByteArray.empty (0:Int) (0:Int))),.cells (Zb ((mget Zg a b).getD Zm))] (AWP.ret ?_))
   have hr:=someb hF
   subst hr
   exact(FnQ.f0 2 (.inr rfl))
  ·refine AWP.skip (AWP.seq (AWP.rg [] [(8,(.ptr 3 0)),(9,(i64 (0:Int)))] [.fm (List.map (entF Zh Zf) a),.cells [(i64 c),(.mp 0)],.cells (Ze b),.cells (Zb (Za.mk b Zl Zl (-1:Int) (-1:Int) false ByteArray.empty (1:Int) (0:Int))),.cells (Zb ((mget Zg a b).getD Zm))] (AWP.ret ?_)))
   have hr:=someb hF
   subst hr
   exact(FnQ.f0 2 (.inr rfl))
def Zgz (a:Int) (r:(Int × (List (Zc × Za)))):PV→List Blk→Prop:=fun p K=>p=(i64 r.1)∧K=[.fm (List.map (entF Zh Zf) r.2),.cells [(i64 a),(.mp 0)]]
theorem Zg0 (a:Int) (i:(List (Zc × Za))) (f:Zc) (b:ByteArray) (c:Int) (r:(Int × (List (Zc × Za)))) (hF:Zbu a i f b c=some r):ACall Tryz.prog glob 21 [(.ptr 1 0),(Zv f),(vstr b),(i64 c)] [.fm (List.map (entF Zh Zf) i),.cells [(i64 a),(.mp 0)]] (Zgz a r):=by
 refine ACall.body Tryz.func21 rfl (by kernel_rfl) ?_
 unfold Zbu at hF
 refine AWP.seq (AWP.rg [] [(0,(.ptr 1 0)),(2,(vstr b)),(3,(i64 c)),(5,(.ptr 2 0))] [.fm (List.map (entF Zh Zf) i),.cells [(i64 a),(.mp 0)],.cells (Ze f)] (AWP.seq (AWP.seq (AWP.rg0 [(1,.ptrNil)] [(0,(.ptr 1 0)),(2,(vstr b)),(3,(i64 c)),(5,(.ptr 2 0)),(12,(vb false))] ?_))))
 refine AWP.cF ?_
 refine AWP.skip (AWP.seq ?_)
 obtain⟨g,k,hF⟩:=bindb hF
 refine AWP.rg [(2,.callS Tryz.func26 [0,1] [] (Zas a i c g k))] [(0,(.ptr 1 0)),(2,(vstr b)),(3,(i64 c)),(5,(.ptr 2 0))] [.fm (List.map (entF Zh Zf) g.2),.cells [(i64 a),(.mp 0)],.cells (Ze f)] (AWP.seq ?_)
 obtain⟨d,l,hF⟩:=bindb hF
 refine AWP.rg [(2,.callS Tryz.func35 [0,1] [] (Zfx a g.2 f d l))] [(0,(.ptr 1 0)),(2,(vstr b)),(3,(i64 c)),(9,(.ptr 3 0)),(10,(i64 d.2))] [.fm (List.map (entF Zh Zf) g.2),.cells [(i64 a),(.mp 0)],.cells (Ze f),.cells (Zb d.1)] (AWP.seq (AWP.seq (AWP.rg0 [] [(0,(.ptr 1 0)),(2,(vstr b)),(3,(i64 c)),(9,(.ptr 3 0)),(10,(i64 d.2)),(23,(vb (d.2 != (0:Int))))] ?_)))
 refine AWP.cif hF (fun m hF=>?_) (fun m hF=>?_)
 ·refine AWP.seq (AWP.rg0 [] [(8,(i64 d.2))] (AWP.ret ?_))
  have hr:=someb hF
  subst hr
  exact(FnQ.f0 2 (.inr rfl))
 ·refine AWP.skip (AWP.seq (AWP.rg [] [(0,(.ptr 1 0)),(3,(i64 c)),(9,(.ptr 3 0))] [.fm (List.map (entF Zh Zf) g.2),.cells [(i64 a),(.mp 0)],.cells (Ze f),.cells (Zb ({ ({ d.1 with Waypoint:=true }:Za) with Class:=b }:Za))] (AWP.seq ?_)))
  obtain⟨j,n,hF⟩:=bindb hF
  refine AWP.rg [(3,.callS Tryz.func37 [0,1] [] (Zdk a g.2 ({ ({ d.1 with Waypoint:=true }:Za) with Class:=b }:Za) c j n))] [] [.fm (List.map (entF Zh Zf) j),.cells [(i64 a),(.mp 0)],.cells (Ze f),.cells (Zb ({ ({ d.1 with Waypoint:=true }:Za) with Class:=b }:Za))] (AWP.seq (AWP.rg0 [] [(8,(i64 (0:Int)))] (AWP.ret ?_)))
  have hr:=someb hF
  subst hr
  exact(FnQ.f0 2 (.inr rfl))
def Zhj (r:(Int × Zk)):PV→List Blk→Prop:=fun p K=>p=(i64 r.1)∧K=[.cells (Zi r.2)]
theorem Zhk (g:Zk) (d:Zc) (a:ByteArray) (b:Int) (r:(Int × Zk)) (hF:Zb0 g d a b=some r):ACall Tryz.prog glob 22 [(.ptr 0 0),(Zv d),(vstr a),(i64 b)] [.cells (Zi g)] (Zhj r):=by
 refine ACall.body Tryz.func22 rfl (by kernel_rfl) ?_
 unfold Zb0 at hF
 refine AWP.seq (AWP.rg [] [(0,(.ptr 0 0)),(2,(vstr a)),(3,(i64 b)),(5,(.ptr 1 0))] [.cells (Zi g),.cells (Ze d)] (AWP.seq ?_))
 obtain⟨f,k,hF⟩:=bindb hF
 refine AWP.rg [(2,.call Tryz.func27 [] (Zbc g b f k))] [(0,(.ptr 0 0)),(2,(vstr a)),(3,(i64 b)),(5,(.ptr 1 0))] [.cells (Zi f.2),.cells (Ze d)] (AWP.seq ?_)
 obtain⟨c,l,hF⟩:=bindb hF
 refine AWP.rg [(2,.call Tryz.func39 [] (Zd1 f.2 d true c l))] [(0,(.ptr 0 0)),(2,(vstr a)),(3,(i64 b)),(9,(.ptr 2 0)),(10,(i64 c.2))] [.cells (Zi f.2),.cells (Ze d),.cells (Zb c.1)] (AWP.seq (AWP.seq (AWP.rg0 [] [(0,(.ptr 0 0)),(2,(vstr a)),(3,(i64 b)),(9,(.ptr 2 0)),(10,(i64 c.2)),(21,(vb (c.2 != (0:Int))))] ?_)))
 refine AWP.cif hF (fun m hF=>?_) (fun m hF=>?_)
 ·refine AWP.seq (AWP.rg0 [] [(8,(i64 c.2))] (AWP.ret ?_))
  have hr:=someb hF
  subst hr
  exact(FnQ.f0 1 (.inr rfl))
 ·refine AWP.skip (AWP.seq (AWP.rg [] [(0,(.ptr 0 0)),(3,(i64 b)),(9,(.ptr 2 0))] [.cells (Zi f.2),.cells (Ze d),.cells (Zb ({ ({ c.1 with Waypoint:=true }:Za) with Class:=a }:Za))] (AWP.seq ?_)))
  obtain⟨i,n,hF⟩:=bindb hF
  obtain⟨j,o,hF⟩:=bindb hF
  refine AWP.rg [(3,.call Tryz.func41 [] (Zdr ({ ({ c.1 with Waypoint:=true }:Za) with Class:=a }:Za) b i n)),(4,.call Tryz.func40 [] (Zds f.2 i j o))] [] [.cells (Zi j),.cells (Ze d),.cells (Zb ({ ({ c.1 with Waypoint:=true }:Za) with Class:=a }:Za))] (AWP.seq (AWP.rg0 [] [(8,(i64 (0:Int)))] (AWP.ret ?_)))
  have hr:=someb hF
  subst hr
  exact(FnQ.f0 1 (.inr rfl))
def Ze2 (a:Int) (r:(List (Zc × Za))):PV→List Blk→Prop:=fun p K=>p=(.tup [])∧K=[.fm (List.map (entF Zh Zf) r),.cells [(i64 a),(.mp 0)]]
abbrev Zhl (a:Int) (r:(List (Zc × Za))):Exit→St→List Blk→Prop:=FnQ Tryz.prog Tryz.f48.results 2 (Ze2 a r)
theorem Ze3 (c:Int) (j:(List (Zc × Za))) (a:Zc) (f:Int) (d:Int) (g:Bool) (r:(List (Zc × Za))) (hF:Zbf c j a f d g=some r):ACall Tryz.prog glob 48 [(.ptr 1 0),(Zv a),(i64 f),(i64 d),(vb g)] [.fm (List.map (entF Zh Zf) j),.cells [(i64 c),(.mp 0)]] (Ze2 c r):=by
 refine ACall.body Tryz.func48 rfl (by kernel_rfl) ?_
 unfold Zbf at hF
 refine AWP.seq (AWP.rg [] [(0,(.ptr 1 0)),(2,(i64 f)),(3,(i64 d)),(4,(vb g)),(6,(.ptr 2 0))] [.fm (List.map (entF Zh Zf) j),.cells [(i64 c),(.mp 0)],.cells (Ze a)] (AWP.seq (AWP.seq (AWP.rg0 [(1,.ptrNil)] [(0,(.ptr 1 0)),(2,(i64 f)),(3,(i64 d)),(4,(vb g)),(6,(.ptr 2 0)),(13,(vb false))] ?_))))
 refine AWP.cF ?_
 refine AWP.skip (AWP.seq ?_)
 obtain⟨b,o,hF⟩:=bindb hF
 refine AWP.rg [(2,.callS Tryz.func26 [0,1] [] (Zas c j d b o))] [(0,(.ptr 1 0)),(2,(i64 f)),(3,(i64 d)),(4,(vb g)),(6,(.ptr 2 0))] [.fm (List.map (entF Zh Zf) b.2),.cells [(i64 c),(.mp 0)],.cells (Ze a)] (AWP.seq (AWP.dr [(5,.lookM Zak Zf Zm b.2 a)] 11 [] [9,10] [] [(0,(.ptr 1 0)),(2,(i64 f)),(3,(i64 d)),(4,(vb g)),(6,(.ptr 2 0)),(10,(.ptr 3 0)),(11,(vb (mget Zg b.2 a).isSome))] [.fm (List.map (entF Zh Zf) b.2),.cells [(i64 c),(.mp 0)],.cells (Ze a),.cells (Zb ((mget Zg b.2 a).getD Zm))] (AWP.seq (AWP.seq (AWP.rg0 [] [(0,(.ptr 1 0)),(2,(i64 f)),(3,(i64 d)),(4,(vb g)),(6,(.ptr 2 0)),(10,(.ptr 3 0)),(27,(vb (!(mget Zg b.2 a).isSome)))] ?_)))))
 refine AWP.cif hF (fun p hF=>?_) (fun p hF=>?_)
 ·refine AWP.ret ?_
  have hr:=someb hF
  subst hr
  exact(FnQ.f0 2 (.inr rfl))
 ·refine AWP.skip ?_
  obtain⟨l,q,hF⟩:=bindb hF
  refine AWP.seq ?_
  refine AWP.mid (fun e st H=>(e=.normal∧∃ i,l=(.inl i)∧st=[(0,(.ptr 1 0)),(3,(i64 d)),(10,(.ptr 3 0))]∧H=[.fm (List.map (entF Zh Zf) b.2),.cells [(i64 c),(.mp 0)],.cells (Ze a),.cells (Zb i)])∨(e=.ret∧∃ r,l=(.inr r)∧Zhl c r e st H)) ?_ ?_
  ·clear hF
   have hF:=q
   refine AWP.block (AWP.seq (AWP.rg0 [] [(0,(.ptr 1 0)),(2,(i64 f)),(3,(i64 d)),(4,(vb g)),(6,(.ptr 2 0)),(10,(.ptr 3 0)),(28,(vb ((bAnd .i64 f (4:Int)) != (0:Int))))] ?_))
   refine AWP.cif hF (fun s hF=>?_) (fun s hF=>?_)
   ·refine AWP.seq (AWP.dr [(5,.delM Zak Zf b.2 a)] 6 [] [5] [] [] [.fm (List.map (entF Zh Zf) (mdel Zg b.2 a)),.cells [(i64 c),(.mp 0)],.cells (Ze a),.cells (Zb ((mget Zg b.2 a).getD Zm))] (AWP.ret ?_))
    exact LeQ.of (.inr ⟨rfl,(mdel Zg b.2 a),(someb hF).symm,(FnQ.f0 2 (.inr rfl))⟩)
   ·refine AWP.seq (AWP.rg0 [] [(0,(.ptr 1 0)),(3,(i64 d)),(4,(vb g)),(10,(.ptr 3 0)),(37,(vb ((bAnd .i64 f (1:Int)) != (0:Int))))] ?_)
    refine AWP.cif hF (fun t hF=>?_) (fun t hF=>?_)
    ·refine AWP.rg [] [(0,(.ptr 1 0)),(3,(i64 d)),(10,(.ptr 3 0))] [.fm (List.map (entF Zh Zf) b.2),.cells [(i64 c),(.mp 0)],.cells (Ze a),.cells (Zb ({ ((mget Zg b.2 a).getD Zm) with State:=(3:Int) }:Za))] (LeQ.start (LeQ.pk [0,3,10] 4 ?_))
     exact(.inl ⟨rfl,({ ((mget Zg b.2 a).getD Zm) with State:=(3:Int) }:Za),(someb hF).symm,by kernel_rfl,by kernel_rfl⟩)
    ·refine AWP.seq ?_
     obtain⟨m,k,hF⟩:=bindb hF
     replace k:=someb k
     refine AWP.to [(0,(.ptr 1 0)),(3,(i64 d)),(10,(.ptr 3 0)),(42,(vb (m && (((mget Zg b.2 a).getD Zm).State == (1:Int)))))] [.fm (List.map (entF Zh Zf) b.2),.cells [(i64 c),(.mp 0)],.cells (Ze a),.cells (Zb ((mget Zg b.2 a).getD Zm))] ?_ ?_
     ·cases m with
      | false=>
       exact AWP.rgT [(1,.bool k)]
      | true=>
       exact AWP.rgT [(1,.bool k)]
     refine AWP.cif hF (fun u hF=>?_) (fun u hF=>?_)
     ·refine AWP.rg [] [(0,(.ptr 1 0)),(3,(i64 d)),(10,(.ptr 3 0))] [.fm (List.map (entF Zh Zf) b.2),.cells [(i64 c),(.mp 0)],.cells (Ze a),.cells (Zb ({ ((mget Zg b.2 a).getD Zm) with State:=(2:Int) }:Za))] (LeQ.start (LeQ.pk [0,3,10] 4 ?_))
      exact(.inl ⟨rfl,({ ((mget Zg b.2 a).getD Zm) with State:=(2:Int) }:Za),(someb hF).symm,by kernel_rfl,by kernel_rfl⟩)
     ·refine AWP.skip (LeQ.start (LeQ.pk [0,3,10] 4 ?_))
      exact(.inl ⟨rfl,((mget Zg b.2 a).getD Zm),(someb hF).symm,by kernel_rfl,by kernel_rfl⟩)
  ·rintro _ _ _ (⟨rfl,i,rfl,rfl,rfl⟩ | ⟨rfl,w,rfl,hq⟩)
   ·obtain⟨n,v,hF⟩:=bindb hF
    refine AWP.rg [(3,.callS Tryz.func37 [0,1] [] (Zdk c b.2 i d n v))] [] [.fm (List.map (entF Zh Zf) n),.cells [(i64 c),(.mp 0)],.cells (Ze a),.cells (Zb i)] ?_
    have hr:=someb hF
    subst hr
    exact(FnQ.f0 2 (.inl rfl))
   ·have hr:=someb hF
    subst hr
    exact hq
def Zg1 (a:Int) (r:(List (Zc × Za))):PV→List Blk→Prop:=fun p K=>p=(.tup [])∧K=[.fm (List.map (entF Zh Zf) r),.cells [(i64 a),(.mp 0)]]
theorem Zg2 (a:Int) (c:(List (Zc × Za))) (b:Zc) (d:Int) (f:Int) (r:(List (Zc × Za))) (hF:Zbv a c b d f=some r):ACall Tryz.prog glob 23 [(.ptr 1 0),(Zv b),(i64 d),(i64 f)] [.fm (List.map (entF Zh Zf) c),.cells [(i64 a),(.mp 0)]] (Zg1 a r):=by
 refine ACall.body Tryz.func23 rfl (by kernel_rfl) ?_
 unfold Zbv at hF
 refine AWP.seq (AWP.rg [] [(0,(.ptr 1 0)),(2,(i64 d)),(3,(i64 f)),(5,(.ptr 2 0))] [.fm (List.map (entF Zh Zf) c),.cells [(i64 a),(.mp 0)],.cells (Ze b)] ?_)
 obtain⟨g,i,hF⟩:=bindb hF
 refine AWP.rg [(4,.callS Tryz.func48 [0,1] [] (Ze3 a c b d f false g i))] [] [.fm (List.map (entF Zh Zf) g),.cells [(i64 a),(.mp 0)],.cells (Ze b)] ?_
 have hr:=someb hF
 subst hr
 exact(FnQ.f0 2 (.inl rfl))
def Zhy (r:Zk):PV→List Blk→Prop:=fun p K=>p=(.tup [])∧K=[.cells (Zi r)]
theorem Zfb (j:Zk) (c:Zc) (f:Int) (b:Int) (g:Bool) (r:Zk) (hF:Zbk j c f b g=some r):ACall Tryz.prog glob 24 [(.ptr 0 0),(Zv c),(i64 f),(i64 b),(vb g)] [.cells (Zi j)] (Zhy r):=by
 refine ACall.body Tryz.func24 rfl (by kernel_rfl) ?_
 unfold Zbk at hF
 refine AWP.seq (AWP.rg [] [(0,(.ptr 0 0)),(2,(i64 f)),(3,(i64 b)),(4,(vb g)),(6,(.ptr 1 0))] [.cells (Zi j),.cells (Ze c)] (AWP.seq ?_))
 obtain⟨a,q,hF⟩:=bindb hF
 refine AWP.rg [(2,.call Tryz.func27 [] (Zbc j b a q))] [(0,(.ptr 0 0)),(2,(i64 f)),(3,(i64 b)),(4,(vb g)),(6,(.ptr 1 0))] [.cells (Zi a.2),.cells (Ze c)] (AWP.seq ?_)
 obtain⟨d,s,hF⟩:=bindb hF
 refine AWP.rg0 [(2,.call Tryz.func38 [] (Zc8 a.2 c d s))] [(0,(.ptr 0 0)),(2,(i64 f)),(3,(i64 b)),(4,(vb g)),(10,(i64 d))] (AWP.seq (AWP.seq (AWP.rg0 [] [(0,(.ptr 0 0)),(2,(i64 f)),(3,(i64 b)),(4,(vb g)),(10,(i64 d)),(19,(vb (decide (d<(0:Int)))))] ?_)))
 refine AWP.cif hF (fun t hF=>?_) (fun t hF=>?_)
 ·refine AWP.ret ?_
  have hr:=someb hF
  subst hr
  exact(FnQ.f0 1 (.inr rfl))
 ·refine AWP.skip (AWP.seq ?_)
  obtain⟨i,u,hF⟩:=bindb hF
  refine AWP.rg [(5,.idx Zb u)] [(0,(.ptr 0 0)),(2,(i64 f)),(3,(i64 b)),(4,(vb g)),(10,(i64 d)),(11,(.ptr 2 0))] [.cells (Zi a.2),.cells (Ze c),.cells (Zb i)] (AWP.seq (AWP.seq (AWP.rg0 [] [(0,(.ptr 0 0)),(2,(i64 f)),(3,(i64 b)),(4,(vb g)),(10,(i64 d)),(11,(.ptr 2 0)),(29,(vb ((bAnd .i64 f (4:Int)) != (0:Int))))] ?_)))
  refine AWP.cif hF (fun v hF=>?_) (fun v hF=>?_)
  ·refine AWP.seq ?_
   obtain⟨w,hF⟩:=chkb hF
   obtain⟨x,hF⟩:=chkb hF
   obtain⟨y,hF⟩:=chkb hF
   obtain⟨z,hF⟩:=chkb hF
   refine AWP.dr [(1,.m),(7,.slice Zb a.2.L w),(8,.app Zb (fun _=>by kernel_rfl) x),(15,.slice Zb a.2.L y),(16,.app Zb (fun _=>by kernel_rfl) z),(19,.stShA Zb ((([]:(List Za))++(List.drop (Int.toNat (0:Int)) (List.take (Int.toNat d) a.2.L)))++(List.drop (Int.toNat (ZI (d + (1:Int)))) (List.take (Int.toNat (List.length a.2.L:Int)) a.2.L))))] 17 [] [1,8,16] [] [] [.cells (Zi ({ a.2 with L:=((([]:(List Za))++(List.drop (Int.toNat (0:Int)) (List.take (Int.toNat d) a.2.L)))++(List.drop (Int.toNat (ZI (d + (1:Int)))) (List.take (Int.toNat (List.length a.2.L:Int)) a.2.L))) }:Zk)),.cells (Ze c),.cells (Zb i),bf 21 67 Zb ((([]:(List Za))++(List.drop (Int.toNat (0:Int)) (List.take (Int.toNat d) a.2.L)))++(List.drop (Int.toNat (ZI (d + (1:Int)))) (List.take (Int.toNat (List.length a.2.L:Int)) a.2.L))) true] (AWP.ret ?_)
   have hr:=someb hF
   subst hr
   exact(FnQ.f0 1 (.inr rfl))
  ·refine AWP.skip ?_
   obtain⟨l,a0,hF⟩:=bindb hF
   refine AWP.seq ?_
   refine AWP.mid (fun e st H=>e=.normal∧st=[(0,(.ptr 0 0)),(3,(i64 b)),(11,(.ptr 2 0))]∧H=[.cells (Zi a.2),.cells (Ze c),.cells (Zb l)]) ?_ ?_
   ·clear hF
    have hF:=a0
    refine AWP.seq (AWP.rg0 [] [(0,(.ptr 0 0)),(3,(i64 b)),(4,(vb g)),(11,(.ptr 2 0)),(51,(vb ((bAnd .i64 f (1:Int)) != (0:Int))))] ?_)
    refine AWP.cif hF (fun a1 hF=>?_) (fun a1 hF=>?_)
    ·refine AWP.rg [] [(0,(.ptr 0 0)),(3,(i64 b)),(11,(.ptr 2 0))] [.cells (Zi a.2),.cells (Ze c),.cells (Zb ({ i with State:=(3:Int) }:Za))] (LeQ.start (LeQ.pk [0,3,11] 3 ?_))
     have hr:=someb hF
     subst hr
     exact⟨rfl,by kernel_rfl,by kernel_rfl⟩
    ·refine AWP.seq ?_
     obtain⟨n,k,hF⟩:=bindb hF
     replace k:=someb k
     refine AWP.to [(0,(.ptr 0 0)),(3,(i64 b)),(11,(.ptr 2 0)),(58,(vb (n && (i.State == (1:Int)))))] [.cells (Zi a.2),.cells (Ze c),.cells (Zb i)] ?_ ?_
     ·cases n with
      | false=>
       exact AWP.rgT [(1,.bool k)]
      | true=>
       exact AWP.rgT [(1,.bool k)]
     refine AWP.cif hF (fun a2 hF=>?_) (fun a2 hF=>?_)
     ·refine AWP.rg [] [(0,(.ptr 0 0)),(3,(i64 b)),(11,(.ptr 2 0))] [.cells (Zi a.2),.cells (Ze c),.cells (Zb ({ i with State:=(2:Int) }:Za))] (LeQ.start (LeQ.pk [0,3,11] 3 ?_))
      have hr:=someb hF
      subst hr
      exact⟨rfl,by kernel_rfl,by kernel_rfl⟩
     ·refine AWP.skip (LeQ.start (LeQ.pk [0,3,11] 3 ?_))
      have hr:=someb hF
      subst hr
      exact⟨rfl,by kernel_rfl,by kernel_rfl⟩
   ·rintro _ _ _ ⟨rfl,rfl,rfl⟩
    obtain⟨o,a3,hF⟩:=bindb hF
    obtain⟨p,a4,hF⟩:=bindb hF
    refine AWP.rg [(3,.call Tryz.func41 [] (Zdr l b o a3)),(4,.call Tryz.func40 [] (Zds a.2 o p a4))] [] [.cells (Zi p),.cells (Ze c),.cells (Zb l)] ?_
    have hr:=someb hF
    subst hr
    exact(FnQ.f0 1 (.inl rfl))
def Zhz (a:Int) (r:(List (Zc × Za))):PV→List Blk→Prop:=fun p K=>p=(.tup [])∧K=[.fm (List.map (entF Zh Zf) r),.cells [(i64 a),(.mp 0)]]
theorem Zh0 (a:Int) (c:(List (Zc × Za))) (b:Zc) (d:Int) (f:Int) (r:(List (Zc × Za))) (hF:Zb6 a c b d f=some r):ACall Tryz.prog glob 25 [(.ptr 1 0),(Zv b),(i64 d),(i64 f)] [.fm (List.map (entF Zh Zf) c),.cells [(i64 a),(.mp 0)]] (Zhz a r):=by
 refine ACall.body Tryz.func25 rfl (by kernel_rfl) ?_
 unfold Zb6 at hF
 refine AWP.seq (AWP.rg [] [(0,(.ptr 1 0)),(2,(i64 d)),(3,(i64 f)),(5,(.ptr 2 0))] [.fm (List.map (entF Zh Zf) c),.cells [(i64 a),(.mp 0)],.cells (Ze b)] ?_)
 obtain⟨g,i,hF⟩:=bindb hF
 refine AWP.rg [(4,.callS Tryz.func48 [0,1] [] (Ze3 a c b d f true g i))] [] [.fm (List.map (entF Zh Zf) g),.cells [(i64 a),(.mp 0)],.cells (Ze b)] ?_
 have hr:=someb hF
 subst hr
 exact(FnQ.f0 2 (.inl rfl))
def Zh1 (a:Int) (r:(List (Zc × Za))):PV→List Blk→Prop:=fun p K=>p=(.tup [])∧K=[.fm (List.map (entF Zh Zf) r),.cells [(i64 a),(.mp 0)]]
theorem Zh2 (a:Int) (b:(List (Zc × Za))) (r:(List (Zc × Za))) (hF:Zd2 a b=some r):ACall Tryz.prog glob 28 [(.ptr 1 0)] [.fm (List.map (entF Zh Zf) b),.cells [(i64 a),(.mp 0)]] (Zh1 a r):=by
 refine ACall.body Tryz.func28 rfl (by kernel_rfl) ?_
 unfold Zd2 at hF
 refine AWP.seq (AWP.rg0 [(1,.ptrNil)] [(0,(.ptr 1 0)),(3,(vb true))] ?_)
 refine AWP.cT ?_
 refine AWP.rg [(4,.clrM (kv:=Zh) (vv:=Zf) b)] [] [.fm (List.map (entF Zh Zf) ([]:(List (Zc × Za)))),.cells [(i64 a),(.mp 0)]] ?_
 have hr:=someb hF
 subst hr
 exact(FnQ.f0 2 (.inl rfl))
def Zij (a:Int) (r:(Za × Bool × (List (Zc × Za)))):PV→List Blk→Prop:=fun p K=>p=(.tup [(Z2 r.1),(vb r.2.1)])∧K=[.fm (List.map (entF Zh Zf) r.2.2),.cells [(i64 a),(.mp 0)]]
theorem Zik (c:Int) (f:(List (Zc × Za))) (a:Zc) (d:Int) (r:(Za × Bool × (List (Zc × Za)))) (hF:Zcf c f a d=some r):ACall Tryz.prog glob 30 [(.ptr 1 0),(Zv a),(i64 d)] [.fm (List.map (entF Zh Zf) f),.cells [(i64 c),(.mp 0)]] (Zij c r):=by
 refine ACall.body Tryz.func30 rfl (by kernel_rfl) ?_
 unfold Zcf at hF
 refine AWP.seq (AWP.rg [] [(0,(.ptr 1 0)),(2,(i64 d)),(4,(.ptr 2 0)),(6,(.ptr 3 0))] [.fm (List.map (entF Zh Zf) f),.cells [(i64 c),(.mp 0)],.cells (Ze a),.cells (Zb Zm)] (AWP.seq (AWP.seq (AWP.rg0 [(1,.ptrNil)] [(0,(.ptr 1 0)),(2,(i64 d)),(4,(.ptr 2 0)),(6,(.ptr 3 0)),(11,(vb false))] ?_))))
 refine AWP.cF ?_
 refine AWP.skip (AWP.seq ?_)
 obtain⟨b,g,hF⟩:=bindb hF
 refine AWP.rg [(2,.callS Tryz.func26 [0,1] [] (Zas c f d b g))] [(0,(.ptr 1 0)),(4,(.ptr 2 0)),(6,(.ptr 3 0))] [.fm (List.map (entF Zh Zf) b.2),.cells [(i64 c),(.mp 0)],.cells (Ze a),.cells (Zb Zm)] (AWP.seq (AWP.dr [(5,.lookM Zak Zf Zm b.2 a)] 11 [] [9,10] [] [(6,(.ptr 3 0)),(8,(.ptr 4 0)),(9,(vb (mget Zg b.2 a).isSome))] [.fm (List.map (entF Zh Zf) b.2),.cells [(i64 c),(.mp 0)],.cells (Ze a),.cells (Zb Zm),.cells (Zb ((mget Zg b.2 a).getD Zm))] (AWP.seq (AWP.rg [] [(6,(.ptr 3 0)),(7,(vb (mget Zg b.2 a).isSome))] [.fm (List.map (entF Zh Zf) b.2),.cells [(i64 c),(.mp 0)],.cells (Ze a),.cells (Zb ((mget Zg b.2 a).getD Zm)),.cells (Zb ((mget Zg b.2 a).getD Zm))] (AWP.ret ?_)))))
 have hr:=someb hF
 subst hr
 exact(FnQ.f0 2 (.inr rfl))
def Zi0 (r:(Za × Bool × Zk)):PV→List Blk→Prop:=fun p K=>p=(.tup [(Z2 r.1),(vb r.2.1)])∧K=[.cells (Zi r.2.2)]
theorem Zi1 (c:Zk) (a:Zc) (d:Int) (r:(Za × Bool × Zk)) (hF:Zco c a d=some r):ACall Tryz.prog glob 49 [(.ptr 0 0),(Zv a),(i64 d)] [.cells (Zi c)] (Zi0 r):=by
 refine ACall.body Tryz.func49 rfl (by kernel_rfl) ?_
 unfold Zco at hF
 refine AWP.seq (AWP.rg [] [(0,(.ptr 0 0)),(2,(i64 d)),(4,(.ptr 1 0)),(6,(.ptr 2 0))] [.cells (Zi c),.cells (Ze a),.cells (Zb Zm)] (AWP.seq ?_))
 obtain⟨b,g,hF⟩:=bindb hF
 refine AWP.rg [(2,.call Tryz.func27 [] (Zbc c d b g))] [(0,(.ptr 0 0)),(4,(.ptr 1 0)),(6,(.ptr 2 0))] [.cells (Zi b.2),.cells (Ze a),.cells (Zb Zm)] (AWP.seq (AWP.seq ?_))
 obtain⟨f,i,hF⟩:=bindb hF
 refine AWP.rg0 [(2,.call Tryz.func38 [] (Zc8 b.2 a f i))] [(0,(.ptr 0 0)),(6,(.ptr 2 0)),(8,(i64 f))] (AWP.seq (AWP.rg0 [] [(0,(.ptr 0 0)),(6,(.ptr 2 0)),(8,(i64 f)),(16,(vb (decide (f ≥ (0:Int)))))] ?_))
 refine AWP.cif hF (fun j hF=>?_) (fun j hF=>?_)
 ·refine AWP.seq ?_
  obtain⟨k,l,hF⟩:=bindb hF
  refine AWP.rg [(5,.idx Zb l)] [(6,(.ptr 2 0)),(7,(vb true))] [.cells (Zi b.2),.cells (Ze a),.cells (Zb k)] (AWP.ret ?_)
  have hr:=someb hF
  subst hr
  exact(FnQ.f0 1 (.inr rfl))
 ·refine AWP.skip (AWP.seq (AWP.rg [] [(6,(.ptr 2 0)),(7,(vb false))] [.cells (Zi b.2),.cells (Ze a),.cells (Zb (Za.mk Zl Zl Zl (0:Int) (0:Int) false ByteArray.empty (0:Int) (0:Int)))] (AWP.ret ?_)))
  have hr:=someb hF
  subst hr
  exact(FnQ.f0 1 (.inr rfl))
def Zkv (r:Zc):PV→List Blk→Prop:=fun p K=>p=(Zv r)∧K=[]
theorem Za8 (a:Zc) (r:Zc) (hF:Zbi a=some r):ACall Tryz.prog glob 31 [(Zv a)] [] (Zkv r):=by
 refine ACall.body Tryz.func31 rfl (by kernel_rfl) ?_
 unfold Zbi at hF
 refine AWP.seq (AWP.rg [] [(1,(.ptr 0 0)),(2,(.ptr 1 0))] [.cells (Ze a),.cells (Ze Zl)] (AWP.seq (AWP.rg [] [(2,(.ptr 1 0))] [.cells (Ze a),.cells (Ze (Zc.mk a.Dst a.Src a.Proto a.DstPort a.SrcPort))] (AWP.ret ?_))))
 have hr:=someb hF
 subst hr
 exact(FnQ.f0 0 (.inr rfl))
def Zl8 (r:Zc):PV→List Blk→Prop:=fun p K=>p=(Zv r)∧K=[]
theorem Zl9 (a:Zc) (r:Zc) (hF:Zeo a=some r):ACall Tryz.prog glob 52 [(Zv a)] [] (Zl8 r):=by
 refine ACall.body Tryz.func52 rfl (by kernel_rfl) ?_
 unfold Zeo at hF
 refine AWP.seq (AWP.rg [] [(1,(.ptr 0 0)),(2,(.ptr 1 0))] [.cells (Ze a),.cells (Ze Zl)] (AWP.seq (AWP.rg [] [(2,(.ptr 1 0))] [.cells (Ze a),.cells (Ze (Zc.mk a.Dst a.Src a.Proto a.DstPort a.SrcPort))] (AWP.ret ?_))))
 have hr:=someb hF
 subst hr
 exact(FnQ.f0 0 (.inr rfl))
def Zek (a:Int) (r:(Za × Bool × (List (Zc × Za)))):PV→List Blk→Prop:=fun p K=>p=(.tup [(Z2 r.1),(vb r.2.1)])∧K=[.fm (List.map (entF Zh Zf) r.2.2),.cells [(i64 a),(.mp 0)]]
abbrev Zel (a:Int) (r:(Za × Bool × (List (Zc × Za)))):Exit→St→List Blk→Prop:=FnQ Tryz.prog Tryz.f32.results 2 (Zek a r)
theorem Zcc (c:Int) (k:(List (Zc × Za))) (d:Int) (f:Zc) (l:Int) (r:(Za × Bool × (List (Zc × Za)))) (hF:Z8 c k d f l=some r):ACall Tryz.prog glob 32 [(.ptr 1 0),(i64 d),(Zv f),(i64 l)] [.fm (List.map (entF Zh Zf) k),.cells [(i64 c),(.mp 0)]] (Zek c r):=by
 refine ACall.body Tryz.func32 rfl (by kernel_rfl) ?_
 unfold Z8 at hF
 refine AWP.seq (AWP.rg [] [(0,(.ptr 1 0)),(1,(i64 d)),(3,(i64 l)),(6,(.ptr 2 0)),(8,(.ptr 3 0))] [.fm (List.map (entF Zh Zf) k),.cells [(i64 c),(.mp 0)],.cells (Ze f),.cells (Zb Zm)] (AWP.seq (AWP.seq (AWP.rg0 [(1,.ptrNil)] [(0,(.ptr 1 0)),(1,(i64 d)),(3,(i64 l)),(6,(.ptr 2 0)),(8,(.ptr 3 0)),(18,(vb (decide (d<(0:Int)))))] ?_))))
 refine AWP.cif hF (fun a1 hF=>?_) (fun a1 hF=>?_)
 ·refine AWP.seq (AWP.rg [] [(8,(.ptr 3 0)),(9,(vb false))] [.fm (List.map (entF Zh Zf) k),.cells [(i64 c),(.mp 0)],.cells (Ze f),.cells (Zb (Za.mk Zl Zl Zl (0:Int) (0:Int) false ByteArray.empty (0:Int) (0:Int)))] (AWP.ret ?_))
  have hr:=someb hF
  subst hr
  exact(FnQ.f0 2 (.inr rfl))
 ·refine AWP.skip (AWP.seq ?_)
  obtain⟨j,a2,hF⟩:=bindb hF
  refine AWP.rg [(2,.callS Tryz.func26 [0,1] [] (Zas c k l j a2))] [(0,(.ptr 1 0)),(1,(i64 d)),(6,(.ptr 2 0)),(8,(.ptr 3 0))] [.fm (List.map (entF Zh Zf) j.2),.cells [(i64 c),(.mp 0)],.cells (Ze f),.cells (Zb Zm)] (AWP.seq ?_)
  obtain⟨g,a3,hF⟩:=bindb hF
  refine AWP.rg [(1,.call Tryz.func52 [] (Zl9 f g a3))] [(0,(.ptr 1 0)),(1,(i64 d)),(8,(.ptr 3 0)),(10,(.ptr 4 0))] [.fm (List.map (entF Zh Zf) j.2),.cells [(i64 c),(.mp 0)],.cells (Ze f),.cells (Zb Zm),.cells (Ze g)] (AWP.seq (AWP.seq ?_))
  refine AWP.openM Zh Zf j.2 0 (fun y a a4=>?_)
  refine AWP.rg [(4,.rngE)] [(1,(i64 d)),(8,(.ptr 3 0)),(10,(.ptr 4 0)),(29,(.ptr 5 0))] [.map (List.map (entT Zh Zf) y) a,.cells [(i64 c),(.mp 0)],.cells (Ze f),.cells (Zb Zm),.cells (Ze g),.iter (some 0) a [] a] ?_
  have w:=allpb hF
  clear hF
  refine AWP.kp [1,8,10,29] 6 ?_ (hfar:=(farM (farC (by kernel_rfl) (farC (by kernel_rfl) (farC (by kernel_rfl) (farC (by kernel_rfl) (farC (by kernel_rfl) farN)))))))
  refine AWP.mid (fun e st H=>∃ p,∃(m:(Za × Bool × (List (Zc × Za))) ⊕ Unit),p.Perm j.2∧mfold (Zao d j g) p ()=some m∧overM Zh Zf (fun(s_:Unit)=>j.2) (fun(s_:Unit)=>[(1,(i64 d)),(8,(.ptr 3 0)),(10,(.ptr 4 0)),(29,(.ptr 5 0))]) (fun(s_:Unit) (x_ y_:Blk)=>[x_,.cells [(i64 c),(.mp 0)],.cells (Ze f),.cells (Zb Zm),.cells (Ze g),y_]) (fun(y_:(Za × Bool × (List (Zc × Za)))) e st H=>e=.ret∧Zel c y_ e st H) 0 a m e st H) ?_ ?_
  ·refine AWP.rangeQ (it:=29) (t:=30) (b:=31) (i:=0) (q:=5) (cl:=a) (kv:=Zh) (vv:=Zf) (B:=Zao d j g) (M:=(fun(s_:Unit)=>j.2)) (stf:=(fun(s_:Unit)=>[(1,(i64 d)),(8,(.ptr 3 0)),(10,(.ptr 4 0)),(29,(.ptr 5 0))])) (Hf:=(fun(s_:Unit) (x_ y_:Blk)=>[x_,.cells [(i64 c),(.mp 0)],.cells (Ze f),.cells (Zb Zm),.cells (Ze g),y_])) (Qe:=(fun(y_:(Za × Bool × (List (Zc × Za)))) e st H=>e=.ret∧Zel c y_ e st H)) (L:=j.2) (si_:=()) (Ei_:=y) (by kernel_rfl) (fun _=>rfl) (fun _ _ _=>rfl) (fun _ _ _=>rfl) (fun _ _ _ _=>rfl) (fun _ _ _=>rfl) (fun _ _ _ _ h_=>retNe h_.1) a4 rfl (fun l_ h_=>isb (w l_ h_)) rfl rfl ?_ (fun l_ o_ h1_ h2_ e st H h3_=>LeQ.of ⟨l_,o_,h1_,h2_,h3_⟩)
   rintro s n ⟨u,o⟩ ⟨⟩ m hF a5 x
   rw [Zao] at hF
   show AWP _ _ _ _ _ _ [(1,(i64 d)),(8,(.ptr 3 0)),(10,(.ptr 4 0)),(29,(.ptr 5 0))] [.map (List.map (entT Zh Zf) s) a,.cells [(i64 c),(.mp 0)],.cells (Ze f),.cells (Zb Zm),.cells (Ze g),.iter (some 0) a (n++[u]) a]
   refine AWP.block (AWP.seq (AWP.rg [(0,.entE Zf x n a5)] [(1,(i64 d)),(8,(.ptr 3 0)),(10,(.ptr 4 0)),(12,(.ptr 6 0)),(29,(.ptr 5 0))] [.map (List.map (entT Zh Zf) s) a,.cells [(i64 c),(.mp 0)],.cells (Ze f),.cells (Zb Zm),.cells (Ze g),.iter (some 0) a (n++[u]) a,.cells (Zb o.2)] (AWP.seq ?_)))
   obtain⟨z,v,hF⟩:=bindb hF
   replace v:=someb v
   refine AWP.to [(1,(i64 d)),(8,(.ptr 3 0)),(10,(.ptr 4 0)),(12,(.ptr 6 0)),(29,(.ptr 5 0)),(43,(vb (z && (Zg o.2.Delivered g))))] [.map (List.map (entT Zh Zf) s) a,.cells [(i64 c),(.mp 0)],.cells (Ze f),.cells (Zb Zm),.cells (Ze g),.iter (some 0) a (n++[u]) a,.cells (Zb o.2)] ?_ ?_
   ·cases z with
    | false=>
     exact AWP.rgT [(4,.bool v)]
    | true=>
     exact AWP.rgT [(4,.bool v)]
   refine AWP.cif hF (fun a6 hF=>?_) (fun a6 hF=>?_)
   ·refine AWP.seq (AWP.rg [] [(8,(.ptr 3 0)),(9,(vb true))] [.map (List.map (entT Zh Zf) s) a,.cells [(i64 c),(.mp 0)],.cells (Ze f),.cells (Zb o.2),.cells (Ze g),.iter (some 0) a (n++[u]) a,.cells (Zb o.2)] (AWP.ret ?_))
    refine LeQ.closeM Zf 0 x ?_
    have hr:=someb hF
    subst hr
    exact LeQ.of (roundM.ret ⟨rfl,(FnQ.f0 2 (.inr rfl))⟩)
   ·refine AWP.skip (LeQ.start ?_)
    refine LeQ.pk [1,8,10,29] 6 ?_ (hfar:=(farM (farC (by kernel_rfl) (farC (by kernel_rfl) (farC (by kernel_rfl) (farC (by kernel_rfl) (farC (by kernel_rfl) farN)))))))
    have hr:=someb hF
    subst hr
    exact roundM.mk x (.inl rfl)
  ·rintro e st H ⟨p,m,a7,a8,a0⟩
   have hF:=overb a8 (w p a7)
   clear w
   obtain b1 | ⟨⟩:=m
   ·obtain⟨rfl,hq⟩:=a0
    have hr:=someb hF
    subst hr
    exact hq
   ·obtain⟨rfl,b2,a9,b0,rfl,rfl⟩:=a0
    refine AWP.closeM Zf 0 b0 ?_
    refine AWP.seq (AWP.rg [] [(8,(.ptr 3 0)),(9,(vb false))] [.fm (List.map (entF Zh Zf) j.2),.cells [(i64 c),(.mp 0)],.cells (Ze f),.cells (Zb (Za.mk Zl Zl Zl (0:Int) (0:Int) false ByteArray.empty (0:Int) (0:Int))),.cells (Ze g),.iter (some 0) a a9 a] (AWP.ret ?_))
    have hr:=someb hF
    subst hr
    exact(FnQ.f0 2 (.inr rfl))
def Zeq (r:(Za × Bool × Zk)):PV→List Blk→Prop:=fun p K=>p=(.tup [(Z2 r.1),(vb r.2.1)])∧K=[.cells (Zi r.2.2)]
abbrev Zgp (r:(Za × Bool × Zk)):Exit→St→List Blk→Prop:=FnQ Tryz.prog Tryz.f50.results 1 (Zeq r)
theorem Zck (k:Zk) (c:Int) (a:Zc) (l:Int) (r:(Za × Bool × Zk)) (hF:Zar k c a l=some r):ACall Tryz.prog glob 50 [(.ptr 0 0),(i64 c),(Zv a),(i64 l)] [.cells (Zi k)] (Zeq r):=by
 refine ACall.body Tryz.func50 rfl (by kernel_rfl) ?_
 unfold Zar at hF
 refine AWP.seq (AWP.rg [] [(0,(.ptr 0 0)),(1,(i64 c)),(3,(i64 l)),(6,(.ptr 1 0)),(8,(.ptr 2 0))] [.cells (Zi k),.cells (Ze a),.cells (Zb Zm)] (AWP.seq ?_))
 obtain⟨b,v,hF⟩:=bindb hF
 refine AWP.rg [(2,.call Tryz.func27 [] (Zbc k l b v))] [(0,(.ptr 0 0)),(1,(i64 c)),(6,(.ptr 1 0)),(8,(.ptr 2 0))] [.cells (Zi b.2),.cells (Ze a),.cells (Zb Zm)] (AWP.seq (AWP.seq (AWP.rg0 [] [(0,(.ptr 0 0)),(1,(i64 c)),(6,(.ptr 1 0)),(8,(.ptr 2 0)),(10,(i64 (0:Int)))] ?_)))
 obtain⟨m,w,hF⟩:=bindb hF
 refine AWP.mid (fun e st H=>(e=.normal∧m=(.inl ())∧st=[(8,(.ptr 2 0))]∧H=[.cells (Zi b.2),.cells (Ze a),.cells (Zb Zm)])∨(e=.ret∧∃ r,m=(.inr r)∧Zgp r e st H)) ?_ ?_
 ·clear hF
  refine AWP.kp [0,1,6,8,10] 3 ?_
  refine AWP.bround (fun n st H=>∃ d,Zag c a b n d=some m∧st=[(0,(.ptr 0 0)),(1,(i64 c)),(6,(.ptr 1 0)),(8,(.ptr 2 0)),(10,(i64 d))]∧H=[.cells (Zi b.2),.cells (Ze a),.cells (Zb Zm)]) fuel ⟨(0:Int),w,by kernel_rfl,by kernel_rfl⟩ ?_
  rintro o st H ⟨d,hF,rfl,rfl⟩
  cases o with
  | zero=>exact noneb hF
  | succ o=>
   rw [Zag] at hF
   refine AWP.seq (AWP.seq (AWP.rg0 [(5,.len Zb b.2.L)] [(0,(.ptr 0 0)),(1,(i64 c)),(6,(.ptr 1 0)),(8,(.ptr 2 0)),(10,(i64 d)),(20,(vb (decide (d<(List.length b.2.L:Int)))))] ?_))
   refine AWP.cif hF (fun x hF=>?_) (fun x hF=>?_)
   ·refine AWP.skip (AWP.seq (AWP.block (AWP.seq ?_)))
    obtain⟨a9,p,hF⟩:=bindb hF
    obtain⟨y,g,hF⟩:=bindb hF
    replace g:=someb g
    obtain⟨b0,s,hF⟩:=bindb hF
    obtain⟨z,i,hF⟩:=bindb hF
    replace i:=someb i
    obtain⟨a0,q,hF⟩:=bindb hF
    refine AWP.to [(0,(.ptr 0 0)),(1,(i64 c)),(6,(.ptr 1 0)),(8,(.ptr 2 0)),(10,(i64 d)),(56,(vb a0))] [.cells (Zi b.2),.cells (Ze a),.cells (Zb Zm)] ?_ ?_
    ·cases y with
     | false=>
      have a1:=someb (ifF s rfl)
      subst a1
      subst i
      have a2:=someb (ifF q rfl)
      subst a2
      exact AWP.drT [(5,.idx Zb p),(9,.bool g)] 34 [] [] []
     | true=>
      have j:=ifT s rfl
      obtain⟨b1,t,j⟩:=bindb j
      replace j:=someb j
      subst j
      cases z with
      | false=>
       have a3:=someb (ifF q rfl)
       subst a3
       exact AWP.drT [(5,.idx Zb p),(9,.bool g),(15,.idx Zb t),(21,.bool i)] 34 [] [] []
      | true=>
       have f:=ifT q rfl
       obtain⟨b2,a4,f⟩:=bindb f
       obtain⟨a5,a6,f⟩:=bindb f
       replace f:=someb f
       subst f
       exact AWP.drT [(5,.idx Zb p),(9,.bool g),(15,.idx Zb t),(21,.bool i),(27,.idx Zb a4),(31,.call Tryz.func31 [] (Za8 a a5 a6))] 34 [] [] []
    refine AWP.cif hF (fun a7 hF=>?_) (fun a7 hF=>?_)
    ·refine AWP.seq ?_
     obtain⟨u,a8,hF⟩:=bindb hF
     refine AWP.rg [(5,.idx Zb a8)] [(8,(.ptr 2 0)),(9,(vb true))] [.cells (Zi b.2),.cells (Ze a),.cells (Zb u)] (AWP.ret ?_)
     exact LeQ.of (.inr ⟨rfl,(u,true,b.2),(someb hF).symm,(FnQ.f0 1 (.inr rfl))⟩)
    ·refine AWP.skip (AWP.rg0 [] [(0,(.ptr 0 0)),(1,(i64 c)),(6,(.ptr 1 0)),(8,(.ptr 2 0)),(10,(i64 (ZI (d + (1:Int)))))] (LeQ.start (LeQ.pk [0,1,6,8,10] 3 ?_)))
     exact⟨o,Nat.lt_succ_self _,(ZI (d + (1:Int))),hF,by kernel_rfl,by kernel_rfl⟩
   ·refine AWP.exit (LeQ.start (LeQ.pk [8] 3 ?_))
    exact(.inl ⟨rfl,(someb hF).symm,by kernel_rfl,by kernel_rfl⟩)
 ·rintro _ _ _ (⟨rfl,rfl,rfl,rfl⟩ | ⟨rfl,b3,rfl,hq⟩)
  ·refine AWP.seq (AWP.rg [] [(8,(.ptr 2 0)),(9,(vb false))] [.cells (Zi b.2),.cells (Ze a),.cells (Zb (Za.mk Zl Zl Zl (0:Int) (0:Int) false ByteArray.empty (0:Int) (0:Int)))] (AWP.ret ?_))
   have hr:=someb hF
   subst hr
   exact(FnQ.f0 1 (.inr rfl))
  ·have hr:=someb hF
   subst hr
   exact hq
def Zkw (r:Bool):PV→List Blk→Prop:=fun p K=>p=(vb r)∧K=[]
theorem Zgk (a:Int) (r:Bool) (hF:Zdd a=some r):ACall Tryz.prog glob 100 [(u32 a)] [] (Zkw r):=by
 refine ACall.body Tryz.func100 rfl (by kernel_rfl) ?_
 unfold Zdd at hF
 refine AWP.seq (AWP.rg0 [] [(0,(u32 a))] (AWP.seq (AWP.rg0 [] [(2,(vb (a != a)))] (AWP.ret ?_))))
 have hr:=someb hF
 subst hr
 exact(FnQ.f0 0 (.inr rfl))
def Zjp (r:Int):PV→List Blk→Prop:=fun p K=>p=(i64 r)∧K=[]
theorem Zfy (a:Int) (b:Int) (r:Int) (hF:Zb3 a b=some r):ACall Tryz.prog glob 75 [(u32 a),(u32 b)] [] (Zjp r):=by
 refine ACall.body Tryz.func75 rfl (by kernel_rfl) ?_
 unfold Zb3 at hF
 refine AWP.seq (AWP.rg0 [] [(0,(u32 a)),(1,(u32 b))] (AWP.seq ?_))
 obtain⟨d,f,hF⟩:=bindb hF
 refine AWP.rg0 [(1,.call Tryz.func100 [] (Zgk a d f))] [(0,(u32 a)),(1,(u32 b)),(5,(vb d))] (AWP.seq ?_)
 obtain⟨c,g,hF⟩:=bindb hF
 refine AWP.rg0 [(1,.call Tryz.func100 [] (Zgk b c g))] [(0,(u32 a)),(1,(u32 b)),(5,(vb d)),(6,(vb c))] (AWP.seq (AWP.seq (AWP.rg0 [] [(0,(u32 a)),(1,(u32 b)),(6,(vb c)),(11,(vb d))] ?_)))
 refine AWP.cif hF (fun i hF=>?_) (fun i hF=>?_)
 ·refine AWP.seq (AWP.seq (AWP.rg0 [] [(12,(vb c))] ?_))
  refine AWP.cif hF (fun j hF=>?_) (fun j hF=>?_)
  ·refine AWP.seq (AWP.rg0 [] [(4,(i64 (0:Int)))] (AWP.ret ?_))
   have hr:=someb hF
   subst hr
   exact(FnQ.f0 0 (.inr rfl))
  ·refine AWP.skip (AWP.seq (AWP.rg0 [] [(4,(i64 (-1:Int)))] (AWP.ret ?_)))
   have hr:=someb hF
   subst hr
   exact(FnQ.f0 0 (.inr rfl))
 ·refine AWP.skip (AWP.seq (AWP.seq (AWP.rg0 [] [(0,(u32 a)),(1,(u32 b)),(13,(vb c))] ?_)))
  refine AWP.cif hF (fun k hF=>?_) (fun k hF=>?_)
  ·refine AWP.seq (AWP.rg0 [] [(4,(i64 (1:Int)))] (AWP.ret ?_))
   have hr:=someb hF
   subst hr
   exact(FnQ.f0 0 (.inr rfl))
  ·refine AWP.skip (AWP.seq (AWP.seq (AWP.rg0 [] [(0,(u32 a)),(1,(u32 b)),(16,(vb (decide (a<b))))] ?_)))
   refine AWP.cif hF (fun l hF=>?_) (fun l hF=>?_)
   ·refine AWP.seq (AWP.rg0 [] [(4,(i64 (-1:Int)))] (AWP.ret ?_))
    have hr:=someb hF
    subst hr
    exact(FnQ.f0 0 (.inr rfl))
   ·refine AWP.skip (AWP.seq (AWP.seq (AWP.rg0 [] [(19,(vb (decide (a > b))))] ?_)))
    refine AWP.cif hF (fun m hF=>?_) (fun m hF=>?_)
    ·refine AWP.seq (AWP.rg0 [] [(4,(i64 (1:Int)))] (AWP.ret ?_))
     have hr:=someb hF
     subst hr
     exact(FnQ.f0 0 (.inr rfl))
    ·refine AWP.skip (AWP.seq (AWP.rg0 [] [(4,(i64 (0:Int)))] (AWP.ret ?_)))
     have hr:=someb hF
     subst hr
     exact(FnQ.f0 0 (.inr rfl))
def Zlc (r:Bool):PV→List Blk→Prop:=fun p K=>p=(vb r)∧K=[]
theorem Zgt (a:Int) (r:Bool) (hF:Zdo a=some r):ACall Tryz.prog glob 101 [(u8 a)] [] (Zlc r):=by
 refine ACall.body Tryz.func101 rfl (by kernel_rfl) ?_
 unfold Zdo at hF
 refine AWP.seq (AWP.rg0 [] [(0,(u8 a))] (AWP.seq (AWP.rg0 [] [(2,(vb (a != a)))] (AWP.ret ?_))))
 have hr:=someb hF
 subst hr
 exact(FnQ.f0 0 (.inr rfl))
def Zkc (r:Int):PV→List Blk→Prop:=fun p K=>p=(i64 r)∧K=[]
theorem Zkd (a:Int) (b:Int) (r:Int) (hF:Zc1 a b=some r):ACall Tryz.prog glob 76 [(u8 a),(u8 b)] [] (Zkc r):=by
 refine ACall.body Tryz.func76 rfl (by kernel_rfl) ?_
 unfold Zc1 at hF
 refine AWP.seq (AWP.rg0 [] [(0,(u8 a)),(1,(u8 b))] (AWP.seq ?_))
 obtain⟨d,f,hF⟩:=bindb hF
 refine AWP.rg0 [(1,.call Tryz.func101 [] (Zgt a d f))] [(0,(u8 a)),(1,(u8 b)),(5,(vb d))] (AWP.seq ?_)
 obtain⟨c,g,hF⟩:=bindb hF
 refine AWP.rg0 [(1,.call Tryz.func101 [] (Zgt b c g))] [(0,(u8 a)),(1,(u8 b)),(5,(vb d)),(6,(vb c))] (AWP.seq (AWP.seq (AWP.rg0 [] [(0,(u8 a)),(1,(u8 b)),(6,(vb c)),(11,(vb d))] ?_)))
 refine AWP.cif hF (fun i hF=>?_) (fun i hF=>?_)
 ·refine AWP.seq (AWP.seq (AWP.rg0 [] [(12,(vb c))] ?_))
  refine AWP.cif hF (fun j hF=>?_) (fun j hF=>?_)
  ·refine AWP.seq (AWP.rg0 [] [(4,(i64 (0:Int)))] (AWP.ret ?_))
   have hr:=someb hF
   subst hr
   exact(FnQ.f0 0 (.inr rfl))
  ·refine AWP.skip (AWP.seq (AWP.rg0 [] [(4,(i64 (-1:Int)))] (AWP.ret ?_)))
   have hr:=someb hF
   subst hr
   exact(FnQ.f0 0 (.inr rfl))
 ·refine AWP.skip (AWP.seq (AWP.seq (AWP.rg0 [] [(0,(u8 a)),(1,(u8 b)),(13,(vb c))] ?_)))
  refine AWP.cif hF (fun k hF=>?_) (fun k hF=>?_)
  ·refine AWP.seq (AWP.rg0 [] [(4,(i64 (1:Int)))] (AWP.ret ?_))
   have hr:=someb hF
   subst hr
   exact(FnQ.f0 0 (.inr rfl))
  ·refine AWP.skip (AWP.seq (AWP.seq (AWP.rg0 [] [(0,(u8 a)),(1,(u8 b)),(16,(vb (decide (a<b))))] ?_)))
   refine AWP.cif hF (fun l hF=>?_) (fun l hF=>?_)
   ·refine AWP.seq (AWP.rg0 [] [(4,(i64 (-1:Int)))] (AWP.ret ?_))
    have hr:=someb hF
    subst hr
    exact(FnQ.f0 0 (.inr rfl))
   ·refine AWP.skip (AWP.seq (AWP.seq (AWP.rg0 [] [(19,(vb (decide (a > b))))] ?_)))
    refine AWP.cif hF (fun m hF=>?_) (fun m hF=>?_)
    ·refine AWP.seq (AWP.rg0 [] [(4,(i64 (1:Int)))] (AWP.ret ?_))
     have hr:=someb hF
     subst hr
     exact(FnQ.f0 0 (.inr rfl))
    ·refine AWP.skip (AWP.seq (AWP.rg0 [] [(4,(i64 (0:Int)))] (AWP.ret ?_)))
     have hr:=someb hF
     subst hr
     exact(FnQ.f0 0 (.inr rfl))
def Zkx (r:Bool):PV→List Blk→Prop:=fun p K=>p=(vb r)∧K=[]
theorem Zgl (a:Int) (r:Bool) (hF:Zde a=some r):ACall Tryz.prog glob 102 [(u16 a)] [] (Zkx r):=by
 refine ACall.body Tryz.func102 rfl (by kernel_rfl) ?_
 unfold Zde at hF
 refine AWP.seq (AWP.rg0 [] [(0,(u16 a))] (AWP.seq (AWP.rg0 [] [(2,(vb (a != a)))] (AWP.ret ?_))))
 have hr:=someb hF
 subst hr
 exact(FnQ.f0 0 (.inr rfl))
def Zjq (r:Int):PV→List Blk→Prop:=fun p K=>p=(i64 r)∧K=[]
theorem Zfz (a:Int) (b:Int) (r:Int) (hF:Zb4 a b=some r):ACall Tryz.prog glob 77 [(u16 a),(u16 b)] [] (Zjq r):=by
 refine ACall.body Tryz.func77 rfl (by kernel_rfl) ?_
 unfold Zb4 at hF
 refine AWP.seq (AWP.rg0 [] [(0,(u16 a)),(1,(u16 b))] (AWP.seq ?_))
 obtain⟨d,f,hF⟩:=bindb hF
 refine AWP.rg0 [(1,.call Tryz.func102 [] (Zgl a d f))] [(0,(u16 a)),(1,(u16 b)),(5,(vb d))] (AWP.seq ?_)
 obtain⟨c,g,hF⟩:=bindb hF
 refine AWP.rg0 [(1,.call Tryz.func102 [] (Zgl b c g))] [(0,(u16 a)),(1,(u16 b)),(5,(vb d)),(6,(vb c))] (AWP.seq (AWP.seq (AWP.rg0 [] [(0,(u16 a)),(1,(u16 b)),(6,(vb c)),(11,(vb d))] ?_)))
 refine AWP.cif hF (fun i hF=>?_) (fun i hF=>?_)
 ·refine AWP.seq (AWP.seq (AWP.rg0 [] [(12,(vb c))] ?_))
  refine AWP.cif hF (fun j hF=>?_) (fun j hF=>?_)
  ·refine AWP.seq (AWP.rg0 [] [(4,(i64 (0:Int)))] (AWP.ret ?_))
   have hr:=someb hF
   subst hr
   exact(FnQ.f0 0 (.inr rfl))
  ·refine AWP.skip (AWP.seq (AWP.rg0 [] [(4,(i64 (-1:Int)))] (AWP.ret ?_)))
   have hr:=someb hF
   subst hr
   exact(FnQ.f0 0 (.inr rfl))
 ·refine AWP.skip (AWP.seq (AWP.seq (AWP.rg0 [] [(0,(u16 a)),(1,(u16 b)),(13,(vb c))] ?_)))
  refine AWP.cif hF (fun k hF=>?_) (fun k hF=>?_)
  ·refine AWP.seq (AWP.rg0 [] [(4,(i64 (1:Int)))] (AWP.ret ?_))
   have hr:=someb hF
   subst hr
   exact(FnQ.f0 0 (.inr rfl))
  ·refine AWP.skip (AWP.seq (AWP.seq (AWP.rg0 [] [(0,(u16 a)),(1,(u16 b)),(16,(vb (decide (a<b))))] ?_)))
   refine AWP.cif hF (fun l hF=>?_) (fun l hF=>?_)
   ·refine AWP.seq (AWP.rg0 [] [(4,(i64 (-1:Int)))] (AWP.ret ?_))
    have hr:=someb hF
    subst hr
    exact(FnQ.f0 0 (.inr rfl))
   ·refine AWP.skip (AWP.seq (AWP.seq (AWP.rg0 [] [(19,(vb (decide (a > b))))] ?_)))
    refine AWP.cif hF (fun m hF=>?_) (fun m hF=>?_)
    ·refine AWP.seq (AWP.rg0 [] [(4,(i64 (1:Int)))] (AWP.ret ?_))
     have hr:=someb hF
     subst hr
     exact(FnQ.f0 0 (.inr rfl))
    ·refine AWP.skip (AWP.seq (AWP.rg0 [] [(4,(i64 (0:Int)))] (AWP.ret ?_)))
     have hr:=someb hF
     subst hr
     exact(FnQ.f0 0 (.inr rfl))
def Zky (r:Int):PV→List Blk→Prop:=fun p K=>p=(i64 r)∧K=[]
abbrev Zpj (r:Int):Exit→St→List Blk→Prop:=FnQ Tryz.prog Tryz.f74.results 0 (Zky r)
theorem Zpk (a:(List Int)) (r:Int) (hF:Zez a=some r):ACall Tryz.prog glob 74 [(slc 1 Z4 a)] [] (Zky r):=by
 refine ACall.body Tryz.func74 rfl (by kernel_rfl) ?_
 unfold Zez at hF
 refine AWP.seq (AWP.rg0 [] [(0,(slc 1 Z4 a))] (AWP.seq (AWP.rg0 [] [(0,(slc 1 Z4 a)),(3,(i64 (0:Int)))] (AWP.seq (AWP.seq (AWP.rg0 [(1,.len Z4 a)] [(3,(i64 (0:Int))),(6,(slc 1 Z4 a)),(7,(i64 (List.length a:Int))),(8,(i64 (0:Int)))] ?_))))))
 obtain⟨d,g,hF⟩:=bindb hF
 refine AWP.mid (fun e st H=>(e=.normal∧d=(.inl ())∧st=[(3,(i64 (0:Int)))]∧H=[])∨(e=.ret∧∃ r,d=(.inr r)∧Zpj r e st H)) ?_ ?_
 ·clear hF
  refine AWP.kp [3,6,7,8] 0 ?_
  refine AWP.bround (fun n st H=>∃ b,Zcw a n b=some d∧st=[(3,(i64 (0:Int))),(6,(slc 1 Z4 a)),(7,(i64 (List.length a:Int))),(8,(i64 b))]∧H=[]) fuel ⟨(0:Int),g,by kernel_rfl,by kernel_rfl⟩ ?_
  rintro f st H ⟨b,hF,rfl,rfl⟩
  cases f with
  | zero=>exact noneb hF
  | succ f=>
   rw [Zcw] at hF
   refine AWP.seq (AWP.rg0 [] [(3,(i64 (0:Int))),(6,(slc 1 Z4 a)),(7,(i64 (List.length a:Int))),(8,(i64 b)),(9,(vb (decide (b<(List.length a:Int)))))] (AWP.seq ?_))
   refine AWP.cif hF (fun i hF=>?_) (fun i hF=>?_)
   ·refine AWP.skip (AWP.seq (AWP.block (AWP.seq ?_)))
    obtain⟨c,j,hF⟩:=bindb hF
    refine AWP.rg0 [(0,.idx Z4 j)] [(3,(i64 (0:Int))),(5,(i64 c)),(6,(slc 1 Z4 a)),(7,(i64 (List.length a:Int))),(8,(i64 b))] (AWP.seq (AWP.rg0 [] [(3,(i64 (0:Int))),(5,(i64 c)),(6,(slc 1 Z4 a)),(7,(i64 (List.length a:Int))),(8,(i64 b)),(14,(vb (c != (0:Int))))] ?_))
    refine AWP.cif hF (fun k hF=>?_) (fun k hF=>?_)
    ·refine AWP.seq (AWP.rg0 [] [(2,(i64 c))] (AWP.ret ?_))
     exact LeQ.of (.inr ⟨rfl,c,(someb hF).symm,(FnQ.f0 0 (.inr rfl))⟩)
    ·refine AWP.skip (AWP.rg0 [] [(3,(i64 (0:Int))),(6,(slc 1 Z4 a)),(7,(i64 (List.length a:Int))),(8,(i64 (ZI (b + (1:Int)))))] (LeQ.start (LeQ.pk [3,6,7,8] 0 ?_)))
     exact⟨f,Nat.lt_succ_self _,(ZI (b + (1:Int))),hF,by kernel_rfl,by kernel_rfl⟩
   ·refine AWP.exit (LeQ.start (LeQ.pk [3] 0 ?_))
    exact(.inl ⟨rfl,(someb hF).symm,by kernel_rfl,by kernel_rfl⟩)
 ·rintro _ _ _ (⟨rfl,rfl,rfl,rfl⟩ | ⟨rfl,l,rfl,hq⟩)
  ·refine AWP.seq (AWP.rg0 [] [(2,(i64 (0:Int)))] (AWP.ret ?_))
   have hr:=someb hF
   subst hr
   exact(FnQ.f0 0 (.inr rfl))
  ·have hr:=someb hF
   subst hr
   exact hq
def Zke (r:Int):PV→List Blk→Prop:=fun p K=>p=(i64 r)∧K=[]
theorem Zkf (a:Zc) (b:Zc) (r:Int) (hF:Zc2 a b=some r):ACall Tryz.prog glob 55 [(Zv a),(Zv b)] [] (Zke r):=by
 refine ACall.body Tryz.func55 rfl (by kernel_rfl) ?_
 unfold Zc2 at hF
 refine AWP.seq (AWP.rg [] [(2,(.ptr 0 0)),(3,(.ptr 1 0))] [.cells (Ze a),.cells (Ze b)] (AWP.seq ?_))
 obtain⟨c,k,hF⟩:=bindb hF
 obtain⟨d,l,hF⟩:=bindb hF
 obtain⟨f,m,hF⟩:=bindb hF
 obtain⟨g,n,hF⟩:=bindb hF
 obtain⟨i,o,hF⟩:=bindb hF
 obtain⟨j,p,hF⟩:=bindb hF
 refine AWP.dr [(4,.call Tryz.func75 [] (Zfy a.Src b.Src c k)),(9,.call Tryz.func75 [] (Zfy a.Dst b.Dst d l)),(14,.call Tryz.func76 [] (Zkd a.Proto b.Proto f m)),(19,.call Tryz.func77 [] (Zfz a.SrcPort b.SrcPort g n)),(24,.call Tryz.func77 [] (Zfz a.DstPort b.DstPort i o)),(26,.call Tryz.func74 [] (Zpk [c,d,f,g,i] j p))] 27 [] [] [] [(4,(i64 j))] [.cells (Ze a),.cells (Ze b)] (AWP.ret ?_)
 have hr:=someb hF
 subst hr
 exact(FnQ.f0 0 (.inr rfl))
def Zhm (r:Int):PV→List Blk→Prop:=fun p K=>p=(i64 r)∧K=[]
theorem Zhn (a:Za) (b:Za) (r:Int) (hF:Zae a b=some r):ACall Tryz.prog glob 54 [(Z2 a),(Z2 b)] [] (Zhm r):=by
 refine ACall.body Tryz.func54 rfl (by kernel_rfl) ?_
 unfold Zae at hF
 refine AWP.seq (AWP.rg [] [(2,(.ptr 0 0)),(3,(.ptr 1 0))] [.cells (Zb a),.cells (Zb b)] (AWP.seq ?_))
 obtain⟨c,d,hF⟩:=bindb hF
 refine AWP.rg0 [(4,.call Tryz.func55 [] (Zkf a.Real b.Real c d))] [(4,(i64 c))] (AWP.ret ?_)
 have hr:=someb hF
 subst hr
 exact(FnQ.f0 0 (.inr rfl))
def Zil (a:Int) (r:((List Za) × (List (Zc × Za)))):PV→List Blk→Prop:=fun p K=>p=(slc 21 Zb r.1)∧K=[.fm (List.map (entF Zh Zf) r.2),.cells [(i64 a),(.mp 0)]]
theorem Zim (c:Int) (p:(List (Zc × Za))) (g:Int) (r:((List Za) × (List (Zc × Za)))) (hF:Zcg c p g=some r):ACall Tryz.prog glob 33 [(.ptr 1 0),(i64 g)] [.fm (List.map (entF Zh Zf) p),.cells [(i64 c),(.mp 0)]] (Zil c r):=by
 refine ACall.body Tryz.func33 rfl (by kernel_rfl) ?_
 unfold Zcg at hF
 refine AWP.seq (AWP.rg0 [] [(0,(.ptr 1 0)),(1,(i64 g))] (AWP.seq (AWP.seq (AWP.rg0 [(1,.ptrNil)] [(0,(.ptr 1 0)),(1,(i64 g)),(9,(vb false))] ?_))))
 refine AWP.cF ?_
 refine AWP.skip (AWP.seq ?_)
 obtain⟨d,a3,hF⟩:=bindb hF
 refine AWP.rg [(2,.callS Tryz.func26 [0,1] [] (Zas c p g d a3))] [(0,(.ptr 1 0))] [.fm (List.map (entF Zh Zf) d.2),.cells [(i64 c),(.mp 0)]] (AWP.seq (AWP.rg0 [] [(0,(.ptr 1 0)),(5,nils)] ?_))
 refine AWP.own (H':=[.fm (List.map (entF Zh Zf) d.2),.cells [(i64 c),(.mp 0)],bf 21 67 Zb ([]:(List Za)) false]) (st':=[(5,(.own 2 (List.length ([]:(List Za))))),(0,(.ptr 1 0))]) 5 21 67 (by kernel_rfl) (by kernel_rfl) (by kernel_rfl) ?_
 refine AWP.pick (st':=[(0,(.ptr 1 0)),(5,(.own 2 (List.length ([]:(List Za)))))]) (ks:=[0,5]) (by kernel_rfl) ?_
 refine AWP.seq (AWP.seq ?_)
 refine AWP.openM Zh Zf d.2 0 (fun a0 a a4=>?_)
 refine AWP.rg [(4,.rngE)] [(5,(.own 2 (List.length ([]:(List Za))))),(17,(.ptr 3 0))] [.map (List.map (entT Zh Zf) a0) a,.cells [(i64 c),(.mp 0)],bf 21 67 Zb ([]:(List Za)) false,.iter (some 0) a [] a] ?_
 have u:=allpb hF
 clear hF
 refine AWP.kp [5,17] 4 ?_ (hfar:=(farM (farC (by kernel_rfl) (farC (by kernel_rfl) (farC (by kernel_rfl) farN)))))
 refine AWP.mid (fun e st H=>∃ k,∃(j:Empty ⊕ (List Za)),k.Perm d.2∧mfold (Zbd) k ([]:(List Za))=some j∧overM Zh Zf (fun(s_:(List Za))=>d.2) (fun(s_:(List Za))=>[(5,(.own 2 (List.length s_))),(17,(.ptr 3 0))]) (fun(s_:(List Za)) (x_ y_:Blk)=>[x_,.cells [(i64 c),(.mp 0)],bf 21 67 Zb s_ false,y_]) (fun(_:Empty) _ _ _=>False) 0 a j e st H) ?_ ?_
 ·refine AWP.rangeQ (it:=17) (t:=18) (b:=19) (i:=0) (q:=3) (cl:=a) (kv:=Zh) (vv:=Zf) (B:=Zbd) (M:=(fun(s_:(List Za))=>d.2)) (stf:=(fun(s_:(List Za))=>[(5,(.own 2 (List.length s_))),(17,(.ptr 3 0))])) (Hf:=(fun(s_:(List Za)) (x_ y_:Blk)=>[x_,.cells [(i64 c),(.mp 0)],bf 21 67 Zb s_ false,y_])) (Qe:=(fun(_:Empty) _ _ _=>False)) (L:=d.2) (si_:=([]:(List Za))) (Ei_:=a0) (by kernel_rfl) (fun _=>rfl) (fun _ _ _=>rfl) (fun _ _ _=>rfl) (fun _ _ _ _=>rfl) (fun _ _ _=>rfl) (fun y_ _ _ _ _=>(by cases y_)) a4 rfl (fun l_ h_=>isb (u l_ h_)) rfl rfl ?_ (fun l_ o_ h1_ h2_ e st H h3_=>LeQ.of ⟨l_,o_,h1_,h2_,h3_⟩)
  rintro w m ⟨z,n⟩ f j hF a5 a1
  rw [Zbd] at hF
  show AWP _ _ _ _ _ _ [(5,(.own 2 (List.length f))),(17,(.ptr 3 0))] [.map (List.map (entT Zh Zf) w) a,.cells [(i64 c),(.mp 0)],bf 21 67 Zb f false,.iter (some 0) a (m++[z]) a]
  refine AWP.block (AWP.seq (AWP.rg [(0,.entE Zf a1 m a5)] [(5,(.own 2 (List.length f))),(7,(.ptr 4 0)),(17,(.ptr 3 0))] [.map (List.map (entT Zh Zf) w) a,.cells [(i64 c),(.mp 0)],bf 21 67 Zb f false,.iter (some 0) a (m++[z]) a,.cells (Zb n.2)] ?_))
  obtain⟨a6,hF⟩:=chkb hF
  refine AWP.rg [(3,.app Zb (fun _=>by kernel_rfl) a6)] [(5,(.own 2 (List.length (f++[n.2])))),(17,(.ptr 3 0))] [.map (List.map (entT Zh Zf) w) a,.cells [(i64 c),(.mp 0)],bf 21 67 Zb (f++[n.2]) false,.iter (some 0) a (m++[z]) a,.cells (Zb n.2)] (LeQ.start ?_)
  refine LeQ.pk [5,17] 4 ?_ (hfar:=(farM (farC (by kernel_rfl) (farC (by kernel_rfl) (farC (by kernel_rfl) farN)))))
  have hr:=someb hF
  subst hr
  exact roundM.mk a1 (.inl rfl)
 ·rintro e st H ⟨k,j,a7,a8,a9⟩
  have hF:=overb a8 (u k a7)
  clear u
  obtain b0 | f:=j
  ·exact (by cases b0)
  ·obtain⟨rfl,b4,b1,b2,rfl,rfl⟩:=a9
   refine AWP.closeM Zf 0 b2 ?_
   refine AWP.seq ?_
   obtain⟨o,b3,hF⟩:=bindb hF
   obtain⟨a2,hF⟩:=chkb hF
   refine AWP.rg [(1,.callBZ (s:=21) Zb Tryz.func53 (fun _=>rfl) a2 (fun hn sp=>ACall.sortF Tryz.srt53 Tryz.isAgg67 Tryz.sizeOf67 Zd9 (fun _=>rfl) (fun x v hv=>by simp only [Zd9,List.mem_cons,List.not_mem_nil,or_false] at hv; rcases hv with rfl | rfl | rfl | rfl | rfl | rfl | rfl | rfl | rfl | rfl | rfl | rfl | rfl | rfl | rfl | rfl | rfl | rfl | rfl | rfl | rfl <;> rfl) (enters_of Tryz.func54 (by kernel_rfl) rfl) (fun x y r h=>Zhn x y r h) b3 hn sp) (ACall.sortF0 Tryz.srt53 _ _))] [(5,(.own 2 (List.length f)))] [.fm (List.map (entF Zh Zf) d.2),.cells [(i64 c),(.mp 0)],bf 21 67 Zb o true,.iter (some 0) a b1 a] ?_
   rw [show ([(5,(.own 2 (List.length f)))]:St)=[(5,(.own 2 (List.length o)))] by simp only [a2]]
   refine AWP.seq (AWP.rg0 [] [(4,(.own 2 (List.length o)))] (AWP.ret ?_))
   have hr:=someb hF
   subst hr
   exact(FnQ.f1 2 (.inr rfl) (.inl (Wk.ownT (i:=2) (s:=21) (t:=67) (l:=o) (sh:=true) (row:=Zb) (by kernel_rfl) (.inl rfl))))
def Zic (r:Bool):PV→List Blk→Prop:=fun p K=>p=(vb r)∧K=[]
abbrev Zm8 (r:Bool):Exit→St→List Blk→Prop:=FnQ Tryz.prog Tryz.f51.results 0 (Zic r)
theorem Zm9 (a:(List Za)) (b:(List Za)) (r:Bool) (hF:Zd6 a b=some r):ACall Tryz.prog glob 51 [(slc 21 Zb a),(slc 21 Zb b)] [] (Zic r):=by
 refine ACall.body Tryz.func51 rfl (by kernel_rfl) ?_
 unfold Zd6 at hF
 refine AWP.seq (AWP.rg0 [] [(0,(slc 21 Zb a)),(1,(slc 21 Zb b))] (AWP.seq (AWP.seq (AWP.rg0 [(1,.len Zb a),(3,.len Zb b)] [(0,(slc 21 Zb a)),(1,(slc 21 Zb b)),(10,(vb ((List.length a:Int) != (List.length b:Int))))] ?_))))
 refine AWP.cif hF (fun g hF=>?_) (fun g hF=>?_)
 ·refine AWP.seq (AWP.rg0 [] [(4,(vb false))] (AWP.ret ?_))
  have hr:=someb hF
  subst hr
  exact(FnQ.f0 0 (.inr rfl))
 ·refine AWP.skip (AWP.seq (AWP.seq (AWP.rg0 [] [(0,(slc 21 Zb a)),(1,(slc 21 Zb b)),(5,(i64 (0:Int)))] ?_)))
  obtain⟨d,i,hF⟩:=bindb hF
  refine AWP.mid (fun e st H=>(e=.normal∧d=(.inl ())∧st=[]∧H=[])∨(e=.ret∧∃ r,d=(.inr r)∧Zm8 r e st H)) ?_ ?_
  ·clear hF
   refine AWP.kp [0,1,5] 0 ?_
   refine AWP.bround (fun n st H=>∃ c,Zb1 a b n c=some d∧st=[(0,(slc 21 Zb a)),(1,(slc 21 Zb b)),(5,(i64 c))]∧H=[]) fuel ⟨(0:Int),i,by kernel_rfl,by kernel_rfl⟩ ?_
   rintro f st H ⟨c,hF,rfl,rfl⟩
   cases f with
   | zero=>exact noneb hF
   | succ f=>
    rw [Zb1] at hF
    refine AWP.seq (AWP.seq (AWP.rg0 [(2,.len Zb a)] [(0,(slc 21 Zb a)),(1,(slc 21 Zb b)),(5,(i64 c)),(14,(vb (decide (c<(List.length a:Int)))))] ?_))
    refine AWP.cif hF (fun j hF=>?_) (fun j hF=>?_)
    ·refine AWP.skip (AWP.seq (AWP.block (AWP.seq ?_)))
     obtain⟨k,l,hF⟩:=bindb hF
     obtain⟨m,o,hF⟩:=bindb hF
     refine AWP.dr [(2,.idx Zb l),(6,.idx Zb o)] 9 [] [] [] [(0,(slc 21 Zb a)),(1,(slc 21 Zb b)),(5,(i64 c)),(25,(vb (!(Zb8 k m))))] [] ?_
     refine AWP.cif hF (fun p hF=>?_) (fun p hF=>?_)
     ·refine AWP.seq (AWP.rg0 [] [(4,(vb false))] (AWP.ret ?_))
      exact LeQ.of (.inr ⟨rfl,false,(someb hF).symm,(FnQ.f0 0 (.inr rfl))⟩)
     ·refine AWP.skip (AWP.rg0 [] [(0,(slc 21 Zb a)),(1,(slc 21 Zb b)),(5,(i64 (ZI (c + (1:Int)))))] (LeQ.start (LeQ.pk [0,1,5] 0 ?_)))
      exact⟨f,Nat.lt_succ_self _,(ZI (c + (1:Int))),hF,by kernel_rfl,by kernel_rfl⟩
    ·refine AWP.exit (LeQ.start (LeQ.pk [] 0 ?_))
     exact(.inl ⟨rfl,(someb hF).symm,by kernel_rfl,by kernel_rfl⟩)
  ·rintro _ _ _ (⟨rfl,rfl,rfl,rfl⟩ | ⟨rfl,q,rfl,hq⟩)
   ·refine AWP.seq (AWP.rg0 [] [(4,(vb true))] (AWP.ret ?_))
    have hr:=someb hF
    subst hr
    exact(FnQ.f0 0 (.inr rfl))
   ·have hr:=someb hF
    subst hr
    exact hq
def Zna (a:Int) (r:(Bool × (List (Zc × Za)) × Zk)):PV→List Blk→Prop:=fun p K=>p=(vb r.1)∧K=[.fm (List.map (entF Zh Zf) r.2.1),.cells [(i64 a),(.mp 0)],.cells (Zi r.2.2)]
theorem Znb (d:Int) (u:(List (Zc × Za))) (t:Zk) (a:Zw) (r:(Bool × (List (Zc × Za)) × Zk)) (hF:Zdj d u t a=some r):ACall Tryz.prog glob 29 [(.ptr 1 0),(.ptr 2 0),(Zfr a)] [.fm (List.map (entF Zh Zf) u),.cells [(i64 d),(.mp 0)],.cells (Zi t)] (Zna d r):=by
 refine ACall.body Tryz.func29 rfl (by kernel_rfl) ?_
 unfold Zdj at hF
 refine AWP.seq (AWP.rg [] [(0,(.ptr 1 0)),(1,(.ptr 2 0)),(5,(.ptr 3 0))] [.fm (List.map (entF Zh Zf) u),.cells [(i64 d),(.mp 0)],.cells (Zi t),.cells (Zs a)] (AWP.seq ?_))
 obtain⟨c,a9,hF⟩:=bindb hF
 refine AWP.rg [(5,.callS Tryz.func30 [0,1] [] (Zik d u a.Real a.Now c a9))] [(0,(.ptr 1 0)),(1,(.ptr 2 0)),(5,(.ptr 3 0)),(7,(.ptr 4 0)),(8,(vb c.2.1))] [.fm (List.map (entF Zh Zf) c.2.2),.cells [(i64 d),(.mp 0)],.cells (Zi t),.cells (Zs a),.cells (Zb c.1)] (AWP.seq ?_)
 obtain⟨b,b0,hF⟩:=bindb hF
 refine AWP.rg [(5,.call Tryz.func49 [] (Zi1 t a.Real a.Now b b0))] [(0,(.ptr 1 0)),(1,(.ptr 2 0)),(5,(.ptr 3 0)),(7,(.ptr 4 0)),(8,(vb c.2.1)),(9,(.ptr 5 0)),(10,(vb b.2.1))] [.fm (List.map (entF Zh Zf) c.2.2),.cells [(i64 d),(.mp 0)],.cells (Zi b.2.2),.cells (Zs a),.cells (Zb c.1),.cells (Zb b.1)] (AWP.seq ?_)
 obtain⟨v,z,hF⟩:=bindb hF
 obtain⟨f,a0,hF⟩:=bindb hF
 refine AWP.to [(0,(.ptr 1 0)),(1,(.ptr 2 0)),(5,(.ptr 3 0)),(7,(.ptr 4 0)),(8,(vb c.2.1)),(9,(.ptr 5 0)),(10,(vb b.2.1)),(11,(.ptr 6 0)),(12,(vb f.2.1))] [.fm (List.map (entF Zh Zf) f.2.2),.cells [(i64 d),(.mp 0)],.cells (Zi b.2.2),.cells (Zs a),.cells (Zb c.1),.cells (Zb b.1),.cells (Zb f.1)] ?_ ?_
 ·refine AWP.of_draw (by kernel_rfl) ?_
  refine ADraw.either 12 8 (by kernel_rfl) ?_ ?_
  ·exact ADraw.drT [(5,.call Tryz.func31 [] (Za8 a.Sent v z)),(8,.callS Tryz.func32 [0,1] [] (Zcc d c.2.2 a.Edge v a.Now f a0))] 14 [] [8,12,13] []
  ·exact ADraw.drT [(5,.call Tryz.func31 [] (Za8 a.Sent v z)),(8,.callS Tryz.func32 [0,1] [] (Zcc d c.2.2 a.Edge v a.Now f a0))] 14 [0,1,2,3,4,5,6,7,12,8,9,10,11,13] [12,8,13] []
 refine AWP.seq ?_
 obtain⟨w,a1,hF⟩:=bindb hF
 obtain⟨g,a2,hF⟩:=bindb hF
 refine AWP.to [(0,(.ptr 1 0)),(1,(.ptr 2 0)),(5,(.ptr 3 0)),(7,(.ptr 4 0)),(8,(vb c.2.1)),(9,(.ptr 5 0)),(10,(vb b.2.1)),(11,(.ptr 6 0)),(12,(vb f.2.1)),(13,(.ptr 7 0)),(14,(vb g.2.1))] [.fm (List.map (entF Zh Zf) f.2.2),.cells [(i64 d),(.mp 0)],.cells (Zi g.2.2),.cells (Zs a),.cells (Zb c.1),.cells (Zb b.1),.cells (Zb f.1),.cells (Zb g.1)] ?_ ?_
 ·refine AWP.of_draw (by kernel_rfl) ?_
  refine ADraw.either 12 8 (by kernel_rfl) ?_ ?_
  ·exact ADraw.drT [(5,.call Tryz.func31 [] (Za8 a.Sent w a1)),(8,.call Tryz.func50 [] (Zck b.2.2 a.Edge w a.Now g a2))] 14 [] [8,12,13] []
  ·exact ADraw.drT [(5,.call Tryz.func31 [] (Za8 a.Sent w a1)),(8,.call Tryz.func50 [] (Zck b.2.2 a.Edge w a.Now g a2))] 14 [0,1,2,3,4,5,6,7,12,8,9,10,11,13] [12,8,13] []
 refine AWP.seq ?_
 obtain⟨x,a3,hF⟩:=bindb hF
 obtain⟨i,a4,hF⟩:=bindb hF
 refine AWP.to [(0,(.ptr 1 0)),(1,(.ptr 2 0)),(5,(.ptr 3 0)),(7,(.ptr 4 0)),(8,(vb c.2.1)),(9,(.ptr 5 0)),(10,(vb b.2.1)),(11,(.ptr 6 0)),(12,(vb f.2.1)),(13,(.ptr 7 0)),(14,(vb g.2.1)),(15,(.ptr 8 0)),(16,(vb i.2.1))] [.fm (List.map (entF Zh Zf) i.2.2),.cells [(i64 d),(.mp 0)],.cells (Zi g.2.2),.cells (Zs a),.cells (Zb c.1),.cells (Zb b.1),.cells (Zb f.1),.cells (Zb g.1),.cells (Zb i.1)] ?_ ?_
 ·refine AWP.of_draw (by kernel_rfl) ?_
  refine ADraw.either 12 8 (by kernel_rfl) ?_ ?_
  ·exact ADraw.drT [(5,.call Tryz.func31 [] (Za8 b.1.Delivered x a3)),(8,.callS Tryz.func32 [0,1] [] (Zcc d f.2.2 a.Edge x a.Now i a4))] 14 [] [8,12,13] []
  ·exact ADraw.drT [(5,.call Tryz.func31 [] (Za8 b.1.Delivered x a3)),(8,.callS Tryz.func32 [0,1] [] (Zcc d f.2.2 a.Edge x a.Now i a4))] 14 [0,1,2,3,4,5,6,7,12,8,9,10,11,13] [12,8,13] []
 refine AWP.seq ?_
 obtain⟨y,a5,hF⟩:=bindb hF
 obtain⟨p,a6,hF⟩:=bindb hF
 refine AWP.to [(0,(.ptr 1 0)),(1,(.ptr 2 0)),(5,(.ptr 3 0)),(7,(.ptr 4 0)),(8,(vb c.2.1)),(9,(.ptr 5 0)),(10,(vb b.2.1)),(11,(.ptr 6 0)),(12,(vb f.2.1)),(13,(.ptr 7 0)),(14,(vb g.2.1)),(15,(.ptr 8 0)),(16,(vb i.2.1)),(17,(.ptr 9 0)),(18,(vb p.2.1))] [.fm (List.map (entF Zh Zf) i.2.2),.cells [(i64 d),(.mp 0)],.cells (Zi p.2.2),.cells (Zs a),.cells (Zb c.1),.cells (Zb b.1),.cells (Zb f.1),.cells (Zb g.1),.cells (Zb i.1),.cells (Zb p.1)] ?_ ?_
 ·refine AWP.of_draw (by kernel_rfl) ?_
  refine ADraw.either 12 8 (by kernel_rfl) ?_ ?_
  ·exact ADraw.drT [(5,.call Tryz.func31 [] (Za8 b.1.Delivered y a5)),(8,.call Tryz.func50 [] (Zck g.2.2 a.Edge y a.Now p a6))] 14 [] [8,12,13] []
  ·exact ADraw.drT [(5,.call Tryz.func31 [] (Za8 b.1.Delivered y a5)),(8,.call Tryz.func50 [] (Zck g.2.2 a.Edge y a.Now p a6))] 14 [0,1,2,3,4,5,6,7,12,8,9,10,11,13] [12,8,13] []
 refine AWP.seq ?_
 obtain⟨b1,j,hF⟩:=bindb hF
 replace j:=someb j
 obtain⟨b2,k,hF⟩:=bindb hF
 replace k:=someb k
 obtain⟨b3,l,hF⟩:=bindb hF
 replace l:=someb l
 obtain⟨b4,m,hF⟩:=bindb hF
 replace m:=someb m
 obtain⟨b5,n,hF⟩:=bindb hF
 replace n:=someb n
 obtain⟨b6,o,hF⟩:=bindb hF
 replace o:=someb o
 obtain⟨a7,q,hF⟩:=bindb hF
 refine AWP.to [(6,(vb a7.1))] [.fm (List.map (entF Zh Zf) a7.2),.cells [(i64 d),(.mp 0)],.cells (Zi p.2.2),.cells (Zs a),.cells (Zb c.1),.cells (Zb b.1),.cells (Zb f.1),.cells (Zb g.1),.cells (Zb i.1),.cells (Zb p.1)] ?_ ?_
 ·cases b1 with
  | false=>
   subst k
   subst l
   subst m
   subst n
   subst o
   have b7:=someb (ifF q rfl)
   subst b7
   exact AWP.drT [(3,.bool j)] 39 [] [] []
  | true=>
   cases b2 with
   | false=>
    subst l
    subst m
    subst n
    subst o
    have b8:=someb (ifF q rfl)
    subst b8
    exact AWP.drT [(3,.bool j),(8,.bool k)] 39 [] [] []
   | true=>
    cases b3 with
    | false=>
     subst m
     subst n
     subst o
     have b9:=someb (ifF q rfl)
     subst b9
     exact AWP.drT [(3,.bool j),(8,.bool k),(13,.bool l)] 39 [] [] []
    | true=>
     cases b4 with
     | false=>
      subst n
      subst o
      have c0:=someb (ifF q rfl)
      subst c0
      exact AWP.drT [(3,.bool j),(8,.bool k),(13,.bool l),(18,.bool m)] 39 [] [] []
     | true=>
      cases b5 with
      | false=>
       subst o
       have c1:=someb (ifF q rfl)
       subst c1
       exact AWP.drT [(3,.bool j),(8,.bool k),(13,.bool l),(18,.bool m),(23,.bool n)] 39 [] [] []
      | true=>
       cases b6 with
       | false=>
        have c2:=someb (ifF q rfl)
        subst c2
        exact AWP.drT [(3,.bool j),(8,.bool k),(13,.bool l),(18,.bool m),(23,.bool n),(28,.bool o)] 39 [] [] []
       | true=>
        have s:=ifT q rfl
        obtain⟨a8,c3,s⟩:=bindb s
        obtain⟨c4,c5,s⟩:=bindb s
        replace s:=someb s
        subst s
        exact AWP.drT [(3,.bool j),(8,.bool k),(13,.bool l),(18,.bool m),(23,.bool n),(28,.bool o),(32,.callS Tryz.func33 [0,1] [] (Zim d i.2.2 a.Now a8 c3)),(37,.call Tryz.func51 [] (Zm9 a8.1 p.2.2.L c4 c5))] 39 [] [32] []
 refine AWP.ret ?_
 have hr:=someb hF
 subst hr
 exact(FnQ.f0 3 (.inr rfl))
def Zj3 (a:Int) (r:(Bool × (List (Zc × Za)) × Zk)):PV→List Blk→Prop:=fun p K=>p=(vb r.1)∧K=[.fm (List.map (entF Zh Zf) r.2.1),.cells [(i64 a),(.mp 0)],.cells (Zi r.2.2)]
abbrev Zoo (a:Int) (r:(Bool × (List (Zc × Za)) × Zk)):Exit→St→List Blk→Prop:=FnQ Tryz.prog Tryz.f9.results 3 (Zj3 a r)
theorem Zff (b:Int) (f:(List (Zc × Za))) (c:Zk) (a:Zw) (r:(Bool × (List (Zc × Za)) × Zk)) (hF:Zdn b f c a=some r):ACall Tryz.prog glob 9 [(.ptr 1 0),(.ptr 2 0),(Zfr a)] [.fm (List.map (entF Zh Zf) f),.cells [(i64 b),(.mp 0)],.cells (Zi c)] (Zj3 b r):=by
 refine ACall.body Tryz.func9 rfl (by kernel_rfl) ?_
 unfold Zdn at hF
 refine AWP.seq (AWP.rg [] [(0,(.ptr 1 0)),(1,(.ptr 2 0)),(5,(.ptr 3 0))] [.fm (List.map (entF Zh Zf) f),.cells [(i64 b),(.mp 0)],.cells (Zi c),.cells (Zs a)] ?_)
 obtain⟨y,a0,hF⟩:=bindb hF
 refine AWP.seq ?_
 refine AWP.mid (fun e st H=>(e=.normal∧∃ o,∃ p,y=(.inl (o,p))∧st=[(0,(.ptr 1 0)),(1,(.ptr 2 0)),(5,(.ptr 3 0))]∧H=[.fm (List.map (entF Zh Zf) o),.cells [(i64 b),(.mp 0)],.cells (Zi p),.cells (Zs a)])∨(e=.ret∧∃ r,y=(.inr r)∧Zoo b r e st H)) ?_ ?_
 ·clear hF
  have hF:=a0
  refine AWP.seq (AWP.rg0 [] [(0,(.ptr 1 0)),(1,(.ptr 2 0)),(5,(.ptr 3 0)),(12,(i64 a.Kind))] (AWP.block (AWP.seq (AWP.rg0 [] [(0,(.ptr 1 0)),(1,(.ptr 2 0)),(5,(.ptr 3 0)),(12,(i64 a.Kind)),(13,(vb (a.Kind == (0:Int))))] ?_))))
  refine AWP.cif hF (fun a1 hF=>?_) (fun a1 hF=>?_)
  ·refine AWP.seq ?_
   obtain⟨i,a2,hF⟩:=bindb hF
   obtain⟨j,a3,hF⟩:=bindb hF
   refine AWP.dr [(13,.callS Tryz.func17 [0,1] [] (Zgw b f a.Edge a.Sent a.Real a.Class a.Opens a.Now i a2)),(27,.call Tryz.func18 [] (Zhg c a.Edge a.Sent a.Real a.Class a.Opens a.Now j a3))] 29 [] [13,27] [] [(0,(.ptr 1 0)),(1,(.ptr 2 0)),(5,(.ptr 3 0)),(43,(vb (i.1 != j.1)))] [.fm (List.map (entF Zh Zf) i.2),.cells [(i64 b),(.mp 0)],.cells (Zi j.2),.cells (Zs a)] ?_
   refine AWP.cif hF (fun a4 hF=>?_) (fun a4 hF=>?_)
   ·refine AWP.seq (AWP.rg0 [] [(6,(vb false))] (AWP.ret ?_))
    exact LeQ.of (.inr ⟨rfl,(false,i.2,j.2),(someb hF).symm,(FnQ.f0 3 (.inr rfl))⟩)
   ·refine AWP.skip (LeQ.start (LeQ.pk [0,1,5] 4 ?_))
    exact(.inl ⟨rfl,i.2,j.2,(someb hF).symm,by kernel_rfl,by kernel_rfl⟩)
  ·refine AWP.seq (AWP.rg0 [] [(0,(.ptr 1 0)),(1,(.ptr 2 0)),(5,(.ptr 3 0)),(12,(i64 a.Kind)),(44,(vb (a.Kind == (1:Int))))] ?_)
   refine AWP.cif hF (fun a5 hF=>?_) (fun a5 hF=>?_)
   ·refine AWP.seq ?_
    obtain⟨d,a6,hF⟩:=bindb hF
    refine AWP.rg [(13,.callS Tryz.func19 [0,1] [] (Zhi b f a.Edge a.Real a.Class a.Hides a.Opens a.Now d a6))] [(0,(.ptr 1 0)),(1,(.ptr 2 0)),(5,(.ptr 3 0)),(7,(.ptr 4 0)),(8,(i64 d.2.1))] [.fm (List.map (entF Zh Zf) d.2.2),.cells [(i64 b),(.mp 0)],.cells (Zi c),.cells (Zs a),.cells (Ze d.1)] (AWP.seq ?_)
    obtain⟨g,a7,hF⟩:=bindb hF
    refine AWP.rg [(13,.call Tryz.func20 [] (Zhx c a.Edge a.Real a.Class a.Hides a.Opens a.Now g a7))] [(0,(.ptr 1 0)),(1,(.ptr 2 0)),(5,(.ptr 3 0)),(7,(.ptr 4 0)),(8,(i64 d.2.1)),(9,(.ptr 5 0)),(10,(i64 g.2.1))] [.fm (List.map (entF Zh Zf) d.2.2),.cells [(i64 b),(.mp 0)],.cells (Zi g.2.2),.cells (Zs a),.cells (Ze d.1),.cells (Ze g.1)] (AWP.seq ?_)
    obtain⟨z,q,hF⟩:=bindb hF
    replace q:=someb q
    refine AWP.to [(0,(.ptr 1 0)),(1,(.ptr 2 0)),(5,(.ptr 3 0)),(87,(vb (z || (d.2.1 != g.2.1))))] [.fm (List.map (entF Zh Zf) d.2.2),.cells [(i64 b),(.mp 0)],.cells (Zi g.2.2),.cells (Zs a),.cells (Ze d.1),.cells (Ze g.1)] ?_ ?_
    ·cases z with
     | false=>
      exact AWP.rgT [(3,.bool q)]
     | true=>
      exact AWP.rgT [(3,.bool q)]
    refine AWP.cif hF (fun a8 hF=>?_) (fun a8 hF=>?_)
    ·refine AWP.seq (AWP.rg0 [] [(6,(vb false))] (AWP.ret ?_))
     exact LeQ.of (.inr ⟨rfl,(false,d.2.2,g.2.2),(someb hF).symm,(FnQ.f0 3 (.inr rfl))⟩)
    ·refine AWP.skip (LeQ.start (LeQ.pk [0,1,5] 4 ?_))
     exact(.inl ⟨rfl,d.2.2,g.2.2,(someb hF).symm,by kernel_rfl,by kernel_rfl⟩)
   ·refine AWP.seq (AWP.rg0 [] [(0,(.ptr 1 0)),(1,(.ptr 2 0)),(5,(.ptr 3 0)),(12,(i64 a.Kind)),(88,(vb (a.Kind == (2:Int))))] ?_)
    refine AWP.cif hF (fun a9 hF=>?_) (fun a9 hF=>?_)
    ·refine AWP.seq ?_
     obtain⟨k,b0,hF⟩:=bindb hF
     obtain⟨l,b1,hF⟩:=bindb hF
     refine AWP.dr [(7,.callS Tryz.func21 [0,1] [] (Zg0 b f a.Real a.Class a.Now k b0)),(15,.call Tryz.func22 [] (Zhk c a.Real a.Class a.Now l b1))] 17 [] [7,15] [] [(0,(.ptr 1 0)),(1,(.ptr 2 0)),(5,(.ptr 3 0)),(106,(vb (k.1 != l.1)))] [.fm (List.map (entF Zh Zf) k.2),.cells [(i64 b),(.mp 0)],.cells (Zi l.2),.cells (Zs a)] ?_
     refine AWP.cif hF (fun b2 hF=>?_) (fun b2 hF=>?_)
     ·refine AWP.seq (AWP.rg0 [] [(6,(vb false))] (AWP.ret ?_))
      exact LeQ.of (.inr ⟨rfl,(false,k.2,l.2),(someb hF).symm,(FnQ.f0 3 (.inr rfl))⟩)
     ·refine AWP.skip (LeQ.start (LeQ.pk [0,1,5] 4 ?_))
      exact(.inl ⟨rfl,k.2,l.2,(someb hF).symm,by kernel_rfl,by kernel_rfl⟩)
    ·refine AWP.seq (AWP.rg0 [] [(0,(.ptr 1 0)),(1,(.ptr 2 0)),(5,(.ptr 3 0)),(12,(i64 a.Kind)),(107,(vb (a.Kind == (3:Int))))] ?_)
     refine AWP.cif hF (fun b3 hF=>?_) (fun b3 hF=>?_)
     ·refine AWP.seq ?_
      obtain⟨s,b4,hF⟩:=bindb hF
      refine AWP.rg [(7,.callS Tryz.func23 [0,1] [] (Zg2 b f a.Real a.Flags a.Now s b4))] [(0,(.ptr 1 0)),(1,(.ptr 2 0)),(5,(.ptr 3 0))] [.fm (List.map (entF Zh Zf) s),.cells [(i64 b),(.mp 0)],.cells (Zi c),.cells (Zs a)] ?_
      obtain⟨w,b5,hF⟩:=bindb hF
      refine AWP.rg [(7,.call Tryz.func24 [] (Zfb c a.Real a.Flags a.Now false w b5))] [(0,(.ptr 1 0)),(1,(.ptr 2 0)),(5,(.ptr 3 0))] [.fm (List.map (entF Zh Zf) s),.cells [(i64 b),(.mp 0)],.cells (Zi w),.cells (Zs a)] (LeQ.start (LeQ.pk [0,1,5] 4 ?_))
      exact(.inl ⟨rfl,s,w,(someb hF).symm,by kernel_rfl,by kernel_rfl⟩)
     ·refine AWP.seq (AWP.rg0 [] [(0,(.ptr 1 0)),(1,(.ptr 2 0)),(5,(.ptr 3 0)),(12,(i64 a.Kind)),(125,(vb (a.Kind == (4:Int))))] ?_)
      refine AWP.cif hF (fun b6 hF=>?_) (fun b6 hF=>?_)
      ·refine AWP.seq ?_
       obtain⟨t,b7,hF⟩:=bindb hF
       refine AWP.rg [(7,.callS Tryz.func25 [0,1] [] (Zh0 b f a.Real a.Flags a.Now t b7))] [(0,(.ptr 1 0)),(1,(.ptr 2 0)),(5,(.ptr 3 0))] [.fm (List.map (entF Zh Zf) t),.cells [(i64 b),(.mp 0)],.cells (Zi c),.cells (Zs a)] ?_
       obtain⟨x,b8,hF⟩:=bindb hF
       refine AWP.rg [(7,.call Tryz.func24 [] (Zfb c a.Real a.Flags a.Now true x b8))] [(0,(.ptr 1 0)),(1,(.ptr 2 0)),(5,(.ptr 3 0))] [.fm (List.map (entF Zh Zf) t),.cells [(i64 b),(.mp 0)],.cells (Zi x),.cells (Zs a)] (LeQ.start (LeQ.pk [0,1,5] 4 ?_))
       exact(.inl ⟨rfl,t,x,(someb hF).symm,by kernel_rfl,by kernel_rfl⟩)
      ·refine AWP.seq (AWP.rg0 [] [(0,(.ptr 1 0)),(1,(.ptr 2 0)),(5,(.ptr 3 0)),(12,(i64 a.Kind)),(143,(vb (a.Kind == (5:Int))))] ?_)
       refine AWP.cif hF (fun b9 hF=>?_) (fun b9 hF=>?_)
       ·refine AWP.seq ?_
        obtain⟨m,c0,hF⟩:=bindb hF
        obtain⟨n,c1,hF⟩:=bindb hF
        refine AWP.dr [(3,.callS Tryz.func26 [0,1] [] (Zas b f a.Now m c0)),(7,.call Tryz.func27 [] (Zbc c a.Now n c1))] 9 [] [3,7] [] [(0,(.ptr 1 0)),(1,(.ptr 2 0)),(5,(.ptr 3 0)),(153,(vb (m.1 != n.1)))] [.fm (List.map (entF Zh Zf) m.2),.cells [(i64 b),(.mp 0)],.cells (Zi n.2),.cells (Zs a)] ?_
        refine AWP.cif hF (fun c2 hF=>?_) (fun c2 hF=>?_)
        ·refine AWP.seq (AWP.rg0 [] [(6,(vb false))] (AWP.ret ?_))
         exact LeQ.of (.inr ⟨rfl,(false,m.2,n.2),(someb hF).symm,(FnQ.f0 3 (.inr rfl))⟩)
        ·refine AWP.skip (LeQ.start (LeQ.pk [0,1,5] 4 ?_))
         exact(.inl ⟨rfl,m.2,n.2,(someb hF).symm,by kernel_rfl,by kernel_rfl⟩)
       ·refine AWP.seq (AWP.rg0 [] [(0,(.ptr 1 0)),(1,(.ptr 2 0)),(5,(.ptr 3 0)),(154,(vb (a.Kind == (6:Int))))] ?_)
        refine AWP.cif hF (fun c3 hF=>?_) (fun c3 hF=>?_)
        ·refine AWP.seq ?_
         obtain⟨u,c4,hF⟩:=bindb hF
         refine AWP.rg [(1,.callS Tryz.func28 [0,1] [] (Zh2 b f u c4))] [(0,(.ptr 1 0)),(1,(.ptr 2 0)),(5,(.ptr 3 0))] [.fm (List.map (entF Zh Zf) u),.cells [(i64 b),(.mp 0)],.cells (Zi c),.cells (Zs a)] (AWP.rg [] [(0,(.ptr 1 0)),(1,(.ptr 2 0)),(5,(.ptr 3 0))] [.fm (List.map (entF Zh Zf) u),.cells [(i64 b),(.mp 0)],.cells (Zi ({ c with L:=([]:(List Za)) }:Zk)),.cells (Zs a)] (LeQ.start (LeQ.pk [0,1,5] 4 ?_)))
         exact(.inl ⟨rfl,u,({ c with L:=([]:(List Za)) }:Zk),(someb hF).symm,by kernel_rfl,by kernel_rfl⟩)
        ·refine AWP.skip (LeQ.start (LeQ.pk [0,1,5] 4 ?_))
         exact(.inl ⟨rfl,f,c,(someb hF).symm,by kernel_rfl,by kernel_rfl⟩)
 ·rintro _ _ _ (⟨rfl,o,p,rfl,rfl,rfl⟩ | ⟨rfl,c6,rfl,hq⟩)
  ·refine AWP.seq ?_
   obtain⟨v,c5,hF⟩:=bindb hF
   refine AWP.rg [(3,.callS Tryz.func29 [0,1,2] [] (Znb b o p a v c5))] [(6,(vb v.1))] [.fm (List.map (entF Zh Zf) v.2.1),.cells [(i64 b),(.mp 0)],.cells (Zi v.2.2),.cells (Zs a)] (AWP.ret ?_)
   have hr:=someb hF
   subst hr
   exact(FnQ.f0 3 (.inr rfl))
  ·have hr:=someb hF
   subst hr
   exact hq
def Zh3 (a:Int) (b:(List (Zc × Za))) (r:(Int × (List (Zc × Za)))):PV→List Blk→Prop:=fun p K=>p=(.ptr 3 0)∧K=[.fm (List.map (entF Zh Zf) b),.cells [(i64 a),(.mp 0)],.fm (List.map (entF Zh Zf) r.2),.cells [(i64 r.1),(.mp 2)]]
theorem Zh4 (a:Int) (d:(List (Zc × Za))) (r:(Int × (List (Zc × Za)))) (hF:Zb7 a d=some r):ACall Tryz.prog glob 12 [(.ptr 1 0)] [.fm (List.map (entF Zh Zf) d),.cells [(i64 a),(.mp 0)]] (Zh3 a d r):=by
 refine ACall.body Tryz.func12 rfl (by kernel_rfl) ?_
 unfold Zb7 at hF
 refine AWP.seq (AWP.rg0 [] [(0,(.ptr 1 0))] (AWP.seq (AWP.seq (AWP.rg0 [(1,.ptrNil)] [(0,(.ptr 1 0)),(7,(vb false))] ?_))))
 refine AWP.cF ?_
 refine AWP.skip (AWP.seq (AWP.rg [(4,.mkM)] [(0,(.ptr 1 0)),(3,(.ptr 3 0))] [.fm (List.map (entF Zh Zf) d),.cells [(i64 a),(.mp 0)],.fm (List.map (entF Zh Zf) ([]:(List (Zc × Za)))),.cells [(i64 a),(.mp 2)]] (AWP.seq (AWP.seq ?_))))
 refine AWP.openM Zh Zf d 0 (fun p c u=>?_)
 refine AWP.rg [(4,.rngE)] [(3,(.ptr 3 0)),(19,(.ptr 4 0))] [.map (List.map (entT Zh Zf) p) c,.cells [(i64 a),(.mp 0)],.fm (List.map (entF Zh Zf) ([]:(List (Zc × Za)))),.cells [(i64 a),(.mp 2)],.iter (some 0) c [] c] ?_
 have m:=allpb hF
 clear hF
 refine AWP.kp [3,19] 5 ?_ (hfar:=(farM (farC (by kernel_rfl) (farC (by kernel_rfl) (farC (by kernel_rfl) (farC (by kernel_rfl) farN))))))
 refine AWP.mid (fun e st H=>∃ k,∃(j:Empty ⊕ (List (Zc × Za))),k.Perm d∧mfold (Za5) k ([]:(List (Zc × Za)))=some j∧overM Zh Zf (fun(s_:(List (Zc × Za)))=>d) (fun(s_:(List (Zc × Za)))=>[(3,(.ptr 3 0)),(19,(.ptr 4 0))]) (fun(s_:(List (Zc × Za))) (x_ y_:Blk)=>[x_,.cells [(i64 a),(.mp 0)],.fm (List.map (entF Zh Zf) s_),.cells [(i64 a),(.mp 2)],y_]) (fun(_:Empty) _ _ _=>False) 0 c j e st H) ?_ ?_
 ·refine AWP.rangeQ (it:=19) (t:=20) (b:=21) (i:=0) (q:=4) (cl:=c) (kv:=Zh) (vv:=Zf) (B:=Za5) (M:=(fun(s_:(List (Zc × Za)))=>d)) (stf:=(fun(s_:(List (Zc × Za)))=>[(3,(.ptr 3 0)),(19,(.ptr 4 0))])) (Hf:=(fun(s_:(List (Zc × Za))) (x_ y_:Blk)=>[x_,.cells [(i64 a),(.mp 0)],.fm (List.map (entF Zh Zf) s_),.cells [(i64 a),(.mp 2)],y_])) (Qe:=(fun(_:Empty) _ _ _=>False)) (L:=d) (si_:=([]:(List (Zc × Za)))) (Ei_:=p) (by kernel_rfl) (fun _=>rfl) (fun _ _ _=>rfl) (fun _ _ _=>rfl) (fun _ _ _ _=>rfl) (fun _ _ _=>rfl) (fun y_ _ _ _ _=>(by cases y_)) u rfl (fun l_ h_=>isb (m l_ h_)) rfl rfl ?_ (fun l_ o_ h1_ h2_ e st H h3_=>LeQ.of ⟨l_,o_,h1_,h2_,h3_⟩)
  rintro n l ⟨o,f⟩ g j hF v s
  rw [Za5] at hF
  show AWP _ _ _ _ _ _ [(3,(.ptr 3 0)),(19,(.ptr 4 0))] [.map (List.map (entT Zh Zf) n) c,.cells [(i64 a),(.mp 0)],.fm (List.map (entF Zh Zf) g),.cells [(i64 a),(.mp 2)],.iter (some 0) c (l++[o]) c]
  refine AWP.block (AWP.seq (AWP.rg [(0,.entE Zf s l v)] [(3,(.ptr 3 0)),(4,(.ptr 5 0)),(5,(.ptr 6 0)),(19,(.ptr 4 0))] [.map (List.map (entT Zh Zf) n) c,.cells [(i64 a),(.mp 0)],.fm (List.map (entF Zh Zf) g),.cells [(i64 a),(.mp 2)],.iter (some 0) c (l++[o]) c,.cells (Ze f.1),.cells (Zb f.2)] (AWP.dr [(6,.putM Zak Zf g f.1 f.2)] 6 [] [] [] [(3,(.ptr 3 0)),(19,(.ptr 4 0))] [.map (List.map (entT Zh Zf) n) c,.cells [(i64 a),(.mp 0)],.fm (List.map (entF Zh Zf) (mput Zg g f.1 f.2)),.cells [(i64 a),(.mp 2)],.iter (some 0) c (l++[o]) c,.cells (Ze f.1),.cells (Zb f.2)] (LeQ.start ?_))))
  refine LeQ.pk [3,19] 5 ?_ (hfar:=(farM (farC (by kernel_rfl) (farC (by kernel_rfl) (farC (by kernel_rfl) (farC (by kernel_rfl) farN))))))
  have hr:=someb hF
  subst hr
  exact roundM.mk s (.inl rfl)
 ·rintro e st H ⟨k,j,w,x,y⟩
  have hF:=overb x (m k w)
  clear m
  obtain z | g:=j
  ·exact (by cases z)
  ·obtain⟨rfl,a1,a2,a0,rfl,rfl⟩:=y
   refine AWP.closeM Zf 0 a0 ?_
   refine AWP.permM Zh Zf (L':=canonM g) 2 (Zlm g) ?_
   refine AWP.seq (AWP.rg0 [] [(2,(.ptr 3 0))] (AWP.ret ?_))
   have hr:=someb hF
   subst hr
   exact(FnQ.f0 4 (.inr rfl))
def Zin (a:Zk) (r:Zk):PV→List Blk→Prop:=fun p K=>p=(.ptr 1 0)∧K=[.cells (Zi a),.cells (Zi r)]
theorem Zio (c:Zk) (r:Zk) (hF:Zch c=some r):ACall Tryz.prog glob 13 [(.ptr 0 0)] [.cells (Zi c)] (Zin c r):=by
 refine ACall.body Tryz.func13 rfl (by kernel_rfl) ?_
 unfold Zch at hF
 refine AWP.seq (AWP.rg0 [] [(0,(.ptr 0 0))] (AWP.seq ?_))
 obtain⟨d,hF⟩:=chkb hF
 refine AWP.dr [(4,.m),(9,.app Zb (fun _=>by kernel_rfl) d)] 12 [] [4,9,10,11] [] [(2,(.ptr 2 0))] [.cells (Zi c),bf 21 67 Zb (([]:(List Za))++c.L) false,.cells [(i64 c.Most),(.own 1 (List.length (([]:(List Za))++c.L)))]] ?_
 refine AWP.share (s:=21) (t:=67) (xs:=List.map Zb (([]:(List Za))++c.L)) (sh:=false) (H':=[.cells (Zi c),bf 21 67 Zb (([]:(List Za))++c.L) true,.cells [(i64 c.Most),(.own 1 (List.length (([]:(List Za))++c.L)))]]) 1 (by kernel_rfl) (by kernel_rfl) ?_
 refine AWP.wkc (H':=[.cells (Zi c),bf 21 67 Zb (([]:(List Za))++c.L) true,.cells (Zi (Zk.mk c.Most (([]:(List Za))++c.L)))]) (cs:=[(i64 c.Most),(.own 1 (List.length (([]:(List Za))++c.L)))]) (cs':=Zi (Zk.mk c.Most (([]:(List Za))++c.L))) 2 (by kernel_rfl) (.cons _ _ _ _ (.refl _) (.cons _ _ _ _ (Wk.ownT (i:=1) (s:=21) (t:=67) (l:=(([]:(List Za))++c.L)) (sh:=true) (row:=Zb) (by kernel_rfl) (.inr rfl)) .nil)) (by kernel_rfl) (by kernel_rfl) ?_
 refine AWP.swap (st':=[(2,(.ptr 1 0))]) (H':=[.cells (Zi c),.cells (Zi (Zk.mk c.Most (([]:(List Za))++c.L))),bf 21 67 Zb (([]:(List Za))++c.L) true]) (a:=bf 21 67 Zb (([]:(List Za))++c.L) true) (b:=.cells (Zi (Zk.mk c.Most (([]:(List Za))++c.L)))) 1 2 ?_
 refine AWP.ret ?_
 have hr:=someb hF
 subst hr
 exact(FnQ.f0 2 (.inr rfl))
def Zi2 (r:Unit):PV→List Blk→Prop:=fun p K=>p=(.tup [(.sc (.pointer none)),(i64 (2:Int))])∧K=[]
theorem Zi3 (a:Int) (r:Unit) (hF:Zef a=some r):ACall Tryz.prog glob 5 [(i64 a)] [] (Zi2 r):=by
 refine ACall.body Tryz.func5 rfl (by kernel_rfl) ?_
 unfold Zef at hF
 refine AWP.seq (AWP.rg0 [] [(0,(i64 a))] (AWP.seq (AWP.seq ?_)))
 obtain⟨c,b,hF⟩:=bindb hF
 replace b:=someb b
 refine AWP.to [(0,(i64 a)),(9,(vb (c || (decide (a > (64:Int))))))] [] ?_ ?_
 ·cases c with
  | false=>
   exact AWP.rgT [(2,.bool b)]
  | true=>
   exact AWP.rgT [(2,.bool b)]
 refine AWP.cif hF (fun d hF=>?_) (fun d hF=>?_)
 ·refine AWP.seq (AWP.rg0 [] [(2,(.sc (.pointer none))),(3,(i64 (2:Int)))] (AWP.ret ?_))
  have hr:=someb hF
  subst hr
  exact(FnQ.f0 0 (.inr rfl))
 ·refine AWP.skip (AWP.seq (AWP.rg [(1,.mkM)] [(2,(.ptr 1 0)),(3,(i64 (0:Int)))] [.fm (List.map (entF Zh Zf) ([]:(List (Zc × Za)))),.cells [(i64 a),(.mp 0)]] (AWP.ret ?_)))
  exact noneb hF
def Zer (r:Bool):PV→List Blk→Prop:=fun p K=>p=(vb r)∧K=[]
abbrev Zes (r:Bool):Exit→St→List Blk→Prop:=FnQ Tryz.prog Tryz.f4.results 0 (Zer r)
theorem Zgq (f:(List Int)) (r:Bool) (hF:Zcj f=some r):ACall Tryz.prog glob 4 [(slc 1 Z4 f)] [] (Zer r):=by
 refine ACall.body Tryz.func4 rfl (by kernel_rfl) ?_
 unfold Zcj at hF
 refine AWP.seq (AWP.rg0 [] [(0,(slc 1 Z4 f))] (AWP.seq ?_))
 rcases iteb hF with ⟨_,hF⟩ | ⟨_,hF⟩
 ·obtain⟨a,b9,hF⟩:=bindb hF
  refine AWP.rg [(0,.call Tryz.func5 [] (Zkp (4:Int) a b9))] [(0,(slc 1 Z4 f)),(3,(.ptr 1 0)),(4,(i64 (0:Int)))] [.fm (List.map (entF Zh Zf) a.2),.cells [(i64 a.1),(.mp 0)]] (AWP.seq (AWP.seq (AWP.rg0 [(4,.ptrNil)] [(0,(slc 1 Z4 f)),(3,(.ptr 1 0)),(22,(vb false))] ?_)))
  refine AWP.cF ?_
  refine AWP.skip (AWP.seq (AWP.rg [] [(0,(slc 1 Z4 f)),(3,(.ptr 1 0)),(5,(.ptr 2 0))] [.fm (List.map (entF Zh Zf) a.2),.cells [(i64 a.1),(.mp 0)],.cells (Zi (Zk.mk (4:Int) ([]:(List Za))))] (AWP.seq ?_)))
  obtain⟨a3,c0,hF⟩:=bindb hF
  refine AWP.rg [(1,.call Tryz.func7 [] (Zpd f a3 c0))] [(3,(.ptr 1 0)),(5,(.ptr 2 0)),(6,(.ptr 3 0))] [.fm (List.map (entF Zh Zf) a.2),.cells [(i64 a.1),(.mp 0)],.cells (Zi (Zk.mk (4:Int) ([]:(List Za)))),.cells (Zt a3)] (AWP.seq (AWP.rg0 [] [(3,(.ptr 1 0)),(5,(.ptr 2 0)),(6,(.ptr 3 0)),(7,(i64 (0:Int)))] (AWP.seq (AWP.seq (AWP.rg0 [] [(3,(.ptr 1 0)),(5,(.ptr 2 0)),(6,(.ptr 3 0)),(7,(i64 (0:Int))),(8,(i64 (0:Int)))] ?_)))))
  obtain⟨a4,c1,hF⟩:=bindb hF
  refine AWP.mid (fun e st H=>(e=.normal∧∃ l,∃ m,∃ x,∃ b,a4=(.inl (l,m,x,b))∧st=[(3,(.ptr 1 0)),(5,(.ptr 2 0)),(6,(.ptr 3 0)),(7,(i64 b))]∧H=[.fm (List.map (entF Zh Zf) l),.cells [(i64 a.1),(.mp 0)],.cells (Zi m),.cells (Zt x)])∨(e=.ret∧∃ r,a4=(.inr r)∧Zes r e st H)) ?_ ?_
  ·clear hF
   refine AWP.kp [3,5,6,7,8] 4 ?_
   refine AWP.bround (fun n st H=>∃ o,∃ p,∃ y,∃ q,∃ d,Zah a n o p y q d=some a4∧st=[(3,(.ptr 1 0)),(5,(.ptr 2 0)),(6,(.ptr 3 0)),(7,(i64 q)),(8,(i64 d))]∧H=[.fm (List.map (entF Zh Zf) o),.cells [(i64 a.1),(.mp 0)],.cells (Zi p),.cells (Zt y)]) fuel ⟨a.2,(Zk.mk (4:Int) ([]:(List Za))),a3,(0:Int),(0:Int),c1,by kernel_rfl,by kernel_rfl⟩ ?_
   rintro a5 st H ⟨o,p,y,q,d,hF,rfl,rfl⟩
   cases a5 with
   | zero=>exact noneb hF
   | succ a5=>
    rw [Zah] at hF
    refine AWP.seq (AWP.seq (AWP.rg0 [] [(3,(.ptr 1 0)),(5,(.ptr 2 0)),(6,(.ptr 3 0)),(7,(i64 q)),(8,(i64 d)),(28,(vb (decide (d<(6:Int)))))] ?_))
    refine AWP.cif hF (fun c2 hF=>?_) (fun c2 hF=>?_)
    ·refine AWP.skip (AWP.seq (AWP.block (AWP.seq ?_)))
     obtain⟨c,c3,hF⟩:=bindb hF
     refine AWP.rg [(2,.call Tryz.func8 [] (Ze8 y q c c3))] [(3,(.ptr 1 0)),(5,(.ptr 2 0)),(6,(.ptr 3 0)),(8,(i64 d)),(9,(.ptr 4 0))] [.fm (List.map (entF Zh Zf) o),.cells [(i64 a.1),(.mp 0)],.cells (Zi p),.cells (Zt c.2),.cells (Zs c.1)] (AWP.seq (AWP.rg0 [] [(3,(.ptr 1 0)),(5,(.ptr 2 0)),(6,(.ptr 3 0)),(7,(i64 c.1.Now)),(8,(i64 d)),(9,(.ptr 4 0))] (AWP.seq ?_)))
     obtain⟨s,c4,hF⟩:=bindb hF
     refine AWP.rg [(3,.callS Tryz.func9 [0,1,2] [] (Zff a.1 o p c.1 s c4))] [(3,(.ptr 1 0)),(5,(.ptr 2 0)),(6,(.ptr 3 0)),(7,(i64 c.1.Now)),(8,(i64 d)),(40,(vb (!s.1)))] [.fm (List.map (entF Zh Zf) s.2.1),.cells [(i64 a.1),(.mp 0)],.cells (Zi s.2.2),.cells (Zt c.2),.cells (Zs c.1)] ?_
     refine AWP.cif hF (fun c5 hF=>?_) (fun c5 hF=>?_)
     ·refine AWP.seq (AWP.rg0 [] [(2,(vb false))] (AWP.ret ?_))
      exact LeQ.of (.inr ⟨rfl,false,(someb hF).symm,(FnQ.f0 0 (.inr rfl))⟩)
     ·refine AWP.skip (AWP.rg0 [] [(3,(.ptr 1 0)),(5,(.ptr 2 0)),(6,(.ptr 3 0)),(7,(i64 c.1.Now)),(8,(i64 (ZI (d + (1:Int)))))] (LeQ.start (LeQ.pk [3,5,6,7,8] 4 ?_)))
      exact⟨a5,Nat.lt_succ_self _,s.2.1,s.2.2,c.2,c.1.Now,(ZI (d + (1:Int))),hF,by kernel_rfl,by kernel_rfl⟩
    ·refine AWP.exit (LeQ.start (LeQ.pk [3,5,6,7] 4 ?_))
     exact(.inl ⟨rfl,o,p,y,q,(someb hF).symm,by kernel_rfl,by kernel_rfl⟩)
  ·rintro _ _ _ (⟨rfl,l,m,x,b,rfl,rfl,rfl⟩ | ⟨rfl,d9,rfl,hq⟩)
   ·refine AWP.seq ?_
    obtain⟨g,c6,hF⟩:=bindb hF
    obtain⟨a6,c7,hF⟩:=bindb hF
    refine AWP.rg [(1,.callS Tryz.func12 [0,1] [] (Zh4 a.1 l g c6)),(3,.call Tryz.func13 [] (Zio m a6 c7))] [(3,(.ptr 1 0)),(5,(.ptr 2 0)),(6,(.ptr 3 0)),(7,(i64 b)),(10,(.ptr 5 0)),(11,(.ptr 6 0))] [.fm (List.map (entF Zh Zf) l),.cells [(i64 a.1),(.mp 0)],.cells (Zi m),.cells (Zt x),.fm (List.map (entF Zh Zf) g.2),.cells [(i64 g.1),(.mp 4)],.cells (Zi a6)] (AWP.seq (AWP.seq (AWP.rg0 [(1,.ptrNil)] [(3,(.ptr 1 0)),(5,(.ptr 2 0)),(6,(.ptr 3 0)),(7,(i64 b)),(10,(.ptr 5 0)),(11,(.ptr 6 0)),(46,(vb false))] ?_)))
    refine AWP.cF ?_
    refine AWP.skip (AWP.seq (AWP.seq (AWP.rg0 [] [(3,(.ptr 1 0)),(5,(.ptr 2 0)),(6,(.ptr 3 0)),(7,(i64 b)),(10,(.ptr 5 0)),(11,(.ptr 6 0)),(12,(i64 (0:Int)))] ?_)))
    obtain⟨a7,c8,hF⟩:=bindb hF
    refine AWP.mid (fun e st H=>(e=.normal∧∃ a8,∃ a9,∃ b0,∃ b1,∃ b2,a7=(.inl (a8,a9,b0,b1,b2))∧st=[]∧H=[.fm (List.map (entF Zh Zf) a8),.cells [(i64 a.1),(.mp 0)],.cells (Zi a9),.cells (Zt b0),.fm (List.map (entF Zh Zf) b1),.cells [(i64 g.1),(.mp 4)],.cells (Zi b2)])∨(e=.ret∧∃ r,a7=(.inr r)∧Zes r e st H)) ?_ ?_
    ·clear hF
     refine AWP.kp [3,5,6,7,10,11,12] 7 ?_
     refine AWP.bround (fun n st H=>∃ t,∃ u,∃ v,∃ z,∃ a0,∃ i,Zai a b g n t u v z a0 i=some a7∧st=[(3,(.ptr 1 0)),(5,(.ptr 2 0)),(6,(.ptr 3 0)),(7,(i64 b)),(10,(.ptr 5 0)),(11,(.ptr 6 0)),(12,(i64 i))]∧H=[.fm (List.map (entF Zh Zf) t),.cells [(i64 a.1),(.mp 0)],.cells (Zi u),.cells (Zt v),.fm (List.map (entF Zh Zf) z),.cells [(i64 g.1),(.mp 4)],.cells (Zi a0)]) fuel ⟨l,m,x,g.2,a6,(0:Int),c8,by kernel_rfl,by kernel_rfl⟩ ?_
     rintro b3 st H ⟨t,u,v,z,a0,i,hF,rfl,rfl⟩
     cases b3 with
     | zero=>exact noneb hF
     | succ b3=>
      rw [Zai] at hF
      refine AWP.seq (AWP.seq (AWP.rg0 [] [(3,(.ptr 1 0)),(5,(.ptr 2 0)),(6,(.ptr 3 0)),(7,(i64 b)),(10,(.ptr 5 0)),(11,(.ptr 6 0)),(12,(i64 i)),(48,(vb (decide (i<(6:Int)))))] ?_))
      refine AWP.cif hF (fun c9 hF=>?_) (fun c9 hF=>?_)
      ·refine AWP.skip (AWP.seq (AWP.block (AWP.seq ?_)))
       obtain⟨a1,b4,hF⟩:=bindb hF
       obtain⟨w,b5,hF⟩:=bindb hF
       obtain⟨d0,a2,hF⟩:=bindb hF
       replace a2:=someb a2
       obtain⟨j,b6,hF⟩:=bindb hF
       refine AWP.to [(3,(.ptr 1 0)),(5,(.ptr 2 0)),(6,(.ptr 3 0)),(7,(i64 b)),(10,(.ptr 5 0)),(11,(.ptr 6 0)),(12,(i64 i)),(66,(vb j.1))] [.fm (List.map (entF Zh Zf) w.2.1),.cells [(i64 a.1),(.mp 0)],.cells (Zi w.2.2),.cells (Zt j.2.1),.fm (List.map (entF Zh Zf) j.2.2.1),.cells [(i64 g.1),(.mp 4)],.cells (Zi j.2.2.2)] ?_ ?_
       ·cases d0 with
        | false=>
         have k:=ifF b6 rfl
         obtain⟨b7,d1,k⟩:=bindb k
         obtain⟨d2,d3,k⟩:=bindb k
         replace k:=someb k
         subst k
         exact AWP.rgT [(4,.call Tryz.func8 [] (Ze8 v b a1 b4)),(5,.callS Tryz.func9 [0,1,2] [] (Zff a.1 t u a1.1 w b5)),(7,.bool a2),(12,.call Tryz.func8 [] (Ze8 a1.2 b b7 d1)),(13,.callS Tryz.func9 [4,5,6] [] (Zff g.1 z a0 b7.1 d2 d3))]
        | true=>
         have d4:=someb (ifT b6 rfl)
         subst d4
         exact AWP.rgT [(4,.call Tryz.func8 [] (Ze8 v b a1 b4)),(5,.callS Tryz.func9 [0,1,2] [] (Zff a.1 t u a1.1 w b5)),(7,.bool a2)]
       refine AWP.cif hF (fun d5 hF=>?_) (fun d5 hF=>?_)
       ·refine AWP.seq (AWP.rg0 [] [(2,(vb false))] (AWP.ret ?_))
        exact LeQ.of (.inr ⟨rfl,false,(someb hF).symm,(FnQ.f0 0 (.inr rfl))⟩)
       ·refine AWP.skip (AWP.rg0 [] [(3,(.ptr 1 0)),(5,(.ptr 2 0)),(6,(.ptr 3 0)),(7,(i64 b)),(10,(.ptr 5 0)),(11,(.ptr 6 0)),(12,(i64 (ZI (i + (1:Int)))))] (LeQ.start (LeQ.pk [3,5,6,7,10,11,12] 7 ?_)))
        exact⟨b3,Nat.lt_succ_self _,w.2.1,w.2.2,j.2.1,j.2.2.1,j.2.2.2,(ZI (i + (1:Int))),hF,by kernel_rfl,by kernel_rfl⟩
      ·refine AWP.exit (LeQ.start (LeQ.pk [] 7 ?_))
       exact(.inl ⟨rfl,t,u,v,z,a0,(someb hF).symm,by kernel_rfl,by kernel_rfl⟩)
    ·rintro _ _ _ (⟨rfl,a8,a9,b0,b1,b2,rfl,rfl,rfl⟩ | ⟨rfl,e0,rfl,hq⟩)
     ·refine AWP.seq ?_
      obtain⟨b8,d6,hF⟩:=bindb hF
      refine AWP.rg0 [(0,.call Tryz.func11 [] (Zm0 b8 d6))] [(2,(vb b8))] (AWP.ret ?_)
      have hr:=someb hF
      subst hr
      exact(FnQ.f0 0 (.inr rfl))
     ·have hr:=someb hF
      subst hr
      exact hq
   ·have hr:=someb hF
    subst hr
    exact hq
 ·obtain⟨d7,d8,hF⟩:=bindb hF
  refine AWP.rg0 [(0,.call Tryz.func5 [] (Zi3 (4:Int) d7 d8))] [(0,(slc 1 Z4 f)),(3,(.sc (.pointer none))),(4,(i64 (2:Int)))] (AWP.seq (AWP.seq (AWP.rg0 [] [(0,(slc 1 Z4 f)),(3,(.sc (.pointer none))),(22,(vb true))] ?_)))
  refine AWP.cT ?_
  refine AWP.seq (AWP.rg0 [] [(2,(vb false))] (AWP.ret ?_))
  have hr:=someb hF
  subst hr
  exact(FnQ.f0 0 (.inr rfl))
end Go.AM
set_option maxRecDepth 100000
namespace Go.AM
open Go
def Ok {α:Type} (x:Option α) (p:α→Prop):Prop:=∃ r,x=some r∧p r
theorem Ok.bind {α γ:Type} {x:Option α} {p:α→Prop} {f:α→Option γ} {q:γ→Prop} (h:Ok x p) (k:∀ v,p v→Ok (f v) q):Ok (x.bind f) q:=by
 obtain⟨v,rfl,hv⟩:=h
 exact k v hv
theorem Ok.ret {α:Type} {r:α} {p:α→Prop} (h:p r):Ok (some r) p:=⟨r,rfl,h⟩
theorem Ok.chk {α:Type} {c:Prop} [Decidable c] {x:Option α} {p:α→Prop} (hc:c) (h:Ok x p):Ok (if c then x else none) p:=by rw [if_pos hc]; exact h
theorem Ok.ite {α:Type} {c:Prop} [Decidable c] {x y:Option α} {p:α→Prop} (h1:c→Ok x p) (h2:¬ c→Ok y p):Ok (if c then x else y) p:=by
 split
 ·exact h1 (by assumption)
 ·exact h2 (by assumption)
theorem Ok.lift {α γ:Type} {b:α} {f:α→Option γ} {q:γ→Prop} (h:Ok (f b) q):Ok ((Option.some b).bind f) q:=h
theorem Ok.mono {α:Type} {x:Option α} {p q:α→Prop} (h:Ok x p) (k:∀ v,p v→q v):Ok x q:=by
 obtain⟨v,h1,h2⟩:=h
 exact⟨v,h1,k v h2⟩
theorem Ok.get {α:Type} {x:Option α} {p:α→Prop} (h:Ok x p) {r:α} (e:x=some r):p r:=by
 obtain⟨v,h1,h2⟩:=h
 rw [h1] at e; cases e; exact h2
theorem Ok.eq {α:Type} {x:Option α} {r:α} (h:Ok x (·=r)):x=some r:=by
 obtain⟨v,h1,rfl⟩:=h; exact h1
theorem Ok.of_eq {α:Type} {x:Option α} {r:α} (h:x=some r):Ok x (·=r):=⟨r,h,rfl⟩
theorem Ok.idx {α:Type} {l:List α} {i:Int} {p:α→Prop} (h0:0≤i) (h1:i<l.length) (h:∀ x∈l,p x):Ok (idx l i) p:=by
 have hi:i.toNat<l.length:=by omega
 exact⟨l[i.toNat],by simp [AM.idx,h0,hi],h _ (List.getElem_mem hi)⟩
theorem Zbm {α:Type} {l:List α} {i:Nat} (h:i<l.length):AM.idx l (i:Int)=some l[i]:=by simp [AM.idx,h]
theorem wi64 {x:Int} (h0:-9223372036854775808≤x) (h1:x<9223372036854775808):IntKind.wrap .i64 x=x:=by
 simp only [IntKind.wrap,IntKind.bits,IntKind.signed]
 simp
 omega
theorem wu64 {x:Int} (h0:0≤x) (h1:x<18446744073709551616):IntKind.wrap .u64 x=x:=by
 simp only [IntKind.wrap,IntKind.bits,IntKind.signed]
 simp
 omega
theorem wu32 {x:Int} (h0:0≤x) (h1:x<4294967296):IntKind.wrap .u32 x=x:=by
 simp only [IntKind.wrap,IntKind.bits,IntKind.signed]
 simp
 omega
theorem Zq2 (x:Int):0≤IntKind.wrap .u64 x∧IntKind.wrap .u64 x<18446744073709551616:=by
 simp only [IntKind.wrap,IntKind.bits,IntKind.signed]
 simp
 omega
structure TOk (t:Zq):Prop where
 h0:0≤t.f_i
 h1:t.f_i≤t.f_l.length
 h2:(t.f_l.length:Int)<9223372036854775808
theorem New_ok {l:List Int} (h:(l.length:Int)<9223372036854775808):Ok (Zft l) TOk:=Ok.ret ⟨Int.le_refl 0,by simp,h⟩
theorem Mod_ok {x n:Int} (h1:1≤n) (h2:n<9223372036854775808):Ok (Zex x n) fun v=>0≤v∧v<n:=by
 unfold Zex
 have hn:IntKind.wrap .u64 n=n:=wu64 (by omega) (by omega)
 rw [hn]
 have hx:=Zq2 x
 have h3:0≤Int.tmod (IntKind.wrap .u64 x) n:=Int.tmod_nonneg _ hx.1
 have h4:Int.tmod (IntKind.wrap .u64 x) n<n:=Int.tmod_lt_of_pos _ (by omega)
 refine Ok.chk (by omega) (Ok.ret ?_)
 rw [wi64 (by omega) (by omega)]
 exact⟨h3,h4⟩
theorem Ztd {t:Zq} (ht:TOk t) (n:Int) (h2:n<9223372036854775808):Ok (Z0 t n) fun r=>(0≤r.1∧(r.1<n∨r.1=0))∧TOk r.2:=by
 unfold Z0
 refine Ok.lift (Ok.ite (fun hc=>Ok.ret ⟨⟨by simp,.inr rfl⟩,ht⟩) fun hc=>?_)
 simp only [Bool.or_eq_true,decide_eq_true_eq] at hc
 have hc1:¬ n≤1:=fun h=>hc (.inl h)
 have hc2:¬ t.f_i ≥ t.f_l.length:=fun h=>hc (.inr h)
 have h0:=ht.h0
 have h1:=ht.h2
 have e1:IntKind.wrap .i64 (t.f_i + 1)=t.f_i + 1:=wi64 (by omega) (by omega)
 rw [e1]
 have e2:IntKind.wrap .i64 (t.f_i + 1 - 1)=t.f_i:=by rw [Int.add_sub_cancel]; exact wi64 (by omega) (by omega)
 rw [e2]
 refine Ok.bind (Ok.idx (p:=fun _=>True) h0 (by omega) fun _ _=>trivial) fun x _=>?_
 refine Ok.bind (Mod_ok (by omega) h2) fun v hv=>Ok.ret ⟨⟨hv.1,.inl hv.2⟩,?_⟩
 exact⟨by show 0≤t.f_i + 1; omega,by show t.f_i + 1≤t.f_l.length; omega,h1⟩
theorem Zcp {t:Zq} (ht:TOk t) (n:Int) (h1:1≤n) (h2:n<9223372036854775808):Ok (Z0 t n) fun r=>(0≤r.1∧r.1<n)∧TOk r.2:=
 (Ztd ht n h2).mono fun r ⟨⟨h3,h4⟩,h5⟩=>⟨⟨h3,by omega⟩,h5⟩
def full:Arr5 Zj:=⟨⟨0,4294967295⟩,⟨0,4294967295⟩,⟨0,255⟩,⟨0,65535⟩,⟨0,65535⟩⟩
theorem Zte:Ze7=some full:=by kernel_rfl
structure ROk (top:Int) (r:Zj):Prop where
 h0:0≤r.Lo
 h1:r.Lo≤r.Hi
 h2:r.Hi≤top
structure RIn (r:Zj):Prop where
 h0:0≤r.Lo
 h1:r.Lo<4294967296
 h2:0≤r.Hi
 h3:r.Hi<4294967296
structure BOk (b:Arr5 Zj):Prop where
 h0:ROk 4294967295 b.x0
 h1:ROk 4294967295 b.x1
 h2:ROk 255 b.x2
 h3:ROk 65535 b.x3
 h4:ROk 65535 b.x4
structure BIn (b:Arr5 Zj):Prop where
 h0:RIn b.x0
 h1:RIn b.x1
 h2:RIn b.x2
 h3:RIn b.x3
 h4:RIn b.x4
def topOf (i:Int):Int:=if i=0 then 4294967295 else if i=1 then 4294967295 else if i=2 then 255 else 65535
theorem Top_eq (f:Int) (h0:0≤f) (h1:f<5):Zep f=some (topOf f):=by
 have hk:f=0∨f=1∨f=2∨f=3∨f=4:=by omega
 rcases hk with rfl | rfl | rfl | rfl | rfl <;> rfl
theorem fuel6:fuel=1180591620717411303418 + 6:=by kernel_rfl
theorem five {k:Int} (h0:0≤k) (h1:k<5):k=0∨k=1∨k=2∨k=3∨k=4:=by omega
theorem wnext {k:Int} (h0:0≤k) (h1:k<1000000):IntKind.wrap .i64 (k + (1:Int))=k + 1:=wi64 (by omega) (by omega)
def sideBad (top:Int) (r:Zj):Bool:=decide (r.Lo > r.Hi) || decide (r.Hi > top)
theorem Zsm {k:Int} (h0:0≤k) (h1:k<5):Arr5.get Zdm k=topOf k:=by
 rcases five h0 h1 with rfl | rfl | rfl | rfl | rfl <;> rfl
theorem vstep (b:Arr5 Zj) (n:Nat) {k:Int} (h0:0≤k) (h1:k<5):Z7 b (n + 1) k=if sideBad (topOf k) (b.get k)=true then some (.inr false) else Z7 b n (k + 1):=by
 rw [Z7,if_pos (decide_eq_true h1),if_pos ⟨h0,h1⟩,if_pos ⟨h0,h1⟩,Zsm h0 h1,wnext h0 (by omega)]
 unfold sideBad
 cases decide ((b.get k).Lo > (b.get k).Hi) <;> simp
theorem rvstep (b:Arr5 Zj) (n:Nat) {k:Int} (h0:0≤k) (h1:k<5):Z1 b (n + 1) k=if sideBad (topOf k) (b.get k)=true then some (.inr false) else Z1 b n (k + 1):=by
 rw [Z1,if_pos (decide_eq_true h1),if_pos ⟨h0,h1⟩,if_pos ⟨h0,h1⟩,if_pos ⟨h0,h1⟩,Top_eq k h0 h1,wnext h0 (by omega)]
 unfold sideBad
 cases decide ((b.get k).Lo > (b.get k).Hi) <;> simp
def vB (b:Arr5 Zj):Bool:=
 if sideBad 4294967295 b.x0=true then false else if sideBad 4294967295 b.x1=true then false else if sideBad 255 b.x2=true then false else if sideBad 65535 b.x3=true then false else if sideBad 65535 b.x4=true then false else true
theorem Zpl (b:Arr5 Zj):Zev b=some (vB b):=by
 unfold Zev
 rw [fuel6]
 generalize (1180591620717411303418:Nat)=m
 have s0:Z7 b (m + 6) 0=if sideBad 4294967295 b.x0=true then some (.inr false) else Z7 b (m + 5) 1:=vstep b (m + 5) (by omega) (by omega)
 have s1:Z7 b (m + 5) 1=if sideBad 4294967295 b.x1=true then some (.inr false) else Z7 b (m + 4) 2:=vstep b (m + 4) (by omega) (by omega)
 have s2:Z7 b (m + 4) 2=if sideBad 255 b.x2=true then some (.inr false) else Z7 b (m + 3) 3:=vstep b (m + 3) (by omega) (by omega)
 have s3:Z7 b (m + 3) 3=if sideBad 65535 b.x3=true then some (.inr false) else Z7 b (m + 2) 4:=vstep b (m + 2) (by omega) (by omega)
 have s4:Z7 b (m + 2) 4=if sideBad 65535 b.x4=true then some (.inr false) else Z7 b (m + 1) 5:=vstep b (m + 1) (by omega) (by omega)
 have s5:Z7 b (m + 1) 5=some (.inl ()):=by rw [Z7]; rfl
 rw [s0,s1,s2,s3,s4,s5]
 unfold vB
 repeat' split
 all_goals first | rfl | (simp_all; done) | skip
theorem Zfp (b:Arr5 Zj):Zbh b=some (vB b):=by
 unfold Zbh
 rw [fuel6]
 generalize (1180591620717411303418:Nat)=m
 have s0:Z1 b (m + 6) 0=if sideBad 4294967295 b.x0=true then some (.inr false) else Z1 b (m + 5) 1:=rvstep b (m + 5) (by omega) (by omega)
 have s1:Z1 b (m + 5) 1=if sideBad 4294967295 b.x1=true then some (.inr false) else Z1 b (m + 4) 2:=rvstep b (m + 4) (by omega) (by omega)
 have s2:Z1 b (m + 4) 2=if sideBad 255 b.x2=true then some (.inr false) else Z1 b (m + 3) 3:=rvstep b (m + 3) (by omega) (by omega)
 have s3:Z1 b (m + 3) 3=if sideBad 65535 b.x3=true then some (.inr false) else Z1 b (m + 2) 4:=rvstep b (m + 2) (by omega) (by omega)
 have s4:Z1 b (m + 2) 4=if sideBad 65535 b.x4=true then some (.inr false) else Z1 b (m + 1) 5:=rvstep b (m + 1) (by omega) (by omega)
 have s5:Z1 b (m + 1) 5=some (.inl ()):=by rw [Z1]; rfl
 rw [s0,s1,s2,s3,s4,s5]
 unfold vB
 repeat' split
 all_goals first | rfl | (simp_all; done) | skip
theorem BIn.get {b:Arr5 Zj} (h:BIn b) (k:Int):RIn (b.get k):=by
 unfold Arr5.get
 split
 ·exact h.h0
 split
 ·exact h.h1
 split
 ·exact h.h2
 split
 ·exact h.h3
 ·exact h.h4
theorem BIn.set {b:Arr5 Zj} (h:BIn b) {r:Zj} (hr:RIn r) (k:Int):BIn (b.set k r):=by
 unfold Arr5.set
 split
 ·exact⟨hr,h.h1,h.h2,h.h3,h.h4⟩
 split
 ·exact⟨h.h0,hr,h.h2,h.h3,h.h4⟩
 split
 ·exact⟨h.h0,h.h1,hr,h.h3,h.h4⟩
 split
 ·exact⟨h.h0,h.h1,h.h2,hr,h.h4⟩
 ·exact⟨h.h0,h.h1,h.h2,h.h3,hr⟩
theorem Zpm (m:Nat) (h:m≤1000000000000):∃ n,fuel=n + m + 1:=⟨fuel - m - 1,by unfold fuel; omega⟩
end Go.AM
set_option maxRecDepth 100000
namespace Go.AM
open Go
theorem Zof {ρ:Type} {L:Nat→Int→Option (Unit ⊕ ρ)} {bad:Int→Bool} {v:ρ}
  (step:∀ n (k:Int),0≤k→k<5→L (n + 1) k=if bad k=true then some (.inr v) else L n (k + 1)) (stop:∀ n,L (n + 1) 5=some (.inl ())) :
  L fuel 0=some (if (bad 0 || bad 1 || bad 2 || bad 3 || bad 4)=true then .inr v else .inl ()):=by
 rw [fuel6]
 rw [step _ 0 (by omega) (by omega),step _ (0 + 1) (by omega) (by omega),step _ (0 + 1 + 1) (by omega) (by omega),step _ (0 + 1 + 1 + 1) (by omega) (by omega),step _ (0 + 1 + 1 + 1 + 1) (by omega) (by omega)]
 rw [show (0:Int) + 1 + 1 + 1 + 1 + 1=5 from rfl,stop,show (0:Int) + 1=1 from rfl,show (1:Int) + 1=2 from rfl,show (2:Int) + 1=3 from rfl,show (3:Int) + 1=4 from rfl]
 cases bad 0 <;> cases bad 1 <;> cases bad 2 <;> cases bad 3 <;> cases bad 4 <;> rfl
theorem Zkz {σ ρ:Type} {L:Nat→σ→Int→Option ρ} {f:σ→Int→σ} {fin:σ→ρ}
  (step:∀ n s (k:Int),0≤k→k<5→L (n + 1) s k=L n (f s k) (k + 1)) (stop:∀ n s,L (n + 1) s 5=some (fin s)) (s:σ) :
  L fuel s 0=some (fin (f (f (f (f (f s 0) 1) 2) 3) 4)):=by
 rw [fuel6]
 rw [step _ _ 0 (by omega) (by omega),step _ _ (0 + 1) (by omega) (by omega),step _ _ (0 + 1 + 1) (by omega) (by omega),step _ _ (0 + 1 + 1 + 1) (by omega) (by omega),step _ _ (0 + 1 + 1 + 1 + 1) (by omega) (by omega)]
 rw [show (0:Int) + 1 + 1 + 1 + 1 + 1=5 from rfl,stop,show (0:Int) + 1=1 from rfl,show (1:Int) + 1=2 from rfl,show (2:Int) + 1=3 from rfl,show (3:Int) + 1=4 from rfl]
theorem wsucc {i:Nat} (h:i<1000000000001):IntKind.wrap .i64 ((i:Int) + (1:Int))=((i + 1:Nat):Int):=by
 rw [wi64 (by omega) (by omega)]; omega
def findI {α ρ:Type} (g:Nat→α→Option ρ):Nat→List α→Option ρ
 | _,[]=>none
 | i,x :: xs=>match g i x with
  | some r=>some r
  | none=>findI g (i + 1) xs
def orS {ρ:Type}:Option ρ→Unit ⊕ ρ
 | some r=>.inr r
 | none=>.inl ()
theorem Zdf {α ρ:Type} {L:Nat→Int→Option (Unit ⊕ ρ)} (l:List α) (g:Nat→α→Option ρ) (hl:l.length≤1000000000000)
  (step:∀ n (i:Nat) (h:i<l.length),L (n + 1) (i:Int)=match g i l[i] with
   | some r=>some (.inr r)
   | none=>L n ((i + 1:Nat):Int))
  (stop:∀ n,L (n + 1) (l.length:Int)=some (.inl ())):L fuel 0=some (orS (findI g 0 l)):=by
 have key:∀(m n i:Nat),i + m=l.length→L (n + m + 1) (i:Int)=some (orS (findI g i (l.drop i))):=by
  intro m
  induction m with
  | zero=>
   intro n i h
   have hi:i=l.length:=by omega
   subst hi
   rw [List.drop_length]
   exact stop _
  | succ m ih=>
   intro n i h
   have hi:i<l.length:=by omega
   rw [show n + (m + 1) + 1=(n + m + 1) + 1 by omega,step _ i hi,List.drop_eq_getElem_cons hi]
   simp only [findI]
   cases hg:g i l[i] with
   | some r=>rfl
   | none=>exact ih n (i + 1) (by omega)
 obtain⟨f,hf⟩:=Zpm l.length hl
 rw [hf]
 exact key l.length f 0 (by omega)
def foldI {α σ:Type} (f:σ→Nat→α→σ):σ→Nat→List α→σ
 | s,_,[]=>s
 | s,i,x :: xs=>foldI f (f s i x) (i + 1) xs
theorem Zru {α σ ρ:Type} {L:Nat→σ→Int→Option ρ} (l:List α) (f:σ→Nat→α→σ) (fin:σ→ρ) (I:Nat→σ→Prop) (hl:l.length≤1000000000000)
  (step:∀ n s (i:Nat) (h:i<l.length),I i s→L (n + 1) s (i:Int)=L n (f s i l[i]) ((i + 1:Nat):Int)∧I (i + 1) (f s i l[i]))
  (stop:∀ n s,I l.length s→L (n + 1) s (l.length:Int)=some (fin s)) (s:σ) (hs:I 0 s):L fuel s 0=some (fin (foldI f s 0 l))∧I l.length (foldI f s 0 l):=by
 have key:∀(m n i:Nat) (s:σ),I i s→i + m=l.length→L (n + m + 1) s (i:Int)=some (fin (foldI f s i (l.drop i)))∧I l.length (foldI f s i (l.drop i)):=by
  intro m
  induction m with
  | zero=>
   intro n i s hs h
   have hi:i=l.length:=by omega
   subst hi
   rw [List.drop_length]
   exact⟨stop _ _ hs,hs⟩
  | succ m ih=>
   intro n i s hs h
   have hi:i<l.length:=by omega
   obtain⟨h1,h2⟩:=step (n + m + 1) s i hi hs
   rw [show n + (m + 1) + 1=(n + m + 1) + 1 by omega,h1,List.drop_eq_getElem_cons hi]
   simp only [foldI]
   exact ih n (i + 1) _ h2 (by omega)
 obtain⟨g,hg⟩:=Zpm l.length hl
 rw [hg]
 exact key l.length g 0 s hs (by omega)
end Go.AM
set_option maxRecDepth 100000
namespace Go.AM
open Go
def hv (h:Zc):Arr5 Int:=⟨h.Src,h.Dst,h.Proto,h.SrcPort,h.DstPort⟩
theorem Zma {h:Zc} (hh:Zu h):Zdg h=some (hv h):=by
 obtain⟨h1,h2,h3,h4,h5,_⟩:=hh
 unfold ok_u8 at h3; unfold Zcq at h4 h5
 simp only [Zdg,hv]
 rw [wu32 (x:=h.Proto) (by omega) (by omega),wu32 (x:=h.SrcPort) (by omega) (by omega),wu32 (x:=h.DstPort) (by omega) (by omega)]
theorem Zog {h:Zc} (hh:Zu h):Zey h=some (hv h):=Zma hh
def outB (b:Arr5 Zj) (v:Arr5 Int) (k:Int):Bool:=decide (v.get k<(b.get k).Lo) || decide (v.get k > (b.get k).Hi)
def allF (f:Int→Bool):Bool:=!(f 0 || f 1 || f 2 || f 3 || f 4)
def cB (b:Arr5 Zj) (h:Zc):Bool:=vB b && allF (outB b (hv h))
theorem cstep1 (b:Arr5 Zj) (v:Arr5 Int) (n:Nat) (k:Int) (h0:0≤k) (h1:k<5):Zbn b v (n + 1) k=if outB b v k=true then some (.inr false) else Zbn b v n (k + 1):=by
 rw [Zbn]
 simp only [show k<5 from h1,decide_true,if_true,show 0≤k∧k<5 from ⟨h0,h1⟩,and_self,Option.bind_some,wnext h0 (by omega:k<1000000)]
 unfold outB
 cases decide (v.get k<(b.get k).Lo) <;> simp
theorem cstep2 (b:Arr5 Zj) (v:Arr5 Int) (n:Nat) (k:Int) (h0:0≤k) (h1:k<5):Zaz b v (n + 1) k=if outB b v k=true then some (.inr false) else Zaz b v n (k + 1):=by
 rw [Zaz]
 simp only [show k<5 from h1,decide_true,if_true,show 0≤k∧k<5 from ⟨h0,h1⟩,and_self,Option.bind_some,wnext h0 (by omega:k<1000000)]
 unfold outB
 cases decide (v.get k<(b.get k).Lo) <;> simp
theorem Zip {h:Zc} (hh:Zu h) (b:Arr5 Zj):Zc7 b h=some (cB b h):=by
 unfold Zc7 cB
 rw [Zpl,Zog hh]
 simp only [Option.bind_some]
 rw [Zof (bad:=outB b (hv h)) (cstep1 b (hv h)) (fun n=>by rw [Zbn]; rfl)]
 cases vB b
 ·rfl
 ·unfold allF
  cases (outB b (hv h) 0 || outB b (hv h) 1 || outB b (hv h) 2 || outB b (hv h) 3 || outB b (hv h) 4) <;> rfl
theorem Zho {h:Zc} (hh:Zu h) (b:Arr5 Zj):Zbz b h=some (cB b h):=by
 unfold Zbz cB
 rw [Zma hh]
 simp only [Option.bind_some]
 rw [Zof (bad:=outB b (hv h)) (cstep2 b (hv h)) (fun n=>by rw [Zaz]; rfl),Zfp]
 unfold allF
 cases (outB b (hv h) 0 || outB b (hv h) 1 || outB b (hv h) 2 || outB b (hv h) 3 || outB b (hv h) 4) <;> cases vB b <;> rfl
def zb5:Arr5 Zj:=⟨⟨0,0⟩,⟨0,0⟩,⟨0,0⟩,⟨0,0⟩,⟨0,0⟩⟩
def ixr (a b:Zj):Zj:=⟨iMax a.Lo b.Lo,iMin a.Hi b.Hi⟩
def isect (a b:Arr5 Zj):Arr5 Zj:=⟨ixr a.x0 b.x0,ixr a.x1 b.x1,ixr a.x2 b.x2,ixr a.x3 b.x3,ixr a.x4 b.x4⟩
def xB (a b:Arr5 Zj):Arr5 Zj × Bool:=if (vB a && vB b && vB (isect a b))=true then (isect a b,true) else (zb5,false)
theorem Zrv (z a b:Arr5 Zj):(((((z.set 0 (ixr (a.get 0) (b.get 0))).set 1 (ixr (a.get 1) (b.get 1))).set 2 (ixr (a.get 2) (b.get 2))).set 3 (ixr (a.get 3) (b.get 3))).set 4 (ixr (a.get 4) (b.get 4)))=isect a b:=rfl
theorem Zop (a b:Arr5 Zj):Zc0 a b=some (xB a b):=by
 unfold Zc0 xB
 have h1:Zaw a b fuel Zr 0=some (isect a b):=by
  rw [Zkz (L:=Zaw a b) (f:=fun s k=>Arr5.set s k (ixr (a.get k) (b.get k))) (fin:=id) (fun n s k h0 h1=>by
   rw [Zaw]
   simp only [show k<5 from h1,decide_true,if_true,show 0≤k∧k<5 from ⟨h0,h1⟩,and_self,wnext h0 (by omega:k<1000000)]
   rfl) (fun n s=>by rw [Zaw]; rfl)]
  rw [Zrv]; rfl
 rw [h1]
 simp only [Option.bind_some]
 rw [Zfp,Zfp,Zfp]
 cases vB a <;> cases vB b <;> cases vB (isect a b) <;> rfl
def orN (o:Option Int):Int:=match o with | some r=>r | none=>-1
end Go.AM
set_option maxRecDepth 100000
namespace Go.AM
open Go
abbrev TB:=List (Zc × Za)
theorem eqH (a b:Zc):Zg a b=true ↔ a=b:=
 ⟨fun h=>by cases a; cases b; simpa [Zg] using h,fun h=>by subst h; simp [Zg]⟩
theorem eqHf {a b:Zc}:Zg a b=false ↔ a ≠ b:=by
 rw [← Bool.not_eq_true,eqH]
theorem eqHr (a:Zc):Zg a a=true:=(eqH a a).2 rfl
theorem eqHs (a b:Zc):Zg a b=Zg b a:=by
 cases h:Zg b a with
 | true=>rw [(eqH b a).1 h,eqHr]
 | false=>rw [eqHf] at h ⊢; exact Ne.symm h
structure TaOk (L:TB):Prop where
 nd:(L.map (·.1)).Nodup
 real:∀ x∈L,x.2.Real=x.1
theorem TaOk.uniq {L:TB} (h:TaOk L) {x y:Zc × Za} (hx:x∈L) (hy:y∈L) (he:x.1=y.1):x=y:=by
 obtain⟨i,hi⟩:=List.mem_iff_getElem?.1 hx
 obtain⟨j,hj⟩:=List.mem_iff_getElem?.1 hy
 have hij:i=j:=by
  refine(List.getElem?_inj (by rw [List.length_map]; exact(List.getElem?_eq_some_iff.1 hi).1) h.nd).1 ?_
  simp only [List.getElem?_map,hi,hj,Option.map_some,he]
 subst hij
 rw [hi] at hj
 exact Option.some.inj hj
theorem TaOk.filter {L:TB} (h:TaOk L) (p:Zc × Za→Bool):TaOk (L.filter p):=
 ⟨List.Nodup.sublist (List.Sublist.map _ List.filter_sublist) h.nd,fun x hx=>h.real x (List.mem_filter.1 hx).1⟩
theorem TaOk.nil:TaOk []:=⟨by simp,by simp⟩
def live (now:Int) (L:TB):TB:=L.filter fun x=>decide (now<x.2.Expires)
theorem Zoh (now:Int) (L:TB):live now (live now L)=live now L:=by
 unfold live
 rw [List.filter_filter]
 simp
def dead (now:Int) (L:TB):Nat:=L.countP fun x=>decide (x.2.Expires≤now)
theorem Zrw (now:Int) (L:TB):(dead now L:Int)=(L.length:Int) - ((live now L).length:Int):=by
 unfold dead live
 induction L with
 | nil=>rfl
 | cons x L ih=>
  rw [List.countP_cons,List.filter_cons]
  by_cases h:x.2.Expires≤now
  ·rw [if_pos (by simpa using h),if_neg (by simp; omega)]
   simp only [List.length_cons]; omega
  ·rw [if_neg (by simpa using h),if_pos (by simp; omega)]
   simp only [List.length_cons]; omega
theorem Zjr (now:Int):∀(l:TB) (M:TB) (c:Nat),c + l.length<4611686018427387904 →
  mfold (Za4 now) l (M,(c:Int))=some (.inr (M.filter (fun x=>!(l.any fun y=>decide (y.2.Expires≤now) && Zg y.1 x.1)),((c + dead now l:Nat):Int)))
 | [],M,c,_=>by
  have e:M.filter (fun x=>!(([]:TB).any fun y=>decide (y.2.Expires≤now) && Zg y.1 x.1))=M:=List.filter_eq_self.2 fun _ _=>rfl
  rw [e]; rfl
 | y :: l,M,c,h=>by
  rw [List.length_cons] at h
  unfold mfold
  rw [Za4]
  by_cases he:y.2.Expires≤now
  ·rw [if_pos (by simpa using he)]
   simp only [Option.bind_some]
   rw [show IntKind.wrap .i64 ((c:Int) + 1)=((c + 1:Nat):Int) by rw [wi64 (by omega) (by omega)]; omega]
   rw [Zjr now l _ (c + 1) (by omega)]
   unfold mdel dead
   rw [List.filter_filter,List.countP_cons,if_pos (by simpa using he)]
   congr 3
   ·refine List.filter_congr fun x _=>?_
    simp only [List.any_cons,he,decide_true,Bool.true_and,Bool.not_or]
    rw [Bool.and_comm]
   ·omega
  ·rw [if_neg (by simpa using he)]
   simp only [Option.bind_some]
   rw [Zjr now l M c (by omega)]
   unfold dead
   rw [List.countP_cons,if_neg (by simpa using he)]
   congr 3
   refine List.filter_congr fun x _=>?_
   simp only [List.any_cons,he,decide_false,Bool.false_and,Bool.false_or]
theorem Zsn {L:TB} (h:TaOk L) (hl:L.length<4611686018427387904) (most now:Int):Z3 most L now=some ((dead now L:Int),live now L):=by
 unfold Z3
 refine Ziq fun l' hp=>?_
 have:=Zjr now l' L 0 (by rw [hp.length_eq]; omega)
 rw [show ((0:Nat):Int)=0 from rfl] at this
 rw [this]
 simp only [Option.bind_some,Nat.zero_add]
 congr 2
 ·unfold dead; rw [hp.countP_eq]
 ·refine List.filter_congr fun x hx=>?_
  rw [Bool.eq_iff_iff]
  simp only [Bool.not_eq_true',decide_eq_true_eq]
  rw [← Bool.not_eq_true,List.any_eq_true]
  constructor
  ·intro hn
   refine Classical.byContradiction fun hlt=>hn ⟨x,hp.mem_iff.2 hx,?_⟩
   simp only [eqHr,Bool.and_true,decide_eq_true_eq]; omega
  ·rintro hlt ⟨y,hy,hye⟩
   simp only [Bool.and_eq_true,decide_eq_true_eq,eqH] at hye
   have:=h.uniq (hp.mem_iff.1 hy) hx hye.2
   subst this
   omega
theorem Zso {L:TB} (h:TaOk L) {x:Zc × Za} (hx:x∈L):mget Zg L x.1=some x.2:=by
 unfold mget
 cases hf:L.find? (fun y=>Zg x.1 y.1) with
 | none=>
  rw [List.find?_eq_none] at hf
  exact absurd (eqHr x.1) (hf x hx)
 | some y=>
  have h1:=List.find?_some hf
  have h2:=List.mem_of_find?_eq_some hf
  rw [eqH] at h1
  rw [h.uniq h2 hx h1.symm]; rfl
theorem Zdv {L:TB} {k:Zc} {c:Za} (h:mget Zg L k=some c):(k,c)∈L:=by
 unfold mget at h
 rw [Option.map_eq_some_iff] at h
 obtain⟨x,h1,rfl⟩:=h
 have h2:=List.find?_some h1
 rw [eqH] at h2
 subst h2
 exact List.mem_of_find?_eq_some h1
end Go.AM
set_option maxRecDepth 100000
namespace Go.AM
open Go
abbrev BoxR:=Arr5 Zj
def ofB (v:Arr5 Int):BoxR:=⟨⟨v.x0,v.x0⟩,⟨v.x1,v.x1⟩,⟨v.x2,v.x2⟩,⟨v.x3,v.x3⟩,⟨v.x4,v.x4⟩⟩
theorem rOf_eq {h:Zc} (hh:Zu h):Zct h=some (ofB (hv h)):=by
 unfold Zct
 rw [Zma hh]
 simp only [Option.bind_some]
 rw [Zkz (L:=Zcs (hv h)) (f:=fun s k=>Arr5.set s k ⟨(hv h).get k,(hv h).get k⟩) (fin:=id) (fun n s k h0 h1=>by
  rw [Zcs]
  simp only [show k<5 from h1,decide_true,if_true,show 0≤k∧k<5 from ⟨h0,h1⟩,and_self,wnext h0 (by omega:k<1000000)]) (fun n s=>by rw [Zcs]; rfl)]
 rfl
def vH (h:Zp):Bool:=vB h.Match && decide (h.Ports.Lo≤h.Ports.Hi) && decide (h.Ports.Hi≤65535)
theorem Zhp (h:Zp):Zbq h=some (vH h):=by
 unfold Zbq vH
 rw [Zpl]
 simp only [Option.bind_some]
 rw [show Zh7 3=some 65535 from rfl]
 cases vB h.Match <;> cases decide (h.Ports.Lo≤h.Ports.Hi) <;> simp
theorem Zgr (h:Zp):Zbr h=some (vH h):=by
 unfold Zbr vH
 rw [Zfp]
 rfl
def tgtB (h:Zp) (b:BoxR):BoxR:=⟨⟨h.Addr,h.Addr⟩,b.x1,b.x2,h.Ports,b.x4⟩
def gH (h:Zc) (i:Nat) (m:Zp):Option Int:=if (vH m && cB m.Match h)=true then some (i:Int) else none
def mH (l:List Zp) (h:Zc):Int:=orN (findI (gH h) 0 l)
theorem Zk0 {h:Zc} (hh:Zu h) {l:List Zp} (hl:l.length≤1000000000000):Zcd l h=some (mH l h):=by
 have h1:∀ m:Zp,Zcm m h=some (vH m && cB m.Match h):=fun m=>by
  unfold Zcm
  rw [Zhp,Zip hh]
  cases vH m <;> rfl
 unfold Zcd Z9 mH
 rw [Zdf (L:=Zy l h) l (gH h) hl (fun n i hi=>by
  rw [Zy]
  simp only [show ((i:Int)<(l.length:Int)) from by omega,decide_true,if_true,Zbm hi,Option.bind_some,h1,wsucc (by omega:i<1000000000001)]
  unfold gH
  cases (vH l[i] && cB l[i].Match h) <;> rfl) (fun n=>by rw [Zy]; simp)]
 cases findI (gH h) 0 l <;> rfl
theorem Zoq {h:Zc} (hh:Zu h) {l:List Zp} (hl:l.length≤1000000000000):Zcz l h=some (mH l h):=by
 unfold Zcz mH
 rw [Zdf (L:=Zbb l h) l (gH h) hl (fun n i hi=>by
  rw [Zbb]
  simp only [show ((i:Int)<(l.length:Int)) from by omega,decide_true,if_true,Zbm hi,Option.bind_some,Zgr,Zho hh,wsucc (by omega:i<1000000000001)]
  unfold gH
  cases vH l[i] <;> cases cB l[i].Match h <;> rfl) (fun n=>by rw [Zbb]; simp)]
 cases findI (gH h) 0 l <;> rfl
theorem Zpn {h:Zc}:∀(l:List Zp) (i:Nat) (r:Int),findI (gH h) i l=some r→∃ j m,l[j]? = some m∧r=((i + j:Nat):Int)∧vH m=true∧cB m.Match h=true
 | [],_,_,e=>by simp [findI] at e
 | m :: l,i,r,e=>by
  unfold findI at e
  unfold gH at e
  by_cases hm:(vH m && cB m.Match h)=true
  ·rw [if_pos hm] at e
   simp only [Option.some.injEq] at e
   simp only [Bool.and_eq_true] at hm
   exact⟨0,m,rfl,by simpa using e.symm,hm.1,hm.2⟩
  ·rw [if_neg hm] at e
   obtain⟨j,m',h1,h2,h3⟩:=Zpn l (i + 1) r e
   exact⟨j + 1,m',h1,by rw [h2]; congr 1; omega,h3⟩
theorem Zi4 {l:List Zp} {h:Zc} (hp:¬ mH l h<0):∃(j:Nat) (m:Zp),l[j]? = some m∧mH l h=(j:Int)∧vH m=true∧cB m.Match h=true:=by
 unfold mH at hp ⊢
 cases hf:findI (gH h) 0 l with
 | none=>rw [hf] at hp; exact absurd (by decide) hp
 | some r=>
  obtain⟨j,m,h1,h2,h3,h4⟩:=Zpn l 0 r hf
  exact⟨j,m,h1,by rw [h2]; simp [orN],h3,h4⟩
theorem Of_box {h:Zc} (hh:Zu h):Zf8 h=some (ofB (hv h)):=by
 unfold Zf8
 rw [Zog hh]
 simp only [Option.bind_some]
 rw [Zkz (L:=Zd8 (hv h)) (f:=fun s k=>Arr5.set s k ⟨(hv h).get k,(hv h).get k⟩) (fin:=id) (fun n s k h0 h1=>by
  rw [Zd8]
  simp only [show k<5 from h1,decide_true,if_true,show 0≤k∧k<5 from ⟨h0,h1⟩,and_self,wnext h0 (by omega:k<1000000)]) (fun n s=>by rw [Zd8]; rfl)]
 rfl
def hdB (m:Zp) (h:Zc):BoxR:=if (vH m && cB m.Match h)=true then tgtB m (ofB (hv h)) else ofB (hv h)
theorem Zrx {h:Zc} (hh:Zu h) (m:Zp):Zdz m h=some (hdB m h):=by
 unfold Zdz hdB
 rw [Of_box hh,Zhp,Zip hh]
 cases vH m <;> cases cB m.Match h <;> rfl
theorem Zq3 {h:Zc} (hh:Zu h) (m:Zp):Zd0 m h=some (hdB m h):=by
 unfold Zd0 hdB
 rw [rOf_eq hh,Zgr,Zho hh]
 cases vH m <;> cases cB m.Match h <;> rfl
def gVH (_:Nat) (m:Zp):Option Bool:=if vH m=true then none else some false
def vHs (l:List Zp):Bool:=match findI gVH 0 l with
 | none=>decide ((l.length:Int)≤256)
 | some r=>r
theorem Zor {l:List Zp} (hl:l.length≤1000000000000):Zcu l=some (vHs l):=by
 unfold Zcu vHs
 rw [Zdf (L:=Za2 l) l gVH hl (fun n i hi=>by
  rw [Za2]
  simp only [show ((i:Int)<(l.length:Int)) from by omega,decide_true,if_true,Zbm hi,Option.bind_some,Zhp,wsucc (by omega:i<1000000000001)]
  unfold gVH
  cases vH l[i] <;> rfl) (fun n=>by rw [Za2]; simp)]
 cases findI gVH 0 l with
 | none=>rfl
 | some r=>rfl
theorem Zns {l:List Zp} (hl:l.length≤1000000000000):Zcv l=some (vHs l):=by
 unfold Zcv vHs
 rw [Zdf (L:=Za3 l) l gVH hl (fun n i hi=>by
  rw [Za3]
  simp only [show ((i:Int)<(l.length:Int)) from by omega,decide_true,if_true,Zbm hi,Option.bind_some,Zgr,wsucc (by omega:i<1000000000001)]
  unfold gVH
  cases vH l[i] <;> rfl) (fun n=>by rw [Za3]; simp)]
 cases findI gVH 0 l with
 | none=>rfl
 | some r=>rfl
end Go.AM

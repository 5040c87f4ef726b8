/- Parts of a proof, printed short. No condition. -/
import Derived.Test.YtdpogkakaeeccaaGreatDoorProg
import Derived.Test.YtdpogkakaeeccaaGreatDoorCoQ3
set_option maxRecDepth 100000
namespace Go.AM
open Go Go.Proofs
def Zsk (r:Bool):PV→List Blk→Prop:=fun p K=>p=(vb r)∧K=[]
theorem Zsl (r:Bool) (hF:Zjx=some r):ACall Tryz.prog glob 9 [] [] (Zsk r):=by
 have hr:=someb hF
 subst hr
 exact(T8_ok _ (List.mem_cons.2 (.inl rfl))).1
def Zu7 (r:Zg):PV→List Blk→Prop:=fun p K=>p=(.ptr 0 0)∧K=[.cells (Zi r)]
theorem Zu8 (a:(List Int)) (r:Zg) (hF:Zi7 a=some r):ACall Tryz.prog glob 5 [(slc 1 Zz a)] [] (Zu7 r):=by
 refine ACall.body Tryz.func5 rfl (by kernel_rfl) ?_
 unfold Zi7 at hF
 refine AWP.seq (AWP.rg0 [] [(0,(slc 1 Zz a))] (AWP.seq (AWP.rg [] [(2,(.ptr 0 0))] [.cells (Zi (Zg.mk a (0:Int)))] (AWP.ret ?_))))
 have hr:=someb hF
 subst hr
 exact(FnQ.f0 1 (.inr rfl))
def Zu9 (r:Int):PV→List Blk→Prop:=fun p K=>p=(i64 r)∧K=[]
theorem Znn (a:Int) (b:Int) (r:Int) (hF:Zg2 a b=some r):ACall Tryz.prog glob 41 [(i64 a),(i64 b)] [] (Zu9 r):=by
 refine ACall.body Tryz.func41 rfl (by kernel_rfl) ?_
 unfold Zg2 at hF
 refine AWP.seq (AWP.rg0 [] [(0,(i64 a)),(1,(i64 b))] (AWP.seq ?_))
 obtain⟨c,hF⟩:=chkb hF
 refine AWP.rg0 [(4,.rem c)] [(4,(i64 (ZI (Int.tmod (IntKind.wrap .u64 a) (IntKind.wrap .u64 b)))))] (AWP.ret ?_)
 have hr:=someb hF
 subst hr
 exact(FnQ.f0 0 (.inr rfl))
def Zno (r:(Int × Zg)):PV→List Blk→Prop:=fun p K=>p=(i64 r.1)∧K=[.cells (Zi r.2)]
theorem Z6 (a:Zg) (b:Int) (r:(Int × Zg)) (hF:Zu a b=some r):ACall Tryz.prog glob 18 [(.ptr 0 0),(i64 b)] [.cells (Zi a)] (Zno r):=by
 refine ACall.body Tryz.func18 rfl (by kernel_rfl) ?_
 unfold Zu at hF
 refine AWP.seq (AWP.rg0 [] [(0,(.ptr 0 0)),(1,(i64 b))] (AWP.seq (AWP.seq ?_)))
 obtain⟨b1,c,hF⟩:=bindb hF
 replace c:=someb c
 refine AWP.to [(0,(.ptr 0 0)),(1,(i64 b)),(18,(vb (b1 || (decide (a.f_i ≥ (List.length a.f_l:Int))))))] [.cells (Zi a)] ?_ ?_
 ·cases b1 with
  | false=>
   exact AWP.drT [(2,.bool c),(11,.len Zz a.f_l)] 14 [] [] []
  | true=>
   exact AWP.drT [(2,.bool c)] 14 [] [] []
 refine AWP.cif hF (fun f hF=>?_) (fun f hF=>?_)
 ·refine AWP.seq (AWP.rg0 [] [(4,(i64 (0:Int)))] (AWP.ret ?_))
  have hr:=someb hF
  subst hr
  exact(FnQ.f0 1 (.inr rfl))
 ·refine AWP.skip (AWP.seq (AWP.rg [] [(0,(.ptr 0 0)),(1,(i64 b))] [.cells (Zi ({ a with f_i:=(ZI (a.f_i + (1:Int))) }:Zg))] (AWP.seq ?_)))
  obtain⟨g,i,hF⟩:=bindb hF
  obtain⟨d,j,hF⟩:=bindb hF
  refine AWP.dr [(9,.idx Zz i),(12,.call Tryz.func41 [] (Znn g b d j))] 13 [] [] [] [(4,(i64 d))] [.cells (Zi ({ a with f_i:=(ZI (a.f_i + (1:Int))) }:Zg))] (AWP.ret ?_)
  have hr:=someb hF
  subst hr
  exact(FnQ.f0 1 (.inr rfl))
def Zm4 (r:Int):PV→List Blk→Prop:=fun p K=>p=(u32 r)∧K=[]
abbrev Zuf (r:Int):Exit→St→List Blk→Prop:=FnQ Tryz.prog Tryz.f31.results 0 (Zm4 r)
theorem Zfl (a:Int) (r:Int) (hF:Zdm a=some r):ACall Tryz.prog glob 31 [(i64 a)] [] (Zm4 r):=by
 refine ACall.body Tryz.func31 rfl (by kernel_rfl) ?_
 unfold Zdm at hF
 refine AWP.seq (AWP.rg0 [] [(0,(i64 a))] ?_)
 obtain⟨b,c,hF⟩:=bindb hF
 refine AWP.seq ?_
 refine AWP.mid (fun e st H=>(e=.normal∧b=(.inl ())∧st=[]∧H=[])∨(e=.ret∧∃ r,b=(.inr r)∧Zuf r e st H)) ?_ ?_
 ·clear hF
  have hF:=c
  refine AWP.seq (AWP.rg0 [] [(3,(i64 a))] (AWP.block ?_))
  obtain⟨d,f,hF⟩:=bindb hF
  refine AWP.seq ?_
  refine AWP.mid (fun e st H=>e=.normal∧st=[(3,(i64 a)),(4,(vb d))]∧H=[]) ?_ ?_
  ·clear hF
   have hF:=f
   refine AWP.seq (AWP.rg0 [] [(3,(i64 a)),(4,(vb (a == (0:Int))))] ?_)
   refine AWP.cif hF (fun g hF=>?_) (fun g hF=>?_)
   ·refine AWP.skip (LeQ.start (LeQ.pk [3,4] 0 ?_))
    have hr:=someb hF
    subst hr
    exact⟨rfl,by kernel_rfl,by kernel_rfl⟩
   ·refine AWP.rg0 [] [(3,(i64 a)),(4,(vb (a == (1:Int))))] (LeQ.start (LeQ.pk [3,4] 0 ?_))
    have hr:=someb hF
    subst hr
    exact⟨rfl,by kernel_rfl,by kernel_rfl⟩
  ·rintro _ _ _ ⟨rfl,rfl,rfl⟩
   refine AWP.cif hF (fun i hF=>?_) (fun i hF=>?_)
   ·refine AWP.seq (AWP.rg0 [] [(2,(u32 (4294967295:Int)))] (AWP.ret ?_))
    exact LeQ.of (.inr ⟨rfl,(4294967295:Int),(someb hF).symm,(FnQ.f0 0 (.inr rfl))⟩)
   ·refine AWP.seq (AWP.rg0 [] [(3,(i64 a)),(7,(vb (a == (2:Int))))] ?_)
    refine AWP.cif hF (fun j hF=>?_) (fun j hF=>?_)
    ·refine AWP.seq (AWP.rg0 [] [(2,(u32 (255:Int)))] (AWP.ret ?_))
     exact LeQ.of (.inr ⟨rfl,(255:Int),(someb hF).symm,(FnQ.f0 0 (.inr rfl))⟩)
    ·obtain⟨k,l,hF⟩:=bindb hF
     refine AWP.seq ?_
     refine AWP.mid (fun e st H=>e=.normal∧st=[(9,(vb k))]∧H=[]) ?_ ?_
     ·clear hF
      have hF:=l
      refine AWP.seq (AWP.rg0 [] [(3,(i64 a)),(9,(vb (a == (3:Int))))] ?_)
      refine AWP.cif hF (fun m hF=>?_) (fun m hF=>?_)
      ·refine AWP.skip (LeQ.start (LeQ.pk [9] 0 ?_))
       have hr:=someb hF
       subst hr
       exact⟨rfl,by kernel_rfl,by kernel_rfl⟩
      ·refine AWP.rg0 [] [(9,(vb (a == (4:Int))))] (LeQ.start (LeQ.pk [9] 0 ?_))
       have hr:=someb hF
       subst hr
       exact⟨rfl,by kernel_rfl,by kernel_rfl⟩
     ·rintro _ _ _ ⟨rfl,rfl,rfl⟩
      refine AWP.cif hF (fun n hF=>?_) (fun n hF=>?_)
      ·refine AWP.seq (AWP.rg0 [] [(2,(u32 (65535:Int)))] (AWP.ret ?_))
       exact LeQ.of (.inr ⟨rfl,(65535:Int),(someb hF).symm,(FnQ.f0 0 (.inr rfl))⟩)
      ·refine AWP.skip (LeQ.start (LeQ.pk [] 0 ?_))
       exact(.inl ⟨rfl,(someb hF).symm,by kernel_rfl,by kernel_rfl⟩)
 ·rintro _ _ _ (⟨rfl,rfl,rfl,rfl⟩ | ⟨rfl,o,rfl,hq⟩)
  ·refine AWP.seq (AWP.rg0 [] [(2,(u32 (0:Int)))] (AWP.ret ?_))
   have hr:=someb hF
   subst hr
   exact(FnQ.f0 0 (.inr rfl))
  ·have hr:=someb hF
   subst hr
   exact hq
def Zsm (r:ZB):PV→List Blk→Prop:=fun p K=>p=(Zs r)∧K=[]
theorem Zsn (r:ZB) (hF:Zh5=some r):ACall Tryz.prog glob 22 [] [] (Zsm r):=by
 refine ACall.body Tryz.func22 rfl (by kernel_rfl) ?_
 unfold Zh5 at hF
 refine AWP.seq (AWP.rg [] [(0,(.ptr 0 0))] [.cells (Za Zv)] (AWP.seq (AWP.rg [] [(0,(.ptr 0 0)),(1,(.ptr 1 0))] [.cells (Za Zv),.cells (Za Zv)] (AWP.seq (AWP.seq (AWP.rg0 [] [(0,(.ptr 0 0)),(1,(.ptr 1 0)),(2,(i64 (0:Int)))] ?_))))))
 obtain⟨c,j,hF⟩:=bindb hF
 refine AWP.mid (fun e st H=>e=.normal∧st=[(0,(.ptr 0 0)),(1,(.ptr 1 0))]∧H=[.cells (Za Zv),.cells (Za c)]) ?_ ?_
 ·clear hF
  refine AWP.kp [0,1,2] 2 ?_
  refine AWP.bround (fun n st H=>∃ b,∃ a,Zgw n b a=some c∧st=[(0,(.ptr 0 0)),(1,(.ptr 1 0)),(2,(i64 a))]∧H=[.cells (Za Zv),.cells (Za b)]) fuel ⟨Zv,(0:Int),j,by kernel_rfl,by kernel_rfl⟩ ?_
  rintro f st H ⟨b,a,hF,rfl,rfl⟩
  cases f with
  | zero=>exact noneb hF
  | succ f=>
   rw [Zgw] at hF
   refine AWP.seq (AWP.seq (AWP.rg0 [] [(0,(.ptr 0 0)),(1,(.ptr 1 0)),(2,(i64 a)),(4,(vb (decide (a<(5:Int)))))] ?_))
   refine AWP.cif hF (fun k hF=>?_) (fun k hF=>?_)
   ·refine AWP.skip (AWP.seq (AWP.block ?_))
    obtain⟨d,l,hF⟩:=bindb hF
    obtain⟨g,hF⟩:=chkb hF
    refine AWP.rg [(2,.call Tryz.func31 [] (Zfl a d l)),(3,.ixd g),(5,.stA (fun i=>Za (Arr5.set b i ({ (Arr5.get b i) with Hi:=d }:Zb))) 0 2 1 g)] [(0,(.ptr 0 0)),(1,(.ptr 1 0)),(2,(i64 a))] [.cells (Za Zv),.cells (Za (Arr5.set b a ({ (Arr5.get b a) with Hi:=d }:Zb)))] (AWP.rg0 [] [(0,(.ptr 0 0)),(1,(.ptr 1 0)),(2,(i64 (ZI (a + (1:Int)))))] (LeQ.start (LeQ.pk [0,1,2] 2 ?_)))
    exact⟨f,Nat.lt_succ_self _,(Arr5.set b a ({ (Arr5.get b a) with Hi:=d }:Zb)),(ZI (a + (1:Int))),hF,by kernel_rfl,by kernel_rfl⟩
   ·refine AWP.exit (LeQ.start (LeQ.pk [0,1] 2 ?_))
    have hr:=someb hF
    subst hr
    exact⟨rfl,by kernel_rfl,by kernel_rfl⟩
 ·rintro _ _ _ ⟨rfl,rfl,rfl⟩
  refine AWP.seq (AWP.rg [] [(0,(.ptr 0 0))] [.cells (Za c),.cells (Za c)] (AWP.ret ?_))
  have hr:=someb hF
  subst hr
  exact(FnQ.f0 0 (.inr rfl))
def Zrg (r:Zbd):PV→List Blk→Prop:=fun p K=>p=(Zkb r)∧K=[]
theorem Zla (a:Int) (r:Zbd) (hF:Zfc a=some r):ACall Tryz.prog glob 69 [(i64 a)] [] (Zrg r):=by
 refine ACall.body Tryz.func69 rfl (by kernel_rfl) ?_
 unfold Zfc at hF
 refine AWP.seq (AWP.rg [] [(0,(i64 a)),(2,(.ptr 0 0))] [.cells (Zct Zu6)] (AWP.seq ?_))
 obtain⟨b,c,hF⟩:=bindb hF
 obtain⟨d,f,hF⟩:=bindb hF
 refine AWP.rg [(8,.call Tryz.func41 [] (Znn a (6:Int) b c)),(9,.idx Zct f)] [(2,(.ptr 0 0))] [.cells (Zct d)] (AWP.ret ?_)
 have hr:=someb hF
 subst hr
 exact(FnQ.f0 0 (.inr rfl))
def Zso (r:Int):PV→List Blk→Prop:=fun p K=>p=(u64 r)∧K=[]
theorem Zl6 (a:Int) (r:Int) (hF:Zh6 a=some r):ACall Tryz.prog glob 91 [(i64 a)] [] (Zso r):=by
 refine ACall.body Tryz.func91 rfl (by kernel_rfl) ?_
 unfold Zh6 at hF
 refine AWP.seq (AWP.rg0 [] [(0,(i64 a))] (AWP.seq ?_))
 obtain⟨b,hF⟩:=chkb hF
 refine AWP.rg0 [(3,.sh b)] [(2,(u64 (bShl .u64 (1:Int) (IntKind.wrap .u64 (ZI ((32:Int) - a))))))] (AWP.ret ?_)
 have hr:=someb hF
 subst hr
 exact(FnQ.f0 0 (.inr rfl))
def Zrh (r:Bool):PV→List Blk→Prop:=fun p K=>p=(vb r)∧K=[]
theorem Zri (b:Zbd) (r:Bool) (hF:Zi8 b=some r):ACall Tryz.prog glob 90 [(Zkb b)] [] (Zrh r):=by
 refine ACall.body Tryz.func90 rfl (by kernel_rfl) ?_
 unfold Zi8 at hF
 refine AWP.seq (AWP.rg [] [(1,(.ptr 0 0))] [.cells (Zct b)] (AWP.seq ?_))
 obtain⟨b1,c,hF⟩:=bindb hF
 replace c:=someb c
 obtain⟨g,d,hF⟩:=bindb hF
 replace d:=someb d
 obtain⟨i,f,hF⟩:=bindb hF
 refine AWP.to [(2,(vb i))] [.cells (Zct b)] ?_ ?_
 ·cases b1 with
  | false=>
   subst d
   have j:=someb (ifF f rfl)
   subst j
   exact AWP.drT [(3,.bool c)] 18 [] [] []
  | true=>
   cases g with
   | false=>
    have k:=someb (ifF f rfl)
    subst k
    exact AWP.drT [(3,.bool c),(8,.bool d)] 18 [] [] []
   | true=>
    have a:=ifT f rfl
    obtain⟨l,m,a⟩:=bindb a
    obtain⟨n,a⟩:=chkb a
    replace a:=someb a
    subst a
    exact AWP.drT [(3,.bool c),(8,.bool d),(14,.call Tryz.func91 [] (Zl6 b.Bits l m)),(15,.rem n)] 18 [] [] []
 refine AWP.ret ?_
 have hr:=someb hF
 subst hr
 exact(FnQ.f0 0 (.inr rfl))
def Zva (r:(Zb × Bool)):PV→List Blk→Prop:=fun p K=>p=(.tup [(Zhn r.1),(vb r.2)])∧K=[]
theorem Znp (a:Zbd) (r:(Zb × Bool)) (hF:Zho a=some r):ACall Tryz.prog glob 70 [(Zkb a)] [] (Zva r):=by
 refine ACall.body Tryz.func70 rfl (by kernel_rfl) ?_
 unfold Zho at hF
 refine AWP.seq (AWP.rg [] [(1,(.ptr 0 0)),(2,(.ptr 1 0))] [.cells (Zct a),.cells (Zh Z3)] (AWP.seq (AWP.seq ?_)))
 obtain⟨b,d,hF⟩:=bindb hF
 refine AWP.rg0 [(1,.call Tryz.func90 [] (Zri a b d))] [(1,(.ptr 0 0)),(2,(.ptr 1 0)),(6,(vb (!b)))] ?_
 refine AWP.cif hF (fun f hF=>?_) (fun f hF=>?_)
 ·refine AWP.seq (AWP.rg [] [(2,(.ptr 1 0)),(3,(vb false))] [.cells (Zct a),.cells (Zh (Zb.mk (0:Int) (0:Int)))] (AWP.ret ?_))
  have hr:=someb hF
  subst hr
  exact(FnQ.f0 0 (.inr rfl))
 ·refine AWP.skip (AWP.seq ?_)
  obtain⟨c,g,hF⟩:=bindb hF
  refine AWP.dr [(7,.call Tryz.func91 [] (Zl6 a.Bits c g))] 12 [] [] [] [(2,(.ptr 1 0)),(3,(vb true))] [.cells (Zct a),.cells (Zh (Zb.mk a.Addr (IntKind.wrap .u32 (IntKind.wrap .u64 ((IntKind.wrap .u64 ((IntKind.wrap .u64 a.Addr) + c)) - (1:Int))))))] (AWP.ret ?_)
  have hr:=someb hF
  subst hr
  exact(FnQ.f0 0 (.inr rfl))
def Znq (r:(Int × Zg)):PV→List Blk→Prop:=fun p K=>p=(u32 r.1)∧K=[.cells (Zi r.2)]
theorem Ze9 (d:Zg) (r:(Int × Zg)) (hF:Zb8 d=some r):ACall Tryz.prog glob 39 [(.ptr 0 0)] [.cells (Zi d)] (Znq r):=by
 refine ACall.body Tryz.func39 rfl (by kernel_rfl) ?_
 unfold Zb8 at hF
 refine AWP.seq (AWP.rg0 [] [(0,(.ptr 0 0))] (AWP.seq (AWP.seq ?_)))
 obtain⟨a,j,hF⟩:=bindb hF
 refine AWP.rg [(1,.call Tryz.func18 [] (Z6 d (5:Int) a j))] [(0,(.ptr 0 0)),(8,(vb (a.1 == (4:Int))))] [.cells (Zi a.2)] ?_
 refine AWP.cif hF (fun k hF=>?_) (fun k hF=>?_)
 ·refine AWP.seq ?_
  obtain⟨g,l,hF⟩:=bindb hF
  obtain⟨m,n,hF⟩:=bindb hF
  refine AWP.rg [(2,.call Tryz.func18 [] (Z6 a.2 (6:Int) g l)),(3,.idx Zet n)] [(2,(u32 m))] [.cells (Zi g.2)] (AWP.ret ?_)
  have hr:=someb hF
  subst hr
  exact(FnQ.f0 1 (.inr rfl))
 ·refine AWP.skip (AWP.seq ?_)
  obtain⟨b,o,hF⟩:=bindb hF
  obtain⟨c,p,hF⟩:=bindb hF
  refine AWP.rg [(1,.call Tryz.func18 [] (Z6 a.2 (6:Int) b o)),(2,.call Tryz.func69 [] (Zla b.1 c p))] [(0,(.ptr 0 0)),(3,(.ptr 1 0))] [.cells (Zi b.2),.cells (Zct c)] (AWP.seq ?_)
  obtain⟨f,q,hF⟩:=bindb hF
  refine AWP.rg [(1,.call Tryz.func70 [] (Znp c f q))] [(0,(.ptr 0 0)),(4,(.ptr 2 0))] [.cells (Zi b.2),.cells (Zct c),.cells (Zh f.1)] (AWP.seq ?_)
  obtain⟨i,s,hF⟩:=bindb hF
  obtain⟨t,u,hF⟩:=bindb hF
  refine AWP.dr [(15,.call Tryz.func18 [] (Z6 b.2 (5:Int) i s)),(16,.idx Zet u)] 18 [] [15] [] [(2,(u32 t))] [.cells (Zi i.2),.cells (Zct c),.cells (Zh f.1)] (AWP.ret ?_)
  have hr:=someb hF
  subst hr
  exact(FnQ.f0 1 (.inr rfl))
def Zk2 (r:(Zb × Zg)):PV→List Blk→Prop:=fun p K=>p=(Zhn r.1)∧K=[.cells (Zi r.2)]
theorem Zia (f:Zg) (r:(Zb × Zg)) (hF:Zc0 f=some r):ACall Tryz.prog glob 57 [(.ptr 0 0)] [.cells (Zi f)] (Zk2 r):=by
 refine ACall.body Tryz.func57 rfl (by kernel_rfl) ?_
 unfold Zc0 at hF
 refine AWP.seq (AWP.rg [] [(0,(.ptr 0 0)),(2,(.ptr 1 0))] [.cells (Zi f),.cells (Zh Z3)] (AWP.seq (AWP.seq ?_)))
 obtain⟨a,k,hF⟩:=bindb hF
 refine AWP.rg [(1,.call Tryz.func18 [] (Z6 f (4:Int) a k))] [(0,(.ptr 0 0)),(2,(.ptr 1 0)),(9,(i64 a.1))] [.cells (Zi a.2),.cells (Zh Z3)] (AWP.block (AWP.seq (AWP.rg0 [] [(0,(.ptr 0 0)),(2,(.ptr 1 0)),(9,(i64 a.1)),(10,(vb (a.1 == (0:Int))))] ?_)))
 refine AWP.cif hF (fun l hF=>?_) (fun l hF=>?_)
 ·refine AWP.seq ?_
  obtain⟨g,m,hF⟩:=bindb hF
  obtain⟨j,n,hF⟩:=bindb hF
  obtain⟨i,o,hF⟩:=bindb hF
  refine AWP.rg [(1,.call Tryz.func18 [] (Z6 a.2 (6:Int) g m)),(2,.call Tryz.func69 [] (Zla g.1 j n)),(3,.call Tryz.func70 [] (Znp j i o))] [(2,(.ptr 1 0)),(3,(.ptr 2 0))] [.cells (Zi g.2),.cells (Zh Z3),.cells (Zh i.1)] (AWP.seq (AWP.rg [] [(2,(.ptr 1 0))] [.cells (Zi g.2),.cells (Zh i.1),.cells (Zh i.1)] (AWP.ret ?_)))
  have hr:=someb hF
  subst hr
  exact(FnQ.f0 1 (.inr rfl))
 ·refine AWP.seq (AWP.rg0 [] [(0,(.ptr 0 0)),(2,(.ptr 1 0)),(9,(i64 a.1)),(20,(vb (a.1 == (1:Int))))] ?_)
  refine AWP.cif hF (fun p hF=>?_) (fun p hF=>?_)
  ·refine AWP.seq ?_
   obtain⟨d,q,hF⟩:=bindb hF
   obtain⟨b,s,hF⟩:=bindb hF
   refine AWP.rg [(1,.call Tryz.func39 [] (Ze9 a.2 d q)),(3,.call Tryz.func39 [] (Ze9 d.2 b s))] [(2,(.ptr 1 0)),(5,(u32 d.1)),(6,(u32 b.1))] [.cells (Zi b.2),.cells (Zh Z3)] (AWP.seq (AWP.rg [] [(2,(.ptr 1 0))] [.cells (Zi b.2),.cells (Zh (Zb.mk (iMin d.1 b.1) (iMax d.1 b.1)))] (AWP.ret ?_)))
   have hr:=someb hF
   subst hr
   exact(FnQ.f0 1 (.inr rfl))
  ·refine AWP.seq (AWP.rg0 [] [(0,(.ptr 0 0)),(2,(.ptr 1 0)),(33,(vb (a.1 == (2:Int))))] ?_)
   refine AWP.cif hF (fun t hF=>?_) (fun t hF=>?_)
   ·refine AWP.seq ?_
    obtain⟨c,u,hF⟩:=bindb hF
    refine AWP.rg [(1,.call Tryz.func39 [] (Ze9 a.2 c u))] [(2,(.ptr 1 0)),(7,(u32 c.1))] [.cells (Zi c.2),.cells (Zh Z3)] (AWP.seq (AWP.rg [] [(2,(.ptr 1 0))] [.cells (Zi c.2),.cells (Zh (Zb.mk c.1 c.1))] (AWP.ret ?_)))
    have hr:=someb hF
    subst hr
    exact(FnQ.f0 1 (.inr rfl))
   ·refine AWP.skip (AWP.seq (AWP.rg [] [(2,(.ptr 1 0))] [.cells (Zi a.2),.cells (Zh (Zb.mk (0:Int) (4294967295:Int)))] (AWP.ret ?_)))
    have hr:=someb hF
    subst hr
    exact(FnQ.f0 1 (.inr rfl))
def Zmo (r:(Int × Zg)):PV→List Blk→Prop:=fun p K=>p=(u32 r.1)∧K=[.cells (Zi r.2)]
theorem Zft (b:Zg) (a:Int) (r:(Int × Zg)) (hF:Zb9 b a=some r):ACall Tryz.prog glob 40 [(.ptr 0 0),(u32 a)] [.cells (Zi b)] (Zmo r):=by
 refine ACall.body Tryz.func40 rfl (by kernel_rfl) ?_
 unfold Zb9 at hF
 refine AWP.seq (AWP.rg0 [] [(0,(.ptr 0 0)),(1,(u32 a))] (AWP.seq ?_))
 obtain⟨c,f,hF⟩:=bindb hF
 obtain⟨d,g,hF⟩:=bindb hF
 refine AWP.rg [(7,.call Tryz.func18 [] (Z6 b (17:Int) c f)),(8,.idx Zet g)] [(1,(u32 a)),(5,(u32 d))] [.cells (Zi c.2)] (AWP.seq (AWP.rg0 [] [(4,(u32 (iMin d a)))] (AWP.ret ?_)))
 have hr:=someb hF
 subst hr
 exact(FnQ.f0 1 (.inr rfl))
def Zm6 (r:(Zb × Zg)):PV→List Blk→Prop:=fun p K=>p=(Zhn r.1)∧K=[.cells (Zi r.2)]
theorem Zjp (d:Zg) (b:Int) (r:(Zb × Zg)) (hF:Zdz d b=some r):ACall Tryz.prog glob 58 [(.ptr 0 0),(u32 b)] [.cells (Zi d)] (Zm6 r):=by
 refine ACall.body Tryz.func58 rfl (by kernel_rfl) ?_
 unfold Zdz at hF
 refine AWP.seq (AWP.rg [] [(0,(.ptr 0 0)),(1,(u32 b)),(4,(.ptr 1 0))] [.cells (Zi d),.cells (Zh Z3)] (AWP.seq ?_))
 obtain⟨c,f,hF⟩:=bindb hF
 obtain⟨a,g,hF⟩:=bindb hF
 refine AWP.rg [(2,.call Tryz.func40 [] (Zft d b c f)),(5,.call Tryz.func40 [] (Zft c.2 b a g))] [(4,(.ptr 1 0)),(5,(u32 c.1)),(6,(u32 a.1))] [.cells (Zi a.2),.cells (Zh Z3)] (AWP.seq (AWP.rg [] [(4,(.ptr 1 0))] [.cells (Zi a.2),.cells (Zh (Zb.mk (iMin c.1 a.1) (iMax c.1 a.1)))] (AWP.ret ?_)))
 have hr:=someb hF
 subst hr
 exact(FnQ.f0 1 (.inr rfl))
def Zoo (r:(ZB × Zg)):PV→List Blk→Prop:=fun p K=>p=(Zs r.1)∧K=[.cells (Zi r.2)]
theorem Zop (d:Zg) (r:(ZB × Zg)) (hF:Zfp d=some r):ACall Tryz.prog glob 29 [(.ptr 0 0)] [.cells (Zi d)] (Zoo r):=by
 refine ACall.body Tryz.func29 rfl (by kernel_rfl) ?_
 unfold Zfp at hF
 refine AWP.seq (AWP.rg [] [(0,(.ptr 0 0)),(2,(.ptr 1 0))] [.cells (Zi d),.cells (Za Zv)] (AWP.seq ?_))
 obtain⟨p,x,hF⟩:=bindb hF
 refine AWP.rg [(0,.call Tryz.func22 [] (Zsn p x))] [(0,(.ptr 0 0)),(2,(.ptr 1 0)),(3,(.ptr 2 0))] [.cells (Zi d),.cells (Za Zv),.cells (Za p)] (AWP.seq (AWP.seq ?_))
 obtain⟨f,y,hF⟩:=bindb hF
 refine AWP.rg [(1,.call Tryz.func18 [] (Z6 d (3:Int) f y))] [(0,(.ptr 0 0)),(2,(.ptr 1 0)),(3,(.ptr 2 0)),(4,(i64 (ZI ((1:Int) + f.1))))] [.cells (Zi f.2),.cells (Za Zv),.cells (Za p)] ?_
 obtain⟨w,z,hF⟩:=bindb hF
 refine AWP.mid (fun e st H=>(e=.normal∧∃ q,∃ g,w=(q,g)∧st=[(2,(.ptr 1 0)),(3,(.ptr 2 0))]∧H=[.cells (Zi q),.cells (Za Zv),.cells (Za g)])) ?_ ?_
 ·clear hF
  refine AWP.kp [0,2,3,4] 3 ?_
  refine AWP.bround (fun n st H=>∃ i,∃ b,∃ a,Zca n i b a=some w∧st=[(0,(.ptr 0 0)),(2,(.ptr 1 0)),(3,(.ptr 2 0)),(4,(i64 a))]∧H=[.cells (Zi i),.cells (Za Zv),.cells (Za b)]) fuel ⟨f.2,p,(ZI ((1:Int) + f.1)),z,by kernel_rfl,by kernel_rfl⟩ ?_
  rintro v st H ⟨i,b,a,hF,rfl,rfl⟩
  cases v with
  | zero=>exact noneb hF
  | succ v=>
   rw [Zca] at hF
   refine AWP.seq (AWP.seq (AWP.rg0 [] [(0,(.ptr 0 0)),(2,(.ptr 1 0)),(3,(.ptr 2 0)),(4,(i64 a)),(11,(vb (decide (a > (0:Int)))))] ?_))
   refine AWP.cif hF (fun a0 hF=>?_) (fun a0 hF=>?_)
   ·refine AWP.skip ?_
    obtain⟨a1,a2,hF⟩:=bindb hF
    refine AWP.seq ?_
    refine AWP.mid (fun e st H=>(e=.normal∧∃ s,∃ t,a1=(s,t)∧st=[(0,(.ptr 0 0)),(2,(.ptr 1 0)),(3,(.ptr 2 0)),(4,(i64 a))]∧H=[.cells (Zi s),.cells (Za Zv),.cells (Za t)])) ?_ ?_
    ·clear hF
     have hF:=a2
     refine AWP.block (AWP.seq ?_)
     obtain⟨c,a3,hF⟩:=bindb hF
     refine AWP.rg [(1,.call Tryz.func18 [] (Z6 i (5:Int) c a3))] [(0,(.ptr 0 0)),(2,(.ptr 1 0)),(3,(.ptr 2 0)),(4,(i64 a)),(15,(i64 c.1))] [.cells (Zi c.2),.cells (Za Zv),.cells (Za b)] (AWP.block (AWP.seq (AWP.rg0 [] [(0,(.ptr 0 0)),(2,(.ptr 1 0)),(3,(.ptr 2 0)),(4,(i64 a)),(15,(i64 c.1)),(19,(vb (c.1 == (0:Int))))] ?_)))
     refine AWP.cif hF (fun a4 hF=>?_) (fun a4 hF=>?_)
     ·obtain⟨j,a5,hF⟩:=bindb hF
      refine AWP.rg [(1,.call Tryz.func57 [] (Zia c.2 j a5))] [(0,(.ptr 0 0)),(2,(.ptr 1 0)),(3,(.ptr 2 0)),(4,(i64 a))] [.cells (Zi j.2),.cells (Za Zv),.cells (Za ({ b with x0:=j.1 }:ZB))] (LeQ.start (LeQ.pk [0,2,3,4] 3 ?_))
      exact⟨rfl,j.2,({ b with x0:=j.1 }:ZB),(someb hF).symm,by kernel_rfl,by kernel_rfl⟩
     ·refine AWP.seq (AWP.rg0 [] [(0,(.ptr 0 0)),(2,(.ptr 1 0)),(3,(.ptr 2 0)),(4,(i64 a)),(15,(i64 c.1)),(24,(vb (c.1 == (1:Int))))] ?_)
      refine AWP.cif hF (fun a6 hF=>?_) (fun a6 hF=>?_)
      ·obtain⟨k,a7,hF⟩:=bindb hF
       refine AWP.rg [(1,.call Tryz.func57 [] (Zia c.2 k a7))] [(0,(.ptr 0 0)),(2,(.ptr 1 0)),(3,(.ptr 2 0)),(4,(i64 a))] [.cells (Zi k.2),.cells (Za Zv),.cells (Za ({ b with x1:=k.1 }:ZB))] (LeQ.start (LeQ.pk [0,2,3,4] 3 ?_))
       exact⟨rfl,k.2,({ b with x1:=k.1 }:ZB),(someb hF).symm,by kernel_rfl,by kernel_rfl⟩
      ·refine AWP.seq (AWP.rg0 [] [(0,(.ptr 0 0)),(2,(.ptr 1 0)),(3,(.ptr 2 0)),(4,(i64 a)),(15,(i64 c.1)),(29,(vb (c.1 == (2:Int))))] ?_)
       refine AWP.cif hF (fun a8 hF=>?_) (fun a8 hF=>?_)
       ·refine AWP.seq ?_
        obtain⟨u,a9,hF⟩:=bindb hF
        obtain⟨l,b0,hF⟩:=bindb hF
        refine AWP.rg [(2,.call Tryz.func18 [] (Z6 c.2 (6:Int) u a9)),(3,.idx Zet b0)] [(0,(.ptr 0 0)),(2,(.ptr 1 0)),(3,(.ptr 2 0)),(4,(i64 a)),(5,(u32 l))] [.cells (Zi u.2),.cells (Za Zv),.cells (Za b)] (AWP.rg [] [(0,(.ptr 0 0)),(2,(.ptr 1 0)),(3,(.ptr 2 0)),(4,(i64 a))] [.cells (Zi u.2),.cells (Za Zv),.cells (Za ({ b with x2:=(Zb.mk l l) }:ZB))] (LeQ.start (LeQ.pk [0,2,3,4] 3 ?_)))
        exact⟨rfl,u.2,({ b with x2:=(Zb.mk l l) }:ZB),(someb hF).symm,by kernel_rfl,by kernel_rfl⟩
       ·refine AWP.seq (AWP.rg0 [] [(0,(.ptr 0 0)),(2,(.ptr 1 0)),(3,(.ptr 2 0)),(4,(i64 a)),(40,(vb (c.1 == (3:Int))))] ?_)
        refine AWP.cif hF (fun b1 hF=>?_) (fun b1 hF=>?_)
        ·obtain⟨m,b2,hF⟩:=bindb hF
         refine AWP.rg [(1,.call Tryz.func58 [] (Zjp c.2 (65535:Int) m b2))] [(0,(.ptr 0 0)),(2,(.ptr 1 0)),(3,(.ptr 2 0)),(4,(i64 a))] [.cells (Zi m.2),.cells (Za Zv),.cells (Za ({ b with x3:=m.1 }:ZB))] (LeQ.start (LeQ.pk [0,2,3,4] 3 ?_))
         exact⟨rfl,m.2,({ b with x3:=m.1 }:ZB),(someb hF).symm,by kernel_rfl,by kernel_rfl⟩
        ·obtain⟨o,b3,hF⟩:=bindb hF
         refine AWP.rg [(1,.call Tryz.func58 [] (Zjp c.2 (65535:Int) o b3))] [(0,(.ptr 0 0)),(2,(.ptr 1 0)),(3,(.ptr 2 0)),(4,(i64 a))] [.cells (Zi o.2),.cells (Za Zv),.cells (Za ({ b with x4:=o.1 }:ZB))] (LeQ.start (LeQ.pk [0,2,3,4] 3 ?_))
         exact⟨rfl,o.2,({ b with x4:=o.1 }:ZB),(someb hF).symm,by kernel_rfl,by kernel_rfl⟩
    ·rintro _ _ _ ⟨rfl,s,t,rfl,rfl,rfl⟩
     refine AWP.rg0 [] [(0,(.ptr 0 0)),(2,(.ptr 1 0)),(3,(.ptr 2 0)),(4,(i64 (ZI (a - (1:Int)))))] (LeQ.start (LeQ.pk [0,2,3,4] 3 ?_))
     exact⟨v,Nat.lt_succ_self _,s,t,(ZI (a - (1:Int))),hF,by kernel_rfl,by kernel_rfl⟩
   ·refine AWP.exit (LeQ.start (LeQ.pk [2,3] 3 ?_))
    exact⟨rfl,i,b,(someb hF).symm,by kernel_rfl,by kernel_rfl⟩
 ·rintro _ _ _ ⟨rfl,q,g,rfl,rfl,rfl⟩
  refine AWP.seq (AWP.rg [] [(2,(.ptr 1 0))] [.cells (Zi q),.cells (Za g),.cells (Za g)] (AWP.ret ?_))
  have hr:=someb hF
  subst hr
  exact(FnQ.f0 1 (.inr rfl))
def Zly (r:(ZB × Zg)):PV→List Blk→Prop:=fun p K=>p=(Zs r.1)∧K=[.cells (Zi r.2)]
theorem Zlz (f:Zg) (a:ZB) (r:(ZB × Zg)) (hF:Zd4 f a=some r):ACall Tryz.prog glob 30 [(.ptr 0 0),(Zs a)] [.cells (Zi f)] (Zly r):=by
 refine ACall.body Tryz.func30 rfl (by kernel_rfl) ?_
 unfold Zd4 at hF
 refine AWP.seq (AWP.rg [] [(0,(.ptr 0 0)),(3,(.ptr 1 0)),(4,(.ptr 2 0))] [.cells (Zi f),.cells (Za a),.cells (Za Zv)] (AWP.seq ?_))
 obtain⟨b,s,hF⟩:=bindb hF
 refine AWP.rg [(1,.call Tryz.func18 [] (Z6 f (5:Int) b s))] [(0,(.ptr 0 0)),(3,(.ptr 1 0)),(4,(.ptr 2 0)),(5,(i64 b.1))] [.cells (Zi b.2),.cells (Za a),.cells (Za Zv)] ?_
 obtain⟨t,u,hF⟩:=bindb hF
 refine AWP.seq ?_
 refine AWP.mid (fun e st H=>(e=.normal∧∃ g,∃ d,t=(g,d)∧st=[(3,(.ptr 1 0)),(4,(.ptr 2 0))]∧H=[.cells (Zi g),.cells (Za d),.cells (Za Zv)])) ?_ ?_
 ·clear hF
  have hF:=u
  refine AWP.seq ?_
  obtain⟨c,v,hF⟩:=bindb hF
  refine AWP.rg [(1,.call Tryz.func18 [] (Z6 b.2 (3:Int) c v))] [(3,(.ptr 1 0)),(4,(.ptr 2 0)),(5,(i64 b.1)),(9,(i64 c.1))] [.cells (Zi c.2),.cells (Za a),.cells (Za Zv)] (AWP.block (AWP.seq (AWP.rg0 [] [(3,(.ptr 1 0)),(4,(.ptr 2 0)),(5,(i64 b.1)),(9,(i64 c.1)),(13,(vb (c.1 == (0:Int))))] ?_)))
  refine AWP.cif hF (fun w hF=>?_) (fun w hF=>?_)
  ·obtain⟨i,hF⟩:=chkb hF
   obtain⟨j,hF⟩:=chkb hF
   obtain⟨k,hF⟩:=chkb hF
   obtain⟨l,hF⟩:=chkb hF
   refine AWP.dr [(3,.ixd i),(5,.ldA Zh (Arr5.get a) 0 2 1 i),(7,.ixd j),(9,.ldA Zh (Arr5.get a) 0 2 0 j),(10,.ixd k),(12,.stA (fun m=>Za (Arr5.set a m ({ (Arr5.get a m) with Lo:=(Arr5.get a b.1).Hi }:Zb))) 0 2 0 k),(13,.ixd l),(15,.stA (fun n=>Za (Arr5.set (Arr5.set a b.1 ({ (Arr5.get a b.1) with Lo:=(Arr5.get a b.1).Hi }:Zb)) n ({ (Arr5.get (Arr5.set a b.1 ({ (Arr5.get a b.1) with Lo:=(Arr5.get a b.1).Hi }:Zb)) n) with Hi:=(Arr5.get a b.1).Lo }:Zb))) 0 2 1 l)] 13 [] [12] [] [(3,(.ptr 1 0)),(4,(.ptr 2 0))] [.cells (Zi c.2),.cells (Za (Arr5.set (Arr5.set a b.1 ({ (Arr5.get a b.1) with Lo:=(Arr5.get a b.1).Hi }:Zb)) b.1 ({ (Arr5.get (Arr5.set a b.1 ({ (Arr5.get a b.1) with Lo:=(Arr5.get a b.1).Hi }:Zb)) b.1) with Hi:=(Arr5.get a b.1).Lo }:Zb))),.cells (Za Zv)] (LeQ.start (LeQ.pk [3,4] 3 ?_))
   exact⟨rfl,c.2,(Arr5.set (Arr5.set a b.1 ({ (Arr5.get a b.1) with Lo:=(Arr5.get a b.1).Hi }:Zb)) b.1 ({ (Arr5.get (Arr5.set a b.1 ({ (Arr5.get a b.1) with Lo:=(Arr5.get a b.1).Hi }:Zb)) b.1) with Hi:=(Arr5.get a b.1).Lo }:Zb)),(someb hF).symm,by kernel_rfl,by kernel_rfl⟩
  ·refine AWP.seq (AWP.rg0 [] [(3,(.ptr 1 0)),(4,(.ptr 2 0)),(5,(i64 b.1)),(29,(vb (c.1 == (1:Int))))] ?_)
   refine AWP.cif hF (fun x hF=>?_) (fun x hF=>?_)
   ·obtain⟨o,hF⟩:=chkb hF
    refine AWP.rg [(1,.ixd o),(3,.stA (fun p=>Za (Arr5.set a p ({ (Arr5.get a p) with Hi:=(4294967295:Int) }:Zb))) 0 2 1 o)] [(3,(.ptr 1 0)),(4,(.ptr 2 0))] [.cells (Zi c.2),.cells (Za (Arr5.set a b.1 ({ (Arr5.get a b.1) with Hi:=(4294967295:Int) }:Zb))),.cells (Za Zv)] (LeQ.start (LeQ.pk [3,4] 3 ?_))
    exact⟨rfl,c.2,(Arr5.set a b.1 ({ (Arr5.get a b.1) with Hi:=(4294967295:Int) }:Zb)),(someb hF).symm,by kernel_rfl,by kernel_rfl⟩
   ·obtain⟨q,hF⟩:=chkb hF
    refine AWP.rg [(2,.ixd q),(3,.stA (fun y=>Za (Arr5.set a y (Zb.mk (1:Int) (0:Int)))) 0 2 0 q)] [(3,(.ptr 1 0)),(4,(.ptr 2 0))] [.cells (Zi c.2),.cells (Za (Arr5.set a b.1 (Zb.mk (1:Int) (0:Int)))),.cells (Za Zv)] (LeQ.start (LeQ.pk [3,4] 3 ?_))
    exact⟨rfl,c.2,(Arr5.set a b.1 (Zb.mk (1:Int) (0:Int))),(someb hF).symm,by kernel_rfl,by kernel_rfl⟩
 ·rintro _ _ _ ⟨rfl,g,d,rfl,rfl,rfl⟩
  refine AWP.seq (AWP.rg [] [(4,(.ptr 2 0))] [.cells (Zi g),.cells (Za d),.cells (Za d)] (AWP.ret ?_))
  have hr:=someb hF
  subst hr
  exact(FnQ.f0 1 (.inr rfl))
def Zm7 (r:(ZL × Zg)):PV→List Blk→Prop:=fun p K=>p=(slc 10 Za r.1)∧K=[.cells (Zi r.2)]
theorem Zjq (v:Zg) (d:Int) (a:Bool) (r:(ZL × Zg)) (hF:Zd0 v d a=some r):ACall Tryz.prog glob 12 [(.ptr 0 0),(i64 d),(vb a)] [.cells (Zi v)] (Zm7 r):=by
 refine ACall.body Tryz.func12 rfl (by kernel_rfl) ?_
 unfold Zd0 at hF
 refine AWP.seq (AWP.rg0 [] [(0,(.ptr 0 0)),(1,(i64 d)),(2,(vb a))] (AWP.seq (AWP.rg0 [] [(0,(.ptr 0 0)),(1,(i64 d)),(2,(vb a)),(7,nils)] ?_)))
 refine AWP.own (H':=[.cells (Zi v),bf 10 59 Za ([]:ZL) false]) (st':=[(7,(.own 1 (List.length ([]:ZL)))),(0,(.ptr 0 0)),(1,(i64 d)),(2,(vb a))]) 7 10 59 (by kernel_rfl) (by kernel_rfl) (by kernel_rfl) ?_
 refine AWP.pick (st':=[(0,(.ptr 0 0)),(1,(i64 d)),(2,(vb a)),(7,(.own 1 (List.length ([]:ZL))))]) (ks:=[0,1,2,7]) (by kernel_rfl) ?_
 refine AWP.seq (AWP.seq ?_)
 obtain⟨m,a3,hF⟩:=bindb hF
 refine AWP.rg [(3,.call Tryz.func18 [] (Z6 v (ZI (d + (1:Int))) m a3))] [(0,(.ptr 0 0)),(2,(vb a)),(7,(.own 1 (List.length ([]:ZL)))),(8,(i64 m.1))] [.cells (Zi m.2),bf 10 59 Za ([]:ZL) false] ?_
 obtain⟨a1,a4,hF⟩:=bindb hF
 refine AWP.mid (fun e st H=>(e=.normal∧∃ z,∃ j,a1=(z,j)∧st=[(7,(.own 1 (List.length j)))]∧H=[.cells (Zi z),bf 10 59 Za j false])) ?_ ?_
 ·clear hF
  refine AWP.kp [0,2,7,8] 2 ?_
  refine AWP.bround (fun n st H=>∃ o,∃ b,∃ c,Zbu a n o b c=some a1∧st=[(0,(.ptr 0 0)),(2,(vb a)),(7,(.own 1 (List.length b))),(8,(i64 c))]∧H=[.cells (Zi o),bf 10 59 Za b false]) fuel ⟨m.2,([]:ZL),m.1,a4,by kernel_rfl,by kernel_rfl⟩ ?_
  rintro a0 st H ⟨o,b,c,hF,rfl,rfl⟩
  cases a0 with
  | zero=>exact noneb hF
  | succ a0=>
   rw [Zbu] at hF
   refine AWP.seq (AWP.seq (AWP.rg0 [] [(0,(.ptr 0 0)),(2,(vb a)),(7,(.own 1 (List.length b))),(8,(i64 c)),(15,(vb (decide (c > (0:Int)))))] ?_))
   refine AWP.cif hF (fun a5 hF=>?_) (fun a5 hF=>?_)
   ·refine AWP.skip ?_
    obtain⟨a6,a7,hF⟩:=bindb hF
    refine AWP.seq ?_
    refine AWP.mid (fun e st H=>(e=.normal∧∃ w,∃ k,a6=(w,k)∧st=[(0,(.ptr 0 0)),(2,(vb a)),(7,(.own 1 (List.length k))),(8,(i64 c))]∧H=[.cells (Zi w),bf 10 59 Za k false])) ?_ ?_
    ·clear hF
     have hF:=a7
     refine AWP.block (AWP.seq ?_)
     obtain⟨f,a8,hF⟩:=bindb hF
     refine AWP.rg [(1,.call Tryz.func29 [] (Zop o f a8))] [(0,(.ptr 0 0)),(2,(vb a)),(7,(.own 1 (List.length b))),(8,(i64 c)),(9,(.ptr 2 0))] [.cells (Zi f.2),bf 10 59 Za b false,.cells (Za f.1)] ?_
     obtain⟨a9,b0,hF⟩:=bindb hF
     refine AWP.seq ?_
     refine AWP.mid (fun e st H=>(e=.normal∧∃ p,∃ g,a9=(p,g)∧st=[(0,(.ptr 0 0)),(2,(vb a)),(7,(.own 1 (List.length b))),(8,(i64 c)),(9,(.ptr 2 0))]∧H=[.cells (Zi p),bf 10 59 Za b false,.cells (Za g)])) ?_ ?_
     ·clear hF
      have hF:=b0
      refine AWP.seq ?_
      obtain⟨b1,x,hF⟩:=bindb hF
      replace x:=someb x
      obtain⟨y,a2,hF⟩:=bindb hF
      refine AWP.to [(0,(.ptr 0 0)),(2,(vb a)),(7,(.own 1 (List.length b))),(8,(i64 c)),(9,(.ptr 2 0)),(25,(vb y.1))] [.cells (Zi y.2),bf 10 59 Za b false,.cells (Za f.1)] ?_ ?_
      ·cases b1 with
       | false=>
        have b2:=someb (ifF a2 rfl)
        subst b2
        exact AWP.rgT [(1,.bool x)]
       | true=>
        have q:=ifT a2 rfl
        obtain⟨b3,b4,q⟩:=bindb q
        replace q:=someb q
        subst q
        exact AWP.rgT [(1,.bool x),(3,.call Tryz.func18 [] (Z6 f.2 (8:Int) b3 b4))]
      refine AWP.cif hF (fun b5 hF=>?_) (fun b5 hF=>?_)
      ·obtain⟨u,b6,hF⟩:=bindb hF
       refine AWP.rg [(2,.call Tryz.func30 [] (Zlz y.2 f.1 u b6))] [(0,(.ptr 0 0)),(2,(vb a)),(7,(.own 1 (List.length b))),(8,(i64 c)),(9,(.ptr 2 0))] [.cells (Zi u.2),bf 10 59 Za b false,.cells (Za u.1)] (LeQ.start (LeQ.pk [0,2,7,8,9] 3 ?_))
       exact⟨rfl,u.2,u.1,(someb hF).symm,by kernel_rfl,by kernel_rfl⟩
      ·refine AWP.skip (LeQ.start (LeQ.pk [0,2,7,8,9] 3 ?_))
       exact⟨rfl,y.2,f.1,(someb hF).symm,by kernel_rfl,by kernel_rfl⟩
     ·rintro _ _ _ ⟨rfl,p,g,rfl,rfl,rfl⟩
      obtain⟨b7,hF⟩:=chkb hF
      refine AWP.rg [(3,.app Za (fun _=>by kernel_rfl) b7)] [(0,(.ptr 0 0)),(2,(vb a)),(7,(.own 1 (List.length (b++[g])))),(8,(i64 c))] [.cells (Zi p),bf 10 59 Za (b++[g]) false,.cells (Za g)] (LeQ.start (LeQ.pk [0,2,7,8] 2 ?_))
      exact⟨rfl,p,(b++[g]),(someb hF).symm,by kernel_rfl,by kernel_rfl⟩
    ·rintro _ _ _ ⟨rfl,w,k,rfl,rfl,rfl⟩
     refine AWP.rg0 [] [(0,(.ptr 0 0)),(2,(vb a)),(7,(.own 1 (List.length k))),(8,(i64 (ZI (c - (1:Int)))))] (LeQ.start (LeQ.pk [0,2,7,8] 2 ?_))
     exact⟨a0,Nat.lt_succ_self _,w,k,(ZI (c - (1:Int))),hF,by kernel_rfl,by kernel_rfl⟩
   ·refine AWP.exit (LeQ.start (LeQ.pk [7] 2 ?_))
    exact⟨rfl,o,b,(someb hF).symm,by kernel_rfl,by kernel_rfl⟩
 ·rintro _ _ _ ⟨rfl,z,j,rfl,rfl,rfl⟩
  refine AWP.seq (AWP.rg0 [] [(6,(.own 1 (List.length j)))] (AWP.ret ?_))
  have hr:=someb hF
  subst hr
  exact(FnQ.f1 1 (.inr rfl) (.inl (Wk.ownT (i:=1) (s:=10) (t:=59) (l:=j) (sh:=false) (row:=Za) (by kernel_rfl) (.inl rfl))))
def Zmp (r:(Zj × Zg)):PV→List Blk→Prop:=fun p K=>p=(Zas r.1)∧K=[.cells (Zi r.2)]
theorem Zg9 (a:Zg) (r:(Zj × Zg)) (hF:Zdp a=some r):ACall Tryz.prog glob 16 [(.ptr 0 0)] [.cells (Zi a)] (Zmp r):=by
 refine ACall.body Tryz.func16 rfl (by kernel_rfl) ?_
 unfold Zdp at hF
 refine AWP.seq (AWP.rg [] [(0,(.ptr 0 0)),(2,(.ptr 1 0))] [.cells (Zi a),.cells (Ze Zo)] (AWP.seq ?_))
 obtain⟨b,i,hF⟩:=bindb hF
 obtain⟨c,j,hF⟩:=bindb hF
 obtain⟨g,k,hF⟩:=bindb hF
 obtain⟨l,m,hF⟩:=bindb hF
 obtain⟨d,n,hF⟩:=bindb hF
 obtain⟨f,o,hF⟩:=bindb hF
 refine AWP.dr [(1,.call Tryz.func39 [] (Ze9 a b i)),(3,.call Tryz.func39 [] (Ze9 b.2 c j)),(6,.call Tryz.func18 [] (Z6 c.2 (6:Int) g k)),(7,.idx Zyb m),(10,.call Tryz.func40 [] (Zft g.2 (65535:Int) d n)),(13,.call Tryz.func40 [] (Zft d.2 (65535:Int) f o))] 16 [] [1,3,6,10,13] [] [(2,(.ptr 1 0))] [.cells (Zi f.2),.cells (Ze (Zj.mk b.1 c.1 l (IntKind.wrap .u16 d.1) (IntKind.wrap .u16 f.1)))] (AWP.ret ?_)
 have hr:=someb hF
 subst hr
 exact(FnQ.f0 1 (.inr rfl))
def Zp0 (r:Zj):PV→List Blk→Prop:=fun p K=>p=(Zas r)∧K=[]
theorem Zkv (a:(Arr5 Int)) (r:Zj) (hF:Ze6 a=some r):ACall Tryz.prog glob 32 [(Zk8 a)] [] (Zp0 r):=by
 refine ACall.body Tryz.func32 rfl (by kernel_rfl) ?_
 unfold Ze6 at hF
 refine AWP.seq (AWP.rg [] [(1,(.ptr 0 0)),(2,(.ptr 1 0))] [.cells (Z5 a),.cells (Ze Zo)] (AWP.seq (AWP.rg [] [(2,(.ptr 1 0))] [.cells (Z5 a),.cells (Ze (Zj.mk a.x0 a.x1 (IntKind.wrap .u8 a.x2) (IntKind.wrap .u16 a.x3) (IntKind.wrap .u16 a.x4)))] (AWP.ret ?_))))
 have hr:=someb hF
 subst hr
 exact(FnQ.f0 0 (.inr rfl))
def Znr (r:(Zj × Zg)):PV→List Blk→Prop:=fun p K=>p=(Zas r.1)∧K=[.cells (Zi r.2)]
theorem Zns (k:Zg) (f:ZL) (r:(Zj × Zg)) (hF:Ze8 k f=some r):ACall Tryz.prog glob 13 [(.ptr 0 0),(slc 10 Za f)] [.cells (Zi k)] (Znr r):=by
 refine ACall.body Tryz.func13 rfl (by kernel_rfl) ?_
 unfold Ze8 at hF
 refine AWP.seq (AWP.rg [] [(0,(.ptr 0 0)),(1,(slc 10 Za f)),(4,(.ptr 1 0))] [.cells (Zi k),.cells (Ze Zo)] (AWP.seq (AWP.seq ?_)))
 obtain⟨b1,l,hF⟩:=bindb hF
 replace l:=someb l
 obtain⟨m,v,hF⟩:=bindb hF
 refine AWP.to [(0,(.ptr 0 0)),(1,(slc 10 Za f)),(4,(.ptr 1 0)),(15,(vb m.1))] [.cells (Zi m.2),.cells (Ze Zo)] ?_ ?_
 ·cases b1 with
  | false=>
   have g:=ifF v rfl
   obtain⟨a8,a9,g⟩:=bindb g
   replace g:=someb g
   subst g
   exact AWP.rgT [(1,.len Za f),(3,.bool l),(5,.call Tryz.func18 [] (Z6 k (4:Int) a8 a9))]
  | true=>
   have b0:=someb (ifT v rfl)
   subst b0
   exact AWP.rgT [(1,.len Za f),(3,.bool l)]
 refine AWP.cif hF (fun b2 hF=>?_) (fun b2 hF=>?_)
 ·refine AWP.seq ?_
  obtain⟨t,b3,hF⟩:=bindb hF
  refine AWP.rg [(1,.call Tryz.func16 [] (Zg9 m.2 t b3))] [(4,(.ptr 1 0))] [.cells (Zi t.2),.cells (Ze t.1)] (AWP.ret ?_)
  have hr:=someb hF
  subst hr
  exact(FnQ.f0 1 (.inr rfl))
 ·refine AWP.skip (AWP.seq ?_)
  obtain⟨o,b4,hF⟩:=bindb hF
  obtain⟨b,b5,hF⟩:=bindb hF
  refine AWP.rg [(3,.len Za f),(4,.call Tryz.func18 [] (Z6 m.2 (List.length f:Int) o b4)),(5,.idx Za b5)] [(0,(.ptr 0 0)),(4,(.ptr 1 0)),(5,(.ptr 2 0))] [.cells (Zi o.2),.cells (Ze Zo),.cells (Za b)] (AWP.seq (AWP.rg [] [(0,(.ptr 0 0)),(4,(.ptr 1 0)),(5,(.ptr 2 0)),(6,(.ptr 3 0))] [.cells (Zi o.2),.cells (Ze Zo),.cells (Za b),.cells (Z5 Zil)] (AWP.seq (AWP.seq (AWP.rg0 [] [(0,(.ptr 0 0)),(4,(.ptr 1 0)),(5,(.ptr 2 0)),(6,(.ptr 3 0)),(7,(i64 (0:Int)))] ?_)))))
  obtain⟨w,b6,hF⟩:=bindb hF
  refine AWP.mid (fun e st H=>(e=.normal∧∃ p,∃ i,w=(p,i)∧st=[(4,(.ptr 1 0)),(6,(.ptr 3 0))]∧H=[.cells (Zi p),.cells (Ze Zo),.cells (Za b),.cells (Z5 i)])) ?_ ?_
  ·clear hF
   refine AWP.kp [0,4,5,6,7] 4 ?_
   refine AWP.bround (fun n st H=>∃ j,∃ c,∃ a,Zbg b n j c a=some w∧st=[(0,(.ptr 0 0)),(4,(.ptr 1 0)),(5,(.ptr 2 0)),(6,(.ptr 3 0)),(7,(i64 a))]∧H=[.cells (Zi j),.cells (Ze Zo),.cells (Za b),.cells (Z5 c)]) fuel ⟨o.2,Zil,(0:Int),b6,by kernel_rfl,by kernel_rfl⟩ ?_
   rintro u st H ⟨j,c,a,hF,rfl,rfl⟩
   cases u with
   | zero=>exact noneb hF
   | succ u=>
    rw [Zbg] at hF
    refine AWP.seq (AWP.seq (AWP.rg0 [] [(0,(.ptr 0 0)),(4,(.ptr 1 0)),(5,(.ptr 2 0)),(6,(.ptr 3 0)),(7,(i64 a)),(26,(vb (decide (a<(5:Int)))))] ?_))
    refine AWP.cif hF (fun b7 hF=>?_) (fun b7 hF=>?_)
    ·refine AWP.skip (AWP.seq (AWP.block (AWP.seq ?_)))
     obtain⟨x,hF⟩:=chkb hF
     obtain⟨y,hF⟩:=chkb hF
     obtain⟨z,hF⟩:=chkb hF
     obtain⟨a0,hF⟩:=chkb hF
     obtain⟨a1,hF⟩:=chkb hF
     obtain⟨a2,hF⟩:=chkb hF
     obtain⟨a3,hF⟩:=chkb hF
     obtain⟨q,b8,hF⟩:=bindb hF
     obtain⟨d,b9,hF⟩:=bindb hF
     obtain⟨a4,hF⟩:=chkb hF
     refine AWP.dr [(2,.ixd x),(4,.ldA Zh (Arr5.get b) 0 2 0 x),(6,.ixd y),(8,.ldA Zh (Arr5.get b) 0 2 1 y),(10,.ixd z),(12,.ldA Zh (Arr5.get b) 0 2 0 z),(15,.ixd a0),(17,.ldA Zh (Arr5.get b) 0 2 1 a0),(20,.ixd a1),(22,.ldA Zh (Arr5.get b) 0 2 0 a1),(24,.ixd a2),(26,.ldA Zh (Arr5.get b) 0 2 1 a2),(28,.ixd a3),(30,.ldA Zh (Arr5.get b) 0 2 0 a3),(36,.call Tryz.func18 [] (Z6 j (5:Int) q b8)),(37,.idx Zet b9),(39,.ixd a4),(40,.stA (fun c0=>Z5 (Arr5.set c c0 d)) 0 1 0 a4)] 39 [] [36] [] [(0,(.ptr 0 0)),(4,(.ptr 1 0)),(5,(.ptr 2 0)),(6,(.ptr 3 0)),(7,(i64 a))] [.cells (Zi q.2),.cells (Ze Zo),.cells (Za b),.cells (Z5 (Arr5.set c a d))] ?_
     obtain⟨a5,hF⟩:=chkb hF
     obtain⟨s,c1,hF⟩:=bindb hF
     obtain⟨a6,hF⟩:=chkb hF
     refine AWP.dr [(2,.ixd a5),(3,.ldA Zet (Arr5.get (Arr5.set c a d)) 0 1 0 a5),(5,.call Tryz.func31 [] (Zfl a s c1)),(7,.ixd a6),(8,.stA (fun c2=>Z5 (Arr5.set (Arr5.set c a d) c2 (iMin (Arr5.get (Arr5.set c a d) a) s))) 0 1 0 a6)] 7 [] [] [] [(0,(.ptr 0 0)),(4,(.ptr 1 0)),(5,(.ptr 2 0)),(6,(.ptr 3 0)),(7,(i64 a))] [.cells (Zi q.2),.cells (Ze Zo),.cells (Za b),.cells (Z5 (Arr5.set (Arr5.set c a d) a (iMin (Arr5.get (Arr5.set c a d) a) s)))] (AWP.rg0 [] [(0,(.ptr 0 0)),(4,(.ptr 1 0)),(5,(.ptr 2 0)),(6,(.ptr 3 0)),(7,(i64 (ZI (a + (1:Int)))))] (LeQ.start (LeQ.pk [0,4,5,6,7] 4 ?_)))
     exact⟨u,Nat.lt_succ_self _,q.2,(Arr5.set (Arr5.set c a d) a (iMin (Arr5.get (Arr5.set c a d) a) s)),(ZI (a + (1:Int))),hF,by kernel_rfl,by kernel_rfl⟩
    ·refine AWP.exit (LeQ.start (LeQ.pk [4,6] 4 ?_))
     exact⟨rfl,j,c,(someb hF).symm,by kernel_rfl,by kernel_rfl⟩
  ·rintro _ _ _ ⟨rfl,p,i,rfl,rfl,rfl⟩
   refine AWP.seq ?_
   obtain⟨a7,c3,hF⟩:=bindb hF
   refine AWP.rg [(1,.call Tryz.func32 [] (Zkv i a7 c3))] [(4,(.ptr 1 0))] [.cells (Zi p),.cells (Ze a7),.cells (Za b),.cells (Z5 i)] (AWP.ret ?_)
   have hr:=someb hF
   subst hr
   exact(FnQ.f0 1 (.inr rfl))
def Zlb (r:Bool):PV→List Blk→Prop:=fun p K=>p=(vb r)∧K=[]
abbrev Zrj (r:Bool):Exit→St→List Blk→Prop:=FnQ Tryz.prog Tryz.f42.results 0 (Zlb r)
theorem Zlc (a:ZB) (r:Bool) (hF:Zfd a=some r):ACall Tryz.prog glob 42 [(Zs a)] [] (Zlb r):=by
 refine ACall.body Tryz.func42 rfl (by kernel_rfl) ?_
 unfold Zfd at hF
 refine AWP.seq (AWP.rg [] [(1,(.ptr 0 0))] [.cells (Za a)] (AWP.seq (AWP.seq (AWP.rg0 [] [(1,(.ptr 0 0)),(3,(i64 (0:Int)))] ?_))))
 obtain⟨i,m,hF⟩:=bindb hF
 refine AWP.mid (fun e st H=>(e=.normal∧i=(.inl ())∧st=[]∧H=[.cells (Za a)])∨(e=.ret∧∃ r,i=(.inr r)∧Zrj r e st H)) ?_ ?_
 ·clear hF
  refine AWP.kp [1,3] 1 ?_
  refine AWP.bround (fun n st H=>∃ b,Zab a n b=some i∧st=[(1,(.ptr 0 0)),(3,(i64 b))]∧H=[.cells (Za a)]) fuel ⟨(0:Int),m,by kernel_rfl,by kernel_rfl⟩ ?_
  rintro j st H ⟨b,hF,rfl,rfl⟩
  cases j with
  | zero=>exact noneb hF
  | succ j=>
   rw [Zab] at hF
   refine AWP.seq (AWP.seq (AWP.rg0 [] [(1,(.ptr 0 0)),(3,(i64 b)),(5,(vb (decide (b<(5:Int)))))] ?_))
   refine AWP.cif hF (fun o hF=>?_) (fun o hF=>?_)
   ·refine AWP.skip (AWP.seq (AWP.block (AWP.seq ?_)))
    obtain⟨d,hF⟩:=chkb hF
    obtain⟨f,hF⟩:=chkb hF
    obtain⟨p,g,hF⟩:=bindb hF
    replace g:=someb g
    obtain⟨q,k,hF⟩:=bindb hF
    refine AWP.to [(1,(.ptr 0 0)),(3,(i64 b)),(25,(vb q))] [.cells (Za a)] ?_ ?_
    ·cases p with
     | false=>
      have c:=ifF k rfl
      obtain⟨l,c⟩:=chkb c
      obtain⟨s,t,c⟩:=bindb c
      replace c:=someb c
      subst c
      exact AWP.drT [(1,.ixd d),(3,.ldA Zh (Arr5.get a) 0 2 0 d),(5,.ixd f),(7,.ldA Zh (Arr5.get a) 0 2 1 f),(9,.bool g),(11,.ixd l),(13,.ldA Zh (Arr5.get a) 0 2 1 l),(15,.call Tryz.func31 [] (Zfl b s t))] 18 [] [] []
     | true=>
      have u:=someb (ifT k rfl)
      subst u
      exact AWP.drT [(1,.ixd d),(3,.ldA Zh (Arr5.get a) 0 2 0 d),(5,.ixd f),(7,.ldA Zh (Arr5.get a) 0 2 1 f),(9,.bool g)] 18 [] [] []
    refine AWP.cif hF (fun v hF=>?_) (fun v hF=>?_)
    ·refine AWP.seq (AWP.rg0 [] [(2,(vb false))] (AWP.ret ?_))
     exact LeQ.of (.inr ⟨rfl,false,(someb hF).symm,(FnQ.f0 0 (.inr rfl))⟩)
    ·refine AWP.skip (AWP.rg0 [] [(1,(.ptr 0 0)),(3,(i64 (ZI (b + (1:Int)))))] (LeQ.start (LeQ.pk [1,3] 1 ?_)))
     exact⟨j,Nat.lt_succ_self _,(ZI (b + (1:Int))),hF,by kernel_rfl,by kernel_rfl⟩
   ·refine AWP.exit (LeQ.start (LeQ.pk [] 1 ?_))
    exact(.inl ⟨rfl,(someb hF).symm,by kernel_rfl,by kernel_rfl⟩)
 ·rintro _ _ _ (⟨rfl,rfl,rfl,rfl⟩ | ⟨rfl,w,rfl,hq⟩)
  ·refine AWP.seq (AWP.rg0 [] [(2,(vb true))] (AWP.ret ?_))
   have hr:=someb hF
   subst hr
   exact(FnQ.f0 0 (.inr rfl))
  ·have hr:=someb hF
   subst hr
   exact hq
def Zrk (r:ZL):PV→List Blk→Prop:=fun p K=>p=(slc 10 Za r)∧K=[]
theorem Zld (a:ZL) (r:ZL) (hF:Zgi a=some r):ACall Tryz.prog glob 93 [(slc 10 Za a)] [] (Zrk r):=by
 refine ACall.body Tryz.func93 rfl (by kernel_rfl) ?_
 unfold Zgi at hF
 refine AWP.seq (AWP.rg0 [] [(0,(slc 10 Za a))] (AWP.seq (AWP.rg0 [] [(0,(slc 10 Za a)),(3,nils)] ?_)))
 refine AWP.own (H':=[bf 10 59 Za ([]:ZL) false]) (st':=[(3,(.own 0 (List.length ([]:ZL)))),(0,(slc 10 Za a))]) 3 10 59 (by kernel_rfl) (by kernel_rfl) (by kernel_rfl) ?_
 refine AWP.pick (st':=[(0,(slc 10 Za a)),(3,(.own 0 (List.length ([]:ZL))))]) (ks:=[0,3]) (by kernel_rfl) ?_
 refine AWP.seq (AWP.seq (AWP.rg0 [] [(0,(slc 10 Za a)),(3,(.own 0 (List.length ([]:ZL)))),(4,(i64 (0:Int)))] ?_))
 obtain⟨d,m,hF⟩:=bindb hF
 refine AWP.mid (fun e st H=>e=.normal∧st=[(3,(.own 0 (List.length d)))]∧H=[bf 10 59 Za d false]) ?_ ?_
 ·clear hF
  refine AWP.kp [0,3,4] 1 ?_
  refine AWP.bround (fun n st H=>∃ c,∃ b,Zdf a n c b=some d∧st=[(0,(slc 10 Za a)),(3,(.own 0 (List.length c))),(4,(i64 b))]∧H=[bf 10 59 Za c false]) fuel ⟨([]:ZL),(0:Int),m,by kernel_rfl,by kernel_rfl⟩ ?_
  rintro g st H ⟨c,b,hF,rfl,rfl⟩
  cases g with
  | zero=>exact noneb hF
  | succ g=>
   rw [Zdf] at hF
   refine AWP.seq (AWP.seq (AWP.rg0 [(2,.len Za a)] [(0,(slc 10 Za a)),(3,(.own 0 (List.length c))),(4,(i64 b)),(8,(vb (decide (b<(List.length a:Int)))))] ?_))
   refine AWP.cif hF (fun o hF=>?_) (fun o hF=>?_)
   ·refine AWP.skip ?_
    obtain⟨f,p,hF⟩:=bindb hF
    refine AWP.seq ?_
    refine AWP.mid (fun e st H=>e=.normal∧st=[(0,(slc 10 Za a)),(3,(.own 0 (List.length f))),(4,(i64 b))]∧H=[bf 10 59 Za f false]) ?_ ?_
    ·clear hF
     have hF:=p
     refine AWP.block (AWP.seq ?_)
     obtain⟨q,u,hF⟩:=bindb hF
     obtain⟨j,v,hF⟩:=bindb hF
     refine AWP.rg0 [(2,.idx Za u),(4,.call Tryz.func42 [] (Zlc q j v))] [(0,(slc 10 Za a)),(3,(.own 0 (List.length c))),(4,(i64 b)),(15,(vb j))] ?_
     refine AWP.cif hF (fun w hF=>?_) (fun w hF=>?_)
     ·obtain⟨k,x,hF⟩:=bindb hF
      obtain⟨y,hF⟩:=chkb hF
      refine AWP.rg [(3,.idx Za x),(6,.app Za (fun _=>by kernel_rfl) y)] [(0,(slc 10 Za a)),(3,(.own 0 (List.length (c++[k])))),(4,(i64 b))] [bf 10 59 Za (c++[k]) false] (LeQ.start (LeQ.pk [0,3,4] 1 ?_))
      have hr:=someb hF
      subst hr
      exact⟨rfl,by kernel_rfl,by kernel_rfl⟩
     ·refine AWP.skip (LeQ.start (LeQ.pk [0,3,4] 1 ?_))
      have hr:=someb hF
      subst hr
      exact⟨rfl,by kernel_rfl,by kernel_rfl⟩
    ·rintro _ _ _ ⟨rfl,rfl,rfl⟩
     refine AWP.rg0 [] [(0,(slc 10 Za a)),(3,(.own 0 (List.length f))),(4,(i64 (ZI (b + (1:Int)))))] (LeQ.start (LeQ.pk [0,3,4] 1 ?_))
     exact⟨g,Nat.lt_succ_self _,f,(ZI (b + (1:Int))),hF,by kernel_rfl,by kernel_rfl⟩
   ·refine AWP.exit (LeQ.start (LeQ.pk [3] 1 ?_))
    have hr:=someb hF
    subst hr
    exact⟨rfl,by kernel_rfl,by kernel_rfl⟩
 ·rintro _ _ _ ⟨rfl,rfl,rfl⟩
  refine AWP.seq (AWP.rg0 [] [(2,(.own 0 (List.length d)))] (AWP.ret ?_))
  have hr:=someb hF
  subst hr
  exact(FnQ.f1 0 (.inr rfl) (.inl (Wk.ownT (i:=0) (s:=10) (t:=59) (l:=d) (sh:=false) (row:=Za) (by kernel_rfl) (.inl rfl))))
def Zle (r:Bool):PV→List Blk→Prop:=fun p K=>p=(vb r)∧K=[]
abbrev Zlf (r:Bool):Exit→St→List Blk→Prop:=FnQ Tryz.prog Tryz.f104.results 0 (Zle r)
theorem Zrl (a:ZL) (b:ZL) (c:Int) (r:Bool) (hF:Zfe a b c=some r):ACall Tryz.prog glob 104 [(slc 10 Za a),(slc 10 Za b),(i64 c)] [] (Zle r):=by
 refine ACall.body Tryz.func104 rfl (by kernel_rfl) ?_
 unfold Zfe at hF
 refine AWP.seq (AWP.rg0 [] [(0,(slc 10 Za a)),(1,(slc 10 Za b)),(2,(i64 c))] (AWP.seq (AWP.seq (AWP.rg0 [(1,.len Za a),(3,.len Za b)] [(0,(slc 10 Za a)),(1,(slc 10 Za b)),(2,(i64 c)),(13,(vb ((List.length a:Int) != (List.length b:Int))))] ?_))))
 refine AWP.cif hF (fun q hF=>?_) (fun q hF=>?_)
 ·refine AWP.seq (AWP.rg0 [] [(6,(vb false))] (AWP.ret ?_))
  have hr:=someb hF
  subst hr
  exact(FnQ.f0 0 (.inr rfl))
 ·refine AWP.skip (AWP.seq (AWP.seq (AWP.rg0 [] [(0,(slc 10 Za a)),(1,(slc 10 Za b)),(2,(i64 c)),(7,(i64 (0:Int)))] ?_)))
  obtain⟨g,s,hF⟩:=bindb hF
  refine AWP.mid (fun e st H=>(e=.normal∧g=(.inl ())∧st=[]∧H=[])∨(e=.ret∧∃ r,g=(.inr r)∧Zlf r e st H)) ?_ ?_
  ·clear hF
   refine AWP.kp [0,1,2,7] 0 ?_
   refine AWP.bround (fun n st H=>∃ d,Zdh a b c n d=some g∧st=[(0,(slc 10 Za a)),(1,(slc 10 Za b)),(2,(i64 c)),(7,(i64 d))]∧H=[]) fuel ⟨(0:Int),s,by kernel_rfl,by kernel_rfl⟩ ?_
   rintro i st H ⟨d,hF,rfl,rfl⟩
   cases i with
   | zero=>exact noneb hF
   | succ i=>
    rw [Zdh] at hF
    refine AWP.seq (AWP.seq (AWP.rg0 [(2,.len Za a)] [(0,(slc 10 Za a)),(1,(slc 10 Za b)),(2,(i64 c)),(7,(i64 d)),(17,(vb (decide (d<(List.length a:Int)))))] ?_))
    refine AWP.cif hF (fun t hF=>?_) (fun t hF=>?_)
    ·refine AWP.skip (AWP.seq (AWP.block (AWP.seq (AWP.rg0 [] [(0,(slc 10 Za a)),(1,(slc 10 Za b)),(2,(i64 c)),(7,(i64 d)),(8,(i64 c))] ?_))))
     obtain⟨j,u,hF⟩:=bindb hF
     refine AWP.mid (fun e st H=>(e=.normal∧j=(.inl ())∧st=[(0,(slc 10 Za a)),(1,(slc 10 Za b)),(2,(i64 c)),(7,(i64 d))]∧H=[])∨(e=.ret∧∃ r,j=(.inr r)∧Zlf r e st H)) ?_ ?_
     ·clear hF
      refine AWP.kp [0,1,2,7,8] 0 ?_
      refine AWP.bround (fun n st H=>∃ f,Zdg a b d n f=some j∧st=[(0,(slc 10 Za a)),(1,(slc 10 Za b)),(2,(i64 c)),(7,(i64 d)),(8,(i64 f))]∧H=[]) fuel ⟨c,u,by kernel_rfl,by kernel_rfl⟩ ?_
      rintro k st H ⟨f,hF,rfl,rfl⟩
      cases k with
      | zero=>exact noneb hF
      | succ k=>
       rw [Zdg] at hF
       refine AWP.seq (AWP.seq (AWP.rg0 [] [(0,(slc 10 Za a)),(1,(slc 10 Za b)),(2,(i64 c)),(7,(i64 d)),(8,(i64 f)),(22,(vb (decide (f<(5:Int)))))] ?_))
       refine AWP.cif hF (fun v hF=>?_) (fun v hF=>?_)
       ·refine AWP.skip (AWP.seq (AWP.block (AWP.seq ?_)))
        obtain⟨l,w,hF⟩:=bindb hF
        obtain⟨m,hF⟩:=chkb hF
        obtain⟨o,x,hF⟩:=bindb hF
        obtain⟨p,hF⟩:=chkb hF
        refine AWP.dr [(3,.idx Za w),(4,.ixd m),(5,.ldA Zh (Arr5.get l) 0 2 0 m),(9,.idx Za x),(10,.ixd p),(11,.ldA Zh (Arr5.get o) 0 2 0 p)] 13 [] [] [] [(0,(slc 10 Za a)),(1,(slc 10 Za b)),(2,(i64 c)),(7,(i64 d)),(8,(i64 f)),(37,(vb (!(Zcs (Arr5.get l f) (Arr5.get o f)))))] [] ?_
        refine AWP.cif hF (fun y hF=>?_) (fun y hF=>?_)
        ·refine AWP.seq (AWP.rg0 [] [(6,(vb false))] (AWP.ret ?_))
         exact LeQ.of (.inr ⟨rfl,false,(someb hF).symm,(FnQ.f0 0 (.inr rfl))⟩)
        ·refine AWP.skip (AWP.rg0 [] [(0,(slc 10 Za a)),(1,(slc 10 Za b)),(2,(i64 c)),(7,(i64 d)),(8,(i64 (ZI (f + (1:Int)))))] (LeQ.start (LeQ.pk [0,1,2,7,8] 0 ?_)))
         exact⟨k,Nat.lt_succ_self _,(ZI (f + (1:Int))),hF,by kernel_rfl,by kernel_rfl⟩
       ·refine AWP.exit (LeQ.start (LeQ.pk [0,1,2,7] 0 ?_))
        exact(.inl ⟨rfl,(someb hF).symm,by kernel_rfl,by kernel_rfl⟩)
     ·rintro _ _ _ (⟨rfl,rfl,rfl,rfl⟩ | ⟨rfl,z,rfl,hq⟩)
      ·refine AWP.rg0 [] [(0,(slc 10 Za a)),(1,(slc 10 Za b)),(2,(i64 c)),(7,(i64 (ZI (d + (1:Int)))))] (LeQ.start (LeQ.pk [0,1,2,7] 0 ?_))
       exact⟨i,Nat.lt_succ_self _,(ZI (d + (1:Int))),hF,by kernel_rfl,by kernel_rfl⟩
      ·exact LeQ.of (.inr ⟨rfl,z,(someb hF).symm,hq⟩)
    ·refine AWP.exit (LeQ.start (LeQ.pk [] 0 ?_))
     exact(.inl ⟨rfl,(someb hF).symm,by kernel_rfl,by kernel_rfl⟩)
  ·rintro _ _ _ (⟨rfl,rfl,rfl,rfl⟩ | ⟨rfl,a0,rfl,hq⟩)
   ·refine AWP.seq (AWP.rg0 [] [(6,(vb true))] (AWP.ret ?_))
    have hr:=someb hF
    subst hr
    exact(FnQ.f0 0 (.inr rfl))
   ·have hr:=someb hF
    subst hr
    exact hq
def Zhd (r:Bool):PV→List Blk→Prop:=fun p K=>p=(vb r)∧K=[]
abbrev Zhe (r:Bool):Exit→St→List Blk→Prop:=FnQ Tryz.prog Tryz.f94.results 0 (Zhd r)
theorem Zl7:∀(nr:Nat) (a:ZL) (b:Int) (r:Bool) (hF:Zbh nr a b=some r),ACall Tryz.prog glob 94 [(slc 10 Za a),(i64 b)] [] (Zhd r):=by
 intro nr
 induction nr with
 | zero=>intro a b r hF; exact noneb (by rw [Zbh] at hF; exact hF)
 | succ nr ih=>
  intro a b r hF
  refine ACall.body Tryz.func94 rfl (by kernel_rfl) ?_
  rw [Zbh] at hF
  refine AWP.seq (AWP.rg0 [] [(0,(slc 10 Za a)),(1,(i64 b))] (AWP.seq (AWP.seq (AWP.rg0 [] [(0,(slc 10 Za a)),(1,(i64 b)),(12,(vb (b == (5:Int))))] ?_))))
  refine AWP.cif hF (fun b0 hF=>?_) (fun b0 hF=>?_)
  ·refine AWP.seq (AWP.rg0 [(1,.len Za a)] [(4,(vb ((List.length a:Int) == (1:Int))))] (AWP.ret ?_))
   have hr:=someb hF
   subst hr
   exact(FnQ.f0 0 (.inr rfl))
  ·refine AWP.skip (AWP.seq (AWP.rg0 [] [(0,(slc 10 Za a)),(1,(i64 b)),(5,nils)] (AWP.seq (AWP.seq (AWP.rg0 [] [(0,(slc 10 Za a)),(1,(i64 b)),(5,nils),(6,(i64 (0:Int)))] ?_)))))
   obtain⟨x,b1,hF⟩:=bindb hF
   refine AWP.mid (fun e st H=>(e=.normal∧x=(.inl ())∧st=[]∧H=[])∨(e=.ret∧∃ r,x=(.inr r)∧Zhe r e st H)) ?_ ?_
   ·clear hF
    refine AWP.wk (p:=nils) (q:=(slc 10 Za ([]:ZL))) (st':=[(5,(slc 10 Za ([]:ZL))),(0,(slc 10 Za a)),(1,(i64 b)),(6,(i64 (0:Int)))]) 5 (by kernel_rfl) (.nil 10) (by kernel_rfl) ?_
    refine AWP.kp [0,1,5,6] 0 ?_
    refine AWP.bround (fun n st H=>∃ d,∃ c,Zbv a b (Zbh nr) n d c=some x∧st=[(0,(slc 10 Za a)),(1,(i64 b)),(5,(slc 10 Za d)),(6,(i64 c))]∧H=[]) fuel ⟨([]:ZL),(0:Int),b1,by kernel_rfl,by kernel_rfl⟩ ?_
    rintro y st H ⟨d,c,hF,rfl,rfl⟩
    cases y with
    | zero=>exact noneb hF
    | succ y=>
     rw [Zbv] at hF
     refine AWP.seq (AWP.seq (AWP.rg0 [(2,.len Za a)] [(0,(slc 10 Za a)),(1,(i64 b)),(5,(slc 10 Za d)),(6,(i64 c)),(19,(vb (decide (c<(List.length a:Int)))))] ?_))
     refine AWP.cif hF (fun b2 hF=>?_) (fun b2 hF=>?_)
     ·refine AWP.skip ?_
      obtain⟨a0,b3,hF⟩:=bindb hF
      refine AWP.seq ?_
      refine AWP.mid (fun e st H=>(e=.normal∧∃ i,a0=(.inl i)∧st=[(0,(slc 10 Za a)),(1,(i64 b)),(5,(slc 10 Za i)),(6,(i64 c))]∧H=[])∨(e=.ret∧∃ r,a0=(.inr r)∧Zhe r e st H)) ?_ ?_
      ·clear hF
       have hF:=b3
       refine AWP.block (AWP.seq (AWP.rg0 [] [(0,(slc 10 Za a)),(1,(i64 b)),(5,(slc 10 Za d)),(6,(i64 c)),(7,(i64 c))] (AWP.seq ?_)))
       obtain⟨f,b4,hF⟩:=bindb hF
       refine AWP.mid (fun e st H=>e=.normal∧st=[(0,(slc 10 Za a)),(1,(i64 b)),(5,(slc 10 Za d)),(6,(i64 c)),(7,(i64 f))]∧H=[]) ?_ ?_
       ·clear hF
        refine AWP.kp [0,1,5,6,7] 0 ?_
        refine AWP.bround (fun n st H=>∃ k,Zcf a b c n k=some f∧st=[(0,(slc 10 Za a)),(1,(i64 b)),(5,(slc 10 Za d)),(6,(i64 c)),(7,(i64 k))]∧H=[]) fuel ⟨c,b4,by kernel_rfl,by kernel_rfl⟩ ?_
        rintro z st H ⟨k,hF,rfl,rfl⟩
        cases z with
        | zero=>exact noneb hF
        | succ z=>
         rw [Zcf] at hF
         refine AWP.seq (AWP.seq ?_)
         obtain⟨b5,o,hF⟩:=bindb hF
         replace o:=someb o
         obtain⟨b6,a1,hF⟩:=bindb hF
         refine AWP.to [(0,(slc 10 Za a)),(1,(i64 b)),(5,(slc 10 Za d)),(6,(i64 c)),(7,(i64 k)),(43,(vb b6))] [] ?_ ?_
         ·cases b5 with
          | false=>
           have b7:=someb (ifF a1 rfl)
           subst b7
           exact AWP.drT [(2,.len Za a),(4,.bool o)] 19 [] [] []
          | true=>
           have g:=ifT a1 rfl
           obtain⟨b8,b9,g⟩:=bindb g
           obtain⟨a2,g⟩:=chkb g
           obtain⟨c0,c1,g⟩:=bindb g
           obtain⟨a3,g⟩:=chkb g
           replace g:=someb g
           subst g
           exact AWP.drT [(2,.len Za a),(4,.bool o),(8,.idx Za b9),(9,.ixd a2),(10,.ldA Zh (Arr5.get b8) 0 2 0 a2),(14,.idx Za c1),(15,.ixd a3),(16,.ldA Zh (Arr5.get c0) 0 2 0 a3)] 19 [] [] []
         refine AWP.cif hF (fun c2 hF=>?_) (fun c2 hF=>?_)
         ·refine AWP.skip (AWP.block (AWP.rg0 [] [(0,(slc 10 Za a)),(1,(i64 b)),(5,(slc 10 Za d)),(6,(i64 c)),(7,(i64 (ZI (k + (1:Int)))))] (LeQ.start (LeQ.pk [0,1,5,6,7] 0 ?_))))
          exact⟨z,Nat.lt_succ_self _,(ZI (k + (1:Int))),hF,by kernel_rfl,by kernel_rfl⟩
         ·refine AWP.exit (LeQ.start (LeQ.pk [0,1,5,6,7] 0 ?_))
          have hr:=someb hF
          subst hr
          exact⟨rfl,by kernel_rfl,by kernel_rfl⟩
       ·rintro _ _ _ ⟨rfl,rfl,rfl⟩
        refine AWP.seq ?_
        obtain⟨c3,hF⟩:=chkb hF
        refine AWP.rg0 [(3,.slice Za a c3)] [(0,(slc 10 Za a)),(1,(i64 b)),(5,(slc 10 Za d)),(6,(i64 c)),(8,(slc 10 Za (List.drop (Int.toNat c) (List.take (Int.toNat f) a))))] ?_
        obtain⟨a4,c4,hF⟩:=bindb hF
        refine AWP.seq ?_
        refine AWP.mid (fun e st H=>(e=.normal∧a4=(.inl ())∧st=[(0,(slc 10 Za a)),(1,(i64 b)),(6,(i64 c)),(8,(slc 10 Za (List.drop (Int.toNat c) (List.take (Int.toNat f) a))))]∧H=[])∨(e=.ret∧∃ r,a4=(.inr r)∧Zhe r e st H)) ?_ ?_
        ·clear hF
         have hF:=c4
         refine AWP.seq (AWP.rg0 [] [(0,(slc 10 Za a)),(1,(i64 b)),(5,(slc 10 Za d)),(6,(i64 c)),(8,(slc 10 Za (List.drop (Int.toNat c) (List.take (Int.toNat f) a)))),(51,(vb (decide (c > (0:Int)))))] ?_)
         refine AWP.cif hF (fun c5 hF=>?_) (fun c5 hF=>?_)
         ·refine AWP.seq ?_
          obtain⟨s,a5,hF⟩:=bindb hF
          obtain⟨t,hF⟩:=chkb hF
          obtain⟨u,a6,hF⟩:=bindb hF
          obtain⟨v,hF⟩:=chkb hF
          refine AWP.to [(0,(slc 10 Za a)),(1,(i64 b)),(5,(slc 10 Za d)),(6,(i64 c)),(8,(slc 10 Za (List.drop (Int.toNat c) (List.take (Int.toNat f) a)))),(9,(.ptr 0 0)),(10,(.ptr 1 0))] [.cells (Zh (Arr5.get s b)),.cells (Zh (Arr5.get u b))] ?_ ?_
          ·refine AWP.of_draw (by kernel_rfl) ?_
           refine ADraw.either 14 13 (by kernel_rfl) ?_ ?_
           ·exact ADraw.drT [(4,.idx Za a5),(5,.ixd t),(6,.ldA Zh (Arr5.get s) 0 2 0 t),(10,.idx Za a6),(11,.ixd v),(12,.ldA Zh (Arr5.get u) 0 2 0 v)] 16 [] [13,14,15] []
           ·exact ADraw.drT [(4,.idx Za a5),(5,.ixd t),(6,.ldA Zh (Arr5.get s) 0 2 0 t),(10,.idx Za a6),(11,.ixd v),(12,.ldA Zh (Arr5.get u) 0 2 0 v)] 16 [0,1,2,3,4,5,6,7,8,9,10,11,12,14,13,15] [14,13,15] [(0,1)]
          refine AWP.seq ?_
          obtain⟨c6,l,hF⟩:=bindb hF
          replace l:=someb l
          obtain⟨c7,a7,hF⟩:=bindb hF
          refine AWP.to [(0,(slc 10 Za a)),(1,(i64 b)),(6,(i64 c)),(8,(slc 10 Za (List.drop (Int.toNat c) (List.take (Int.toNat f) a)))),(84,(vb c7))] [.cells (Zh (Arr5.get s b)),.cells (Zh (Arr5.get u b))] ?_ ?_
          ·cases c6 with
           | false=>
            have j:=ifF a7 rfl
            obtain⟨c8,w,j⟩:=bindb j
            replace w:=someb w
            obtain⟨d8,a8,j⟩:=bindb j
            replace j:=someb j
            subst j
            cases c8 with
            | false=>
             have c9:=someb (ifF a8 rfl)
             subst c9
             exact AWP.rgT [(5,.bool l),(12,.bool w)]
            | true=>
             have m:=ifT a8 rfl
             obtain⟨d0,d1,m⟩:=bindb m
             replace m:=someb m
             subst m
             exact AWP.rgT [(5,.bool l),(12,.bool w),(17,.call Tryz.func104 [] (Zrl d (List.drop (Int.toNat c) (List.take (Int.toNat f) a)) (ZI (b + (1:Int))) d0 d1))]
           | true=>
            have d2:=someb (ifT a7 rfl)
            subst d2
            exact AWP.rgT [(5,.bool l)]
          refine AWP.cif hF (fun d3 hF=>?_) (fun d3 hF=>?_)
          ·refine AWP.seq (AWP.rg0 [] [(4,(vb false))] (AWP.ret ?_))
           exact LeQ.of (.inr ⟨rfl,false,(someb hF).symm,(FnQ.f0 0 (.inr rfl))⟩)
          ·refine AWP.skip (LeQ.start (LeQ.pk [0,1,6,8] 0 ?_))
           exact(.inl ⟨rfl,(someb hF).symm,by kernel_rfl,by kernel_rfl⟩)
         ·refine AWP.skip (LeQ.start (LeQ.pk [0,1,6,8] 0 ?_))
          exact(.inl ⟨rfl,(someb hF).symm,by kernel_rfl,by kernel_rfl⟩)
        ·rintro _ _ _ (⟨rfl,rfl,rfl,rfl⟩ | ⟨rfl,d4,rfl,hq⟩)
         ·refine AWP.seq (AWP.seq ?_)
          obtain⟨a9,d5,hF⟩:=bindb hF
          refine AWP.rg0 [(3,.call Tryz.func94 [] (ih (List.drop (Int.toNat c) (List.take (Int.toNat f) a)) (ZI (b + (1:Int))) a9 d5))] [(0,(slc 10 Za a)),(1,(i64 b)),(6,(i64 c)),(8,(slc 10 Za (List.drop (Int.toNat c) (List.take (Int.toNat f) a)))),(89,(vb (!a9)))] ?_
          refine AWP.cif hF (fun d6 hF=>?_) (fun d6 hF=>?_)
          ·refine AWP.seq (AWP.rg0 [] [(4,(vb false))] (AWP.ret ?_))
           exact LeQ.of (.inr ⟨rfl,false,(someb hF).symm,(FnQ.f0 0 (.inr rfl))⟩)
          ·refine AWP.skip (AWP.rg0 [] [(0,(slc 10 Za a)),(1,(i64 b)),(5,(slc 10 Za (List.drop (Int.toNat c) (List.take (Int.toNat f) a)))),(6,(i64 c))] (LeQ.start (LeQ.pk [0,1,5,6] 0 ?_)))
           exact(.inl ⟨rfl,(List.drop (Int.toNat c) (List.take (Int.toNat f) a)),(someb hF).symm,by kernel_rfl,by kernel_rfl⟩)
         ·exact LeQ.of (.inr ⟨rfl,d4,(someb hF).symm,hq⟩)
      ·rintro _ _ _ (⟨rfl,i,rfl,rfl,rfl⟩ | ⟨rfl,d7,rfl,hq⟩)
       ·refine AWP.rg0 [(2,.len Za i)] [(0,(slc 10 Za a)),(1,(i64 b)),(5,(slc 10 Za i)),(6,(i64 (ZI (c + (List.length i:Int)))))] (LeQ.start (LeQ.pk [0,1,5,6] 0 ?_))
        exact⟨y,Nat.lt_succ_self _,i,(ZI (c + (List.length i:Int))),hF,by kernel_rfl,by kernel_rfl⟩
       ·exact LeQ.of (.inr ⟨rfl,d7,(someb hF).symm,hq⟩)
     ·refine AWP.exit (LeQ.start (LeQ.pk [] 0 ?_))
      exact(.inl ⟨rfl,(someb hF).symm,by kernel_rfl,by kernel_rfl⟩)
   ·rintro _ _ _ (⟨rfl,rfl,rfl,rfl⟩ | ⟨rfl,d9,rfl,hq⟩)
    ·refine AWP.seq (AWP.rg0 [] [(4,(vb true))] (AWP.ret ?_))
     have hr:=someb hF
     subst hr
     exact(FnQ.f0 0 (.inr rfl))
    ·have hr:=someb hF
     subst hr
     exact hq
theorem Zm8 (a:ZL) (b:Int) (r:Bool) (hF:Zbh fuel a b=some r):ACall Tryz.prog glob 94 [(slc 10 Za a),(i64 b)] [] (Zhd r):=Zl7 fuel a b r hF
def Zrm (r:Bool):PV→List Blk→Prop:=fun p K=>p=(vb r)∧K=[]
theorem Zrn (a:ZL) (r:Bool) (hF:Zff a=some r):ACall Tryz.prog glob 77 [(slc 10 Za a)] [] (Zrm r):=by
 refine ACall.body Tryz.func77 rfl (by kernel_rfl) ?_
 unfold Zff at hF
 refine AWP.seq (AWP.rg0 [] [(0,(slc 10 Za a))] (AWP.seq ?_))
 obtain⟨b1,b,hF⟩:=bindb hF
 replace b:=someb b
 obtain⟨t,j,hF⟩:=bindb hF
 obtain⟨l,c,hF⟩:=bindb hF
 replace c:=someb c
 obtain⟨m,i,hF⟩:=bindb hF
 refine AWP.to [(2,(vb m))] [] ?_ ?_
 ·cases b1 with
  | false=>
   have n:=someb (ifF j rfl)
   subst n
   subst c
   have o:=someb (ifF i rfl)
   subst o
   exact AWP.rgT [(1,.len Za a),(3,.bool b)]
  | true=>
   have d:=ifT j rfl
   obtain⟨g,k,d⟩:=bindb d
   replace d:=someb d
   subst d
   cases l with
   | false=>
    have p:=someb (ifF i rfl)
    subst p
    exact AWP.rgT [(1,.len Za a),(3,.bool b),(5,.call Tryz.func93 [] (Zld a g k)),(6,.len Za g),(8,.len Za a),(11,.bool c)]
   | true=>
    have f:=ifT i rfl
    obtain⟨q,s,f⟩:=bindb f
    replace f:=someb f
    subst f
    exact AWP.rgT [(1,.len Za a),(3,.bool b),(5,.call Tryz.func93 [] (Zld a g k)),(6,.len Za g),(8,.len Za a),(11,.bool c),(13,.call Tryz.func94 [] (Zm8 a (0:Int) q s))]
 refine AWP.ret ?_
 have hr:=someb hF
 subst hr
 exact(FnQ.f0 0 (.inr rfl))
def Zro (r:Bool):PV→List Blk→Prop:=fun p K=>p=(vb r)∧K=[]
theorem Zrp (b:Int) (c:Bool) (a:Bool) (r:Bool) (hF:Zgh b c a=some r):ACall Tryz.prog glob 71 [(i64 b),(vb c),(vb a)] [] (Zro r):=by
 refine ACall.body Tryz.func71 rfl (by kernel_rfl) ?_
 unfold Zgh at hF
 refine AWP.seq (AWP.rg0 [] [(0,(i64 b)),(1,(vb c)),(2,(vb a))] (AWP.seq (AWP.seq (AWP.rg0 [] [(1,(vb c)),(2,(vb a)),(7,(i64 b))] (AWP.block (AWP.seq ?_))))))
 refine AWP.rg0 [] [(1,(vb c)),(2,(vb a)),(7,(i64 b)),(8,(vb (b == (0:Int))))] ?_
 refine AWP.cif hF (fun k hF=>?_) (fun k hF=>?_)
 ·refine AWP.seq ?_
  obtain⟨b1,d,hF⟩:=bindb hF
  replace d:=someb d
  refine AWP.to [(6,(vb (b1 || a)))] [] ?_ ?_
  ·cases b1 with
   | false=>
    exact AWP.rgT [(1,.bool d)]
   | true=>
    exact AWP.rgT [(1,.bool d)]
  refine AWP.ret ?_
  have hr:=someb hF
  subst hr
  exact(FnQ.f0 0 (.inr rfl))
 ·refine AWP.seq (AWP.rg0 [] [(1,(vb c)),(2,(vb a)),(7,(i64 b)),(14,(vb (b == (1:Int))))] ?_)
  refine AWP.cif hF (fun l hF=>?_) (fun l hF=>?_)
  ·refine AWP.seq ?_
   obtain⟨i,f,hF⟩:=bindb hF
   replace f:=someb f
   refine AWP.to [(6,(vb (i && a)))] [] ?_ ?_
   ·cases i with
    | false=>
     exact AWP.rgT [(1,.bool f)]
    | true=>
     exact AWP.rgT [(1,.bool f)]
   refine AWP.ret ?_
   have hr:=someb hF
   subst hr
   exact(FnQ.f0 0 (.inr rfl))
  ·refine AWP.seq (AWP.rg0 [] [(1,(vb c)),(2,(vb a)),(20,(vb (b == (2:Int))))] ?_)
   refine AWP.cif hF (fun m hF=>?_) (fun m hF=>?_)
   ·refine AWP.seq ?_
    obtain⟨j,g,hF⟩:=bindb hF
    replace g:=someb g
    refine AWP.to [(6,(vb (j && (!a))))] [] ?_ ?_
    ·cases j with
     | false=>
      exact AWP.rgT [(1,.bool g)]
     | true=>
      exact AWP.rgT [(1,.bool g)]
    refine AWP.ret ?_
    have hr:=someb hF
    subst hr
    exact(FnQ.f0 0 (.inr rfl))
   ·refine AWP.skip (AWP.seq (AWP.rg0 [] [(6,(vb (!(c == a))))] (AWP.ret ?_)))
    have hr:=someb hF
    subst hr
    exact(FnQ.f0 0 (.inr rfl))
def Zsp (r:Bool):PV→List Blk→Prop:=fun p K=>p=(vb r)∧K=[]
theorem Zsq (b:Int) (c:Bool) (a:Bool) (r:Bool) (hF:Zg3 b c a=some r):ACall Tryz.prog glob 72 [(i64 b),(vb c),(vb a)] [] (Zsp r):=by
 refine ACall.body Tryz.func72 rfl (by kernel_rfl) ?_
 unfold Zg3 at hF
 refine AWP.seq (AWP.rg0 [] [(0,(i64 b)),(1,(vb c)),(2,(vb a))] (AWP.seq (AWP.seq (AWP.rg0 [] [(1,(vb c)),(2,(vb a)),(7,(i64 b))] (AWP.block (AWP.seq ?_))))))
 refine AWP.rg0 [] [(1,(vb c)),(2,(vb a)),(7,(i64 b)),(8,(vb (b == (1:Int))))] ?_
 refine AWP.cif hF (fun i hF=>?_) (fun i hF=>?_)
 ·refine AWP.seq ?_
  obtain⟨b1,d,hF⟩:=bindb hF
  replace d:=someb d
  refine AWP.to [(6,(vb (b1 || (!a))))] [] ?_ ?_
  ·cases b1 with
   | false=>
    exact AWP.rgT [(2,.bool d)]
   | true=>
    exact AWP.rgT [(2,.bool d)]
  refine AWP.ret ?_
  have hr:=someb hF
  subst hr
  exact(FnQ.f0 0 (.inr rfl))
 ·refine AWP.seq (AWP.rg0 [] [(1,(vb c)),(2,(vb a)),(16,(vb (b == (2:Int))))] ?_)
  refine AWP.cif hF (fun j hF=>?_) (fun j hF=>?_)
  ·refine AWP.seq (AWP.rg0 [] [(6,(vb (!c)))] (AWP.ret ?_))
   have hr:=someb hF
   subst hr
   exact(FnQ.f0 0 (.inr rfl))
  ·refine AWP.skip (AWP.seq ?_)
   obtain⟨g,f,hF⟩:=bindb hF
   replace f:=someb f
   refine AWP.to [(6,(vb (g && (!a))))] [] ?_ ?_
   ·cases g with
    | false=>
     exact AWP.rgT [(2,.bool f)]
    | true=>
     exact AWP.rgT [(2,.bool f)]
   refine AWP.ret ?_
   have hr:=someb hF
   subst hr
   exact(FnQ.f0 0 (.inr rfl))
def Zp1 (r:(List Zb)):PV→List Blk→Prop:=fun p K=>p=(slc 2 Zh r)∧K=[]
theorem Zp2 (c:ZL) (b:ZL) (a:Int) (r:(List Zb)) (hF:Zfz c b a=some r):ACall Tryz.prog glob 74 [(slc 10 Za c),(slc 10 Za b),(i64 a)] [] (Zp1 r):=by
 refine ACall.body Tryz.func74 rfl (by kernel_rfl) ?_
 unfold Zfz at hF
 refine AWP.seq (AWP.rg0 [] [(0,(slc 10 Za c)),(1,(slc 10 Za b)),(2,(i64 a))] (AWP.seq (AWP.rg0 [] [(0,(slc 10 Za c)),(1,(slc 10 Za b)),(2,(i64 a)),(7,nils)] ?_)))
 refine AWP.own (H':=[bf 2 57 Zh ([]:(List Zb)) false]) (st':=[(7,(.own 0 (List.length ([]:(List Zb))))),(0,(slc 10 Za c)),(1,(slc 10 Za b)),(2,(i64 a))]) 7 2 57 (by kernel_rfl) (by kernel_rfl) (by kernel_rfl) ?_
 refine AWP.pick (st':=[(0,(slc 10 Za c)),(1,(slc 10 Za b)),(2,(i64 a)),(7,(.own 0 (List.length ([]:(List Zb)))))]) (ks:=[0,1,2,7]) (by kernel_rfl) ?_
 refine AWP.seq (AWP.seq (AWP.rg0 [] [(0,(slc 10 Za c)),(1,(slc 10 Za b)),(2,(i64 a)),(7,(.own 0 (List.length ([]:(List Zb))))),(8,(i64 (0:Int)))] ?_))
 obtain⟨k,x,hF⟩:=bindb hF
 refine AWP.mid (fun e st H=>e=.normal∧st=[(1,(slc 10 Za b)),(2,(i64 a)),(7,(.own 0 (List.length k)))]∧H=[bf 2 57 Zh k false]) ?_ ?_
 ·clear hF
  refine AWP.kp [0,1,2,7,8] 1 ?_
  refine AWP.bround (fun n st H=>∃ d,∃ g,Zc7 c a n d g=some k∧st=[(0,(slc 10 Za c)),(1,(slc 10 Za b)),(2,(i64 a)),(7,(.own 0 (List.length d))),(8,(i64 g))]∧H=[bf 2 57 Zh d false]) fuel ⟨([]:(List Zb)),(0:Int),x,by kernel_rfl,by kernel_rfl⟩ ?_
  rintro q st H ⟨d,g,hF,rfl,rfl⟩
  cases q with
  | zero=>exact noneb hF
  | succ q=>
   rw [Zc7] at hF
   refine AWP.seq (AWP.seq (AWP.rg0 [(2,.len Za c)] [(0,(slc 10 Za c)),(1,(slc 10 Za b)),(2,(i64 a)),(7,(.own 0 (List.length d))),(8,(i64 g)),(13,(vb (decide (g<(List.length c:Int)))))] ?_))
   refine AWP.cif hF (fun y hF=>?_) (fun y hF=>?_)
   ·refine AWP.skip (AWP.seq (AWP.block ?_))
    obtain⟨m,z,hF⟩:=bindb hF
    obtain⟨v,hF⟩:=chkb hF
    obtain⟨a0,hF⟩:=chkb hF
    refine AWP.rg [(4,.idx Za z),(5,.ixd v),(6,.ldA Zh (Arr5.get m) 0 2 0 v),(8,.app Zh (fun _=>by kernel_rfl) a0)] [(0,(slc 10 Za c)),(1,(slc 10 Za b)),(2,(i64 a)),(7,(.own 0 (List.length (d++[(Arr5.get m a)])))),(8,(i64 g))] [bf 2 57 Zh (d++[(Arr5.get m a)]) false] (AWP.rg0 [] [(0,(slc 10 Za c)),(1,(slc 10 Za b)),(2,(i64 a)),(7,(.own 0 (List.length (d++[(Arr5.get m a)])))),(8,(i64 (ZI (g + (1:Int)))))] (LeQ.start (LeQ.pk [0,1,2,7,8] 1 ?_)))
    exact⟨q,Nat.lt_succ_self _,(d++[(Arr5.get m a)]),(ZI (g + (1:Int))),hF,by kernel_rfl,by kernel_rfl⟩
   ·refine AWP.exit (LeQ.start (LeQ.pk [1,2,7] 1 ?_))
    have hr:=someb hF
    subst hr
    exact⟨rfl,by kernel_rfl,by kernel_rfl⟩
 ·rintro _ _ _ ⟨rfl,rfl,rfl⟩
  refine AWP.seq (AWP.seq (AWP.rg0 [] [(1,(slc 10 Za b)),(2,(i64 a)),(7,(.own 0 (List.length k))),(9,(i64 (0:Int)))] ?_))
  obtain⟨o,a1,hF⟩:=bindb hF
  refine AWP.mid (fun e st H=>e=.normal∧st=[(7,(.own 0 (List.length o)))]∧H=[bf 2 57 Zh o false]) ?_ ?_
  ·clear hF
   refine AWP.kp [1,2,7,9] 1 ?_
   refine AWP.bround (fun n st H=>∃ f,∃ j,Zc8 b a n f j=some o∧st=[(1,(slc 10 Za b)),(2,(i64 a)),(7,(.own 0 (List.length f))),(9,(i64 j))]∧H=[bf 2 57 Zh f false]) fuel ⟨k,(0:Int),a1,by kernel_rfl,by kernel_rfl⟩ ?_
   rintro u st H ⟨f,j,hF,rfl,rfl⟩
   cases u with
   | zero=>exact noneb hF
   | succ u=>
    rw [Zc8] at hF
    refine AWP.seq (AWP.seq (AWP.rg0 [(2,.len Za b)] [(1,(slc 10 Za b)),(2,(i64 a)),(7,(.own 0 (List.length f))),(9,(i64 j)),(28,(vb (decide (j<(List.length b:Int)))))] ?_))
    refine AWP.cif hF (fun a2 hF=>?_) (fun a2 hF=>?_)
    ·refine AWP.skip (AWP.seq (AWP.block ?_))
     obtain⟨p,a3,hF⟩:=bindb hF
     obtain⟨w,hF⟩:=chkb hF
     obtain⟨a4,hF⟩:=chkb hF
     refine AWP.rg [(4,.idx Za a3),(5,.ixd w),(6,.ldA Zh (Arr5.get p) 0 2 0 w),(8,.app Zh (fun _=>by kernel_rfl) a4)] [(1,(slc 10 Za b)),(2,(i64 a)),(7,(.own 0 (List.length (f++[(Arr5.get p a)])))),(9,(i64 j))] [bf 2 57 Zh (f++[(Arr5.get p a)]) false] (AWP.rg0 [] [(1,(slc 10 Za b)),(2,(i64 a)),(7,(.own 0 (List.length (f++[(Arr5.get p a)])))),(9,(i64 (ZI (j + (1:Int)))))] (LeQ.start (LeQ.pk [1,2,7,9] 1 ?_)))
     exact⟨u,Nat.lt_succ_self _,(f++[(Arr5.get p a)]),(ZI (j + (1:Int))),hF,by kernel_rfl,by kernel_rfl⟩
    ·refine AWP.exit (LeQ.start (LeQ.pk [7] 1 ?_))
     have hr:=someb hF
     subst hr
     exact⟨rfl,by kernel_rfl,by kernel_rfl⟩
  ·rintro _ _ _ ⟨rfl,rfl,rfl⟩
   refine AWP.seq (AWP.rg0 [] [(6,(.own 0 (List.length o)))] (AWP.ret ?_))
   have hr:=someb hF
   subst hr
   exact(FnQ.f1 0 (.inr rfl) (.inl (Wk.ownT (i:=0) (s:=2) (t:=57) (l:=o) (sh:=false) (row:=Zh) (by kernel_rfl) (.inl rfl))))
def Zp3 (r:(List Int)):PV→List Blk→Prop:=fun p K=>p=(slc 1 Zd r)∧K=[]
theorem Zkw (a:(List Int)) (b:Int) (j:Int) (r:(List Int)) (hF:Ze3 a b j=some r):ACall Tryz.prog glob 92 [(slc 1 Zd a),(u64 b),(u32 j)] [] (Zp3 r):=by
 refine ACall.body Tryz.func92 rfl (by kernel_rfl) ?_
 unfold Ze3 at hF
 refine AWP.seq (AWP.rg0 [] [(0,(slc 1 Zd a)),(1,(u64 b)),(2,(u32 j))] (AWP.seq (AWP.seq (AWP.rg0 [] [(0,(slc 1 Zd a)),(1,(u64 b)),(11,(vb (decide (b > (IntKind.wrap .u64 j)))))] ?_))))
 refine AWP.cif hF (fun v hF=>?_) (fun v hF=>?_)
 ·refine AWP.seq (AWP.rg0 [] [(6,(slc 1 Zd a))] (AWP.ret ?_))
  have hr:=someb hF
  subst hr
  exact(FnQ.f0 0 (.inr rfl))
 ·refine AWP.skip (AWP.seq (AWP.rg0 [] [(0,(slc 1 Zd a)),(1,(u64 b)),(7,(i64 (0:Int)))] (AWP.seq ?_)))
  obtain⟨c,w,hF⟩:=bindb hF
  refine AWP.mid (fun e st H=>e=.normal∧st=[(0,(slc 1 Zd a)),(1,(u64 b)),(7,(i64 c))]∧H=[]) ?_ ?_
  ·clear hF
   refine AWP.kp [0,1,7] 0 ?_
   refine AWP.bround (fun n st H=>∃ d,Zc9 a b n d=some c∧st=[(0,(slc 1 Zd a)),(1,(u64 b)),(7,(i64 d))]∧H=[]) fuel ⟨(0:Int),w,by kernel_rfl,by kernel_rfl⟩ ?_
   rintro p st H ⟨d,hF,rfl,rfl⟩
   cases p with
   | zero=>exact noneb hF
   | succ p=>
    rw [Zc9] at hF
    refine AWP.seq (AWP.seq ?_)
    obtain⟨x,k,hF⟩:=bindb hF
    replace k:=someb k
    obtain⟨y,q,hF⟩:=bindb hF
    refine AWP.to [(0,(slc 1 Zd a)),(1,(u64 b)),(7,(i64 d)),(24,(vb y))] [] ?_ ?_
    ·cases x with
     | false=>
      have z:=someb (ifF q rfl)
      subst z
      exact AWP.rgT [(2,.len Zd a),(4,.bool k)]
     | true=>
      have f:=ifT q rfl
      obtain⟨b2,a0,f⟩:=bindb f
      replace f:=someb f
      subst f
      exact AWP.rgT [(2,.len Zd a),(4,.bool k),(7,.idx Zd a0)]
    refine AWP.cif hF (fun a1 hF=>?_) (fun a1 hF=>?_)
    ·refine AWP.skip (AWP.block (AWP.rg0 [] [(0,(slc 1 Zd a)),(1,(u64 b)),(7,(i64 (ZI (d + (1:Int)))))] (LeQ.start (LeQ.pk [0,1,7] 0 ?_))))
     exact⟨p,Nat.lt_succ_self _,(ZI (d + (1:Int))),hF,by kernel_rfl,by kernel_rfl⟩
    ·refine AWP.exit (LeQ.start (LeQ.pk [0,1,7] 0 ?_))
     have hr:=someb hF
     subst hr
     exact⟨rfl,by kernel_rfl,by kernel_rfl⟩
  ·rintro _ _ _ ⟨rfl,rfl,rfl⟩
   refine AWP.seq (AWP.seq ?_)
   obtain⟨a2,o,hF⟩:=bindb hF
   replace o:=someb o
   obtain⟨a3,u,hF⟩:=bindb hF
   refine AWP.to [(0,(slc 1 Zd a)),(1,(u64 b)),(7,(i64 c)),(38,(vb a3))] [] ?_ ?_
   ·cases a2 with
    | false=>
     have a4:=someb (ifF u rfl)
     subst a4
     exact AWP.rgT [(2,.len Zd a),(4,.bool o)]
    | true=>
     have g:=ifT u rfl
     obtain⟨b3,a5,g⟩:=bindb g
     replace g:=someb g
     subst g
     exact AWP.rgT [(2,.len Zd a),(4,.bool o),(7,.idx Zd a5)]
   refine AWP.cif hF (fun a6 hF=>?_) (fun a6 hF=>?_)
   ·refine AWP.seq (AWP.rg0 [] [(6,(slc 1 Zd a))] (AWP.ret ?_))
    have hr:=someb hF
    subst hr
    exact(FnQ.f0 0 (.inr rfl))
   ·refine AWP.skip (AWP.seq ?_)
    obtain⟨a7,hF⟩:=chkb hF
    obtain⟨a8,hF⟩:=chkb hF
    obtain⟨a9,hF⟩:=chkb hF
    obtain⟨b0,hF⟩:=chkb hF
    obtain⟨b1,hF⟩:=chkb hF
    refine AWP.dr [(0,.m),(3,.slice Zd a a7),(4,.app Zd (fun _=>by kernel_rfl) a8),(7,.app Zd (fun _=>by kernel_rfl) a9),(10,.slice Zd a b0),(11,.app Zd (fun _=>by kernel_rfl) b1)] 12 [] [0,4,7,11] [] [(6,(.own 0 (List.length (((([]:(List Int))++(List.drop (Int.toNat (0:Int)) (List.take (Int.toNat c) a)))++[b])++(List.drop (Int.toNat c) (List.take (Int.toNat (List.length a:Int)) a))))))] [bf 1 32 Zd (((([]:(List Int))++(List.drop (Int.toNat (0:Int)) (List.take (Int.toNat c) a)))++[b])++(List.drop (Int.toNat c) (List.take (Int.toNat (List.length a:Int)) a))) false] (AWP.ret ?_)
    have hr:=someb hF
    subst hr
    exact(FnQ.f1 0 (.inr rfl) (.inl (Wk.ownT (i:=0) (s:=1) (t:=32) (l:=(((([]:(List Int))++(List.drop (Int.toNat (0:Int)) (List.take (Int.toNat c) a)))++[b])++(List.drop (Int.toNat c) (List.take (Int.toNat (List.length a:Int)) a)))) (sh:=false) (row:=Zd) (by kernel_rfl) (.inl rfl))))
def Zp4 (r:(List Int)):PV→List Blk→Prop:=fun p K=>p=(slc 1 Zd r)∧K=[]
theorem Zp5 (a:(List Zb)) (b:Int) (r:(List Int)) (hF:Zf0 a b=some r):ACall Tryz.prog glob 73 [(slc 2 Zh a),(u32 b)] [] (Zp4 r):=by
 refine ACall.body Tryz.func73 rfl (by kernel_rfl) ?_
 unfold Zf0 at hF
 refine AWP.seq (AWP.rg0 [] [(0,(slc 2 Zh a)),(1,(u32 b))] (AWP.seq (AWP.rg0 [] [(0,(slc 2 Zh a)),(1,(u32 b)),(5,(slc 1 Zd [(0:Int)]))] (AWP.seq (AWP.seq (AWP.rg0 [] [(0,(slc 2 Zh a)),(1,(u32 b)),(5,(slc 1 Zd [(0:Int)])),(6,(i64 (0:Int)))] ?_))))))
 obtain⟨f,l,hF⟩:=bindb hF
 refine AWP.mid (fun e st H=>e=.normal∧st=[(5,(slc 1 Zd f))]∧H=[]) ?_ ?_
 ·clear hF
  refine AWP.kp [0,1,5,6] 0 ?_
  refine AWP.bround (fun n st H=>∃ d,∃ c,Zda a b n d c=some f∧st=[(0,(slc 2 Zh a)),(1,(u32 b)),(5,(slc 1 Zd d)),(6,(i64 c))]∧H=[]) fuel ⟨[(0:Int)],(0:Int),l,by kernel_rfl,by kernel_rfl⟩ ?_
  rintro g st H ⟨d,c,hF,rfl,rfl⟩
  cases g with
  | zero=>exact noneb hF
  | succ g=>
   rw [Zda] at hF
   refine AWP.seq (AWP.seq (AWP.rg0 [(2,.len Zh a)] [(0,(slc 2 Zh a)),(1,(u32 b)),(5,(slc 1 Zd d)),(6,(i64 c)),(11,(vb (decide (c<(List.length a:Int)))))] ?_))
   refine AWP.cif hF (fun m hF=>?_) (fun m hF=>?_)
   ·refine AWP.skip ?_
    obtain⟨i,o,hF⟩:=bindb hF
    refine AWP.seq ?_
    refine AWP.mid (fun e st H=>e=.normal∧st=[(0,(slc 2 Zh a)),(1,(u32 b)),(5,(slc 1 Zd i)),(6,(i64 c))]∧H=[]) ?_ ?_
    ·clear hF
     have hF:=o
     refine AWP.block (AWP.seq ?_)
     obtain⟨p,q,hF⟩:=bindb hF
     obtain⟨s,t,hF⟩:=bindb hF
     refine AWP.dr [(2,.idx Zh q),(7,.idx Zh t)] 11 [] [] [] [(0,(slc 2 Zh a)),(1,(u32 b)),(5,(slc 1 Zd d)),(6,(i64 c)),(24,(vb (decide (p.Lo≤s.Hi))))] [] ?_
     refine AWP.cif hF (fun u hF=>?_) (fun u hF=>?_)
     ·obtain⟨v,w,hF⟩:=bindb hF
      obtain⟨j,x,hF⟩:=bindb hF
      obtain⟨y,z,hF⟩:=bindb hF
      obtain⟨k,a0,hF⟩:=bindb hF
      refine AWP.dr [(3,.idx Zh w),(8,.call Tryz.func92 [] (Zkw d (IntKind.wrap .u64 v.Lo) b j x)),(11,.idx Zh z),(17,.call Tryz.func92 [] (Zkw j (IntKind.wrap .u64 ((IntKind.wrap .u64 y.Hi) + (1:Int))) b k a0))] 18 [] [] [] [(0,(slc 2 Zh a)),(1,(u32 b)),(5,(slc 1 Zd k)),(6,(i64 c))] [] (LeQ.start (LeQ.pk [0,1,5,6] 0 ?_))
      have hr:=someb hF
      subst hr
      exact⟨rfl,by kernel_rfl,by kernel_rfl⟩
     ·refine AWP.skip (LeQ.start (LeQ.pk [0,1,5,6] 0 ?_))
      have hr:=someb hF
      subst hr
      exact⟨rfl,by kernel_rfl,by kernel_rfl⟩
    ·rintro _ _ _ ⟨rfl,rfl,rfl⟩
     refine AWP.rg0 [] [(0,(slc 2 Zh a)),(1,(u32 b)),(5,(slc 1 Zd i)),(6,(i64 (ZI (c + (1:Int)))))] (LeQ.start (LeQ.pk [0,1,5,6] 0 ?_))
     exact⟨g,Nat.lt_succ_self _,i,(ZI (c + (1:Int))),hF,by kernel_rfl,by kernel_rfl⟩
   ·refine AWP.exit (LeQ.start (LeQ.pk [5] 0 ?_))
    have hr:=someb hF
    subst hr
    exact⟨rfl,by kernel_rfl,by kernel_rfl⟩
 ·rintro _ _ _ ⟨rfl,rfl,rfl⟩
  refine AWP.seq (AWP.rg0 [] [(4,(slc 1 Zd f))] (AWP.ret ?_))
  have hr:=someb hF
  subst hr
  exact(FnQ.f0 0 (.inr rfl))
def Zvb (r:ZL):PV→List Blk→Prop:=fun p K=>p=(slc 10 Za r)∧K=[]
theorem Znt (a:ZL) (b:Int) (c:Int) (r:ZL) (hF:Zg4 a b c=some r):ACall Tryz.prog glob 75 [(slc 10 Za a),(i64 b),(u64 c)] [] (Zvb r):=by
 refine ACall.body Tryz.func75 rfl (by kernel_rfl) ?_
 unfold Zg4 at hF
 refine AWP.seq (AWP.rg0 [] [(0,(slc 10 Za a)),(1,(i64 b)),(2,(u64 c))] (AWP.seq (AWP.rg0 [] [(0,(slc 10 Za a)),(1,(i64 b)),(2,(u64 c)),(7,nils)] ?_)))
 refine AWP.own (H':=[bf 10 59 Za ([]:ZL) false]) (st':=[(7,(.own 0 (List.length ([]:ZL)))),(0,(slc 10 Za a)),(1,(i64 b)),(2,(u64 c))]) 7 10 59 (by kernel_rfl) (by kernel_rfl) (by kernel_rfl) ?_
 refine AWP.pick (st':=[(0,(slc 10 Za a)),(1,(i64 b)),(2,(u64 c)),(7,(.own 0 (List.length ([]:ZL))))]) (ks:=[0,1,2,7]) (by kernel_rfl) ?_
 refine AWP.seq (AWP.seq (AWP.rg0 [] [(0,(slc 10 Za a)),(1,(i64 b)),(2,(u64 c)),(7,(.own 0 (List.length ([]:ZL)))),(8,(i64 (0:Int)))] ?_))
 obtain⟨j,y,hF⟩:=bindb hF
 refine AWP.mid (fun e st H=>e=.normal∧st=[(7,(.own 0 (List.length j)))]∧H=[bf 10 59 Za j false]) ?_ ?_
 ·clear hF
  refine AWP.kp [0,1,2,7,8] 1 ?_
  refine AWP.bround (fun n st H=>∃ f,∃ d,Zel a b c n f d=some j∧st=[(0,(slc 10 Za a)),(1,(i64 b)),(2,(u64 c)),(7,(.own 0 (List.length f))),(8,(i64 d))]∧H=[bf 10 59 Za f false]) fuel ⟨([]:ZL),(0:Int),y,by kernel_rfl,by kernel_rfl⟩ ?_
  rintro p st H ⟨f,d,hF,rfl,rfl⟩
  cases p with
  | zero=>exact noneb hF
  | succ p=>
   rw [Zel] at hF
   refine AWP.seq (AWP.seq (AWP.rg0 [(2,.len Za a)] [(0,(slc 10 Za a)),(1,(i64 b)),(2,(u64 c)),(7,(.own 0 (List.length f))),(8,(i64 d)),(12,(vb (decide (d<(List.length a:Int)))))] ?_))
   refine AWP.cif hF (fun z hF=>?_) (fun z hF=>?_)
   ·refine AWP.skip ?_
    obtain⟨k,a0,hF⟩:=bindb hF
    refine AWP.seq ?_
    refine AWP.mid (fun e st H=>e=.normal∧st=[(0,(slc 10 Za a)),(1,(i64 b)),(2,(u64 c)),(7,(.own 0 (List.length k))),(8,(i64 d))]∧H=[bf 10 59 Za k false]) ?_ ?_
    ·clear hF
     have hF:=a0
     refine AWP.block (AWP.seq ?_)
     obtain⟨q,u,hF⟩:=bindb hF
     obtain⟨m,hF⟩:=chkb hF
     obtain⟨a1,o,hF⟩:=bindb hF
     replace o:=someb o
     obtain⟨a2,v,hF⟩:=bindb hF
     refine AWP.to [(0,(slc 10 Za a)),(1,(i64 b)),(2,(u64 c)),(7,(.own 0 (List.length f))),(8,(i64 d)),(36,(vb a2))] [bf 10 59 Za f false] ?_ ?_
     ·cases a1 with
      | false=>
       have a3:=someb (ifF v rfl)
       subst a3
       exact AWP.rgT [(3,.idx Za u),(4,.ixd m),(6,.ldA Zh (Arr5.get q) 0 2 0 m),(10,.bool o)]
      | true=>
       have g:=ifT v rfl
       obtain⟨a4,a5,g⟩:=bindb g
       obtain⟨w,g⟩:=chkb g
       replace g:=someb g
       subst g
       exact AWP.rgT [(3,.idx Za u),(4,.ixd m),(6,.ldA Zh (Arr5.get q) 0 2 0 m),(10,.bool o),(15,.idx Za a5),(16,.ixd w),(18,.ldA Zh (Arr5.get a4) 0 2 1 w)]
     refine AWP.cif hF (fun a6 hF=>?_) (fun a6 hF=>?_)
     ·obtain⟨x,a7,hF⟩:=bindb hF
      obtain⟨a8,hF⟩:=chkb hF
      refine AWP.rg [(3,.idx Za a7),(6,.app Za (fun _=>by kernel_rfl) a8)] [(0,(slc 10 Za a)),(1,(i64 b)),(2,(u64 c)),(7,(.own 0 (List.length (f++[x])))),(8,(i64 d))] [bf 10 59 Za (f++[x]) false] (LeQ.start (LeQ.pk [0,1,2,7,8] 1 ?_))
      have hr:=someb hF
      subst hr
      exact⟨rfl,by kernel_rfl,by kernel_rfl⟩
     ·refine AWP.skip (LeQ.start (LeQ.pk [0,1,2,7,8] 1 ?_))
      have hr:=someb hF
      subst hr
      exact⟨rfl,by kernel_rfl,by kernel_rfl⟩
    ·rintro _ _ _ ⟨rfl,rfl,rfl⟩
     refine AWP.rg0 [] [(0,(slc 10 Za a)),(1,(i64 b)),(2,(u64 c)),(7,(.own 0 (List.length k))),(8,(i64 (ZI (d + (1:Int)))))] (LeQ.start (LeQ.pk [0,1,2,7,8] 1 ?_))
     exact⟨p,Nat.lt_succ_self _,k,(ZI (d + (1:Int))),hF,by kernel_rfl,by kernel_rfl⟩
   ·refine AWP.exit (LeQ.start (LeQ.pk [7] 1 ?_))
    have hr:=someb hF
    subst hr
    exact⟨rfl,by kernel_rfl,by kernel_rfl⟩
 ·rintro _ _ _ ⟨rfl,rfl,rfl⟩
  refine AWP.seq (AWP.rg0 [] [(6,(.own 0 (List.length j)))] (AWP.ret ?_))
  have hr:=someb hF
  subst hr
  exact(FnQ.f1 0 (.inr rfl) (.inl (Wk.ownT (i:=0) (s:=10) (t:=59) (l:=j) (sh:=false) (row:=Za) (by kernel_rfl) (.inl rfl))))
def Zl8 (r:Bool):PV→List Blk→Prop:=fun p K=>p=(vb r)∧K=[]
abbrev Zsr (r:Bool):Exit→St→List Blk→Prop:=FnQ Tryz.prog Tryz.f76.results 0 (Zl8 r)
theorem Zss (a:ZL) (b:ZL) (r:Bool) (hF:Zfv a b=some r):ACall Tryz.prog glob 76 [(slc 10 Za a),(slc 10 Za b)] [] (Zl8 r):=by
 refine ACall.body Tryz.func76 rfl (by kernel_rfl) ?_
 unfold Zfv at hF
 refine AWP.seq (AWP.rg0 [] [(0,(slc 10 Za a)),(1,(slc 10 Za b))] (AWP.seq (AWP.seq (AWP.rg0 [(1,.len Za a),(3,.len Za b)] [(0,(slc 10 Za a)),(1,(slc 10 Za b)),(10,(vb ((List.length a:Int) != (List.length b:Int))))] ?_))))
 refine AWP.cif hF (fun g hF=>?_) (fun g hF=>?_)
 ·refine AWP.seq (AWP.rg0 [] [(4,(vb false))] (AWP.ret ?_))
  have hr:=someb hF
  subst hr
  exact(FnQ.f0 0 (.inr rfl))
 ·refine AWP.skip (AWP.seq (AWP.seq (AWP.rg0 [] [(0,(slc 10 Za a)),(1,(slc 10 Za b)),(5,(i64 (0:Int)))] ?_)))
  obtain⟨d,i,hF⟩:=bindb hF
  refine AWP.mid (fun e st H=>(e=.normal∧d=(.inl ())∧st=[]∧H=[])∨(e=.ret∧∃ r,d=(.inr r)∧Zsr r e st H)) ?_ ?_
  ·clear hF
   refine AWP.kp [0,1,5] 0 ?_
   refine AWP.bround (fun n st H=>∃ c,Zdt a b n c=some d∧st=[(0,(slc 10 Za a)),(1,(slc 10 Za b)),(5,(i64 c))]∧H=[]) fuel ⟨(0:Int),i,by kernel_rfl,by kernel_rfl⟩ ?_
   rintro f st H ⟨c,hF,rfl,rfl⟩
   cases f with
   | zero=>exact noneb hF
   | succ f=>
    rw [Zdt] at hF
    refine AWP.seq (AWP.seq (AWP.rg0 [(2,.len Za a)] [(0,(slc 10 Za a)),(1,(slc 10 Za b)),(5,(i64 c)),(14,(vb (decide (c<(List.length a:Int)))))] ?_))
    refine AWP.cif hF (fun j hF=>?_) (fun j hF=>?_)
    ·refine AWP.skip (AWP.seq (AWP.block (AWP.seq ?_)))
     obtain⟨k,l,hF⟩:=bindb hF
     obtain⟨m,o,hF⟩:=bindb hF
     refine AWP.dr [(2,.idx Za l),(6,.idx Za o)] 9 [] [] [] [(0,(slc 10 Za a)),(1,(slc 10 Za b)),(5,(i64 c)),(25,(vb (!(Zfb k m))))] [] ?_
     refine AWP.cif hF (fun p hF=>?_) (fun p hF=>?_)
     ·refine AWP.seq (AWP.rg0 [] [(4,(vb false))] (AWP.ret ?_))
      exact LeQ.of (.inr ⟨rfl,false,(someb hF).symm,(FnQ.f0 0 (.inr rfl))⟩)
     ·refine AWP.skip (AWP.rg0 [] [(0,(slc 10 Za a)),(1,(slc 10 Za b)),(5,(i64 (ZI (c + (1:Int)))))] (LeQ.start (LeQ.pk [0,1,5] 0 ?_)))
      exact⟨f,Nat.lt_succ_self _,(ZI (c + (1:Int))),hF,by kernel_rfl,by kernel_rfl⟩
    ·refine AWP.exit (LeQ.start (LeQ.pk [] 0 ?_))
     exact(.inl ⟨rfl,(someb hF).symm,by kernel_rfl,by kernel_rfl⟩)
  ·rintro _ _ _ (⟨rfl,rfl,rfl,rfl⟩ | ⟨rfl,q,rfl,hq⟩)
   ·refine AWP.seq (AWP.rg0 [] [(4,(vb true))] (AWP.ret ?_))
    have hr:=someb hF
    subst hr
    exact(FnQ.f0 0 (.inr rfl))
   ·have hr:=someb hF
    subst hr
    exact hq
def Zlg (r:ZL):PV→List Blk→Prop:=fun p K=>p=(slc 10 Za r)∧K=[]
theorem Zoq:∀(nr:Nat) (b:ZL) (c:ZL) (d:Int) (a:Int) (r:ZL) (hF:Zbp nr b c d a=some r),ACall Tryz.prog glob 44 [(slc 10 Za b),(slc 10 Za c),(i64 d),(i64 a)] [] (Zlg r):=by
 intro nr
 induction nr with
 | zero=>intro b c d a r hF; exact noneb (by rw [Zbp] at hF; exact hF)
 | succ nr ih=>
  intro b c d a r hF
  refine ACall.body Tryz.func44 rfl (by kernel_rfl) ?_
  rw [Zbp] at hF
  refine AWP.seq (AWP.rg0 [] [(0,(slc 10 Za b)),(1,(slc 10 Za c)),(2,(i64 d)),(3,(i64 a))] (AWP.seq (AWP.seq (AWP.rg0 [] [(0,(slc 10 Za b)),(1,(slc 10 Za c)),(2,(i64 d)),(3,(i64 a)),(19,(vb (a == (5:Int))))] ?_))))
  refine AWP.cif hF (fun c4 hF=>?_) (fun c4 hF=>?_)
  ·refine AWP.seq (AWP.seq ?_)
   obtain⟨b4,c5,hF⟩:=bindb hF
   refine AWP.rg0 [(2,.len Za b),(5,.len Za c),(7,.call Tryz.func71 [] (Zrp d (decide ((List.length b:Int) > (0:Int))) (decide ((List.length c:Int) > (0:Int))) b4 c5))] [(27,(vb b4))] ?_
   refine AWP.cif hF (fun c6 hF=>?_) (fun c6 hF=>?_)
   ·refine AWP.seq (AWP.rg0 [] [(8,(slc 10 Za [(Arr5.mk Z3 Z3 Z3 Z3 Z3)]))] (AWP.ret ?_))
    have hr:=someb hF
    subst hr
    exact(FnQ.f0 0 (.inr rfl))
   ·refine AWP.skip (AWP.seq (AWP.rg0 [] [(8,nils)] (AWP.ret ?_)))
    have hr:=someb hF
    subst hr
    exact(FnQ.f1 0 (.inr rfl) (.inl (.nil 10)))
  ·refine AWP.skip (AWP.seq (AWP.seq ?_))
   obtain⟨b5,c7,hF⟩:=bindb hF
   refine AWP.rg0 [(2,.len Za b),(5,.len Za c),(7,.call Tryz.func72 [] (Zsq d (decide ((List.length b:Int) > (0:Int))) (decide ((List.length c:Int) > (0:Int))) b5 c7))] [(0,(slc 10 Za b)),(1,(slc 10 Za c)),(2,(i64 d)),(3,(i64 a)),(37,(vb b5))] ?_
   refine AWP.cif hF (fun c8 hF=>?_) (fun c8 hF=>?_)
   ·refine AWP.seq (AWP.rg0 [] [(8,nils)] (AWP.ret ?_))
    have hr:=someb hF
    subst hr
    exact(FnQ.f1 0 (.inr rfl) (.inl (.nil 10)))
   ·refine AWP.skip (AWP.seq (AWP.rg0 [] [(0,(slc 10 Za b)),(1,(slc 10 Za c)),(2,(i64 d)),(3,(i64 a)),(9,nils),(10,nils)] ?_))
    refine AWP.own (H':=[bf 10 59 Za ([]:ZL) false]) (st':=[(9,(.own 0 (List.length ([]:ZL)))),(0,(slc 10 Za b)),(1,(slc 10 Za c)),(2,(i64 d)),(3,(i64 a)),(10,nils)]) 9 10 59 (by kernel_rfl) (by kernel_rfl) (by kernel_rfl) ?_
    refine AWP.pick (st':=[(0,(slc 10 Za b)),(1,(slc 10 Za c)),(2,(i64 d)),(3,(i64 a)),(9,(.own 0 (List.length ([]:ZL)))),(10,nils)]) (ks:=[0,1,2,3,9,10]) (by kernel_rfl) ?_
    refine AWP.seq ?_
    obtain⟨b6,c9,hF⟩:=bindb hF
    obtain⟨b7,d0,hF⟩:=bindb hF
    obtain⟨f,d1,hF⟩:=bindb hF
    refine AWP.rg0 [(3,.call Tryz.func74 [] (Zp2 b c a b6 c9)),(5,.call Tryz.func31 [] (Zfl a b7 d0)),(6,.call Tryz.func73 [] (Zp5 b6 b7 f d1))] [(0,(slc 10 Za b)),(1,(slc 10 Za c)),(2,(i64 d)),(3,(i64 a)),(9,(.own 0 (List.length ([]:ZL)))),(10,nils),(11,(slc 1 Zd f))] (AWP.seq (AWP.seq (AWP.rg0 [] [(0,(slc 10 Za b)),(1,(slc 10 Za c)),(2,(i64 d)),(3,(i64 a)),(9,(.own 0 (List.length ([]:ZL)))),(10,nils),(11,(slc 1 Zd f)),(12,(i64 (0:Int)))] ?_)))
    obtain⟨a2,d2,hF⟩:=bindb hF
    refine AWP.mid (fun e st H=>e=.normal∧st=[(9,(.own 0 (List.length a2)))]∧H=[bf 10 59 Za a2 false]) ?_ ?_
    ·clear hF
     refine AWP.wk (p:=nils) (q:=(slc 10 Za ([]:ZL))) (st':=[(10,(slc 10 Za ([]:ZL))),(0,(slc 10 Za b)),(1,(slc 10 Za c)),(2,(i64 d)),(3,(i64 a)),(9,(.own 0 (List.length ([]:ZL)))),(11,(slc 1 Zd f)),(12,(i64 (0:Int)))]) 10 (by kernel_rfl) (.nil 10) (by kernel_rfl) ?_
     refine AWP.kp [0,1,2,3,9,10,11,12] 1 ?_
     refine AWP.bround (fun n st H=>∃ m,∃ o,∃ g,Zde b c d a (Zbp nr) f n m o g=some a2∧st=[(0,(slc 10 Za b)),(1,(slc 10 Za c)),(2,(i64 d)),(3,(i64 a)),(9,(.own 0 (List.length m))),(10,(slc 10 Za o)),(11,(slc 1 Zd f)),(12,(i64 g))]∧H=[bf 10 59 Za m false]) fuel ⟨([]:ZL),([]:ZL),(0:Int),d2,by kernel_rfl,by kernel_rfl⟩ ?_
     rintro a9 st H ⟨m,o,g,hF,rfl,rfl⟩
     cases a9 with
     | zero=>exact noneb hF
     | succ a9=>
      rw [Zde] at hF
      refine AWP.seq (AWP.seq (AWP.rg0 [(2,.len Zd f)] [(0,(slc 10 Za b)),(1,(slc 10 Za c)),(2,(i64 d)),(3,(i64 a)),(9,(.own 0 (List.length m))),(10,(slc 10 Za o)),(11,(slc 1 Zd f)),(12,(i64 g)),(48,(vb (decide (g<(List.length f:Int)))))] ?_))
      refine AWP.cif hF (fun d3 hF=>?_) (fun d3 hF=>?_)
      ·refine AWP.skip ?_
       obtain⟨d4,d5,hF⟩:=bindb hF
       refine AWP.seq ?_
       refine AWP.mid (fun e st H=>(e=.normal∧∃ a1,∃ a3,d4=(a1,a3)∧st=[(0,(slc 10 Za b)),(1,(slc 10 Za c)),(2,(i64 d)),(3,(i64 a)),(9,(.own 0 (List.length a1))),(10,(slc 10 Za a3)),(11,(slc 1 Zd f)),(12,(i64 g))]∧H=[bf 10 59 Za a1 false])) ?_ ?_
       ·clear hF
        have hF:=d5
        refine AWP.block (AWP.seq ?_)
        obtain⟨b0,d6,hF⟩:=bindb hF
        refine AWP.rg0 [(1,.call Tryz.func31 [] (Zfl a b0 d6))] [(0,(slc 10 Za b)),(1,(slc 10 Za c)),(2,(i64 d)),(3,(i64 a)),(9,(.own 0 (List.length m))),(10,(slc 10 Za o)),(11,(slc 1 Zd f)),(12,(i64 g)),(13,(u64 (IntKind.wrap .u64 b0)))] ?_
        obtain⟨j,d7,hF⟩:=bindb hF
        refine AWP.seq ?_
        refine AWP.mid (fun e st H=>e=.normal∧st=[(0,(slc 10 Za b)),(1,(slc 10 Za c)),(2,(i64 d)),(3,(i64 a)),(9,(.own 0 (List.length m))),(10,(slc 10 Za o)),(11,(slc 1 Zd f)),(12,(i64 g)),(13,(u64 j))]∧H=[bf 10 59 Za m false]) ?_ ?_
        ·clear hF
         have hF:=d7
         refine AWP.seq (AWP.rg0 [(3,.len Zd f)] [(0,(slc 10 Za b)),(1,(slc 10 Za c)),(2,(i64 d)),(3,(i64 a)),(9,(.own 0 (List.length m))),(10,(slc 10 Za o)),(11,(slc 1 Zd f)),(12,(i64 g)),(13,(u64 (IntKind.wrap .u64 b0))),(58,(vb (decide ((ZI (g + (1:Int)))<(List.length f:Int)))))] ?_)
         refine AWP.cif hF (fun d8 hF=>?_) (fun d8 hF=>?_)
         ·obtain⟨d9,e0,hF⟩:=bindb hF
          refine AWP.rg0 [(3,.idx Zd e0)] [(0,(slc 10 Za b)),(1,(slc 10 Za c)),(2,(i64 d)),(3,(i64 a)),(9,(.own 0 (List.length m))),(10,(slc 10 Za o)),(11,(slc 1 Zd f)),(12,(i64 g)),(13,(u64 (IntKind.wrap .u64 (d9 - (1:Int)))))] (LeQ.start (LeQ.pk [0,1,2,3,9,10,11,12,13] 1 ?_))
          have hr:=someb hF
          subst hr
          exact⟨rfl,by kernel_rfl,by kernel_rfl⟩
         ·refine AWP.skip (LeQ.start (LeQ.pk [0,1,2,3,9,10,11,12,13] 1 ?_))
          have hr:=someb hF
          subst hr
          exact⟨rfl,by kernel_rfl,by kernel_rfl⟩
        ·rintro _ _ _ ⟨rfl,rfl,rfl⟩
         refine AWP.seq ?_
         obtain⟨e1,e2,hF⟩:=bindb hF
         obtain⟨b8,e3,hF⟩:=bindb hF
         obtain⟨e4,e5,hF⟩:=bindb hF
         obtain⟨b9,e6,hF⟩:=bindb hF
         obtain⟨k,e7,hF⟩:=bindb hF
         refine AWP.dr [(4,.idx Zd e2),(6,.call Tryz.func75 [] (Znt b a e1 b8 e3)),(11,.idx Zd e5),(13,.call Tryz.func75 [] (Znt c a e4 b9 e6)),(17,.call Tryz.func44 [] (ih b8 b9 d (ZI (a + (1:Int))) k e7))] 18 [] [] [] [(0,(slc 10 Za b)),(1,(slc 10 Za c)),(2,(i64 d)),(3,(i64 a)),(9,(.own 0 (List.length m))),(10,(slc 10 Za o)),(11,(slc 1 Zd f)),(12,(i64 g)),(13,(u64 j)),(14,(slc 10 Za k))] [bf 10 59 Za m false] (AWP.seq (AWP.seq ?_))
         obtain⟨e8,a4,hF⟩:=bindb hF
         replace a4:=someb a4
         obtain⟨e9,a5,hF⟩:=bindb hF
         replace a5:=someb a5
         obtain⟨f2,b1,hF⟩:=bindb hF
         refine AWP.to [(0,(slc 10 Za b)),(1,(slc 10 Za c)),(2,(i64 d)),(3,(i64 a)),(9,(.own 0 (List.length m))),(10,(slc 10 Za o)),(11,(slc 1 Zd f)),(12,(i64 g)),(13,(u64 j)),(14,(slc 10 Za k)),(94,(vb f2))] [bf 10 59 Za m false] ?_ ?_
         ·cases e8 with
          | false=>
           subst a5
           have f3:=someb (ifF b1 rfl)
           subst f3
           exact AWP.rgT [(2,.bool a4)]
          | true=>
           cases e9 with
           | false=>
            have f4:=someb (ifF b1 rfl)
            subst f4
            exact AWP.rgT [(2,.bool a4),(4,.len Za k),(7,.bool a5)]
           | true=>
            have a6:=ifT b1 rfl
            obtain⟨f5,f6,a6⟩:=bindb a6
            replace a6:=someb a6
            subst a6
            exact AWP.rgT [(2,.bool a4),(4,.len Za k),(7,.bool a5),(10,.call Tryz.func76 [] (Zss k o f5 f6))]
         refine AWP.cif hF (fun f7 hF=>?_) (fun f7 hF=>?_)
         ·refine AWP.seq (AWP.seq (AWP.rg0 [(1,.len Za m),(3,.len Za k)] [(0,(slc 10 Za b)),(1,(slc 10 Za c)),(2,(i64 d)),(3,(i64 a)),(9,(.own 0 (List.length m))),(10,(slc 10 Za o)),(11,(slc 1 Zd f)),(12,(i64 g)),(13,(u64 j)),(15,(i64 (ZI ((List.length m:Int) - (List.length k:Int)))))] ?_))
          obtain⟨a7,f8,hF⟩:=bindb hF
          refine AWP.mid (fun e st H=>e=.normal∧st=[(0,(slc 10 Za b)),(1,(slc 10 Za c)),(2,(i64 d)),(3,(i64 a)),(9,(.own 0 (List.length a7))),(10,(slc 10 Za o)),(11,(slc 1 Zd f)),(12,(i64 g))]∧H=[bf 10 59 Za a7 false]) ?_ ?_
          ·clear hF
           refine AWP.kp [0,1,2,3,9,10,11,12,13,15] 1 ?_
           refine AWP.bround (fun n st H=>∃ v,∃ u,Zdd a j n v u=some a7∧st=[(0,(slc 10 Za b)),(1,(slc 10 Za c)),(2,(i64 d)),(3,(i64 a)),(9,(.own 0 (List.length v))),(10,(slc 10 Za o)),(11,(slc 1 Zd f)),(12,(i64 g)),(13,(u64 j)),(15,(i64 u))]∧H=[bf 10 59 Za v false]) fuel ⟨m,(ZI ((List.length m:Int) - (List.length k:Int))),f8,by kernel_rfl,by kernel_rfl⟩ ?_
           rintro b2 st H ⟨v,u,hF,rfl,rfl⟩
           cases b2 with
           | zero=>exact noneb hF
           | succ b2=>
            rw [Zdd] at hF
            refine AWP.seq (AWP.seq (AWP.rg0 [(2,.len Za v)] [(0,(slc 10 Za b)),(1,(slc 10 Za c)),(2,(i64 d)),(3,(i64 a)),(9,(.own 0 (List.length v))),(10,(slc 10 Za o)),(11,(slc 1 Zd f)),(12,(i64 g)),(13,(u64 j)),(15,(i64 u)),(103,(vb (decide (u<(List.length v:Int)))))] ?_))
            refine AWP.cif hF (fun f9 hF=>?_) (fun f9 hF=>?_)
            ·refine AWP.skip (AWP.seq (AWP.block ?_))
             obtain⟨x,c0,hF⟩:=bindb hF
             obtain⟨c1,hF⟩:=chkb hF
             refine AWP.rg [(5,.idx Za c0),(6,.ixE Za v u c1),(7,.fdE Za v u),(8,.stEd Za c0 (fun c2=>(Arr5.set x c2 ({ (Arr5.get x c2) with Hi:=(IntKind.wrap .u32 j) }:Zb))) 0 2 1 c1)] [(0,(slc 10 Za b)),(1,(slc 10 Za c)),(2,(i64 d)),(3,(i64 a)),(9,(.own 0 (List.length v))),(10,(slc 10 Za o)),(11,(slc 1 Zd f)),(12,(i64 g)),(13,(u64 j)),(15,(i64 u))] [bf 10 59 Za (List.set v (Int.toNat u) (Arr5.set x a ({ (Arr5.get x a) with Hi:=(IntKind.wrap .u32 j) }:Zb))) false] ?_
             rw [show ([(0,(slc 10 Za b)),(1,(slc 10 Za c)),(2,(i64 d)),(3,(i64 a)),(9,(.own 0 (List.length v))),(10,(slc 10 Za o)),(11,(slc 1 Zd f)),(12,(i64 g)),(13,(u64 j)),(15,(i64 u))]:St)=[(0,(slc 10 Za b)),(1,(slc 10 Za c)),(2,(i64 d)),(3,(i64 a)),(9,(.own 0 (List.length (List.set v (Int.toNat u) (Arr5.set x a ({ (Arr5.get x a) with Hi:=(IntKind.wrap .u32 j) }:Zb)))))),(10,(slc 10 Za o)),(11,(slc 1 Zd f)),(12,(i64 g)),(13,(u64 j)),(15,(i64 u))] by simp only [List.length_set]]
             refine AWP.rg0 [] [(0,(slc 10 Za b)),(1,(slc 10 Za c)),(2,(i64 d)),(3,(i64 a)),(9,(.own 0 (List.length (List.set v (Int.toNat u) (Arr5.set x a ({ (Arr5.get x a) with Hi:=(IntKind.wrap .u32 j) }:Zb)))))),(10,(slc 10 Za o)),(11,(slc 1 Zd f)),(12,(i64 g)),(13,(u64 j)),(15,(i64 (ZI (u + (1:Int)))))] (LeQ.start (LeQ.pk [0,1,2,3,9,10,11,12,13,15] 1 ?_))
             exact⟨b2,Nat.lt_succ_self _,(List.set v (Int.toNat u) (Arr5.set x a ({ (Arr5.get x a) with Hi:=(IntKind.wrap .u32 j) }:Zb))),(ZI (u + (1:Int))),hF,by kernel_rfl,by kernel_rfl⟩
            ·refine AWP.exit (LeQ.start (LeQ.pk [0,1,2,3,9,10,11,12] 1 ?_))
             have hr:=someb hF
             subst hr
             exact⟨rfl,by kernel_rfl,by kernel_rfl⟩
          ·rintro _ _ _ ⟨rfl,rfl,rfl⟩
           refine AWP.exit (LeQ.start (LeQ.pk [0,1,2,3,9,10,11,12] 1 ?_))
           exact⟨rfl,a7,o,(someb hF).symm,by kernel_rfl,by kernel_rfl⟩
         ·refine AWP.skip (AWP.seq (AWP.rg0 [] [(0,(slc 10 Za b)),(1,(slc 10 Za c)),(2,(i64 d)),(3,(i64 a)),(9,(.own 0 (List.length m))),(10,(slc 10 Za k)),(11,(slc 1 Zd f)),(12,(i64 g)),(13,(u64 j)),(14,(slc 10 Za k))] (AWP.seq (AWP.rg0 [] [(0,(slc 10 Za b)),(1,(slc 10 Za c)),(2,(i64 d)),(3,(i64 a)),(9,(.own 0 (List.length m))),(10,(slc 10 Za k)),(11,(slc 1 Zd f)),(12,(i64 g)),(13,(u64 j)),(14,(slc 10 Za k)),(16,(i64 (0:Int)))] ?_))))
          obtain⟨a8,g0,hF⟩:=bindb hF
          refine AWP.mid (fun e st H=>e=.normal∧st=[(0,(slc 10 Za b)),(1,(slc 10 Za c)),(2,(i64 d)),(3,(i64 a)),(9,(.own 0 (List.length a8))),(10,(slc 10 Za k)),(11,(slc 1 Zd f)),(12,(i64 g))]∧H=[bf 10 59 Za a8 false]) ?_ ?_
          ·clear hF
           refine AWP.kp [0,1,2,3,9,10,11,12,13,14,16] 1 ?_
           refine AWP.bround (fun n st H=>∃ w,∃ y,Zcv a f g j k n w y=some a8∧st=[(0,(slc 10 Za b)),(1,(slc 10 Za c)),(2,(i64 d)),(3,(i64 a)),(9,(.own 0 (List.length w))),(10,(slc 10 Za k)),(11,(slc 1 Zd f)),(12,(i64 g)),(13,(u64 j)),(14,(slc 10 Za k)),(16,(i64 y))]∧H=[bf 10 59 Za w false]) fuel ⟨m,(0:Int),g0,by kernel_rfl,by kernel_rfl⟩ ?_
           rintro b3 st H ⟨w,y,hF,rfl,rfl⟩
           cases b3 with
           | zero=>exact noneb hF
           | succ b3=>
            rw [Zcv] at hF
            refine AWP.seq (AWP.seq (AWP.rg0 [(2,.len Za k)] [(0,(slc 10 Za b)),(1,(slc 10 Za c)),(2,(i64 d)),(3,(i64 a)),(9,(.own 0 (List.length w))),(10,(slc 10 Za k)),(11,(slc 1 Zd f)),(12,(i64 g)),(13,(u64 j)),(14,(slc 10 Za k)),(16,(i64 y)),(118,(vb (decide (y<(List.length k:Int)))))] ?_))
            refine AWP.cif hF (fun g1 hF=>?_) (fun g1 hF=>?_)
            ·refine AWP.skip (AWP.seq (AWP.block (AWP.seq ?_)))
             obtain⟨z,g2,hF⟩:=bindb hF
             refine AWP.rg [(2,.idx Za g2)] [(0,(slc 10 Za b)),(1,(slc 10 Za c)),(2,(i64 d)),(3,(i64 a)),(9,(.own 0 (List.length w))),(10,(slc 10 Za k)),(11,(slc 1 Zd f)),(12,(i64 g)),(13,(u64 j)),(14,(slc 10 Za k)),(16,(i64 y)),(17,(.ptr 1 0))] [bf 10 59 Za w false,.cells (Za z)] (AWP.seq ?_)
             obtain⟨a0,g3,hF⟩:=bindb hF
             obtain⟨c3,hF⟩:=chkb hF
             refine AWP.rg [(3,.idx Zd g3),(9,.ixd c3),(10,.stA (fun g4=>Za (Arr5.set z g4 (Zb.mk (IntKind.wrap .u32 a0) (IntKind.wrap .u32 j)))) 0 2 0 c3)] [(0,(slc 10 Za b)),(1,(slc 10 Za c)),(2,(i64 d)),(3,(i64 a)),(9,(.own 0 (List.length w))),(10,(slc 10 Za k)),(11,(slc 1 Zd f)),(12,(i64 g)),(13,(u64 j)),(14,(slc 10 Za k)),(16,(i64 y)),(17,(.ptr 1 0))] [bf 10 59 Za w false,.cells (Za (Arr5.set z a (Zb.mk (IntKind.wrap .u32 a0) (IntKind.wrap .u32 j))))] ?_
             obtain⟨g5,hF⟩:=chkb hF
             refine AWP.rg [(3,.app Za (fun _=>by kernel_rfl) g5)] [(0,(slc 10 Za b)),(1,(slc 10 Za c)),(2,(i64 d)),(3,(i64 a)),(9,(.own 0 (List.length (w++[(Arr5.set z a (Zb.mk (IntKind.wrap .u32 a0) (IntKind.wrap .u32 j)))])))),(10,(slc 10 Za k)),(11,(slc 1 Zd f)),(12,(i64 g)),(13,(u64 j)),(14,(slc 10 Za k)),(16,(i64 y))] [bf 10 59 Za (w++[(Arr5.set z a (Zb.mk (IntKind.wrap .u32 a0) (IntKind.wrap .u32 j)))]) false,.cells (Za (Arr5.set z a (Zb.mk (IntKind.wrap .u32 a0) (IntKind.wrap .u32 j))))] (AWP.rg0 [] [(0,(slc 10 Za b)),(1,(slc 10 Za c)),(2,(i64 d)),(3,(i64 a)),(9,(.own 0 (List.length (w++[(Arr5.set z a (Zb.mk (IntKind.wrap .u32 a0) (IntKind.wrap .u32 j)))])))),(10,(slc 10 Za k)),(11,(slc 1 Zd f)),(12,(i64 g)),(13,(u64 j)),(14,(slc 10 Za k)),(16,(i64 (ZI (y + (1:Int)))))] (LeQ.start (LeQ.pk [0,1,2,3,9,10,11,12,13,14,16] 1 ?_)))
             exact⟨b3,Nat.lt_succ_self _,(w++[(Arr5.set z a (Zb.mk (IntKind.wrap .u32 a0) (IntKind.wrap .u32 j)))]),(ZI (y + (1:Int))),hF,by kernel_rfl,by kernel_rfl⟩
            ·refine AWP.exit (LeQ.start (LeQ.pk [0,1,2,3,9,10,11,12] 1 ?_))
             have hr:=someb hF
             subst hr
             exact⟨rfl,by kernel_rfl,by kernel_rfl⟩
          ·rintro _ _ _ ⟨rfl,rfl,rfl⟩
           refine LeQ.start (LeQ.pk [0,1,2,3,9,10,11,12] 1 ?_)
           exact⟨rfl,a8,k,(someb hF).symm,by kernel_rfl,by kernel_rfl⟩
       ·rintro _ _ _ ⟨rfl,a1,a3,rfl,rfl,rfl⟩
        refine AWP.rg0 [] [(0,(slc 10 Za b)),(1,(slc 10 Za c)),(2,(i64 d)),(3,(i64 a)),(9,(.own 0 (List.length a1))),(10,(slc 10 Za a3)),(11,(slc 1 Zd f)),(12,(i64 (ZI (g + (1:Int)))))] (LeQ.start (LeQ.pk [0,1,2,3,9,10,11,12] 1 ?_))
        exact⟨a9,Nat.lt_succ_self _,a1,a3,(ZI (g + (1:Int))),hF,by kernel_rfl,by kernel_rfl⟩
      ·refine AWP.exit (LeQ.start (LeQ.pk [9] 1 ?_))
       have hr:=someb hF
       subst hr
       exact⟨rfl,by kernel_rfl,by kernel_rfl⟩
    ·rintro _ _ _ ⟨rfl,rfl,rfl⟩
     refine AWP.seq (AWP.rg0 [] [(8,(.own 0 (List.length a2)))] (AWP.ret ?_))
     have hr:=someb hF
     subst hr
     exact(FnQ.f1 0 (.inr rfl) (.inl (Wk.ownT (i:=0) (s:=10) (t:=59) (l:=a2) (sh:=false) (row:=Za) (by kernel_rfl) (.inl rfl))))
theorem Zlh (a:ZL) (b:ZL) (c:Int) (d:Int) (r:ZL) (hF:Zbp fuel a b c d=some r):ACall Tryz.prog glob 44 [(slc 10 Za a),(slc 10 Za b),(i64 c),(i64 d)] [] (Zlg r):=Zoq fuel a b c d r hF
def Zor (r:(ZL × Int)):PV→List Blk→Prop:=fun p K=>p=(.tup [(slc 10 Za r.1),(i64 r.2)])∧K=[]
theorem Zke (a:ZL) (r:(ZL × Int)) (hF:Zeu a=some r):ACall Tryz.prog glob 43 [(slc 10 Za a)] [] (Zor r):=by
 refine ACall.body Tryz.func43 rfl (by kernel_rfl) ?_
 unfold Zeu at hF
 refine AWP.seq (AWP.rg0 [] [(0,(slc 10 Za a))] (AWP.seq (AWP.seq (AWP.rg0 [(1,.len Za a)] [(0,(slc 10 Za a)),(6,(vb (decide ((List.length a:Int) > (4096:Int)))))] ?_))))
 refine AWP.cif hF (fun b hF=>?_) (fun b hF=>?_)
 ·refine AWP.seq (AWP.rg0 [] [(2,nils),(3,(i64 (3:Int)))] (AWP.ret ?_))
  have hr:=someb hF
  subst hr
  exact(FnQ.f1 0 (.inr rfl) (.inr ⟨_,_,rfl,rfl,(.cons _ _ _ _ (.nil 10) (.cons _ _ _ _ (.refl _) .nil))⟩))
 ·refine AWP.skip (AWP.seq (AWP.rg0 [] [(2,(slc 10 Za a)),(3,(i64 (0:Int)))] (AWP.ret ?_)))
  have hr:=someb hF
  subst hr
  exact(FnQ.f0 0 (.inr rfl))
def Zl9 (r:(ZL × Int)):PV→List Blk→Prop:=fun p K=>p=(.tup [(slc 10 Za r.1),(i64 r.2)])∧K=[]
abbrev Zma (r:(ZL × Int)):Exit→St→List Blk→Prop:=FnQ Tryz.prog Tryz.f20.results 0 (Zl9 r)
theorem Zmb (a:ZL) (r:(ZL × Int)) (hF:Zfw a=some r):ACall Tryz.prog glob 20 [(slc 10 Za a)] [] (Zl9 r):=by
 refine ACall.body Tryz.func20 rfl (by kernel_rfl) ?_
 unfold Zfw at hF
 refine AWP.seq (AWP.rg0 [] [(0,(slc 10 Za a))] (AWP.seq (AWP.rg0 [] [(0,(slc 10 Za a)),(4,nils)] (AWP.seq (AWP.seq (AWP.rg0 [] [(0,(slc 10 Za a)),(4,nils),(5,(i64 (0:Int)))] ?_))))))
 obtain⟨i,o,hF⟩:=bindb hF
 refine AWP.mid (fun e st H=>(e=.normal∧∃ g,i=(.inl g)∧st=[(4,(slc 10 Za g))]∧H=[])∨(e=.ret∧∃ r,i=(.inr r)∧Zma r e st H)) ?_ ?_
 ·clear hF
  refine AWP.wk (p:=nils) (q:=(slc 10 Za ([]:ZL))) (st':=[(4,(slc 10 Za ([]:ZL))),(0,(slc 10 Za a)),(5,(i64 (0:Int)))]) 4 (by kernel_rfl) (.nil 10) (by kernel_rfl) ?_
  refine AWP.kp [0,4,5] 0 ?_
  refine AWP.bround (fun n st H=>∃ d,∃ b,Zdu a n d b=some i∧st=[(0,(slc 10 Za a)),(4,(slc 10 Za d)),(5,(i64 b))]∧H=[]) fuel ⟨([]:ZL),(0:Int),o,by kernel_rfl,by kernel_rfl⟩ ?_
  rintro j st H ⟨d,b,hF,rfl,rfl⟩
  cases j with
  | zero=>exact noneb hF
  | succ j=>
   rw [Zdu] at hF
   refine AWP.seq (AWP.seq (AWP.rg0 [(2,.len Za a)] [(0,(slc 10 Za a)),(4,(slc 10 Za d)),(5,(i64 b)),(11,(vb (decide (b<(List.length a:Int)))))] ?_))
   refine AWP.cif hF (fun s hF=>?_) (fun s hF=>?_)
   ·refine AWP.skip ?_
    obtain⟨k,t,hF⟩:=bindb hF
    refine AWP.seq ?_
    refine AWP.mid (fun e st H=>(e=.normal∧∃ f,k=(.inl f)∧st=[(0,(slc 10 Za a)),(4,(slc 10 Za f)),(5,(i64 b))]∧H=[])∨(e=.ret∧∃ r,k=(.inr r)∧Zma r e st H)) ?_ ?_
    ·clear hF
     have hF:=t
     refine AWP.block (AWP.seq (AWP.seq ?_))
     obtain⟨u,v,hF⟩:=bindb hF
     obtain⟨l,w,hF⟩:=bindb hF
     refine AWP.rg0 [(2,.idx Za v),(4,.call Tryz.func42 [] (Zlc u l w))] [(0,(slc 10 Za a)),(4,(slc 10 Za d)),(5,(i64 b)),(19,(vb (!l)))] ?_
     refine AWP.cif hF (fun x hF=>?_) (fun x hF=>?_)
     ·refine AWP.exit (LeQ.start (LeQ.pk [0,4,5] 0 ?_))
      exact(.inl ⟨rfl,d,(someb hF).symm,by kernel_rfl,by kernel_rfl⟩)
     ·refine AWP.skip (AWP.seq ?_)
      obtain⟨y,hF⟩:=chkb hF
      obtain⟨m,z,hF⟩:=bindb hF
      obtain⟨c,a0,hF⟩:=bindb hF
      refine AWP.rg0 [(5,.slice Za a y),(6,.call Tryz.func44 [] (Zlh d (List.drop (Int.toNat b) (List.take (Int.toNat (ZI (b + (1:Int)))) a)) (0:Int) (0:Int) m z)),(7,.call Tryz.func43 [] (Zke m c a0))] [(0,(slc 10 Za a)),(5,(i64 b)),(6,(slc 10 Za c.1)),(7,(i64 c.2))] (AWP.seq (AWP.seq (AWP.rg0 [] [(0,(slc 10 Za a)),(5,(i64 b)),(6,(slc 10 Za c.1)),(7,(i64 c.2)),(32,(vb (c.2 != (0:Int))))] ?_)))
      refine AWP.cif hF (fun a1 hF=>?_) (fun a1 hF=>?_)
      ·refine AWP.seq (AWP.rg0 [] [(2,nils),(3,(i64 c.2))] (AWP.ret ?_))
       exact LeQ.of (.inr ⟨rfl,(([]:ZL),c.2),(someb hF).symm,(FnQ.f1 0 (.inr rfl) (.inr ⟨_,_,rfl,rfl,(.cons _ _ _ _ (.nil 10) (.cons _ _ _ _ (.refl _) .nil))⟩))⟩)
      ·refine AWP.skip (AWP.rg0 [] [(0,(slc 10 Za a)),(4,(slc 10 Za c.1)),(5,(i64 b))] (LeQ.start (LeQ.pk [0,4,5] 0 ?_)))
       exact(.inl ⟨rfl,c.1,(someb hF).symm,by kernel_rfl,by kernel_rfl⟩)
    ·rintro _ _ _ (⟨rfl,f,rfl,rfl,rfl⟩ | ⟨rfl,a2,rfl,hq⟩)
     ·refine AWP.rg0 [] [(0,(slc 10 Za a)),(4,(slc 10 Za f)),(5,(i64 (ZI (b + (1:Int)))))] (LeQ.start (LeQ.pk [0,4,5] 0 ?_))
      exact⟨j,Nat.lt_succ_self _,f,(ZI (b + (1:Int))),hF,by kernel_rfl,by kernel_rfl⟩
     ·exact LeQ.of (.inr ⟨rfl,a2,(someb hF).symm,hq⟩)
   ·refine AWP.exit (LeQ.start (LeQ.pk [4] 0 ?_))
    exact(.inl ⟨rfl,d,(someb hF).symm,by kernel_rfl,by kernel_rfl⟩)
 ·rintro _ _ _ (⟨rfl,g,rfl,rfl,rfl⟩ | ⟨rfl,a3,rfl,hq⟩)
  ·refine AWP.seq (AWP.rg0 [] [(2,(slc 10 Za g)),(3,(i64 (0:Int)))] (AWP.ret ?_))
   have hr:=someb hF
   subst hr
   exact(FnQ.f0 0 (.inr rfl))
  ·have hr:=someb hF
   subst hr
   exact hq
def Zrq (r:(ZL × Int)):PV→List Blk→Prop:=fun p K=>p=(.tup [(slc 10 Za r.1),(i64 r.2)])∧K=[]
theorem Zli (a:ZL) (r:(ZL × Int)) (hF:Zfg a=some r):ACall Tryz.prog glob 45 [(slc 10 Za a)] [] (Zrq r):=by
 refine ACall.body Tryz.func45 rfl (by kernel_rfl) ?_
 unfold Zfg at hF
 refine AWP.seq (AWP.rg0 [] [(0,(slc 10 Za a))] (AWP.seq (AWP.seq ?_)))
 obtain⟨c,d,hF⟩:=bindb hF
 refine AWP.rg0 [(1,.call Tryz.func77 [] (Zrn a c d))] [(0,(slc 10 Za a)),(5,(vb c))] ?_
 refine AWP.cif hF (fun f hF=>?_) (fun f hF=>?_)
 ·refine AWP.seq (AWP.rg0 [] [(2,(slc 10 Za a)),(3,(i64 (0:Int)))] (AWP.ret ?_))
  have hr:=someb hF
  subst hr
  exact(FnQ.f0 0 (.inr rfl))
 ·refine AWP.skip (AWP.seq ?_)
  obtain⟨b,g,hF⟩:=bindb hF
  refine AWP.rg0 [(1,.call Tryz.func20 [] (Zmb a b g))] [(2,(slc 10 Za b.1)),(3,(i64 b.2))] (AWP.ret ?_)
  have hr:=someb hF
  subst hr
  exact(FnQ.f0 0 (.inr rfl))
def Zos (r:(ZL × Int)):PV→List Blk→Prop:=fun p K=>p=(.tup [(slc 10 Za r.1),(i64 r.2)])∧K=[]
theorem Zot (f:ZL) (d:ZL) (b:Int) (r:(ZL × Int)) (hF:Zfr f d b=some r):ACall Tryz.prog glob 21 [(slc 10 Za f),(slc 10 Za d),(i64 b)] [] (Zos r):=by
 refine ACall.body Tryz.func21 rfl (by kernel_rfl) ?_
 unfold Zfr at hF
 refine AWP.seq (AWP.rg0 [] [(0,(slc 10 Za f)),(1,(slc 10 Za d)),(2,(i64 b))] (AWP.seq ?_))
 obtain⟨a,j,hF⟩:=bindb hF
 refine AWP.rg0 [(1,.call Tryz.func45 [] (Zli f a j))] [(1,(slc 10 Za d)),(2,(i64 b)),(8,(slc 10 Za a.1)),(9,(i64 a.2))] (AWP.seq (AWP.seq (AWP.rg0 [] [(1,(slc 10 Za d)),(2,(i64 b)),(8,(slc 10 Za a.1)),(9,(i64 a.2)),(17,(vb (a.2 != (0:Int))))] ?_)))
 refine AWP.cif hF (fun k hF=>?_) (fun k hF=>?_)
 ·refine AWP.seq (AWP.rg0 [] [(6,nils),(7,(i64 a.2))] (AWP.ret ?_))
  have hr:=someb hF
  subst hr
  exact(FnQ.f1 0 (.inr rfl) (.inr ⟨_,_,rfl,rfl,(.cons _ _ _ _ (.nil 10) (.cons _ _ _ _ (.refl _) .nil))⟩))
 ·refine AWP.skip (AWP.seq ?_)
  obtain⟨c,l,hF⟩:=bindb hF
  refine AWP.rg0 [(1,.call Tryz.func45 [] (Zli d c l))] [(2,(i64 b)),(8,(slc 10 Za a.1)),(9,(i64 c.2)),(10,(slc 10 Za c.1))] (AWP.seq (AWP.seq (AWP.rg0 [] [(2,(i64 b)),(8,(slc 10 Za a.1)),(9,(i64 c.2)),(10,(slc 10 Za c.1)),(25,(vb (c.2 != (0:Int))))] ?_)))
  refine AWP.cif hF (fun m hF=>?_) (fun m hF=>?_)
  ·refine AWP.seq (AWP.rg0 [] [(6,nils),(7,(i64 c.2))] (AWP.ret ?_))
   have hr:=someb hF
   subst hr
   exact(FnQ.f1 0 (.inr rfl) (.inr ⟨_,_,rfl,rfl,(.cons _ _ _ _ (.nil 10) (.cons _ _ _ _ (.refl _) .nil))⟩))
  ·refine AWP.skip (AWP.seq ?_)
   obtain⟨i,n,hF⟩:=bindb hF
   obtain⟨g,o,hF⟩:=bindb hF
   refine AWP.rg0 [(3,.call Tryz.func44 [] (Zlh a.1 c.1 b (0:Int) i n)),(4,.call Tryz.func43 [] (Zke i g o))] [(6,(slc 10 Za g.1)),(7,(i64 g.2))] (AWP.ret ?_)
   have hr:=someb hF
   subst hr
   exact(FnQ.f0 0 (.inr rfl))
def Zrr (r:(ZL × Int)):PV→List Blk→Prop:=fun p K=>p=(.tup [(slc 10 Za r.1),(i64 r.2)])∧K=[]
theorem Zrs (a:ZL) (b:ZL) (r:(ZL × Int)) (hF:Zgj a b=some r):ACall Tryz.prog glob 7 [(slc 10 Za a),(slc 10 Za b)] [] (Zrr r):=by
 refine ACall.body Tryz.func7 rfl (by kernel_rfl) ?_
 unfold Zgj at hF
 refine AWP.seq (AWP.rg0 [] [(0,(slc 10 Za a)),(1,(slc 10 Za b))] (AWP.seq ?_))
 obtain⟨c,d,hF⟩:=bindb hF
 refine AWP.rg0 [(2,.call Tryz.func21 [] (Zot a b (0:Int) c d))] [(4,(slc 10 Za c.1)),(5,(i64 c.2))] (AWP.ret ?_)
 have hr:=someb hF
 subst hr
 exact(FnQ.f0 0 (.inr rfl))
def Zrt (r:(ZL × Int)):PV→List Blk→Prop:=fun p K=>p=(.tup [(slc 10 Za r.1),(i64 r.2)])∧K=[]
theorem Zi9 (a:ZL) (r:(ZL × Int)) (hF:Zem a=some r):ACall Tryz.prog glob 33 [(slc 10 Za a)] [] (Zrt r):=by
 refine ACall.body Tryz.func33 rfl (by kernel_rfl) ?_
 unfold Zem at hF
 refine AWP.seq (AWP.rg0 [] [(0,(slc 10 Za a))] (AWP.seq ?_))
 obtain⟨b,c,hF⟩:=bindb hF
 refine AWP.rg0 [(1,.call Tryz.func7 [] (Zrs a ([]:ZL) b c))] [(2,(slc 10 Za b.1)),(3,(i64 b.2))] (AWP.ret ?_)
 have hr:=someb hF
 subst hr
 exact(FnQ.f0 0 (.inr rfl))
def Zru (r:(Arr5 Int)):PV→List Blk→Prop:=fun p K=>p=(Zk8 r)∧K=[]
theorem Zlj (a:Zj) (r:(Arr5 Int)) (hF:Zfi a=some r):ACall Tryz.prog glob 61 [(Zas a)] [] (Zru r):=by
 refine ACall.body Tryz.func61 rfl (by kernel_rfl) ?_
 unfold Zfi at hF
 refine AWP.seq (AWP.rg [] [(1,(.ptr 0 0)),(2,(.ptr 1 0))] [.cells (Ze a),.cells (Z5 Zil)] (AWP.seq (AWP.rg [] [(2,(.ptr 1 0))] [.cells (Ze a),.cells (Z5 (Arr5.mk a.Src a.Dst (IntKind.wrap .u32 a.Proto) (IntKind.wrap .u32 a.SrcPort) (IntKind.wrap .u32 a.DstPort)))] (AWP.ret ?_))))
 have hr:=someb hF
 subst hr
 exact(FnQ.f0 0 (.inr rfl))
def Zp6 (r:Zf):PV→List Blk→Prop:=fun p K=>p=(Zq r)∧K=[]
theorem Zim (a:Int) (r:Zf) (hF:Ze7 a=some r):ACall Tryz.prog glob 17 [(u64 a)] [] (Zp6 r):=by
 refine ACall.body Tryz.func17 rfl (by kernel_rfl) ?_
 unfold Ze7 at hF
 refine AWP.seq (AWP.rg [] [(0,(u64 a)),(2,(.ptr 0 0))] [.cells (Zc Zk)] (AWP.seq (AWP.rg [] [(2,(.ptr 0 0))] [.cells (Zc (Zf.mk (0:Int) a))] (AWP.ret ?_))))
 have hr:=someb hF
 subst hr
 exact(FnQ.f0 0 (.inr rfl))
def Zrv (r:Int):PV→List Blk→Prop:=fun p K=>p=(u64 r)∧K=[]
theorem Zlk (a:Zb) (r:Int) (hF:Zen a=some r):ACall Tryz.prog glob 64 [(Zhn a)] [] (Zrv r):=by
 refine ACall.body Tryz.func64 rfl (by kernel_rfl) ?_
 unfold Zen at hF
 refine AWP.seq (AWP.rg [] [(1,(.ptr 0 0))] [.cells (Zh a)] (AWP.seq (AWP.rg0 [] [(2,(u64 (IntKind.wrap .u64 ((IntKind.wrap .u64 ((IntKind.wrap .u64 a.Hi) - (IntKind.wrap .u64 a.Lo))) + (1:Int)))))] (AWP.ret ?_))))
 have hr:=someb hF
 subst hr
 exact(FnQ.f0 0 (.inr rfl))
def Zp7 (r:(Arr4 Int)):PV→List Blk→Prop:=fun p K=>p=(Zts r)∧K=[]
theorem Zcj (a:Zf) (r:(Arr4 Int)) (hF:Zci a=some r):ACall Tryz.prog glob 59 [(Zq a)] [] (Zp7 r):=by
 refine ACall.body Tryz.func59 rfl (by kernel_rfl) ?_
 unfold Zci at hF
 refine AWP.seq (AWP.rg [] [(1,(.ptr 0 0)),(2,(.ptr 1 0))] [.cells (Zc a),.cells (Zaa Zzj)] (AWP.seq (AWP.rg [] [(2,(.ptr 1 0))] [.cells (Zc a),.cells (Zaa (Arr4.mk (Int.tmod a.Lo (4294967296:Int)) (IntKind.wrap .u64 (Int.tdiv a.Lo (4294967296:Int))) (Int.tmod a.Hi (4294967296:Int)) (IntKind.wrap .u64 (Int.tdiv a.Hi (4294967296:Int)))))] (AWP.ret ?_))))
 have hr:=someb hF
 subst hr
 exact(FnQ.f0 0 (.inr rfl))
def Zrw (r:Zf):PV→List Blk→Prop:=fun p K=>p=(Zq r)∧K=[]
theorem Zja (a:(Arr4 Int)) (r:Zf) (hF:Zeo a=some r):ACall Tryz.prog glob 60 [(Zts a)] [] (Zrw r):=by
 refine ACall.body Tryz.func60 rfl (by kernel_rfl) ?_
 unfold Zeo at hF
 refine AWP.seq (AWP.rg [] [(1,(.ptr 0 0)),(2,(.ptr 1 0))] [.cells (Zaa a),.cells (Zc Zk)] (AWP.seq (AWP.rg [] [(2,(.ptr 1 0))] [.cells (Zaa a),.cells (Zc (Zf.mk (IntKind.wrap .u64 ((IntKind.wrap .u64 (a.x3 * (4294967296:Int))) + a.x2)) (IntKind.wrap .u64 ((IntKind.wrap .u64 (a.x1 * (4294967296:Int))) + a.x0))))] (AWP.ret ?_))))
 have hr:=someb hF
 subst hr
 exact(FnQ.f0 0 (.inr rfl))
def Zrx (r:Zf):PV→List Blk→Prop:=fun p K=>p=(Zq r)∧K=[]
theorem Zll (d:Zf) (a:Int) (r:Zf) (hF:Zep d a=some r):ACall Tryz.prog glob 62 [(Zq d),(u64 a)] [] (Zrx r):=by
 refine ACall.body Tryz.func62 rfl (by kernel_rfl) ?_
 unfold Zep at hF
 refine AWP.seq (AWP.rg [] [(1,(u64 a)),(2,(.ptr 0 0)),(4,(.ptr 1 0))] [.cells (Zc d),.cells (Zc Zk)] (AWP.seq (AWP.seq (AWP.rg0 [] [(1,(u64 a)),(2,(.ptr 0 0)),(4,(.ptr 1 0)),(11,(vb (a == (4294967296:Int))))] ?_))))
 refine AWP.cif hF (fun q hF=>?_) (fun q hF=>?_)
 ·refine AWP.seq ?_
  obtain⟨g,s,hF⟩:=bindb hF
  refine AWP.rg [(1,.call Tryz.func59 [] (Zcj d g s))] [(4,(.ptr 1 0)),(5,(.ptr 2 0))] [.cells (Zc d),.cells (Zc Zk),.cells (Zaa g)] (AWP.seq ?_)
  obtain⟨l,t,hF⟩:=bindb hF
  refine AWP.rg [(7,.call Tryz.func60 [] (Zja (Arr4.mk (0:Int) g.x0 g.x1 g.x2) l t))] [(4,(.ptr 1 0))] [.cells (Zc d),.cells (Zc l),.cells (Zaa g)] (AWP.ret ?_)
  have hr:=someb hF
  subst hr
  exact(FnQ.f0 0 (.inr rfl))
 ·refine AWP.skip (AWP.seq ?_)
  obtain⟨j,u,hF⟩:=bindb hF
  refine AWP.rg [(1,.call Tryz.func59 [] (Zcj d j u))] [(1,(u64 a)),(4,(.ptr 1 0)),(6,(.ptr 2 0))] [.cells (Zc d),.cells (Zc Zk),.cells (Zaa j)] (AWP.seq (AWP.rg0 [] [(1,(u64 a)),(4,(.ptr 1 0)),(6,(.ptr 2 0)),(7,(u64 (0:Int)))] (AWP.seq (AWP.seq (AWP.rg0 [] [(1,(u64 a)),(4,(.ptr 1 0)),(6,(.ptr 2 0)),(7,(u64 (0:Int))),(8,(i64 (0:Int)))] ?_)))))
  obtain⟨i,v,hF⟩:=bindb hF
  refine AWP.mid (fun e st H=>e=.normal∧st=[(4,(.ptr 1 0)),(6,(.ptr 2 0))]∧H=[.cells (Zc d),.cells (Zc Zk),.cells (Zaa i)]) ?_ ?_
  ·clear hF
   refine AWP.kp [1,4,6,7,8] 3 ?_
   refine AWP.bround (fun n st H=>∃ c,∃ f,∃ b,Z0 a n c f b=some i∧st=[(1,(u64 a)),(4,(.ptr 1 0)),(6,(.ptr 2 0)),(7,(u64 f)),(8,(i64 b))]∧H=[.cells (Zc d),.cells (Zc Zk),.cells (Zaa c)]) fuel ⟨j,(0:Int),(0:Int),v,by kernel_rfl,by kernel_rfl⟩ ?_
   rintro k st H ⟨c,f,b,hF,rfl,rfl⟩
   cases k with
   | zero=>exact noneb hF
   | succ k=>
    rw [Z0] at hF
    refine AWP.seq (AWP.seq (AWP.rg0 [] [(1,(u64 a)),(4,(.ptr 1 0)),(6,(.ptr 2 0)),(7,(u64 f)),(8,(i64 b)),(25,(vb (decide (b<(4:Int)))))] ?_))
    refine AWP.cif hF (fun w hF=>?_) (fun w hF=>?_)
    ·refine AWP.skip (AWP.seq (AWP.block (AWP.seq ?_)))
     obtain⟨m,hF⟩:=chkb hF
     refine AWP.rg0 [(1,.ixd m),(2,.ldA Zd (Arr4.get c) 0 1 0 m)] [(1,(u64 a)),(4,(.ptr 1 0)),(6,(.ptr 2 0)),(8,(i64 b)),(9,(u64 (IntKind.wrap .u64 ((IntKind.wrap .u64 ((Arr4.get c b) * a)) + f))))] ?_
     obtain⟨o,hF⟩:=chkb hF
     refine AWP.rg [(5,.ixd o),(6,.stA (fun x=>Zaa (Arr4.set c x (Int.tmod (IntKind.wrap .u64 ((IntKind.wrap .u64 ((Arr4.get c b) * a)) + f)) (4294967296:Int)))) 0 1 0 o)] [(1,(u64 a)),(4,(.ptr 1 0)),(6,(.ptr 2 0)),(7,(u64 (IntKind.wrap .u64 (Int.tdiv (IntKind.wrap .u64 ((IntKind.wrap .u64 ((Arr4.get c b) * a)) + f)) (4294967296:Int))))),(8,(i64 b))] [.cells (Zc d),.cells (Zc Zk),.cells (Zaa (Arr4.set c b (Int.tmod (IntKind.wrap .u64 ((IntKind.wrap .u64 ((Arr4.get c b) * a)) + f)) (4294967296:Int))))] (AWP.rg0 [] [(1,(u64 a)),(4,(.ptr 1 0)),(6,(.ptr 2 0)),(7,(u64 (IntKind.wrap .u64 (Int.tdiv (IntKind.wrap .u64 ((IntKind.wrap .u64 ((Arr4.get c b) * a)) + f)) (4294967296:Int))))),(8,(i64 (ZI (b + (1:Int)))))] (LeQ.start (LeQ.pk [1,4,6,7,8] 3 ?_)))
     exact⟨k,Nat.lt_succ_self _,(Arr4.set c b (Int.tmod (IntKind.wrap .u64 ((IntKind.wrap .u64 ((Arr4.get c b) * a)) + f)) (4294967296:Int))),(IntKind.wrap .u64 (Int.tdiv (IntKind.wrap .u64 ((IntKind.wrap .u64 ((Arr4.get c b) * a)) + f)) (4294967296:Int))),(ZI (b + (1:Int))),hF,by kernel_rfl,by kernel_rfl⟩
    ·refine AWP.exit (LeQ.start (LeQ.pk [4,6] 3 ?_))
     have hr:=someb hF
     subst hr
     exact⟨rfl,by kernel_rfl,by kernel_rfl⟩
  ·rintro _ _ _ ⟨rfl,rfl,rfl⟩
   refine AWP.seq ?_
   obtain⟨p,y,hF⟩:=bindb hF
   refine AWP.rg [(1,.call Tryz.func60 [] (Zja i p y))] [(4,(.ptr 1 0))] [.cells (Zc d),.cells (Zc p),.cells (Zaa i)] (AWP.ret ?_)
   have hr:=someb hF
   subst hr
   exact(FnQ.f0 0 (.inr rfl))
def Zst (r:Zf):PV→List Blk→Prop:=fun p K=>p=(Zq r)∧K=[]
theorem Zmc (a:ZB) (c:Int) (r:Zf) (hF:Zee a c=some r):ACall Tryz.prog glob 63 [(Zs a),(i64 c)] [] (Zst r):=by
 refine ACall.body Tryz.func63 rfl (by kernel_rfl) ?_
 unfold Zee at hF
 refine AWP.seq (AWP.rg [] [(1,(i64 c)),(2,(.ptr 0 0)),(4,(.ptr 1 0))] [.cells (Za a),.cells (Zc Zk)] (AWP.seq ?_))
 obtain⟨g,m,hF⟩:=bindb hF
 refine AWP.rg [(0,.call Tryz.func17 [] (Zim (1:Int) g m))] [(1,(i64 c)),(2,(.ptr 0 0)),(4,(.ptr 1 0)),(5,(.ptr 2 0))] [.cells (Za a),.cells (Zc Zk),.cells (Zc g)] (AWP.seq (AWP.seq (AWP.rg0 [] [(2,(.ptr 0 0)),(4,(.ptr 1 0)),(5,(.ptr 2 0)),(6,(i64 c))] ?_)))
 obtain⟨d,o,hF⟩:=bindb hF
 refine AWP.mid (fun e st H=>e=.normal∧st=[(4,(.ptr 1 0)),(5,(.ptr 2 0))]∧H=[.cells (Za a),.cells (Zc Zk),.cells (Zc d)]) ?_ ?_
 ·clear hF
  refine AWP.kp [2,4,5,6] 3 ?_
  refine AWP.bround (fun n st H=>∃ f,∃ b,Zdw a n f b=some d∧st=[(2,(.ptr 0 0)),(4,(.ptr 1 0)),(5,(.ptr 2 0)),(6,(i64 b))]∧H=[.cells (Za a),.cells (Zc Zk),.cells (Zc f)]) fuel ⟨g,c,o,by kernel_rfl,by kernel_rfl⟩ ?_
  rintro i st H ⟨f,b,hF,rfl,rfl⟩
  cases i with
  | zero=>exact noneb hF
  | succ i=>
   rw [Zdw] at hF
   refine AWP.seq (AWP.seq (AWP.rg0 [] [(2,(.ptr 0 0)),(4,(.ptr 1 0)),(5,(.ptr 2 0)),(6,(i64 b)),(10,(vb (decide (b<(5:Int)))))] ?_))
   refine AWP.cif hF (fun p hF=>?_) (fun p hF=>?_)
   ·refine AWP.skip (AWP.seq (AWP.block ?_))
    obtain⟨k,hF⟩:=chkb hF
    obtain⟨l,q,hF⟩:=bindb hF
    obtain⟨j,s,hF⟩:=bindb hF
    refine AWP.dr [(2,.ixd k),(3,.ldA Zh (Arr5.get a) 0 2 0 k),(4,.call Tryz.func64 [] (Zlk (Arr5.get a b) l q)),(5,.call Tryz.func62 [] (Zll f l j s))] 6 [] [] [] [(2,(.ptr 0 0)),(4,(.ptr 1 0)),(5,(.ptr 2 0)),(6,(i64 b))] [.cells (Za a),.cells (Zc Zk),.cells (Zc j)] (AWP.rg0 [] [(2,(.ptr 0 0)),(4,(.ptr 1 0)),(5,(.ptr 2 0)),(6,(i64 (ZI (b + (1:Int)))))] (LeQ.start (LeQ.pk [2,4,5,6] 3 ?_)))
    exact⟨i,Nat.lt_succ_self _,j,(ZI (b + (1:Int))),hF,by kernel_rfl,by kernel_rfl⟩
   ·refine AWP.exit (LeQ.start (LeQ.pk [4,5] 3 ?_))
    have hr:=someb hF
    subst hr
    exact⟨rfl,by kernel_rfl,by kernel_rfl⟩
 ·rintro _ _ _ ⟨rfl,rfl,rfl⟩
  refine AWP.seq (AWP.rg [] [(4,(.ptr 1 0))] [.cells (Za a),.cells (Zc d),.cells (Zc d)] (AWP.ret ?_))
  have hr:=someb hF
  subst hr
  exact(FnQ.f0 0 (.inr rfl))
def Zug (r:Zf):PV→List Blk→Prop:=fun p K=>p=(Zq r)∧K=[]
theorem Zik (d:Zf) (f:Zf) (r:Zf) (hF:Zd7 d f=some r):ACall Tryz.prog glob 34 [(Zq d),(Zq f)] [] (Zug r):=by
 refine ACall.body Tryz.func34 rfl (by kernel_rfl) ?_
 unfold Zd7 at hF
 refine AWP.seq (AWP.rg [] [(2,(.ptr 0 0)),(3,(.ptr 1 0)),(4,(.ptr 2 0))] [.cells (Zc d),.cells (Zc f),.cells (Zc Zk)] (AWP.seq ?_))
 obtain⟨i,l,hF⟩:=bindb hF
 obtain⟨b,m,hF⟩:=bindb hF
 refine AWP.to [(4,(.ptr 2 0)),(5,(.ptr 3 0)),(6,(.ptr 4 0))] [.cells (Zc d),.cells (Zc f),.cells (Zc Zk),.cells (Zaa i),.cells (Zaa b)] ?_ ?_
 ·refine AWP.of_draw (by kernel_rfl) ?_
  refine ADraw.either 5 4 (by kernel_rfl) ?_ ?_
  ·exact ADraw.drT [(1,.call Tryz.func59 [] (Zcj d i l)),(3,.call Tryz.func59 [] (Zcj f b m))] 7 [] [4,5,6] []
  ·exact ADraw.drT [(1,.call Tryz.func59 [] (Zcj d i l)),(3,.call Tryz.func59 [] (Zcj f b m))] 7 [0,1,2,3,5,4,6] [5,4,6] [(3,4)]
 refine AWP.seq (AWP.rg0 [] [(4,(.ptr 2 0)),(5,(.ptr 3 0)),(6,(.ptr 4 0)),(7,(u64 (0:Int)))] (AWP.seq (AWP.seq (AWP.rg0 [] [(4,(.ptr 2 0)),(5,(.ptr 3 0)),(6,(.ptr 4 0)),(7,(u64 (0:Int))),(8,(i64 (0:Int)))] ?_))))
 obtain⟨j,t,hF⟩:=bindb hF
 refine AWP.mid (fun e st H=>e=.normal∧st=[(4,(.ptr 2 0)),(5,(.ptr 3 0))]∧H=[.cells (Zc d),.cells (Zc f),.cells (Zc Zk),.cells (Zaa j),.cells (Zaa b)]) ?_ ?_
 ·clear hF
  refine AWP.kp [4,5,6,7,8] 5 ?_
  refine AWP.bround (fun n st H=>∃ c,∃ g,∃ a,Zad b n c g a=some j∧st=[(4,(.ptr 2 0)),(5,(.ptr 3 0)),(6,(.ptr 4 0)),(7,(u64 g)),(8,(i64 a))]∧H=[.cells (Zc d),.cells (Zc f),.cells (Zc Zk),.cells (Zaa c),.cells (Zaa b)]) fuel ⟨i,(0:Int),(0:Int),t,by kernel_rfl,by kernel_rfl⟩ ?_
  rintro k st H ⟨c,g,a,hF,rfl,rfl⟩
  cases k with
  | zero=>exact noneb hF
  | succ k=>
   rw [Zad] at hF
   refine AWP.seq (AWP.seq (AWP.rg0 [] [(4,(.ptr 2 0)),(5,(.ptr 3 0)),(6,(.ptr 4 0)),(7,(u64 g)),(8,(i64 a)),(15,(vb (decide (a<(4:Int)))))] ?_))
   refine AWP.cif hF (fun u hF=>?_) (fun u hF=>?_)
   ·refine AWP.skip (AWP.seq (AWP.block (AWP.seq ?_)))
    obtain⟨o,hF⟩:=chkb hF
    obtain⟨p,hF⟩:=chkb hF
    refine AWP.dr [(1,.ixd o),(2,.ldA Zd (Arr4.get c) 0 1 0 o),(4,.ixd p),(5,.ldA Zd (Arr4.get b) 0 1 0 p)] 9 [] [] [] [(4,(.ptr 2 0)),(5,(.ptr 3 0)),(6,(.ptr 4 0)),(8,(i64 a)),(9,(u64 (IntKind.wrap .u64 ((IntKind.wrap .u64 ((Arr4.get c a) + (Arr4.get b a))) + g))))] [.cells (Zc d),.cells (Zc f),.cells (Zc Zk),.cells (Zaa c),.cells (Zaa b)] ?_
    obtain⟨q,hF⟩:=chkb hF
    refine AWP.rg [(5,.ixd q),(6,.stA (fun v=>Zaa (Arr4.set c v (Int.tmod (IntKind.wrap .u64 ((IntKind.wrap .u64 ((Arr4.get c a) + (Arr4.get b a))) + g)) (4294967296:Int)))) 0 1 0 q)] [(4,(.ptr 2 0)),(5,(.ptr 3 0)),(6,(.ptr 4 0)),(7,(u64 (IntKind.wrap .u64 (Int.tdiv (IntKind.wrap .u64 ((IntKind.wrap .u64 ((Arr4.get c a) + (Arr4.get b a))) + g)) (4294967296:Int))))),(8,(i64 a))] [.cells (Zc d),.cells (Zc f),.cells (Zc Zk),.cells (Zaa (Arr4.set c a (Int.tmod (IntKind.wrap .u64 ((IntKind.wrap .u64 ((Arr4.get c a) + (Arr4.get b a))) + g)) (4294967296:Int)))),.cells (Zaa b)] (AWP.rg0 [] [(4,(.ptr 2 0)),(5,(.ptr 3 0)),(6,(.ptr 4 0)),(7,(u64 (IntKind.wrap .u64 (Int.tdiv (IntKind.wrap .u64 ((IntKind.wrap .u64 ((Arr4.get c a) + (Arr4.get b a))) + g)) (4294967296:Int))))),(8,(i64 (ZI (a + (1:Int)))))] (LeQ.start (LeQ.pk [4,5,6,7,8] 5 ?_)))
    exact⟨k,Nat.lt_succ_self _,(Arr4.set c a (Int.tmod (IntKind.wrap .u64 ((IntKind.wrap .u64 ((Arr4.get c a) + (Arr4.get b a))) + g)) (4294967296:Int))),(IntKind.wrap .u64 (Int.tdiv (IntKind.wrap .u64 ((IntKind.wrap .u64 ((Arr4.get c a) + (Arr4.get b a))) + g)) (4294967296:Int))),(ZI (a + (1:Int))),hF,by kernel_rfl,by kernel_rfl⟩
   ·refine AWP.exit (LeQ.start (LeQ.pk [4,5] 5 ?_))
    have hr:=someb hF
    subst hr
    exact⟨rfl,by kernel_rfl,by kernel_rfl⟩
 ·rintro _ _ _ ⟨rfl,rfl,rfl⟩
  refine AWP.seq ?_
  obtain⟨s,w,hF⟩:=bindb hF
  refine AWP.rg [(1,.call Tryz.func60 [] (Zja j s w))] [(4,(.ptr 2 0))] [.cells (Zc d),.cells (Zc f),.cells (Zc s),.cells (Zaa j),.cells (Zaa b)] (AWP.ret ?_)
  have hr:=someb hF
  subst hr
  exact(FnQ.f0 0 (.inr rfl))
def Zlm (r:Zf):PV→List Blk→Prop:=fun p K=>p=(Zq r)∧K=[]
abbrev Zln (r:Zf):Exit→St→List Blk→Prop:=FnQ Tryz.prog Tryz.f35.results 0 (Zlm r)
theorem Zlo (a:ZB) (d:Zj) (r:Zf) (hF:Zfj a d=some r):ACall Tryz.prog glob 35 [(Zs a),(Zas d)] [] (Zlm r):=by
 refine ACall.body Tryz.func35 rfl (by kernel_rfl) ?_
 unfold Zfj at hF
 refine AWP.seq (AWP.rg [] [(2,(.ptr 0 0)),(3,(.ptr 1 0)),(4,(.ptr 2 0))] [.cells (Za a),.cells (Ze d),.cells (Zc Zk)] (AWP.seq (AWP.rg [] [(2,(.ptr 0 0)),(3,(.ptr 1 0)),(4,(.ptr 2 0)),(5,(.ptr 3 0))] [.cells (Za a),.cells (Ze d),.cells (Zc Zk),.cells (Zc Zk)] (AWP.seq ?_))))
 obtain⟨c,a5,hF⟩:=bindb hF
 refine AWP.rg [(1,.call Tryz.func61 [] (Zlj d c a5))] [(2,(.ptr 0 0)),(4,(.ptr 2 0)),(5,(.ptr 3 0)),(6,(.ptr 4 0))] [.cells (Za a),.cells (Ze d),.cells (Zc Zk),.cells (Zc Zk),.cells (Z5 c)] (AWP.seq (AWP.seq (AWP.rg0 [] [(2,(.ptr 0 0)),(4,(.ptr 2 0)),(5,(.ptr 3 0)),(6,(.ptr 4 0)),(7,(i64 (0:Int)))] ?_)))
 obtain⟨p,a6,hF⟩:=bindb hF
 refine AWP.mid (fun e st H=>(e=.normal∧∃ j,p=(.inl j)∧st=[(4,(.ptr 2 0)),(5,(.ptr 3 0))]∧H=[.cells (Za a),.cells (Ze d),.cells (Zc Zk),.cells (Zc j),.cells (Z5 c)])∨(e=.ret∧∃ r,p=(.inr r)∧Zln r e st H)) ?_ ?_
 ·clear hF
  refine AWP.kp [2,4,5,6,7] 5 ?_
  refine AWP.bround (fun n st H=>∃ f,∃ b,Zcy a c n f b=some p∧st=[(2,(.ptr 0 0)),(4,(.ptr 2 0)),(5,(.ptr 3 0)),(6,(.ptr 4 0)),(7,(i64 b))]∧H=[.cells (Za a),.cells (Ze d),.cells (Zc Zk),.cells (Zc f),.cells (Z5 c)]) fuel ⟨Zk,(0:Int),a6,by kernel_rfl,by kernel_rfl⟩ ?_
  rintro q st H ⟨f,b,hF,rfl,rfl⟩
  cases q with
  | zero=>exact noneb hF
  | succ q=>
   rw [Zcy] at hF
   refine AWP.seq (AWP.seq (AWP.rg0 [] [(2,(.ptr 0 0)),(4,(.ptr 2 0)),(5,(.ptr 3 0)),(6,(.ptr 4 0)),(7,(i64 b)),(12,(vb (decide (b<(5:Int)))))] ?_))
   refine AWP.cif hF (fun a7 hF=>?_) (fun a7 hF=>?_)
   ·refine AWP.skip ?_
    obtain⟨s,a8,hF⟩:=bindb hF
    refine AWP.seq ?_
    refine AWP.mid (fun e st H=>(e=.normal∧∃ k,s=(.inl k)∧st=[(2,(.ptr 0 0)),(4,(.ptr 2 0)),(5,(.ptr 3 0)),(6,(.ptr 4 0)),(7,(i64 b))]∧H=[.cells (Za a),.cells (Ze d),.cells (Zc Zk),.cells (Zc k),.cells (Z5 c)])∨(e=.ret∧∃ r,s=(.inr r)∧Zln r e st H)) ?_ ?_
    ·clear hF
     have hF:=a8
     refine AWP.block ?_
     obtain⟨i,a9,hF⟩:=bindb hF
     refine AWP.seq ?_
     refine AWP.mid (fun e st H=>e=.normal∧st=[(2,(.ptr 0 0)),(4,(.ptr 2 0)),(5,(.ptr 3 0)),(6,(.ptr 4 0)),(7,(i64 b))]∧H=[.cells (Za a),.cells (Ze d),.cells (Zc Zk),.cells (Zc i),.cells (Z5 c)]) ?_ ?_
     ·clear hF
      have hF:=a9
      refine AWP.seq ?_
      obtain⟨t,hF⟩:=chkb hF
      obtain⟨u,hF⟩:=chkb hF
      refine AWP.dr [(1,.ixd t),(2,.ldA Zet (Arr5.get c) 0 1 0 t),(4,.ixd u),(6,.ldA Zh (Arr5.get a) 0 2 0 u)] 8 [] [] [] [(2,(.ptr 0 0)),(4,(.ptr 2 0)),(5,(.ptr 3 0)),(6,(.ptr 4 0)),(7,(i64 b)),(22,(vb (decide ((Arr5.get c b) > (Arr5.get a b).Lo))))] [.cells (Za a),.cells (Ze d),.cells (Zc Zk),.cells (Zc f),.cells (Z5 c)] ?_
      refine AWP.cif hF (fun b0 hF=>?_) (fun b0 hF=>?_)
      ·refine AWP.seq ?_
       obtain⟨v,hF⟩:=chkb hF
       obtain⟨w,hF⟩:=chkb hF
       obtain⟨x,hF⟩:=chkb hF
       refine AWP.dr [(1,.ixd v),(3,.ldA Zh (Arr5.get a) 0 2 0 v),(5,.ixd w),(7,.ldA Zh (Arr5.get a) 0 2 1 w),(9,.ixd x),(10,.ldA Zet (Arr5.get c) 0 1 0 x)] 15 [] [14] [] [(2,(.ptr 0 0)),(4,(.ptr 2 0)),(5,(.ptr 3 0)),(6,(.ptr 4 0)),(7,(i64 b)),(8,(.ptr 5 0))] [.cells (Za a),.cells (Ze d),.cells (Zc Zk),.cells (Zc f),.cells (Z5 c),.cells (Zh (Zb.mk ((Arr5.get a b).Lo) (iMin ((Arr5.get a b).Hi) (IntKind.wrap .u32 ((Arr5.get c b) - (1:Int))))))] ?_
       obtain⟨y,b1,hF⟩:=bindb hF
       obtain⟨z,b2,hF⟩:=bindb hF
       obtain⟨a0,b3,hF⟩:=bindb hF
       obtain⟨a1,b4,hF⟩:=bindb hF
       refine AWP.dr [(4,.call Tryz.func63 [] (Zmc a (ZI (b + (1:Int))) y b1)),(6,.call Tryz.func64 [] (Zlk (Zb.mk ((Arr5.get a b).Lo) (iMin ((Arr5.get a b).Hi) (IntKind.wrap .u32 ((Arr5.get c b) - (1:Int))))) z b2)),(7,.call Tryz.func62 [] (Zll y z a0 b3)),(8,.call Tryz.func34 [] (Zik f a0 a1 b4))] 9 [] [] [] [(2,(.ptr 0 0)),(4,(.ptr 2 0)),(5,(.ptr 3 0)),(6,(.ptr 4 0)),(7,(i64 b))] [.cells (Za a),.cells (Ze d),.cells (Zc Zk),.cells (Zc a1),.cells (Z5 c),.cells (Zh (Zb.mk ((Arr5.get a b).Lo) (iMin ((Arr5.get a b).Hi) (IntKind.wrap .u32 ((Arr5.get c b) - (1:Int))))))] (LeQ.start (LeQ.pk [2,4,5,6,7] 5 ?_))
       have hr:=someb hF
       subst hr
       exact⟨rfl,by kernel_rfl,by kernel_rfl⟩
      ·refine AWP.skip (LeQ.start (LeQ.pk [2,4,5,6,7] 5 ?_))
       have hr:=someb hF
       subst hr
       exact⟨rfl,by kernel_rfl,by kernel_rfl⟩
     ·rintro _ _ _ ⟨rfl,rfl,rfl⟩
      refine AWP.seq ?_
      obtain⟨l,hF⟩:=chkb hF
      obtain⟨m,hF⟩:=chkb hF
      obtain⟨b5,o,hF⟩:=bindb hF
      replace o:=someb o
      obtain⟨b6,a2,hF⟩:=bindb hF
      refine AWP.to [(2,(.ptr 0 0)),(4,(.ptr 2 0)),(5,(.ptr 3 0)),(6,(.ptr 4 0)),(7,(i64 b)),(63,(vb b6))] [.cells (Za a),.cells (Ze d),.cells (Zc Zk),.cells (Zc i),.cells (Z5 c)] ?_ ?_
      ·cases b5 with
       | false=>
        have g:=ifF a2 rfl
        obtain⟨a3,g⟩:=chkb g
        obtain⟨a4,g⟩:=chkb g
        replace g:=someb g
        subst g
        exact AWP.drT [(1,.ixd l),(2,.ldA Zet (Arr5.get c) 0 1 0 l),(4,.ixd m),(6,.ldA Zh (Arr5.get a) 0 2 0 m),(8,.bool o),(10,.ixd a3),(11,.ldA Zet (Arr5.get c) 0 1 0 a3),(13,.ixd a4),(15,.ldA Zh (Arr5.get a) 0 2 1 a4)] 18 [] [] []
       | true=>
        have b7:=someb (ifT a2 rfl)
        subst b7
        exact AWP.drT [(1,.ixd l),(2,.ldA Zet (Arr5.get c) 0 1 0 l),(4,.ixd m),(6,.ldA Zh (Arr5.get a) 0 2 0 m),(8,.bool o)] 18 [] [] []
      refine AWP.cif hF (fun b8 hF=>?_) (fun b8 hF=>?_)
      ·refine AWP.seq (AWP.rg [] [(4,(.ptr 2 0))] [.cells (Za a),.cells (Ze d),.cells (Zc i),.cells (Zc i),.cells (Z5 c)] (AWP.ret ?_))
       exact LeQ.of (.inr ⟨rfl,i,(someb hF).symm,(FnQ.f0 0 (.inr rfl))⟩)
      ·refine AWP.skip (LeQ.start (LeQ.pk [2,4,5,6,7] 5 ?_))
       exact(.inl ⟨rfl,i,(someb hF).symm,by kernel_rfl,by kernel_rfl⟩)
    ·rintro _ _ _ (⟨rfl,k,rfl,rfl,rfl⟩ | ⟨rfl,b9,rfl,hq⟩)
     ·refine AWP.rg0 [] [(2,(.ptr 0 0)),(4,(.ptr 2 0)),(5,(.ptr 3 0)),(6,(.ptr 4 0)),(7,(i64 (ZI (b + (1:Int)))))] (LeQ.start (LeQ.pk [2,4,5,6,7] 5 ?_))
      exact⟨q,Nat.lt_succ_self _,k,(ZI (b + (1:Int))),hF,by kernel_rfl,by kernel_rfl⟩
     ·exact LeQ.of (.inr ⟨rfl,b9,(someb hF).symm,hq⟩)
   ·refine AWP.exit (LeQ.start (LeQ.pk [4,5] 5 ?_))
    exact(.inl ⟨rfl,f,(someb hF).symm,by kernel_rfl,by kernel_rfl⟩)
 ·rintro _ _ _ (⟨rfl,j,rfl,rfl,rfl⟩ | ⟨rfl,c0,rfl,hq⟩)
  ·refine AWP.seq (AWP.rg [] [(4,(.ptr 2 0))] [.cells (Za a),.cells (Ze d),.cells (Zc j),.cells (Zc j),.cells (Z5 c)] (AWP.ret ?_))
   have hr:=someb hF
   subst hr
   exact(FnQ.f0 0 (.inr rfl))
  ·have hr:=someb hF
   subst hr
   exact hq
def Zsu (r:(Zf × Int)):PV→List Blk→Prop:=fun p K=>p=(.tup [(Zq r.1),(i64 r.2)])∧K=[]
theorem Zmd (f:ZL) (b:Zj) (r:(Zf × Int)) (hF:Zfx f b=some r):ACall Tryz.prog glob 14 [(slc 10 Za f),(Zas b)] [] (Zsu r):=by
 refine ACall.body Tryz.func14 rfl (by kernel_rfl) ?_
 unfold Zfx at hF
 refine AWP.seq (AWP.rg [] [(0,(slc 10 Za f)),(3,(.ptr 0 0)),(4,(.ptr 1 0))] [.cells (Ze b),.cells (Zc Zk)] (AWP.seq ?_))
 obtain⟨a,o,hF⟩:=bindb hF
 refine AWP.rg0 [(1,.call Tryz.func33 [] (Zi9 f a o))] [(3,(.ptr 0 0)),(4,(.ptr 1 0)),(6,(slc 10 Za a.1)),(7,(i64 a.2))] (AWP.seq (AWP.rg [] [(3,(.ptr 0 0)),(4,(.ptr 1 0)),(6,(slc 10 Za a.1)),(7,(i64 a.2)),(8,(.ptr 2 0))] [.cells (Ze b),.cells (Zc Zk),.cells (Zc Zk)] (AWP.seq (AWP.seq (AWP.rg0 [] [(3,(.ptr 0 0)),(4,(.ptr 1 0)),(6,(slc 10 Za a.1)),(7,(i64 a.2)),(8,(.ptr 2 0)),(9,(i64 (0:Int)))] ?_)))))
 obtain⟨g,p,hF⟩:=bindb hF
 refine AWP.mid (fun e st H=>e=.normal∧st=[(4,(.ptr 1 0)),(7,(i64 a.2)),(8,(.ptr 2 0))]∧H=[.cells (Ze b),.cells (Zc Zk),.cells (Zc g)]) ?_ ?_
 ·clear hF
  refine AWP.kp [3,4,6,7,8,9] 3 ?_
  refine AWP.bround (fun n st H=>∃ d,∃ c,Zb4 b a n d c=some g∧st=[(3,(.ptr 0 0)),(4,(.ptr 1 0)),(6,(slc 10 Za a.1)),(7,(i64 a.2)),(8,(.ptr 2 0)),(9,(i64 c))]∧H=[.cells (Ze b),.cells (Zc Zk),.cells (Zc d)]) fuel ⟨Zk,(0:Int),p,by kernel_rfl,by kernel_rfl⟩ ?_
  rintro j st H ⟨d,c,hF,rfl,rfl⟩
  cases j with
  | zero=>exact noneb hF
  | succ j=>
   rw [Zb4] at hF
   refine AWP.seq (AWP.seq ?_)
   obtain⟨l,i,hF⟩:=bindb hF
   replace i:=someb i
   refine AWP.to [(3,(.ptr 0 0)),(4,(.ptr 1 0)),(6,(slc 10 Za a.1)),(7,(i64 a.2)),(8,(.ptr 2 0)),(9,(i64 c)),(22,(vb (l && (decide (c<(List.length a.1:Int))))))] [.cells (Ze b),.cells (Zc Zk),.cells (Zc d)] ?_ ?_
   ·cases l with
    | false=>
     exact AWP.rgT [(2,.bool i)]
    | true=>
     exact AWP.rgT [(2,.bool i),(5,.len Za a.1)]
   refine AWP.cif hF (fun q hF=>?_) (fun q hF=>?_)
   ·refine AWP.skip (AWP.seq (AWP.block ?_))
    obtain⟨s,t,hF⟩:=bindb hF
    obtain⟨m,u,hF⟩:=bindb hF
    obtain⟨k,v,hF⟩:=bindb hF
    refine AWP.dr [(3,.idx Za t),(6,.call Tryz.func35 [] (Zlo s b m u)),(7,.call Tryz.func34 [] (Zik d m k v))] 8 [] [] [] [(3,(.ptr 0 0)),(4,(.ptr 1 0)),(6,(slc 10 Za a.1)),(7,(i64 a.2)),(8,(.ptr 2 0)),(9,(i64 c))] [.cells (Ze b),.cells (Zc Zk),.cells (Zc k)] (AWP.rg0 [] [(3,(.ptr 0 0)),(4,(.ptr 1 0)),(6,(slc 10 Za a.1)),(7,(i64 a.2)),(8,(.ptr 2 0)),(9,(i64 (ZI (c + (1:Int)))))] (LeQ.start (LeQ.pk [3,4,6,7,8,9] 3 ?_)))
    exact⟨j,Nat.lt_succ_self _,k,(ZI (c + (1:Int))),hF,by kernel_rfl,by kernel_rfl⟩
   ·refine AWP.exit (LeQ.start (LeQ.pk [4,7,8] 3 ?_))
    have hr:=someb hF
    subst hr
    exact⟨rfl,by kernel_rfl,by kernel_rfl⟩
 ·rintro _ _ _ ⟨rfl,rfl,rfl⟩
  refine AWP.seq (AWP.rg [] [(4,(.ptr 1 0)),(5,(i64 a.2))] [.cells (Ze b),.cells (Zc g),.cells (Zc g)] (AWP.ret ?_))
  have hr:=someb hF
  subst hr
  exact(FnQ.f0 0 (.inr rfl))
def Zpj (r:Bool):PV→List Blk→Prop:=fun p K=>p=(vb r)∧K=[]
abbrev Zwf (r:Bool):Exit→St→List Blk→Prop:=FnQ Tryz.prog Tryz.f100.results 0 (Zpj r)
theorem Zwg (a:ZB) (r:Bool) (hF:Zih a=some r):ACall Tryz.prog glob 100 [(Zs a)] [] (Zpj r):=by
 refine ACall.body Tryz.func100 rfl (by kernel_rfl) ?_
 unfold Zih at hF
 refine AWP.seq (AWP.rg [] [(1,(.ptr 0 0))] [.cells (Za a)] (AWP.seq (AWP.seq (AWP.rg0 [] [(5,(Zs a)),(6,(i64 (0:Int)))] ?_))))
 obtain⟨f,k,hF⟩:=bindb hF
 refine AWP.mid (fun e st H=>(e=.normal∧f=(.inl ())∧st=[]∧H=[.cells (Za a)])∨(e=.ret∧∃ r,f=(.inr r)∧Zwf r e st H)) ?_ ?_
 ·clear hF
  refine AWP.kp [5,6] 1 ?_
  refine AWP.bround (fun n st H=>∃ b,Zat a n b=some f∧st=[(5,(Zs a)),(6,(i64 b))]∧H=[.cells (Za a)]) fuel ⟨(0:Int),k,by kernel_rfl,by kernel_rfl⟩ ?_
  rintro g st H ⟨b,hF,rfl,rfl⟩
  cases g with
  | zero=>exact noneb hF
  | succ g=>
   rw [Zat] at hF
   refine AWP.seq (AWP.rg0 [] [(5,(Zs a)),(6,(i64 b)),(7,(vb (decide (b<(5:Int)))))] (AWP.seq ?_))
   refine AWP.cif hF (fun l hF=>?_) (fun l hF=>?_)
   ·refine AWP.skip (AWP.seq (AWP.block (AWP.seq ?_)))
    obtain⟨m,hF⟩:=chkb hF
    refine AWP.rg [(1,.ixA Zh (Arr5.get a) m)] [(3,(i64 b)),(4,(.ptr 1 0)),(5,(Zs a)),(6,(i64 b))] [.cells (Za a),.cells (Zh (Arr5.get a b))] (AWP.seq ?_)
    obtain⟨o,d,hF⟩:=bindb hF
    replace d:=someb d
    obtain⟨p,i,hF⟩:=bindb hF
    refine AWP.to [(5,(Zs a)),(6,(i64 b)),(22,(vb p))] [.cells (Za a),.cells (Zh (Arr5.get a b))] ?_ ?_
    ·cases o with
     | false=>
      have c:=ifF i rfl
      obtain⟨j,c⟩:=chkb c
      replace c:=someb c
      subst c
      exact AWP.drT [(5,.bool d),(9,.ixd j),(10,.ldA Zet (Arr5.get Zd6) 0 1 0 j)] 13 [] [] []
     | true=>
      have q:=someb (ifT i rfl)
      subst q
      exact AWP.drT [(5,.bool d)] 13 [] [] []
    refine AWP.cif hF (fun s hF=>?_) (fun s hF=>?_)
    ·refine AWP.seq (AWP.rg0 [] [(2,(vb false))] (AWP.ret ?_))
     exact LeQ.of (.inr ⟨rfl,false,(someb hF).symm,(FnQ.f0 0 (.inr rfl))⟩)
    ·refine AWP.skip (AWP.rg0 [] [(5,(Zs a)),(6,(i64 (ZI (b + (1:Int)))))] (LeQ.start (LeQ.pk [5,6] 1 ?_)))
     exact⟨g,Nat.lt_succ_self _,(ZI (b + (1:Int))),hF,by kernel_rfl,by kernel_rfl⟩
   ·refine AWP.exit (LeQ.start (LeQ.pk [] 1 ?_))
    exact(.inl ⟨rfl,(someb hF).symm,by kernel_rfl,by kernel_rfl⟩)
 ·rintro _ _ _ (⟨rfl,rfl,rfl,rfl⟩ | ⟨rfl,t,rfl,hq⟩)
  ·refine AWP.seq (AWP.rg0 [] [(2,(vb true))] (AWP.ret ?_))
   have hr:=someb hF
   subst hr
   exact(FnQ.f0 0 (.inr rfl))
  ·have hr:=someb hF
   subst hr
   exact hq
def Zm9 (r:Bool):PV→List Blk→Prop:=fun p K=>p=(vb r)∧K=[]
theorem Zf7 (a:ZB) (r:Bool) (hF:Zck a=some r):ACall Tryz.prog glob 99 [(Zs a)] [] (Zm9 r):=by
 refine ACall.body Tryz.func99 rfl (by kernel_rfl) ?_
 unfold Zck at hF
 refine AWP.seq (AWP.rg [] [(1,(.ptr 0 0))] [.cells (Za a)] (AWP.seq ?_))
 obtain⟨b,c,hF⟩:=bindb hF
 refine AWP.rg0 [(1,.call Tryz.func100 [] (Zwg a b c))] [(2,(vb (!b)))] (AWP.ret ?_)
 have hr:=someb hF
 subst hr
 exact(FnQ.f0 0 (.inr rfl))
def Zdy (a:ZL) (b:List Value) (r:Int):PV→List Blk→Prop:=fun p K=>p=(i64 r)∧K=[.cells (cel Za a b)]
abbrev Zgm (a:ZL) (b:List Value) (r:Int):Exit→St→List Blk→Prop:=FnQ Tryz.prog Tryz.f105.results 1 (Zdy a b r)
theorem Zgn (a:Nat) (c:ZL) (d:List Value) (r:Int) (hF:Zbj a c=some r):ACall Tryz.prog glob 105 [(.vw 0 0 a),(.sc (.func (.func 99) #[] #[]))] [.cells (cel Za c d)] (Zdy c d r):=by
 refine ACall.body Tryz.func105 rfl (by kernel_rfl) ?_
 unfold Zbj at hF
 refine AWP.seq (AWP.rg0 [] [(0,(.vw 0 0 a)),(1,(.sc (.func (.func 99) #[] #[])))] (AWP.seq (AWP.seq (AWP.rg0 [(1,.lenV a)] [(0,(.vw 0 0 a)),(1,(.sc (.func (.func 99) #[] #[]))),(7,(i64 (a:Int))),(8,(i64 (0:Int)))] ?_))))
 obtain⟨f,k,hF⟩:=bindb hF
 refine AWP.mid (fun e st H=>(e=.normal∧f=(.inl ())∧st=[]∧H=[.cells (cel Za c d)])∨(e=.ret∧∃ r,f=(.inr r)∧Zgm c d r e st H)) ?_ ?_
 ·clear hF
  refine AWP.kp [0,1,7,8] 1 ?_
  refine AWP.bround (fun n st H=>∃ b,Z4 a c n b=some f∧st=[(0,(.vw 0 0 a)),(1,(.sc (.func (.func 99) #[] #[]))),(7,(i64 (a:Int))),(8,(i64 b))]∧H=[.cells (cel Za c d)]) fuel ⟨(0:Int),k,by kernel_rfl,by kernel_rfl⟩ ?_
  rintro g st H ⟨b,hF,rfl,rfl⟩
  cases g with
  | zero=>exact noneb hF
  | succ g=>
   rw [Z4] at hF
   refine AWP.seq (AWP.rg0 [] [(0,(.vw 0 0 a)),(1,(.sc (.func (.func 99) #[] #[]))),(7,(i64 (a:Int))),(8,(i64 b)),(9,(vb (decide (b<(a:Int)))))] (AWP.seq ?_))
   refine AWP.cif hF (fun l hF=>?_) (fun l hF=>?_)
   ·refine AWP.skip (AWP.seq (AWP.block (AWP.seq (AWP.rg0 [] [(0,(.vw 0 0 a)),(1,(.sc (.func (.func 99) #[] #[]))),(5,(i64 b)),(7,(i64 (a:Int))),(8,(i64 b))] (AWP.seq ?_)))))
    obtain⟨m,i,hF⟩:=bindb hF
    obtain⟨j,o,hF⟩:=bindb hF
    refine AWP.rg0 [(3,.idxV (Zp i)),(4,.ldV Za (s:=10) (fun _=>rfl) d (Zn i) (0 + Int.toNat b * 10) (Nat.zero_add _) []),(5,.call Tryz.func99 [] (Zf7 m j o))] [(0,(.vw 0 0 a)),(1,(.sc (.func (.func 99) #[] #[]))),(5,(i64 b)),(7,(i64 (a:Int))),(8,(i64 b)),(16,(vb j))] ?_
    refine AWP.cif hF (fun p hF=>?_) (fun p hF=>?_)
    ·refine AWP.seq (AWP.rg0 [] [(4,(i64 b))] (AWP.ret ?_))
     exact LeQ.of (.inr ⟨rfl,b,(someb hF).symm,(FnQ.f0 1 (.inr rfl))⟩)
    ·refine AWP.skip (AWP.rg0 [] [(0,(.vw 0 0 a)),(1,(.sc (.func (.func 99) #[] #[]))),(7,(i64 (a:Int))),(8,(i64 (ZI (b + (1:Int)))))] (LeQ.start (LeQ.pk [0,1,7,8] 1 ?_)))
     exact⟨g,Nat.lt_succ_self _,(ZI (b + (1:Int))),hF,by kernel_rfl,by kernel_rfl⟩
   ·refine AWP.exit (LeQ.start (LeQ.pk [] 1 ?_))
    exact(.inl ⟨rfl,(someb hF).symm,by kernel_rfl,by kernel_rfl⟩)
 ·rintro _ _ _ (⟨rfl,rfl,rfl,rfl⟩ | ⟨rfl,q,rfl,hq⟩)
  ·refine AWP.seq (AWP.rg0 [] [(4,(i64 (-1:Int)))] (AWP.ret ?_))
   have hr:=someb hF
   subst hr
   exact(FnQ.f0 1 (.inr rfl))
  ·have hr:=someb hF
   subst hr
   exact hq
def Zgd (a:List Value) (r:(Nat × ZL)):PV→List Blk→Prop:=fun p K=>p=(.vw 0 0 r.1)∧K=[.cells (cel Za r.2 a)]
theorem Zge (a:Nat) (k:ZL) (b:List Value) (r:(Nat × ZL)) (hF:Zax a k=some r):ACall Tryz.prog glob 97 [(.vw 0 0 a),(.sc (.func (.func 99) #[] #[]))] [.cells (cel Za k b)] (Zgd b r):=by
 refine ACall.body Tryz.func97 rfl (by kernel_rfl) ?_
 unfold Zax at hF
 refine AWP.seq (AWP.rg0 [] [(0,(.vw 0 0 a)),(1,(.sc (.func (.func 99) #[] #[])))] (AWP.seq ?_))
 obtain⟨i,x,hF⟩:=bindb hF
 refine AWP.rg0 [(2,.callC Tryz.func105 [] (closedH.c (Zt (row:=Za) (fun _=>rfl) k b) closedH.n) (closedH.c (Zt (row:=Za) (fun _=>rfl) k b) closedH.n) (Zgn a k b i x))] [(0,(.vw 0 0 a)),(1,(.sc (.func (.func 99) #[] #[]))),(5,(i64 i))] (AWP.seq (AWP.seq (AWP.rg0 [] [(0,(.vw 0 0 a)),(1,(.sc (.func (.func 99) #[] #[]))),(5,(i64 i)),(12,(vb (i == (-1:Int))))] ?_)))
 refine AWP.cif hF (fun y hF=>?_) (fun y hF=>?_)
 ·refine AWP.seq (AWP.rg0 [] [(4,(.vw 0 0 a))] (AWP.ret ?_))
  have hr:=someb hF
  subst hr
  exact(FnQ.f0 1 (.inr rfl))
 ·refine AWP.skip (AWP.seq (AWP.seq (AWP.rg0 [] [(0,(.vw 0 0 a)),(1,(.sc (.func (.func 99) #[] #[]))),(5,(i64 i)),(6,(i64 (ZI (i + (1:Int)))))] ?_)))
  obtain⟨t,z,hF⟩:=bindb hF
  refine AWP.mid (fun e st H=>(e=.normal∧∃ l,∃ g,t=(l,g)∧st=[(0,(.vw 0 0 a)),(5,(i64 g))]∧H=[.cells (cel Za l b)])) ?_ ?_
  ·clear hF
   refine AWP.kp [0,1,5,6] 1 ?_
   refine AWP.bround (fun n st H=>∃ j,∃ d,∃ f,Z1 a n j d f=some t∧st=[(0,(.vw 0 0 a)),(1,(.sc (.func (.func 99) #[] #[]))),(5,(i64 d)),(6,(i64 f))]∧H=[.cells (cel Za j b)]) fuel ⟨k,i,(ZI (i + (1:Int))),z,by kernel_rfl,by kernel_rfl⟩ ?_
   rintro q st H ⟨j,d,f,hF,rfl,rfl⟩
   cases q with
   | zero=>exact noneb hF
   | succ q=>
    rw [Z1] at hF
    refine AWP.seq (AWP.seq (AWP.rg0 [(2,.lenV a)] [(0,(.vw 0 0 a)),(1,(.sc (.func (.func 99) #[] #[]))),(5,(i64 d)),(6,(i64 f)),(19,(vb (decide (f<(a:Int)))))] ?_))
    refine AWP.cif hF (fun a0 hF=>?_) (fun a0 hF=>?_)
    ·refine AWP.skip ?_
     obtain⟨a1,a2,hF⟩:=bindb hF
     refine AWP.seq ?_
     refine AWP.mid (fun e st H=>(e=.normal∧∃ p,∃ o,a1=(p,o)∧st=[(0,(.vw 0 0 a)),(1,(.sc (.func (.func 99) #[] #[]))),(5,(i64 o)),(6,(i64 f))]∧H=[.cells (cel Za p b)])) ?_ ?_
     ·clear hF
      have hF:=a2
      refine AWP.block (AWP.seq ?_)
      obtain⟨m,u,hF⟩:=bindb hF
      refine AWP.rg [(2,.idxV (Zp u)),(3,.ldV Za (s:=10) (fun _=>rfl) b (Zn u) (0 + Int.toNat f * 10) (Nat.zero_add _) [])] [(0,(.vw 0 0 a)),(1,(.sc (.func (.func 99) #[] #[]))),(5,(i64 d)),(6,(i64 f)),(7,(.ptr 1 0))] [.cells (cel Za j b),.cells (Za m)] (AWP.seq ?_)
      obtain⟨v,a3,hF⟩:=bindb hF
      refine AWP.rg0 [(2,.call Tryz.func99 [] (Zf7 m v a3))] [(0,(.vw 0 0 a)),(1,(.sc (.func (.func 99) #[] #[]))),(5,(i64 d)),(6,(i64 f)),(7,(.ptr 1 0)),(29,(vb (!v)))] ?_
      refine AWP.cif hF (fun a4 hF=>?_) (fun a4 hF=>?_)
      ·refine AWP.seq ?_
       obtain⟨a8,w,hF⟩:=bindb hF
       refine AWP.rg [(3,.idxV (Zp w)),(4,.stV Za (s:=10) (fun _=>rfl) b (Zn w) m (0 + Int.toNat d * 10) (Nat.zero_add _) [])] [(0,(.vw 0 0 a)),(1,(.sc (.func (.func 99) #[] #[]))),(5,(i64 d)),(6,(i64 f))] [.cells (cel Za (List.set j (Int.toNat d) m) b),.cells (Za m)] (AWP.rg0 [] [(0,(.vw 0 0 a)),(1,(.sc (.func (.func 99) #[] #[]))),(5,(i64 (ZI (d + (1:Int))))),(6,(i64 f))] (LeQ.start (LeQ.pk [0,1,5,6] 1 ?_)))
       exact⟨rfl,(List.set j (Int.toNat d) m),(ZI (d + (1:Int))),(someb hF).symm,by kernel_rfl,by kernel_rfl⟩
      ·refine AWP.skip (LeQ.start (LeQ.pk [0,1,5,6] 1 ?_))
       exact⟨rfl,j,d,(someb hF).symm,by kernel_rfl,by kernel_rfl⟩
     ·rintro _ _ _ ⟨rfl,p,o,rfl,rfl,rfl⟩
      refine AWP.rg0 [] [(0,(.vw 0 0 a)),(1,(.sc (.func (.func 99) #[] #[]))),(5,(i64 o)),(6,(i64 (ZI (f + (1:Int)))))] (LeQ.start (LeQ.pk [0,1,5,6] 1 ?_))
      exact⟨q,Nat.lt_succ_self _,p,o,(ZI (f + (1:Int))),hF,by kernel_rfl,by kernel_rfl⟩
    ·refine AWP.exit (LeQ.start (LeQ.pk [0,5] 1 ?_))
     exact⟨rfl,j,d,(someb hF).symm,by kernel_rfl,by kernel_rfl⟩
  ·rintro _ _ _ ⟨rfl,l,g,rfl,rfl,rfl⟩
   refine AWP.seq ?_
   obtain⟨a5,hF⟩:=chkb hF
   obtain⟨a6,hF⟩:=chkb hF
   refine AWP.rg [(2,.sliceV a5),(3,.clrV Za (s:=10) (fun _=>rfl) (fun _=>rfl) b l Zv (lo:=Int.toNat g) (n:=(Int.toNat (a:Int) - Int.toNat g)) a6 (0 + Int.toNat g * 10) (Nat.zero_add _))] [(0,(.vw 0 0 a)),(5,(i64 g))] [.cells (cel Za (List.take (Int.toNat g) l++List.replicate (Int.toNat (a:Int) - Int.toNat g) Zv++List.drop (Int.toNat g + (Int.toNat (a:Int) - Int.toNat g)) l) b)] (AWP.seq ?_)
   obtain⟨a7,hF⟩:=chkb hF
   refine AWP.rg0 [(2,.sliceV a7)] [(4,(.vw 0 0 (Int.toNat g)))] (AWP.ret ?_)
   have hr:=someb hF
   subst hr
   exact(FnQ.f0 1 (.inr rfl))
def Zdn (r:Int):PV→List Blk→Prop:=fun p K=>p=(i64 r)∧K=[]
abbrev Zf8 (r:Int):Exit→St→List Blk→Prop:=FnQ Tryz.prog Tryz.f105.results 0 (Zdn r)
theorem Zf9 (a:ZL) (r:Int) (hF:Zb3 a=some r):ACall Tryz.prog glob 105 [(slc 10 Za a),(.sc (.func (.func 99) #[] #[]))] [] (Zdn r):=by
 refine ACall.body Tryz.func105 rfl (by kernel_rfl) ?_
 unfold Zb3 at hF
 refine AWP.seq (AWP.rg0 [] [(0,(slc 10 Za a)),(1,(.sc (.func (.func 99) #[] #[])))] (AWP.seq (AWP.seq (AWP.rg0 [(1,.len Za a)] [(0,(slc 10 Za a)),(1,(.sc (.func (.func 99) #[] #[]))),(7,(i64 (List.length a:Int))),(8,(i64 (0:Int)))] ?_))))
 obtain⟨c,g,hF⟩:=bindb hF
 refine AWP.mid (fun e st H=>(e=.normal∧c=(.inl ())∧st=[]∧H=[])∨(e=.ret∧∃ r,c=(.inr r)∧Zf8 r e st H)) ?_ ?_
 ·clear hF
  refine AWP.kp [0,1,7,8] 0 ?_
  refine AWP.bround (fun n st H=>∃ b,Za6 a n b=some c∧st=[(0,(slc 10 Za a)),(1,(.sc (.func (.func 99) #[] #[]))),(7,(i64 (List.length a:Int))),(8,(i64 b))]∧H=[]) fuel ⟨(0:Int),g,by kernel_rfl,by kernel_rfl⟩ ?_
  rintro d st H ⟨b,hF,rfl,rfl⟩
  cases d with
  | zero=>exact noneb hF
  | succ d=>
   rw [Za6] at hF
   refine AWP.seq (AWP.rg0 [] [(0,(slc 10 Za a)),(1,(.sc (.func (.func 99) #[] #[]))),(7,(i64 (List.length a:Int))),(8,(i64 b)),(9,(vb (decide (b<(List.length a:Int)))))] (AWP.seq ?_))
   refine AWP.cif hF (fun i hF=>?_) (fun i hF=>?_)
   ·refine AWP.skip (AWP.seq (AWP.block (AWP.seq (AWP.rg0 [] [(0,(slc 10 Za a)),(1,(.sc (.func (.func 99) #[] #[]))),(5,(i64 b)),(7,(i64 (List.length a:Int))),(8,(i64 b))] (AWP.seq ?_)))))
    obtain⟨j,k,hF⟩:=bindb hF
    obtain⟨f,l,hF⟩:=bindb hF
    refine AWP.rg0 [(3,.idx Za k),(5,.call Tryz.func99 [] (Zf7 j f l))] [(0,(slc 10 Za a)),(1,(.sc (.func (.func 99) #[] #[]))),(5,(i64 b)),(7,(i64 (List.length a:Int))),(8,(i64 b)),(16,(vb f))] ?_
    refine AWP.cif hF (fun m hF=>?_) (fun m hF=>?_)
    ·refine AWP.seq (AWP.rg0 [] [(4,(i64 b))] (AWP.ret ?_))
     exact LeQ.of (.inr ⟨rfl,b,(someb hF).symm,(FnQ.f0 0 (.inr rfl))⟩)
    ·refine AWP.skip (AWP.rg0 [] [(0,(slc 10 Za a)),(1,(.sc (.func (.func 99) #[] #[]))),(7,(i64 (List.length a:Int))),(8,(i64 (ZI (b + (1:Int)))))] (LeQ.start (LeQ.pk [0,1,7,8] 0 ?_)))
     exact⟨d,Nat.lt_succ_self _,(ZI (b + (1:Int))),hF,by kernel_rfl,by kernel_rfl⟩
   ·refine AWP.exit (LeQ.start (LeQ.pk [] 0 ?_))
    exact(.inl ⟨rfl,(someb hF).symm,by kernel_rfl,by kernel_rfl⟩)
 ·rintro _ _ _ (⟨rfl,rfl,rfl,rfl⟩ | ⟨rfl,o,rfl,hq⟩)
  ·refine AWP.seq (AWP.rg0 [] [(4,(i64 (-1:Int)))] (AWP.ret ?_))
   have hr:=someb hF
   subst hr
   exact(FnQ.f0 0 (.inr rfl))
  ·have hr:=someb hF
   subst hr
   exact hq
def Zfm (r:ZL):PV→List Blk→Prop:=fun p K=>p=(slc 10 Za r)∧K=[]
theorem Zfn (r:ZL) (hF:Zbq=some r):ACall Tryz.prog glob 97 [(slc 10 Za ([]:ZL)),(.sc (.func (.func 99) #[] #[]))] [] (Zfm r):=by
 refine ACall.body Tryz.func97 rfl (by kernel_rfl) ?_
 unfold Zbq at hF
 refine AWP.seq (AWP.rg0 [] [(0,(slc 10 Za ([]:ZL))),(1,(.sc (.func (.func 99) #[] #[])))] (AWP.seq ?_))
 obtain⟨c,j,hF⟩:=bindb hF
 refine AWP.rg0 [(2,.call Tryz.func105 [] (Zf9 ([]:ZL) c j))] [(0,(slc 10 Za ([]:ZL))),(1,(.sc (.func (.func 99) #[] #[]))),(5,(i64 c))] (AWP.seq (AWP.seq (AWP.rg0 [] [(0,(slc 10 Za ([]:ZL))),(1,(.sc (.func (.func 99) #[] #[]))),(5,(i64 c)),(12,(vb (c == (-1:Int))))] ?_)))
 refine AWP.cif hF (fun k hF=>?_) (fun k hF=>?_)
 ·refine AWP.seq (AWP.rg0 [] [(4,(slc 10 Za ([]:ZL)))] (AWP.ret ?_))
  have hr:=someb hF
  subst hr
  exact(FnQ.f0 0 (.inr rfl))
 ·refine AWP.skip (AWP.seq (AWP.seq (AWP.rg0 [] [(0,(slc 10 Za ([]:ZL))),(1,(.sc (.func (.func 99) #[] #[]))),(5,(i64 c)),(6,(i64 (ZI (c + (1:Int)))))] ?_)))
  obtain⟨f,l,hF⟩:=bindb hF
  refine AWP.mid (fun e st H=>e=.normal∧st=[(0,(slc 10 Za ([]:ZL))),(5,(i64 f))]∧H=[]) ?_ ?_
  ·clear hF
   refine AWP.kp [0,1,5,6] 0 ?_
   refine AWP.bround (fun n st H=>∃ b,∃ a,Zay n b a=some f∧st=[(0,(slc 10 Za ([]:ZL))),(1,(.sc (.func (.func 99) #[] #[]))),(5,(i64 b)),(6,(i64 a))]∧H=[]) fuel ⟨c,(ZI (c + (1:Int))),l,by kernel_rfl,by kernel_rfl⟩ ?_
   rintro d st H ⟨b,a,hF,rfl,rfl⟩
   cases d with
   | zero=>exact noneb hF
   | succ d=>
    rw [Zay] at hF
    refine AWP.seq (AWP.seq (AWP.rg0 [(2,.len Za ([]:ZL))] [(0,(slc 10 Za ([]:ZL))),(1,(.sc (.func (.func 99) #[] #[]))),(5,(i64 b)),(6,(i64 a)),(19,(vb (decide (a<(List.length ([]:ZL):Int)))))] ?_))
    refine AWP.cif hF (fun m hF=>?_) (fun m hF=>?_)
    ·refine AWP.skip ?_
     obtain⟨o,p,hF⟩:=bindb hF
     refine AWP.seq ?_
     refine AWP.mid (fun e st H=>(e=.normal∧o=()∧st=[(0,(slc 10 Za ([]:ZL))),(1,(.sc (.func (.func 99) #[] #[]))),(5,(i64 b)),(6,(i64 a))]∧H=[])) ?_ ?_
     ·clear hF
      have hF:=p
      refine AWP.block (AWP.seq ?_)
      obtain⟨g,q,hF⟩:=bindb hF
      refine AWP.rg [(2,.idx Za q)] [(0,(slc 10 Za ([]:ZL))),(1,(.sc (.func (.func 99) #[] #[]))),(5,(i64 b)),(6,(i64 a)),(7,(.ptr 0 0))] [.cells (Za g)] (AWP.seq ?_)
      obtain⟨i,s,hF⟩:=bindb hF
      refine AWP.rg0 [(2,.call Tryz.func99 [] (Zf7 g i s))] [(0,(slc 10 Za ([]:ZL))),(1,(.sc (.func (.func 99) #[] #[]))),(5,(i64 b)),(6,(i64 a)),(7,(.ptr 0 0)),(29,(vb (!i)))] ?_
      refine AWP.cif hF (fun t hF=>?_) (fun t hF=>?_)
      ·refine AWP.seq ?_
       exact noneb hF
      ·refine AWP.skip (LeQ.start (LeQ.pk [0,1,5,6] 0 ?_))
       exact⟨rfl,(someb hF).symm,by kernel_rfl,by kernel_rfl⟩
     ·rintro _ _ _ ⟨rfl,rfl,rfl,rfl⟩
      refine AWP.rg0 [] [(0,(slc 10 Za ([]:ZL))),(1,(.sc (.func (.func 99) #[] #[]))),(5,(i64 b)),(6,(i64 (ZI (a + (1:Int)))))] (LeQ.start (LeQ.pk [0,1,5,6] 0 ?_))
      exact⟨d,Nat.lt_succ_self _,b,(ZI (a + (1:Int))),hF,by kernel_rfl,by kernel_rfl⟩
    ·refine AWP.exit (LeQ.start (LeQ.pk [0,5] 0 ?_))
     have hr:=someb hF
     subst hr
     exact⟨rfl,by kernel_rfl,by kernel_rfl⟩
  ·rintro _ _ _ ⟨rfl,rfl,rfl⟩
   refine AWP.seq ?_
   exact noneb hF
def Zou (r:ZL):PV→List Blk→Prop:=fun p K=>p=(slc 10 Za r)∧K=[]
theorem Zib (a:ZL) (r:ZL) (hF:Zev a=some r):ACall Tryz.prog glob 85 [(slc 10 Za a)] [] (Zou r):=by
 refine ACall.body Tryz.func85 rfl (by kernel_rfl) ?_
 unfold Zev at hF
 refine AWP.seq (AWP.rg0 [] [(0,(slc 10 Za a))] (AWP.seq ?_))
 obtain⟨c,hF⟩:=chkb hF
 obtain⟨b,d,hF⟩:=bindb hF
 refine AWP.rg [(1,.clone Tryz.func98 Za (fun _=>by kernel_rfl) c),(2,.callBE (s:=10) Za Tryz.func97 (fun _=>rfl) d (fun h sp_=>Zge (List.length a) a sp_ _ h) (fun h=>Zfn _ h))] [(2,(slc 10 Za (List.take b.1 b.2)))] [bf 10 59 Za b.2 true] (AWP.ret ?_)
 have hr:=someb hF
 subst hr
 exact(FnQ.f0 0 (.inr rfl))
def Zov (r:ZL):PV→List Blk→Prop:=fun p K=>p=(slc 10 Za r)∧K=[]
theorem Zow (c:Int) (b:ZL) (r:ZL) (hF:Zfs c b=some r):ACall Tryz.prog glob 101 [(i64 c),(slc 10 Za b)] [] (Zov r):=by
 refine ACall.body Tryz.func101 rfl (by kernel_rfl) ?_
 unfold Zfs at hF
 refine AWP.seq (AWP.rg0 [] [(0,(i64 c)),(1,(slc 10 Za b))] (AWP.seq ?_))
 obtain⟨v,hF⟩:=chkb hF
 refine AWP.rg [(1,.clone Tryz.func98 Za (fun _=>by kernel_rfl) v)] [(0,(i64 c)),(5,(.own 0 (List.length b)))] [bf 10 59 Za b false] (AWP.seq (AWP.seq (AWP.rg0 [(1,.len Za b)] [(0,(i64 c)),(5,(.own 0 (List.length b))),(11,(i64 (List.length b:Int))),(12,(i64 (0:Int)))] ?_)))
 obtain⟨j,w,hF⟩:=bindb hF
 refine AWP.mid (fun e st H=>e=.normal∧st=[(5,(.own 0 (List.length j)))]∧H=[bf 10 59 Za j false]) ?_ ?_
 ·clear hF
  refine AWP.kp [0,5,11,12] 1 ?_
  refine AWP.bround (fun n st H=>∃ g,∃ a,Zc2 c b n g a=some j∧st=[(0,(i64 c)),(5,(.own 0 (List.length g))),(11,(i64 (List.length b:Int))),(12,(i64 a))]∧H=[bf 10 59 Za g false]) fuel ⟨b,(0:Int),w,by kernel_rfl,by kernel_rfl⟩ ?_
  rintro o st H ⟨g,a,hF,rfl,rfl⟩
  cases o with
  | zero=>exact noneb hF
  | succ o=>
   rw [Zc2] at hF
   refine AWP.seq (AWP.rg0 [] [(0,(i64 c)),(5,(.own 0 (List.length g))),(11,(i64 (List.length b:Int))),(12,(i64 a)),(13,(vb (decide (a<(List.length b:Int)))))] (AWP.seq ?_))
   refine AWP.cif hF (fun x hF=>?_) (fun x hF=>?_)
   ·refine AWP.skip (AWP.seq (AWP.block (AWP.seq (AWP.rg0 [] [(0,(i64 c)),(5,(.own 0 (List.length g))),(6,(i64 a)),(11,(i64 (List.length b:Int))),(12,(i64 a))] (AWP.seq (AWP.rg0 [] [(0,(i64 c)),(5,(.own 0 (List.length g))),(6,(i64 a)),(7,(i64 (0:Int))),(11,(i64 (List.length b:Int))),(12,(i64 a))] ?_))))))
    obtain⟨k,y,hF⟩:=bindb hF
    refine AWP.mid (fun e st H=>e=.normal∧st=[(0,(i64 c)),(5,(.own 0 (List.length k))),(11,(i64 (List.length b:Int))),(12,(i64 a))]∧H=[bf 10 59 Za k false]) ?_ ?_
    ·clear hF
     refine AWP.kp [0,5,6,7,11,12] 1 ?_
     refine AWP.bround (fun n st H=>∃ f,∃ d,Zbl c a n f d=some k∧st=[(0,(i64 c)),(5,(.own 0 (List.length f))),(6,(i64 a)),(7,(i64 d)),(11,(i64 (List.length b:Int))),(12,(i64 a))]∧H=[bf 10 59 Za f false]) fuel ⟨g,(0:Int),y,by kernel_rfl,by kernel_rfl⟩ ?_
     rintro p st H ⟨f,d,hF,rfl,rfl⟩
     cases p with
     | zero=>exact noneb hF
     | succ p=>
      rw [Zbl] at hF
      refine AWP.seq (AWP.seq (AWP.rg0 [] [(0,(i64 c)),(5,(.own 0 (List.length f))),(6,(i64 a)),(7,(i64 d)),(11,(i64 (List.length b:Int))),(12,(i64 a)),(17,(vb (decide (d≤c))))] ?_))
      refine AWP.cif hF (fun z hF=>?_) (fun z hF=>?_)
      ·refine AWP.skip (AWP.seq (AWP.block ?_))
       obtain⟨m,q,hF⟩:=bindb hF
       obtain⟨u,hF⟩:=chkb hF
       refine AWP.rg [(4,.idx Za q),(5,.ixE Za f a u),(6,.stEd Za q (fun a0=>(Arr5.set m a0 (Zb.mk (0:Int) (0:Int)))) 0 2 0 u)] [(0,(i64 c)),(5,(.own 0 (List.length f))),(6,(i64 a)),(7,(i64 d)),(11,(i64 (List.length b:Int))),(12,(i64 a))] [bf 10 59 Za (List.set f (Int.toNat a) (Arr5.set m d (Zb.mk (0:Int) (0:Int)))) false] ?_
       rw [show ([(0,(i64 c)),(5,(.own 0 (List.length f))),(6,(i64 a)),(7,(i64 d)),(11,(i64 (List.length b:Int))),(12,(i64 a))]:St)=[(0,(i64 c)),(5,(.own 0 (List.length (List.set f (Int.toNat a) (Arr5.set m d (Zb.mk (0:Int) (0:Int))))))),(6,(i64 a)),(7,(i64 d)),(11,(i64 (List.length b:Int))),(12,(i64 a))] by simp only [List.length_set]]
       refine AWP.rg0 [] [(0,(i64 c)),(5,(.own 0 (List.length (List.set f (Int.toNat a) (Arr5.set m d (Zb.mk (0:Int) (0:Int))))))),(6,(i64 a)),(7,(i64 (ZI (d + (1:Int))))),(11,(i64 (List.length b:Int))),(12,(i64 a))] (LeQ.start (LeQ.pk [0,5,6,7,11,12] 1 ?_))
       exact⟨p,Nat.lt_succ_self _,(List.set f (Int.toNat a) (Arr5.set m d (Zb.mk (0:Int) (0:Int)))),(ZI (d + (1:Int))),hF,by kernel_rfl,by kernel_rfl⟩
      ·refine AWP.exit (LeQ.start (LeQ.pk [0,5,11,12] 1 ?_))
       have hr:=someb hF
       subst hr
       exact⟨rfl,by kernel_rfl,by kernel_rfl⟩
    ·rintro _ _ _ ⟨rfl,rfl,rfl⟩
     refine AWP.rg0 [] [(0,(i64 c)),(5,(.own 0 (List.length k))),(11,(i64 (List.length b:Int))),(12,(i64 (ZI (a + (1:Int)))))] (LeQ.start (LeQ.pk [0,5,11,12] 1 ?_))
     exact⟨o,Nat.lt_succ_self _,k,(ZI (a + (1:Int))),hF,by kernel_rfl,by kernel_rfl⟩
   ·refine AWP.exit (LeQ.start (LeQ.pk [5] 1 ?_))
    have hr:=someb hF
    subst hr
    exact⟨rfl,by kernel_rfl,by kernel_rfl⟩
 ·rintro _ _ _ ⟨rfl,rfl,rfl⟩
  refine AWP.seq (AWP.rg0 [] [(4,(.own 0 (List.length j)))] (AWP.ret ?_))
  have hr:=someb hF
  subst hr
  exact(FnQ.f1 0 (.inr rfl) (.inl (Wk.ownT (i:=0) (s:=10) (t:=59) (l:=j) (sh:=false) (row:=Za) (by kernel_rfl) (.inl rfl))))
def Zgo (r:Bool):PV→List Blk→Prop:=fun p K=>p=(vb r)∧K=[]
abbrev Zjb (r:Bool):Exit→St→List Blk→Prop:=FnQ Tryz.prog Tryz.f102.results 0 (Zgo r)
theorem Zgp (a:ZL) (b:ZL) (r:Bool) (hF:Zbe a b=some r):ACall Tryz.prog glob 102 [(slc 10 Za a),(slc 10 Za b)] [] (Zgo r):=by
 refine ACall.body Tryz.func102 rfl (by kernel_rfl) ?_
 unfold Zbe at hF
 refine AWP.seq (AWP.rg0 [] [(0,(slc 10 Za a)),(1,(slc 10 Za b))] (AWP.seq (AWP.seq (AWP.rg0 [(1,.len Za a),(3,.len Za b)] [(0,(slc 10 Za a)),(1,(slc 10 Za b)),(10,(vb ((List.length a:Int) != (List.length b:Int))))] ?_))))
 refine AWP.cif hF (fun g hF=>?_) (fun g hF=>?_)
 ·refine AWP.seq (AWP.rg0 [] [(4,(vb false))] (AWP.ret ?_))
  have hr:=someb hF
  subst hr
  exact(FnQ.f0 0 (.inr rfl))
 ·refine AWP.skip (AWP.seq (AWP.seq (AWP.rg0 [(1,.len Za a)] [(0,(slc 10 Za a)),(1,(slc 10 Za b)),(12,(i64 (List.length a:Int))),(13,(i64 (0:Int)))] ?_)))
  obtain⟨d,i,hF⟩:=bindb hF
  refine AWP.mid (fun e st H=>(e=.normal∧d=(.inl ())∧st=[]∧H=[])∨(e=.ret∧∃ r,d=(.inr r)∧Zjb r e st H)) ?_ ?_
  ·clear hF
   refine AWP.kp [0,1,12,13] 0 ?_
   refine AWP.bround (fun n st H=>∃ c,Za1 a b n c=some d∧st=[(0,(slc 10 Za a)),(1,(slc 10 Za b)),(12,(i64 (List.length a:Int))),(13,(i64 c))]∧H=[]) fuel ⟨(0:Int),i,by kernel_rfl,by kernel_rfl⟩ ?_
   rintro f st H ⟨c,hF,rfl,rfl⟩
   cases f with
   | zero=>exact noneb hF
   | succ f=>
    rw [Za1] at hF
    refine AWP.seq (AWP.rg0 [] [(0,(slc 10 Za a)),(1,(slc 10 Za b)),(12,(i64 (List.length a:Int))),(13,(i64 c)),(14,(vb (decide (c<(List.length a:Int)))))] (AWP.seq ?_))
    refine AWP.cif hF (fun j hF=>?_) (fun j hF=>?_)
    ·refine AWP.skip (AWP.seq (AWP.block (AWP.seq (AWP.rg0 [] [(0,(slc 10 Za a)),(1,(slc 10 Za b)),(5,(i64 c)),(12,(i64 (List.length a:Int))),(13,(i64 c))] (AWP.seq ?_)))))
     obtain⟨k,l,hF⟩:=bindb hF
     obtain⟨m,o,hF⟩:=bindb hF
     refine AWP.dr [(2,.idx Za l),(6,.idx Za o)] 9 [] [] [] [(0,(slc 10 Za a)),(1,(slc 10 Za b)),(12,(i64 (List.length a:Int))),(13,(i64 c)),(24,(vb (!(Zfb k m))))] [] ?_
     refine AWP.cif hF (fun p hF=>?_) (fun p hF=>?_)
     ·refine AWP.seq (AWP.rg0 [] [(4,(vb false))] (AWP.ret ?_))
      exact LeQ.of (.inr ⟨rfl,false,(someb hF).symm,(FnQ.f0 0 (.inr rfl))⟩)
     ·refine AWP.skip (AWP.rg0 [] [(0,(slc 10 Za a)),(1,(slc 10 Za b)),(12,(i64 (List.length a:Int))),(13,(i64 (ZI (c + (1:Int)))))] (LeQ.start (LeQ.pk [0,1,12,13] 0 ?_)))
      exact⟨f,Nat.lt_succ_self _,(ZI (c + (1:Int))),hF,by kernel_rfl,by kernel_rfl⟩
    ·refine AWP.exit (LeQ.start (LeQ.pk [] 0 ?_))
     exact(.inl ⟨rfl,(someb hF).symm,by kernel_rfl,by kernel_rfl⟩)
  ·rintro _ _ _ (⟨rfl,rfl,rfl,rfl⟩ | ⟨rfl,q,rfl,hq⟩)
   ·refine AWP.seq (AWP.rg0 [] [(4,(vb true))] (AWP.ret ?_))
    have hr:=someb hF
    subst hr
    exact(FnQ.f0 0 (.inr rfl))
   ·have hr:=someb hF
    subst hr
    exact hq
def Zhf (r:Bool):PV→List Blk→Prop:=fun p K=>p=(vb r)∧K=[]
abbrev Zjr (r:Bool):Exit→St→List Blk→Prop:=FnQ Tryz.prog Tryz.f86.results 0 (Zhf r)
theorem Zme:∀(nr:Nat) (a:Int) (g:ZL) (r:Bool) (hF:Zbi nr a g=some r),ACall Tryz.prog glob 86 [(i64 a),(slc 10 Za g)] [] (Zhf r):=by
 intro nr
 induction nr with
 | zero=>intro a g r hF; exact noneb (by rw [Zbi] at hF; exact hF)
 | succ nr ih=>
  intro a g r hF
  refine ACall.body Tryz.func86 rfl (by kernel_rfl) ?_
  rw [Zbi] at hF
  refine AWP.seq (AWP.rg0 [] [(0,(i64 a)),(1,(slc 10 Za g))] (AWP.seq (AWP.seq (AWP.rg0 [] [(0,(i64 a)),(1,(slc 10 Za g)),(9,(vb (a == (5:Int))))] ?_))))
  refine AWP.cif hF (fun a4 hF=>?_) (fun a4 hF=>?_)
  ·refine AWP.seq (AWP.rg0 [(1,.len Za g)] [(4,(vb (decide ((List.length g:Int)≤(1:Int)))))] (AWP.ret ?_))
   have hr:=someb hF
   subst hr
   exact(FnQ.f0 0 (.inr rfl))
  ·refine AWP.skip (AWP.seq (AWP.rg [] [(0,(i64 a)),(1,(slc 10 Za g)),(5,(.ptr 0 0))] [.cells (Zl Zfo)] (AWP.seq ?_)))
   obtain⟨s,a5,hF⟩:=bindb hF
   refine AWP.mid (fun e st H=>(e=.normal∧∃ t,s=(.inl t)∧st=[]∧H=[.cells (Zl t)])∨(e=.ret∧∃ r,s=(.inr r)∧Zjr r e st H)) ?_ ?_
   ·clear hF
    refine AWP.kp [0,1,5] 1 ?_
    refine AWP.bround (fun n st H=>∃ c,∃ b,Zbw a (Zbi nr) n c b=some s∧st=[(0,(i64 a)),(1,(slc 10 Za b)),(5,(.ptr 0 0))]∧H=[.cells (Zl c)]) fuel ⟨Zfo,g,a5,by kernel_rfl,by kernel_rfl⟩ ?_
    rintro u st H ⟨c,b,hF,rfl,rfl⟩
    cases u with
    | zero=>exact noneb hF
    | succ u=>
     rw [Zbw] at hF
     refine AWP.seq (AWP.seq (AWP.rg0 [(1,.len Za b)] [(0,(i64 a)),(1,(slc 10 Za b)),(5,(.ptr 0 0)),(15,(vb (decide ((List.length b:Int) > (0:Int)))))] ?_))
     refine AWP.cif hF (fun a6 hF=>?_) (fun a6 hF=>?_)
     ·refine AWP.skip (AWP.block (AWP.seq (AWP.rg0 [] [(0,(i64 a)),(1,(slc 10 Za b)),(5,(.ptr 0 0)),(6,(i64 (1:Int)))] (AWP.seq ?_))))
      obtain⟨d,a7,hF⟩:=bindb hF
      refine AWP.mid (fun e st H=>e=.normal∧st=[(0,(i64 a)),(1,(slc 10 Za b)),(5,(.ptr 0 0)),(6,(i64 d))]∧H=[.cells (Zl c)]) ?_ ?_
      ·clear hF
       refine AWP.kp [0,1,5,6] 1 ?_
       refine AWP.bround (fun n st H=>∃ l,Zcg a b n l=some d∧st=[(0,(i64 a)),(1,(slc 10 Za b)),(5,(.ptr 0 0)),(6,(i64 l))]∧H=[.cells (Zl c)]) fuel ⟨(1:Int),a7,by kernel_rfl,by kernel_rfl⟩ ?_
       rintro v st H ⟨l,hF,rfl,rfl⟩
       cases v with
       | zero=>exact noneb hF
       | succ v=>
        rw [Zcg] at hF
        refine AWP.seq (AWP.seq ?_)
        obtain⟨a8,p,hF⟩:=bindb hF
        replace p:=someb p
        obtain⟨a9,w,hF⟩:=bindb hF
        refine AWP.to [(0,(i64 a)),(1,(slc 10 Za b)),(5,(.ptr 0 0)),(6,(i64 l)),(33,(vb a9))] [.cells (Zl c)] ?_ ?_
        ·cases a8 with
         | false=>
          have b0:=someb (ifF w rfl)
          subst b0
          exact AWP.drT [(2,.len Za b),(4,.bool p)] 18 [] [] []
         | true=>
          have f:=ifT w rfl
          obtain⟨b1,b2,f⟩:=bindb f
          obtain⟨x,f⟩:=chkb f
          obtain⟨b3,b4,f⟩:=bindb f
          obtain⟨y,f⟩:=chkb f
          replace f:=someb f
          subst f
          exact AWP.drT [(2,.len Za b),(4,.bool p),(8,.idx Za b2),(9,.ixd x),(10,.ldA Zh (Arr5.get b1) 0 2 0 x),(13,.idx Za b4),(14,.ixd y),(15,.ldA Zh (Arr5.get b3) 0 2 0 y)] 18 [] [] []
        refine AWP.cif hF (fun b5 hF=>?_) (fun b5 hF=>?_)
        ·refine AWP.skip (AWP.block (AWP.rg0 [] [(0,(i64 a)),(1,(slc 10 Za b)),(5,(.ptr 0 0)),(6,(i64 (ZI (l + (1:Int)))))] (LeQ.start (LeQ.pk [0,1,5,6] 1 ?_))))
         exact⟨v,Nat.lt_succ_self _,(ZI (l + (1:Int))),hF,by kernel_rfl,by kernel_rfl⟩
        ·refine AWP.exit (LeQ.start (LeQ.pk [0,1,5,6] 1 ?_))
         have hr:=someb hF
         subst hr
         exact⟨rfl,by kernel_rfl,by kernel_rfl⟩
      ·rintro _ _ _ ⟨rfl,rfl,rfl⟩
       refine AWP.seq ?_
       obtain⟨j,b6,hF⟩:=bindb hF
       obtain⟨z,hF⟩:=chkb hF
       obtain⟨b7,hF⟩:=chkb hF
       obtain⟨i,b8,hF⟩:=bindb hF
       refine AWP.dr [(2,.idx Za b6),(3,.ixd z),(4,.ldA Zh (Arr5.get j) 0 2 0 z),(8,.slice Za b b7),(9,.call Tryz.func101 [] (Zow a (List.drop (Int.toNat (0:Int)) (List.take (Int.toNat d) b)) i b8))] 12 [] [11] [] [(0,(i64 a)),(1,(slc 10 Za b)),(5,(.ptr 0 0)),(6,(i64 d)),(7,(.ptr 1 0))] [.cells (Zl c),.cells (Zl (Zm.mk (Arr5.get j a) i))] (AWP.seq (AWP.seq ?_))
       obtain⟨b9,hF⟩:=chkb hF
       obtain⟨a0,c0,hF⟩:=bindb hF
       refine AWP.rg0 [(4,.slice Za b b9),(5,.call Tryz.func86 [] (ih (ZI (a + (1:Int))) (List.drop (Int.toNat (0:Int)) (List.take (Int.toNat d) b)) a0 c0))] [(0,(i64 a)),(1,(slc 10 Za b)),(5,(.ptr 0 0)),(6,(i64 d)),(7,(.ptr 1 0)),(53,(vb (!a0)))] ?_
       refine AWP.cif hF (fun c1 hF=>?_) (fun c1 hF=>?_)
       ·refine AWP.seq (AWP.rg0 [] [(4,(vb false))] (AWP.ret ?_))
        exact LeQ.of (.inr ⟨rfl,false,(someb hF).symm,(FnQ.f0 0 (.inr rfl))⟩)
       ·refine AWP.skip ?_
        obtain⟨a1,c2,hF⟩:=bindb hF
        refine AWP.seq ?_
        refine AWP.mid (fun e st H=>(e=.normal∧a1=(.inl ())∧st=[(0,(i64 a)),(1,(slc 10 Za b)),(5,(.ptr 0 0)),(6,(i64 d)),(7,(.ptr 1 0))]∧H=[.cells (Zl c),.cells (Zl (Zm.mk (Arr5.get j a) i))])∨(e=.ret∧∃ r,a1=(.inr r)∧Zjr r e st H)) ?_ ?_
        ·clear hF
         have hF:=c2
         refine AWP.seq (AWP.rg0 [(2,.len Za c.f_rest)] [(0,(i64 a)),(1,(slc 10 Za b)),(5,(.ptr 0 0)),(6,(i64 d)),(7,(.ptr 1 0)),(57,(vb (decide ((List.length c.f_rest:Int) > (0:Int)))))] ?_)
         refine AWP.cif hF (fun c3 hF=>?_) (fun c3 hF=>?_)
         ·refine AWP.seq ?_
          obtain⟨c4,m,hF⟩:=bindb hF
          replace m:=someb m
          obtain⟨c5,a2,hF⟩:=bindb hF
          refine AWP.to [(0,(i64 a)),(1,(slc 10 Za b)),(5,(.ptr 0 0)),(6,(i64 d)),(7,(.ptr 1 0)),(81,(vb c5))] [.cells (Zl c),.cells (Zl (Zm.mk (Arr5.get j a) i))] ?_ ?_
          ·cases c4 with
           | false=>
            have k:=ifF a2 rfl
            obtain⟨c6,q,k⟩:=bindb k
            replace q:=someb q
            obtain⟨d4,a3,k⟩:=bindb k
            replace k:=someb k
            subst k
            cases c6 with
            | false=>
             have c7:=someb (ifF a3 rfl)
             subst c7
             exact AWP.rgT [(7,.bool m),(16,.bool q)]
            | true=>
             have o:=ifT a3 rfl
             obtain⟨c8,c9,o⟩:=bindb o
             replace o:=someb o
             subst o
             exact AWP.rgT [(7,.bool m),(16,.bool q),(21,.call Tryz.func102 [] (Zgp i c.f_rest c8 c9))]
           | true=>
            have d0:=someb (ifT a2 rfl)
            subst d0
            exact AWP.rgT [(7,.bool m)]
          refine AWP.cif hF (fun d1 hF=>?_) (fun d1 hF=>?_)
          ·refine AWP.seq (AWP.rg0 [] [(4,(vb false))] (AWP.ret ?_))
           exact LeQ.of (.inr ⟨rfl,false,(someb hF).symm,(FnQ.f0 0 (.inr rfl))⟩)
          ·refine AWP.skip (LeQ.start (LeQ.pk [0,1,5,6,7] 2 ?_))
           exact(.inl ⟨rfl,(someb hF).symm,by kernel_rfl,by kernel_rfl⟩)
         ·refine AWP.skip (LeQ.start (LeQ.pk [0,1,5,6,7] 2 ?_))
          exact(.inl ⟨rfl,(someb hF).symm,by kernel_rfl,by kernel_rfl⟩)
        ·rintro _ _ _ (⟨rfl,rfl,rfl,rfl⟩ | ⟨rfl,d2,rfl,hq⟩)
         ·obtain⟨d3,hF⟩:=chkb hF
          refine AWP.dr [(3,.slice Za b d3)] 5 [] [4] [] [(0,(i64 a)),(1,(slc 10 Za (List.drop (Int.toNat d) (List.take (Int.toNat (List.length b:Int)) b)))),(5,(.ptr 0 0))] [.cells (Zl (Zm.mk (Arr5.get j a) i)),.cells (Zl (Zm.mk (Arr5.get j a) i))] (LeQ.start (LeQ.pk [0,1,5] 1 ?_))
          exact⟨u,Nat.lt_succ_self _,(Zm.mk (Arr5.get j a) i),(List.drop (Int.toNat d) (List.take (Int.toNat (List.length b:Int)) b)),hF,by kernel_rfl,by kernel_rfl⟩
         ·exact LeQ.of (.inr ⟨rfl,d2,(someb hF).symm,hq⟩)
     ·refine AWP.exit (LeQ.start (LeQ.pk [] 1 ?_))
      exact(.inl ⟨rfl,c,(someb hF).symm,by kernel_rfl,by kernel_rfl⟩)
   ·rintro _ _ _ (⟨rfl,t,rfl,rfl,rfl⟩ | ⟨rfl,d5,rfl,hq⟩)
    ·refine AWP.seq (AWP.rg0 [] [(4,(vb true))] (AWP.ret ?_))
     have hr:=someb hF
     subst hr
     exact(FnQ.f0 0 (.inr rfl))
    ·have hr:=someb hF
     subst hr
     exact hq
theorem Zna (a:Int) (b:ZL) (r:Bool) (hF:Zbi fuel a b=some r):ACall Tryz.prog glob 86 [(i64 a),(slc 10 Za b)] [] (Zhf r):=Zme fuel a b r hF
def Zox (r:Bool):PV→List Blk→Prop:=fun p K=>p=(vb r)∧K=[]
theorem Zoy (a:ZL) (r:Bool) (hF:Zew a=some r):ACall Tryz.prog glob 54 [(slc 10 Za a)] [] (Zox r):=by
 refine ACall.body Tryz.func54 rfl (by kernel_rfl) ?_
 unfold Zew at hF
 refine AWP.seq (AWP.rg0 [] [(0,(slc 10 Za a))] (AWP.seq ?_))
 obtain⟨b1,b,hF⟩:=bindb hF
 replace b:=someb b
 obtain⟨t,j,hF⟩:=bindb hF
 obtain⟨l,c,hF⟩:=bindb hF
 replace c:=someb c
 obtain⟨m,i,hF⟩:=bindb hF
 refine AWP.to [(2,(vb m))] [] ?_ ?_
 ·cases b1 with
  | false=>
   have n:=someb (ifF j rfl)
   subst n
   subst c
   have o:=someb (ifF i rfl)
   subst o
   exact AWP.rgT [(1,.len Za a),(3,.bool b)]
  | true=>
   have d:=ifT j rfl
   obtain⟨g,k,d⟩:=bindb d
   replace d:=someb d
   subst d
   cases l with
   | false=>
    have p:=someb (ifF i rfl)
    subst p
    exact AWP.rgT [(1,.len Za a),(3,.bool b),(5,.call Tryz.func85 [] (Zib a g k)),(6,.len Za g),(8,.len Za a),(11,.bool c)]
   | true=>
    have f:=ifT i rfl
    obtain⟨q,s,f⟩:=bindb f
    replace f:=someb f
    subst f
    exact AWP.rgT [(1,.len Za a),(3,.bool b),(5,.call Tryz.func85 [] (Zib a g k)),(6,.len Za g),(8,.len Za a),(11,.bool c),(13,.call Tryz.func86 [] (Zna (0:Int) a q s))]
 refine AWP.ret ?_
 have hr:=someb hF
 subst hr
 exact(FnQ.f0 0 (.inr rfl))
def Znu (r:Bool):PV→List Blk→Prop:=fun p K=>p=(vb r)∧K=[]
theorem Zj6 (c:Bool) (a:Bool) (r:Bool) (hF:Zec c a=some r):ACall Tryz.prog glob 88 [(vb c),(vb a)] [] (Znu r):=by
 refine ACall.body Tryz.func88 rfl (by kernel_rfl) ?_
 unfold Zec at hF
 refine AWP.seq (AWP.rg0 [] [(0,(vb c)),(1,(vb a))] (AWP.seq ?_))
 obtain⟨b1,b,hF⟩:=bindb hF
 replace b:=someb b
 refine AWP.to [(4,(vb (b1 || a)))] [] ?_ ?_
 ·cases b1 with
  | false=>
   exact AWP.rgT [(1,.bool b)]
  | true=>
   exact AWP.rgT [(1,.bool b)]
 refine AWP.ret ?_
 have hr:=someb hF
 subst hr
 exact(FnQ.f0 0 (.inr rfl))
def Zyn (r:Int):PV→List Blk→Prop:=fun p K=>p=(u32 r)∧K=[]
theorem Zyo (a:Int) (r:Int) (hF:Zk9 a=some r):ACall Tryz.prog glob 108 [(i64 a)] [] (Zyn r):=by
 refine ACall.body Tryz.func108 rfl (by kernel_rfl) ?_
 unfold Zk9 at hF
 refine AWP.seq (AWP.rg0 [] [(0,(i64 a))] (AWP.seq (AWP.seq ?_)))
 obtain⟨b1,b,hF⟩:=bindb hF
 replace b:=someb b
 refine AWP.to [(0,(i64 a)),(8,(vb (b1 || (decide (a ≥ (5:Int))))))] [] ?_ ?_
 ·cases b1 with
  | false=>
   exact AWP.rgT [(2,.bool b)]
  | true=>
   exact AWP.rgT [(2,.bool b)]
 refine AWP.cif hF (fun d hF=>?_) (fun d hF=>?_)
 ·refine AWP.seq (AWP.rg0 [] [(2,(u32 (0:Int)))] (AWP.ret ?_))
  have hr:=someb hF
  subst hr
  exact(FnQ.f0 0 (.inr rfl))
 ·refine AWP.skip (AWP.seq ?_)
  obtain⟨c,hF⟩:=chkb hF
  refine AWP.rg0 [(1,.ixd c),(2,.ldA Zet (Arr5.get Zd6) 0 1 0 c)] [(2,(u32 (Arr5.get Zd6 a)))] (AWP.ret ?_)
  have hr:=someb hF
  subst hr
  exact(FnQ.f0 0 (.inr rfl))
end Go.AM

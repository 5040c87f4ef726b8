/- Parts of a proof, printed short. No condition. -/
import Derived.Test.YtjcpfgkompgmeaaGreatDoorProg
import Derived.Test.YtjcpfgkompgmeaaGreatDoorPlQ4
set_option maxRecDepth 100000
namespace Go.AM
open Go Go.Proofs
def glob:Glob:=[(0,Zy Zdj),(1,Zm4 Zkx)]
def Zlx (r:Bool):PV→List Blk→Prop:=fun p K=>p=(vb r)∧K=[]
abbrev Zpr (r:Bool):Exit→St→List Blk→Prop:=FnQ Tryz.prog Tryz.f93.results 0 (Zlx r)
theorem Zps (a:ZB) (r:Bool) (hF:Zjh a=some r):ACall Tryz.prog glob 93 [(Zcz a)] [] (Zlx r):=by
 refine ACall.body Tryz.func93 rfl (by kernel_rfl) ?_
 unfold Zjh at hF
 refine AWP.seq (AWP.rg [] [(1,(.ptr 0 0))] [.cells (Za a)] (AWP.seq (AWP.seq (AWP.rg0 [] [(5,(Zcz a)),(6,(i64 (0:Int)))] ?_))))
 obtain⟨f,k,hF⟩:=bindb hF
 refine AWP.mid (fun e st H=>(e=.normal∧f=(.inl ())∧st=[]∧H=[.cells (Za a)])∨(e=.ret∧∃ r,f=(.inr r)∧Zpr r e st H)) ?_ ?_
 ·clear hF
  refine AWP.kp [5,6] 1 ?_
  refine AWP.bround (fun n st H=>∃ b,Zf3 a n b=some f∧st=[(5,(Zcz a)),(6,(i64 b))]∧H=[.cells (Za a)]) fuel ⟨(0:Int),k,by kernel_rfl,by kernel_rfl⟩ ?_
  rintro g st H ⟨b,hF,rfl,rfl⟩
  cases g with
  | zero=>exact noneb hF
  | succ g=>
   rw [Zf3] at hF
   refine AWP.seq (AWP.rg0 [] [(5,(Zcz a)),(6,(i64 b)),(7,(vb (decide (b<(5:Int)))))] (AWP.seq ?_))
   refine AWP.cif hF (fun l hF=>?_) (fun l hF=>?_)
   ·refine AWP.skip (AWP.seq (AWP.block (AWP.seq ?_)))
    obtain⟨m,hF⟩:=chkb hF
    refine AWP.rg [(1,.ixA Zs (Arr5.get a) m)] [(3,(i64 b)),(4,(.ptr 1 0)),(5,(Zcz a)),(6,(i64 b))] [.cells (Za a),.cells (Zs (Arr5.get a b))] (AWP.seq ?_)
    obtain⟨o,d,hF⟩:=bindb hF
    replace d:=someb d
    obtain⟨p,i,hF⟩:=bindb hF
    refine AWP.to [(5,(Zcz a)),(6,(i64 b)),(22,(vb p))] [.cells (Za a),.cells (Zs (Arr5.get a b))] ?_ ?_
    ·cases o with
     | false=>
      have c:=ifF i rfl
      obtain⟨j,c⟩:=chkb c
      replace c:=someb c
      subst c
      exact AWP.drT [(5,.bool d),(9,.ixd j),(10,.ldA Zif (Arr5.get Zdj) 0 1 0 j)] 13 [] [] []
     | true=>
      have q:=someb (ifT i rfl)
      subst q
      exact AWP.drT [(5,.bool d)] 13 [] [] []
    refine AWP.cif hF (fun s hF=>?_) (fun s hF=>?_)
    ·refine AWP.seq (AWP.rg0 [] [(2,(vb false))] (AWP.ret ?_))
     exact LeQ.of (.inr ⟨rfl,false,(someb hF).symm,(FnQ.f0 0 (.inr rfl))⟩)
    ·refine AWP.skip (AWP.rg0 [] [(5,(Zcz a)),(6,(i64 (ZI (b + (1:Int)))))] (LeQ.start (LeQ.pk [5,6] 1 ?_)))
     exact⟨g,Nat.lt_succ_self _,(ZI (b + (1:Int))),hF,by kernel_rfl,by kernel_rfl⟩
   ·refine AWP.exit (LeQ.start (LeQ.pk [] 1 ?_))
    exact(.inl ⟨rfl,(someb hF).symm,by kernel_rfl,by kernel_rfl⟩)
 ·rintro _ _ _ (⟨rfl,rfl,rfl,rfl⟩ | ⟨rfl,t,rfl,hq⟩)
  ·refine AWP.seq (AWP.rg0 [] [(2,(vb true))] (AWP.ret ?_))
   have hr:=someb hF
   subst hr
   exact(FnQ.f0 0 (.inr rfl))
  ·have hr:=someb hF
   subst hr
   exact hq
def Zki (r:Bool):PV→List Blk→Prop:=fun p K=>p=(vb r)∧K=[]
theorem Zej (a:ZB) (r:Bool) (hF:Zc2 a=some r):ACall Tryz.prog glob 199 [(Zcz a)] [] (Zki r):=by
 refine ACall.body Tryz.func199 rfl (by kernel_rfl) ?_
 unfold Zc2 at hF
 refine AWP.seq (AWP.rg [] [(1,(.ptr 0 0))] [.cells (Za a)] (AWP.seq ?_))
 obtain⟨b,c,hF⟩:=bindb hF
 refine AWP.rg0 [(1,.call Tryz.func93 [] (Zps a b c))] [(2,(vb (!b)))] (AWP.ret ?_)
 have hr:=someb hF
 subst hr
 exact(FnQ.f0 0 (.inr rfl))
def Zc1 (a:ZL) (b:List Value) (r:Int):PV→List Blk→Prop:=fun p K=>p=(i64 r)∧K=[.cells (cel Za a b)]
abbrev Zev (a:ZL) (b:List Value) (r:Int):Exit→St→List Blk→Prop:=FnQ Tryz.prog Tryz.f206.results 1 (Zc1 a b r)
theorem Zew (a:Nat) (c:ZL) (d:List Value) (r:Int) (hF:Za8 a c=some r):ACall Tryz.prog glob 206 [(.vw 0 0 a),(.sc (.func (.func 199) #[] #[]))] [.cells (cel Za c d)] (Zc1 c d r):=by
 refine ACall.body Tryz.func206 rfl (by kernel_rfl) ?_
 unfold Za8 at hF
 refine AWP.seq (AWP.rg0 [] [(0,(.vw 0 0 a)),(1,(.sc (.func (.func 199) #[] #[])))] (AWP.seq (AWP.seq (AWP.rg0 [(1,.lenV a)] [(0,(.vw 0 0 a)),(1,(.sc (.func (.func 199) #[] #[]))),(7,(i64 (a:Int))),(8,(i64 (0:Int)))] ?_))))
 obtain⟨f,k,hF⟩:=bindb hF
 refine AWP.mid (fun e st H=>(e=.normal∧f=(.inl ())∧st=[]∧H=[.cells (cel Za c d)])∨(e=.ret∧∃ r,f=(.inr r)∧Zev c d r e st H)) ?_ ?_
 ·clear hF
  refine AWP.kp [0,1,7,8] 1 ?_
  refine AWP.bround (fun n st H=>∃ b,Z6 a c n b=some f∧st=[(0,(.vw 0 0 a)),(1,(.sc (.func (.func 199) #[] #[]))),(7,(i64 (a:Int))),(8,(i64 b))]∧H=[.cells (cel Za c d)]) fuel ⟨(0:Int),k,by kernel_rfl,by kernel_rfl⟩ ?_
  rintro g st H ⟨b,hF,rfl,rfl⟩
  cases g with
  | zero=>exact noneb hF
  | succ g=>
   rw [Z6] at hF
   refine AWP.seq (AWP.rg0 [] [(0,(.vw 0 0 a)),(1,(.sc (.func (.func 199) #[] #[]))),(7,(i64 (a:Int))),(8,(i64 b)),(9,(vb (decide (b<(a:Int)))))] (AWP.seq ?_))
   refine AWP.cif hF (fun l hF=>?_) (fun l hF=>?_)
   ·refine AWP.skip (AWP.seq (AWP.block (AWP.seq (AWP.rg0 [] [(0,(.vw 0 0 a)),(1,(.sc (.func (.func 199) #[] #[]))),(5,(i64 b)),(7,(i64 (a:Int))),(8,(i64 b))] (AWP.seq ?_)))))
    obtain⟨m,i,hF⟩:=bindb hF
    obtain⟨j,o,hF⟩:=bindb hF
    refine AWP.rg0 [(3,.idxV (Zl i)),(4,.ldV Za (s:=10) (fun _=>rfl) d (Zi i) (0 + Int.toNat b * 10) (Nat.zero_add _) []),(5,.call Tryz.func199 [] (Zej m j o))] [(0,(.vw 0 0 a)),(1,(.sc (.func (.func 199) #[] #[]))),(5,(i64 b)),(7,(i64 (a:Int))),(8,(i64 b)),(16,(vb j))] ?_
    refine AWP.cif hF (fun p hF=>?_) (fun p hF=>?_)
    ·refine AWP.seq (AWP.rg0 [] [(4,(i64 b))] (AWP.ret ?_))
     exact LeQ.of (.inr ⟨rfl,b,(someb hF).symm,(FnQ.f0 1 (.inr rfl))⟩)
    ·refine AWP.skip (AWP.rg0 [] [(0,(.vw 0 0 a)),(1,(.sc (.func (.func 199) #[] #[]))),(7,(i64 (a:Int))),(8,(i64 (ZI (b + (1:Int)))))] (LeQ.start (LeQ.pk [0,1,7,8] 1 ?_)))
     exact⟨g,Nat.lt_succ_self _,(ZI (b + (1:Int))),hF,by kernel_rfl,by kernel_rfl⟩
   ·refine AWP.exit (LeQ.start (LeQ.pk [] 1 ?_))
    exact(.inl ⟨rfl,(someb hF).symm,by kernel_rfl,by kernel_rfl⟩)
 ·rintro _ _ _ (⟨rfl,rfl,rfl,rfl⟩ | ⟨rfl,q,rfl,hq⟩)
  ·refine AWP.seq (AWP.rg0 [] [(4,(i64 (-1:Int)))] (AWP.ret ?_))
   have hr:=someb hF
   subst hr
   exact(FnQ.f0 1 (.inr rfl))
  ·have hr:=someb hF
   subst hr
   exact hq
def Zeq (a:List Value) (r:(Nat × ZL)):PV→List Blk→Prop:=fun p K=>p=(.vw 0 0 r.1)∧K=[.cells (cel Za r.2 a)]
theorem Zer (a:Nat) (k:ZL) (b:List Value) (r:(Nat × ZL)) (hF:Za7 a k=some r):ACall Tryz.prog glob 198 [(.vw 0 0 a),(.sc (.func (.func 199) #[] #[]))] [.cells (cel Za k b)] (Zeq b r):=by
 refine ACall.body Tryz.func198 rfl (by kernel_rfl) ?_
 unfold Za7 at hF
 refine AWP.seq (AWP.rg0 [] [(0,(.vw 0 0 a)),(1,(.sc (.func (.func 199) #[] #[])))] (AWP.seq ?_))
 obtain⟨i,x,hF⟩:=bindb hF
 refine AWP.rg0 [(2,.callC Tryz.func206 [] (closedH.c (Zq (row:=Za) (fun _=>rfl) k b) closedH.n) (closedH.c (Zq (row:=Za) (fun _=>rfl) k b) closedH.n) (Zew a k b i x))] [(0,(.vw 0 0 a)),(1,(.sc (.func (.func 199) #[] #[]))),(5,(i64 i))] (AWP.seq (AWP.seq (AWP.rg0 [] [(0,(.vw 0 0 a)),(1,(.sc (.func (.func 199) #[] #[]))),(5,(i64 i)),(12,(vb (i == (-1:Int))))] ?_)))
 refine AWP.cif hF (fun y hF=>?_) (fun y hF=>?_)
 ·refine AWP.seq (AWP.rg0 [] [(4,(.vw 0 0 a))] (AWP.ret ?_))
  have hr:=someb hF
  subst hr
  exact(FnQ.f0 1 (.inr rfl))
 ·refine AWP.skip (AWP.seq (AWP.seq (AWP.rg0 [] [(0,(.vw 0 0 a)),(1,(.sc (.func (.func 199) #[] #[]))),(5,(i64 i)),(6,(i64 (ZI (i + (1:Int)))))] ?_)))
  obtain⟨t,z,hF⟩:=bindb hF
  refine AWP.mid (fun e st H=>(e=.normal∧∃ l,∃ g,t=(l,g)∧st=[(0,(.vw 0 0 a)),(5,(i64 g))]∧H=[.cells (cel Za l b)])) ?_ ?_
  ·clear hF
   refine AWP.kp [0,1,5,6] 1 ?_
   refine AWP.bround (fun n st H=>∃ j,∃ d,∃ f,Z5 a n j d f=some t∧st=[(0,(.vw 0 0 a)),(1,(.sc (.func (.func 199) #[] #[]))),(5,(i64 d)),(6,(i64 f))]∧H=[.cells (cel Za j b)]) fuel ⟨k,i,(ZI (i + (1:Int))),z,by kernel_rfl,by kernel_rfl⟩ ?_
   rintro q st H ⟨j,d,f,hF,rfl,rfl⟩
   cases q with
   | zero=>exact noneb hF
   | succ q=>
    rw [Z5] at hF
    refine AWP.seq (AWP.seq (AWP.rg0 [(2,.lenV a)] [(0,(.vw 0 0 a)),(1,(.sc (.func (.func 199) #[] #[]))),(5,(i64 d)),(6,(i64 f)),(19,(vb (decide (f<(a:Int)))))] ?_))
    refine AWP.cif hF (fun a0 hF=>?_) (fun a0 hF=>?_)
    ·refine AWP.skip ?_
     obtain⟨a1,a2,hF⟩:=bindb hF
     refine AWP.seq ?_
     refine AWP.mid (fun e st H=>(e=.normal∧∃ p,∃ o,a1=(p,o)∧st=[(0,(.vw 0 0 a)),(1,(.sc (.func (.func 199) #[] #[]))),(5,(i64 o)),(6,(i64 f))]∧H=[.cells (cel Za p b)])) ?_ ?_
     ·clear hF
      have hF:=a2
      refine AWP.block (AWP.seq ?_)
      obtain⟨m,u,hF⟩:=bindb hF
      refine AWP.rg [(2,.idxV (Zl u)),(3,.ldV Za (s:=10) (fun _=>rfl) b (Zi u) (0 + Int.toNat f * 10) (Nat.zero_add _) [])] [(0,(.vw 0 0 a)),(1,(.sc (.func (.func 199) #[] #[]))),(5,(i64 d)),(6,(i64 f)),(7,(.ptr 1 0))] [.cells (cel Za j b),.cells (Za m)] (AWP.seq ?_)
      obtain⟨v,a3,hF⟩:=bindb hF
      refine AWP.rg0 [(2,.call Tryz.func199 [] (Zej m v a3))] [(0,(.vw 0 0 a)),(1,(.sc (.func (.func 199) #[] #[]))),(5,(i64 d)),(6,(i64 f)),(7,(.ptr 1 0)),(29,(vb (!v)))] ?_
      refine AWP.cif hF (fun a4 hF=>?_) (fun a4 hF=>?_)
      ·refine AWP.seq ?_
       obtain⟨a8,w,hF⟩:=bindb hF
       refine AWP.rg [(3,.idxV (Zl w)),(4,.stV Za (s:=10) (fun _=>rfl) b (Zi w) m (0 + Int.toNat d * 10) (Nat.zero_add _) [])] [(0,(.vw 0 0 a)),(1,(.sc (.func (.func 199) #[] #[]))),(5,(i64 d)),(6,(i64 f))] [.cells (cel Za (List.set j (Int.toNat d) m) b),.cells (Za m)] (AWP.rg0 [] [(0,(.vw 0 0 a)),(1,(.sc (.func (.func 199) #[] #[]))),(5,(i64 (ZI (d + (1:Int))))),(6,(i64 f))] (LeQ.start (LeQ.pk [0,1,5,6] 1 ?_)))
       exact⟨rfl,(List.set j (Int.toNat d) m),(ZI (d + (1:Int))),(someb hF).symm,by kernel_rfl,by kernel_rfl⟩
      ·refine AWP.skip (LeQ.start (LeQ.pk [0,1,5,6] 1 ?_))
       exact⟨rfl,j,d,(someb hF).symm,by kernel_rfl,by kernel_rfl⟩
     ·rintro _ _ _ ⟨rfl,p,o,rfl,rfl,rfl⟩
      refine AWP.rg0 [] [(0,(.vw 0 0 a)),(1,(.sc (.func (.func 199) #[] #[]))),(5,(i64 o)),(6,(i64 (ZI (f + (1:Int)))))] (LeQ.start (LeQ.pk [0,1,5,6] 1 ?_))
      exact⟨q,Nat.lt_succ_self _,p,o,(ZI (f + (1:Int))),hF,by kernel_rfl,by kernel_rfl⟩
    ·refine AWP.exit (LeQ.start (LeQ.pk [0,5] 1 ?_))
     exact⟨rfl,j,d,(someb hF).symm,by kernel_rfl,by kernel_rfl⟩
  ·rintro _ _ _ ⟨rfl,l,g,rfl,rfl,rfl⟩
   refine AWP.seq ?_
   obtain⟨a5,hF⟩:=chkb hF
   obtain⟨a6,hF⟩:=chkb hF
   refine AWP.rg [(2,.sliceV a5),(3,.clrV Za (s:=10) (fun _=>rfl) (fun _=>rfl) b l Zhs (lo:=Int.toNat g) (n:=(Int.toNat (a:Int) - Int.toNat g)) a6 (0 + Int.toNat g * 10) (Nat.zero_add _))] [(0,(.vw 0 0 a)),(5,(i64 g))] [.cells (cel Za (List.take (Int.toNat g) l++List.replicate (Int.toNat (a:Int) - Int.toNat g) Zhs++List.drop (Int.toNat g + (Int.toNat (a:Int) - Int.toNat g)) l) b)] (AWP.seq ?_)
   obtain⟨a7,hF⟩:=chkb hF
   refine AWP.rg0 [(2,.sliceV a7)] [(4,(.vw 0 0 (Int.toNat g)))] (AWP.ret ?_)
   have hr:=someb hF
   subst hr
   exact(FnQ.f0 1 (.inr rfl))
def Zco (r:Int):PV→List Blk→Prop:=fun p K=>p=(i64 r)∧K=[]
abbrev Zek (r:Int):Exit→St→List Blk→Prop:=FnQ Tryz.prog Tryz.f206.results 0 (Zco r)
theorem Zel (a:ZL) (r:Int) (hF:Za5 a=some r):ACall Tryz.prog glob 206 [(slc 10 Za a),(.sc (.func (.func 199) #[] #[]))] [] (Zco r):=by
 refine ACall.body Tryz.func206 rfl (by kernel_rfl) ?_
 unfold Za5 at hF
 refine AWP.seq (AWP.rg0 [] [(0,(slc 10 Za a)),(1,(.sc (.func (.func 199) #[] #[])))] (AWP.seq (AWP.seq (AWP.rg0 [(1,.len Za a)] [(0,(slc 10 Za a)),(1,(.sc (.func (.func 199) #[] #[]))),(7,(i64 (List.length a:Int))),(8,(i64 (0:Int)))] ?_))))
 obtain⟨c,g,hF⟩:=bindb hF
 refine AWP.mid (fun e st H=>(e=.normal∧c=(.inl ())∧st=[]∧H=[])∨(e=.ret∧∃ r,c=(.inr r)∧Zek r e st H)) ?_ ?_
 ·clear hF
  refine AWP.kp [0,1,7,8] 0 ?_
  refine AWP.bround (fun n st H=>∃ b,Z3 a n b=some c∧st=[(0,(slc 10 Za a)),(1,(.sc (.func (.func 199) #[] #[]))),(7,(i64 (List.length a:Int))),(8,(i64 b))]∧H=[]) fuel ⟨(0:Int),g,by kernel_rfl,by kernel_rfl⟩ ?_
  rintro d st H ⟨b,hF,rfl,rfl⟩
  cases d with
  | zero=>exact noneb hF
  | succ d=>
   rw [Z3] at hF
   refine AWP.seq (AWP.rg0 [] [(0,(slc 10 Za a)),(1,(.sc (.func (.func 199) #[] #[]))),(7,(i64 (List.length a:Int))),(8,(i64 b)),(9,(vb (decide (b<(List.length a:Int)))))] (AWP.seq ?_))
   refine AWP.cif hF (fun i hF=>?_) (fun i hF=>?_)
   ·refine AWP.skip (AWP.seq (AWP.block (AWP.seq (AWP.rg0 [] [(0,(slc 10 Za a)),(1,(.sc (.func (.func 199) #[] #[]))),(5,(i64 b)),(7,(i64 (List.length a:Int))),(8,(i64 b))] (AWP.seq ?_)))))
    obtain⟨j,k,hF⟩:=bindb hF
    obtain⟨f,l,hF⟩:=bindb hF
    refine AWP.rg0 [(3,.idx Za k),(5,.call Tryz.func199 [] (Zej j f l))] [(0,(slc 10 Za a)),(1,(.sc (.func (.func 199) #[] #[]))),(5,(i64 b)),(7,(i64 (List.length a:Int))),(8,(i64 b)),(16,(vb f))] ?_
    refine AWP.cif hF (fun m hF=>?_) (fun m hF=>?_)
    ·refine AWP.seq (AWP.rg0 [] [(4,(i64 b))] (AWP.ret ?_))
     exact LeQ.of (.inr ⟨rfl,b,(someb hF).symm,(FnQ.f0 0 (.inr rfl))⟩)
    ·refine AWP.skip (AWP.rg0 [] [(0,(slc 10 Za a)),(1,(.sc (.func (.func 199) #[] #[]))),(7,(i64 (List.length a:Int))),(8,(i64 (ZI (b + (1:Int)))))] (LeQ.start (LeQ.pk [0,1,7,8] 0 ?_)))
     exact⟨d,Nat.lt_succ_self _,(ZI (b + (1:Int))),hF,by kernel_rfl,by kernel_rfl⟩
   ·refine AWP.exit (LeQ.start (LeQ.pk [] 0 ?_))
    exact(.inl ⟨rfl,(someb hF).symm,by kernel_rfl,by kernel_rfl⟩)
 ·rintro _ _ _ (⟨rfl,rfl,rfl,rfl⟩ | ⟨rfl,o,rfl,hq⟩)
  ·refine AWP.seq (AWP.rg0 [] [(4,(i64 (-1:Int)))] (AWP.ret ?_))
   have hr:=someb hF
   subst hr
   exact(FnQ.f0 0 (.inr rfl))
  ·have hr:=someb hF
   subst hr
   exact hq
def Zd1 (r:ZL):PV→List Blk→Prop:=fun p K=>p=(slc 10 Za r)∧K=[]
theorem Zd2 (r:ZL) (hF:Zat=some r):ACall Tryz.prog glob 198 [(slc 10 Za ([]:ZL)),(.sc (.func (.func 199) #[] #[]))] [] (Zd1 r):=by
 refine ACall.body Tryz.func198 rfl (by kernel_rfl) ?_
 unfold Zat at hF
 refine AWP.seq (AWP.rg0 [] [(0,(slc 10 Za ([]:ZL))),(1,(.sc (.func (.func 199) #[] #[])))] (AWP.seq ?_))
 obtain⟨c,j,hF⟩:=bindb hF
 refine AWP.rg0 [(2,.call Tryz.func206 [] (Zel ([]:ZL) c j))] [(0,(slc 10 Za ([]:ZL))),(1,(.sc (.func (.func 199) #[] #[]))),(5,(i64 c))] (AWP.seq (AWP.seq (AWP.rg0 [] [(0,(slc 10 Za ([]:ZL))),(1,(.sc (.func (.func 199) #[] #[]))),(5,(i64 c)),(12,(vb (c == (-1:Int))))] ?_)))
 refine AWP.cif hF (fun k hF=>?_) (fun k hF=>?_)
 ·refine AWP.seq (AWP.rg0 [] [(4,(slc 10 Za ([]:ZL)))] (AWP.ret ?_))
  have hr:=someb hF
  subst hr
  exact(FnQ.f0 0 (.inr rfl))
 ·refine AWP.skip (AWP.seq (AWP.seq (AWP.rg0 [] [(0,(slc 10 Za ([]:ZL))),(1,(.sc (.func (.func 199) #[] #[]))),(5,(i64 c)),(6,(i64 (ZI (c + (1:Int)))))] ?_)))
  obtain⟨f,l,hF⟩:=bindb hF
  refine AWP.mid (fun e st H=>e=.normal∧st=[(0,(slc 10 Za ([]:ZL))),(5,(i64 f))]∧H=[]) ?_ ?_
  ·clear hF
   refine AWP.kp [0,1,5,6] 0 ?_
   refine AWP.bround (fun n st H=>∃ b,∃ a,Zx n b a=some f∧st=[(0,(slc 10 Za ([]:ZL))),(1,(.sc (.func (.func 199) #[] #[]))),(5,(i64 b)),(6,(i64 a))]∧H=[]) fuel ⟨c,(ZI (c + (1:Int))),l,by kernel_rfl,by kernel_rfl⟩ ?_
   rintro d st H ⟨b,a,hF,rfl,rfl⟩
   cases d with
   | zero=>exact noneb hF
   | succ d=>
    rw [Zx] at hF
    refine AWP.seq (AWP.seq (AWP.rg0 [(2,.len Za ([]:ZL))] [(0,(slc 10 Za ([]:ZL))),(1,(.sc (.func (.func 199) #[] #[]))),(5,(i64 b)),(6,(i64 a)),(19,(vb (decide (a<(List.length ([]:ZL):Int)))))] ?_))
    refine AWP.cif hF (fun m hF=>?_) (fun m hF=>?_)
    ·refine AWP.skip ?_
     obtain⟨o,p,hF⟩:=bindb hF
     refine AWP.seq ?_
     refine AWP.mid (fun e st H=>(e=.normal∧o=()∧st=[(0,(slc 10 Za ([]:ZL))),(1,(.sc (.func (.func 199) #[] #[]))),(5,(i64 b)),(6,(i64 a))]∧H=[])) ?_ ?_
     ·clear hF
      have hF:=p
      refine AWP.block (AWP.seq ?_)
      obtain⟨g,q,hF⟩:=bindb hF
      refine AWP.rg [(2,.idx Za q)] [(0,(slc 10 Za ([]:ZL))),(1,(.sc (.func (.func 199) #[] #[]))),(5,(i64 b)),(6,(i64 a)),(7,(.ptr 0 0))] [.cells (Za g)] (AWP.seq ?_)
      obtain⟨i,s,hF⟩:=bindb hF
      refine AWP.rg0 [(2,.call Tryz.func199 [] (Zej g i s))] [(0,(slc 10 Za ([]:ZL))),(1,(.sc (.func (.func 199) #[] #[]))),(5,(i64 b)),(6,(i64 a)),(7,(.ptr 0 0)),(29,(vb (!i)))] ?_
      refine AWP.cif hF (fun t hF=>?_) (fun t hF=>?_)
      ·refine AWP.seq ?_
       exact noneb hF
      ·refine AWP.skip (LeQ.start (LeQ.pk [0,1,5,6] 0 ?_))
       exact⟨rfl,(someb hF).symm,by kernel_rfl,by kernel_rfl⟩
     ·rintro _ _ _ ⟨rfl,rfl,rfl,rfl⟩
      refine AWP.rg0 [] [(0,(slc 10 Za ([]:ZL))),(1,(.sc (.func (.func 199) #[] #[]))),(5,(i64 b)),(6,(i64 (ZI (a + (1:Int)))))] (LeQ.start (LeQ.pk [0,1,5,6] 0 ?_))
      exact⟨d,Nat.lt_succ_self _,b,(ZI (a + (1:Int))),hF,by kernel_rfl,by kernel_rfl⟩
    ·refine AWP.exit (LeQ.start (LeQ.pk [0,5] 0 ?_))
     have hr:=someb hF
     subst hr
     exact⟨rfl,by kernel_rfl,by kernel_rfl⟩
  ·rintro _ _ _ ⟨rfl,rfl,rfl⟩
   refine AWP.seq ?_
   exact noneb hF
def Zla (r:ZL):PV→List Blk→Prop:=fun p K=>p=(slc 10 Za r)∧K=[]
theorem Zd5 (a:ZL) (r:ZL) (hF:Zdi a=some r):ACall Tryz.prog glob 188 [(slc 10 Za a)] [] (Zla r):=by
 refine ACall.body Tryz.func188 rfl (by kernel_rfl) ?_
 unfold Zdi at hF
 refine AWP.seq (AWP.rg0 [] [(0,(slc 10 Za a))] (AWP.seq ?_))
 obtain⟨c,hF⟩:=chkb hF
 obtain⟨b,d,hF⟩:=bindb hF
 refine AWP.rg [(1,.clone Tryz.func141 Za (fun _=>by kernel_rfl) c),(2,.callBE (s:=10) Za Tryz.func198 (fun _=>rfl) d (fun h sp_=>Zer (List.length a) a sp_ _ h) (fun h=>Zd2 _ h))] [(2,(slc 10 Za (List.take b.1 b.2)))] [bf 10 94 Za b.2 true] (AWP.ret ?_)
 have hr:=someb hF
 subst hr
 exact(FnQ.f0 0 (.inr rfl))
def Zlb (r:ZL):PV→List Blk→Prop:=fun p K=>p=(slc 10 Za r)∧K=[]
theorem Zlc (c:Int) (b:ZL) (r:ZL) (hF:Zf8 c b=some r):ACall Tryz.prog glob 202 [(i64 c),(slc 10 Za b)] [] (Zlb r):=by
 refine ACall.body Tryz.func202 rfl (by kernel_rfl) ?_
 unfold Zf8 at hF
 refine AWP.seq (AWP.rg0 [] [(0,(i64 c)),(1,(slc 10 Za b))] (AWP.seq ?_))
 obtain⟨v,hF⟩:=chkb hF
 refine AWP.rg [(1,.clone Tryz.func141 Za (fun _=>by kernel_rfl) v)] [(0,(i64 c)),(5,(.own 0 (List.length b)))] [bf 10 94 Za b false] (AWP.seq (AWP.seq (AWP.rg0 [(1,.len Za b)] [(0,(i64 c)),(5,(.own 0 (List.length b))),(11,(i64 (List.length b:Int))),(12,(i64 (0:Int)))] ?_)))
 obtain⟨j,w,hF⟩:=bindb hF
 refine AWP.mid (fun e st H=>e=.normal∧st=[(5,(.own 0 (List.length j)))]∧H=[bf 10 94 Za j false]) ?_ ?_
 ·clear hF
  refine AWP.kp [0,5,11,12] 1 ?_
  refine AWP.bround (fun n st H=>∃ g,∃ a,Zd8 c b n g a=some j∧st=[(0,(i64 c)),(5,(.own 0 (List.length g))),(11,(i64 (List.length b:Int))),(12,(i64 a))]∧H=[bf 10 94 Za g false]) fuel ⟨b,(0:Int),w,by kernel_rfl,by kernel_rfl⟩ ?_
  rintro o st H ⟨g,a,hF,rfl,rfl⟩
  cases o with
  | zero=>exact noneb hF
  | succ o=>
   rw [Zd8] at hF
   refine AWP.seq (AWP.rg0 [] [(0,(i64 c)),(5,(.own 0 (List.length g))),(11,(i64 (List.length b:Int))),(12,(i64 a)),(13,(vb (decide (a<(List.length b:Int)))))] (AWP.seq ?_))
   refine AWP.cif hF (fun x hF=>?_) (fun x hF=>?_)
   ·refine AWP.skip (AWP.seq (AWP.block (AWP.seq (AWP.rg0 [] [(0,(i64 c)),(5,(.own 0 (List.length g))),(6,(i64 a)),(11,(i64 (List.length b:Int))),(12,(i64 a))] (AWP.seq (AWP.rg0 [] [(0,(i64 c)),(5,(.own 0 (List.length g))),(6,(i64 a)),(7,(i64 (0:Int))),(11,(i64 (List.length b:Int))),(12,(i64 a))] ?_))))))
    obtain⟨k,y,hF⟩:=bindb hF
    refine AWP.mid (fun e st H=>e=.normal∧st=[(0,(i64 c)),(5,(.own 0 (List.length k))),(11,(i64 (List.length b:Int))),(12,(i64 a))]∧H=[bf 10 94 Za k false]) ?_ ?_
    ·clear hF
     refine AWP.kp [0,5,6,7,11,12] 1 ?_
     refine AWP.bround (fun n st H=>∃ f,∃ d,Zd7 c a n f d=some k∧st=[(0,(i64 c)),(5,(.own 0 (List.length f))),(6,(i64 a)),(7,(i64 d)),(11,(i64 (List.length b:Int))),(12,(i64 a))]∧H=[bf 10 94 Za f false]) fuel ⟨g,(0:Int),y,by kernel_rfl,by kernel_rfl⟩ ?_
     rintro p st H ⟨f,d,hF,rfl,rfl⟩
     cases p with
     | zero=>exact noneb hF
     | succ p=>
      rw [Zd7] at hF
      refine AWP.seq (AWP.seq (AWP.rg0 [] [(0,(i64 c)),(5,(.own 0 (List.length f))),(6,(i64 a)),(7,(i64 d)),(11,(i64 (List.length b:Int))),(12,(i64 a)),(17,(vb (decide (d≤c))))] ?_))
      refine AWP.cif hF (fun z hF=>?_) (fun z hF=>?_)
      ·refine AWP.skip (AWP.seq (AWP.block ?_))
       obtain⟨m,q,hF⟩:=bindb hF
       obtain⟨u,hF⟩:=chkb hF
       refine AWP.rg [(4,.idx Za q),(5,.ixE Za f a u),(6,.stEd Za q (fun a0=>(Arr5.set m a0 (Zb.mk (0:Int) (0:Int)))) 0 2 0 u)] [(0,(i64 c)),(5,(.own 0 (List.length f))),(6,(i64 a)),(7,(i64 d)),(11,(i64 (List.length b:Int))),(12,(i64 a))] [bf 10 94 Za (List.set f (Int.toNat a) (Arr5.set m d (Zb.mk (0:Int) (0:Int)))) false] ?_
       rw [show ([(0,(i64 c)),(5,(.own 0 (List.length f))),(6,(i64 a)),(7,(i64 d)),(11,(i64 (List.length b:Int))),(12,(i64 a))]:St)=[(0,(i64 c)),(5,(.own 0 (List.length (List.set f (Int.toNat a) (Arr5.set m d (Zb.mk (0:Int) (0:Int))))))),(6,(i64 a)),(7,(i64 d)),(11,(i64 (List.length b:Int))),(12,(i64 a))] by simp only [List.length_set]]
       refine AWP.rg0 [] [(0,(i64 c)),(5,(.own 0 (List.length (List.set f (Int.toNat a) (Arr5.set m d (Zb.mk (0:Int) (0:Int))))))),(6,(i64 a)),(7,(i64 (ZI (d + (1:Int))))),(11,(i64 (List.length b:Int))),(12,(i64 a))] (LeQ.start (LeQ.pk [0,5,6,7,11,12] 1 ?_))
       exact⟨p,Nat.lt_succ_self _,(List.set f (Int.toNat a) (Arr5.set m d (Zb.mk (0:Int) (0:Int)))),(ZI (d + (1:Int))),hF,by kernel_rfl,by kernel_rfl⟩
      ·refine AWP.exit (LeQ.start (LeQ.pk [0,5,11,12] 1 ?_))
       have hr:=someb hF
       subst hr
       exact⟨rfl,by kernel_rfl,by kernel_rfl⟩
    ·rintro _ _ _ ⟨rfl,rfl,rfl⟩
     refine AWP.rg0 [] [(0,(i64 c)),(5,(.own 0 (List.length k))),(11,(i64 (List.length b:Int))),(12,(i64 (ZI (a + (1:Int)))))] (LeQ.start (LeQ.pk [0,5,11,12] 1 ?_))
     exact⟨o,Nat.lt_succ_self _,k,(ZI (a + (1:Int))),hF,by kernel_rfl,by kernel_rfl⟩
   ·refine AWP.exit (LeQ.start (LeQ.pk [5] 1 ?_))
    have hr:=someb hF
    subst hr
    exact⟨rfl,by kernel_rfl,by kernel_rfl⟩
 ·rintro _ _ _ ⟨rfl,rfl,rfl⟩
  refine AWP.seq (AWP.rg0 [] [(4,(.own 0 (List.length j)))] (AWP.ret ?_))
  have hr:=someb hF
  subst hr
  exact(FnQ.f1 0 (.inr rfl) (.inl (Wk.ownT (i:=0) (s:=10) (t:=94) (l:=j) (sh:=false) (row:=Za) (by kernel_rfl) (.inl rfl))))
def Zex (r:Bool):PV→List Blk→Prop:=fun p K=>p=(vb r)∧K=[]
abbrev Zg5 (r:Bool):Exit→St→List Blk→Prop:=FnQ Tryz.prog Tryz.f193.results 0 (Zex r)
theorem Zce (a:ZL) (b:ZL) (r:Bool) (hF:Zan a b=some r):ACall Tryz.prog glob 193 [(slc 10 Za a),(slc 10 Za b)] [] (Zex r):=by
 refine ACall.body Tryz.func193 rfl (by kernel_rfl) ?_
 unfold Zan at hF
 refine AWP.seq (AWP.rg0 [] [(0,(slc 10 Za a)),(1,(slc 10 Za b))] (AWP.seq (AWP.seq (AWP.rg0 [(1,.len Za a),(3,.len Za b)] [(0,(slc 10 Za a)),(1,(slc 10 Za b)),(10,(vb ((List.length a:Int) != (List.length b:Int))))] ?_))))
 refine AWP.cif hF (fun g hF=>?_) (fun g hF=>?_)
 ·refine AWP.seq (AWP.rg0 [] [(4,(vb false))] (AWP.ret ?_))
  have hr:=someb hF
  subst hr
  exact(FnQ.f0 0 (.inr rfl))
 ·refine AWP.skip (AWP.seq (AWP.seq (AWP.rg0 [(1,.len Za a)] [(0,(slc 10 Za a)),(1,(slc 10 Za b)),(12,(i64 (List.length a:Int))),(13,(i64 (0:Int)))] ?_)))
  obtain⟨d,i,hF⟩:=bindb hF
  refine AWP.mid (fun e st H=>(e=.normal∧d=(.inl ())∧st=[]∧H=[])∨(e=.ret∧∃ r,d=(.inr r)∧Zg5 r e st H)) ?_ ?_
  ·clear hF
   refine AWP.kp [0,1,12,13] 0 ?_
   refine AWP.bround (fun n st H=>∃ c,Zbu a b n c=some d∧st=[(0,(slc 10 Za a)),(1,(slc 10 Za b)),(12,(i64 (List.length a:Int))),(13,(i64 c))]∧H=[]) fuel ⟨(0:Int),i,by kernel_rfl,by kernel_rfl⟩ ?_
   rintro f st H ⟨c,hF,rfl,rfl⟩
   cases f with
   | zero=>exact noneb hF
   | succ f=>
    rw [Zbu] at hF
    refine AWP.seq (AWP.rg0 [] [(0,(slc 10 Za a)),(1,(slc 10 Za b)),(12,(i64 (List.length a:Int))),(13,(i64 c)),(14,(vb (decide (c<(List.length a:Int)))))] (AWP.seq ?_))
    refine AWP.cif hF (fun j hF=>?_) (fun j hF=>?_)
    ·refine AWP.skip (AWP.seq (AWP.block (AWP.seq (AWP.rg0 [] [(0,(slc 10 Za a)),(1,(slc 10 Za b)),(5,(i64 c)),(12,(i64 (List.length a:Int))),(13,(i64 c))] (AWP.seq ?_)))))
     obtain⟨k,l,hF⟩:=bindb hF
     obtain⟨m,o,hF⟩:=bindb hF
     refine AWP.dr [(2,.idx Za l),(6,.idx Za o)] 9 [] [] [] [(0,(slc 10 Za a)),(1,(slc 10 Za b)),(12,(i64 (List.length a:Int))),(13,(i64 c)),(24,(vb (!(Zi9 k m))))] [] ?_
     refine AWP.cif hF (fun p hF=>?_) (fun p hF=>?_)
     ·refine AWP.seq (AWP.rg0 [] [(4,(vb false))] (AWP.ret ?_))
      exact LeQ.of (.inr ⟨rfl,false,(someb hF).symm,(FnQ.f0 0 (.inr rfl))⟩)
     ·refine AWP.skip (AWP.rg0 [] [(0,(slc 10 Za a)),(1,(slc 10 Za b)),(12,(i64 (List.length a:Int))),(13,(i64 (ZI (c + (1:Int)))))] (LeQ.start (LeQ.pk [0,1,12,13] 0 ?_)))
      exact⟨f,Nat.lt_succ_self _,(ZI (c + (1:Int))),hF,by kernel_rfl,by kernel_rfl⟩
    ·refine AWP.exit (LeQ.start (LeQ.pk [] 0 ?_))
     exact(.inl ⟨rfl,(someb hF).symm,by kernel_rfl,by kernel_rfl⟩)
  ·rintro _ _ _ (⟨rfl,rfl,rfl,rfl⟩ | ⟨rfl,q,rfl,hq⟩)
   ·refine AWP.seq (AWP.rg0 [] [(4,(vb true))] (AWP.ret ?_))
    have hr:=someb hF
    subst hr
    exact(FnQ.f0 0 (.inr rfl))
   ·have hr:=someb hF
    subst hr
    exact hq
def Zfk (r:Bool):PV→List Blk→Prop:=fun p K=>p=(vb r)∧K=[]
abbrev Zhj (r:Bool):Exit→St→List Blk→Prop:=FnQ Tryz.prog Tryz.f190.results 0 (Zfk r)
theorem Zjp:∀(nr:Nat) (a:Int) (g:ZL) (r:Bool) (_hF:Zcd nr a g=some r),ACall Tryz.prog glob 190 [(i64 a),(slc 10 Za g)] [] (Zfk r):=by
 intro nr
 induction nr with
 | zero=>intro a g r hF; exact noneb (by rw [Zcd] at hF; exact hF)
 | succ nr ih=>
  intro a g r hF
  refine ACall.body Tryz.func190 rfl (by kernel_rfl) ?_
  rw [Zcd] at hF
  refine AWP.seq (AWP.rg0 [] [(0,(i64 a)),(1,(slc 10 Za g))] (AWP.seq (AWP.seq (AWP.rg0 [] [(0,(i64 a)),(1,(slc 10 Za g)),(9,(vb (a == (5:Int))))] ?_))))
  refine AWP.cif hF (fun a4 hF=>?_) (fun a4 hF=>?_)
  ·refine AWP.seq (AWP.rg0 [(1,.len Za g)] [(4,(vb (decide ((List.length g:Int)≤(1:Int)))))] (AWP.ret ?_))
   have hr:=someb hF
   subst hr
   exact(FnQ.f0 0 (.inr rfl))
  ·refine AWP.skip (AWP.seq (AWP.rg [] [(0,(i64 a)),(1,(slc 10 Za g)),(5,(.ptr 0 0))] [.cells (Zd Zf7)] (AWP.seq ?_)))
   obtain⟨s,a5,hF⟩:=bindb hF
   refine AWP.mid (fun e st H=>(e=.normal∧∃ t,s=(.inl t)∧st=[]∧H=[.cells (Zd t)])∨(e=.ret∧∃ r,s=(.inr r)∧Zhj r e st H)) ?_ ?_
   ·clear hF
    refine AWP.kp [0,1,5] 1 ?_
    refine AWP.bround (fun n st H=>∃ c,∃ b,Zds a (Zcd nr) n c b=some s∧st=[(0,(i64 a)),(1,(slc 10 Za b)),(5,(.ptr 0 0))]∧H=[.cells (Zd c)]) fuel ⟨Zf7,g,a5,by kernel_rfl,by kernel_rfl⟩ ?_
    rintro u st H ⟨c,b,hF,rfl,rfl⟩
    cases u with
    | zero=>exact noneb hF
    | succ u=>
     rw [Zds] at hF
     refine AWP.seq (AWP.seq (AWP.rg0 [(1,.len Za b)] [(0,(i64 a)),(1,(slc 10 Za b)),(5,(.ptr 0 0)),(15,(vb (decide ((List.length b:Int) > (0:Int)))))] ?_))
     refine AWP.cif hF (fun a6 hF=>?_) (fun a6 hF=>?_)
     ·refine AWP.skip (AWP.block (AWP.seq (AWP.rg0 [] [(0,(i64 a)),(1,(slc 10 Za b)),(5,(.ptr 0 0)),(6,(i64 (1:Int)))] (AWP.seq ?_))))
      obtain⟨d,a7,hF⟩:=bindb hF
      refine AWP.mid (fun e st H=>e=.normal∧st=[(0,(i64 a)),(1,(slc 10 Za b)),(5,(.ptr 0 0)),(6,(i64 d))]∧H=[.cells (Zd c)]) ?_ ?_
      ·clear hF
       refine AWP.kp [0,1,5,6] 1 ?_
       refine AWP.bround (fun n st H=>∃ l,Zdr a b n l=some d∧st=[(0,(i64 a)),(1,(slc 10 Za b)),(5,(.ptr 0 0)),(6,(i64 l))]∧H=[.cells (Zd c)]) fuel ⟨(1:Int),a7,by kernel_rfl,by kernel_rfl⟩ ?_
       rintro v st H ⟨l,hF,rfl,rfl⟩
       cases v with
       | zero=>exact noneb hF
       | succ v=>
        rw [Zdr] at hF
        refine AWP.seq (AWP.seq ?_)
        obtain⟨a8,p,hF⟩:=bindb hF
        replace p:=someb p
        obtain⟨a9,w,hF⟩:=bindb hF
        refine AWP.to [(0,(i64 a)),(1,(slc 10 Za b)),(5,(.ptr 0 0)),(6,(i64 l)),(33,(vb a9))] [.cells (Zd c)] ?_ ?_
        ·cases a8 with
         | false=>
          have b0:=someb (ifF w rfl)
          subst b0
          exact AWP.drT [(2,.len Za b),(4,.bool p)] 18 [] [] []
         | true=>
          have f:=ifT w rfl
          obtain⟨b1,b2,f⟩:=bindb f
          obtain⟨x,f⟩:=chkb f
          obtain⟨b3,b4,f⟩:=bindb f
          obtain⟨y,f⟩:=chkb f
          replace f:=someb f
          subst f
          exact AWP.drT [(2,.len Za b),(4,.bool p),(8,.idx Za b2),(9,.ixd x),(10,.ldA Zs (Arr5.get b1) 0 2 0 x),(13,.idx Za b4),(14,.ixd y),(15,.ldA Zs (Arr5.get b3) 0 2 0 y)] 18 [] [] []
        refine AWP.cif hF (fun b5 hF=>?_) (fun b5 hF=>?_)
        ·refine AWP.skip (AWP.block (AWP.rg0 [] [(0,(i64 a)),(1,(slc 10 Za b)),(5,(.ptr 0 0)),(6,(i64 (ZI (l + (1:Int)))))] (LeQ.start (LeQ.pk [0,1,5,6] 1 ?_))))
         exact⟨v,Nat.lt_succ_self _,(ZI (l + (1:Int))),hF,by kernel_rfl,by kernel_rfl⟩
        ·refine AWP.exit (LeQ.start (LeQ.pk [0,1,5,6] 1 ?_))
         have hr:=someb hF
         subst hr
         exact⟨rfl,by kernel_rfl,by kernel_rfl⟩
      ·rintro _ _ _ ⟨rfl,rfl,rfl⟩
       refine AWP.seq ?_
       obtain⟨j,b6,hF⟩:=bindb hF
       obtain⟨z,hF⟩:=chkb hF
       obtain⟨b7,hF⟩:=chkb hF
       obtain⟨i,b8,hF⟩:=bindb hF
       refine AWP.dr [(2,.idx Za b6),(3,.ixd z),(4,.ldA Zs (Arr5.get j) 0 2 0 z),(8,.slice Za b b7),(9,.call Tryz.func202 [] (Zlc a (List.drop (Int.toNat (0:Int)) (List.take (Int.toNat d) b)) i b8))] 12 [] [11] [] [(0,(i64 a)),(1,(slc 10 Za b)),(5,(.ptr 0 0)),(6,(i64 d)),(7,(.ptr 1 0))] [.cells (Zd c),.cells (Zd (Zf.mk (Arr5.get j a) i))] (AWP.seq (AWP.seq ?_))
       obtain⟨b9,hF⟩:=chkb hF
       obtain⟨a0,c0,hF⟩:=bindb hF
       refine AWP.rg0 [(4,.slice Za b b9),(5,.call Tryz.func190 [] (ih (ZI (a + (1:Int))) (List.drop (Int.toNat (0:Int)) (List.take (Int.toNat d) b)) a0 c0))] [(0,(i64 a)),(1,(slc 10 Za b)),(5,(.ptr 0 0)),(6,(i64 d)),(7,(.ptr 1 0)),(53,(vb (!a0)))] ?_
       refine AWP.cif hF (fun c1 hF=>?_) (fun c1 hF=>?_)
       ·refine AWP.seq (AWP.rg0 [] [(4,(vb false))] (AWP.ret ?_))
        exact LeQ.of (.inr ⟨rfl,false,(someb hF).symm,(FnQ.f0 0 (.inr rfl))⟩)
       ·refine AWP.skip ?_
        obtain⟨a1,c2,hF⟩:=bindb hF
        refine AWP.seq ?_
        refine AWP.mid (fun e st H=>(e=.normal∧a1=(.inl ())∧st=[(0,(i64 a)),(1,(slc 10 Za b)),(5,(.ptr 0 0)),(6,(i64 d)),(7,(.ptr 1 0))]∧H=[.cells (Zd c),.cells (Zd (Zf.mk (Arr5.get j a) i))])∨(e=.ret∧∃ r,a1=(.inr r)∧Zhj r e st H)) ?_ ?_
        ·clear hF
         have hF:=c2
         refine AWP.seq (AWP.rg0 [(2,.len Za c.f_rest)] [(0,(i64 a)),(1,(slc 10 Za b)),(5,(.ptr 0 0)),(6,(i64 d)),(7,(.ptr 1 0)),(57,(vb (decide ((List.length c.f_rest:Int) > (0:Int)))))] ?_)
         refine AWP.cif hF (fun c3 hF=>?_) (fun c3 hF=>?_)
         ·refine AWP.seq ?_
          obtain⟨c4,m,hF⟩:=bindb hF
          replace m:=someb m
          obtain⟨c5,a2,hF⟩:=bindb hF
          refine AWP.to [(0,(i64 a)),(1,(slc 10 Za b)),(5,(.ptr 0 0)),(6,(i64 d)),(7,(.ptr 1 0)),(81,(vb c5))] [.cells (Zd c),.cells (Zd (Zf.mk (Arr5.get j a) i))] ?_ ?_
          ·cases c4 with
           | false=>
            have k:=ifF a2 rfl
            obtain⟨c6,q,k⟩:=bindb k
            replace q:=someb q
            obtain⟨d4,a3,k⟩:=bindb k
            replace k:=someb k
            subst k
            cases c6 with
            | false=>
             have c7:=someb (ifF a3 rfl)
             subst c7
             exact AWP.rgT [(7,.bool m),(16,.bool q)]
            | true=>
             have o:=ifT a3 rfl
             obtain⟨c8,c9,o⟩:=bindb o
             replace o:=someb o
             subst o
             exact AWP.rgT [(7,.bool m),(16,.bool q),(21,.call Tryz.func193 [] (Zce i c.f_rest c8 c9))]
           | true=>
            have d0:=someb (ifT a2 rfl)
            subst d0
            exact AWP.rgT [(7,.bool m)]
          refine AWP.cif hF (fun d1 hF=>?_) (fun d1 hF=>?_)
          ·refine AWP.seq (AWP.rg0 [] [(4,(vb false))] (AWP.ret ?_))
           exact LeQ.of (.inr ⟨rfl,false,(someb hF).symm,(FnQ.f0 0 (.inr rfl))⟩)
          ·refine AWP.skip (LeQ.start (LeQ.pk [0,1,5,6,7] 2 ?_))
           exact(.inl ⟨rfl,(someb hF).symm,by kernel_rfl,by kernel_rfl⟩)
         ·refine AWP.skip (LeQ.start (LeQ.pk [0,1,5,6,7] 2 ?_))
          exact(.inl ⟨rfl,(someb hF).symm,by kernel_rfl,by kernel_rfl⟩)
        ·rintro _ _ _ (⟨rfl,rfl,rfl,rfl⟩ | ⟨rfl,d2,rfl,hq⟩)
         ·obtain⟨d3,hF⟩:=chkb hF
          refine AWP.dr [(3,.slice Za b d3)] 5 [] [4] [] [(0,(i64 a)),(1,(slc 10 Za (List.drop (Int.toNat d) (List.take (Int.toNat (List.length b:Int)) b)))),(5,(.ptr 0 0))] [.cells (Zd (Zf.mk (Arr5.get j a) i)),.cells (Zd (Zf.mk (Arr5.get j a) i))] (LeQ.start (LeQ.pk [0,1,5] 1 ?_))
          exact⟨u,Nat.lt_succ_self _,(Zf.mk (Arr5.get j a) i),(List.drop (Int.toNat d) (List.take (Int.toNat (List.length b:Int)) b)),hF,by kernel_rfl,by kernel_rfl⟩
         ·exact LeQ.of (.inr ⟨rfl,d2,(someb hF).symm,hq⟩)
     ·refine AWP.exit (LeQ.start (LeQ.pk [] 1 ?_))
      exact(.inl ⟨rfl,c,(someb hF).symm,by kernel_rfl,by kernel_rfl⟩)
   ·rintro _ _ _ (⟨rfl,t,rfl,rfl,rfl⟩ | ⟨rfl,d5,rfl,hq⟩)
    ·refine AWP.seq (AWP.rg0 [] [(4,(vb true))] (AWP.ret ?_))
     have hr:=someb hF
     subst hr
     exact(FnQ.f0 0 (.inr rfl))
    ·have hr:=someb hF
     subst hr
     exact hq
theorem Zkj (a:Int) (b:ZL) (r:Bool) (hF:Zcd fuel a b=some r):ACall Tryz.prog glob 190 [(i64 a),(slc 10 Za b)] [] (Zfk r):=Zjp fuel a b r hF
def Zld (r:Bool):PV→List Blk→Prop:=fun p K=>p=(vb r)∧K=[]
theorem Zle (a:ZL) (r:Bool) (hF:Zf9 a=some r):ACall Tryz.prog glob 175 [(slc 10 Za a)] [] (Zld r):=by
 refine ACall.body Tryz.func175 rfl (by kernel_rfl) ?_
 unfold Zf9 at hF
 refine AWP.seq (AWP.rg0 [] [(0,(slc 10 Za a))] (AWP.seq ?_))
 obtain⟨l,b,hF⟩:=bindb hF
 replace b:=someb b
 obtain⟨u,j,hF⟩:=bindb hF
 obtain⟨m,c,hF⟩:=bindb hF
 replace c:=someb c
 obtain⟨n,i,hF⟩:=bindb hF
 refine AWP.to [(2,(vb n))] [] ?_ ?_
 ·cases l with
  | false=>
   have o:=someb (ifF j rfl)
   subst o
   subst c
   have p:=someb (ifF i rfl)
   subst p
   exact AWP.rgT [(1,.len Za a),(3,.bool b)]
  | true=>
   have d:=ifT j rfl
   obtain⟨g,k,d⟩:=bindb d
   replace d:=someb d
   subst d
   cases m with
   | false=>
    have q:=someb (ifF i rfl)
    subst q
    exact AWP.rgT [(1,.len Za a),(3,.bool b),(5,.call Tryz.func188 [] (Zd5 a g k)),(6,.len Za g),(8,.len Za a),(11,.bool c)]
   | true=>
    have f:=ifT i rfl
    obtain⟨s,t,f⟩:=bindb f
    replace f:=someb f
    subst f
    exact AWP.rgT [(1,.len Za a),(3,.bool b),(5,.call Tryz.func188 [] (Zd5 a g k)),(6,.len Za g),(8,.len Za a),(11,.bool c),(13,.call Tryz.func190 [] (Zkj (0:Int) a s t))]
 refine AWP.ret ?_
 have hr:=someb hF
 subst hr
 exact(FnQ.f0 0 (.inr rfl))
def Zky (r:Bool):PV→List Blk→Prop:=fun p K=>p=(vb r)∧K=[]
theorem Zh1 (c:Bool) (a:Bool) (r:Bool) (hF:Zet c a=some r):ACall Tryz.prog glob 156 [(vb c),(vb a)] [] (Zky r):=by
 refine ACall.body Tryz.func156 rfl (by kernel_rfl) ?_
 unfold Zet at hF
 refine AWP.seq (AWP.rg0 [] [(0,(vb c)),(1,(vb a))] (AWP.seq ?_))
 obtain⟨d,b,hF⟩:=bindb hF
 replace b:=someb b
 refine AWP.to [(4,(vb (d || a)))] [] ?_ ?_
 ·cases d with
  | false=>
   exact AWP.rgT [(1,.bool b)]
  | true=>
   exact AWP.rgT [(1,.bool b)]
 refine AWP.ret ?_
 have hr:=someb hF
 subst hr
 exact(FnQ.f0 0 (.inr rfl))
def Zrh (r:Int):PV→List Blk→Prop:=fun p K=>p=(u32 r)∧K=[]
theorem Zof (a:Int) (r:Int) (hF:Zjc a=some r):ACall Tryz.prog glob 148 [(i64 a)] [] (Zrh r):=by
 refine ACall.body Tryz.func148 rfl (by kernel_rfl) ?_
 unfold Zjc at hF
 refine AWP.seq (AWP.rg0 [] [(0,(i64 a))] (AWP.seq (AWP.seq ?_)))
 obtain⟨c,b,hF⟩:=bindb hF
 replace b:=someb b
 refine AWP.to [(0,(i64 a)),(8,(vb (c || (decide (a ≥ (5:Int))))))] [] ?_ ?_
 ·cases c with
  | false=>
   exact AWP.rgT [(2,.bool b)]
  | true=>
   exact AWP.rgT [(2,.bool b)]
 refine AWP.cif hF (fun f hF=>?_) (fun f hF=>?_)
 ·refine AWP.seq (AWP.rg0 [] [(2,(u32 (0:Int)))] (AWP.ret ?_))
  have hr:=someb hF
  subst hr
  exact(FnQ.f0 0 (.inr rfl))
 ·refine AWP.skip (AWP.seq ?_)
  obtain⟨d,hF⟩:=chkb hF
  refine AWP.rg0 [(1,.ixd d),(2,.ldA Zif (Arr5.get Zdj) 0 1 0 d)] [(2,(u32 (Arr5.get Zdj a)))] (AWP.ret ?_)
  have hr:=someb hF
  subst hr
  exact(FnQ.f0 0 (.inr rfl))
def Zlf (r:Int):PV→List Blk→Prop:=fun p K=>p=(i64 r)∧K=[]
theorem Zlg (a:Int) (r:Int) (hF:Zga a=some r):ACall Tryz.prog glob 69 [(u64 a)] [] (Zlf r):=by
 refine ACall.body Tryz.func69 rfl (by kernel_rfl) ?_
 unfold Zga at hF
 refine AWP.seq (AWP.rg0 [] [(0,(u64 a)),(2,(i64 (0:Int)))] ?_)
 obtain⟨j,k,hF⟩:=bindb hF
 refine AWP.seq ?_
 refine AWP.mid (fun e st H=>(e=.normal∧∃ b,∃ d,j=(b,d)∧st=[(0,(u64 b)),(2,(i64 d))]∧H=[])) ?_ ?_
 ·clear hF
  have hF:=k
  refine AWP.seq (AWP.rg0 [] [(0,(u64 a)),(2,(i64 (0:Int))),(4,(vb (decide (a ≥ (4294967296:Int)))))] ?_)
  refine AWP.cif hF (fun l hF=>?_) (fun l hF=>?_)
  ·refine AWP.seq (AWP.rg0 [] [(0,(u64 (bShr .u64 a (32:Int))))] (AWP.rg0 [] [(0,(u64 (bShr .u64 a (32:Int)))),(2,(i64 (32:Int)))] (LeQ.start (LeQ.pk [0,2] 0 ?_))))
   exact⟨rfl,(bShr .u64 a (32:Int)),(32:Int),(someb hF).symm,by kernel_rfl,by kernel_rfl⟩
  ·refine AWP.skip (LeQ.start (LeQ.pk [0,2] 0 ?_))
   exact⟨rfl,a,(0:Int),(someb hF).symm,by kernel_rfl,by kernel_rfl⟩
 ·rintro _ _ _ ⟨rfl,b,d,rfl,rfl,rfl⟩
  obtain⟨m,n,hF⟩:=bindb hF
  refine AWP.seq ?_
  refine AWP.mid (fun e st H=>(e=.normal∧∃ c,∃ f,m=(c,f)∧st=[(0,(u64 c)),(2,(i64 f))]∧H=[])) ?_ ?_
  ·clear hF
   have hF:=n
   refine AWP.seq (AWP.rg0 [] [(0,(u64 b)),(2,(i64 d)),(8,(vb (decide (b ≥ (65536:Int)))))] ?_)
   refine AWP.cif hF (fun o hF=>?_) (fun o hF=>?_)
   ·refine AWP.seq (AWP.rg0 [] [(0,(u64 (bShr .u64 b (16:Int)))),(2,(i64 d))] (AWP.rg0 [] [(0,(u64 (bShr .u64 b (16:Int)))),(2,(i64 (ZI (d + (16:Int)))))] (LeQ.start (LeQ.pk [0,2] 0 ?_))))
    exact⟨rfl,(bShr .u64 b (16:Int)),(ZI (d + (16:Int))),(someb hF).symm,by kernel_rfl,by kernel_rfl⟩
   ·refine AWP.skip (LeQ.start (LeQ.pk [0,2] 0 ?_))
    exact⟨rfl,b,d,(someb hF).symm,by kernel_rfl,by kernel_rfl⟩
  ·rintro _ _ _ ⟨rfl,c,f,rfl,rfl,rfl⟩
   obtain⟨p,q,hF⟩:=bindb hF
   refine AWP.seq ?_
   refine AWP.mid (fun e st H=>(e=.normal∧∃ i,∃ g,p=(i,g)∧st=[(0,(u64 i)),(2,(i64 g))]∧H=[])) ?_ ?_
   ·clear hF
    have hF:=q
    refine AWP.seq (AWP.rg0 [] [(0,(u64 c)),(2,(i64 f)),(14,(vb (decide (c ≥ (256:Int)))))] ?_)
    refine AWP.cif hF (fun s hF=>?_) (fun s hF=>?_)
    ·refine AWP.seq (AWP.rg0 [] [(0,(u64 (bShr .u64 c (8:Int)))),(2,(i64 f))] (AWP.rg0 [] [(0,(u64 (bShr .u64 c (8:Int)))),(2,(i64 (ZI (f + (8:Int)))))] (LeQ.start (LeQ.pk [0,2] 0 ?_))))
     exact⟨rfl,(bShr .u64 c (8:Int)),(ZI (f + (8:Int))),(someb hF).symm,by kernel_rfl,by kernel_rfl⟩
    ·refine AWP.skip (LeQ.start (LeQ.pk [0,2] 0 ?_))
     exact⟨rfl,c,f,(someb hF).symm,by kernel_rfl,by kernel_rfl⟩
   ·rintro _ _ _ ⟨rfl,i,g,rfl,rfl,rfl⟩
    refine AWP.seq ?_
    obtain⟨t,u,hF⟩:=bindb hF
    refine AWP.rg0 [(3,.str u)] [(2,(i64 (ZI (g + (ZI t)))))] (AWP.ret ?_)
    have hr:=someb hF
    subst hr
    exact(FnQ.f0 0 (.inr rfl))
def Zm9 (r:Int):PV→List Blk→Prop:=fun p K=>p=(i64 r)∧K=[]
theorem Zjd (a:Int) (r:Int) (hF:Zfm a=some r):ACall Tryz.prog glob 42 [(u64 a)] [] (Zm9 r):=by
 refine ACall.body Tryz.func42 rfl (by kernel_rfl) ?_
 unfold Zfm at hF
 refine AWP.seq (AWP.rg0 [] [(0,(u64 a))] (AWP.seq ?_))
 refine AWP.cF ?_
 refine AWP.skip (AWP.seq ?_)
 obtain⟨b,c,hF⟩:=bindb hF
 refine AWP.rg0 [(1,.call Tryz.func69 [] (Zlg a b c))] [(2,(i64 b))] (AWP.ret ?_)
 have hr:=someb hF
 subst hr
 exact(FnQ.f0 0 (.inr rfl))
def Zkz (r:Bool):PV→List Blk→Prop:=fun p K=>p=(vb r)∧K=[]
theorem Zdw (a:Int) (r:Bool) (hF:Zeu a=some r):ACall Tryz.prog glob 220 [(u64 a)] [] (Zkz r):=by
 refine ACall.body Tryz.func220 rfl (by kernel_rfl) ?_
 unfold Zeu at hF
 refine AWP.seq (AWP.rg0 [] [(0,(u64 a))] (AWP.seq (AWP.rg0 [] [(2,(vb (a != a)))] (AWP.ret ?_))))
 have hr:=someb hF
 subst hr
 exact(FnQ.f0 0 (.inr rfl))
def Zlh (r:Bool):PV→List Blk→Prop:=fun p K=>p=(vb r)∧K=[]
theorem Z1 (a:Int) (b:Int) (r:Bool) (hF:Zv a b=some r):ACall Tryz.prog glob 214 [(u64 a),(u64 b)] [] (Zlh r):=by
 refine ACall.body Tryz.func214 rfl (by kernel_rfl) ?_
 unfold Zv at hF
 refine AWP.seq (AWP.rg0 [] [(0,(u64 a)),(1,(u64 b))] (AWP.seq ?_))
 obtain⟨g,i,hF⟩:=bindb hF
 obtain⟨n,c,hF⟩:=bindb hF
 replace c:=someb c
 obtain⟨p,j,hF⟩:=bindb hF
 obtain⟨k,d,hF⟩:=bindb hF
 replace d:=someb d
 refine AWP.to [(4,(vb (k || (decide (a<b)))))] [] ?_ ?_
 ·cases n with
  | false=>
   have o:=someb (ifF j rfl)
   subst o
   subst d
   exact AWP.rgT [(1,.call Tryz.func220 [] (Zdw a g i)),(2,.bool c)]
  | true=>
   have f:=ifT j rfl
   obtain⟨l,m,f⟩:=bindb f
   replace f:=someb f
   subst f
   cases k with
   | false=>
    exact AWP.rgT [(1,.call Tryz.func220 [] (Zdw a g i)),(2,.bool c),(4,.call Tryz.func220 [] (Zdw b l m)),(7,.bool d)]
   | true=>
    exact AWP.rgT [(1,.call Tryz.func220 [] (Zdw a g i)),(2,.bool c),(4,.call Tryz.func220 [] (Zdw b l m)),(7,.bool d)]
 refine AWP.ret ?_
 have hr:=someb hF
 subst hr
 exact(FnQ.f0 0 (.inr rfl))
def Zfv (a:List Value) (r:(List Int)):PV→List Blk→Prop:=fun p K=>p=(.tup [])∧K=[.cells (cel Zc r a)]
theorem Zfw (d:Nat) (m:(List Int)) (f:List Value) (b:Int) (g:Int) (r:(List Int)) (hF:Zck d m b g=some r):ACall Tryz.prog glob 208 [(.vw 0 0 d),(i64 b),(i64 g)] [.cells (cel Zc m f)] (Zfv f r):=by
 refine ACall.body Tryz.func208 rfl (by kernel_rfl) ?_
 unfold Zck at hF
 refine AWP.seq (AWP.rg0 [] [(0,(.vw 0 0 d)),(1,(i64 b)),(2,(i64 g)),(6,(i64 (ZI (b + (1:Int)))))] ?_)
 obtain⟨v,a3,hF⟩:=bindb hF
 refine AWP.mid (fun e st H=>e=.normal∧st=[]∧H=[.cells (cel Zc v f)]) ?_ ?_
 ·clear hF
  refine AWP.kp [0,1,2,6] 1 ?_
  refine AWP.bround (fun n st H=>∃ k,∃ c,Zaz d b g n k c=some v∧st=[(0,(.vw 0 0 d)),(1,(i64 b)),(2,(i64 g)),(6,(i64 c))]∧H=[.cells (cel Zc k f)]) fuel ⟨m,(ZI (b + (1:Int))),a3,by kernel_rfl,by kernel_rfl⟩ ?_
  rintro o st H ⟨k,c,hF,rfl,rfl⟩
  cases o with
  | zero=>exact noneb hF
  | succ o=>
   rw [Zaz] at hF
   refine AWP.seq (AWP.seq (AWP.rg0 [] [(0,(.vw 0 0 d)),(1,(i64 b)),(2,(i64 g)),(6,(i64 c)),(12,(vb (decide (c<g))))] ?_))
   refine AWP.cif hF (fun a4 hF=>?_) (fun a4 hF=>?_)
   ·refine AWP.skip (AWP.seq (AWP.block (AWP.seq (AWP.rg0 [] [(0,(.vw 0 0 d)),(1,(i64 b)),(2,(i64 g)),(6,(i64 c)),(7,(i64 c))] ?_))))
    obtain⟨p,a5,hF⟩:=bindb hF
    refine AWP.mid (fun e st H=>e=.normal∧st=[(0,(.vw 0 0 d)),(1,(i64 b)),(2,(i64 g)),(6,(i64 c))]∧H=[.cells (cel Zc p f)]) ?_ ?_
    ·clear hF
     refine AWP.kp [0,1,2,6,7] 1 ?_
     refine AWP.bround (fun n st H=>∃ j,∃ a,Zay d b n j a=some p∧st=[(0,(.vw 0 0 d)),(1,(i64 b)),(2,(i64 g)),(6,(i64 c)),(7,(i64 a))]∧H=[.cells (cel Zc j f)]) fuel ⟨k,c,a5,by kernel_rfl,by kernel_rfl⟩ ?_
     rintro q st H ⟨j,a,hF,rfl,rfl⟩
     cases q with
     | zero=>exact noneb hF
     | succ q=>
      rw [Zay] at hF
      refine AWP.seq (AWP.seq ?_)
      obtain⟨a6,l,hF⟩:=bindb hF
      replace l:=someb l
      obtain⟨a7,w,hF⟩:=bindb hF
      refine AWP.to [(0,(.vw 0 0 d)),(1,(i64 b)),(2,(i64 g)),(6,(i64 c)),(7,(i64 a)),(30,(vb a7))] [.cells (cel Zc j f)] ?_ ?_
      ·cases a6 with
       | false=>
        have a8:=someb (ifF w rfl)
        subst a8
        exact AWP.drT [(3,.bool l)] 15 [] [] []
       | true=>
        have i:=ifT w rfl
        obtain⟨a9,x,i⟩:=bindb i
        obtain⟨b0,y,i⟩:=bindb i
        obtain⟨b1,b2,i⟩:=bindb i
        replace i:=someb i
        subst i
        exact AWP.drT [(3,.bool l),(6,.idxV (Zl x)),(7,.ldV Zc (s:=1) (fun _=>rfl) f (Zi x) (0 + Int.toNat a * 1) (Nat.zero_add _) []),(11,.idxV (Zl y)),(12,.ldV Zc (s:=1) (fun _=>rfl) f (Zi y) (0 + Int.toNat (ZI (a - (1:Int))) * 1) (Nat.zero_add _) []),(13,.call Tryz.func214 [] (Z1 a9 b0 b1 b2))] 15 [] [] []
      refine AWP.cif hF (fun b3 hF=>?_) (fun b3 hF=>?_)
      ·refine AWP.skip (AWP.seq (AWP.block ?_))
       obtain⟨t,z,hF⟩:=bindb hF
       obtain⟨u,a0,hF⟩:=bindb hF
       obtain⟨b4,a1,hF⟩:=bindb hF
       obtain⟨b5,a2,hF⟩:=bindb hF
       refine AWP.dr [(8,.idxV (Zl z)),(9,.ldV Zc (s:=1) (fun _=>rfl) f (Zi z) (0 + Int.toNat (ZI (a - (1:Int))) * 1) (Nat.zero_add _) []),(12,.idxV (Zl a0)),(13,.ldV Zc (s:=1) (fun _=>rfl) f (Zi a0) (0 + Int.toNat a * 1) (Nat.zero_add _) []),(14,.idxV (Zl a1)),(15,.stV Zc (s:=1) (fun _=>rfl) f (Zi a1) t (0 + Int.toNat a * 1) (Nat.zero_add _) []),(16,.idxV (Zl a2)),(17,.stV Zc (s:=1) (fun _=>rfl) f (Zi a2) u (0 + Int.toNat (ZI (a - (1:Int))) * 1) (Nat.zero_add _) [])] 16 [] [15] [] [(0,(.vw 0 0 d)),(1,(i64 b)),(2,(i64 g)),(6,(i64 c)),(7,(i64 a))] [.cells (cel Zc (List.set (List.set j (Int.toNat a) t) (Int.toNat (ZI (a - (1:Int)))) u) f)] (AWP.rg0 [] [(0,(.vw 0 0 d)),(1,(i64 b)),(2,(i64 g)),(6,(i64 c)),(7,(i64 (ZI (a - (1:Int)))))] (LeQ.start (LeQ.pk [0,1,2,6,7] 1 ?_)))
       exact⟨q,Nat.lt_succ_self _,(List.set (List.set j (Int.toNat a) t) (Int.toNat (ZI (a - (1:Int)))) u),(ZI (a - (1:Int))),hF,by kernel_rfl,by kernel_rfl⟩
      ·refine AWP.exit (LeQ.start (LeQ.pk [0,1,2,6] 1 ?_))
       have hr:=someb hF
       subst hr
       exact⟨rfl,by kernel_rfl,by kernel_rfl⟩
    ·rintro _ _ _ ⟨rfl,rfl,rfl⟩
     refine AWP.rg0 [] [(0,(.vw 0 0 d)),(1,(i64 b)),(2,(i64 g)),(6,(i64 (ZI (c + (1:Int)))))] (LeQ.start (LeQ.pk [0,1,2,6] 1 ?_))
     exact⟨o,Nat.lt_succ_self _,p,(ZI (c + (1:Int))),hF,by kernel_rfl,by kernel_rfl⟩
   ·refine AWP.exit (LeQ.start (LeQ.pk [] 1 ?_))
    have hr:=someb hF
    subst hr
    exact⟨rfl,by kernel_rfl,by kernel_rfl⟩
 ·rintro _ _ _ ⟨rfl,rfl,rfl⟩
  have hr:=someb hF
  subst hr
  exact(FnQ.f0 1 (.inl rfl))
def Zem (a:List Value) (r:(List Int)):PV→List Blk→Prop:=fun p K=>p=(.tup [])∧K=[.cells (cel Zc r a)]
abbrev Zgx (a:List Value) (r:(List Int)):Exit→St→List Blk→Prop:=FnQ Tryz.prog Tryz.f217.results 1 (Zem a r)
theorem Zen (f:Nat) (m:(List Int)) (c:List Value) (k:Int) (d:Int) (a:Int) (r:(List Int)) (hF:Zb8 f m k d a=some r):ACall Tryz.prog glob 217 [(.vw 0 0 f),(i64 k),(i64 d),(i64 a)] [.cells (cel Zc m c)] (Zem c r):=by
 refine ACall.body Tryz.func217 rfl (by kernel_rfl) ?_
 unfold Zb8 at hF
 refine AWP.seq (AWP.rg0 [] [(0,(.vw 0 0 f)),(2,(i64 d)),(3,(i64 a)),(8,(i64 k))] ?_)
 obtain⟨o,a5,hF⟩:=bindb hF
 refine AWP.mid (fun e st H=>(e=.normal∧∃ p,o=(.inl p)∧st=[]∧H=[.cells (cel Zc p c)])∨(e=.ret∧∃ r,o=(.inr r)∧Zgx c r e st H)) ?_ ?_
 ·clear hF
  refine AWP.kp [0,2,3,8] 1 ?_
  refine AWP.bround (fun n st H=>∃ g,∃ b,Zbo f d a n g b=some o∧st=[(0,(.vw 0 0 f)),(2,(i64 d)),(3,(i64 a)),(8,(i64 b))]∧H=[.cells (cel Zc g c)]) fuel ⟨m,k,a5,by kernel_rfl,by kernel_rfl⟩ ?_
  rintro q st H ⟨g,b,hF,rfl,rfl⟩
  cases q with
  | zero=>exact noneb hF
  | succ q=>
   rw [Zbo] at hF
   refine AWP.block (AWP.seq (AWP.rg0 [] [(0,(.vw 0 0 f)),(2,(i64 d)),(3,(i64 a)),(8,(i64 b)),(9,(i64 (ZI ((ZI ((2:Int) * b)) + (1:Int)))))] (AWP.seq (AWP.seq (AWP.rg0 [] [(0,(.vw 0 0 f)),(2,(i64 d)),(3,(i64 a)),(8,(i64 b)),(9,(i64 (ZI ((ZI ((2:Int) * b)) + (1:Int))))),(16,(vb (decide ((ZI ((ZI ((2:Int) * b)) + (1:Int))) ≥ d))))] ?_)))))
   refine AWP.cif hF (fun a6 hF=>?_) (fun a6 hF=>?_)
   ·refine AWP.exit (LeQ.start (LeQ.pk [] 1 ?_))
    exact(.inl ⟨rfl,g,(someb hF).symm,by kernel_rfl,by kernel_rfl⟩)
   ·refine AWP.skip ?_
    obtain⟨i,a7,hF⟩:=bindb hF
    refine AWP.seq ?_
    refine AWP.mid (fun e st H=>e=.normal∧st=[(0,(.vw 0 0 f)),(2,(i64 d)),(3,(i64 a)),(8,(i64 b)),(9,(i64 i))]∧H=[.cells (cel Zc g c)]) ?_ ?_
    ·clear hF
     have hF:=a7
     refine AWP.seq ?_
     obtain⟨a8,l,hF⟩:=bindb hF
     replace l:=someb l
     obtain⟨a9,v,hF⟩:=bindb hF
     refine AWP.to [(0,(.vw 0 0 f)),(2,(i64 d)),(3,(i64 a)),(8,(i64 b)),(9,(i64 (ZI ((ZI ((2:Int) * b)) + (1:Int))))),(36,(vb a9))] [.cells (cel Zc g c)] ?_ ?_
     ·cases a8 with
      | false=>
       have b0:=someb (ifF v rfl)
       subst b0
       exact AWP.drT [(4,.bool l)] 20 [] [] []
      | true=>
       have j:=ifT v rfl
       obtain⟨b1,w,j⟩:=bindb j
       obtain⟨b2,x,j⟩:=bindb j
       obtain⟨b3,b4,j⟩:=bindb j
       replace j:=someb j
       subst j
       exact AWP.drT [(4,.bool l),(9,.idxV (Zl w)),(10,.ldV Zc (s:=1) (fun _=>rfl) c (Zi w) (0 + Int.toNat (ZI (a + (ZI ((ZI ((2:Int) * b)) + (1:Int))))) * 1) (Nat.zero_add _) []),(16,.idxV (Zl x)),(17,.ldV Zc (s:=1) (fun _=>rfl) c (Zi x) (0 + Int.toNat (ZI ((ZI (a + (ZI ((ZI ((2:Int) * b)) + (1:Int))))) + (1:Int))) * 1) (Nat.zero_add _) []),(18,.call Tryz.func214 [] (Z1 b1 b2 b3 b4))] 20 [] [] []
     refine AWP.cif hF (fun b5 hF=>?_) (fun b5 hF=>?_)
     ·refine AWP.rg0 [] [(0,(.vw 0 0 f)),(2,(i64 d)),(3,(i64 a)),(8,(i64 b)),(9,(i64 (ZI ((ZI ((ZI ((2:Int) * b)) + (1:Int))) + (1:Int)))))] (LeQ.start (LeQ.pk [0,2,3,8,9] 1 ?_))
      have hr:=someb hF
      subst hr
      exact⟨rfl,by kernel_rfl,by kernel_rfl⟩
     ·refine AWP.skip (LeQ.start (LeQ.pk [0,2,3,8,9] 1 ?_))
      have hr:=someb hF
      subst hr
      exact⟨rfl,by kernel_rfl,by kernel_rfl⟩
    ·rintro _ _ _ ⟨rfl,rfl,rfl⟩
     refine AWP.seq (AWP.seq ?_)
     obtain⟨b6,y,hF⟩:=bindb hF
     obtain⟨b7,z,hF⟩:=bindb hF
     obtain⟨a0,b8,hF⟩:=bindb hF
     refine AWP.dr [(4,.idxV (Zl y)),(5,.ldV Zc (s:=1) (fun _=>rfl) c (Zi y) (0 + Int.toNat (ZI (a + b)) * 1) (Nat.zero_add _) []),(10,.idxV (Zl z)),(11,.ldV Zc (s:=1) (fun _=>rfl) c (Zi z) (0 + Int.toNat (ZI (a + i)) * 1) (Nat.zero_add _) []),(12,.call Tryz.func214 [] (Z1 b6 b7 a0 b8))] 14 [] [] [] [(0,(.vw 0 0 f)),(2,(i64 d)),(3,(i64 a)),(8,(i64 b)),(9,(i64 i)),(52,(vb (!a0)))] [.cells (cel Zc g c)] ?_
     refine AWP.cif hF (fun b9 hF=>?_) (fun b9 hF=>?_)
     ·refine AWP.ret ?_
      exact LeQ.of (.inr ⟨rfl,g,(someb hF).symm,(FnQ.f0 1 (.inr rfl))⟩)
     ·refine AWP.skip (AWP.seq ?_)
      obtain⟨t,a1,hF⟩:=bindb hF
      obtain⟨u,a2,hF⟩:=bindb hF
      obtain⟨c0,a3,hF⟩:=bindb hF
      obtain⟨c1,a4,hF⟩:=bindb hF
      refine AWP.dr [(12,.idxV (Zl a1)),(13,.ldV Zc (s:=1) (fun _=>rfl) c (Zi a1) (0 + Int.toNat (ZI (a + i)) * 1) (Nat.zero_add _) []),(18,.idxV (Zl a2)),(19,.ldV Zc (s:=1) (fun _=>rfl) c (Zi a2) (0 + Int.toNat (ZI (a + b)) * 1) (Nat.zero_add _) []),(20,.idxV (Zl a3)),(21,.stV Zc (s:=1) (fun _=>rfl) c (Zi a3) t (0 + Int.toNat (ZI (a + b)) * 1) (Nat.zero_add _) []),(22,.idxV (Zl a4)),(23,.stV Zc (s:=1) (fun _=>rfl) c (Zi a4) u (0 + Int.toNat (ZI (a + i)) * 1) (Nat.zero_add _) [])] 22 [] [21] [] [(0,(.vw 0 0 f)),(2,(i64 d)),(3,(i64 a)),(9,(i64 i))] [.cells (cel Zc (List.set (List.set g (Int.toNat (ZI (a + b))) t) (Int.toNat (ZI (a + i))) u) c)] (AWP.rg0 [] [(0,(.vw 0 0 f)),(2,(i64 d)),(3,(i64 a)),(8,(i64 i))] (LeQ.start (LeQ.pk [0,2,3,8] 1 ?_)))
      exact⟨q,Nat.lt_succ_self _,(List.set (List.set g (Int.toNat (ZI (a + b))) t) (Int.toNat (ZI (a + i))) u),i,hF,by kernel_rfl,by kernel_rfl⟩
 ·rintro _ _ _ (⟨rfl,p,rfl,rfl,rfl⟩ | ⟨rfl,c2,rfl,hq⟩)
  ·have hr:=someb hF
   subst hr
   exact(FnQ.f0 1 (.inl rfl))
  ·have hr:=someb hF
   subst hr
   exact hq
def Zgy (a:List Value) (r:(List Int)):PV→List Blk→Prop:=fun p K=>p=(.tup [])∧K=[.cells (cel Zc r a)]
theorem Zgz (b:Nat) (q:(List Int)) (d:List Value) (a:Int) (f:Int) (r:(List Int)) (hF:Zc9 b q a f=some r):ACall Tryz.prog glob 209 [(.vw 0 0 b),(i64 a),(i64 f)] [.cells (cel Zc q d)] (Zgy d r):=by
 refine ACall.body Tryz.func209 rfl (by kernel_rfl) ?_
 unfold Zc9 at hF
 refine AWP.seq (AWP.rg0 [] [(0,(.vw 0 0 b)),(1,(i64 a)),(2,(i64 f)),(6,(i64 a))] (AWP.seq (AWP.rg0 [] [(0,(.vw 0 0 b)),(1,(i64 a)),(2,(i64 f)),(6,(i64 a)),(7,(i64 (0:Int)))] (AWP.seq (AWP.rg0 [] [(0,(.vw 0 0 b)),(6,(i64 a)),(7,(i64 (0:Int))),(8,(i64 (ZI (f - a))))] (AWP.seq ?_))))))
 refine AWP.seq (AWP.rg0 [] [(0,(.vw 0 0 b)),(6,(i64 a)),(7,(i64 (0:Int))),(8,(i64 (ZI (f - a)))),(9,(i64 (ZI (Int.tdiv (ZI ((ZI (f - a)) - (1:Int))) (2:Int)))))] ?_)
 obtain⟨t,a1,hF⟩:=bindb hF
 refine AWP.mid (fun e st H=>e=.normal∧st=[(0,(.vw 0 0 b)),(6,(i64 a)),(7,(i64 (0:Int))),(8,(i64 (ZI (f - a))))]∧H=[.cells (cel Zc t d)]) ?_ ?_
 ·clear hF
  refine AWP.kp [0,6,7,8,9] 1 ?_
  refine AWP.bround (fun n st H=>∃ k,∃ i,Zbp b a f n k i=some t∧st=[(0,(.vw 0 0 b)),(6,(i64 a)),(7,(i64 (0:Int))),(8,(i64 (ZI (f - a)))),(9,(i64 i))]∧H=[.cells (cel Zc k d)]) fuel ⟨q,(ZI (Int.tdiv (ZI ((ZI (f - a)) - (1:Int))) (2:Int))),a1,by kernel_rfl,by kernel_rfl⟩ ?_
  rintro u st H ⟨k,i,hF,rfl,rfl⟩
  cases u with
  | zero=>exact noneb hF
  | succ u=>
   rw [Zbp] at hF
   refine AWP.seq (AWP.seq (AWP.rg0 [] [(0,(.vw 0 0 b)),(6,(i64 a)),(7,(i64 (0:Int))),(8,(i64 (ZI (f - a)))),(9,(i64 i)),(19,(vb (decide (i ≥ (0:Int)))))] ?_))
   refine AWP.cif hF (fun a2 hF=>?_) (fun a2 hF=>?_)
   ·refine AWP.skip (AWP.seq (AWP.block ?_))
    obtain⟨l,a3,hF⟩:=bindb hF
    refine AWP.rg [(4,.callC Tryz.func217 [] (closedH.c (Zq (row:=Zc) (fun _=>rfl) k d) closedH.n) (closedH.c (Zq (row:=Zc) (fun _=>rfl) l d) closedH.n) (Zen b k d i (ZI (f - a)) a l a3))] [(0,(.vw 0 0 b)),(6,(i64 a)),(7,(i64 (0:Int))),(8,(i64 (ZI (f - a)))),(9,(i64 i))] [.cells (cel Zc l d)] (AWP.rg0 [] [(0,(.vw 0 0 b)),(6,(i64 a)),(7,(i64 (0:Int))),(8,(i64 (ZI (f - a)))),(9,(i64 (ZI (i - (1:Int)))))] (LeQ.start (LeQ.pk [0,6,7,8,9] 1 ?_)))
    exact⟨u,Nat.lt_succ_self _,l,(ZI (i - (1:Int))),hF,by kernel_rfl,by kernel_rfl⟩
   ·refine AWP.exit (LeQ.start (LeQ.pk [0,6,7,8] 1 ?_))
    have hr:=someb hF
    subst hr
    exact⟨rfl,by kernel_rfl,by kernel_rfl⟩
 ·rintro _ _ _ ⟨rfl,rfl,rfl⟩
  refine AWP.seq (AWP.rg0 [] [(0,(.vw 0 0 b)),(6,(i64 a)),(7,(i64 (0:Int))),(10,(i64 (ZI ((ZI (f - a)) - (1:Int)))))] ?_)
  obtain⟨w,a4,hF⟩:=bindb hF
  refine AWP.mid (fun e st H=>e=.normal∧st=[]∧H=[.cells (cel Zc w d)]) ?_ ?_
  ·clear hF
   refine AWP.kp [0,6,7,10] 1 ?_
   refine AWP.bround (fun n st H=>∃ j,∃ g,Zbq b a n j g=some w∧st=[(0,(.vw 0 0 b)),(6,(i64 a)),(7,(i64 (0:Int))),(10,(i64 g))]∧H=[.cells (cel Zc j d)]) fuel ⟨t,(ZI ((ZI (f - a)) - (1:Int))),a4,by kernel_rfl,by kernel_rfl⟩ ?_
   rintro v st H ⟨j,g,hF,rfl,rfl⟩
   cases v with
   | zero=>exact noneb hF
   | succ v=>
    rw [Zbq] at hF
    refine AWP.seq (AWP.seq (AWP.rg0 [] [(0,(.vw 0 0 b)),(6,(i64 a)),(7,(i64 (0:Int))),(10,(i64 g)),(30,(vb (decide (g ≥ (0:Int)))))] ?_))
    refine AWP.cif hF (fun a5 hF=>?_) (fun a5 hF=>?_)
    ·refine AWP.skip (AWP.seq (AWP.block (AWP.seq ?_)))
     obtain⟨m,x,hF⟩:=bindb hF
     obtain⟨o,y,hF⟩:=bindb hF
     obtain⟨a7,z,hF⟩:=bindb hF
     obtain⟨a8,a0,hF⟩:=bindb hF
     refine AWP.dr [(10,.idxV (Zl x)),(11,.ldV Zc (s:=1) (fun _=>rfl) d (Zi x) (0 + Int.toNat (ZI (a + g)) * 1) (Nat.zero_add _) []),(14,.idxV (Zl y)),(15,.ldV Zc (s:=1) (fun _=>rfl) d (Zi y) (0 + Int.toNat a * 1) (Nat.zero_add _) []),(16,.idxV (Zl z)),(17,.stV Zc (s:=1) (fun _=>rfl) d (Zi z) m (0 + Int.toNat a * 1) (Nat.zero_add _) []),(18,.idxV (Zl a0)),(19,.stV Zc (s:=1) (fun _=>rfl) d (Zi a0) o (0 + Int.toNat (ZI (a + g)) * 1) (Nat.zero_add _) [])] 18 [] [17] [] [(0,(.vw 0 0 b)),(6,(i64 a)),(7,(i64 (0:Int))),(10,(i64 g))] [.cells (cel Zc (List.set (List.set j (Int.toNat a) m) (Int.toNat (ZI (a + g))) o) d)] ?_
     obtain⟨p,a6,hF⟩:=bindb hF
     refine AWP.rg [(4,.callC Tryz.func217 [] (closedH.c (Zq (row:=Zc) (fun _=>rfl) (List.set (List.set j (Int.toNat a) m) (Int.toNat (ZI (a + g))) o) d) closedH.n) (closedH.c (Zq (row:=Zc) (fun _=>rfl) p d) closedH.n) (Zen b (List.set (List.set j (Int.toNat a) m) (Int.toNat (ZI (a + g))) o) d (0:Int) g a p a6))] [(0,(.vw 0 0 b)),(6,(i64 a)),(7,(i64 (0:Int))),(10,(i64 g))] [.cells (cel Zc p d)] (AWP.rg0 [] [(0,(.vw 0 0 b)),(6,(i64 a)),(7,(i64 (0:Int))),(10,(i64 (ZI (g - (1:Int)))))] (LeQ.start (LeQ.pk [0,6,7,10] 1 ?_)))
     exact⟨v,Nat.lt_succ_self _,p,(ZI (g - (1:Int))),hF,by kernel_rfl,by kernel_rfl⟩
    ·refine AWP.exit (LeQ.start (LeQ.pk [] 1 ?_))
     have hr:=someb hF
     subst hr
     exact⟨rfl,by kernel_rfl,by kernel_rfl⟩
  ·rintro _ _ _ ⟨rfl,rfl,rfl⟩
   have hr:=someb hF
   subst hr
   exact(FnQ.f0 1 (.inl rfl))
def Ziy (r:Int):PV→List Blk→Prop:=fun p K=>p=(u64 r)∧K=[]
theorem Ziz (a:Int) (r:Int) (hF:Zep a=some r):ACall Tryz.prog glob 104 [(i64 a)] [] (Ziy r):=by
 refine ACall.body Tryz.func104 rfl (by kernel_rfl) ?_
 unfold Zep at hF
 refine AWP.seq (AWP.rg0 [] [(0,(i64 a))] (AWP.seq ?_))
 obtain⟨b,c,hF⟩:=bindb hF
 obtain⟨d,hF⟩:=chkb hF
 refine AWP.rg0 [(2,.call Tryz.func42 [] (Zjd (IntKind.wrap .u64 a) b c)),(3,.sh d)] [(2,(u64 (bShl .u64 (1:Int) b)))] (AWP.ret ?_)
 have hr:=someb hF
 subst hr
 exact(FnQ.f0 0 (.inr rfl))
def Zji (r:(Int × Int)):PV→List Blk→Prop:=fun p K=>p=(u64 r.1)∧K=[.cells (Zc r.2)]
theorem Zjj (a:Int) (r:(Int × Int)) (hF:Ze1 a=some r):ACall Tryz.prog glob 105 [(.ptr 0 0)] [.cells (Zc a)] (Zji r):=by
 refine ACall.body Tryz.func105 rfl (by kernel_rfl) ?_
 unfold Ze1 at hF
 refine AWP.seq (AWP.rg0 [] [(0,(.ptr 0 0))] (AWP.seq (AWP.dr [] 8 [] [] [] [(0,(.ptr 0 0))] [.cells (Zc (bXor .u64 a (bShl .u64 a (13:Int))))] (AWP.seq (AWP.dr [] 8 [] [] [] [(0,(.ptr 0 0))] [.cells (Zc (bXor .u64 (bXor .u64 a (bShl .u64 a (13:Int))) (bShr .u64 (bXor .u64 a (bShl .u64 a (13:Int))) (7:Int))))] (AWP.seq ?_))))))
 refine AWP.dr [] 8 [] [] [] [(0,(.ptr 0 0))] [.cells (Zc (bXor .u64 (bXor .u64 (bXor .u64 a (bShl .u64 a (13:Int))) (bShr .u64 (bXor .u64 a (bShl .u64 a (13:Int))) (7:Int))) (bShl .u64 (bXor .u64 (bXor .u64 a (bShl .u64 a (13:Int))) (bShr .u64 (bXor .u64 a (bShl .u64 a (13:Int))) (7:Int))) (17:Int))))] (AWP.seq (AWP.rg0 [] [(2,(u64 (bXor .u64 (bXor .u64 (bXor .u64 a (bShl .u64 a (13:Int))) (bShr .u64 (bXor .u64 a (bShl .u64 a (13:Int))) (7:Int))) (bShl .u64 (bXor .u64 (bXor .u64 a (bShl .u64 a (13:Int))) (bShr .u64 (bXor .u64 a (bShl .u64 a (13:Int))) (7:Int))) (17:Int)))))] (AWP.ret ?_)))
 have hr:=someb hF
 subst hr
 exact(FnQ.f0 1 (.inr rfl))
def Zfx (a:List Value) (r:(List Int)):PV→List Blk→Prop:=fun p K=>p=(.tup [])∧K=[.cells (cel Zc r a)]
theorem Zfy (c:Nat) (m:(List Int)) (g:List Value) (a:Int) (b:Int) (r:(List Int)) (hF:Zcl c m a b=some r):ACall Tryz.prog glob 210 [(.vw 0 0 c),(i64 a),(i64 b)] [.cells (cel Zc m g)] (Zfx g r):=by
 refine ACall.body Tryz.func210 rfl (by kernel_rfl) ?_
 unfold Zcl at hF
 refine AWP.seq (AWP.rg0 [] [(0,(.vw 0 0 c)),(1,(i64 a)),(6,(i64 (ZI (b - a))))] (AWP.seq (AWP.rg0 [] [(0,(.vw 0 0 c)),(1,(i64 a)),(6,(i64 (ZI (b - a)))),(15,(vb (decide ((ZI (b - a)) ≥ (8:Int)))))] ?_)))
 refine AWP.cif hF (fun a2 hF=>?_) (fun a2 hF=>?_)
 ·refine AWP.seq (AWP.rg [] [(0,(.vw 0 0 c)),(1,(i64 a)),(6,(i64 (ZI (b - a)))),(7,(.ptr 1 0))] [.cells (cel Zc m g),.cells (Zc (IntKind.wrap .u64 (ZI (b - a))))] (AWP.seq ?_))
  obtain⟨d,a3,hF⟩:=bindb hF
  refine AWP.rg0 [(1,.call Tryz.func104 [] (Ziz (ZI (b - a)) d a3))] [(0,(.vw 0 0 c)),(1,(i64 a)),(6,(i64 (ZI (b - a)))),(7,(.ptr 1 0)),(8,(u64 d))] (AWP.seq (AWP.rg0 [] [(0,(.vw 0 0 c)),(1,(i64 a)),(6,(i64 (ZI (b - a)))),(7,(.ptr 1 0)),(8,(u64 d)),(9,(i64 (ZI ((ZI (a + (ZI ((ZI (Int.tdiv (ZI (b - a)) (4:Int))) * (2:Int))))) - (1:Int)))))] ?_))
  obtain⟨x,a4,hF⟩:=bindb hF
  refine AWP.mid (fun e st H=>(e=.normal∧∃ q,∃ t,x=(q,t)∧st=[]∧H=[.cells (cel Zc q g),.cells (Zc t)])) ?_ ?_
  ·clear hF
   refine AWP.kp [0,1,6,7,8,9] 2 ?_
   refine AWP.bround (fun n st H=>∃ j,∃ k,∃ f,Za0 c a b d n j k f=some x∧st=[(0,(.vw 0 0 c)),(1,(i64 a)),(6,(i64 (ZI (b - a)))),(7,(.ptr 1 0)),(8,(u64 d)),(9,(i64 f))]∧H=[.cells (cel Zc j g),.cells (Zc k)]) fuel ⟨m,(IntKind.wrap .u64 (ZI (b - a))),(ZI ((ZI (a + (ZI ((ZI (Int.tdiv (ZI (b - a)) (4:Int))) * (2:Int))))) - (1:Int))),a4,by kernel_rfl,by kernel_rfl⟩ ?_
   rintro u st H ⟨j,k,f,hF,rfl,rfl⟩
   cases u with
   | zero=>exact noneb hF
   | succ u=>
    rw [Za0] at hF
    refine AWP.seq (AWP.seq (AWP.rg0 [] [(0,(.vw 0 0 c)),(1,(i64 a)),(6,(i64 (ZI (b - a)))),(7,(.ptr 1 0)),(8,(u64 d)),(9,(i64 f)),(33,(vb (decide (f≤(ZI ((ZI (a + (ZI ((ZI (Int.tdiv (ZI (b - a)) (4:Int))) * (2:Int))))) + (1:Int)))))))] ?_))
    refine AWP.cif hF (fun a5 hF=>?_) (fun a5 hF=>?_)
    ·refine AWP.skip ?_
     obtain⟨a6,a7,hF⟩:=bindb hF
     refine AWP.seq ?_
     refine AWP.mid (fun e st H=>(e=.normal∧∃ o,∃ p,a6=(o,p)∧st=[(0,(.vw 0 0 c)),(1,(i64 a)),(6,(i64 (ZI (b - a)))),(7,(.ptr 1 0)),(8,(u64 d)),(9,(i64 f))]∧H=[.cells (cel Zc o g),.cells (Zc p)])) ?_ ?_
     ·clear hF
      have hF:=a7
      refine AWP.block (AWP.seq ?_)
      obtain⟨i,a8,hF⟩:=bindb hF
      refine AWP.rg [(0,.call Tryz.func105 [] (Zjj k i a8))] [(0,(.vw 0 0 c)),(1,(i64 a)),(6,(i64 (ZI (b - a)))),(7,(.ptr 1 0)),(8,(u64 d)),(9,(i64 f)),(10,(i64 (ZI (bAnd .u64 i.1 (IntKind.wrap .u64 (d - (1:Int)))))))] [.cells (cel Zc j g),.cells (Zc i.2)] ?_
      obtain⟨l,a9,hF⟩:=bindb hF
      refine AWP.seq ?_
      refine AWP.mid (fun e st H=>e=.normal∧st=[(0,(.vw 0 0 c)),(1,(i64 a)),(6,(i64 (ZI (b - a)))),(7,(.ptr 1 0)),(8,(u64 d)),(9,(i64 f)),(10,(i64 l))]∧H=[.cells (cel Zc j g),.cells (Zc i.2)]) ?_ ?_
      ·clear hF
       have hF:=a9
       refine AWP.seq (AWP.rg0 [] [(0,(.vw 0 0 c)),(1,(i64 a)),(6,(i64 (ZI (b - a)))),(7,(.ptr 1 0)),(8,(u64 d)),(9,(i64 f)),(10,(i64 (ZI (bAnd .u64 i.1 (IntKind.wrap .u64 (d - (1:Int))))))),(43,(vb (decide ((ZI (bAnd .u64 i.1 (IntKind.wrap .u64 (d - (1:Int))))) ≥ (ZI (b - a))))))] ?_)
       refine AWP.cif hF (fun b0 hF=>?_) (fun b0 hF=>?_)
       ·refine AWP.rg0 [] [(0,(.vw 0 0 c)),(1,(i64 a)),(6,(i64 (ZI (b - a)))),(7,(.ptr 1 0)),(8,(u64 d)),(9,(i64 f)),(10,(i64 (ZI ((ZI (bAnd .u64 i.1 (IntKind.wrap .u64 (d - (1:Int))))) - (ZI (b - a))))))] (LeQ.start (LeQ.pk [0,1,6,7,8,9,10] 2 ?_))
        have hr:=someb hF
        subst hr
        exact⟨rfl,by kernel_rfl,by kernel_rfl⟩
       ·refine AWP.skip (LeQ.start (LeQ.pk [0,1,6,7,8,9,10] 2 ?_))
        have hr:=someb hF
        subst hr
        exact⟨rfl,by kernel_rfl,by kernel_rfl⟩
      ·rintro _ _ _ ⟨rfl,rfl,rfl⟩
       obtain⟨v,y,hF⟩:=bindb hF
       obtain⟨w,z,hF⟩:=bindb hF
       obtain⟨b1,a0,hF⟩:=bindb hF
       obtain⟨b2,a1,hF⟩:=bindb hF
       refine AWP.dr [(10,.idxV (Zl y)),(11,.ldV Zc (s:=1) (fun _=>rfl) g (Zi y) (0 + Int.toNat (ZI (a + l)) * 1) (Nat.zero_add _) []),(14,.idxV (Zl z)),(15,.ldV Zc (s:=1) (fun _=>rfl) g (Zi z) (0 + Int.toNat f * 1) (Nat.zero_add _) []),(16,.idxV (Zl a0)),(17,.stV Zc (s:=1) (fun _=>rfl) g (Zi a0) v (0 + Int.toNat f * 1) (Nat.zero_add _) []),(18,.idxV (Zl a1)),(19,.stV Zc (s:=1) (fun _=>rfl) g (Zi a1) w (0 + Int.toNat (ZI (a + l)) * 1) (Nat.zero_add _) [])] 18 [] [17] [] [(0,(.vw 0 0 c)),(1,(i64 a)),(6,(i64 (ZI (b - a)))),(7,(.ptr 1 0)),(8,(u64 d)),(9,(i64 f))] [.cells (cel Zc (List.set (List.set j (Int.toNat f) v) (Int.toNat (ZI (a + l))) w) g),.cells (Zc i.2)] (LeQ.start (LeQ.pk [0,1,6,7,8,9] 2 ?_))
       exact⟨rfl,(List.set (List.set j (Int.toNat f) v) (Int.toNat (ZI (a + l))) w),i.2,(someb hF).symm,by kernel_rfl,by kernel_rfl⟩
     ·rintro _ _ _ ⟨rfl,o,p,rfl,rfl,rfl⟩
      refine AWP.rg0 [] [(0,(.vw 0 0 c)),(1,(i64 a)),(6,(i64 (ZI (b - a)))),(7,(.ptr 1 0)),(8,(u64 d)),(9,(i64 (ZI (f + (1:Int)))))] (LeQ.start (LeQ.pk [0,1,6,7,8,9] 2 ?_))
      exact⟨u,Nat.lt_succ_self _,o,p,(ZI (f + (1:Int))),hF,by kernel_rfl,by kernel_rfl⟩
    ·refine AWP.exit (LeQ.start (LeQ.pk [] 2 ?_))
     exact⟨rfl,j,k,(someb hF).symm,by kernel_rfl,by kernel_rfl⟩
  ·rintro _ _ _ ⟨rfl,q,t,rfl,rfl,rfl⟩
   have hr:=someb hF
   subst hr
   exact(FnQ.f0 1 (.inl rfl))
 ·refine AWP.skip ?_
  have hr:=someb hF
  subst hr
  exact(FnQ.f0 1 (.inl rfl))
def Zhf (a:(List Int)) (b:List Value) (r:(Int × Int × Int)):PV→List Blk→Prop:=fun p K=>p=(.tup [(i64 r.1),(i64 r.2.1)])∧K=[.cells (cel Zc a b),.cells (Ze r.2.2)]
theorem Zdk (g:Nat) (d:(List Int)) (c:List Value) (a:Int) (b:Int) (f:Int) (r:(Int × Int × Int)) (hF:Zbm g d a b f=some r):ACall Tryz.prog glob 221 [(.vw 0 0 g),(i64 a),(i64 b),(.ptr 1 0)] [.cells (cel Zc d c),.cells (Ze f)] (Zhf d c r):=by
 refine ACall.body Tryz.func221 rfl (by kernel_rfl) ?_
 unfold Zbm at hF
 refine AWP.seq (AWP.rg0 [] [(0,(.vw 0 0 g)),(1,(i64 a)),(2,(i64 b)),(3,(.ptr 1 0))] (AWP.seq (AWP.seq ?_)))
 obtain⟨l,i,hF⟩:=bindb hF
 obtain⟨m,j,hF⟩:=bindb hF
 obtain⟨k,n,hF⟩:=bindb hF
 refine AWP.dr [(2,.idxV (Zl i)),(3,.ldV Zc (s:=1) (fun _=>rfl) c (Zi i) (0 + Int.toNat b * 1) (Nat.zero_add _) []),(6,.idxV (Zl j)),(7,.ldV Zc (s:=1) (fun _=>rfl) c (Zi j) (0 + Int.toNat a * 1) (Nat.zero_add _) []),(8,.call Tryz.func214 [] (Z1 l m k n))] 9 [] [] [] [(1,(i64 a)),(2,(i64 b)),(3,(.ptr 1 0)),(18,(vb k))] [.cells (cel Zc d c),.cells (Ze f)] ?_
 refine AWP.cif hF (fun o hF=>?_) (fun o hF=>?_)
 ·refine AWP.seq (AWP.rg [] [(1,(i64 a)),(2,(i64 b))] [.cells (cel Zc d c),.cells (Ze (ZI (f + (1:Int))))] (AWP.seq (AWP.rg0 [] [(8,(i64 b)),(9,(i64 a))] (AWP.ret ?_))))
  have hr:=someb hF
  subst hr
  exact(FnQ.f0 2 (.inr rfl))
 ·refine AWP.skip (AWP.seq (AWP.rg0 [] [(8,(i64 a)),(9,(i64 b))] (AWP.ret ?_)))
  have hr:=someb hF
  subst hr
  exact(FnQ.f0 2 (.inr rfl))
def Zhg (a:(List Int)) (b:List Value) (r:(Int × Int)):PV→List Blk→Prop:=fun p K=>p=(i64 r.1)∧K=[.cells (cel Zc a b),.cells (Ze r.2)]
theorem Ze3 (f:Nat) (a:(List Int)) (b:List Value) (k:Int) (l:Int) (i:Int) (m:Int) (r:(Int × Int)) (hF:Zch f a k l i m=some r):ACall Tryz.prog glob 219 [(.vw 0 0 f),(i64 k),(i64 l),(i64 i),(.ptr 1 0)] [.cells (cel Zc a b),.cells (Ze m)] (Zhg a b r):=by
 refine ACall.body Tryz.func219 rfl (by kernel_rfl) ?_
 unfold Zch at hF
 refine AWP.seq (AWP.rg0 [] [(0,(.vw 0 0 f)),(1,(i64 k)),(2,(i64 l)),(3,(i64 i)),(4,(.ptr 1 0))] (AWP.seq ?_))
 obtain⟨d,o,hF⟩:=bindb hF
 refine AWP.rg [(4,.callC Tryz.func221 [] (closedH.c (Zq (row:=Zc) (fun _=>rfl) a b) (closedH.c (cs:=Ze m) rfl closedH.n)) (closedH.c (Zq (row:=Zc) (fun _=>rfl) a b) (closedH.c (cs:=Ze d.2.2) rfl closedH.n)) (Zdk f a b k l m d o))] [(0,(.vw 0 0 f)),(1,(i64 d.1)),(2,(i64 d.2.1)),(3,(i64 i)),(4,(.ptr 1 0))] [.cells (cel Zc a b),.cells (Ze d.2.2)] (AWP.seq ?_)
 obtain⟨g,p,hF⟩:=bindb hF
 refine AWP.rg [(4,.callC Tryz.func221 [] (closedH.c (Zq (row:=Zc) (fun _=>rfl) a b) (closedH.c (cs:=Ze d.2.2) rfl closedH.n)) (closedH.c (Zq (row:=Zc) (fun _=>rfl) a b) (closedH.c (cs:=Ze g.2.2) rfl closedH.n)) (Zdk f a b d.2.1 i d.2.2 g p))] [(0,(.vw 0 0 f)),(1,(i64 d.1)),(2,(i64 g.1)),(4,(.ptr 1 0))] [.cells (cel Zc a b),.cells (Ze g.2.2)] (AWP.seq ?_)
 obtain⟨j,q,hF⟩:=bindb hF
 refine AWP.rg [(4,.callC Tryz.func221 [] (closedH.c (Zq (row:=Zc) (fun _=>rfl) a b) (closedH.c (cs:=Ze g.2.2) rfl closedH.n)) (closedH.c (Zq (row:=Zc) (fun _=>rfl) a b) (closedH.c (cs:=Ze j.2.2) rfl closedH.n)) (Zdk f a b d.1 g.1 g.2.2 j q))] [(2,(i64 j.2.1))] [.cells (cel Zc a b),.cells (Ze j.2.2)] (AWP.seq (AWP.rg0 [] [(10,(i64 j.2.1))] (AWP.ret ?_)))
 have hr:=someb hF
 subst hr
 exact(FnQ.f0 2 (.inr rfl))
def Zfn (a:(List Int)) (b:List Value) (r:(Int × Int)):PV→List Blk→Prop:=fun p K=>p=(i64 r.1)∧K=[.cells (cel Zc a b),.cells (Ze r.2)]
theorem Zcg (f:Nat) (a:(List Int)) (b:List Value) (d:Int) (g:Int) (r:(Int × Int)) (hF:Zah f a d g=some r):ACall Tryz.prog glob 218 [(.vw 0 0 f),(i64 d),(.ptr 1 0)] [.cells (cel Zc a b),.cells (Ze g)] (Zfn a b r):=by
 refine ACall.body Tryz.func218 rfl (by kernel_rfl) ?_
 unfold Zah at hF
 refine AWP.seq (AWP.rg0 [] [(0,(.vw 0 0 f)),(1,(i64 d)),(2,(.ptr 1 0))] (AWP.seq ?_))
 obtain⟨i,j,hF⟩:=bindb hF
 refine AWP.rg [(7,.callC Tryz.func219 [] (closedH.c (Zq (row:=Zc) (fun _=>rfl) a b) (closedH.c (cs:=Ze g) rfl closedH.n)) (closedH.c (Zq (row:=Zc) (fun _=>rfl) a b) (closedH.c (cs:=Ze i.2) rfl closedH.n)) (Ze3 f a b (ZI (d - (1:Int))) d (ZI (d + (1:Int))) g i j))] [(6,(i64 i.1))] [.cells (cel Zc a b),.cells (Ze i.2)] (AWP.ret ?_)
 have hr:=someb hF
 subst hr
 exact(FnQ.f0 2 (.inr rfl))
def Zgc (a:(List Int)) (b:List Value) (r:(Int × Int)):PV→List Blk→Prop:=fun p K=>p=(.tup [(i64 r.1),(i64 r.2)])∧K=[.cells (cel Zc a b)]
theorem Zgd (g:Nat) (d:(List Int)) (f:List Value) (a:Int) (b:Int) (r:(Int × Int)) (hF:Zcw g d a b=some r):ACall Tryz.prog glob 211 [(.vw 0 0 g),(i64 a),(i64 b)] [.cells (cel Zc d f)] (Zgc d f r):=by
 refine ACall.body Tryz.func211 rfl (by kernel_rfl) ?_
 unfold Zcw at hF
 refine AWP.seq (AWP.rg0 [] [(0,(.vw 0 0 g)),(1,(i64 a)),(2,(i64 b))] (AWP.seq (AWP.rg0 [] [(0,(.vw 0 0 g)),(1,(i64 a)),(8,(i64 (ZI (b - a))))] (AWP.seq (AWP.rg [] [(0,(.vw 0 0 g)),(1,(i64 a)),(8,(i64 (ZI (b - a)))),(9,(.ptr 1 0))] [.cells (cel Zc d f),.cells (Ze (0:Int))] (AWP.seq ?_))))))
 refine AWP.rg0 [] [(0,(.vw 0 0 g)),(1,(i64 a)),(8,(i64 (ZI (b - a)))),(9,(.ptr 1 0)),(10,(i64 (ZI (a + (ZI ((ZI (Int.tdiv (ZI (b - a)) (4:Int))) * (1:Int)))))))] (AWP.seq (AWP.rg0 [] [(0,(.vw 0 0 g)),(1,(i64 a)),(8,(i64 (ZI (b - a)))),(9,(.ptr 1 0)),(10,(i64 (ZI (a + (ZI ((ZI (Int.tdiv (ZI (b - a)) (4:Int))) * (1:Int))))))),(11,(i64 (ZI (a + (ZI ((ZI (Int.tdiv (ZI (b - a)) (4:Int))) * (2:Int)))))))] (AWP.seq (AWP.rg0 [] [(0,(.vw 0 0 g)),(8,(i64 (ZI (b - a)))),(9,(.ptr 1 0)),(10,(i64 (ZI (a + (ZI ((ZI (Int.tdiv (ZI (b - a)) (4:Int))) * (1:Int))))))),(11,(i64 (ZI (a + (ZI ((ZI (Int.tdiv (ZI (b - a)) (4:Int))) * (2:Int))))))),(12,(i64 (ZI (a + (ZI ((ZI (Int.tdiv (ZI (b - a)) (4:Int))) * (3:Int)))))))] ?_))))
 obtain⟨u,v,hF⟩:=bindb hF
 refine AWP.seq ?_
 refine AWP.mid (fun e st H=>(e=.normal∧∃ l,∃ i,u=(l,i)∧st=[(9,(.ptr 1 0)),(11,(i64 i))]∧H=[.cells (cel Zc d f),.cells (Ze l)])) ?_ ?_
 ·clear hF
  have hF:=v
  refine AWP.seq (AWP.rg0 [] [(0,(.vw 0 0 g)),(8,(i64 (ZI (b - a)))),(9,(.ptr 1 0)),(10,(i64 (ZI (a + (ZI ((ZI (Int.tdiv (ZI (b - a)) (4:Int))) * (1:Int))))))),(11,(i64 (ZI (a + (ZI ((ZI (Int.tdiv (ZI (b - a)) (4:Int))) * (2:Int))))))),(12,(i64 (ZI (a + (ZI ((ZI (Int.tdiv (ZI (b - a)) (4:Int))) * (3:Int))))))),(32,(vb (decide ((ZI (b - a)) ≥ (8:Int)))))] ?_)
  refine AWP.cif hF (fun w hF=>?_) (fun w hF=>?_)
  ·obtain⟨x,y,hF⟩:=bindb hF
   refine AWP.seq ?_
   refine AWP.mid (fun e st H=>(e=.normal∧∃ p,∃ q,∃ s,∃ t,x=(p,q,s,t)∧st=[(0,(.vw 0 0 g)),(9,(.ptr 1 0)),(10,(i64 q)),(11,(i64 s)),(12,(i64 t))]∧H=[.cells (cel Zc d f),.cells (Ze p)])) ?_ ?_
   ·clear hF
    have hF:=y
    refine AWP.seq (AWP.rg0 [] [(0,(.vw 0 0 g)),(9,(.ptr 1 0)),(10,(i64 (ZI (a + (ZI ((ZI (Int.tdiv (ZI (b - a)) (4:Int))) * (1:Int))))))),(11,(i64 (ZI (a + (ZI ((ZI (Int.tdiv (ZI (b - a)) (4:Int))) * (2:Int))))))),(12,(i64 (ZI (a + (ZI ((ZI (Int.tdiv (ZI (b - a)) (4:Int))) * (3:Int))))))),(34,(vb (decide ((ZI (b - a)) ≥ (50:Int)))))] ?_)
    refine AWP.cif hF (fun z hF=>?_) (fun z hF=>?_)
    ·refine AWP.seq ?_
     obtain⟨j,a0,hF⟩:=bindb hF
     refine AWP.rg [(2,.callC Tryz.func218 [] (closedH.c (Zq (row:=Zc) (fun _=>rfl) d f) (closedH.c (cs:=Ze (0:Int)) rfl closedH.n)) (closedH.c (Zq (row:=Zc) (fun _=>rfl) d f) (closedH.c (cs:=Ze j.2) rfl closedH.n)) (Zcg g d f (ZI (a + (ZI ((ZI (Int.tdiv (ZI (b - a)) (4:Int))) * (1:Int))))) (0:Int) j a0))] [(0,(.vw 0 0 g)),(9,(.ptr 1 0)),(10,(i64 j.1)),(11,(i64 (ZI (a + (ZI ((ZI (Int.tdiv (ZI (b - a)) (4:Int))) * (2:Int))))))),(12,(i64 (ZI (a + (ZI ((ZI (Int.tdiv (ZI (b - a)) (4:Int))) * (3:Int)))))))] [.cells (cel Zc d f),.cells (Ze j.2)] (AWP.seq ?_)
     obtain⟨k,a1,hF⟩:=bindb hF
     refine AWP.rg [(2,.callC Tryz.func218 [] (closedH.c (Zq (row:=Zc) (fun _=>rfl) d f) (closedH.c (cs:=Ze j.2) rfl closedH.n)) (closedH.c (Zq (row:=Zc) (fun _=>rfl) d f) (closedH.c (cs:=Ze k.2) rfl closedH.n)) (Zcg g d f (ZI (a + (ZI ((ZI (Int.tdiv (ZI (b - a)) (4:Int))) * (2:Int))))) j.2 k a1))] [(0,(.vw 0 0 g)),(9,(.ptr 1 0)),(10,(i64 j.1)),(11,(i64 k.1)),(12,(i64 (ZI (a + (ZI ((ZI (Int.tdiv (ZI (b - a)) (4:Int))) * (3:Int)))))))] [.cells (cel Zc d f),.cells (Ze k.2)] ?_
     obtain⟨m,a2,hF⟩:=bindb hF
     refine AWP.rg [(2,.callC Tryz.func218 [] (closedH.c (Zq (row:=Zc) (fun _=>rfl) d f) (closedH.c (cs:=Ze k.2) rfl closedH.n)) (closedH.c (Zq (row:=Zc) (fun _=>rfl) d f) (closedH.c (cs:=Ze m.2) rfl closedH.n)) (Zcg g d f (ZI (a + (ZI ((ZI (Int.tdiv (ZI (b - a)) (4:Int))) * (3:Int))))) k.2 m a2))] [(0,(.vw 0 0 g)),(9,(.ptr 1 0)),(10,(i64 j.1)),(11,(i64 k.1)),(12,(i64 m.1))] [.cells (cel Zc d f),.cells (Ze m.2)] (LeQ.start (LeQ.pk [0,9,10,11,12] 2 ?_))
     exact⟨rfl,m.2,j.1,k.1,m.1,(someb hF).symm,by kernel_rfl,by kernel_rfl⟩
    ·refine AWP.skip (LeQ.start (LeQ.pk [0,9,10,11,12] 2 ?_))
     exact⟨rfl,(0:Int),(ZI (a + (ZI ((ZI (Int.tdiv (ZI (b - a)) (4:Int))) * (1:Int))))),(ZI (a + (ZI ((ZI (Int.tdiv (ZI (b - a)) (4:Int))) * (2:Int))))),(ZI (a + (ZI ((ZI (Int.tdiv (ZI (b - a)) (4:Int))) * (3:Int))))),(someb hF).symm,by kernel_rfl,by kernel_rfl⟩
   ·rintro _ _ _ ⟨rfl,p,q,s,t,rfl,rfl,rfl⟩
    obtain⟨o,a3,hF⟩:=bindb hF
    refine AWP.rg [(4,.callC Tryz.func219 [] (closedH.c (Zq (row:=Zc) (fun _=>rfl) d f) (closedH.c (cs:=Ze p) rfl closedH.n)) (closedH.c (Zq (row:=Zc) (fun _=>rfl) d f) (closedH.c (cs:=Ze o.2) rfl closedH.n)) (Ze3 g d f q s t p o a3))] [(9,(.ptr 1 0)),(11,(i64 o.1))] [.cells (cel Zc d f),.cells (Ze o.2)] (LeQ.start (LeQ.pk [9,11] 2 ?_))
    exact⟨rfl,o.2,o.1,(someb hF).symm,by kernel_rfl,by kernel_rfl⟩
  ·refine AWP.skip (LeQ.start (LeQ.pk [9,11] 2 ?_))
   exact⟨rfl,(0:Int),(ZI (a + (ZI ((ZI (Int.tdiv (ZI (b - a)) (4:Int))) * (2:Int))))),(someb hF).symm,by kernel_rfl,by kernel_rfl⟩
 ·rintro _ _ _ ⟨rfl,l,i,rfl,rfl,rfl⟩
  refine AWP.seq (AWP.rg0 [] [(11,(i64 i)),(49,(i64 l))] (AWP.block (AWP.seq (AWP.rg0 [] [(11,(i64 i)),(49,(i64 l)),(51,(vb (l == (0:Int))))] ?_))))
  refine AWP.cif hF (fun a4 hF=>?_) (fun a4 hF=>?_)
  ·refine AWP.seq (AWP.rg0 [] [(6,(i64 i)),(7,(i64 (1:Int)))] (AWP.ret ?_))
   have hr:=someb hF
   subst hr
   exact(FnQ.f0 1 (.inr rfl))
  ·refine AWP.seq (AWP.rg0 [] [(11,(i64 i)),(54,(vb (l == (12:Int))))] ?_)
   refine AWP.cif hF (fun a5 hF=>?_) (fun a5 hF=>?_)
   ·refine AWP.seq (AWP.rg0 [] [(6,(i64 i)),(7,(i64 (2:Int)))] (AWP.ret ?_))
    have hr:=someb hF
    subst hr
    exact(FnQ.f0 1 (.inr rfl))
   ·refine AWP.seq (AWP.rg0 [] [(6,(i64 i)),(7,(i64 (0:Int)))] (AWP.ret ?_))
    have hr:=someb hF
    subst hr
    exact(FnQ.f0 1 (.inr rfl))
def Zf4 (a:List Value) (r:(List Int)):PV→List Blk→Prop:=fun p K=>p=(.tup [])∧K=[.cells (cel Zc r a)]
theorem Zf5 (c:Nat) (j:(List Int)) (d:List Value) (f:Int) (g:Int) (r:(List Int)) (hF:Zcr c j f g=some r):ACall Tryz.prog glob 212 [(.vw 0 0 c),(i64 f),(i64 g)] [.cells (cel Zc j d)] (Zf4 d r):=by
 refine ACall.body Tryz.func212 rfl (by kernel_rfl) ?_
 unfold Zcr at hF
 refine AWP.seq (AWP.rg0 [] [(0,(.vw 0 0 c)),(2,(i64 g)),(6,(i64 f))] (AWP.seq (AWP.rg0 [] [(0,(.vw 0 0 c)),(6,(i64 f)),(7,(i64 (ZI (g - (1:Int)))))] ?_)))
 obtain⟨o,v,hF⟩:=bindb hF
 refine AWP.mid (fun e st H=>e=.normal∧st=[]∧H=[.cells (cel Zc o d)]) ?_ ?_
 ·clear hF
  refine AWP.kp [0,6,7] 1 ?_
  refine AWP.bround (fun n st H=>∃ i,∃ a,∃ b,Za4 c n i a b=some o∧st=[(0,(.vw 0 0 c)),(6,(i64 a)),(7,(i64 b))]∧H=[.cells (cel Zc i d)]) fuel ⟨j,f,(ZI (g - (1:Int))),v,by kernel_rfl,by kernel_rfl⟩ ?_
  rintro k st H ⟨i,a,b,hF,rfl,rfl⟩
  cases k with
  | zero=>exact noneb hF
  | succ k=>
   rw [Za4] at hF
   refine AWP.seq (AWP.seq (AWP.rg0 [] [(0,(.vw 0 0 c)),(6,(i64 a)),(7,(i64 b)),(13,(vb (decide (a<b))))] ?_))
   refine AWP.cif hF (fun w hF=>?_) (fun w hF=>?_)
   ·refine AWP.skip (AWP.block (AWP.seq ?_))
    obtain⟨l,p,hF⟩:=bindb hF
    obtain⟨m,q,hF⟩:=bindb hF
    obtain⟨x,t,hF⟩:=bindb hF
    obtain⟨y,u,hF⟩:=bindb hF
    refine AWP.dr [(6,.idxV (Zl p)),(7,.ldV Zc (s:=1) (fun _=>rfl) d (Zi p) (0 + Int.toNat b * 1) (Nat.zero_add _) []),(10,.idxV (Zl q)),(11,.ldV Zc (s:=1) (fun _=>rfl) d (Zi q) (0 + Int.toNat a * 1) (Nat.zero_add _) []),(12,.idxV (Zl t)),(13,.stV Zc (s:=1) (fun _=>rfl) d (Zi t) l (0 + Int.toNat a * 1) (Nat.zero_add _) []),(14,.idxV (Zl u)),(15,.stV Zc (s:=1) (fun _=>rfl) d (Zi u) m (0 + Int.toNat b * 1) (Nat.zero_add _) [])] 14 [] [13] [] [(0,(.vw 0 0 c)),(6,(i64 a)),(7,(i64 b))] [.cells (cel Zc (List.set (List.set i (Int.toNat a) l) (Int.toNat b) m) d)] (AWP.seq (AWP.rg0 [] [(0,(.vw 0 0 c)),(6,(i64 (ZI (a + (1:Int))))),(7,(i64 b))] (AWP.rg0 [] [(0,(.vw 0 0 c)),(6,(i64 (ZI (a + (1:Int))))),(7,(i64 (ZI (b - (1:Int)))))] (LeQ.start (LeQ.pk [0,6,7] 1 ?_)))))
    exact⟨k,Nat.lt_succ_self _,(List.set (List.set i (Int.toNat a) l) (Int.toNat b) m),(ZI (a + (1:Int))),(ZI (b - (1:Int))),hF,by kernel_rfl,by kernel_rfl⟩
   ·refine AWP.exit (LeQ.start (LeQ.pk [] 1 ?_))
    have hr:=someb hF
    subst hr
    exact⟨rfl,by kernel_rfl,by kernel_rfl⟩
 ·rintro _ _ _ ⟨rfl,rfl,rfl⟩
  have hr:=someb hF
  subst hr
  exact(FnQ.f0 1 (.inl rfl))
def Zc4 (a:List Value) (r:(Bool × (List Int))):PV→List Blk→Prop:=fun p K=>p=(vb r.1)∧K=[.cells (cel Zc r.2 a)]
abbrev Zc5 (a:List Value) (r:(Bool × (List Int))):Exit→St→List Blk→Prop:=FnQ Tryz.prog Tryz.f213.results 1 (Zc4 a r)
theorem Ze6 (f:Nat) (w:(List Int)) (d:List Value) (b:Int) (a:Int) (r:(Bool × (List Int))) (hF:Zbn f w b a=some r):ACall Tryz.prog glob 213 [(.vw 0 0 f),(i64 b),(i64 a)] [.cells (cel Zc w d)] (Zc4 d r):=by
 refine ACall.body Tryz.func213 rfl (by kernel_rfl) ?_
 unfold Zbn at hF
 refine AWP.seq (AWP.rg0 [] [(0,(.vw 0 0 f)),(1,(i64 b)),(2,(i64 a))] (AWP.seq (AWP.rg0 [] [(0,(.vw 0 0 f)),(1,(i64 b)),(2,(i64 a)),(7,(i64 (ZI (b + (1:Int)))))] (AWP.seq (AWP.seq (AWP.rg0 [] [(0,(.vw 0 0 f)),(1,(i64 b)),(2,(i64 a)),(7,(i64 (ZI (b + (1:Int))))),(8,(i64 (0:Int)))] ?_))))))
 obtain⟨x,d4,hF⟩:=bindb hF
 refine AWP.mid (fun e st H=>(e=.normal∧∃ y,x=(.inl y)∧st=[]∧H=[.cells (cel Zc y d)])∨(e=.ret∧∃ r,x=(.inr r)∧Zc5 d r e st H)) ?_ ?_
 ·clear hF
  refine AWP.kp [0,1,2,7,8] 1 ?_
  refine AWP.bround (fun n st H=>∃ k,∃ q,∃ g,Zaf f b a n k q g=some x∧st=[(0,(.vw 0 0 f)),(1,(i64 b)),(2,(i64 a)),(7,(i64 q)),(8,(i64 g))]∧H=[.cells (cel Zc k d)]) fuel ⟨w,(ZI (b + (1:Int))),(0:Int),d4,by kernel_rfl,by kernel_rfl⟩ ?_
  rintro z st H ⟨k,q,g,hF,rfl,rfl⟩
  cases z with
  | zero=>exact noneb hF
  | succ z=>
   rw [Zaf] at hF
   refine AWP.seq (AWP.seq (AWP.rg0 [] [(0,(.vw 0 0 f)),(1,(i64 b)),(2,(i64 a)),(7,(i64 q)),(8,(i64 g)),(14,(vb (decide (g<(5:Int)))))] ?_))
   refine AWP.cif hF (fun d5 hF=>?_) (fun d5 hF=>?_)
   ·refine AWP.skip ?_
    obtain⟨b1,d6,hF⟩:=bindb hF
    refine AWP.seq ?_
    refine AWP.mid (fun e st H=>(e=.normal∧∃ u,∃ t,b1=(.inl (u,t))∧st=[(0,(.vw 0 0 f)),(1,(i64 b)),(2,(i64 a)),(7,(i64 t)),(8,(i64 g))]∧H=[.cells (cel Zc u d)])∨(e=.ret∧∃ r,b1=(.inr r)∧Zc5 d r e st H)) ?_ ?_
    ·clear hF
     have hF:=d6
     refine AWP.block (AWP.seq ?_)
     obtain⟨c,d7,hF⟩:=bindb hF
     refine AWP.mid (fun e st H=>e=.normal∧st=[(0,(.vw 0 0 f)),(1,(i64 b)),(2,(i64 a)),(7,(i64 c)),(8,(i64 g))]∧H=[.cells (cel Zc k d)]) ?_ ?_
     ·clear hF
      refine AWP.kp [0,1,2,7,8] 1 ?_
      refine AWP.bround (fun n st H=>∃ m,Zac f a k n m=some c∧st=[(0,(.vw 0 0 f)),(1,(i64 b)),(2,(i64 a)),(7,(i64 m)),(8,(i64 g))]∧H=[.cells (cel Zc k d)]) fuel ⟨q,d7,by kernel_rfl,by kernel_rfl⟩ ?_
      rintro a0 st H ⟨m,hF,rfl,rfl⟩
      cases a0 with
      | zero=>exact noneb hF
      | succ a0=>
       rw [Zac] at hF
       refine AWP.seq (AWP.seq ?_)
       obtain⟨d8,v,hF⟩:=bindb hF
       replace v:=someb v
       obtain⟨d9,b2,hF⟩:=bindb hF
       refine AWP.to [(0,(.vw 0 0 f)),(1,(i64 b)),(2,(i64 a)),(7,(i64 m)),(8,(i64 g)),(32,(vb d9))] [.cells (cel Zc k d)] ?_ ?_
       ·cases d8 with
        | false=>
         have e0:=someb (ifF b2 rfl)
         subst e0
         exact AWP.drT [(3,.bool v)] 16 [] [] []
        | true=>
         have l:=ifT b2 rfl
         obtain⟨e1,b3,l⟩:=bindb l
         obtain⟨e2,b4,l⟩:=bindb l
         obtain⟨e3,e4,l⟩:=bindb l
         replace l:=someb l
         subst l
         exact AWP.drT [(3,.bool v),(6,.idxV (Zl b3)),(7,.ldV Zc (s:=1) (fun _=>rfl) d (Zi b3) (0 + Int.toNat m * 1) (Nat.zero_add _) []),(11,.idxV (Zl b4)),(12,.ldV Zc (s:=1) (fun _=>rfl) d (Zi b4) (0 + Int.toNat (ZI (m - (1:Int))) * 1) (Nat.zero_add _) []),(13,.call Tryz.func214 [] (Z1 e1 e2 e3 e4))] 16 [] [] []
       refine AWP.cif hF (fun e5 hF=>?_) (fun e5 hF=>?_)
       ·refine AWP.skip (AWP.block (AWP.rg0 [] [(0,(.vw 0 0 f)),(1,(i64 b)),(2,(i64 a)),(7,(i64 (ZI (m + (1:Int))))),(8,(i64 g))] (LeQ.start (LeQ.pk [0,1,2,7,8] 1 ?_))))
        exact⟨a0,Nat.lt_succ_self _,(ZI (m + (1:Int))),hF,by kernel_rfl,by kernel_rfl⟩
       ·refine AWP.exit (LeQ.start (LeQ.pk [0,1,2,7,8] 1 ?_))
        have hr:=someb hF
        subst hr
        exact⟨rfl,by kernel_rfl,by kernel_rfl⟩
     ·rintro _ _ _ ⟨rfl,rfl,rfl⟩
      refine AWP.seq (AWP.seq (AWP.rg0 [] [(0,(.vw 0 0 f)),(1,(i64 b)),(2,(i64 a)),(7,(i64 c)),(8,(i64 g)),(37,(vb (c == a)))] ?_))
      refine AWP.cif hF (fun e6 hF=>?_) (fun e6 hF=>?_)
      ·refine AWP.seq (AWP.rg0 [] [(6,(vb true))] (AWP.ret ?_))
       exact LeQ.of (.inr ⟨rfl,(true,k),(someb hF).symm,(FnQ.f0 1 (.inr rfl))⟩)
      ·refine AWP.skip (AWP.seq (AWP.seq (AWP.rg0 [] [(0,(.vw 0 0 f)),(1,(i64 b)),(2,(i64 a)),(7,(i64 c)),(8,(i64 g)),(41,(vb (decide ((ZI (a - b))<(50:Int)))))] ?_)))
       refine AWP.cif hF (fun e7 hF=>?_) (fun e7 hF=>?_)
       ·refine AWP.seq (AWP.rg0 [] [(6,(vb false))] (AWP.ret ?_))
        exact LeQ.of (.inr ⟨rfl,(false,k),(someb hF).symm,(FnQ.f0 1 (.inr rfl))⟩)
       ·refine AWP.skip (AWP.seq ?_)
        obtain⟨a1,b5,hF⟩:=bindb hF
        obtain⟨a2,b6,hF⟩:=bindb hF
        obtain⟨g5,b7,hF⟩:=bindb hF
        obtain⟨g6,b8,hF⟩:=bindb hF
        refine AWP.dr [(8,.idxV (Zl b5)),(9,.ldV Zc (s:=1) (fun _=>rfl) d (Zi b5) (0 + Int.toNat (ZI (c - (1:Int))) * 1) (Nat.zero_add _) []),(12,.idxV (Zl b6)),(13,.ldV Zc (s:=1) (fun _=>rfl) d (Zi b6) (0 + Int.toNat c * 1) (Nat.zero_add _) []),(14,.idxV (Zl b7)),(15,.stV Zc (s:=1) (fun _=>rfl) d (Zi b7) a1 (0 + Int.toNat c * 1) (Nat.zero_add _) []),(16,.idxV (Zl b8)),(17,.stV Zc (s:=1) (fun _=>rfl) d (Zi b8) a2 (0 + Int.toNat (ZI (c - (1:Int))) * 1) (Nat.zero_add _) [])] 16 [] [15] [] [(0,(.vw 0 0 f)),(1,(i64 b)),(2,(i64 a)),(7,(i64 c)),(8,(i64 g))] [.cells (cel Zc (List.set (List.set k (Int.toNat c) a1) (Int.toNat (ZI (c - (1:Int)))) a2) d)] ?_
        obtain⟨a3,e8,hF⟩:=bindb hF
        refine AWP.seq ?_
        refine AWP.mid (fun e st H=>e=.normal∧st=[(0,(.vw 0 0 f)),(1,(i64 b)),(2,(i64 a)),(7,(i64 c)),(8,(i64 g))]∧H=[.cells (cel Zc a3 d)]) ?_ ?_
        ·clear hF
         have hF:=e8
         refine AWP.seq (AWP.rg0 [] [(0,(.vw 0 0 f)),(1,(i64 b)),(2,(i64 a)),(7,(i64 c)),(8,(i64 g)),(61,(vb (decide ((ZI (c - b)) ≥ (2:Int)))))] ?_)
         refine AWP.cif hF (fun e9 hF=>?_) (fun e9 hF=>?_)
         ·refine AWP.seq (AWP.rg0 [] [(0,(.vw 0 0 f)),(1,(i64 b)),(2,(i64 a)),(7,(i64 c)),(8,(i64 g)),(9,(i64 (ZI (c - (1:Int)))))] ?_)
          obtain⟨b9,f1,hF⟩:=bindb hF
          refine AWP.mid (fun e st H=>e=.normal∧st=[(0,(.vw 0 0 f)),(1,(i64 b)),(2,(i64 a)),(7,(i64 c)),(8,(i64 g))]∧H=[.cells (cel Zc b9 d)]) ?_ ?_
          ·clear hF
           refine AWP.kp [0,1,2,7,8,9] 1 ?_
           refine AWP.bround (fun n st H=>∃ o,∃ i,Zad f n o i=some b9∧st=[(0,(.vw 0 0 f)),(1,(i64 b)),(2,(i64 a)),(7,(i64 c)),(8,(i64 g)),(9,(i64 i))]∧H=[.cells (cel Zc o d)]) fuel ⟨(List.set (List.set k (Int.toNat c) a1) (Int.toNat (ZI (c - (1:Int)))) a2),(ZI (c - (1:Int))),f1,by kernel_rfl,by kernel_rfl⟩ ?_
           rintro a4 st H ⟨o,i,hF,rfl,rfl⟩
           cases a4 with
           | zero=>exact noneb hF
           | succ a4=>
            rw [Zad] at hF
            refine AWP.seq (AWP.seq (AWP.rg0 [] [(0,(.vw 0 0 f)),(1,(i64 b)),(2,(i64 a)),(7,(i64 c)),(8,(i64 g)),(9,(i64 i)),(65,(vb (decide (i ≥ (1:Int)))))] ?_))
            refine AWP.cif hF (fun f2 hF=>?_) (fun f2 hF=>?_)
            ·refine AWP.skip (AWP.seq (AWP.block (AWP.seq (AWP.seq ?_))))
             obtain⟨f3,c0,hF⟩:=bindb hF
             obtain⟨f4,c1,hF⟩:=bindb hF
             obtain⟨c2,f5,hF⟩:=bindb hF
             refine AWP.dr [(2,.idxV (Zl c0)),(3,.ldV Zc (s:=1) (fun _=>rfl) d (Zi c0) (0 + Int.toNat i * 1) (Nat.zero_add _) []),(7,.idxV (Zl c1)),(8,.ldV Zc (s:=1) (fun _=>rfl) d (Zi c1) (0 + Int.toNat (ZI (i - (1:Int))) * 1) (Nat.zero_add _) []),(9,.call Tryz.func214 [] (Z1 f3 f4 c2 f5))] 11 [] [] [] [(0,(.vw 0 0 f)),(1,(i64 b)),(2,(i64 a)),(7,(i64 c)),(8,(i64 g)),(9,(i64 i)),(78,(vb (!c2)))] [.cells (cel Zc o d)] ?_
             refine AWP.cif hF (fun f6 hF=>?_) (fun f6 hF=>?_)
             ·refine AWP.exit (LeQ.start (LeQ.pk [0,1,2,7,8] 1 ?_))
              have hr:=someb hF
              subst hr
              exact⟨rfl,by kernel_rfl,by kernel_rfl⟩
             ·refine AWP.skip ?_
              obtain⟨a5,c3,hF⟩:=bindb hF
              obtain⟨a6,c4,hF⟩:=bindb hF
              obtain⟨g7,c5,hF⟩:=bindb hF
              obtain⟨g8,c6,hF⟩:=bindb hF
              refine AWP.dr [(8,.idxV (Zl c3)),(9,.ldV Zc (s:=1) (fun _=>rfl) d (Zi c3) (0 + Int.toNat (ZI (i - (1:Int))) * 1) (Nat.zero_add _) []),(12,.idxV (Zl c4)),(13,.ldV Zc (s:=1) (fun _=>rfl) d (Zi c4) (0 + Int.toNat i * 1) (Nat.zero_add _) []),(14,.idxV (Zl c5)),(15,.stV Zc (s:=1) (fun _=>rfl) d (Zi c5) a5 (0 + Int.toNat i * 1) (Nat.zero_add _) []),(16,.idxV (Zl c6)),(17,.stV Zc (s:=1) (fun _=>rfl) d (Zi c6) a6 (0 + Int.toNat (ZI (i - (1:Int))) * 1) (Nat.zero_add _) [])] 16 [] [15] [] [(0,(.vw 0 0 f)),(1,(i64 b)),(2,(i64 a)),(7,(i64 c)),(8,(i64 g)),(9,(i64 i))] [.cells (cel Zc (List.set (List.set o (Int.toNat i) a5) (Int.toNat (ZI (i - (1:Int)))) a6) d)] (AWP.rg0 [] [(0,(.vw 0 0 f)),(1,(i64 b)),(2,(i64 a)),(7,(i64 c)),(8,(i64 g)),(9,(i64 (ZI (i - (1:Int)))))] (LeQ.start (LeQ.pk [0,1,2,7,8,9] 1 ?_)))
              exact⟨a4,Nat.lt_succ_self _,(List.set (List.set o (Int.toNat i) a5) (Int.toNat (ZI (i - (1:Int)))) a6),(ZI (i - (1:Int))),hF,by kernel_rfl,by kernel_rfl⟩
            ·refine AWP.exit (LeQ.start (LeQ.pk [0,1,2,7,8] 1 ?_))
             have hr:=someb hF
             subst hr
             exact⟨rfl,by kernel_rfl,by kernel_rfl⟩
          ·rintro _ _ _ ⟨rfl,rfl,rfl⟩
           refine LeQ.start (LeQ.pk [0,1,2,7,8] 1 ?_)
           have hr:=someb hF
           subst hr
           exact⟨rfl,by kernel_rfl,by kernel_rfl⟩
         ·refine AWP.skip (LeQ.start (LeQ.pk [0,1,2,7,8] 1 ?_))
          have hr:=someb hF
          subst hr
          exact⟨rfl,by kernel_rfl,by kernel_rfl⟩
        ·rintro _ _ _ ⟨rfl,rfl,rfl⟩
         refine AWP.seq (AWP.rg0 [] [(0,(.vw 0 0 f)),(1,(i64 b)),(2,(i64 a)),(7,(i64 c)),(8,(i64 g)),(98,(vb (decide ((ZI (a - c)) ≥ (2:Int)))))] ?_)
         refine AWP.cif hF (fun f7 hF=>?_) (fun f7 hF=>?_)
         ·refine AWP.seq (AWP.rg0 [] [(0,(.vw 0 0 f)),(1,(i64 b)),(2,(i64 a)),(7,(i64 c)),(8,(i64 g)),(10,(i64 (ZI (c + (1:Int)))))] ?_)
          obtain⟨a7,f8,hF⟩:=bindb hF
          refine AWP.mid (fun e st H=>e=.normal∧st=[(0,(.vw 0 0 f)),(1,(i64 b)),(2,(i64 a)),(7,(i64 c)),(8,(i64 g))]∧H=[.cells (cel Zc a7 d)]) ?_ ?_
          ·clear hF
           refine AWP.kp [0,1,2,7,8,10] 1 ?_
           refine AWP.bround (fun n st H=>∃ p,∃ j,Zae f a n p j=some a7∧st=[(0,(.vw 0 0 f)),(1,(i64 b)),(2,(i64 a)),(7,(i64 c)),(8,(i64 g)),(10,(i64 j))]∧H=[.cells (cel Zc p d)]) fuel ⟨a3,(ZI (c + (1:Int))),f8,by kernel_rfl,by kernel_rfl⟩ ?_
           rintro a8 st H ⟨p,j,hF,rfl,rfl⟩
           cases a8 with
           | zero=>exact noneb hF
           | succ a8=>
            rw [Zae] at hF
            refine AWP.seq (AWP.seq (AWP.rg0 [] [(0,(.vw 0 0 f)),(1,(i64 b)),(2,(i64 a)),(7,(i64 c)),(8,(i64 g)),(10,(i64 j)),(103,(vb (decide (j<a))))] ?_))
            refine AWP.cif hF (fun f9 hF=>?_) (fun f9 hF=>?_)
            ·refine AWP.skip (AWP.seq (AWP.block (AWP.seq (AWP.seq ?_))))
             obtain⟨g0,c7,hF⟩:=bindb hF
             obtain⟨g1,c8,hF⟩:=bindb hF
             obtain⟨c9,g2,hF⟩:=bindb hF
             refine AWP.dr [(2,.idxV (Zl c7)),(3,.ldV Zc (s:=1) (fun _=>rfl) d (Zi c7) (0 + Int.toNat j * 1) (Nat.zero_add _) []),(7,.idxV (Zl c8)),(8,.ldV Zc (s:=1) (fun _=>rfl) d (Zi c8) (0 + Int.toNat (ZI (j - (1:Int))) * 1) (Nat.zero_add _) []),(9,.call Tryz.func214 [] (Z1 g0 g1 c9 g2))] 11 [] [] [] [(0,(.vw 0 0 f)),(1,(i64 b)),(2,(i64 a)),(7,(i64 c)),(8,(i64 g)),(10,(i64 j)),(116,(vb (!c9)))] [.cells (cel Zc p d)] ?_
             refine AWP.cif hF (fun g3 hF=>?_) (fun g3 hF=>?_)
             ·refine AWP.exit (LeQ.start (LeQ.pk [0,1,2,7,8] 1 ?_))
              have hr:=someb hF
              subst hr
              exact⟨rfl,by kernel_rfl,by kernel_rfl⟩
             ·refine AWP.skip ?_
              obtain⟨a9,d0,hF⟩:=bindb hF
              obtain⟨b0,d1,hF⟩:=bindb hF
              obtain⟨g9,d2,hF⟩:=bindb hF
              obtain⟨h0,d3,hF⟩:=bindb hF
              refine AWP.dr [(8,.idxV (Zl d0)),(9,.ldV Zc (s:=1) (fun _=>rfl) d (Zi d0) (0 + Int.toNat (ZI (j - (1:Int))) * 1) (Nat.zero_add _) []),(12,.idxV (Zl d1)),(13,.ldV Zc (s:=1) (fun _=>rfl) d (Zi d1) (0 + Int.toNat j * 1) (Nat.zero_add _) []),(14,.idxV (Zl d2)),(15,.stV Zc (s:=1) (fun _=>rfl) d (Zi d2) a9 (0 + Int.toNat j * 1) (Nat.zero_add _) []),(16,.idxV (Zl d3)),(17,.stV Zc (s:=1) (fun _=>rfl) d (Zi d3) b0 (0 + Int.toNat (ZI (j - (1:Int))) * 1) (Nat.zero_add _) [])] 16 [] [15] [] [(0,(.vw 0 0 f)),(1,(i64 b)),(2,(i64 a)),(7,(i64 c)),(8,(i64 g)),(10,(i64 j))] [.cells (cel Zc (List.set (List.set p (Int.toNat j) a9) (Int.toNat (ZI (j - (1:Int)))) b0) d)] (AWP.rg0 [] [(0,(.vw 0 0 f)),(1,(i64 b)),(2,(i64 a)),(7,(i64 c)),(8,(i64 g)),(10,(i64 (ZI (j + (1:Int)))))] (LeQ.start (LeQ.pk [0,1,2,7,8,10] 1 ?_)))
              exact⟨a8,Nat.lt_succ_self _,(List.set (List.set p (Int.toNat j) a9) (Int.toNat (ZI (j - (1:Int)))) b0),(ZI (j + (1:Int))),hF,by kernel_rfl,by kernel_rfl⟩
            ·refine AWP.exit (LeQ.start (LeQ.pk [0,1,2,7,8] 1 ?_))
             have hr:=someb hF
             subst hr
             exact⟨rfl,by kernel_rfl,by kernel_rfl⟩
          ·rintro _ _ _ ⟨rfl,rfl,rfl⟩
           refine LeQ.start (LeQ.pk [0,1,2,7,8] 1 ?_)
           exact(.inl ⟨rfl,a7,c,(someb hF).symm,by kernel_rfl,by kernel_rfl⟩)
         ·refine AWP.skip (LeQ.start (LeQ.pk [0,1,2,7,8] 1 ?_))
          exact(.inl ⟨rfl,a3,c,(someb hF).symm,by kernel_rfl,by kernel_rfl⟩)
    ·rintro _ _ _ (⟨rfl,u,t,rfl,rfl,rfl⟩ | ⟨rfl,g4,rfl,hq⟩)
     ·refine AWP.rg0 [] [(0,(.vw 0 0 f)),(1,(i64 b)),(2,(i64 a)),(7,(i64 t)),(8,(i64 (ZI (g + (1:Int)))))] (LeQ.start (LeQ.pk [0,1,2,7,8] 1 ?_))
      exact⟨z,Nat.lt_succ_self _,u,t,(ZI (g + (1:Int))),hF,by kernel_rfl,by kernel_rfl⟩
     ·exact LeQ.of (.inr ⟨rfl,g4,(someb hF).symm,hq⟩)
   ·refine AWP.exit (LeQ.start (LeQ.pk [] 1 ?_))
    exact(.inl ⟨rfl,k,(someb hF).symm,by kernel_rfl,by kernel_rfl⟩)
 ·rintro _ _ _ (⟨rfl,y,rfl,rfl,rfl⟩ | ⟨rfl,h1,rfl,hq⟩)
  ·refine AWP.seq (AWP.rg0 [] [(6,(vb false))] (AWP.ret ?_))
   have hr:=someb hF
   subst hr
   exact(FnQ.f0 1 (.inr rfl))
  ·have hr:=someb hF
   subst hr
   exact hq
def Zfo (a:List Value) (r:(Int × (List Int))):PV→List Blk→Prop:=fun p K=>p=(i64 r.1)∧K=[.cells (cel Zc r.2 a)]
theorem Zfp (c:Nat) (q:(List Int)) (b:List Value) (a:Int) (p:Int) (l:Int) (r:(Int × (List Int))) (hF:Zcf c q a p l=some r):ACall Tryz.prog glob 215 [(.vw 0 0 c),(i64 a),(i64 p),(i64 l)] [.cells (cel Zc q b)] (Zfo b r):=by
 refine ACall.body Tryz.func215 rfl (by kernel_rfl) ?_
 unfold Zcf at hF
 refine AWP.seq (AWP.rg0 [] [(0,(.vw 0 0 c)),(1,(i64 a)),(2,(i64 p)),(3,(i64 l))] (AWP.seq ?_))
 obtain⟨x,a5,hF⟩:=bindb hF
 obtain⟨y,a6,hF⟩:=bindb hF
 obtain⟨e0,a7,hF⟩:=bindb hF
 obtain⟨e1,a8,hF⟩:=bindb hF
 refine AWP.dr [(6,.idxV (Zl a5)),(7,.ldV Zc (s:=1) (fun _=>rfl) b (Zi a5) (0 + Int.toNat l * 1) (Nat.zero_add _) []),(10,.idxV (Zl a6)),(11,.ldV Zc (s:=1) (fun _=>rfl) b (Zi a6) (0 + Int.toNat a * 1) (Nat.zero_add _) []),(12,.idxV (Zl a7)),(13,.stV Zc (s:=1) (fun _=>rfl) b (Zi a7) x (0 + Int.toNat a * 1) (Nat.zero_add _) []),(14,.idxV (Zl a8)),(15,.stV Zc (s:=1) (fun _=>rfl) b (Zi a8) y (0 + Int.toNat l * 1) (Nat.zero_add _) [])] 14 [] [13] [] [(0,(.vw 0 0 c)),(1,(i64 a)),(2,(i64 p))] [.cells (cel Zc (List.set (List.set q (Int.toNat a) x) (Int.toNat l) y) b)] (AWP.seq (AWP.rg0 [] [(0,(.vw 0 0 c)),(1,(i64 a)),(9,(i64 (ZI (a + (1:Int))))),(10,(i64 (ZI (p - (1:Int)))))] (AWP.seq ?_)))
 obtain⟨a9,c0,hF⟩:=bindb hF
 refine AWP.mid (fun e st H=>(e=.normal∧∃ z,∃ t,a9=(z,t)∧st=[(9,(i64 t))]∧H=[.cells (cel Zc z b)])) ?_ ?_
 ·clear hF
  refine AWP.kp [0,1,9,10] 1 ?_
  refine AWP.bround (fun n st H=>∃ f,∃ u,∃ i,Zax c a n f u i=some a9∧st=[(0,(.vw 0 0 c)),(1,(i64 a)),(9,(i64 u)),(10,(i64 i))]∧H=[.cells (cel Zc f b)]) fuel ⟨(List.set (List.set q (Int.toNat a) x) (Int.toNat l) y),(ZI (a + (1:Int))),(ZI (p - (1:Int))),c0,by kernel_rfl,by kernel_rfl⟩ ?_
  rintro a0 st H ⟨f,u,i,hF,rfl,rfl⟩
  cases a0 with
  | zero=>exact noneb hF
  | succ a0=>
   rw [Zax] at hF
   refine AWP.block (AWP.seq ?_)
   obtain⟨d,c1,hF⟩:=bindb hF
   refine AWP.mid (fun e st H=>e=.normal∧st=[(0,(.vw 0 0 c)),(1,(i64 a)),(9,(i64 d)),(10,(i64 i))]∧H=[.cells (cel Zc f b)]) ?_ ?_
   ·clear hF
    refine AWP.kp [0,1,9,10] 1 ?_
    refine AWP.bround (fun n st H=>∃ m,Zav c a f i n m=some d∧st=[(0,(.vw 0 0 c)),(1,(i64 a)),(9,(i64 m)),(10,(i64 i))]∧H=[.cells (cel Zc f b)]) fuel ⟨u,c1,by kernel_rfl,by kernel_rfl⟩ ?_
    rintro a1 st H ⟨m,hF,rfl,rfl⟩
    cases a1 with
    | zero=>exact noneb hF
    | succ a1=>
     rw [Zav] at hF
     refine AWP.seq (AWP.seq ?_)
     obtain⟨c2,v,hF⟩:=bindb hF
     replace v:=someb v
     obtain⟨c3,b0,hF⟩:=bindb hF
     refine AWP.to [(0,(.vw 0 0 c)),(1,(i64 a)),(9,(i64 m)),(10,(i64 i)),(43,(vb c3))] [.cells (cel Zc f b)] ?_ ?_
     ·cases c2 with
      | false=>
       have c4:=someb (ifF b0 rfl)
       subst c4
       exact AWP.drT [(3,.bool v)] 15 [] [] []
      | true=>
       have j:=ifT b0 rfl
       obtain⟨c5,b1,j⟩:=bindb j
       obtain⟨c6,b2,j⟩:=bindb j
       obtain⟨c7,c8,j⟩:=bindb j
       replace j:=someb j
       subst j
       exact AWP.drT [(3,.bool v),(6,.idxV (Zl b1)),(7,.ldV Zc (s:=1) (fun _=>rfl) b (Zi b1) (0 + Int.toNat a * 1) (Nat.zero_add _) []),(10,.idxV (Zl b2)),(11,.ldV Zc (s:=1) (fun _=>rfl) b (Zi b2) (0 + Int.toNat m * 1) (Nat.zero_add _) []),(12,.call Tryz.func214 [] (Z1 c5 c6 c7 c8))] 15 [] [] []
     refine AWP.cif hF (fun c9 hF=>?_) (fun c9 hF=>?_)
     ·refine AWP.skip (AWP.block (AWP.rg0 [] [(0,(.vw 0 0 c)),(1,(i64 a)),(9,(i64 (ZI (m + (1:Int))))),(10,(i64 i))] (LeQ.start (LeQ.pk [0,1,9,10] 1 ?_))))
      exact⟨a1,Nat.lt_succ_self _,(ZI (m + (1:Int))),hF,by kernel_rfl,by kernel_rfl⟩
     ·refine AWP.exit (LeQ.start (LeQ.pk [0,1,9,10] 1 ?_))
      have hr:=someb hF
      subst hr
      exact⟨rfl,by kernel_rfl,by kernel_rfl⟩
   ·rintro _ _ _ ⟨rfl,rfl,rfl⟩
    refine AWP.seq ?_
    obtain⟨g,d0,hF⟩:=bindb hF
    refine AWP.mid (fun e st H=>e=.normal∧st=[(0,(.vw 0 0 c)),(1,(i64 a)),(9,(i64 d)),(10,(i64 g))]∧H=[.cells (cel Zc f b)]) ?_ ?_
    ·clear hF
     refine AWP.kp [0,1,9,10] 1 ?_
     refine AWP.bround (fun n st H=>∃ o,Zaw c a f d n o=some g∧st=[(0,(.vw 0 0 c)),(1,(i64 a)),(9,(i64 d)),(10,(i64 o))]∧H=[.cells (cel Zc f b)]) fuel ⟨i,d0,by kernel_rfl,by kernel_rfl⟩ ?_
     rintro a2 st H ⟨o,hF,rfl,rfl⟩
     cases a2 with
     | zero=>exact noneb hF
     | succ a2=>
      rw [Zaw] at hF
      refine AWP.seq (AWP.seq ?_)
      obtain⟨d1,w,hF⟩:=bindb hF
      replace w:=someb w
      obtain⟨d2,b3,hF⟩:=bindb hF
      refine AWP.to [(0,(.vw 0 0 c)),(1,(i64 a)),(9,(i64 d)),(10,(i64 o)),(59,(vb d2))] [.cells (cel Zc f b)] ?_ ?_
      ·cases d1 with
       | false=>
        have d3:=someb (ifF b3 rfl)
        subst d3
        exact AWP.drT [(3,.bool w)] 14 [] [] []
       | true=>
        have k:=ifT b3 rfl
        obtain⟨d4,b4,k⟩:=bindb k
        obtain⟨d5,b5,k⟩:=bindb k
        obtain⟨d6,d7,k⟩:=bindb k
        replace k:=someb k
        subst k
        exact AWP.drT [(3,.bool w),(6,.idxV (Zl b4)),(7,.ldV Zc (s:=1) (fun _=>rfl) b (Zi b4) (0 + Int.toNat a * 1) (Nat.zero_add _) []),(10,.idxV (Zl b5)),(11,.ldV Zc (s:=1) (fun _=>rfl) b (Zi b5) (0 + Int.toNat o * 1) (Nat.zero_add _) []),(12,.call Tryz.func214 [] (Z1 d4 d5 d6 d7))] 14 [] [] []
      refine AWP.cif hF (fun d8 hF=>?_) (fun d8 hF=>?_)
      ·refine AWP.skip (AWP.block (AWP.rg0 [] [(0,(.vw 0 0 c)),(1,(i64 a)),(9,(i64 d)),(10,(i64 (ZI (o - (1:Int)))))] (LeQ.start (LeQ.pk [0,1,9,10] 1 ?_))))
       exact⟨a2,Nat.lt_succ_self _,(ZI (o - (1:Int))),hF,by kernel_rfl,by kernel_rfl⟩
      ·refine AWP.exit (LeQ.start (LeQ.pk [0,1,9,10] 1 ?_))
       have hr:=someb hF
       subst hr
       exact⟨rfl,by kernel_rfl,by kernel_rfl⟩
    ·rintro _ _ _ ⟨rfl,rfl,rfl⟩
     refine AWP.seq (AWP.seq (AWP.rg0 [] [(0,(.vw 0 0 c)),(1,(i64 a)),(9,(i64 d)),(10,(i64 g)),(64,(vb (decide (d > g))))] ?_))
     refine AWP.cif hF (fun d9 hF=>?_) (fun d9 hF=>?_)
     ·refine AWP.exit (LeQ.start (LeQ.pk [9] 1 ?_))
      exact⟨rfl,f,d,(someb hF).symm,by kernel_rfl,by kernel_rfl⟩
     ·refine AWP.skip (AWP.seq ?_)
      obtain⟨a3,b6,hF⟩:=bindb hF
      obtain⟨a4,b7,hF⟩:=bindb hF
      obtain⟨e2,b8,hF⟩:=bindb hF
      obtain⟨e3,b9,hF⟩:=bindb hF
      refine AWP.dr [(6,.idxV (Zl b6)),(7,.ldV Zc (s:=1) (fun _=>rfl) b (Zi b6) (0 + Int.toNat g * 1) (Nat.zero_add _) []),(10,.idxV (Zl b7)),(11,.ldV Zc (s:=1) (fun _=>rfl) b (Zi b7) (0 + Int.toNat d * 1) (Nat.zero_add _) []),(12,.idxV (Zl b8)),(13,.stV Zc (s:=1) (fun _=>rfl) b (Zi b8) a3 (0 + Int.toNat d * 1) (Nat.zero_add _) []),(14,.idxV (Zl b9)),(15,.stV Zc (s:=1) (fun _=>rfl) b (Zi b9) a4 (0 + Int.toNat g * 1) (Nat.zero_add _) [])] 14 [] [13] [] [(0,(.vw 0 0 c)),(1,(i64 a)),(9,(i64 d)),(10,(i64 g))] [.cells (cel Zc (List.set (List.set f (Int.toNat d) a3) (Int.toNat g) a4) b)] (AWP.seq (AWP.rg0 [] [(0,(.vw 0 0 c)),(1,(i64 a)),(9,(i64 (ZI (d + (1:Int))))),(10,(i64 g))] (AWP.rg0 [] [(0,(.vw 0 0 c)),(1,(i64 a)),(9,(i64 (ZI (d + (1:Int))))),(10,(i64 (ZI (g - (1:Int)))))] (LeQ.start (LeQ.pk [0,1,9,10] 1 ?_)))))
      exact⟨a0,Nat.lt_succ_self _,(List.set (List.set f (Int.toNat d) a3) (Int.toNat g) a4),(ZI (d + (1:Int))),(ZI (g - (1:Int))),hF,by kernel_rfl,by kernel_rfl⟩
 ·rintro _ _ _ ⟨rfl,z,t,rfl,rfl,rfl⟩
  refine AWP.seq (AWP.rg0 [] [(8,(i64 t))] (AWP.ret ?_))
  have hr:=someb hF
  subst hr
  exact(FnQ.f0 1 (.inr rfl))
def Zgi (a:List Value) (r:(Int × Bool × (List Int))):PV→List Blk→Prop:=fun p K=>p=(.tup [(i64 r.1),(vb r.2.1)])∧K=[.cells (cel Zc r.2.2 a)]
theorem Zgj (c:Nat) (j:(List Int)) (b:List Value) (a:Int) (p:Int) (d:Int) (r:(Int × Bool × (List Int))) (hF:Zc6 c j a p d=some r):ACall Tryz.prog glob 216 [(.vw 0 0 c),(i64 a),(i64 p),(i64 d)] [.cells (cel Zc j b)] (Zgi b r):=by
 refine ACall.body Tryz.func216 rfl (by kernel_rfl) ?_
 unfold Zc6 at hF
 refine AWP.seq (AWP.rg0 [] [(0,(.vw 0 0 c)),(1,(i64 a)),(2,(i64 p)),(3,(i64 d))] (AWP.seq ?_))
 obtain⟨l,b7,hF⟩:=bindb hF
 obtain⟨m,b8,hF⟩:=bindb hF
 obtain⟨j4,b9,hF⟩:=bindb hF
 obtain⟨j5,c0,hF⟩:=bindb hF
 refine AWP.dr [(6,.idxV (Zl b7)),(7,.ldV Zc (s:=1) (fun _=>rfl) b (Zi b7) (0 + Int.toNat d * 1) (Nat.zero_add _) []),(10,.idxV (Zl b8)),(11,.ldV Zc (s:=1) (fun _=>rfl) b (Zi b8) (0 + Int.toNat a * 1) (Nat.zero_add _) []),(12,.idxV (Zl b9)),(13,.stV Zc (s:=1) (fun _=>rfl) b (Zi b9) l (0 + Int.toNat a * 1) (Nat.zero_add _) []),(14,.idxV (Zl c0)),(15,.stV Zc (s:=1) (fun _=>rfl) b (Zi c0) m (0 + Int.toNat d * 1) (Nat.zero_add _) [])] 14 [] [13] [] [(0,(.vw 0 0 c)),(1,(i64 a)),(2,(i64 p))] [.cells (cel Zc (List.set (List.set j (Int.toNat a) l) (Int.toNat d) m) b)] (AWP.seq (AWP.rg0 [] [(0,(.vw 0 0 c)),(1,(i64 a)),(10,(i64 (ZI (a + (1:Int))))),(11,(i64 (ZI (p - (1:Int)))))] (AWP.seq ?_)))
 obtain⟨f,f5,hF⟩:=bindb hF
 refine AWP.mid (fun e st H=>e=.normal∧st=[(0,(.vw 0 0 c)),(1,(i64 a)),(10,(i64 f)),(11,(i64 (ZI (p - (1:Int)))))]∧H=[.cells (cel Zc (List.set (List.set j (Int.toNat a) l) (Int.toNat d) m) b)]) ?_ ?_
 ·clear hF
  refine AWP.kp [0,1,10,11] 1 ?_
  refine AWP.bround (fun n st H=>∃ y,Zbe c j a p d l m n y=some f∧st=[(0,(.vw 0 0 c)),(1,(i64 a)),(10,(i64 y)),(11,(i64 (ZI (p - (1:Int)))))]∧H=[.cells (cel Zc (List.set (List.set j (Int.toNat a) l) (Int.toNat d) m) b)]) fuel ⟨(ZI (a + (1:Int))),f5,by kernel_rfl,by kernel_rfl⟩ ?_
  rintro a8 st H ⟨y,hF,rfl,rfl⟩
  cases a8 with
  | zero=>exact noneb hF
  | succ a8=>
   rw [Zbe] at hF
   refine AWP.seq (AWP.seq ?_)
   obtain⟨f6,a2,hF⟩:=bindb hF
   replace a2:=someb a2
   obtain⟨f7,c1,hF⟩:=bindb hF
   refine AWP.to [(0,(.vw 0 0 c)),(1,(i64 a)),(10,(i64 y)),(11,(i64 (ZI (p - (1:Int))))),(43,(vb f7))] [.cells (cel Zc (List.set (List.set j (Int.toNat a) l) (Int.toNat d) m) b)] ?_ ?_
   ·cases f6 with
    | false=>
     have f8:=someb (ifF c1 rfl)
     subst f8
     exact AWP.drT [(3,.bool a2)] 14 [] [] []
    | true=>
     have q:=ifT c1 rfl
     obtain⟨f9,c2,q⟩:=bindb q
     obtain⟨g0,c3,q⟩:=bindb q
     obtain⟨g1,g2,q⟩:=bindb q
     replace q:=someb q
     subst q
     exact AWP.drT [(3,.bool a2),(6,.idxV (Zl c2)),(7,.ldV Zc (s:=1) (fun _=>rfl) b (Zi c2) (0 + Int.toNat y * 1) (Nat.zero_add _) []),(10,.idxV (Zl c3)),(11,.ldV Zc (s:=1) (fun _=>rfl) b (Zi c3) (0 + Int.toNat a * 1) (Nat.zero_add _) []),(12,.call Tryz.func214 [] (Z1 f9 g0 g1 g2))] 14 [] [] []
   refine AWP.cif hF (fun g3 hF=>?_) (fun g3 hF=>?_)
   ·refine AWP.skip (AWP.block (AWP.rg0 [] [(0,(.vw 0 0 c)),(1,(i64 a)),(10,(i64 (ZI (y + (1:Int))))),(11,(i64 (ZI (p - (1:Int)))))] (LeQ.start (LeQ.pk [0,1,10,11] 1 ?_))))
    exact⟨a8,Nat.lt_succ_self _,(ZI (y + (1:Int))),hF,by kernel_rfl,by kernel_rfl⟩
   ·refine AWP.exit (LeQ.start (LeQ.pk [0,1,10,11] 1 ?_))
    have hr:=someb hF
    subst hr
    exact⟨rfl,by kernel_rfl,by kernel_rfl⟩
 ·rintro _ _ _ ⟨rfl,rfl,rfl⟩
  refine AWP.seq ?_
  obtain⟨g,g4,hF⟩:=bindb hF
  refine AWP.mid (fun e st H=>e=.normal∧st=[(0,(.vw 0 0 c)),(1,(i64 a)),(10,(i64 f)),(11,(i64 g))]∧H=[.cells (cel Zc (List.set (List.set j (Int.toNat a) l) (Int.toNat d) m) b)]) ?_ ?_
  ·clear hF
   refine AWP.kp [0,1,10,11] 1 ?_
   refine AWP.bround (fun n st H=>∃ z,Zbf c j a d l m f n z=some g∧st=[(0,(.vw 0 0 c)),(1,(i64 a)),(10,(i64 f)),(11,(i64 z))]∧H=[.cells (cel Zc (List.set (List.set j (Int.toNat a) l) (Int.toNat d) m) b)]) fuel ⟨(ZI (p - (1:Int))),g4,by kernel_rfl,by kernel_rfl⟩ ?_
   rintro a9 st H ⟨z,hF,rfl,rfl⟩
   cases a9 with
   | zero=>exact noneb hF
   | succ a9=>
    rw [Zbf] at hF
    refine AWP.seq (AWP.seq ?_)
    obtain⟨g5,a3,hF⟩:=bindb hF
    replace a3:=someb a3
    obtain⟨g6,c4,hF⟩:=bindb hF
    refine AWP.to [(0,(.vw 0 0 c)),(1,(i64 a)),(10,(i64 f)),(11,(i64 z)),(60,(vb g6))] [.cells (cel Zc (List.set (List.set j (Int.toNat a) l) (Int.toNat d) m) b)] ?_ ?_
    ·cases g5 with
     | false=>
      have g7:=someb (ifF c4 rfl)
      subst g7
      exact AWP.drT [(3,.bool a3)] 15 [] [] []
     | true=>
      have t:=ifT c4 rfl
      obtain⟨g8,c5,t⟩:=bindb t
      obtain⟨g9,c6,t⟩:=bindb t
      obtain⟨h0,h1,t⟩:=bindb t
      replace t:=someb t
      subst t
      exact AWP.drT [(3,.bool a3),(6,.idxV (Zl c5)),(7,.ldV Zc (s:=1) (fun _=>rfl) b (Zi c5) (0 + Int.toNat z * 1) (Nat.zero_add _) []),(10,.idxV (Zl c6)),(11,.ldV Zc (s:=1) (fun _=>rfl) b (Zi c6) (0 + Int.toNat a * 1) (Nat.zero_add _) []),(12,.call Tryz.func214 [] (Z1 g8 g9 h0 h1))] 15 [] [] []
    refine AWP.cif hF (fun h2 hF=>?_) (fun h2 hF=>?_)
    ·refine AWP.skip (AWP.block (AWP.rg0 [] [(0,(.vw 0 0 c)),(1,(i64 a)),(10,(i64 f)),(11,(i64 (ZI (z - (1:Int)))))] (LeQ.start (LeQ.pk [0,1,10,11] 1 ?_))))
     exact⟨a9,Nat.lt_succ_self _,(ZI (z - (1:Int))),hF,by kernel_rfl,by kernel_rfl⟩
    ·refine AWP.exit (LeQ.start (LeQ.pk [0,1,10,11] 1 ?_))
     have hr:=someb hF
     subst hr
     exact⟨rfl,by kernel_rfl,by kernel_rfl⟩
  ·rintro _ _ _ ⟨rfl,rfl,rfl⟩
   refine AWP.seq (AWP.seq (AWP.rg0 [] [(0,(.vw 0 0 c)),(1,(i64 a)),(10,(i64 f)),(11,(i64 g)),(65,(vb (decide (f > g))))] ?_))
   refine AWP.cif hF (fun h3 hF=>?_) (fun h3 hF=>?_)
   ·refine AWP.seq ?_
    obtain⟨c7,c8,hF⟩:=bindb hF
    obtain⟨c9,d0,hF⟩:=bindb hF
    obtain⟨j6,d1,hF⟩:=bindb hF
    obtain⟨j7,d2,hF⟩:=bindb hF
    refine AWP.dr [(6,.idxV (Zl c8)),(7,.ldV Zc (s:=1) (fun _=>rfl) b (Zi c8) (0 + Int.toNat a * 1) (Nat.zero_add _) []),(10,.idxV (Zl d0)),(11,.ldV Zc (s:=1) (fun _=>rfl) b (Zi d0) (0 + Int.toNat g * 1) (Nat.zero_add _) []),(12,.idxV (Zl d1)),(13,.stV Zc (s:=1) (fun _=>rfl) b (Zi d1) c7 (0 + Int.toNat g * 1) (Nat.zero_add _) []),(14,.idxV (Zl d2)),(15,.stV Zc (s:=1) (fun _=>rfl) b (Zi d2) c9 (0 + Int.toNat a * 1) (Nat.zero_add _) [])] 14 [] [13] [] [(11,(i64 g))] [.cells (cel Zc (List.set (List.set (List.set (List.set j (Int.toNat a) l) (Int.toNat d) m) (Int.toNat g) c7) (Int.toNat a) c9) b)] (AWP.seq (AWP.rg0 [] [(8,(i64 g)),(9,(vb true))] (AWP.ret ?_)))
    have hr:=someb hF
    subst hr
    exact(FnQ.f0 1 (.inr rfl))
   ·refine AWP.skip (AWP.seq ?_)
    obtain⟨b0,d3,hF⟩:=bindb hF
    obtain⟨b1,d4,hF⟩:=bindb hF
    obtain⟨j8,d5,hF⟩:=bindb hF
    obtain⟨j9,d6,hF⟩:=bindb hF
    refine AWP.dr [(6,.idxV (Zl d3)),(7,.ldV Zc (s:=1) (fun _=>rfl) b (Zi d3) (0 + Int.toNat g * 1) (Nat.zero_add _) []),(10,.idxV (Zl d4)),(11,.ldV Zc (s:=1) (fun _=>rfl) b (Zi d4) (0 + Int.toNat f * 1) (Nat.zero_add _) []),(12,.idxV (Zl d5)),(13,.stV Zc (s:=1) (fun _=>rfl) b (Zi d5) b0 (0 + Int.toNat f * 1) (Nat.zero_add _) []),(14,.idxV (Zl d6)),(15,.stV Zc (s:=1) (fun _=>rfl) b (Zi d6) b1 (0 + Int.toNat g * 1) (Nat.zero_add _) [])] 14 [] [13] [] [(0,(.vw 0 0 c)),(1,(i64 a)),(10,(i64 f)),(11,(i64 g))] [.cells (cel Zc (List.set (List.set (List.set (List.set j (Int.toNat a) l) (Int.toNat d) m) (Int.toNat f) b0) (Int.toNat g) b1) b)] (AWP.seq (AWP.rg0 [] [(0,(.vw 0 0 c)),(1,(i64 a)),(10,(i64 (ZI (f + (1:Int))))),(11,(i64 g))] (AWP.seq (AWP.rg0 [] [(0,(.vw 0 0 c)),(1,(i64 a)),(10,(i64 (ZI (f + (1:Int))))),(11,(i64 (ZI (g - (1:Int)))))] (AWP.seq ?_)))))
    obtain⟨d7,h4,hF⟩:=bindb hF
    refine AWP.mid (fun e st H=>(e=.normal∧∃ a4,∃ x,d7=(a4,x)∧st=[(0,(.vw 0 0 c)),(1,(i64 a)),(11,(i64 x))]∧H=[.cells (cel Zc a4 b)])) ?_ ?_
    ·clear hF
     refine AWP.kp [0,1,10,11] 1 ?_
     refine AWP.bround (fun n st H=>∃ k,∃ a5,∃ u,Zbi c a n k a5 u=some d7∧st=[(0,(.vw 0 0 c)),(1,(i64 a)),(10,(i64 a5)),(11,(i64 u))]∧H=[.cells (cel Zc k b)]) fuel ⟨(List.set (List.set (List.set (List.set j (Int.toNat a) l) (Int.toNat d) m) (Int.toNat f) b0) (Int.toNat g) b1),(ZI (f + (1:Int))),(ZI (g - (1:Int))),h4,by kernel_rfl,by kernel_rfl⟩ ?_
     rintro b2 st H ⟨k,a5,u,hF,rfl,rfl⟩
     cases b2 with
     | zero=>exact noneb hF
     | succ b2=>
      rw [Zbi] at hF
      refine AWP.block (AWP.seq ?_)
      obtain⟨i,h5,hF⟩:=bindb hF
      refine AWP.mid (fun e st H=>e=.normal∧st=[(0,(.vw 0 0 c)),(1,(i64 a)),(10,(i64 i)),(11,(i64 u))]∧H=[.cells (cel Zc k b)]) ?_ ?_
      ·clear hF
       refine AWP.kp [0,1,10,11] 1 ?_
       refine AWP.bround (fun n st H=>∃ a0,Zbg c a k u n a0=some i∧st=[(0,(.vw 0 0 c)),(1,(i64 a)),(10,(i64 a0)),(11,(i64 u))]∧H=[.cells (cel Zc k b)]) fuel ⟨a5,h5,by kernel_rfl,by kernel_rfl⟩ ?_
       rintro b3 st H ⟨a0,hF,rfl,rfl⟩
       cases b3 with
       | zero=>exact noneb hF
       | succ b3=>
        rw [Zbg] at hF
        refine AWP.seq (AWP.seq ?_)
        obtain⟨h6,a6,hF⟩:=bindb hF
        replace a6:=someb a6
        obtain⟨h7,d8,hF⟩:=bindb hF
        refine AWP.to [(0,(.vw 0 0 c)),(1,(i64 a)),(10,(i64 a0)),(11,(i64 u)),(112,(vb h7))] [.cells (cel Zc k b)] ?_ ?_
        ·cases h6 with
         | false=>
          have h8:=someb (ifF d8 rfl)
          subst h8
          exact AWP.drT [(3,.bool a6)] 14 [] [] []
         | true=>
          have v:=ifT d8 rfl
          obtain⟨h9,d9,v⟩:=bindb v
          obtain⟨i0,e0,v⟩:=bindb v
          obtain⟨i1,i2,v⟩:=bindb v
          replace v:=someb v
          subst v
          exact AWP.drT [(3,.bool a6),(6,.idxV (Zl d9)),(7,.ldV Zc (s:=1) (fun _=>rfl) b (Zi d9) (0 + Int.toNat a0 * 1) (Nat.zero_add _) []),(10,.idxV (Zl e0)),(11,.ldV Zc (s:=1) (fun _=>rfl) b (Zi e0) (0 + Int.toNat a * 1) (Nat.zero_add _) []),(12,.call Tryz.func214 [] (Z1 h9 i0 i1 i2))] 14 [] [] []
        refine AWP.cif hF (fun i3 hF=>?_) (fun i3 hF=>?_)
        ·refine AWP.skip (AWP.block (AWP.rg0 [] [(0,(.vw 0 0 c)),(1,(i64 a)),(10,(i64 (ZI (a0 + (1:Int))))),(11,(i64 u))] (LeQ.start (LeQ.pk [0,1,10,11] 1 ?_))))
         exact⟨b3,Nat.lt_succ_self _,(ZI (a0 + (1:Int))),hF,by kernel_rfl,by kernel_rfl⟩
        ·refine AWP.exit (LeQ.start (LeQ.pk [0,1,10,11] 1 ?_))
         have hr:=someb hF
         subst hr
         exact⟨rfl,by kernel_rfl,by kernel_rfl⟩
      ·rintro _ _ _ ⟨rfl,rfl,rfl⟩
       refine AWP.seq ?_
       obtain⟨o,i4,hF⟩:=bindb hF
       refine AWP.mid (fun e st H=>e=.normal∧st=[(0,(.vw 0 0 c)),(1,(i64 a)),(10,(i64 i)),(11,(i64 o))]∧H=[.cells (cel Zc k b)]) ?_ ?_
       ·clear hF
        refine AWP.kp [0,1,10,11] 1 ?_
        refine AWP.bround (fun n st H=>∃ a1,Zbh c a k i n a1=some o∧st=[(0,(.vw 0 0 c)),(1,(i64 a)),(10,(i64 i)),(11,(i64 a1))]∧H=[.cells (cel Zc k b)]) fuel ⟨u,i4,by kernel_rfl,by kernel_rfl⟩ ?_
        rintro b4 st H ⟨a1,hF,rfl,rfl⟩
        cases b4 with
        | zero=>exact noneb hF
        | succ b4=>
         rw [Zbh] at hF
         refine AWP.seq (AWP.seq ?_)
         obtain⟨i5,a7,hF⟩:=bindb hF
         replace a7:=someb a7
         obtain⟨i6,e1,hF⟩:=bindb hF
         refine AWP.to [(0,(.vw 0 0 c)),(1,(i64 a)),(10,(i64 i)),(11,(i64 a1)),(129,(vb i6))] [.cells (cel Zc k b)] ?_ ?_
         ·cases i5 with
          | false=>
           have i7:=someb (ifF e1 rfl)
           subst i7
           exact AWP.drT [(3,.bool a7)] 15 [] [] []
          | true=>
           have w:=ifT e1 rfl
           obtain⟨i8,e2,w⟩:=bindb w
           obtain⟨i9,e3,w⟩:=bindb w
           obtain⟨j0,j1,w⟩:=bindb w
           replace w:=someb w
           subst w
           exact AWP.drT [(3,.bool a7),(6,.idxV (Zl e2)),(7,.ldV Zc (s:=1) (fun _=>rfl) b (Zi e2) (0 + Int.toNat a1 * 1) (Nat.zero_add _) []),(10,.idxV (Zl e3)),(11,.ldV Zc (s:=1) (fun _=>rfl) b (Zi e3) (0 + Int.toNat a * 1) (Nat.zero_add _) []),(12,.call Tryz.func214 [] (Z1 i8 i9 j0 j1))] 15 [] [] []
         refine AWP.cif hF (fun j2 hF=>?_) (fun j2 hF=>?_)
         ·refine AWP.skip (AWP.block (AWP.rg0 [] [(0,(.vw 0 0 c)),(1,(i64 a)),(10,(i64 i)),(11,(i64 (ZI (a1 - (1:Int)))))] (LeQ.start (LeQ.pk [0,1,10,11] 1 ?_))))
          exact⟨b4,Nat.lt_succ_self _,(ZI (a1 - (1:Int))),hF,by kernel_rfl,by kernel_rfl⟩
         ·refine AWP.exit (LeQ.start (LeQ.pk [0,1,10,11] 1 ?_))
          have hr:=someb hF
          subst hr
          exact⟨rfl,by kernel_rfl,by kernel_rfl⟩
       ·rintro _ _ _ ⟨rfl,rfl,rfl⟩
        refine AWP.seq (AWP.seq (AWP.rg0 [] [(0,(.vw 0 0 c)),(1,(i64 a)),(10,(i64 i)),(11,(i64 o)),(134,(vb (decide (i > o))))] ?_))
        refine AWP.cif hF (fun j3 hF=>?_) (fun j3 hF=>?_)
        ·refine AWP.exit (LeQ.start (LeQ.pk [0,1,11] 1 ?_))
         exact⟨rfl,k,o,(someb hF).symm,by kernel_rfl,by kernel_rfl⟩
        ·refine AWP.skip (AWP.seq ?_)
         obtain⟨b5,e4,hF⟩:=bindb hF
         obtain⟨b6,e5,hF⟩:=bindb hF
         obtain⟨k0,e6,hF⟩:=bindb hF
         obtain⟨k1,e7,hF⟩:=bindb hF
         refine AWP.dr [(6,.idxV (Zl e4)),(7,.ldV Zc (s:=1) (fun _=>rfl) b (Zi e4) (0 + Int.toNat o * 1) (Nat.zero_add _) []),(10,.idxV (Zl e5)),(11,.ldV Zc (s:=1) (fun _=>rfl) b (Zi e5) (0 + Int.toNat i * 1) (Nat.zero_add _) []),(12,.idxV (Zl e6)),(13,.stV Zc (s:=1) (fun _=>rfl) b (Zi e6) b5 (0 + Int.toNat i * 1) (Nat.zero_add _) []),(14,.idxV (Zl e7)),(15,.stV Zc (s:=1) (fun _=>rfl) b (Zi e7) b6 (0 + Int.toNat o * 1) (Nat.zero_add _) [])] 14 [] [13] [] [(0,(.vw 0 0 c)),(1,(i64 a)),(10,(i64 i)),(11,(i64 o))] [.cells (cel Zc (List.set (List.set k (Int.toNat i) b5) (Int.toNat o) b6) b)] (AWP.seq (AWP.rg0 [] [(0,(.vw 0 0 c)),(1,(i64 a)),(10,(i64 (ZI (i + (1:Int))))),(11,(i64 o))] (AWP.rg0 [] [(0,(.vw 0 0 c)),(1,(i64 a)),(10,(i64 (ZI (i + (1:Int))))),(11,(i64 (ZI (o - (1:Int)))))] (LeQ.start (LeQ.pk [0,1,10,11] 1 ?_)))))
         exact⟨b2,Nat.lt_succ_self _,(List.set (List.set k (Int.toNat i) b5) (Int.toNat o) b6),(ZI (i + (1:Int))),(ZI (o - (1:Int))),hF,by kernel_rfl,by kernel_rfl⟩
    ·rintro _ _ _ ⟨rfl,a4,x,rfl,rfl,rfl⟩
     refine AWP.seq ?_
     obtain⟨e8,e9,hF⟩:=bindb hF
     obtain⟨f1,f2,hF⟩:=bindb hF
     obtain⟨k2,f3,hF⟩:=bindb hF
     obtain⟨k3,f4,hF⟩:=bindb hF
     refine AWP.dr [(6,.idxV (Zl e9)),(7,.ldV Zc (s:=1) (fun _=>rfl) b (Zi e9) (0 + Int.toNat a * 1) (Nat.zero_add _) []),(10,.idxV (Zl f2)),(11,.ldV Zc (s:=1) (fun _=>rfl) b (Zi f2) (0 + Int.toNat x * 1) (Nat.zero_add _) []),(12,.idxV (Zl f3)),(13,.stV Zc (s:=1) (fun _=>rfl) b (Zi f3) e8 (0 + Int.toNat x * 1) (Nat.zero_add _) []),(14,.idxV (Zl f4)),(15,.stV Zc (s:=1) (fun _=>rfl) b (Zi f4) f1 (0 + Int.toNat a * 1) (Nat.zero_add _) [])] 14 [] [13] [] [(11,(i64 x))] [.cells (cel Zc (List.set (List.set a4 (Int.toNat x) e8) (Int.toNat a) f1) b)] (AWP.seq (AWP.rg0 [] [(8,(i64 x)),(9,(vb false))] (AWP.ret ?_)))
     have hr:=someb hF
     subst hr
     exact(FnQ.f0 1 (.inr rfl))
def Zdg (a:List Value) (r:(List Int)):PV→List Blk→Prop:=fun p K=>p=(.tup [])∧K=[.cells (cel Zc r a)]
abbrev Zey (a:List Value) (r:(List Int)):Exit→St→List Blk→Prop:=FnQ Tryz.prog Tryz.f207.results 1 (Zdg a r)
theorem Zgk:∀(nr:Nat) (g:Nat) (a1:(List Int)) (d:List Value) (v:Int) (w:Int) (x:Int) (r:(List Int)) (_hF:Z7 nr g a1 v w x=some r),ACall Tryz.prog glob 207 [(.vw 0 0 g),(i64 v),(i64 w),(i64 x)] [.cells (cel Zc a1 d)] (Zdg d r):=by
 intro nr
 induction nr with
 | zero=>intro g a1 d v w x r hF; exact noneb (by rw [Z7] at hF; exact hF)
 | succ nr ih=>
  intro g a1 d v w x r hF
  refine ACall.body Tryz.func207 rfl (by kernel_rfl) ?_
  rw [Z7] at hF
  refine AWP.seq (AWP.rg0 [] [(0,(.vw 0 0 g)),(1,(i64 v)),(2,(i64 w)),(3,(i64 x)),(8,(vb true))] (AWP.seq (AWP.rg0 [] [(0,(.vw 0 0 g)),(1,(i64 v)),(2,(i64 w)),(3,(i64 x)),(8,(vb true)),(9,(vb true))] ?_)))
  obtain⟨b3,b9,hF⟩:=bindb hF
  refine AWP.mid (fun e st H=>(e=.ret∧∃ r,b3=r∧Zey d r e st H)) ?_ ?_
  ·clear hF
   refine AWP.kp [0,1,2,3,8,9] 1 ?_
   refine AWP.bround (fun n st H=>∃ o,∃ b,∃ a,∃ l,∃ j,∃ k,Zab g (Z7 nr) n o b a l j k=some b3∧st=[(0,(.vw 0 0 g)),(1,(i64 b)),(2,(i64 a)),(3,(i64 l)),(8,(vb j)),(9,(vb k))]∧H=[.cells (cel Zc o d)]) fuel ⟨a1,v,w,x,true,true,b9,by kernel_rfl,by kernel_rfl⟩ ?_
   rintro a2 st H ⟨o,b,a,l,j,k,hF,rfl,rfl⟩
   cases a2 with
   | zero=>exact noneb hF
   | succ a2=>
    rw [Zab] at hF
    refine AWP.block (AWP.seq (AWP.rg0 [] [(0,(.vw 0 0 g)),(1,(i64 b)),(2,(i64 a)),(3,(i64 l)),(8,(vb j)),(9,(vb k)),(10,(i64 (ZI (a - b))))] (AWP.seq (AWP.seq (AWP.rg0 [] [(0,(.vw 0 0 g)),(1,(i64 b)),(2,(i64 a)),(3,(i64 l)),(8,(vb j)),(9,(vb k)),(10,(i64 (ZI (a - b)))),(23,(vb (decide ((ZI (a - b))≤(12:Int)))))] ?_)))))
    refine AWP.cif hF (fun c0 hF=>?_) (fun c0 hF=>?_)
    ·refine AWP.seq ?_
     obtain⟨a5,c1,hF⟩:=bindb hF
     refine AWP.rg [(3,.callC Tryz.func208 [] (closedH.c (Zq (row:=Zc) (fun _=>rfl) o d) closedH.n) (closedH.c (Zq (row:=Zc) (fun _=>rfl) a5 d) closedH.n) (Zfw g o d b a a5 c1))] [] [.cells (cel Zc a5 d)] (AWP.ret ?_)
     exact LeQ.of ⟨rfl,a5,(someb hF).symm,(FnQ.f0 1 (.inr rfl))⟩
    ·refine AWP.skip (AWP.seq (AWP.seq (AWP.rg0 [] [(0,(.vw 0 0 g)),(1,(i64 b)),(2,(i64 a)),(3,(i64 l)),(8,(vb j)),(9,(vb k)),(10,(i64 (ZI (a - b)))),(29,(vb (l == (0:Int))))] ?_)))
     refine AWP.cif hF (fun c2 hF=>?_) (fun c2 hF=>?_)
     ·refine AWP.seq ?_
      obtain⟨a6,c3,hF⟩:=bindb hF
      refine AWP.rg [(3,.callC Tryz.func209 [] (closedH.c (Zq (row:=Zc) (fun _=>rfl) o d) closedH.n) (closedH.c (Zq (row:=Zc) (fun _=>rfl) a6 d) closedH.n) (Zgz g o d b a a6 c3))] [] [.cells (cel Zc a6 d)] (AWP.ret ?_)
      exact LeQ.of ⟨rfl,a6,(someb hF).symm,(FnQ.f0 1 (.inr rfl))⟩
     ·refine AWP.skip ?_
      obtain⟨c4,c5,hF⟩:=bindb hF
      refine AWP.seq ?_
      refine AWP.mid (fun e st H=>(e=.normal∧∃ q,∃ i,c4=(q,i)∧st=[(0,(.vw 0 0 g)),(1,(i64 b)),(2,(i64 a)),(3,(i64 i)),(8,(vb j)),(9,(vb k)),(10,(i64 (ZI (a - b))))]∧H=[.cells (cel Zc q d)])) ?_ ?_
      ·clear hF
       have hF:=c5
       refine AWP.seq (AWP.rg0 [] [(0,(.vw 0 0 g)),(1,(i64 b)),(2,(i64 a)),(3,(i64 l)),(8,(vb j)),(9,(vb k)),(10,(i64 (ZI (a - b)))),(35,(vb (!j)))] ?_)
       refine AWP.cif hF (fun c6 hF=>?_) (fun c6 hF=>?_)
       ·refine AWP.seq ?_
        obtain⟨a7,c7,hF⟩:=bindb hF
        refine AWP.rg [(3,.callC Tryz.func210 [] (closedH.c (Zq (row:=Zc) (fun _=>rfl) o d) closedH.n) (closedH.c (Zq (row:=Zc) (fun _=>rfl) a7 d) closedH.n) (Zfy g o d b a a7 c7))] [(0,(.vw 0 0 g)),(1,(i64 b)),(2,(i64 a)),(3,(i64 l)),(8,(vb j)),(9,(vb k)),(10,(i64 (ZI (a - b))))] [.cells (cel Zc a7 d)] (AWP.rg0 [] [(0,(.vw 0 0 g)),(1,(i64 b)),(2,(i64 a)),(3,(i64 (ZI (l - (1:Int))))),(8,(vb j)),(9,(vb k)),(10,(i64 (ZI (a - b))))] (LeQ.start (LeQ.pk [0,1,2,3,8,9,10] 1 ?_)))
        exact⟨rfl,a7,(ZI (l - (1:Int))),(someb hF).symm,by kernel_rfl,by kernel_rfl⟩
       ·refine AWP.skip (LeQ.start (LeQ.pk [0,1,2,3,8,9,10] 1 ?_))
        exact⟨rfl,o,l,(someb hF).symm,by kernel_rfl,by kernel_rfl⟩
      ·rintro _ _ _ ⟨rfl,q,i,rfl,rfl,rfl⟩
       refine AWP.seq ?_
       obtain⟨m,c8,hF⟩:=bindb hF
       refine AWP.rg0 [(3,.callC Tryz.func211 [] (closedH.c (Zq (row:=Zc) (fun _=>rfl) q d) closedH.n) (closedH.c (Zq (row:=Zc) (fun _=>rfl) q d) closedH.n) (Zgd g q d b a m c8))] [(0,(.vw 0 0 g)),(1,(i64 b)),(2,(i64 a)),(3,(i64 i)),(8,(vb j)),(9,(vb k)),(10,(i64 (ZI (a - b)))),(11,(i64 m.1)),(12,(i64 m.2))] ?_
       obtain⟨c9,d0,hF⟩:=bindb hF
       refine AWP.seq ?_
       refine AWP.mid (fun e st H=>(e=.normal∧∃ y,∃ p,∃ a8,c9=(y,p,a8)∧st=[(0,(.vw 0 0 g)),(1,(i64 b)),(2,(i64 a)),(3,(i64 i)),(8,(vb j)),(9,(vb k)),(10,(i64 (ZI (a - b)))),(11,(i64 p)),(12,(i64 a8))]∧H=[.cells (cel Zc y d)])) ?_ ?_
       ·clear hF
        have hF:=d0
        refine AWP.seq (AWP.rg0 [] [(0,(.vw 0 0 g)),(1,(i64 b)),(2,(i64 a)),(3,(i64 i)),(8,(vb j)),(9,(vb k)),(10,(i64 (ZI (a - b)))),(11,(i64 m.1)),(12,(i64 m.2)),(50,(vb (m.2 == (2:Int))))] ?_)
        refine AWP.cif hF (fun d1 hF=>?_) (fun d1 hF=>?_)
        ·refine AWP.seq ?_
         obtain⟨a9,d2,hF⟩:=bindb hF
         refine AWP.rg [(3,.callC Tryz.func212 [] (closedH.c (Zq (row:=Zc) (fun _=>rfl) q d) closedH.n) (closedH.c (Zq (row:=Zc) (fun _=>rfl) a9 d) closedH.n) (Zf5 g q d b a a9 d2))] [(0,(.vw 0 0 g)),(1,(i64 b)),(2,(i64 a)),(3,(i64 i)),(8,(vb j)),(9,(vb k)),(10,(i64 (ZI (a - b)))),(11,(i64 m.1))] [.cells (cel Zc a9 d)] (AWP.seq (AWP.rg0 [] [(0,(.vw 0 0 g)),(1,(i64 b)),(2,(i64 a)),(3,(i64 i)),(8,(vb j)),(9,(vb k)),(10,(i64 (ZI (a - b)))),(11,(i64 (ZI ((ZI (a - (1:Int))) - (ZI (m.1 - b))))))] (AWP.rg0 [] [(0,(.vw 0 0 g)),(1,(i64 b)),(2,(i64 a)),(3,(i64 i)),(8,(vb j)),(9,(vb k)),(10,(i64 (ZI (a - b)))),(11,(i64 (ZI ((ZI (a - (1:Int))) - (ZI (m.1 - b)))))),(12,(i64 (1:Int)))] (LeQ.start (LeQ.pk [0,1,2,3,8,9,10,11,12] 1 ?_)))))
         exact⟨rfl,a9,(ZI ((ZI (a - (1:Int))) - (ZI (m.1 - b)))),(1:Int),(someb hF).symm,by kernel_rfl,by kernel_rfl⟩
        ·refine AWP.skip (LeQ.start (LeQ.pk [0,1,2,3,8,9,10,11,12] 1 ?_))
         exact⟨rfl,q,m.1,m.2,(someb hF).symm,by kernel_rfl,by kernel_rfl⟩
       ·rintro _ _ _ ⟨rfl,y,p,a8,rfl,rfl,rfl⟩
        obtain⟨b4,d3,hF⟩:=bindb hF
        refine AWP.seq ?_
        refine AWP.mid (fun e st H=>(e=.normal∧∃ u,b4=(.inl u)∧st=[(0,(.vw 0 0 g)),(1,(i64 b)),(2,(i64 a)),(3,(i64 i)),(8,(vb j)),(9,(vb k)),(10,(i64 (ZI (a - b)))),(11,(i64 p))]∧H=[.cells (cel Zc u d)])∨(e=.ret∧∃ r,b4=(.inr r)∧Zey d r e st H)) ?_ ?_
        ·clear hF
         have hF:=d3
         refine AWP.seq ?_
         obtain⟨d4,a3,hF⟩:=bindb hF
         replace a3:=someb a3
         obtain⟨b5,a4,hF⟩:=bindb hF
         replace a4:=someb a4
         refine AWP.to [(0,(.vw 0 0 g)),(1,(i64 b)),(2,(i64 a)),(3,(i64 i)),(8,(vb j)),(9,(vb k)),(10,(i64 (ZI (a - b)))),(11,(i64 p)),(68,(vb (b5 && (a8 == (1:Int)))))] [.cells (cel Zc y d)] ?_ ?_
         ·cases d4 with
          | false=>
           subst a4
           exact AWP.rgT [(1,.bool a3)]
          | true=>
           cases b5 with
           | false=>
            exact AWP.rgT [(1,.bool a3),(4,.bool a4)]
           | true=>
            exact AWP.rgT [(1,.bool a3),(4,.bool a4)]
         refine AWP.cif hF (fun d5 hF=>?_) (fun d5 hF=>?_)
         ·refine AWP.seq ?_
          obtain⟨a0,d6,hF⟩:=bindb hF
          refine AWP.rg [(3,.callC Tryz.func213 [] (closedH.c (Zq (row:=Zc) (fun _=>rfl) y d) closedH.n) (closedH.c (Zq (row:=Zc) (fun _=>rfl) a0.2 d) closedH.n) (Ze6 g y d b a a0 d6))] [(0,(.vw 0 0 g)),(1,(i64 b)),(2,(i64 a)),(3,(i64 i)),(8,(vb j)),(9,(vb k)),(10,(i64 (ZI (a - b)))),(11,(i64 p)),(72,(vb a0.1))] [.cells (cel Zc a0.2 d)] ?_
          refine AWP.cif hF (fun d7 hF=>?_) (fun d7 hF=>?_)
          ·refine AWP.ret ?_
           exact LeQ.of (.inr ⟨rfl,a0.2,(someb hF).symm,(FnQ.f0 1 (.inr rfl))⟩)
          ·refine AWP.skip (LeQ.start (LeQ.pk [0,1,2,3,8,9,10,11] 1 ?_))
           exact(.inl ⟨rfl,a0.2,(someb hF).symm,by kernel_rfl,by kernel_rfl⟩)
         ·refine AWP.skip (LeQ.start (LeQ.pk [0,1,2,3,8,9,10,11] 1 ?_))
          exact(.inl ⟨rfl,y,(someb hF).symm,by kernel_rfl,by kernel_rfl⟩)
        ·rintro _ _ _ (⟨rfl,u,rfl,rfl,rfl⟩ | ⟨rfl,d8,rfl,hq⟩)
         ·refine AWP.seq (AWP.seq ?_)
          obtain⟨d9,b0,hF⟩:=bindb hF
          replace b0:=someb b0
          obtain⟨e0,b6,hF⟩:=bindb hF
          refine AWP.to [(0,(.vw 0 0 g)),(1,(i64 b)),(2,(i64 a)),(3,(i64 i)),(8,(vb j)),(9,(vb k)),(10,(i64 (ZI (a - b)))),(11,(i64 p)),(87,(vb e0))] [.cells (cel Zc u d)] ?_ ?_
          ·cases d9 with
           | false=>
            have e1:=someb (ifF b6 rfl)
            subst e1
            exact AWP.drT [(2,.bool b0)] 15 [] [] []
           | true=>
            have t:=ifT b6 rfl
            obtain⟨e2,b7,t⟩:=bindb t
            obtain⟨e3,b8,t⟩:=bindb t
            obtain⟨e4,e5,t⟩:=bindb t
            replace t:=someb t
            subst t
            exact AWP.drT [(2,.bool b0),(6,.idxV (Zl b7)),(7,.ldV Zc (s:=1) (fun _=>rfl) d (Zi b7) (0 + Int.toNat (ZI (b - (1:Int))) * 1) (Nat.zero_add _) []),(10,.idxV (Zl b8)),(11,.ldV Zc (s:=1) (fun _=>rfl) d (Zi b8) (0 + Int.toNat p * 1) (Nat.zero_add _) []),(12,.call Tryz.func214 [] (Z1 e2 e3 e4 e5))] 15 [] [] []
          refine AWP.cif hF (fun e6 hF=>?_) (fun e6 hF=>?_)
          ·refine AWP.seq ?_
           obtain⟨z,e7,hF⟩:=bindb hF
           refine AWP.rg [(4,.callC Tryz.func215 [] (closedH.c (Zq (row:=Zc) (fun _=>rfl) u d) closedH.n) (closedH.c (Zq (row:=Zc) (fun _=>rfl) z.2 d) closedH.n) (Zfp g u d b a p z e7))] [(0,(.vw 0 0 g)),(2,(i64 a)),(3,(i64 i)),(8,(vb j)),(9,(vb k)),(13,(i64 z.1))] [.cells (cel Zc z.2 d)] (AWP.seq (AWP.rg0 [] [(0,(.vw 0 0 g)),(1,(i64 z.1)),(2,(i64 a)),(3,(i64 i)),(8,(vb j)),(9,(vb k))] (AWP.exit (LeQ.start (LeQ.pk [0,1,2,3,8,9] 1 ?_)))))
           exact⟨a2,Nat.lt_succ_self _,z.2,z.1,a,i,j,k,hF,by kernel_rfl,by kernel_rfl⟩
          ·refine AWP.skip (AWP.seq ?_)
           obtain⟨f,e8,hF⟩:=bindb hF
           refine AWP.rg [(4,.callC Tryz.func216 [] (closedH.c (Zq (row:=Zc) (fun _=>rfl) u d) closedH.n) (closedH.c (Zq (row:=Zc) (fun _=>rfl) f.2.2 d) closedH.n) (Zgj g u d b a p f e8))] [(0,(.vw 0 0 g)),(1,(i64 b)),(2,(i64 a)),(3,(i64 i)),(10,(i64 (ZI (a - b)))),(14,(i64 f.1)),(15,(vb f.2.1))] [.cells (cel Zc f.2.2 d)] (AWP.seq (AWP.rg0 [] [(0,(.vw 0 0 g)),(1,(i64 b)),(2,(i64 a)),(3,(i64 i)),(9,(vb f.2.1)),(10,(i64 (ZI (a - b)))),(14,(i64 f.1))] (AWP.seq (AWP.rg0 [] [(0,(.vw 0 0 g)),(1,(i64 b)),(2,(i64 a)),(3,(i64 i)),(9,(vb f.2.1)),(10,(i64 (ZI (a - b)))),(14,(i64 f.1)),(16,(i64 (ZI (f.1 - b)))),(17,(i64 (ZI (a - f.1))))] (AWP.seq (AWP.rg0 [] [(0,(.vw 0 0 g)),(1,(i64 b)),(2,(i64 a)),(3,(i64 i)),(9,(vb f.2.1)),(14,(i64 f.1)),(16,(i64 (ZI (f.1 - b)))),(17,(i64 (ZI (a - f.1)))),(18,(i64 (ZI (Int.tdiv (ZI (a - b)) (8:Int)))))] ?_))))))
           refine AWP.seq (AWP.rg0 [] [(0,(.vw 0 0 g)),(1,(i64 b)),(2,(i64 a)),(3,(i64 i)),(9,(vb f.2.1)),(14,(i64 f.1)),(16,(i64 (ZI (f.1 - b)))),(17,(i64 (ZI (a - f.1)))),(18,(i64 (ZI (Int.tdiv (ZI (a - b)) (8:Int))))),(113,(vb (decide ((ZI (f.1 - b))<(ZI (a - f.1))))))] ?_)
           refine AWP.cif hF (fun e9 hF=>?_) (fun e9 hF=>?_)
           ·refine AWP.seq (AWP.rg0 [] [(0,(.vw 0 0 g)),(1,(i64 b)),(2,(i64 a)),(3,(i64 i)),(8,(vb (decide ((ZI (f.1 - b)) ≥ (ZI (Int.tdiv (ZI (a - b)) (8:Int))))))),(9,(vb f.2.1)),(14,(i64 f.1))] (AWP.seq ?_))
            obtain⟨b1,f1,hF⟩:=bindb hF
            refine AWP.rg [(4,.callC Tryz.func207 [] (closedH.c (Zq (row:=Zc) (fun _=>rfl) f.2.2 d) closedH.n) (closedH.c (Zq (row:=Zc) (fun _=>rfl) b1 d) closedH.n) (ih g f.2.2 d b f.1 i b1 f1))] [(0,(.vw 0 0 g)),(2,(i64 a)),(3,(i64 i)),(8,(vb (decide ((ZI (f.1 - b)) ≥ (ZI (Int.tdiv (ZI (a - b)) (8:Int))))))),(9,(vb f.2.1)),(14,(i64 f.1))] [.cells (cel Zc b1 d)] (AWP.rg0 [] [(0,(.vw 0 0 g)),(1,(i64 (ZI (f.1 + (1:Int))))),(2,(i64 a)),(3,(i64 i)),(8,(vb (decide ((ZI (f.1 - b)) ≥ (ZI (Int.tdiv (ZI (a - b)) (8:Int))))))),(9,(vb f.2.1))] (LeQ.start (LeQ.pk [0,1,2,3,8,9] 1 ?_)))
            exact⟨a2,Nat.lt_succ_self _,b1,(ZI (f.1 + (1:Int))),a,i,(decide ((ZI (f.1 - b)) ≥ (ZI (Int.tdiv (ZI (a - b)) (8:Int))))),f.2.1,hF,by kernel_rfl,by kernel_rfl⟩
           ·refine AWP.seq (AWP.rg0 [] [(0,(.vw 0 0 g)),(1,(i64 b)),(2,(i64 a)),(3,(i64 i)),(8,(vb (decide ((ZI (a - f.1)) ≥ (ZI (Int.tdiv (ZI (a - b)) (8:Int))))))),(9,(vb f.2.1)),(14,(i64 f.1))] (AWP.seq ?_))
            obtain⟨b2,f2,hF⟩:=bindb hF
            refine AWP.rg [(5,.callC Tryz.func207 [] (closedH.c (Zq (row:=Zc) (fun _=>rfl) f.2.2 d) closedH.n) (closedH.c (Zq (row:=Zc) (fun _=>rfl) b2 d) closedH.n) (ih g f.2.2 d (ZI (f.1 + (1:Int))) a i b2 f2))] [(0,(.vw 0 0 g)),(1,(i64 b)),(3,(i64 i)),(8,(vb (decide ((ZI (a - f.1)) ≥ (ZI (Int.tdiv (ZI (a - b)) (8:Int))))))),(9,(vb f.2.1)),(14,(i64 f.1))] [.cells (cel Zc b2 d)] (AWP.rg0 [] [(0,(.vw 0 0 g)),(1,(i64 b)),(2,(i64 f.1)),(3,(i64 i)),(8,(vb (decide ((ZI (a - f.1)) ≥ (ZI (Int.tdiv (ZI (a - b)) (8:Int))))))),(9,(vb f.2.1))] (LeQ.start (LeQ.pk [0,1,2,3,8,9] 1 ?_)))
            exact⟨a2,Nat.lt_succ_self _,b2,b,f.1,i,(decide ((ZI (a - f.1)) ≥ (ZI (Int.tdiv (ZI (a - b)) (8:Int))))),f.2.1,hF,by kernel_rfl,by kernel_rfl⟩
         ·exact LeQ.of ⟨rfl,d8,(someb hF).symm,hq⟩
  ·rintro _ _ _ ⟨rfl,f3,rfl,hq⟩
   have hr:=someb hF
   subst hr
   exact hq
theorem Zg6 (a:Nat) (b:(List Int)) (c:List Value) (d:Int) (f:Int) (g:Int) (r:(List Int)) (hF:Z7 fuel a b d f g=some r):ACall Tryz.prog glob 207 [(.vw 0 0 a),(i64 d),(i64 f),(i64 g)] [.cells (cel Zc b c)] (Zdg c r):=Zgk fuel a b c d f g r hF
def Zh2 (a:List Value) (r:(List Int)):PV→List Blk→Prop:=fun p K=>p=(.tup [])∧K=[.cells (cel Zc r a)]
theorem Zh3 (a:Nat) (d:(List Int)) (b:List Value) (r:(List Int)) (hF:Zdu a d=some r):ACall Tryz.prog glob 203 [(.vw 0 0 a)] [.cells (cel Zc d b)] (Zh2 b r):=by
 refine ACall.body Tryz.func203 rfl (by kernel_rfl) ?_
 unfold Zdu at hF
 refine AWP.seq (AWP.rg0 [(1,.lenV a)] [(0,(.vw 0 0 a)),(2,(i64 (a:Int)))] ?_)
 obtain⟨g,i,hF⟩:=bindb hF
 obtain⟨f,j,hF⟩:=bindb hF
 refine AWP.rg [(4,.call Tryz.func42 [] (Zjd (IntKind.wrap .u64 (a:Int)) g i)),(5,.callC Tryz.func207 [] (closedH.c (Zq (row:=Zc) (fun _=>rfl) d b) closedH.n) (closedH.c (Zq (row:=Zc) (fun _=>rfl) f b) closedH.n) (Zg6 a d b (0:Int) (a:Int) g f j))] [] [.cells (cel Zc f b)] ?_
 have hr:=someb hF
 subst hr
 exact(FnQ.f0 1 (.inl rfl))
def Zez (a:List Value) (r:(Nat × (List Int))):PV→List Blk→Prop:=fun p K=>p=(.vw 0 0 r.1)∧K=[.cells (cel Zc r.2 a)]
abbrev Zg7 (a:List Value) (r:(Nat × (List Int))):Exit→St→List Blk→Prop:=FnQ Tryz.prog Tryz.f204.results 1 (Zez a r)
theorem Zg8 (a:Nat) (k:(List Int)) (c:List Value) (r:(Nat × (List Int))) (hF:Zdd a k=some r):ACall Tryz.prog glob 204 [(.vw 0 0 a)] [.cells (cel Zc k c)] (Zez c r):=by
 refine ACall.body Tryz.func204 rfl (by kernel_rfl) ?_
 unfold Zdd at hF
 refine AWP.seq (AWP.rg0 [] [(0,(.vw 0 0 a))] (AWP.seq (AWP.seq (AWP.rg0 [(1,.lenV a)] [(0,(.vw 0 0 a)),(8,(vb (decide ((a:Int)<(2:Int)))))] ?_))))
 refine AWP.cif hF (fun a2 hF=>?_) (fun a2 hF=>?_)
 ·refine AWP.seq (AWP.rg0 [] [(2,(.vw 0 0 a))] (AWP.ret ?_))
  have hr:=someb hF
  subst hr
  exact(FnQ.f0 1 (.inr rfl))
 ·refine AWP.skip (AWP.seq (AWP.seq (AWP.rg0 [] [(0,(.vw 0 0 a)),(3,(i64 (1:Int)))] ?_)))
  obtain⟨p,a3,hF⟩:=bindb hF
  refine AWP.mid (fun e st H=>(e=.normal∧p=(.inl ())∧st=[(0,(.vw 0 0 a))]∧H=[.cells (cel Zc k c)])∨(e=.ret∧∃ r,p=(.inr r)∧Zg7 c r e st H)) ?_ ?_
  ·clear hF
   refine AWP.kp [0,3] 1 ?_
   refine AWP.bround (fun n st H=>∃ b,Zbw a k n b=some p∧st=[(0,(.vw 0 0 a)),(3,(i64 b))]∧H=[.cells (cel Zc k c)]) fuel ⟨(1:Int),a3,by kernel_rfl,by kernel_rfl⟩ ?_
   rintro q st H ⟨b,hF,rfl,rfl⟩
   cases q with
   | zero=>exact noneb hF
   | succ q=>
    rw [Zbw] at hF
    refine AWP.seq (AWP.seq (AWP.rg0 [(2,.lenV a)] [(0,(.vw 0 0 a)),(3,(i64 b)),(13,(vb (decide (b<(a:Int)))))] ?_))
    refine AWP.cif hF (fun a4 hF=>?_) (fun a4 hF=>?_)
    ·refine AWP.skip (AWP.seq (AWP.block (AWP.seq ?_)))
     obtain⟨a5,y,hF⟩:=bindb hF
     obtain⟨a6,z,hF⟩:=bindb hF
     refine AWP.dr [(2,.idxV (Zl y)),(3,.ldV Zc (s:=1) (fun _=>rfl) c (Zi y) (0 + Int.toNat b * 1) (Nat.zero_add _) []),(7,.idxV (Zl z)),(8,.ldV Zc (s:=1) (fun _=>rfl) c (Zi z) (0 + Int.toNat (ZI (b - (1:Int))) * 1) (Nat.zero_add _) [])] 10 [] [] [] [(0,(.vw 0 0 a)),(3,(i64 b)),(25,(vb (a5 == a6)))] [.cells (cel Zc k c)] ?_
     refine AWP.cif hF (fun a7 hF=>?_) (fun a7 hF=>?_)
     ·refine AWP.seq ?_
      obtain⟨m,hF⟩:=chkb hF
      refine AWP.rg0 [(2,.sliceV m)] [(0,(.vw 0 0 a)),(3,(i64 b)),(4,(.vw 0 (0 + Int.toNat b * 1) (Int.toNat (a:Int) - Int.toNat b)))] (AWP.seq (AWP.seq (AWP.rg0 [] [(0,(.vw 0 0 a)),(3,(i64 b)),(4,(.vw 0 (0 + Int.toNat b * 1) (Int.toNat (a:Int) - Int.toNat b))),(5,(i64 (1:Int)))] ?_)))
      obtain⟨a0,a8,hF⟩:=bindb hF
      refine AWP.mid (fun e st H=>(e=.normal∧∃ i,∃ d,a0=(i,d)∧st=[(0,(.vw 0 0 a)),(3,(i64 d))]∧H=[.cells (cel Zc i c)])) ?_ ?_
      ·clear hF
       refine AWP.kp [0,3,4,5] 1 ?_
       refine AWP.bround (fun n st H=>∃ j,∃ g,∃ f,Zbv a b n j g f=some a0∧st=[(0,(.vw 0 0 a)),(3,(i64 g)),(4,(.vw 0 (0 + Int.toNat b * 1) (Int.toNat (a:Int) - Int.toNat b))),(5,(i64 f))]∧H=[.cells (cel Zc j c)]) fuel ⟨k,b,(1:Int),a8,by kernel_rfl,by kernel_rfl⟩ ?_
       rintro t st H ⟨j,g,f,hF,rfl,rfl⟩
       cases t with
       | zero=>exact noneb hF
       | succ t=>
        rw [Zbv] at hF
        refine AWP.seq (AWP.seq (AWP.rg0 [(2,.lenV (Int.toNat (a:Int) - Int.toNat b))] [(0,(.vw 0 0 a)),(3,(i64 g)),(4,(.vw 0 (0 + Int.toNat b * 1) (Int.toNat (a:Int) - Int.toNat b))),(5,(i64 f)),(32,(vb (decide (f<(((Int.toNat (a:Int) - Int.toNat b):Nat):Int)))))] ?_))
        refine AWP.cif hF (fun a9 hF=>?_) (fun a9 hF=>?_)
        ·refine AWP.skip ?_
         obtain⟨b0,b1,hF⟩:=bindb hF
         refine AWP.seq ?_
         refine AWP.mid (fun e st H=>(e=.normal∧∃ o,∃ l,b0=(o,l)∧st=[(0,(.vw 0 0 a)),(3,(i64 l)),(4,(.vw 0 (0 + Int.toNat b * 1) (Int.toNat (a:Int) - Int.toNat b))),(5,(i64 f))]∧H=[.cells (cel Zc o c)])) ?_ ?_
         ·clear hF
          have hF:=b1
          refine AWP.block (AWP.seq ?_)
          obtain⟨b2,u,hF⟩:=bindb hF
          obtain⟨b3,v,hF⟩:=bindb hF
          refine AWP.dr [(2,.idxV (Zij u)),(3,.ldV Zc (s:=1) (fun _=>rfl) c (Zl9 u) ((0 + Int.toNat b * 1) + Int.toNat f * 1) (Znl m.1 (Zij u).1 _) []),(7,.idxV (Zij v)),(8,.ldV Zc (s:=1) (fun _=>rfl) c (Zl9 v) ((0 + Int.toNat b * 1) + Int.toNat (ZI (f - (1:Int))) * 1) (Znl m.1 (Zij v).1 _) [])] 10 [] [] [] [(0,(.vw 0 0 a)),(3,(i64 g)),(4,(.vw 0 (0 + Int.toNat b * 1) (Int.toNat (a:Int) - Int.toNat b))),(5,(i64 f)),(44,(vb (b2 != b3)))] [.cells (cel Zc j c)] ?_
          refine AWP.cif hF (fun b4 hF=>?_) (fun b4 hF=>?_)
          ·refine AWP.seq ?_
           obtain⟨w,x,hF⟩:=bindb hF
           obtain⟨b8,a1,hF⟩:=bindb hF
           refine AWP.rg [(4,.idxV (Zij x)),(5,.ldV Zc (s:=1) (fun _=>rfl) c (Zl9 x) ((0 + Int.toNat b * 1) + Int.toNat f * 1) (Znl m.1 (Zij x).1 _) []),(6,.idxV (Zl a1)),(7,.stV Zc (s:=1) (fun _=>rfl) c (Zi a1) w (0 + Int.toNat g * 1) (Nat.zero_add _) [])] [(0,(.vw 0 0 a)),(3,(i64 g)),(4,(.vw 0 (0 + Int.toNat b * 1) (Int.toNat (a:Int) - Int.toNat b))),(5,(i64 f))] [.cells (cel Zc (List.set j (Int.toNat g) w) c)] (AWP.rg0 [] [(0,(.vw 0 0 a)),(3,(i64 (ZI (g + (1:Int))))),(4,(.vw 0 (0 + Int.toNat b * 1) (Int.toNat (a:Int) - Int.toNat b))),(5,(i64 f))] (LeQ.start (LeQ.pk [0,3,4,5] 1 ?_)))
           exact⟨rfl,(List.set j (Int.toNat g) w),(ZI (g + (1:Int))),(someb hF).symm,by kernel_rfl,by kernel_rfl⟩
          ·refine AWP.skip (LeQ.start (LeQ.pk [0,3,4,5] 1 ?_))
           exact⟨rfl,j,g,(someb hF).symm,by kernel_rfl,by kernel_rfl⟩
         ·rintro _ _ _ ⟨rfl,o,l,rfl,rfl,rfl⟩
          refine AWP.rg0 [] [(0,(.vw 0 0 a)),(3,(i64 l)),(4,(.vw 0 (0 + Int.toNat b * 1) (Int.toNat (a:Int) - Int.toNat b))),(5,(i64 (ZI (f + (1:Int)))))] (LeQ.start (LeQ.pk [0,3,4,5] 1 ?_))
          exact⟨t,Nat.lt_succ_self _,o,l,(ZI (f + (1:Int))),hF,by kernel_rfl,by kernel_rfl⟩
        ·refine AWP.exit (LeQ.start (LeQ.pk [0,3] 1 ?_))
         exact⟨rfl,j,g,(someb hF).symm,by kernel_rfl,by kernel_rfl⟩
      ·rintro _ _ _ ⟨rfl,i,d,rfl,rfl,rfl⟩
       refine AWP.seq ?_
       obtain⟨b5,hF⟩:=chkb hF
       obtain⟨b6,hF⟩:=chkb hF
       refine AWP.rg [(2,.sliceV b5),(3,.clrV Zc (s:=1) (fun _=>rfl) (fun _=>rfl) c i (0:Int) (lo:=Int.toNat d) (n:=(Int.toNat (a:Int) - Int.toNat d)) b6 (0 + Int.toNat d * 1) (Nat.zero_add _))] [(0,(.vw 0 0 a)),(3,(i64 d))] [.cells (cel Zc (List.take (Int.toNat d) i++List.replicate (Int.toNat (a:Int) - Int.toNat d) (0:Int)++List.drop (Int.toNat d + (Int.toNat (a:Int) - Int.toNat d)) i) c)] (AWP.seq ?_)
       obtain⟨b7,hF⟩:=chkb hF
       refine AWP.rg0 [(2,.sliceV b7)] [(2,(.vw 0 0 (Int.toNat d)))] (AWP.ret ?_)
       exact LeQ.of (.inr ⟨rfl,((Int.toNat d),(List.take (Int.toNat d) i++List.replicate (Int.toNat (a:Int) - Int.toNat d) (0:Int)++List.drop (Int.toNat d + (Int.toNat (a:Int) - Int.toNat d)) i)),(someb hF).symm,(FnQ.f0 1 (.inr rfl))⟩)
     ·refine AWP.skip (AWP.rg0 [] [(0,(.vw 0 0 a)),(3,(i64 (ZI (b + (1:Int)))))] (LeQ.start (LeQ.pk [0,3] 1 ?_)))
      exact⟨q,Nat.lt_succ_self _,(ZI (b + (1:Int))),hF,by kernel_rfl,by kernel_rfl⟩
    ·refine AWP.exit (LeQ.start (LeQ.pk [0] 1 ?_))
     exact(.inl ⟨rfl,(someb hF).symm,by kernel_rfl,by kernel_rfl⟩)
  ·rintro _ _ _ (⟨rfl,rfl,rfl,rfl⟩ | ⟨rfl,b9,rfl,hq⟩)
   ·refine AWP.seq (AWP.rg0 [] [(2,(.vw 0 0 a))] (AWP.ret ?_))
    have hr:=someb hF
    subst hr
    exact(FnQ.f0 1 (.inr rfl))
   ·have hr:=someb hF
    subst hr
    exact hq
def Zdx (r:(List Int)):PV→List Blk→Prop:=fun p K=>p=(slc 1 Zc r)∧K=[]
abbrev Zfz (r:(List Int)):Exit→St→List Blk→Prop:=FnQ Tryz.prog Tryz.f204.results 0 (Zdx r)
theorem Zf0 (r:(List Int)) (hF:Zcm=some r):ACall Tryz.prog glob 204 [(slc 1 Zc ([]:(List Int)))] [] (Zdx r):=by
 refine ACall.body Tryz.func204 rfl (by kernel_rfl) ?_
 unfold Zcm at hF
 refine AWP.seq (AWP.rg0 [] [(0,(slc 1 Zc ([]:(List Int))))] (AWP.seq (AWP.seq (AWP.rg0 [(1,.len Zc ([]:(List Int)))] [(0,(slc 1 Zc ([]:(List Int)))),(8,(vb (decide ((List.length ([]:(List Int)):Int)<(2:Int)))))] ?_))))
 refine AWP.cif hF (fun j hF=>?_) (fun j hF=>?_)
 ·refine AWP.seq (AWP.rg0 [] [(2,(slc 1 Zc ([]:(List Int))))] (AWP.ret ?_))
  have hr:=someb hF
  subst hr
  exact(FnQ.f0 0 (.inr rfl))
 ·refine AWP.skip (AWP.seq (AWP.seq (AWP.rg0 [] [(0,(slc 1 Zc ([]:(List Int)))),(3,(i64 (1:Int)))] ?_)))
  obtain⟨d,k,hF⟩:=bindb hF
  refine AWP.mid (fun e st H=>(e=.normal∧d=(.inl ())∧st=[(0,(slc 1 Zc ([]:(List Int))))]∧H=[])∨(e=.ret∧∃ r,d=(.inr r)∧Zfz r e st H)) ?_ ?_
  ·clear hF
   refine AWP.kp [0,3] 0 ?_
   refine AWP.bround (fun n st H=>∃ a,Za2 n a=some d∧st=[(0,(slc 1 Zc ([]:(List Int)))),(3,(i64 a))]∧H=[]) fuel ⟨(1:Int),k,by kernel_rfl,by kernel_rfl⟩ ?_
   rintro f st H ⟨a,hF,rfl,rfl⟩
   cases f with
   | zero=>exact noneb hF
   | succ f=>
    rw [Za2] at hF
    refine AWP.seq (AWP.seq (AWP.rg0 [(2,.len Zc ([]:(List Int)))] [(0,(slc 1 Zc ([]:(List Int)))),(3,(i64 a)),(13,(vb (decide (a<(List.length ([]:(List Int)):Int)))))] ?_))
    refine AWP.cif hF (fun l hF=>?_) (fun l hF=>?_)
    ·refine AWP.skip (AWP.seq (AWP.block (AWP.seq ?_)))
     obtain⟨m,o,hF⟩:=bindb hF
     obtain⟨p,q,hF⟩:=bindb hF
     refine AWP.dr [(2,.idx Zc o),(7,.idx Zc q)] 10 [] [] [] [(0,(slc 1 Zc ([]:(List Int)))),(3,(i64 a)),(25,(vb (m == p)))] [] ?_
     refine AWP.cif hF (fun s hF=>?_) (fun s hF=>?_)
     ·refine AWP.seq ?_
      obtain⟨t,hF⟩:=chkb hF
      refine AWP.rg0 [(2,.slice Zc ([]:(List Int)) t)] [(0,(slc 1 Zc ([]:(List Int)))),(3,(i64 a)),(4,(slc 1 Zc (List.drop (Int.toNat a) (List.take (Int.toNat (List.length ([]:(List Int)):Int)) ([]:(List Int))))))] (AWP.seq (AWP.seq (AWP.rg0 [] [(0,(slc 1 Zc ([]:(List Int)))),(3,(i64 a)),(4,(slc 1 Zc (List.drop (Int.toNat a) (List.take (Int.toNat (List.length ([]:(List Int)):Int)) ([]:(List Int)))))),(5,(i64 (1:Int)))] ?_)))
      obtain⟨i,u,hF⟩:=bindb hF
      refine AWP.mid (fun e st H=>e=.normal∧st=[(0,(slc 1 Zc ([]:(List Int)))),(3,(i64 i))]∧H=[]) ?_ ?_
      ·clear hF
       refine AWP.kp [0,3,4,5] 0 ?_
       refine AWP.bround (fun n st H=>∃ c,∃ b,Za1 a n c b=some i∧st=[(0,(slc 1 Zc ([]:(List Int)))),(3,(i64 c)),(4,(slc 1 Zc (List.drop (Int.toNat a) (List.take (Int.toNat (List.length ([]:(List Int)):Int)) ([]:(List Int)))))),(5,(i64 b))]∧H=[]) fuel ⟨a,(1:Int),u,by kernel_rfl,by kernel_rfl⟩ ?_
       rintro g st H ⟨c,b,hF,rfl,rfl⟩
       cases g with
       | zero=>exact noneb hF
       | succ g=>
        rw [Za1] at hF
        refine AWP.seq (AWP.seq (AWP.rg0 [(2,.len Zc (List.drop (Int.toNat a) (List.take (Int.toNat (List.length ([]:(List Int)):Int)) ([]:(List Int)))))] [(0,(slc 1 Zc ([]:(List Int)))),(3,(i64 c)),(4,(slc 1 Zc (List.drop (Int.toNat a) (List.take (Int.toNat (List.length ([]:(List Int)):Int)) ([]:(List Int)))))),(5,(i64 b)),(32,(vb (decide (b<(List.length (List.drop (Int.toNat a) (List.take (Int.toNat (List.length ([]:(List Int)):Int)) ([]:(List Int)))):Int)))))] ?_))
        refine AWP.cif hF (fun v hF=>?_) (fun v hF=>?_)
        ·refine AWP.skip ?_
         obtain⟨w,x,hF⟩:=bindb hF
         refine AWP.seq ?_
         refine AWP.mid (fun e st H=>(e=.normal∧w=()∧st=[(0,(slc 1 Zc ([]:(List Int)))),(3,(i64 c)),(4,(slc 1 Zc (List.drop (Int.toNat a) (List.take (Int.toNat (List.length ([]:(List Int)):Int)) ([]:(List Int)))))),(5,(i64 b))]∧H=[])) ?_ ?_
         ·clear hF
          have hF:=x
          refine AWP.block (AWP.seq ?_)
          obtain⟨y,z,hF⟩:=bindb hF
          obtain⟨a0,a1,hF⟩:=bindb hF
          refine AWP.dr [(2,.idx Zc z),(7,.idx Zc a1)] 10 [] [] [] [(0,(slc 1 Zc ([]:(List Int)))),(3,(i64 c)),(4,(slc 1 Zc (List.drop (Int.toNat a) (List.take (Int.toNat (List.length ([]:(List Int)):Int)) ([]:(List Int)))))),(5,(i64 b)),(44,(vb (y != a0)))] [] ?_
          refine AWP.cif hF (fun a2 hF=>?_) (fun a2 hF=>?_)
          ·refine AWP.seq ?_
           exact noneb hF
          ·refine AWP.skip (LeQ.start (LeQ.pk [0,3,4,5] 0 ?_))
           exact⟨rfl,(someb hF).symm,by kernel_rfl,by kernel_rfl⟩
         ·rintro _ _ _ ⟨rfl,rfl,rfl,rfl⟩
          refine AWP.rg0 [] [(0,(slc 1 Zc ([]:(List Int)))),(3,(i64 c)),(4,(slc 1 Zc (List.drop (Int.toNat a) (List.take (Int.toNat (List.length ([]:(List Int)):Int)) ([]:(List Int)))))),(5,(i64 (ZI (b + (1:Int)))))] (LeQ.start (LeQ.pk [0,3,4,5] 0 ?_))
          exact⟨g,Nat.lt_succ_self _,c,(ZI (b + (1:Int))),hF,by kernel_rfl,by kernel_rfl⟩
        ·refine AWP.exit (LeQ.start (LeQ.pk [0,3] 0 ?_))
         have hr:=someb hF
         subst hr
         exact⟨rfl,by kernel_rfl,by kernel_rfl⟩
      ·rintro _ _ _ ⟨rfl,rfl,rfl⟩
       refine AWP.seq ?_
       exact noneb hF
     ·refine AWP.skip (AWP.rg0 [] [(0,(slc 1 Zc ([]:(List Int)))),(3,(i64 (ZI (a + (1:Int)))))] (LeQ.start (LeQ.pk [0,3] 0 ?_)))
      exact⟨f,Nat.lt_succ_self _,(ZI (a + (1:Int))),hF,by kernel_rfl,by kernel_rfl⟩
    ·refine AWP.exit (LeQ.start (LeQ.pk [0] 0 ?_))
     exact(.inl ⟨rfl,(someb hF).symm,by kernel_rfl,by kernel_rfl⟩)
  ·rintro _ _ _ (⟨rfl,rfl,rfl,rfl⟩ | ⟨rfl,a3,rfl,hq⟩)
   ·refine AWP.seq (AWP.rg0 [] [(2,(slc 1 Zc ([]:(List Int))))] (AWP.ret ?_))
    have hr:=someb hF
    subst hr
    exact(FnQ.f0 0 (.inr rfl))
   ·have hr:=someb hF
    subst hr
    exact hq
def Zme (r:(List Int)):PV→List Blk→Prop:=fun p K=>p=(slc 1 Zc r)∧K=[]
theorem Zfi (b:Int) (a:(List ZL)) (r:(List Int)) (hF:Zdq b a=some r):ACall Tryz.prog glob 191 [(i64 b),(slc 1 Zt a)] [] (Zme r):=by
 refine ACall.body Tryz.func191 rfl (by kernel_rfl) ?_
 unfold Zdq at hF
 refine AWP.seq (AWP.rg0 [] [(0,(i64 b)),(1,(slc 1 Zt a))] (AWP.seq ?_))
 obtain⟨l,y,hF⟩:=bindb hF
 refine AWP.rg [(1,.call Tryz.func148 [] (Zof b l y)),(4,.m)] [(0,(i64 b)),(1,(slc 1 Zt a)),(5,(.own 0 (List.length [(0:Int),(IntKind.wrap .u64 ((IntKind.wrap .u64 l) + (1:Int)))])))] [bf 1 159 Zc [(0:Int),(IntKind.wrap .u64 ((IntKind.wrap .u64 l) + (1:Int)))] false] (AWP.seq (AWP.seq (AWP.rg0 [(1,.len Zt a)] [(0,(i64 b)),(5,(.own 0 (List.length [(0:Int),(IntKind.wrap .u64 ((IntKind.wrap .u64 l) + (1:Int)))]))),(15,(slc 1 Zt a)),(16,(i64 (List.length a:Int))),(17,(i64 (0:Int)))] ?_)))
 obtain⟨k,z,hF⟩:=bindb hF
 refine AWP.mid (fun e st H=>e=.normal∧st=[(5,(.own 0 (List.length k)))]∧H=[bf 1 159 Zc k false]) ?_ ?_
 ·clear hF
  refine AWP.kp [0,5,15,16,17] 1 ?_
  refine AWP.bround (fun n st H=>∃ j,∃ d,Zeg b a n j d=some k∧st=[(0,(i64 b)),(5,(.own 0 (List.length j))),(15,(slc 1 Zt a)),(16,(i64 (List.length a:Int))),(17,(i64 d))]∧H=[bf 1 159 Zc j false]) fuel ⟨[(0:Int),(IntKind.wrap .u64 ((IntKind.wrap .u64 l) + (1:Int)))],(0:Int),z,by kernel_rfl,by kernel_rfl⟩ ?_
  rintro q st H ⟨j,d,hF,rfl,rfl⟩
  cases q with
  | zero=>exact noneb hF
  | succ q=>
   rw [Zeg] at hF
   refine AWP.seq (AWP.rg0 [] [(0,(i64 b)),(5,(.own 0 (List.length j))),(15,(slc 1 Zt a)),(16,(i64 (List.length a:Int))),(17,(i64 d)),(18,(vb (decide (d<(List.length a:Int)))))] (AWP.seq ?_))
   refine AWP.cif hF (fun a0 hF=>?_) (fun a0 hF=>?_)
   ·refine AWP.skip (AWP.seq (AWP.block (AWP.seq ?_)))
    obtain⟨c,a1,hF⟩:=bindb hF
    refine AWP.rg0 [(0,.idx Zt a1)] [(0,(i64 b)),(5,(.own 0 (List.length j))),(7,(slc 10 Za c)),(15,(slc 1 Zt a)),(16,(i64 (List.length a:Int))),(17,(i64 d))] (AWP.seq (AWP.rg0 [(1,.len Za c)] [(0,(i64 b)),(5,(.own 0 (List.length j))),(15,(slc 1 Zt a)),(16,(i64 (List.length a:Int))),(17,(i64 d)),(21,(slc 10 Za c)),(22,(i64 (List.length c:Int))),(23,(i64 (0:Int)))] ?_))
    obtain⟨o,a2,hF⟩:=bindb hF
    refine AWP.mid (fun e st H=>e=.normal∧st=[(0,(i64 b)),(5,(.own 0 (List.length o))),(15,(slc 1 Zt a)),(16,(i64 (List.length a:Int))),(17,(i64 d))]∧H=[bf 1 159 Zc o false]) ?_ ?_
    ·clear hF
     refine AWP.kp [0,5,15,16,17,21,22,23] 1 ?_
     refine AWP.bround (fun n st H=>∃ g,∃ i,Zef b c n g i=some o∧st=[(0,(i64 b)),(5,(.own 0 (List.length g))),(15,(slc 1 Zt a)),(16,(i64 (List.length a:Int))),(17,(i64 d)),(21,(slc 10 Za c)),(22,(i64 (List.length c:Int))),(23,(i64 i))]∧H=[bf 1 159 Zc g false]) fuel ⟨j,(0:Int),a2,by kernel_rfl,by kernel_rfl⟩ ?_
     rintro t st H ⟨g,i,hF,rfl,rfl⟩
     cases t with
     | zero=>exact noneb hF
     | succ t=>
      rw [Zef] at hF
      refine AWP.seq (AWP.rg0 [] [(0,(i64 b)),(5,(.own 0 (List.length g))),(15,(slc 1 Zt a)),(16,(i64 (List.length a:Int))),(17,(i64 d)),(21,(slc 10 Za c)),(22,(i64 (List.length c:Int))),(23,(i64 i)),(24,(vb (decide (i<(List.length c:Int)))))] (AWP.seq ?_))
      refine AWP.cif hF (fun a3 hF=>?_) (fun a3 hF=>?_)
      ·refine AWP.skip (AWP.seq (AWP.block (AWP.seq ?_)))
       obtain⟨f,a4,hF⟩:=bindb hF
       refine AWP.rg [(0,.idx Za a4)] [(0,(i64 b)),(5,(.own 0 (List.length g))),(9,(.ptr 1 0)),(15,(slc 1 Zt a)),(16,(i64 (List.length a:Int))),(17,(i64 d)),(21,(slc 10 Za c)),(22,(i64 (List.length c:Int))),(23,(i64 i))] [bf 1 159 Zc g false,.cells (Za f)] ?_
       obtain⟨v,hF⟩:=chkb hF
       obtain⟨w,hF⟩:=chkb hF
       obtain⟨a5,hF⟩:=chkb hF
       refine AWP.dr [(2,.ixd v),(4,.ldA Zs (Arr5.get f) 0 2 0 v),(7,.ixd w),(9,.ldA Zs (Arr5.get f) 0 2 1 w),(13,.app Zc (fun _=>by kernel_rfl) a5)] 14 [] [13] [] [(0,(i64 b)),(5,(.own 0 (List.length (g++[(IntKind.wrap .u64 (Arr5.get f b).Lo),(IntKind.wrap .u64 ((IntKind.wrap .u64 (Arr5.get f b).Hi) + (1:Int)))])))),(15,(slc 1 Zt a)),(16,(i64 (List.length a:Int))),(17,(i64 d)),(21,(slc 10 Za c)),(22,(i64 (List.length c:Int))),(23,(i64 i))] [bf 1 159 Zc (g++[(IntKind.wrap .u64 (Arr5.get f b).Lo),(IntKind.wrap .u64 ((IntKind.wrap .u64 (Arr5.get f b).Hi) + (1:Int)))]) false,.cells (Za f)] (AWP.rg0 [] [(0,(i64 b)),(5,(.own 0 (List.length (g++[(IntKind.wrap .u64 (Arr5.get f b).Lo),(IntKind.wrap .u64 ((IntKind.wrap .u64 (Arr5.get f b).Hi) + (1:Int)))])))),(15,(slc 1 Zt a)),(16,(i64 (List.length a:Int))),(17,(i64 d)),(21,(slc 10 Za c)),(22,(i64 (List.length c:Int))),(23,(i64 (ZI (i + (1:Int)))))] (LeQ.start (LeQ.pk [0,5,15,16,17,21,22,23] 1 ?_)))
       exact⟨t,Nat.lt_succ_self _,(g++[(IntKind.wrap .u64 (Arr5.get f b).Lo),(IntKind.wrap .u64 ((IntKind.wrap .u64 (Arr5.get f b).Hi) + (1:Int)))]),(ZI (i + (1:Int))),hF,by kernel_rfl,by kernel_rfl⟩
      ·refine AWP.exit (LeQ.start (LeQ.pk [0,5,15,16,17] 1 ?_))
       have hr:=someb hF
       subst hr
       exact⟨rfl,by kernel_rfl,by kernel_rfl⟩
    ·rintro _ _ _ ⟨rfl,rfl,rfl⟩
     refine AWP.rg0 [] [(0,(i64 b)),(5,(.own 0 (List.length o))),(15,(slc 1 Zt a)),(16,(i64 (List.length a:Int))),(17,(i64 (ZI (d + (1:Int)))))] (LeQ.start (LeQ.pk [0,5,15,16,17] 1 ?_))
     exact⟨q,Nat.lt_succ_self _,o,(ZI (d + (1:Int))),hF,by kernel_rfl,by kernel_rfl⟩
   ·refine AWP.exit (LeQ.start (LeQ.pk [5] 1 ?_))
    have hr:=someb hF
    subst hr
    exact⟨rfl,by kernel_rfl,by kernel_rfl⟩
 ·rintro _ _ _ ⟨rfl,rfl,rfl⟩
  refine AWP.seq ?_
  obtain⟨a6,hF⟩:=chkb hF
  obtain⟨p,a7,hF⟩:=bindb hF
  obtain⟨x,hF⟩:=chkb hF
  refine AWP.rg [(1,.callB (s:=1) Zc Tryz.func203 (fun _=>rfl) a6 x (fun sp_=>Zh3 (List.length k) k sp_ p a7))] [(5,(.own 0 (List.length k)))] [bf 1 159 Zc p false] ?_
  rw [show ([(5,(.own 0 (List.length k)))]:St)=[(5,(.own 0 (List.length p)))] by simp only [x]]
  refine AWP.seq ?_
  obtain⟨u,a8,hF⟩:=bindb hF
  refine AWP.rg [(1,.callBE (s:=1) Zc Tryz.func204 (fun _=>rfl) a8 (fun h sp_=>Zg8 (List.length p) p sp_ _ h) (fun h=>Zf0 _ h))] [(4,(slc 1 Zc (List.take u.1 u.2)))] [bf 1 159 Zc u.2 true] (AWP.ret ?_)
  have hr:=someb hF
  subst hr
  exact(FnQ.f0 0 (.inr rfl))
def Zj9 (r:ZL):PV→List Blk→Prop:=fun p K=>p=(slc 10 Za r)∧K=[]
theorem Za9 (a:ZL) (b:Int) (c:Int) (r:ZL) (hF:Zaj a b c=some r):ACall Tryz.prog glob 192 [(slc 10 Za a),(i64 b),(u32 c)] [] (Zj9 r):=by
 refine ACall.body Tryz.func192 rfl (by kernel_rfl) ?_
 unfold Zaj at hF
 refine AWP.seq (AWP.rg0 [] [(0,(slc 10 Za a)),(1,(i64 b)),(2,(u32 c))] (AWP.seq (AWP.rg0 [] [(0,(slc 10 Za a)),(1,(i64 b)),(2,(u32 c)),(7,nils)] ?_)))
 refine AWP.own (H':=[bf 10 94 Za ([]:ZL) false]) (st':=[(7,(.own 0 (List.length ([]:ZL)))),(0,(slc 10 Za a)),(1,(i64 b)),(2,(u32 c))]) 7 10 94 (by kernel_rfl) (by kernel_rfl) (by kernel_rfl) ?_
 refine AWP.pick (st':=[(0,(slc 10 Za a)),(1,(i64 b)),(2,(u32 c)),(7,(.own 0 (List.length ([]:ZL))))]) (ks:=[0,1,2,7]) (by kernel_rfl) ?_
 refine AWP.seq (AWP.seq (AWP.rg0 [(1,.len Za a)] [(1,(i64 b)),(2,(u32 c)),(7,(.own 0 (List.length ([]:ZL)))),(10,(slc 10 Za a)),(11,(i64 (List.length a:Int))),(12,(i64 (0:Int)))] ?_))
 obtain⟨j,w,hF⟩:=bindb hF
 refine AWP.mid (fun e st H=>e=.normal∧st=[(7,(.own 0 (List.length j)))]∧H=[bf 10 94 Za j false]) ?_ ?_
 ·clear hF
  refine AWP.kp [1,2,7,10,11,12] 1 ?_
  refine AWP.bround (fun n st H=>∃ d,∃ f,Zdn a b c n d f=some j∧st=[(1,(i64 b)),(2,(u32 c)),(7,(.own 0 (List.length d))),(10,(slc 10 Za a)),(11,(i64 (List.length a:Int))),(12,(i64 f))]∧H=[bf 10 94 Za d false]) fuel ⟨([]:ZL),(0:Int),w,by kernel_rfl,by kernel_rfl⟩ ?_
  rintro q st H ⟨d,f,hF,rfl,rfl⟩
  cases q with
  | zero=>exact noneb hF
  | succ q=>
   rw [Zdn] at hF
   refine AWP.seq (AWP.rg0 [] [(1,(i64 b)),(2,(u32 c)),(7,(.own 0 (List.length d))),(10,(slc 10 Za a)),(11,(i64 (List.length a:Int))),(12,(i64 f)),(13,(vb (decide (f<(List.length a:Int)))))] (AWP.seq ?_))
   refine AWP.cif hF (fun x hF=>?_) (fun x hF=>?_)
   ·refine AWP.skip ?_
    obtain⟨m,y,hF⟩:=bindb hF
    refine AWP.seq ?_
    refine AWP.mid (fun e st H=>e=.normal∧st=[(1,(i64 b)),(2,(u32 c)),(7,(.own 0 (List.length m))),(10,(slc 10 Za a)),(11,(i64 (List.length a:Int))),(12,(i64 f))]∧H=[bf 10 94 Za m false]) ?_ ?_
    ·clear hF
     have hF:=y
     refine AWP.block (AWP.seq ?_)
     obtain⟨g,z,hF⟩:=bindb hF
     refine AWP.rg [(0,.idx Za z)] [(1,(i64 b)),(2,(u32 c)),(7,(.own 0 (List.length d))),(9,(.ptr 1 0)),(10,(slc 10 Za a)),(11,(i64 (List.length a:Int))),(12,(i64 f))] [bf 10 94 Za d false,.cells (Za g)] (AWP.seq ?_)
     obtain⟨o,hF⟩:=chkb hF
     obtain⟨a0,p,hF⟩:=bindb hF
     replace p:=someb p
     obtain⟨a1,u,hF⟩:=bindb hF
     refine AWP.to [(1,(i64 b)),(2,(u32 c)),(7,(.own 0 (List.length d))),(9,(.ptr 1 0)),(10,(slc 10 Za a)),(11,(i64 (List.length a:Int))),(12,(i64 f)),(29,(vb a1))] [bf 10 94 Za d false,.cells (Za g)] ?_ ?_
     ·cases a0 with
      | false=>
       have a2:=someb (ifF u rfl)
       subst a2
       exact AWP.rgT [(1,.ixd o),(3,.ldA Zs (Arr5.get g) 0 2 0 o),(6,.bool p)]
      | true=>
       have k:=ifT u rfl
       obtain⟨v,k⟩:=chkb k
       replace k:=someb k
       subst k
       exact AWP.rgT [(1,.ixd o),(3,.ldA Zs (Arr5.get g) 0 2 0 o),(6,.bool p),(9,.ixd v),(11,.ldA Zs (Arr5.get g) 0 2 1 v)]
     refine AWP.cif hF (fun a3 hF=>?_) (fun a3 hF=>?_)
     ·obtain⟨a4,hF⟩:=chkb hF
      refine AWP.rg [(3,.app Za (fun _=>by kernel_rfl) a4)] [(1,(i64 b)),(2,(u32 c)),(7,(.own 0 (List.length (d++[g])))),(10,(slc 10 Za a)),(11,(i64 (List.length a:Int))),(12,(i64 f))] [bf 10 94 Za (d++[g]) false,.cells (Za g)] (LeQ.start (LeQ.pk [1,2,7,10,11,12] 1 ?_))
      have hr:=someb hF
      subst hr
      exact⟨rfl,by kernel_rfl,by kernel_rfl⟩
     ·refine AWP.skip (LeQ.start (LeQ.pk [1,2,7,10,11,12] 1 ?_))
      have hr:=someb hF
      subst hr
      exact⟨rfl,by kernel_rfl,by kernel_rfl⟩
    ·rintro _ _ _ ⟨rfl,rfl,rfl⟩
     refine AWP.rg0 [] [(1,(i64 b)),(2,(u32 c)),(7,(.own 0 (List.length m))),(10,(slc 10 Za a)),(11,(i64 (List.length a:Int))),(12,(i64 (ZI (f + (1:Int)))))] (LeQ.start (LeQ.pk [1,2,7,10,11,12] 1 ?_))
     exact⟨q,Nat.lt_succ_self _,m,(ZI (f + (1:Int))),hF,by kernel_rfl,by kernel_rfl⟩
   ·refine AWP.exit (LeQ.start (LeQ.pk [7] 1 ?_))
    have hr:=someb hF
    subst hr
    exact⟨rfl,by kernel_rfl,by kernel_rfl⟩
 ·rintro _ _ _ ⟨rfl,rfl,rfl⟩
  refine AWP.seq (AWP.rg0 [] [(6,(.own 0 (List.length j)))] (AWP.ret ?_))
  have hr:=someb hF
  subst hr
  exact(FnQ.f1 0 (.inr rfl) (.inl (Wk.ownT (i:=0) (s:=10) (t:=94) (l:=j) (sh:=false) (row:=Za) (by kernel_rfl) (.inl rfl))))
end Go.AM
set_option maxRecDepth 100000
namespace Go.AM
open Go Go.Proofs
def Zda (r:(ZL × Bool)):PV→List Blk→Prop:=fun p K=>p=(.tup [(slc 10 Za r.1),(vb r.2)])∧K=[]
abbrev Zeo (r:(ZL × Bool)):Exit→St→List Blk→Prop:=FnQ Tryz.prog Tryz.f177.results 0 (Zda r)
theorem Zgf:∀(nr:Nat) (a:Int) (d:ZL) (f:ZL) (g:Int) (r:(ZL × Bool)) (_hF:Z4 nr a d f g=some r),ACall Tryz.prog glob 177 [(i64 a),(slc 10 Za d),(slc 10 Za f),(.sc (.func (.func 156) #[] #[])),(i64 g)] [] (Zda r):=by
 intro nr
 induction nr with
 | zero=>intro a d f g r hF; exact noneb (by rw [Z4] at hF; exact hF)
 | succ nr ih=>
  intro a d f g r hF
  refine ACall.body Tryz.func177 rfl (by kernel_rfl) ?_
  rw [Z4] at hF
  refine AWP.seq (AWP.rg0 [] [(0,(i64 a)),(1,(slc 10 Za d)),(2,(slc 10 Za f)),(3,(.sc (.func (.func 156) #[] #[]))),(4,(i64 g))] (AWP.seq (AWP.seq (AWP.rg0 [] [(0,(i64 a)),(1,(slc 10 Za d)),(2,(slc 10 Za f)),(3,(.sc (.func (.func 156) #[] #[]))),(4,(i64 g)),(26,(vb (a == (5:Int))))] ?_))))
  refine AWP.cif hF (fun c8 hF=>?_) (fun c8 hF=>?_)
  ·refine AWP.seq (AWP.seq ?_)
   obtain⟨b8,c9,hF⟩:=bindb hF
   refine AWP.rg0 [(2,.len Za d),(5,.len Za f),(7,.call Tryz.func156 [] (Zh1 (decide ((List.length d:Int) > (0:Int))) (decide ((List.length f:Int) > (0:Int))) b8 c9))] [(34,(vb b8))] ?_
   refine AWP.cif hF (fun d0 hF=>?_) (fun d0 hF=>?_)
   ·refine AWP.seq (AWP.rg0 [] [(10,(slc 10 Za [(Arr5.mk Zr Zr Zr Zr Zr)])),(11,(vb true))] (AWP.ret ?_))
    have hr:=someb hF
    subst hr
    exact(FnQ.f0 0 (.inr rfl))
   ·refine AWP.skip (AWP.seq (AWP.rg0 [] [(10,nils),(11,(vb true))] (AWP.ret ?_)))
    have hr:=someb hF
    subst hr
    exact(FnQ.f1 0 (.inr rfl) (.inr ⟨_,_,rfl,rfl,(.cons _ _ _ _ (.nil 10) (.cons _ _ _ _ (.refl _) .nil))⟩))
  ·refine AWP.skip (AWP.seq (AWP.seq ?_))
   obtain⟨d1,b0,hF⟩:=bindb hF
   replace b0:=someb b0
   obtain⟨d2,b9,hF⟩:=bindb hF
   refine AWP.to [(0,(i64 a)),(1,(slc 10 Za d)),(2,(slc 10 Za f)),(3,(.sc (.func (.func 156) #[] #[]))),(4,(i64 g)),(47,(vb d2))] [] ?_ ?_
   ·cases d1 with
    | false=>
     have d3:=someb (ifF b9 rfl)
     subst d3
     exact AWP.rgT [(1,.len Za d),(3,.len Za f),(6,.bool b0)]
    | true=>
     have a3:=ifT b9 rfl
     obtain⟨d4,d5,a3⟩:=bindb a3
     replace a3:=someb a3
     subst a3
     exact AWP.rgT [(1,.len Za d),(3,.len Za f),(6,.bool b0),(8,.call Tryz.func156 [] (Zh1 false false d4 d5))]
   refine AWP.cif hF (fun d6 hF=>?_) (fun d6 hF=>?_)
   ·refine AWP.seq (AWP.rg0 [] [(10,nils),(11,(vb true))] (AWP.ret ?_))
    have hr:=someb hF
    subst hr
    exact(FnQ.f1 0 (.inr rfl) (.inr ⟨_,_,rfl,rfl,(.cons _ _ _ _ (.nil 10) (.cons _ _ _ _ (.refl _) .nil))⟩))
   ·refine AWP.skip (AWP.seq (AWP.rg0 [] [(0,(i64 a)),(1,(slc 10 Za d)),(2,(slc 10 Za f)),(3,(.sc (.func (.func 156) #[] #[]))),(4,(i64 g)),(12,nils)] ?_))
    refine AWP.own (H':=[bf 3 296 Zd ([]:(List Zf)) false]) (st':=[(12,(.own 0 (List.length ([]:(List Zf))))),(0,(i64 a)),(1,(slc 10 Za d)),(2,(slc 10 Za f)),(3,(.sc (.func (.func 156) #[] #[]))),(4,(i64 g))]) 12 3 296 (by kernel_rfl) (by kernel_rfl) (by kernel_rfl) ?_
    refine AWP.pick (st':=[(0,(i64 a)),(1,(slc 10 Za d)),(2,(slc 10 Za f)),(3,(.sc (.func (.func 156) #[] #[]))),(4,(i64 g)),(12,(.own 0 (List.length ([]:(List Zf)))))]) (ks:=[0,1,2,3,4,12]) (by kernel_rfl) ?_
    refine AWP.seq (AWP.rg0 [] [(0,(i64 a)),(1,(slc 10 Za d)),(2,(slc 10 Za f)),(3,(.sc (.func (.func 156) #[] #[]))),(4,(i64 g)),(12,(.own 0 (List.length ([]:(List Zf))))),(13,(i64 (0:Int)))] (AWP.seq ?_))
    obtain⟨k,d7,hF⟩:=bindb hF
    refine AWP.rg0 [(4,.call Tryz.func191 [] (Zfi a [d,f] k d7))] [(0,(i64 a)),(1,(slc 10 Za d)),(2,(slc 10 Za f)),(3,(.sc (.func (.func 156) #[] #[]))),(4,(i64 g)),(12,(.own 0 (List.length ([]:(List Zf))))),(13,(i64 (0:Int))),(14,(slc 1 Zc k))] (AWP.seq (AWP.seq (AWP.rg0 [] [(0,(i64 a)),(1,(slc 10 Za d)),(2,(slc 10 Za f)),(3,(.sc (.func (.func 156) #[] #[]))),(4,(i64 g)),(12,(.own 0 (List.length ([]:(List Zf))))),(13,(i64 (0:Int))),(14,(slc 1 Zc k)),(15,(i64 (0:Int)))] ?_)))
    obtain⟨b2,d8,hF⟩:=bindb hF
    refine AWP.mid (fun e st H=>(e=.normal∧∃ c,∃ b3,b2=(.inl (c,b3))∧st=[(0,(i64 a)),(12,(.own 0 (List.length c))),(13,(i64 b3))]∧H=[bf 3 296 Zd c false])∨(e=.ret∧∃ r,b2=(.inr r)∧Zeo r e st H)) ?_ ?_
    ·clear hF
     refine AWP.kp [0,1,2,3,4,12,13,14,15] 1 ?_
     refine AWP.bround (fun n st H=>∃ b,∃ o,∃ p,Zbr a d f g (Z4 nr) k n b o p=some b2∧st=[(0,(i64 a)),(1,(slc 10 Za d)),(2,(slc 10 Za f)),(3,(.sc (.func (.func 156) #[] #[]))),(4,(i64 g)),(12,(.own 0 (List.length b))),(13,(i64 o)),(14,(slc 1 Zc k)),(15,(i64 p))]∧H=[bf 3 296 Zd b false]) fuel ⟨([]:(List Zf)),(0:Int),(0:Int),d8,by kernel_rfl,by kernel_rfl⟩ ?_
     rintro b4 st H ⟨b,o,p,hF,rfl,rfl⟩
     cases b4 with
     | zero=>exact noneb hF
     | succ b4=>
      rw [Zbr] at hF
      refine AWP.seq (AWP.seq (AWP.rg0 [(3,.len Zc k)] [(0,(i64 a)),(1,(slc 10 Za d)),(2,(slc 10 Za f)),(3,(.sc (.func (.func 156) #[] #[]))),(4,(i64 g)),(12,(.own 0 (List.length b))),(13,(i64 o)),(14,(slc 1 Zc k)),(15,(i64 p)),(57,(vb (decide ((ZI (p + (1:Int)))<(List.length k:Int)))))] ?_))
      refine AWP.cif hF (fun d9 hF=>?_) (fun d9 hF=>?_)
      ·refine AWP.skip ?_
       obtain⟨c0,e0,hF⟩:=bindb hF
       refine AWP.seq ?_
       refine AWP.mid (fun e st H=>(e=.normal∧∃ a2,∃ a4,c0=(.inl (a2,a4))∧st=[(0,(i64 a)),(1,(slc 10 Za d)),(2,(slc 10 Za f)),(3,(.sc (.func (.func 156) #[] #[]))),(4,(i64 g)),(12,(.own 0 (List.length a2))),(13,(i64 a4)),(14,(slc 1 Zc k)),(15,(i64 p))]∧H=[bf 3 296 Zd a2 false])∨(e=.ret∧∃ r,c0=(.inr r)∧Zeo r e st H)) ?_ ?_
       ·clear hF
        have hF:=e0
        refine AWP.block (AWP.seq ?_)
        obtain⟨w,e1,hF⟩:=bindb hF
        obtain⟨u,e2,hF⟩:=bindb hF
        refine AWP.dr [(2,.idx Zc e1),(8,.idx Zc e2)] 14 [] [13] [] [(0,(i64 a)),(1,(slc 10 Za d)),(2,(slc 10 Za f)),(3,(.sc (.func (.func 156) #[] #[]))),(4,(i64 g)),(12,(.own 0 (List.length b))),(13,(i64 o)),(14,(slc 1 Zc k)),(15,(i64 p)),(16,(.ptr 1 0))] [bf 3 296 Zd b false,.cells (Zs (Zb.mk (IntKind.wrap .u32 w) (IntKind.wrap .u32 (IntKind.wrap .u64 (u - (1:Int))))))] (AWP.seq ?_)
        obtain⟨c1,e3,hF⟩:=bindb hF
        obtain⟨c2,e4,hF⟩:=bindb hF
        obtain⟨m,e5,hF⟩:=bindb hF
        refine AWP.dr [(6,.call Tryz.func192 [] (Za9 d a (IntKind.wrap .u32 w) c1 e3)),(11,.call Tryz.func192 [] (Za9 f a (IntKind.wrap .u32 w) c2 e4)),(14,.call Tryz.func177 [] (ih (ZI (a + (1:Int))) c1 c2 g m e5))] 19 [] [] [] [(0,(i64 a)),(1,(slc 10 Za d)),(2,(slc 10 Za f)),(3,(.sc (.func (.func 156) #[] #[]))),(4,(i64 g)),(12,(.own 0 (List.length b))),(13,(i64 o)),(14,(slc 1 Zc k)),(15,(i64 p)),(16,(.ptr 1 0)),(17,(slc 10 Za m.1)),(18,(vb m.2))] [bf 3 296 Zd b false,.cells (Zs (Zb.mk (IntKind.wrap .u32 w) (IntKind.wrap .u32 (IntKind.wrap .u64 (u - (1:Int))))))] (AWP.seq (AWP.seq (AWP.rg0 [] [(0,(i64 a)),(1,(slc 10 Za d)),(2,(slc 10 Za f)),(3,(.sc (.func (.func 156) #[] #[]))),(4,(i64 g)),(12,(.own 0 (List.length b))),(13,(i64 o)),(14,(slc 1 Zc k)),(15,(i64 p)),(16,(.ptr 1 0)),(17,(slc 10 Za m.1)),(92,(vb (!m.2)))] ?_)))
        refine AWP.cif hF (fun e6 hF=>?_) (fun e6 hF=>?_)
        ·refine AWP.seq (AWP.rg0 [] [(10,nils),(11,(vb false))] (AWP.ret ?_))
         exact LeQ.of (.inr ⟨rfl,(([]:ZL),false),(someb hF).symm,(FnQ.f1 0 (.inr rfl) (.inr ⟨_,_,rfl,rfl,(.cons _ _ _ _ (.nil 10) (.cons _ _ _ _ (.refl _) .nil))⟩))⟩)
        ·refine AWP.skip (AWP.seq (AWP.seq (AWP.rg0 [(1,.len Za m.1)] [(0,(i64 a)),(1,(slc 10 Za d)),(2,(slc 10 Za f)),(3,(.sc (.func (.func 156) #[] #[]))),(4,(i64 g)),(12,(.own 0 (List.length b))),(13,(i64 o)),(14,(slc 1 Zc k)),(15,(i64 p)),(16,(.ptr 1 0)),(17,(slc 10 Za m.1)),(95,(vb ((List.length m.1:Int) == (0:Int))))] ?_)))
         refine AWP.cif hF (fun e7 hF=>?_) (fun e7 hF=>?_)
         ·refine AWP.exit (LeQ.start (LeQ.pk [0,1,2,3,4,12,13,14,15] 1 ?_))
          exact(.inl ⟨rfl,b,o,(someb hF).symm,by kernel_rfl,by kernel_rfl⟩)
         ·refine AWP.skip (AWP.seq (AWP.seq (AWP.rg0 [(1,.len Zd b)] [(0,(i64 a)),(1,(slc 10 Za d)),(2,(slc 10 Za f)),(3,(.sc (.func (.func 156) #[] #[]))),(4,(i64 g)),(12,(.own 0 (List.length b))),(13,(i64 o)),(14,(slc 1 Zc k)),(15,(i64 p)),(16,(.ptr 1 0)),(17,(slc 10 Za m.1)),(19,(i64 (List.length b:Int)))] (AWP.seq ?_))))
          obtain⟨e8,a5,hF⟩:=bindb hF
          replace a5:=someb a5
          obtain⟨h1,c3,hF⟩:=bindb hF
          obtain⟨e9,a6,hF⟩:=bindb hF
          replace a6:=someb a6
          obtain⟨f2,b5,hF⟩:=bindb hF
          refine AWP.to [(0,(i64 a)),(1,(slc 10 Za d)),(2,(slc 10 Za f)),(3,(.sc (.func (.func 156) #[] #[]))),(4,(i64 g)),(12,(.own 0 (List.length b))),(13,(i64 o)),(14,(slc 1 Zc k)),(15,(i64 p)),(16,(.ptr 1 0)),(17,(slc 10 Za m.1)),(19,(i64 (List.length b:Int))),(122,(vb f2))] [bf 3 296 Zd b false,.cells (Zs (Zb.mk (IntKind.wrap .u32 w) (IntKind.wrap .u32 (IntKind.wrap .u64 (u - (1:Int))))))] ?_ ?_
          ·cases e8 with
           | false=>
            have f3:=someb (ifF c3 rfl)
            subst f3
            subst a6
            have f4:=someb (ifF b5 rfl)
            subst f4
            exact AWP.drT [(2,.bool a5)] 25 [] [] []
           | true=>
            have a7:=ifT c3 rfl
            obtain⟨h2,b1,a7⟩:=bindb a7
            replace a7:=someb a7
            subst a7
            cases e9 with
            | false=>
             have f5:=someb (ifF b5 rfl)
             subst f5
             exact AWP.drT [(2,.bool a5),(6,.idx Zd b1),(7,.fdE Zd b (ZI ((List.length b:Int) - (1:Int)))),(8,.fdE Zd b (ZI ((List.length b:Int) - (1:Int)))),(9,.ldE Zd b1),(15,.bool a6)] 25 [] [] []
            | true=>
             have a1:=ifT b5 rfl
             obtain⟨f6,c4,a1⟩:=bindb a1
             obtain⟨f7,f8,a1⟩:=bindb a1
             replace a1:=someb a1
             subst a1
             exact AWP.drT [(2,.bool a5),(6,.idx Zd b1),(7,.fdE Zd b (ZI ((List.length b:Int) - (1:Int)))),(8,.fdE Zd b (ZI ((List.length b:Int) - (1:Int)))),(9,.ldE Zd b1),(15,.bool a6),(19,.idx Zd c4),(20,.fdE Zd b (ZI ((List.length b:Int) - (1:Int)))),(21,.ldE Zd c4),(23,.call Tryz.func193 [] (Zce f6.f_rest m.1 f7 f8))] 25 [] [] []
          refine AWP.cif hF (fun f9 hF=>?_) (fun f9 hF=>?_)
          ·refine AWP.seq ?_
           obtain⟨z,c5,hF⟩:=bindb hF
           refine AWP.rg [(5,.idx Zd c5),(6,.fdE Zd b (ZI ((List.length b:Int) - (1:Int)))),(7,.fdE Zd b (ZI ((List.length b:Int) - (1:Int)))),(8,.stE Zd c5 ({ z with f_values:=({ z.f_values with Hi:=(IntKind.wrap .u32 (IntKind.wrap .u64 (u - (1:Int)))) }:Zb) }:Zf))] [(0,(i64 a)),(1,(slc 10 Za d)),(2,(slc 10 Za f)),(3,(.sc (.func (.func 156) #[] #[]))),(4,(i64 g)),(12,(.own 0 (List.length b))),(13,(i64 o)),(14,(slc 1 Zc k)),(15,(i64 p))] [bf 3 296 Zd (List.set b (Int.toNat (ZI ((List.length b:Int) - (1:Int)))) ({ z with f_values:=({ z.f_values with Hi:=(IntKind.wrap .u32 (IntKind.wrap .u64 (u - (1:Int)))) }:Zb) }:Zf)) false,.cells (Zs (Zb.mk (IntKind.wrap .u32 w) (IntKind.wrap .u32 (IntKind.wrap .u64 (u - (1:Int))))))] ?_
           rw [show ([(0,(i64 a)),(1,(slc 10 Za d)),(2,(slc 10 Za f)),(3,(.sc (.func (.func 156) #[] #[]))),(4,(i64 g)),(12,(.own 0 (List.length b))),(13,(i64 o)),(14,(slc 1 Zc k)),(15,(i64 p))]:St)=[(0,(i64 a)),(1,(slc 10 Za d)),(2,(slc 10 Za f)),(3,(.sc (.func (.func 156) #[] #[]))),(4,(i64 g)),(12,(.own 0 (List.length (List.set b (Int.toNat (ZI ((List.length b:Int) - (1:Int)))) ({ z with f_values:=({ z.f_values with Hi:=(IntKind.wrap .u32 (IntKind.wrap .u64 (u - (1:Int)))) }:Zb) }:Zf))))),(13,(i64 o)),(14,(slc 1 Zc k)),(15,(i64 p))] by simp only [List.length_set]]
           refine AWP.exit (LeQ.start (LeQ.pk [0,1,2,3,4,12,13,14,15] 1 ?_))
           exact(.inl ⟨rfl,(List.set b (Int.toNat (ZI ((List.length b:Int) - (1:Int)))) ({ z with f_values:=({ z.f_values with Hi:=(IntKind.wrap .u32 (IntKind.wrap .u64 (u - (1:Int)))) }:Zb) }:Zf)),o,(someb hF).symm,by kernel_rfl,by kernel_rfl⟩)
          ·refine AWP.skip (AWP.seq ?_)
           obtain⟨g0,hF⟩:=chkb hF
           refine AWP.rg [(5,.app Zd (fun _=>by kernel_rfl) g0)] [(0,(i64 a)),(1,(slc 10 Za d)),(2,(slc 10 Za f)),(3,(.sc (.func (.func 156) #[] #[]))),(4,(i64 g)),(12,(.own 0 (List.length (b++[(Zf.mk (Zb.mk (IntKind.wrap .u32 w) (IntKind.wrap .u32 (IntKind.wrap .u64 (u - (1:Int))))) m.1)])))),(13,(i64 o)),(14,(slc 1 Zc k)),(15,(i64 p)),(17,(slc 10 Za m.1))] [bf 3 296 Zd (b++[(Zf.mk (Zb.mk (IntKind.wrap .u32 w) (IntKind.wrap .u32 (IntKind.wrap .u64 (u - (1:Int))))) m.1)]) false,.cells (Zs (Zb.mk (IntKind.wrap .u32 w) (IntKind.wrap .u32 (IntKind.wrap .u64 (u - (1:Int))))))] (AWP.seq (AWP.rg0 [(2,.len Za m.1)] [(0,(i64 a)),(1,(slc 10 Za d)),(2,(slc 10 Za f)),(3,(.sc (.func (.func 156) #[] #[]))),(4,(i64 g)),(12,(.own 0 (List.length (b++[(Zf.mk (Zb.mk (IntKind.wrap .u32 w) (IntKind.wrap .u32 (IntKind.wrap .u64 (u - (1:Int))))) m.1)])))),(13,(i64 (ZI (o + (List.length m.1:Int))))),(14,(slc 1 Zc k)),(15,(i64 p))] (AWP.seq (AWP.rg0 [] [(0,(i64 a)),(1,(slc 10 Za d)),(2,(slc 10 Za f)),(3,(.sc (.func (.func 156) #[] #[]))),(4,(i64 g)),(12,(.own 0 (List.length (b++[(Zf.mk (Zb.mk (IntKind.wrap .u32 w) (IntKind.wrap .u32 (IntKind.wrap .u64 (u - (1:Int))))) m.1)])))),(13,(i64 (ZI (o + (List.length m.1:Int))))),(14,(slc 1 Zc k)),(15,(i64 p)),(143,(vb (decide ((ZI (o + (List.length m.1:Int))) > g))))] ?_))))
           refine AWP.cif hF (fun g1 hF=>?_) (fun g1 hF=>?_)
           ·refine AWP.seq (AWP.rg0 [] [(10,nils),(11,(vb false))] (AWP.ret ?_))
            exact LeQ.of (.inr ⟨rfl,(([]:ZL),false),(someb hF).symm,(FnQ.f1 0 (.inr rfl) (.inr ⟨_,_,rfl,rfl,(.cons _ _ _ _ (.nil 10) (.cons _ _ _ _ (.refl _) .nil))⟩))⟩)
           ·refine AWP.skip (LeQ.start (LeQ.pk [0,1,2,3,4,12,13,14,15] 1 ?_))
            exact(.inl ⟨rfl,(b++[(Zf.mk (Zb.mk (IntKind.wrap .u32 w) (IntKind.wrap .u32 (IntKind.wrap .u64 (u - (1:Int))))) m.1)]),(ZI (o + (List.length m.1:Int))),(someb hF).symm,by kernel_rfl,by kernel_rfl⟩)
       ·rintro _ _ _ (⟨rfl,a2,a4,rfl,rfl,rfl⟩ | ⟨rfl,g2,rfl,hq⟩)
        ·refine AWP.rg0 [] [(0,(i64 a)),(1,(slc 10 Za d)),(2,(slc 10 Za f)),(3,(.sc (.func (.func 156) #[] #[]))),(4,(i64 g)),(12,(.own 0 (List.length a2))),(13,(i64 a4)),(14,(slc 1 Zc k)),(15,(i64 (ZI (p + (1:Int)))))] (LeQ.start (LeQ.pk [0,1,2,3,4,12,13,14,15] 1 ?_))
         exact⟨b4,Nat.lt_succ_self _,a2,a4,(ZI (p + (1:Int))),hF,by kernel_rfl,by kernel_rfl⟩
        ·exact LeQ.of (.inr ⟨rfl,g2,(someb hF).symm,hq⟩)
      ·refine AWP.exit (LeQ.start (LeQ.pk [0,12,13] 1 ?_))
       exact(.inl ⟨rfl,b,o,(someb hF).symm,by kernel_rfl,by kernel_rfl⟩)
    ·rintro _ _ _ (⟨rfl,c,b3,rfl,rfl,rfl⟩ | ⟨rfl,h3,rfl,hq⟩)
     ·refine AWP.seq ?_
      obtain⟨g3,hF⟩:=chkb hF
      refine AWP.rg [(1,.mk0 Za g3)] [(0,(i64 a)),(12,(.own 0 (List.length c))),(20,(.own 1 (List.length ([]:ZL))))] [bf 3 296 Zd c false,bf 10 94 Za ([]:ZL) false] (AWP.seq (AWP.seq (AWP.rg0 [(1,.len Zd c)] [(0,(i64 a)),(20,(.own 1 (List.length ([]:ZL)))),(146,(.own 0 (List.length c))),(147,(i64 (List.length c:Int))),(148,(i64 (0:Int)))] ?_)))
      obtain⟨a8,g4,hF⟩:=bindb hF
      refine AWP.mid (fun e st H=>e=.normal∧st=[(20,(.own 1 (List.length a8)))]∧H=[bf 3 296 Zd c false,bf 10 94 Za a8 false]) ?_ ?_
      ·clear hF
       refine AWP.kp [0,20,146,147,148] 2 ?_
       refine AWP.bround (fun n st H=>∃ y,∃ q,Zbt a c n y q=some a8∧st=[(0,(i64 a)),(20,(.own 1 (List.length y))),(146,(.own 0 (List.length c))),(147,(i64 (List.length c:Int))),(148,(i64 q))]∧H=[bf 3 296 Zd c false,bf 10 94 Za y false]) fuel ⟨([]:ZL),(0:Int),g4,by kernel_rfl,by kernel_rfl⟩ ?_
       rintro b6 st H ⟨y,q,hF,rfl,rfl⟩
       cases b6 with
       | zero=>exact noneb hF
       | succ b6=>
        rw [Zbt] at hF
        refine AWP.seq (AWP.rg0 [] [(0,(i64 a)),(20,(.own 1 (List.length y))),(146,(.own 0 (List.length c))),(147,(i64 (List.length c:Int))),(148,(i64 q)),(149,(vb (decide (q<(List.length c:Int)))))] (AWP.seq ?_))
        refine AWP.cif hF (fun g5 hF=>?_) (fun g5 hF=>?_)
        ·refine AWP.skip (AWP.seq (AWP.block (AWP.seq ?_)))
         obtain⟨j,c6,hF⟩:=bindb hF
         refine AWP.rg [(0,.idx Zd c6),(1,.ldE Zd c6)] [(0,(i64 a)),(20,(.own 1 (List.length y))),(22,(.ptr 2 0)),(146,(.own 0 (List.length c))),(147,(i64 (List.length c:Int))),(148,(i64 q))] [bf 3 296 Zd c false,bf 10 94 Za y false,.cells (Zd j)] (AWP.seq (AWP.rg0 [(2,.len Za j.f_rest)] [(0,(i64 a)),(20,(.own 1 (List.length y))),(22,(.ptr 2 0)),(146,(.own 0 (List.length c))),(147,(i64 (List.length c:Int))),(148,(i64 q)),(153,(slc 10 Za j.f_rest)),(154,(i64 (List.length j.f_rest:Int))),(155,(i64 (0:Int)))] ?_))
         obtain⟨a9,g6,hF⟩:=bindb hF
         refine AWP.mid (fun e st H=>e=.normal∧st=[(0,(i64 a)),(20,(.own 1 (List.length a9))),(146,(.own 0 (List.length c))),(147,(i64 (List.length c:Int))),(148,(i64 q))]∧H=[bf 3 296 Zd c false,bf 10 94 Za a9 false,.cells (Zd j)]) ?_ ?_
         ·clear hF
          refine AWP.kp [0,20,22,146,147,148,153,154,155] 3 ?_
          refine AWP.bround (fun n st H=>∃ v,∃ x,Zbs a j n v x=some a9∧st=[(0,(i64 a)),(20,(.own 1 (List.length v))),(22,(.ptr 2 0)),(146,(.own 0 (List.length c))),(147,(i64 (List.length c:Int))),(148,(i64 q)),(153,(slc 10 Za j.f_rest)),(154,(i64 (List.length j.f_rest:Int))),(155,(i64 x))]∧H=[bf 3 296 Zd c false,bf 10 94 Za v false,.cells (Zd j)]) fuel ⟨y,(0:Int),g6,by kernel_rfl,by kernel_rfl⟩ ?_
          rintro b7 st H ⟨v,x,hF,rfl,rfl⟩
          cases b7 with
          | zero=>exact noneb hF
          | succ b7=>
           rw [Zbs] at hF
           refine AWP.seq (AWP.rg0 [] [(0,(i64 a)),(20,(.own 1 (List.length v))),(22,(.ptr 2 0)),(146,(.own 0 (List.length c))),(147,(i64 (List.length c:Int))),(148,(i64 q)),(153,(slc 10 Za j.f_rest)),(154,(i64 (List.length j.f_rest:Int))),(155,(i64 x)),(156,(vb (decide (x<(List.length j.f_rest:Int)))))] (AWP.seq ?_))
           refine AWP.cif hF (fun g7 hF=>?_) (fun g7 hF=>?_)
           ·refine AWP.skip (AWP.seq (AWP.block (AWP.seq ?_)))
            obtain⟨a0,g8,hF⟩:=bindb hF
            refine AWP.rg [(0,.idx Za g8)] [(0,(i64 a)),(20,(.own 1 (List.length v))),(22,(.ptr 2 0)),(24,(.ptr 3 0)),(146,(.own 0 (List.length c))),(147,(i64 (List.length c:Int))),(148,(i64 q)),(153,(slc 10 Za j.f_rest)),(154,(i64 (List.length j.f_rest:Int))),(155,(i64 x))] [bf 3 296 Zd c false,bf 10 94 Za v false,.cells (Zd j),.cells (Za a0)] (AWP.seq ?_)
            obtain⟨c7,hF⟩:=chkb hF
            refine AWP.rg [(3,.ixd c7),(4,.stA (fun g9=>Za (Arr5.set a0 g9 j.f_values)) 0 2 0 c7)] [(0,(i64 a)),(20,(.own 1 (List.length v))),(22,(.ptr 2 0)),(24,(.ptr 3 0)),(146,(.own 0 (List.length c))),(147,(i64 (List.length c:Int))),(148,(i64 q)),(153,(slc 10 Za j.f_rest)),(154,(i64 (List.length j.f_rest:Int))),(155,(i64 x))] [bf 3 296 Zd c false,bf 10 94 Za v false,.cells (Zd j),.cells (Za (Arr5.set a0 a j.f_values))] ?_
            obtain⟨h0,hF⟩:=chkb hF
            refine AWP.rg [(3,.app Za (fun _=>by kernel_rfl) h0)] [(0,(i64 a)),(20,(.own 1 (List.length (v++[(Arr5.set a0 a j.f_values)])))),(22,(.ptr 2 0)),(146,(.own 0 (List.length c))),(147,(i64 (List.length c:Int))),(148,(i64 q)),(153,(slc 10 Za j.f_rest)),(154,(i64 (List.length j.f_rest:Int))),(155,(i64 x))] [bf 3 296 Zd c false,bf 10 94 Za (v++[(Arr5.set a0 a j.f_values)]) false,.cells (Zd j),.cells (Za (Arr5.set a0 a j.f_values))] (AWP.rg0 [] [(0,(i64 a)),(20,(.own 1 (List.length (v++[(Arr5.set a0 a j.f_values)])))),(22,(.ptr 2 0)),(146,(.own 0 (List.length c))),(147,(i64 (List.length c:Int))),(148,(i64 q)),(153,(slc 10 Za j.f_rest)),(154,(i64 (List.length j.f_rest:Int))),(155,(i64 (ZI (x + (1:Int)))))] (LeQ.start (LeQ.pk [0,20,22,146,147,148,153,154,155] 3 ?_)))
            exact⟨b7,Nat.lt_succ_self _,(v++[(Arr5.set a0 a j.f_values)]),(ZI (x + (1:Int))),hF,by kernel_rfl,by kernel_rfl⟩
           ·refine AWP.exit (LeQ.start (LeQ.pk [0,20,146,147,148] 3 ?_))
            have hr:=someb hF
            subst hr
            exact⟨rfl,by kernel_rfl,by kernel_rfl⟩
         ·rintro _ _ _ ⟨rfl,rfl,rfl⟩
          refine AWP.rg0 [] [(0,(i64 a)),(20,(.own 1 (List.length a9))),(146,(.own 0 (List.length c))),(147,(i64 (List.length c:Int))),(148,(i64 (ZI (q + (1:Int)))))] (LeQ.start (LeQ.pk [0,20,146,147,148] 2 ?_))
          exact⟨b6,Nat.lt_succ_self _,a9,(ZI (q + (1:Int))),hF,by kernel_rfl,by kernel_rfl⟩
        ·refine AWP.exit (LeQ.start (LeQ.pk [20] 2 ?_))
         have hr:=someb hF
         subst hr
         exact⟨rfl,by kernel_rfl,by kernel_rfl⟩
      ·rintro _ _ _ ⟨rfl,rfl,rfl⟩
       refine AWP.seq (AWP.rg0 [] [(10,(.own 1 (List.length a8))),(11,(vb true))] (AWP.ret ?_))
       have hr:=someb hF
       subst hr
       exact(FnQ.f1 0 (.inr rfl) (.inr ⟨_,_,rfl,rfl,(.cons _ _ _ _ (Wk.ownT (i:=1) (s:=10) (t:=94) (l:=a8) (sh:=false) (row:=Za) (by kernel_rfl) (.inl rfl)) (.cons _ _ _ _ (.refl _) .nil))⟩))
     ·have hr:=someb hF
      subst hr
      exact hq
theorem Zg0 (a:Int) (b:ZL) (c:ZL) (d:Int) (r:(ZL × Bool)) (hF:Z4 fuel a b c d=some r):ACall Tryz.prog glob 177 [(i64 a),(slc 10 Za b),(slc 10 Za c),(.sc (.func (.func 156) #[] #[])),(i64 d)] [] (Zda r):=Zgf fuel a b c d r hF
def Zhh (r:(ZL × Int)):PV→List Blk→Prop:=fun p K=>p=(.tup [(slc 10 Za r.1),(i64 r.2)])∧K=[]
theorem Ze4 (b:ZL) (c:ZL) (r:(ZL × Int)) (hF:Zci b c=some r):ACall Tryz.prog glob 168 [(slc 10 Za b),(slc 10 Za c),(.sc (.func (.func 156) #[] #[]))] [] (Zhh r):=by
 refine ACall.body Tryz.func168 rfl (by kernel_rfl) ?_
 unfold Zci at hF
 refine AWP.seq (AWP.rg0 [] [(0,(slc 10 Za b)),(1,(slc 10 Za c)),(2,(.sc (.func (.func 156) #[] #[])))] (AWP.seq ?_))
 obtain⟨a,d,hF⟩:=bindb hF
 refine AWP.rg0 [(3,.call Tryz.func177 [] (Zg0 (0:Int) b c (4096:Int) a d))] [(8,(slc 10 Za a.1)),(9,(vb a.2))] (AWP.seq (AWP.seq (AWP.rg0 [] [(8,(slc 10 Za a.1)),(18,(vb (!a.2)))] ?_)))
 refine AWP.cif hF (fun f hF=>?_) (fun f hF=>?_)
 ·refine AWP.seq (AWP.rg0 [] [(6,nils),(7,(i64 (3:Int)))] (AWP.ret ?_))
  have hr:=someb hF
  subst hr
  exact(FnQ.f1 0 (.inr rfl) (.inr ⟨_,_,rfl,rfl,(.cons _ _ _ _ (.nil 10) (.cons _ _ _ _ (.refl _) .nil))⟩))
 ·refine AWP.skip (AWP.seq (AWP.rg0 [] [(6,(slc 10 Za a.1)),(7,(i64 (0:Int)))] (AWP.ret ?_)))
  have hr:=someb hF
  subst hr
  exact(FnQ.f0 0 (.inr rfl))
def Zit (r:(ZL × Int)):PV→List Blk→Prop:=fun p K=>p=(.tup [(slc 10 Za r.1),(i64 r.2)])∧K=[]
abbrev Zmf (r:(ZL × Int)):Exit→St→List Blk→Prop:=FnQ Tryz.prog Tryz.f176.results 0 (Zit r)
theorem Zmg (f:ZL) (r:(ZL × Int)) (hF:Zgh f=some r):ACall Tryz.prog glob 176 [(slc 10 Za f)] [] (Zit r):=by
 refine ACall.body Tryz.func176 rfl (by kernel_rfl) ?_
 unfold Zgh at hF
 refine AWP.seq (AWP.rg0 [] [(0,(slc 10 Za f))] (AWP.seq (AWP.rg0 [] [(0,(slc 10 Za f)),(4,nils)] (AWP.seq (AWP.seq ?_)))))
 obtain⟨a,l,hF⟩:=bindb hF
 refine AWP.rg0 [(1,.call Tryz.func188 [] (Zd5 f a l)),(2,.len Za a)] [(4,nils),(10,(slc 10 Za a)),(11,(i64 (List.length a:Int))),(12,(i64 (0:Int)))] ?_
 obtain⟨i,m,hF⟩:=bindb hF
 refine AWP.mid (fun e st H=>(e=.normal∧∃ g,i=(.inl g)∧st=[(4,(slc 10 Za g))]∧H=[])∨(e=.ret∧∃ r,i=(.inr r)∧Zmf r e st H)) ?_ ?_
 ·clear hF
  refine AWP.wk (p:=nils) (q:=(slc 10 Za ([]:ZL))) (st':=[(4,(slc 10 Za ([]:ZL))),(10,(slc 10 Za a)),(11,(i64 (List.length a:Int))),(12,(i64 (0:Int)))]) 4 (by kernel_rfl) (.nil 10) (by kernel_rfl) ?_
  refine AWP.kp [4,10,11,12] 0 ?_
  refine AWP.bround (fun n st H=>∃ d,∃ b,Zeh a n d b=some i∧st=[(4,(slc 10 Za d)),(10,(slc 10 Za a)),(11,(i64 (List.length a:Int))),(12,(i64 b))]∧H=[]) fuel ⟨([]:ZL),(0:Int),m,by kernel_rfl,by kernel_rfl⟩ ?_
  rintro j st H ⟨d,b,hF,rfl,rfl⟩
  cases j with
  | zero=>exact noneb hF
  | succ j=>
   rw [Zeh] at hF
   refine AWP.seq (AWP.rg0 [] [(4,(slc 10 Za d)),(10,(slc 10 Za a)),(11,(i64 (List.length a:Int))),(12,(i64 b)),(13,(vb (decide (b<(List.length a:Int)))))] (AWP.seq ?_))
   refine AWP.cif hF (fun o hF=>?_) (fun o hF=>?_)
   ·refine AWP.skip (AWP.seq (AWP.block (AWP.seq ?_)))
    obtain⟨k,s,hF⟩:=bindb hF
    refine AWP.rg [(0,.idx Za s)] [(4,(slc 10 Za d)),(6,(.ptr 0 0)),(10,(slc 10 Za a)),(11,(i64 (List.length a:Int))),(12,(i64 b))] [.cells (Za k)] (AWP.seq ?_)
    obtain⟨c,t,hF⟩:=bindb hF
    refine AWP.rg0 [(3,.call Tryz.func168 [] (Ze4 d [k] c t))] [(7,(slc 10 Za c.1)),(8,(i64 c.2)),(10,(slc 10 Za a)),(11,(i64 (List.length a:Int))),(12,(i64 b))] (AWP.seq (AWP.seq (AWP.rg0 [] [(7,(slc 10 Za c.1)),(8,(i64 c.2)),(10,(slc 10 Za a)),(11,(i64 (List.length a:Int))),(12,(i64 b)),(24,(vb (c.2 != (0:Int))))] ?_)))
    refine AWP.cif hF (fun u hF=>?_) (fun u hF=>?_)
    ·refine AWP.seq (AWP.rg0 [] [(2,nils),(3,(i64 c.2))] (AWP.ret ?_))
     exact LeQ.of (.inr ⟨rfl,(([]:ZL),c.2),(someb hF).symm,(FnQ.f1 0 (.inr rfl) (.inr ⟨_,_,rfl,rfl,(.cons _ _ _ _ (.nil 10) (.cons _ _ _ _ (.refl _) .nil))⟩))⟩)
    ·refine AWP.skip (AWP.rg0 [] [(4,(slc 10 Za c.1)),(10,(slc 10 Za a)),(11,(i64 (List.length a:Int))),(12,(i64 b))] (AWP.rg0 [] [(4,(slc 10 Za c.1)),(10,(slc 10 Za a)),(11,(i64 (List.length a:Int))),(12,(i64 (ZI (b + (1:Int)))))] (LeQ.start (LeQ.pk [4,10,11,12] 0 ?_))))
     exact⟨j,Nat.lt_succ_self _,c.1,(ZI (b + (1:Int))),hF,by kernel_rfl,by kernel_rfl⟩
   ·refine AWP.exit (LeQ.start (LeQ.pk [4] 0 ?_))
    exact(.inl ⟨rfl,d,(someb hF).symm,by kernel_rfl,by kernel_rfl⟩)
 ·rintro _ _ _ (⟨rfl,g,rfl,rfl,rfl⟩ | ⟨rfl,v,rfl,hq⟩)
  ·refine AWP.seq (AWP.rg0 [] [(2,(slc 10 Za g)),(3,(i64 (0:Int)))] (AWP.ret ?_))
   have hr:=someb hF
   subst hr
   exact(FnQ.f0 0 (.inr rfl))
  ·have hr:=someb hF
   subst hr
   exact hq
def Zna (r:(ZL × Int)):PV→List Blk→Prop:=fun p K=>p=(.tup [(slc 10 Za r.1),(i64 r.2)])∧K=[]
theorem Zdz (a:ZL) (r:(ZL × Int)) (hF:Zc0 a=some r):ACall Tryz.prog glob 167 [(slc 10 Za a)] [] (Zna r):=by
 refine ACall.body Tryz.func167 rfl (by kernel_rfl) ?_
 unfold Zc0 at hF
 refine AWP.seq (AWP.rg0 [] [(0,(slc 10 Za a))] (AWP.seq (AWP.seq ?_)))
 obtain⟨c,d,hF⟩:=bindb hF
 refine AWP.rg0 [(1,.call Tryz.func175 [] (Zle a c d))] [(0,(slc 10 Za a)),(5,(vb c))] ?_
 refine AWP.cif hF (fun f hF=>?_) (fun f hF=>?_)
 ·refine AWP.seq (AWP.rg0 [] [(2,(slc 10 Za a)),(3,(i64 (0:Int)))] (AWP.ret ?_))
  have hr:=someb hF
  subst hr
  exact(FnQ.f0 0 (.inr rfl))
 ·refine AWP.skip (AWP.seq ?_)
  obtain⟨b,g,hF⟩:=bindb hF
  refine AWP.rg0 [(1,.call Tryz.func176 [] (Zmg a b g))] [(2,(slc 10 Za b.1)),(3,(i64 b.2))] (AWP.ret ?_)
  have hr:=someb hF
  subst hr
  exact(FnQ.f0 0 (.inr rfl))
def Ziu (r:(ZL × Int)):PV→List Blk→Prop:=fun p K=>p=(.tup [(slc 10 Za r.1),(i64 r.2)])∧K=[]
theorem Ziv (d:ZL) (c:ZL) (r:(ZL × Int)) (hF:Zec d c=some r):ACall Tryz.prog glob 155 [(slc 10 Za d),(slc 10 Za c),(.sc (.func (.func 156) #[] #[]))] [] (Ziu r):=by
 refine ACall.body Tryz.func155 rfl (by kernel_rfl) ?_
 unfold Zec at hF
 refine AWP.seq (AWP.rg0 [] [(0,(slc 10 Za d)),(1,(slc 10 Za c)),(2,(.sc (.func (.func 156) #[] #[])))] (AWP.seq ?_))
 obtain⟨a,g,hF⟩:=bindb hF
 refine AWP.rg0 [(1,.call Tryz.func167 [] (Zdz d a g))] [(1,(slc 10 Za c)),(2,(.sc (.func (.func 156) #[] #[]))),(8,(slc 10 Za a.1)),(9,(i64 a.2))] (AWP.seq (AWP.seq (AWP.rg0 [] [(1,(slc 10 Za c)),(2,(.sc (.func (.func 156) #[] #[]))),(8,(slc 10 Za a.1)),(9,(i64 a.2)),(17,(vb (a.2 != (0:Int))))] ?_)))
 refine AWP.cif hF (fun i hF=>?_) (fun i hF=>?_)
 ·refine AWP.seq (AWP.rg0 [] [(6,nils),(7,(i64 a.2))] (AWP.ret ?_))
  have hr:=someb hF
  subst hr
  exact(FnQ.f1 0 (.inr rfl) (.inr ⟨_,_,rfl,rfl,(.cons _ _ _ _ (.nil 10) (.cons _ _ _ _ (.refl _) .nil))⟩))
 ·refine AWP.skip (AWP.seq ?_)
  obtain⟨b,j,hF⟩:=bindb hF
  refine AWP.rg0 [(1,.call Tryz.func167 [] (Zdz c b j))] [(2,(.sc (.func (.func 156) #[] #[]))),(8,(slc 10 Za a.1)),(9,(i64 b.2)),(10,(slc 10 Za b.1))] (AWP.seq (AWP.seq (AWP.rg0 [] [(2,(.sc (.func (.func 156) #[] #[]))),(8,(slc 10 Za a.1)),(9,(i64 b.2)),(10,(slc 10 Za b.1)),(25,(vb (b.2 != (0:Int))))] ?_)))
  refine AWP.cif hF (fun k hF=>?_) (fun k hF=>?_)
  ·refine AWP.seq (AWP.rg0 [] [(6,nils),(7,(i64 b.2))] (AWP.ret ?_))
   have hr:=someb hF
   subst hr
   exact(FnQ.f1 0 (.inr rfl) (.inr ⟨_,_,rfl,rfl,(.cons _ _ _ _ (.nil 10) (.cons _ _ _ _ (.refl _) .nil))⟩))
  ·refine AWP.skip (AWP.seq ?_)
   obtain⟨f,l,hF⟩:=bindb hF
   refine AWP.rg0 [(3,.call Tryz.func168 [] (Ze4 a.1 b.1 f l))] [(6,(slc 10 Za f.1)),(7,(i64 f.2))] (AWP.ret ?_)
   have hr:=someb hF
   subst hr
   exact(FnQ.f0 0 (.inr rfl))
def Zli (r:(ZL × Int)):PV→List Blk→Prop:=fun p K=>p=(.tup [(slc 10 Za r.1),(i64 r.2)])∧K=[]
theorem Zlj (a:ZL) (b:ZL) (r:(ZL × Int)) (hF:Zgb a b=some r):ACall Tryz.prog glob 116 [(slc 10 Za a),(slc 10 Za b)] [] (Zli r):=by
 refine ACall.body Tryz.func116 rfl (by kernel_rfl) ?_
 unfold Zgb at hF
 refine AWP.seq (AWP.rg0 [] [(0,(slc 10 Za a)),(1,(slc 10 Za b))] (AWP.seq ?_))
 obtain⟨c,d,hF⟩:=bindb hF
 refine AWP.rg0 [(2,.call Tryz.func155 [] (Ziv a b c d))] [(4,(slc 10 Za c.1)),(5,(i64 c.2))] (AWP.ret ?_)
 have hr:=someb hF
 subst hr
 exact(FnQ.f0 0 (.inr rfl))
def Zmh (r:Bool):PV→List Blk→Prop:=fun p K=>p=(vb r)∧K=[]
theorem Ziw (c:Bool) (a:Bool) (r:Bool) (hF:Zfg c a=some r):ACall Tryz.prog glob 165 [(vb c),(vb a)] [] (Zmh r):=by
 refine ACall.body Tryz.func165 rfl (by kernel_rfl) ?_
 unfold Zfg at hF
 refine AWP.seq (AWP.rg0 [] [(0,(vb c)),(1,(vb a))] (AWP.seq ?_))
 obtain⟨d,b,hF⟩:=bindb hF
 replace b:=someb b
 refine AWP.to [(4,(vb (d && a)))] [] ?_ ?_
 ·cases d with
  | false=>
   exact AWP.rgT [(1,.bool b)]
  | true=>
   exact AWP.rgT [(1,.bool b)]
 refine AWP.ret ?_
 have hr:=someb hF
 subst hr
 exact(FnQ.f0 0 (.inr rfl))
def Zdl (r:(ZL × Bool)):PV→List Blk→Prop:=fun p K=>p=(.tup [(slc 10 Za r.1),(vb r.2)])∧K=[]
abbrev Ze5 (r:(ZL × Bool)):Exit→St→List Blk→Prop:=FnQ Tryz.prog Tryz.f177.results 0 (Zdl r)
theorem Zg1:∀(nr:Nat) (a:Int) (d:ZL) (f:ZL) (g:Int) (r:(ZL × Bool)) (_hF:Zaa nr a d f g=some r),ACall Tryz.prog glob 177 [(i64 a),(slc 10 Za d),(slc 10 Za f),(.sc (.func (.func 165) #[] #[])),(i64 g)] [] (Zdl r):=by
 intro nr
 induction nr with
 | zero=>intro a d f g r hF; exact noneb (by rw [Zaa] at hF; exact hF)
 | succ nr ih=>
  intro a d f g r hF
  refine ACall.body Tryz.func177 rfl (by kernel_rfl) ?_
  rw [Zaa] at hF
  refine AWP.seq (AWP.rg0 [] [(0,(i64 a)),(1,(slc 10 Za d)),(2,(slc 10 Za f)),(3,(.sc (.func (.func 165) #[] #[]))),(4,(i64 g))] (AWP.seq (AWP.seq (AWP.rg0 [] [(0,(i64 a)),(1,(slc 10 Za d)),(2,(slc 10 Za f)),(3,(.sc (.func (.func 165) #[] #[]))),(4,(i64 g)),(26,(vb (a == (5:Int))))] ?_))))
  refine AWP.cif hF (fun c8 hF=>?_) (fun c8 hF=>?_)
  ·refine AWP.seq (AWP.seq ?_)
   obtain⟨b8,c9,hF⟩:=bindb hF
   refine AWP.rg0 [(2,.len Za d),(5,.len Za f),(7,.call Tryz.func165 [] (Ziw (decide ((List.length d:Int) > (0:Int))) (decide ((List.length f:Int) > (0:Int))) b8 c9))] [(34,(vb b8))] ?_
   refine AWP.cif hF (fun d0 hF=>?_) (fun d0 hF=>?_)
   ·refine AWP.seq (AWP.rg0 [] [(10,(slc 10 Za [(Arr5.mk Zr Zr Zr Zr Zr)])),(11,(vb true))] (AWP.ret ?_))
    have hr:=someb hF
    subst hr
    exact(FnQ.f0 0 (.inr rfl))
   ·refine AWP.skip (AWP.seq (AWP.rg0 [] [(10,nils),(11,(vb true))] (AWP.ret ?_)))
    have hr:=someb hF
    subst hr
    exact(FnQ.f1 0 (.inr rfl) (.inr ⟨_,_,rfl,rfl,(.cons _ _ _ _ (.nil 10) (.cons _ _ _ _ (.refl _) .nil))⟩))
  ·refine AWP.skip (AWP.seq (AWP.seq ?_))
   obtain⟨d1,b0,hF⟩:=bindb hF
   replace b0:=someb b0
   obtain⟨d2,b9,hF⟩:=bindb hF
   refine AWP.to [(0,(i64 a)),(1,(slc 10 Za d)),(2,(slc 10 Za f)),(3,(.sc (.func (.func 165) #[] #[]))),(4,(i64 g)),(47,(vb d2))] [] ?_ ?_
   ·cases d1 with
    | false=>
     have d3:=someb (ifF b9 rfl)
     subst d3
     exact AWP.rgT [(1,.len Za d),(3,.len Za f),(6,.bool b0)]
    | true=>
     have a3:=ifT b9 rfl
     obtain⟨d4,d5,a3⟩:=bindb a3
     replace a3:=someb a3
     subst a3
     exact AWP.rgT [(1,.len Za d),(3,.len Za f),(6,.bool b0),(8,.call Tryz.func165 [] (Ziw false false d4 d5))]
   refine AWP.cif hF (fun d6 hF=>?_) (fun d6 hF=>?_)
   ·refine AWP.seq (AWP.rg0 [] [(10,nils),(11,(vb true))] (AWP.ret ?_))
    have hr:=someb hF
    subst hr
    exact(FnQ.f1 0 (.inr rfl) (.inr ⟨_,_,rfl,rfl,(.cons _ _ _ _ (.nil 10) (.cons _ _ _ _ (.refl _) .nil))⟩))
   ·refine AWP.skip (AWP.seq (AWP.rg0 [] [(0,(i64 a)),(1,(slc 10 Za d)),(2,(slc 10 Za f)),(3,(.sc (.func (.func 165) #[] #[]))),(4,(i64 g)),(12,nils)] ?_))
    refine AWP.own (H':=[bf 3 296 Zd ([]:(List Zf)) false]) (st':=[(12,(.own 0 (List.length ([]:(List Zf))))),(0,(i64 a)),(1,(slc 10 Za d)),(2,(slc 10 Za f)),(3,(.sc (.func (.func 165) #[] #[]))),(4,(i64 g))]) 12 3 296 (by kernel_rfl) (by kernel_rfl) (by kernel_rfl) ?_
    refine AWP.pick (st':=[(0,(i64 a)),(1,(slc 10 Za d)),(2,(slc 10 Za f)),(3,(.sc (.func (.func 165) #[] #[]))),(4,(i64 g)),(12,(.own 0 (List.length ([]:(List Zf)))))]) (ks:=[0,1,2,3,4,12]) (by kernel_rfl) ?_
    refine AWP.seq (AWP.rg0 [] [(0,(i64 a)),(1,(slc 10 Za d)),(2,(slc 10 Za f)),(3,(.sc (.func (.func 165) #[] #[]))),(4,(i64 g)),(12,(.own 0 (List.length ([]:(List Zf))))),(13,(i64 (0:Int)))] (AWP.seq ?_))
    obtain⟨k,d7,hF⟩:=bindb hF
    refine AWP.rg0 [(4,.call Tryz.func191 [] (Zfi a [d,f] k d7))] [(0,(i64 a)),(1,(slc 10 Za d)),(2,(slc 10 Za f)),(3,(.sc (.func (.func 165) #[] #[]))),(4,(i64 g)),(12,(.own 0 (List.length ([]:(List Zf))))),(13,(i64 (0:Int))),(14,(slc 1 Zc k))] (AWP.seq (AWP.seq (AWP.rg0 [] [(0,(i64 a)),(1,(slc 10 Za d)),(2,(slc 10 Za f)),(3,(.sc (.func (.func 165) #[] #[]))),(4,(i64 g)),(12,(.own 0 (List.length ([]:(List Zf))))),(13,(i64 (0:Int))),(14,(slc 1 Zc k)),(15,(i64 (0:Int)))] ?_)))
    obtain⟨b2,d8,hF⟩:=bindb hF
    refine AWP.mid (fun e st H=>(e=.normal∧∃ c,∃ b3,b2=(.inl (c,b3))∧st=[(0,(i64 a)),(12,(.own 0 (List.length c))),(13,(i64 b3))]∧H=[bf 3 296 Zd c false])∨(e=.ret∧∃ r,b2=(.inr r)∧Ze5 r e st H)) ?_ ?_
    ·clear hF
     refine AWP.kp [0,1,2,3,4,12,13,14,15] 1 ?_
     refine AWP.bround (fun n st H=>∃ b,∃ o,∃ p,Zb4 a d f g (Zaa nr) k n b o p=some b2∧st=[(0,(i64 a)),(1,(slc 10 Za d)),(2,(slc 10 Za f)),(3,(.sc (.func (.func 165) #[] #[]))),(4,(i64 g)),(12,(.own 0 (List.length b))),(13,(i64 o)),(14,(slc 1 Zc k)),(15,(i64 p))]∧H=[bf 3 296 Zd b false]) fuel ⟨([]:(List Zf)),(0:Int),(0:Int),d8,by kernel_rfl,by kernel_rfl⟩ ?_
     rintro b4 st H ⟨b,o,p,hF,rfl,rfl⟩
     cases b4 with
     | zero=>exact noneb hF
     | succ b4=>
      rw [Zb4] at hF
      refine AWP.seq (AWP.seq (AWP.rg0 [(3,.len Zc k)] [(0,(i64 a)),(1,(slc 10 Za d)),(2,(slc 10 Za f)),(3,(.sc (.func (.func 165) #[] #[]))),(4,(i64 g)),(12,(.own 0 (List.length b))),(13,(i64 o)),(14,(slc 1 Zc k)),(15,(i64 p)),(57,(vb (decide ((ZI (p + (1:Int)))<(List.length k:Int)))))] ?_))
      refine AWP.cif hF (fun d9 hF=>?_) (fun d9 hF=>?_)
      ·refine AWP.skip ?_
       obtain⟨c0,e0,hF⟩:=bindb hF
       refine AWP.seq ?_
       refine AWP.mid (fun e st H=>(e=.normal∧∃ a2,∃ a4,c0=(.inl (a2,a4))∧st=[(0,(i64 a)),(1,(slc 10 Za d)),(2,(slc 10 Za f)),(3,(.sc (.func (.func 165) #[] #[]))),(4,(i64 g)),(12,(.own 0 (List.length a2))),(13,(i64 a4)),(14,(slc 1 Zc k)),(15,(i64 p))]∧H=[bf 3 296 Zd a2 false])∨(e=.ret∧∃ r,c0=(.inr r)∧Ze5 r e st H)) ?_ ?_
       ·clear hF
        have hF:=e0
        refine AWP.block (AWP.seq ?_)
        obtain⟨w,e1,hF⟩:=bindb hF
        obtain⟨u,e2,hF⟩:=bindb hF
        refine AWP.dr [(2,.idx Zc e1),(8,.idx Zc e2)] 14 [] [13] [] [(0,(i64 a)),(1,(slc 10 Za d)),(2,(slc 10 Za f)),(3,(.sc (.func (.func 165) #[] #[]))),(4,(i64 g)),(12,(.own 0 (List.length b))),(13,(i64 o)),(14,(slc 1 Zc k)),(15,(i64 p)),(16,(.ptr 1 0))] [bf 3 296 Zd b false,.cells (Zs (Zb.mk (IntKind.wrap .u32 w) (IntKind.wrap .u32 (IntKind.wrap .u64 (u - (1:Int))))))] (AWP.seq ?_)
        obtain⟨c1,e3,hF⟩:=bindb hF
        obtain⟨c2,e4,hF⟩:=bindb hF
        obtain⟨m,e5,hF⟩:=bindb hF
        refine AWP.dr [(6,.call Tryz.func192 [] (Za9 d a (IntKind.wrap .u32 w) c1 e3)),(11,.call Tryz.func192 [] (Za9 f a (IntKind.wrap .u32 w) c2 e4)),(14,.call Tryz.func177 [] (ih (ZI (a + (1:Int))) c1 c2 g m e5))] 19 [] [] [] [(0,(i64 a)),(1,(slc 10 Za d)),(2,(slc 10 Za f)),(3,(.sc (.func (.func 165) #[] #[]))),(4,(i64 g)),(12,(.own 0 (List.length b))),(13,(i64 o)),(14,(slc 1 Zc k)),(15,(i64 p)),(16,(.ptr 1 0)),(17,(slc 10 Za m.1)),(18,(vb m.2))] [bf 3 296 Zd b false,.cells (Zs (Zb.mk (IntKind.wrap .u32 w) (IntKind.wrap .u32 (IntKind.wrap .u64 (u - (1:Int))))))] (AWP.seq (AWP.seq (AWP.rg0 [] [(0,(i64 a)),(1,(slc 10 Za d)),(2,(slc 10 Za f)),(3,(.sc (.func (.func 165) #[] #[]))),(4,(i64 g)),(12,(.own 0 (List.length b))),(13,(i64 o)),(14,(slc 1 Zc k)),(15,(i64 p)),(16,(.ptr 1 0)),(17,(slc 10 Za m.1)),(92,(vb (!m.2)))] ?_)))
        refine AWP.cif hF (fun e6 hF=>?_) (fun e6 hF=>?_)
        ·refine AWP.seq (AWP.rg0 [] [(10,nils),(11,(vb false))] (AWP.ret ?_))
         exact LeQ.of (.inr ⟨rfl,(([]:ZL),false),(someb hF).symm,(FnQ.f1 0 (.inr rfl) (.inr ⟨_,_,rfl,rfl,(.cons _ _ _ _ (.nil 10) (.cons _ _ _ _ (.refl _) .nil))⟩))⟩)
        ·refine AWP.skip (AWP.seq (AWP.seq (AWP.rg0 [(1,.len Za m.1)] [(0,(i64 a)),(1,(slc 10 Za d)),(2,(slc 10 Za f)),(3,(.sc (.func (.func 165) #[] #[]))),(4,(i64 g)),(12,(.own 0 (List.length b))),(13,(i64 o)),(14,(slc 1 Zc k)),(15,(i64 p)),(16,(.ptr 1 0)),(17,(slc 10 Za m.1)),(95,(vb ((List.length m.1:Int) == (0:Int))))] ?_)))
         refine AWP.cif hF (fun e7 hF=>?_) (fun e7 hF=>?_)
         ·refine AWP.exit (LeQ.start (LeQ.pk [0,1,2,3,4,12,13,14,15] 1 ?_))
          exact(.inl ⟨rfl,b,o,(someb hF).symm,by kernel_rfl,by kernel_rfl⟩)
         ·refine AWP.skip (AWP.seq (AWP.seq (AWP.rg0 [(1,.len Zd b)] [(0,(i64 a)),(1,(slc 10 Za d)),(2,(slc 10 Za f)),(3,(.sc (.func (.func 165) #[] #[]))),(4,(i64 g)),(12,(.own 0 (List.length b))),(13,(i64 o)),(14,(slc 1 Zc k)),(15,(i64 p)),(16,(.ptr 1 0)),(17,(slc 10 Za m.1)),(19,(i64 (List.length b:Int)))] (AWP.seq ?_))))
          obtain⟨e8,a5,hF⟩:=bindb hF
          replace a5:=someb a5
          obtain⟨h1,c3,hF⟩:=bindb hF
          obtain⟨e9,a6,hF⟩:=bindb hF
          replace a6:=someb a6
          obtain⟨f2,b5,hF⟩:=bindb hF
          refine AWP.to [(0,(i64 a)),(1,(slc 10 Za d)),(2,(slc 10 Za f)),(3,(.sc (.func (.func 165) #[] #[]))),(4,(i64 g)),(12,(.own 0 (List.length b))),(13,(i64 o)),(14,(slc 1 Zc k)),(15,(i64 p)),(16,(.ptr 1 0)),(17,(slc 10 Za m.1)),(19,(i64 (List.length b:Int))),(122,(vb f2))] [bf 3 296 Zd b false,.cells (Zs (Zb.mk (IntKind.wrap .u32 w) (IntKind.wrap .u32 (IntKind.wrap .u64 (u - (1:Int))))))] ?_ ?_
          ·cases e8 with
           | false=>
            have f3:=someb (ifF c3 rfl)
            subst f3
            subst a6
            have f4:=someb (ifF b5 rfl)
            subst f4
            exact AWP.drT [(2,.bool a5)] 25 [] [] []
           | true=>
            have a7:=ifT c3 rfl
            obtain⟨h2,b1,a7⟩:=bindb a7
            replace a7:=someb a7
            subst a7
            cases e9 with
            | false=>
             have f5:=someb (ifF b5 rfl)
             subst f5
             exact AWP.drT [(2,.bool a5),(6,.idx Zd b1),(7,.fdE Zd b (ZI ((List.length b:Int) - (1:Int)))),(8,.fdE Zd b (ZI ((List.length b:Int) - (1:Int)))),(9,.ldE Zd b1),(15,.bool a6)] 25 [] [] []
            | true=>
             have a1:=ifT b5 rfl
             obtain⟨f6,c4,a1⟩:=bindb a1
             obtain⟨f7,f8,a1⟩:=bindb a1
             replace a1:=someb a1
             subst a1
             exact AWP.drT [(2,.bool a5),(6,.idx Zd b1),(7,.fdE Zd b (ZI ((List.length b:Int) - (1:Int)))),(8,.fdE Zd b (ZI ((List.length b:Int) - (1:Int)))),(9,.ldE Zd b1),(15,.bool a6),(19,.idx Zd c4),(20,.fdE Zd b (ZI ((List.length b:Int) - (1:Int)))),(21,.ldE Zd c4),(23,.call Tryz.func193 [] (Zce f6.f_rest m.1 f7 f8))] 25 [] [] []
          refine AWP.cif hF (fun f9 hF=>?_) (fun f9 hF=>?_)
          ·refine AWP.seq ?_
           obtain⟨z,c5,hF⟩:=bindb hF
           refine AWP.rg [(5,.idx Zd c5),(6,.fdE Zd b (ZI ((List.length b:Int) - (1:Int)))),(7,.fdE Zd b (ZI ((List.length b:Int) - (1:Int)))),(8,.stE Zd c5 ({ z with f_values:=({ z.f_values with Hi:=(IntKind.wrap .u32 (IntKind.wrap .u64 (u - (1:Int)))) }:Zb) }:Zf))] [(0,(i64 a)),(1,(slc 10 Za d)),(2,(slc 10 Za f)),(3,(.sc (.func (.func 165) #[] #[]))),(4,(i64 g)),(12,(.own 0 (List.length b))),(13,(i64 o)),(14,(slc 1 Zc k)),(15,(i64 p))] [bf 3 296 Zd (List.set b (Int.toNat (ZI ((List.length b:Int) - (1:Int)))) ({ z with f_values:=({ z.f_values with Hi:=(IntKind.wrap .u32 (IntKind.wrap .u64 (u - (1:Int)))) }:Zb) }:Zf)) false,.cells (Zs (Zb.mk (IntKind.wrap .u32 w) (IntKind.wrap .u32 (IntKind.wrap .u64 (u - (1:Int))))))] ?_
           rw [show ([(0,(i64 a)),(1,(slc 10 Za d)),(2,(slc 10 Za f)),(3,(.sc (.func (.func 165) #[] #[]))),(4,(i64 g)),(12,(.own 0 (List.length b))),(13,(i64 o)),(14,(slc 1 Zc k)),(15,(i64 p))]:St)=[(0,(i64 a)),(1,(slc 10 Za d)),(2,(slc 10 Za f)),(3,(.sc (.func (.func 165) #[] #[]))),(4,(i64 g)),(12,(.own 0 (List.length (List.set b (Int.toNat (ZI ((List.length b:Int) - (1:Int)))) ({ z with f_values:=({ z.f_values with Hi:=(IntKind.wrap .u32 (IntKind.wrap .u64 (u - (1:Int)))) }:Zb) }:Zf))))),(13,(i64 o)),(14,(slc 1 Zc k)),(15,(i64 p))] by simp only [List.length_set]]
           refine AWP.exit (LeQ.start (LeQ.pk [0,1,2,3,4,12,13,14,15] 1 ?_))
           exact(.inl ⟨rfl,(List.set b (Int.toNat (ZI ((List.length b:Int) - (1:Int)))) ({ z with f_values:=({ z.f_values with Hi:=(IntKind.wrap .u32 (IntKind.wrap .u64 (u - (1:Int)))) }:Zb) }:Zf)),o,(someb hF).symm,by kernel_rfl,by kernel_rfl⟩)
          ·refine AWP.skip (AWP.seq ?_)
           obtain⟨g0,hF⟩:=chkb hF
           refine AWP.rg [(5,.app Zd (fun _=>by kernel_rfl) g0)] [(0,(i64 a)),(1,(slc 10 Za d)),(2,(slc 10 Za f)),(3,(.sc (.func (.func 165) #[] #[]))),(4,(i64 g)),(12,(.own 0 (List.length (b++[(Zf.mk (Zb.mk (IntKind.wrap .u32 w) (IntKind.wrap .u32 (IntKind.wrap .u64 (u - (1:Int))))) m.1)])))),(13,(i64 o)),(14,(slc 1 Zc k)),(15,(i64 p)),(17,(slc 10 Za m.1))] [bf 3 296 Zd (b++[(Zf.mk (Zb.mk (IntKind.wrap .u32 w) (IntKind.wrap .u32 (IntKind.wrap .u64 (u - (1:Int))))) m.1)]) false,.cells (Zs (Zb.mk (IntKind.wrap .u32 w) (IntKind.wrap .u32 (IntKind.wrap .u64 (u - (1:Int))))))] (AWP.seq (AWP.rg0 [(2,.len Za m.1)] [(0,(i64 a)),(1,(slc 10 Za d)),(2,(slc 10 Za f)),(3,(.sc (.func (.func 165) #[] #[]))),(4,(i64 g)),(12,(.own 0 (List.length (b++[(Zf.mk (Zb.mk (IntKind.wrap .u32 w) (IntKind.wrap .u32 (IntKind.wrap .u64 (u - (1:Int))))) m.1)])))),(13,(i64 (ZI (o + (List.length m.1:Int))))),(14,(slc 1 Zc k)),(15,(i64 p))] (AWP.seq (AWP.rg0 [] [(0,(i64 a)),(1,(slc 10 Za d)),(2,(slc 10 Za f)),(3,(.sc (.func (.func 165) #[] #[]))),(4,(i64 g)),(12,(.own 0 (List.length (b++[(Zf.mk (Zb.mk (IntKind.wrap .u32 w) (IntKind.wrap .u32 (IntKind.wrap .u64 (u - (1:Int))))) m.1)])))),(13,(i64 (ZI (o + (List.length m.1:Int))))),(14,(slc 1 Zc k)),(15,(i64 p)),(143,(vb (decide ((ZI (o + (List.length m.1:Int))) > g))))] ?_))))
           refine AWP.cif hF (fun g1 hF=>?_) (fun g1 hF=>?_)
           ·refine AWP.seq (AWP.rg0 [] [(10,nils),(11,(vb false))] (AWP.ret ?_))
            exact LeQ.of (.inr ⟨rfl,(([]:ZL),false),(someb hF).symm,(FnQ.f1 0 (.inr rfl) (.inr ⟨_,_,rfl,rfl,(.cons _ _ _ _ (.nil 10) (.cons _ _ _ _ (.refl _) .nil))⟩))⟩)
           ·refine AWP.skip (LeQ.start (LeQ.pk [0,1,2,3,4,12,13,14,15] 1 ?_))
            exact(.inl ⟨rfl,(b++[(Zf.mk (Zb.mk (IntKind.wrap .u32 w) (IntKind.wrap .u32 (IntKind.wrap .u64 (u - (1:Int))))) m.1)]),(ZI (o + (List.length m.1:Int))),(someb hF).symm,by kernel_rfl,by kernel_rfl⟩)
       ·rintro _ _ _ (⟨rfl,a2,a4,rfl,rfl,rfl⟩ | ⟨rfl,g2,rfl,hq⟩)
        ·refine AWP.rg0 [] [(0,(i64 a)),(1,(slc 10 Za d)),(2,(slc 10 Za f)),(3,(.sc (.func (.func 165) #[] #[]))),(4,(i64 g)),(12,(.own 0 (List.length a2))),(13,(i64 a4)),(14,(slc 1 Zc k)),(15,(i64 (ZI (p + (1:Int)))))] (LeQ.start (LeQ.pk [0,1,2,3,4,12,13,14,15] 1 ?_))
         exact⟨b4,Nat.lt_succ_self _,a2,a4,(ZI (p + (1:Int))),hF,by kernel_rfl,by kernel_rfl⟩
        ·exact LeQ.of (.inr ⟨rfl,g2,(someb hF).symm,hq⟩)
      ·refine AWP.exit (LeQ.start (LeQ.pk [0,12,13] 1 ?_))
       exact(.inl ⟨rfl,b,o,(someb hF).symm,by kernel_rfl,by kernel_rfl⟩)
    ·rintro _ _ _ (⟨rfl,c,b3,rfl,rfl,rfl⟩ | ⟨rfl,h3,rfl,hq⟩)
     ·refine AWP.seq ?_
      obtain⟨g3,hF⟩:=chkb hF
      refine AWP.rg [(1,.mk0 Za g3)] [(0,(i64 a)),(12,(.own 0 (List.length c))),(20,(.own 1 (List.length ([]:ZL))))] [bf 3 296 Zd c false,bf 10 94 Za ([]:ZL) false] (AWP.seq (AWP.seq (AWP.rg0 [(1,.len Zd c)] [(0,(i64 a)),(20,(.own 1 (List.length ([]:ZL)))),(146,(.own 0 (List.length c))),(147,(i64 (List.length c:Int))),(148,(i64 (0:Int)))] ?_)))
      obtain⟨a8,g4,hF⟩:=bindb hF
      refine AWP.mid (fun e st H=>e=.normal∧st=[(20,(.own 1 (List.length a8)))]∧H=[bf 3 296 Zd c false,bf 10 94 Za a8 false]) ?_ ?_
      ·clear hF
       refine AWP.kp [0,20,146,147,148] 2 ?_
       refine AWP.bround (fun n st H=>∃ y,∃ q,Zb6 a c n y q=some a8∧st=[(0,(i64 a)),(20,(.own 1 (List.length y))),(146,(.own 0 (List.length c))),(147,(i64 (List.length c:Int))),(148,(i64 q))]∧H=[bf 3 296 Zd c false,bf 10 94 Za y false]) fuel ⟨([]:ZL),(0:Int),g4,by kernel_rfl,by kernel_rfl⟩ ?_
       rintro b6 st H ⟨y,q,hF,rfl,rfl⟩
       cases b6 with
       | zero=>exact noneb hF
       | succ b6=>
        rw [Zb6] at hF
        refine AWP.seq (AWP.rg0 [] [(0,(i64 a)),(20,(.own 1 (List.length y))),(146,(.own 0 (List.length c))),(147,(i64 (List.length c:Int))),(148,(i64 q)),(149,(vb (decide (q<(List.length c:Int)))))] (AWP.seq ?_))
        refine AWP.cif hF (fun g5 hF=>?_) (fun g5 hF=>?_)
        ·refine AWP.skip (AWP.seq (AWP.block (AWP.seq ?_)))
         obtain⟨j,c6,hF⟩:=bindb hF
         refine AWP.rg [(0,.idx Zd c6),(1,.ldE Zd c6)] [(0,(i64 a)),(20,(.own 1 (List.length y))),(22,(.ptr 2 0)),(146,(.own 0 (List.length c))),(147,(i64 (List.length c:Int))),(148,(i64 q))] [bf 3 296 Zd c false,bf 10 94 Za y false,.cells (Zd j)] (AWP.seq (AWP.rg0 [(2,.len Za j.f_rest)] [(0,(i64 a)),(20,(.own 1 (List.length y))),(22,(.ptr 2 0)),(146,(.own 0 (List.length c))),(147,(i64 (List.length c:Int))),(148,(i64 q)),(153,(slc 10 Za j.f_rest)),(154,(i64 (List.length j.f_rest:Int))),(155,(i64 (0:Int)))] ?_))
         obtain⟨a9,g6,hF⟩:=bindb hF
         refine AWP.mid (fun e st H=>e=.normal∧st=[(0,(i64 a)),(20,(.own 1 (List.length a9))),(146,(.own 0 (List.length c))),(147,(i64 (List.length c:Int))),(148,(i64 q))]∧H=[bf 3 296 Zd c false,bf 10 94 Za a9 false,.cells (Zd j)]) ?_ ?_
         ·clear hF
          refine AWP.kp [0,20,22,146,147,148,153,154,155] 3 ?_
          refine AWP.bround (fun n st H=>∃ v,∃ x,Zb5 a j n v x=some a9∧st=[(0,(i64 a)),(20,(.own 1 (List.length v))),(22,(.ptr 2 0)),(146,(.own 0 (List.length c))),(147,(i64 (List.length c:Int))),(148,(i64 q)),(153,(slc 10 Za j.f_rest)),(154,(i64 (List.length j.f_rest:Int))),(155,(i64 x))]∧H=[bf 3 296 Zd c false,bf 10 94 Za v false,.cells (Zd j)]) fuel ⟨y,(0:Int),g6,by kernel_rfl,by kernel_rfl⟩ ?_
          rintro b7 st H ⟨v,x,hF,rfl,rfl⟩
          cases b7 with
          | zero=>exact noneb hF
          | succ b7=>
           rw [Zb5] at hF
           refine AWP.seq (AWP.rg0 [] [(0,(i64 a)),(20,(.own 1 (List.length v))),(22,(.ptr 2 0)),(146,(.own 0 (List.length c))),(147,(i64 (List.length c:Int))),(148,(i64 q)),(153,(slc 10 Za j.f_rest)),(154,(i64 (List.length j.f_rest:Int))),(155,(i64 x)),(156,(vb (decide (x<(List.length j.f_rest:Int)))))] (AWP.seq ?_))
           refine AWP.cif hF (fun g7 hF=>?_) (fun g7 hF=>?_)
           ·refine AWP.skip (AWP.seq (AWP.block (AWP.seq ?_)))
            obtain⟨a0,g8,hF⟩:=bindb hF
            refine AWP.rg [(0,.idx Za g8)] [(0,(i64 a)),(20,(.own 1 (List.length v))),(22,(.ptr 2 0)),(24,(.ptr 3 0)),(146,(.own 0 (List.length c))),(147,(i64 (List.length c:Int))),(148,(i64 q)),(153,(slc 10 Za j.f_rest)),(154,(i64 (List.length j.f_rest:Int))),(155,(i64 x))] [bf 3 296 Zd c false,bf 10 94 Za v false,.cells (Zd j),.cells (Za a0)] (AWP.seq ?_)
            obtain⟨c7,hF⟩:=chkb hF
            refine AWP.rg [(3,.ixd c7),(4,.stA (fun g9=>Za (Arr5.set a0 g9 j.f_values)) 0 2 0 c7)] [(0,(i64 a)),(20,(.own 1 (List.length v))),(22,(.ptr 2 0)),(24,(.ptr 3 0)),(146,(.own 0 (List.length c))),(147,(i64 (List.length c:Int))),(148,(i64 q)),(153,(slc 10 Za j.f_rest)),(154,(i64 (List.length j.f_rest:Int))),(155,(i64 x))] [bf 3 296 Zd c false,bf 10 94 Za v false,.cells (Zd j),.cells (Za (Arr5.set a0 a j.f_values))] ?_
            obtain⟨h0,hF⟩:=chkb hF
            refine AWP.rg [(3,.app Za (fun _=>by kernel_rfl) h0)] [(0,(i64 a)),(20,(.own 1 (List.length (v++[(Arr5.set a0 a j.f_values)])))),(22,(.ptr 2 0)),(146,(.own 0 (List.length c))),(147,(i64 (List.length c:Int))),(148,(i64 q)),(153,(slc 10 Za j.f_rest)),(154,(i64 (List.length j.f_rest:Int))),(155,(i64 x))] [bf 3 296 Zd c false,bf 10 94 Za (v++[(Arr5.set a0 a j.f_values)]) false,.cells (Zd j),.cells (Za (Arr5.set a0 a j.f_values))] (AWP.rg0 [] [(0,(i64 a)),(20,(.own 1 (List.length (v++[(Arr5.set a0 a j.f_values)])))),(22,(.ptr 2 0)),(146,(.own 0 (List.length c))),(147,(i64 (List.length c:Int))),(148,(i64 q)),(153,(slc 10 Za j.f_rest)),(154,(i64 (List.length j.f_rest:Int))),(155,(i64 (ZI (x + (1:Int)))))] (LeQ.start (LeQ.pk [0,20,22,146,147,148,153,154,155] 3 ?_)))
            exact⟨b7,Nat.lt_succ_self _,(v++[(Arr5.set a0 a j.f_values)]),(ZI (x + (1:Int))),hF,by kernel_rfl,by kernel_rfl⟩
           ·refine AWP.exit (LeQ.start (LeQ.pk [0,20,146,147,148] 3 ?_))
            have hr:=someb hF
            subst hr
            exact⟨rfl,by kernel_rfl,by kernel_rfl⟩
         ·rintro _ _ _ ⟨rfl,rfl,rfl⟩
          refine AWP.rg0 [] [(0,(i64 a)),(20,(.own 1 (List.length a9))),(146,(.own 0 (List.length c))),(147,(i64 (List.length c:Int))),(148,(i64 (ZI (q + (1:Int)))))] (LeQ.start (LeQ.pk [0,20,146,147,148] 2 ?_))
          exact⟨b6,Nat.lt_succ_self _,a9,(ZI (q + (1:Int))),hF,by kernel_rfl,by kernel_rfl⟩
        ·refine AWP.exit (LeQ.start (LeQ.pk [20] 2 ?_))
         have hr:=someb hF
         subst hr
         exact⟨rfl,by kernel_rfl,by kernel_rfl⟩
      ·rintro _ _ _ ⟨rfl,rfl,rfl⟩
       refine AWP.seq (AWP.rg0 [] [(10,(.own 1 (List.length a8))),(11,(vb true))] (AWP.ret ?_))
       have hr:=someb hF
       subst hr
       exact(FnQ.f1 0 (.inr rfl) (.inr ⟨_,_,rfl,rfl,(.cons _ _ _ _ (Wk.ownT (i:=1) (s:=10) (t:=94) (l:=a8) (sh:=false) (row:=Za) (by kernel_rfl) (.inl rfl)) (.cons _ _ _ _ (.refl _) .nil))⟩))
     ·have hr:=someb hF
      subst hr
      exact hq
theorem Zhi (a:Int) (b:ZL) (c:ZL) (d:Int) (r:(ZL × Bool)) (hF:Zaa fuel a b c d=some r):ACall Tryz.prog glob 177 [(i64 a),(slc 10 Za b),(slc 10 Za c),(.sc (.func (.func 165) #[] #[])),(i64 d)] [] (Zdl r):=Zg1 fuel a b c d r hF
def Zh4 (r:(ZL × Int)):PV→List Blk→Prop:=fun p K=>p=(.tup [(slc 10 Za r.1),(i64 r.2)])∧K=[]
theorem Zh5 (b:ZL) (c:ZL) (r:(ZL × Int)) (hF:Zdv b c=some r):ACall Tryz.prog glob 168 [(slc 10 Za b),(slc 10 Za c),(.sc (.func (.func 165) #[] #[]))] [] (Zh4 r):=by
 refine ACall.body Tryz.func168 rfl (by kernel_rfl) ?_
 unfold Zdv at hF
 refine AWP.seq (AWP.rg0 [] [(0,(slc 10 Za b)),(1,(slc 10 Za c)),(2,(.sc (.func (.func 165) #[] #[])))] (AWP.seq ?_))
 obtain⟨a,d,hF⟩:=bindb hF
 refine AWP.rg0 [(3,.call Tryz.func177 [] (Zhi (0:Int) b c (4096:Int) a d))] [(8,(slc 10 Za a.1)),(9,(vb a.2))] (AWP.seq (AWP.seq (AWP.rg0 [] [(8,(slc 10 Za a.1)),(18,(vb (!a.2)))] ?_)))
 refine AWP.cif hF (fun f hF=>?_) (fun f hF=>?_)
 ·refine AWP.seq (AWP.rg0 [] [(6,nils),(7,(i64 (3:Int)))] (AWP.ret ?_))
  have hr:=someb hF
  subst hr
  exact(FnQ.f1 0 (.inr rfl) (.inr ⟨_,_,rfl,rfl,(.cons _ _ _ _ (.nil 10) (.cons _ _ _ _ (.refl _) .nil))⟩))
 ·refine AWP.skip (AWP.seq (AWP.rg0 [] [(6,(slc 10 Za a.1)),(7,(i64 (0:Int)))] (AWP.ret ?_)))
  have hr:=someb hF
  subst hr
  exact(FnQ.f0 0 (.inr rfl))
def Zjk (r:(ZL × Int)):PV→List Blk→Prop:=fun p K=>p=(.tup [(slc 10 Za r.1),(i64 r.2)])∧K=[]
theorem Zjl (d:ZL) (c:ZL) (r:(ZL × Int)) (hF:Ze2 d c=some r):ACall Tryz.prog glob 155 [(slc 10 Za d),(slc 10 Za c),(.sc (.func (.func 165) #[] #[]))] [] (Zjk r):=by
 refine ACall.body Tryz.func155 rfl (by kernel_rfl) ?_
 unfold Ze2 at hF
 refine AWP.seq (AWP.rg0 [] [(0,(slc 10 Za d)),(1,(slc 10 Za c)),(2,(.sc (.func (.func 165) #[] #[])))] (AWP.seq ?_))
 obtain⟨a,g,hF⟩:=bindb hF
 refine AWP.rg0 [(1,.call Tryz.func167 [] (Zdz d a g))] [(1,(slc 10 Za c)),(2,(.sc (.func (.func 165) #[] #[]))),(8,(slc 10 Za a.1)),(9,(i64 a.2))] (AWP.seq (AWP.seq (AWP.rg0 [] [(1,(slc 10 Za c)),(2,(.sc (.func (.func 165) #[] #[]))),(8,(slc 10 Za a.1)),(9,(i64 a.2)),(17,(vb (a.2 != (0:Int))))] ?_)))
 refine AWP.cif hF (fun i hF=>?_) (fun i hF=>?_)
 ·refine AWP.seq (AWP.rg0 [] [(6,nils),(7,(i64 a.2))] (AWP.ret ?_))
  have hr:=someb hF
  subst hr
  exact(FnQ.f1 0 (.inr rfl) (.inr ⟨_,_,rfl,rfl,(.cons _ _ _ _ (.nil 10) (.cons _ _ _ _ (.refl _) .nil))⟩))
 ·refine AWP.skip (AWP.seq ?_)
  obtain⟨b,j,hF⟩:=bindb hF
  refine AWP.rg0 [(1,.call Tryz.func167 [] (Zdz c b j))] [(2,(.sc (.func (.func 165) #[] #[]))),(8,(slc 10 Za a.1)),(9,(i64 b.2)),(10,(slc 10 Za b.1))] (AWP.seq (AWP.seq (AWP.rg0 [] [(2,(.sc (.func (.func 165) #[] #[]))),(8,(slc 10 Za a.1)),(9,(i64 b.2)),(10,(slc 10 Za b.1)),(25,(vb (b.2 != (0:Int))))] ?_)))
  refine AWP.cif hF (fun k hF=>?_) (fun k hF=>?_)
  ·refine AWP.seq (AWP.rg0 [] [(6,nils),(7,(i64 b.2))] (AWP.ret ?_))
   have hr:=someb hF
   subst hr
   exact(FnQ.f1 0 (.inr rfl) (.inr ⟨_,_,rfl,rfl,(.cons _ _ _ _ (.nil 10) (.cons _ _ _ _ (.refl _) .nil))⟩))
  ·refine AWP.skip (AWP.seq ?_)
   obtain⟨f,l,hF⟩:=bindb hF
   refine AWP.rg0 [(3,.call Tryz.func168 [] (Zh5 a.1 b.1 f l))] [(6,(slc 10 Za f.1)),(7,(i64 f.2))] (AWP.ret ?_)
   have hr:=someb hF
   subst hr
   exact(FnQ.f0 0 (.inr rfl))
def Zjq (r:(ZL × Int)):PV→List Blk→Prop:=fun p K=>p=(.tup [(slc 10 Za r.1),(i64 r.2)])∧K=[]
theorem Zjr (a:ZL) (b:ZL) (r:(ZL × Int)) (hF:Ze8 a b=some r):ACall Tryz.prog glob 149 [(slc 10 Za a),(slc 10 Za b)] [] (Zjq r):=by
 refine ACall.body Tryz.func149 rfl (by kernel_rfl) ?_
 unfold Ze8 at hF
 refine AWP.seq (AWP.rg0 [] [(0,(slc 10 Za a)),(1,(slc 10 Za b))] (AWP.seq ?_))
 obtain⟨c,d,hF⟩:=bindb hF
 refine AWP.rg0 [(2,.call Tryz.func155 [] (Zjl a b c d))] [(4,(slc 10 Za c.1)),(5,(i64 c.2))] (AWP.ret ?_)
 have hr:=someb hF
 subst hr
 exact(FnQ.f0 0 (.inr rfl))
def Zkk (r:Bool):PV→List Blk→Prop:=fun p K=>p=(vb r)∧K=[]
theorem Zhk (c:Bool) (a:Bool) (r:Bool) (hF:Zei c a=some r):ACall Tryz.prog glob 169 [(vb c),(vb a)] [] (Zkk r):=by
 refine ACall.body Tryz.func169 rfl (by kernel_rfl) ?_
 unfold Zei at hF
 refine AWP.seq (AWP.rg0 [] [(0,(vb c)),(1,(vb a))] (AWP.seq ?_))
 obtain⟨d,b,hF⟩:=bindb hF
 replace b:=someb b
 refine AWP.to [(4,(vb (d && (!a))))] [] ?_ ?_
 ·cases d with
  | false=>
   exact AWP.rgT [(1,.bool b)]
  | true=>
   exact AWP.rgT [(1,.bool b)]
 refine AWP.ret ?_
 have hr:=someb hF
 subst hr
 exact(FnQ.f0 0 (.inr rfl))
def Zc7 (r:(ZL × Bool)):PV→List Blk→Prop:=fun p K=>p=(.tup [(slc 10 Za r.1),(vb r.2)])∧K=[]
abbrev Zee (r:(ZL × Bool)):Exit→St→List Blk→Prop:=FnQ Tryz.prog Tryz.f177.results 0 (Zc7 r)
theorem Zge:∀(nr:Nat) (a:Int) (d:ZL) (f:ZL) (g:Int) (r:(ZL × Bool)) (_hF:Z0 nr a d f g=some r),ACall Tryz.prog glob 177 [(i64 a),(slc 10 Za d),(slc 10 Za f),(.sc (.func (.func 169) #[] #[])),(i64 g)] [] (Zc7 r):=by
 intro nr
 induction nr with
 | zero=>intro a d f g r hF; exact noneb (by rw [Z0] at hF; exact hF)
 | succ nr ih=>
  intro a d f g r hF
  refine ACall.body Tryz.func177 rfl (by kernel_rfl) ?_
  rw [Z0] at hF
  refine AWP.seq (AWP.rg0 [] [(0,(i64 a)),(1,(slc 10 Za d)),(2,(slc 10 Za f)),(3,(.sc (.func (.func 169) #[] #[]))),(4,(i64 g))] (AWP.seq (AWP.seq (AWP.rg0 [] [(0,(i64 a)),(1,(slc 10 Za d)),(2,(slc 10 Za f)),(3,(.sc (.func (.func 169) #[] #[]))),(4,(i64 g)),(26,(vb (a == (5:Int))))] ?_))))
  refine AWP.cif hF (fun c8 hF=>?_) (fun c8 hF=>?_)
  ·refine AWP.seq (AWP.seq ?_)
   obtain⟨b8,c9,hF⟩:=bindb hF
   refine AWP.rg0 [(2,.len Za d),(5,.len Za f),(7,.call Tryz.func169 [] (Zhk (decide ((List.length d:Int) > (0:Int))) (decide ((List.length f:Int) > (0:Int))) b8 c9))] [(34,(vb b8))] ?_
   refine AWP.cif hF (fun d0 hF=>?_) (fun d0 hF=>?_)
   ·refine AWP.seq (AWP.rg0 [] [(10,(slc 10 Za [(Arr5.mk Zr Zr Zr Zr Zr)])),(11,(vb true))] (AWP.ret ?_))
    have hr:=someb hF
    subst hr
    exact(FnQ.f0 0 (.inr rfl))
   ·refine AWP.skip (AWP.seq (AWP.rg0 [] [(10,nils),(11,(vb true))] (AWP.ret ?_)))
    have hr:=someb hF
    subst hr
    exact(FnQ.f1 0 (.inr rfl) (.inr ⟨_,_,rfl,rfl,(.cons _ _ _ _ (.nil 10) (.cons _ _ _ _ (.refl _) .nil))⟩))
  ·refine AWP.skip (AWP.seq (AWP.seq ?_))
   obtain⟨d1,b0,hF⟩:=bindb hF
   replace b0:=someb b0
   obtain⟨d2,b9,hF⟩:=bindb hF
   refine AWP.to [(0,(i64 a)),(1,(slc 10 Za d)),(2,(slc 10 Za f)),(3,(.sc (.func (.func 169) #[] #[]))),(4,(i64 g)),(47,(vb d2))] [] ?_ ?_
   ·cases d1 with
    | false=>
     have d3:=someb (ifF b9 rfl)
     subst d3
     exact AWP.rgT [(1,.len Za d),(3,.len Za f),(6,.bool b0)]
    | true=>
     have a3:=ifT b9 rfl
     obtain⟨d4,d5,a3⟩:=bindb a3
     replace a3:=someb a3
     subst a3
     exact AWP.rgT [(1,.len Za d),(3,.len Za f),(6,.bool b0),(8,.call Tryz.func169 [] (Zhk false false d4 d5))]
   refine AWP.cif hF (fun d6 hF=>?_) (fun d6 hF=>?_)
   ·refine AWP.seq (AWP.rg0 [] [(10,nils),(11,(vb true))] (AWP.ret ?_))
    have hr:=someb hF
    subst hr
    exact(FnQ.f1 0 (.inr rfl) (.inr ⟨_,_,rfl,rfl,(.cons _ _ _ _ (.nil 10) (.cons _ _ _ _ (.refl _) .nil))⟩))
   ·refine AWP.skip (AWP.seq (AWP.rg0 [] [(0,(i64 a)),(1,(slc 10 Za d)),(2,(slc 10 Za f)),(3,(.sc (.func (.func 169) #[] #[]))),(4,(i64 g)),(12,nils)] ?_))
    refine AWP.own (H':=[bf 3 296 Zd ([]:(List Zf)) false]) (st':=[(12,(.own 0 (List.length ([]:(List Zf))))),(0,(i64 a)),(1,(slc 10 Za d)),(2,(slc 10 Za f)),(3,(.sc (.func (.func 169) #[] #[]))),(4,(i64 g))]) 12 3 296 (by kernel_rfl) (by kernel_rfl) (by kernel_rfl) ?_
    refine AWP.pick (st':=[(0,(i64 a)),(1,(slc 10 Za d)),(2,(slc 10 Za f)),(3,(.sc (.func (.func 169) #[] #[]))),(4,(i64 g)),(12,(.own 0 (List.length ([]:(List Zf)))))]) (ks:=[0,1,2,3,4,12]) (by kernel_rfl) ?_
    refine AWP.seq (AWP.rg0 [] [(0,(i64 a)),(1,(slc 10 Za d)),(2,(slc 10 Za f)),(3,(.sc (.func (.func 169) #[] #[]))),(4,(i64 g)),(12,(.own 0 (List.length ([]:(List Zf))))),(13,(i64 (0:Int)))] (AWP.seq ?_))
    obtain⟨k,d7,hF⟩:=bindb hF
    refine AWP.rg0 [(4,.call Tryz.func191 [] (Zfi a [d,f] k d7))] [(0,(i64 a)),(1,(slc 10 Za d)),(2,(slc 10 Za f)),(3,(.sc (.func (.func 169) #[] #[]))),(4,(i64 g)),(12,(.own 0 (List.length ([]:(List Zf))))),(13,(i64 (0:Int))),(14,(slc 1 Zc k))] (AWP.seq (AWP.seq (AWP.rg0 [] [(0,(i64 a)),(1,(slc 10 Za d)),(2,(slc 10 Za f)),(3,(.sc (.func (.func 169) #[] #[]))),(4,(i64 g)),(12,(.own 0 (List.length ([]:(List Zf))))),(13,(i64 (0:Int))),(14,(slc 1 Zc k)),(15,(i64 (0:Int)))] ?_)))
    obtain⟨b2,d8,hF⟩:=bindb hF
    refine AWP.mid (fun e st H=>(e=.normal∧∃ c,∃ b3,b2=(.inl (c,b3))∧st=[(0,(i64 a)),(12,(.own 0 (List.length c))),(13,(i64 b3))]∧H=[bf 3 296 Zd c false])∨(e=.ret∧∃ r,b2=(.inr r)∧Zee r e st H)) ?_ ?_
    ·clear hF
     refine AWP.kp [0,1,2,3,4,12,13,14,15] 1 ?_
     refine AWP.bround (fun n st H=>∃ b,∃ o,∃ p,Zbj a d f g (Z0 nr) k n b o p=some b2∧st=[(0,(i64 a)),(1,(slc 10 Za d)),(2,(slc 10 Za f)),(3,(.sc (.func (.func 169) #[] #[]))),(4,(i64 g)),(12,(.own 0 (List.length b))),(13,(i64 o)),(14,(slc 1 Zc k)),(15,(i64 p))]∧H=[bf 3 296 Zd b false]) fuel ⟨([]:(List Zf)),(0:Int),(0:Int),d8,by kernel_rfl,by kernel_rfl⟩ ?_
     rintro b4 st H ⟨b,o,p,hF,rfl,rfl⟩
     cases b4 with
     | zero=>exact noneb hF
     | succ b4=>
      rw [Zbj] at hF
      refine AWP.seq (AWP.seq (AWP.rg0 [(3,.len Zc k)] [(0,(i64 a)),(1,(slc 10 Za d)),(2,(slc 10 Za f)),(3,(.sc (.func (.func 169) #[] #[]))),(4,(i64 g)),(12,(.own 0 (List.length b))),(13,(i64 o)),(14,(slc 1 Zc k)),(15,(i64 p)),(57,(vb (decide ((ZI (p + (1:Int)))<(List.length k:Int)))))] ?_))
      refine AWP.cif hF (fun d9 hF=>?_) (fun d9 hF=>?_)
      ·refine AWP.skip ?_
       obtain⟨c0,e0,hF⟩:=bindb hF
       refine AWP.seq ?_
       refine AWP.mid (fun e st H=>(e=.normal∧∃ a2,∃ a4,c0=(.inl (a2,a4))∧st=[(0,(i64 a)),(1,(slc 10 Za d)),(2,(slc 10 Za f)),(3,(.sc (.func (.func 169) #[] #[]))),(4,(i64 g)),(12,(.own 0 (List.length a2))),(13,(i64 a4)),(14,(slc 1 Zc k)),(15,(i64 p))]∧H=[bf 3 296 Zd a2 false])∨(e=.ret∧∃ r,c0=(.inr r)∧Zee r e st H)) ?_ ?_
       ·clear hF
        have hF:=e0
        refine AWP.block (AWP.seq ?_)
        obtain⟨w,e1,hF⟩:=bindb hF
        obtain⟨u,e2,hF⟩:=bindb hF
        refine AWP.dr [(2,.idx Zc e1),(8,.idx Zc e2)] 14 [] [13] [] [(0,(i64 a)),(1,(slc 10 Za d)),(2,(slc 10 Za f)),(3,(.sc (.func (.func 169) #[] #[]))),(4,(i64 g)),(12,(.own 0 (List.length b))),(13,(i64 o)),(14,(slc 1 Zc k)),(15,(i64 p)),(16,(.ptr 1 0))] [bf 3 296 Zd b false,.cells (Zs (Zb.mk (IntKind.wrap .u32 w) (IntKind.wrap .u32 (IntKind.wrap .u64 (u - (1:Int))))))] (AWP.seq ?_)
        obtain⟨c1,e3,hF⟩:=bindb hF
        obtain⟨c2,e4,hF⟩:=bindb hF
        obtain⟨m,e5,hF⟩:=bindb hF
        refine AWP.dr [(6,.call Tryz.func192 [] (Za9 d a (IntKind.wrap .u32 w) c1 e3)),(11,.call Tryz.func192 [] (Za9 f a (IntKind.wrap .u32 w) c2 e4)),(14,.call Tryz.func177 [] (ih (ZI (a + (1:Int))) c1 c2 g m e5))] 19 [] [] [] [(0,(i64 a)),(1,(slc 10 Za d)),(2,(slc 10 Za f)),(3,(.sc (.func (.func 169) #[] #[]))),(4,(i64 g)),(12,(.own 0 (List.length b))),(13,(i64 o)),(14,(slc 1 Zc k)),(15,(i64 p)),(16,(.ptr 1 0)),(17,(slc 10 Za m.1)),(18,(vb m.2))] [bf 3 296 Zd b false,.cells (Zs (Zb.mk (IntKind.wrap .u32 w) (IntKind.wrap .u32 (IntKind.wrap .u64 (u - (1:Int))))))] (AWP.seq (AWP.seq (AWP.rg0 [] [(0,(i64 a)),(1,(slc 10 Za d)),(2,(slc 10 Za f)),(3,(.sc (.func (.func 169) #[] #[]))),(4,(i64 g)),(12,(.own 0 (List.length b))),(13,(i64 o)),(14,(slc 1 Zc k)),(15,(i64 p)),(16,(.ptr 1 0)),(17,(slc 10 Za m.1)),(92,(vb (!m.2)))] ?_)))
        refine AWP.cif hF (fun e6 hF=>?_) (fun e6 hF=>?_)
        ·refine AWP.seq (AWP.rg0 [] [(10,nils),(11,(vb false))] (AWP.ret ?_))
         exact LeQ.of (.inr ⟨rfl,(([]:ZL),false),(someb hF).symm,(FnQ.f1 0 (.inr rfl) (.inr ⟨_,_,rfl,rfl,(.cons _ _ _ _ (.nil 10) (.cons _ _ _ _ (.refl _) .nil))⟩))⟩)
        ·refine AWP.skip (AWP.seq (AWP.seq (AWP.rg0 [(1,.len Za m.1)] [(0,(i64 a)),(1,(slc 10 Za d)),(2,(slc 10 Za f)),(3,(.sc (.func (.func 169) #[] #[]))),(4,(i64 g)),(12,(.own 0 (List.length b))),(13,(i64 o)),(14,(slc 1 Zc k)),(15,(i64 p)),(16,(.ptr 1 0)),(17,(slc 10 Za m.1)),(95,(vb ((List.length m.1:Int) == (0:Int))))] ?_)))
         refine AWP.cif hF (fun e7 hF=>?_) (fun e7 hF=>?_)
         ·refine AWP.exit (LeQ.start (LeQ.pk [0,1,2,3,4,12,13,14,15] 1 ?_))
          exact(.inl ⟨rfl,b,o,(someb hF).symm,by kernel_rfl,by kernel_rfl⟩)
         ·refine AWP.skip (AWP.seq (AWP.seq (AWP.rg0 [(1,.len Zd b)] [(0,(i64 a)),(1,(slc 10 Za d)),(2,(slc 10 Za f)),(3,(.sc (.func (.func 169) #[] #[]))),(4,(i64 g)),(12,(.own 0 (List.length b))),(13,(i64 o)),(14,(slc 1 Zc k)),(15,(i64 p)),(16,(.ptr 1 0)),(17,(slc 10 Za m.1)),(19,(i64 (List.length b:Int)))] (AWP.seq ?_))))
          obtain⟨e8,a5,hF⟩:=bindb hF
          replace a5:=someb a5
          obtain⟨h1,c3,hF⟩:=bindb hF
          obtain⟨e9,a6,hF⟩:=bindb hF
          replace a6:=someb a6
          obtain⟨f2,b5,hF⟩:=bindb hF
          refine AWP.to [(0,(i64 a)),(1,(slc 10 Za d)),(2,(slc 10 Za f)),(3,(.sc (.func (.func 169) #[] #[]))),(4,(i64 g)),(12,(.own 0 (List.length b))),(13,(i64 o)),(14,(slc 1 Zc k)),(15,(i64 p)),(16,(.ptr 1 0)),(17,(slc 10 Za m.1)),(19,(i64 (List.length b:Int))),(122,(vb f2))] [bf 3 296 Zd b false,.cells (Zs (Zb.mk (IntKind.wrap .u32 w) (IntKind.wrap .u32 (IntKind.wrap .u64 (u - (1:Int))))))] ?_ ?_
          ·cases e8 with
           | false=>
            have f3:=someb (ifF c3 rfl)
            subst f3
            subst a6
            have f4:=someb (ifF b5 rfl)
            subst f4
            exact AWP.drT [(2,.bool a5)] 25 [] [] []
           | true=>
            have a7:=ifT c3 rfl
            obtain⟨h2,b1,a7⟩:=bindb a7
            replace a7:=someb a7
            subst a7
            cases e9 with
            | false=>
             have f5:=someb (ifF b5 rfl)
             subst f5
             exact AWP.drT [(2,.bool a5),(6,.idx Zd b1),(7,.fdE Zd b (ZI ((List.length b:Int) - (1:Int)))),(8,.fdE Zd b (ZI ((List.length b:Int) - (1:Int)))),(9,.ldE Zd b1),(15,.bool a6)] 25 [] [] []
            | true=>
             have a1:=ifT b5 rfl
             obtain⟨f6,c4,a1⟩:=bindb a1
             obtain⟨f7,f8,a1⟩:=bindb a1
             replace a1:=someb a1
             subst a1
             exact AWP.drT [(2,.bool a5),(6,.idx Zd b1),(7,.fdE Zd b (ZI ((List.length b:Int) - (1:Int)))),(8,.fdE Zd b (ZI ((List.length b:Int) - (1:Int)))),(9,.ldE Zd b1),(15,.bool a6),(19,.idx Zd c4),(20,.fdE Zd b (ZI ((List.length b:Int) - (1:Int)))),(21,.ldE Zd c4),(23,.call Tryz.func193 [] (Zce f6.f_rest m.1 f7 f8))] 25 [] [] []
          refine AWP.cif hF (fun f9 hF=>?_) (fun f9 hF=>?_)
          ·refine AWP.seq ?_
           obtain⟨z,c5,hF⟩:=bindb hF
           refine AWP.rg [(5,.idx Zd c5),(6,.fdE Zd b (ZI ((List.length b:Int) - (1:Int)))),(7,.fdE Zd b (ZI ((List.length b:Int) - (1:Int)))),(8,.stE Zd c5 ({ z with f_values:=({ z.f_values with Hi:=(IntKind.wrap .u32 (IntKind.wrap .u64 (u - (1:Int)))) }:Zb) }:Zf))] [(0,(i64 a)),(1,(slc 10 Za d)),(2,(slc 10 Za f)),(3,(.sc (.func (.func 169) #[] #[]))),(4,(i64 g)),(12,(.own 0 (List.length b))),(13,(i64 o)),(14,(slc 1 Zc k)),(15,(i64 p))] [bf 3 296 Zd (List.set b (Int.toNat (ZI ((List.length b:Int) - (1:Int)))) ({ z with f_values:=({ z.f_values with Hi:=(IntKind.wrap .u32 (IntKind.wrap .u64 (u - (1:Int)))) }:Zb) }:Zf)) false,.cells (Zs (Zb.mk (IntKind.wrap .u32 w) (IntKind.wrap .u32 (IntKind.wrap .u64 (u - (1:Int))))))] ?_
           rw [show ([(0,(i64 a)),(1,(slc 10 Za d)),(2,(slc 10 Za f)),(3,(.sc (.func (.func 169) #[] #[]))),(4,(i64 g)),(12,(.own 0 (List.length b))),(13,(i64 o)),(14,(slc 1 Zc k)),(15,(i64 p))]:St)=[(0,(i64 a)),(1,(slc 10 Za d)),(2,(slc 10 Za f)),(3,(.sc (.func (.func 169) #[] #[]))),(4,(i64 g)),(12,(.own 0 (List.length (List.set b (Int.toNat (ZI ((List.length b:Int) - (1:Int)))) ({ z with f_values:=({ z.f_values with Hi:=(IntKind.wrap .u32 (IntKind.wrap .u64 (u - (1:Int)))) }:Zb) }:Zf))))),(13,(i64 o)),(14,(slc 1 Zc k)),(15,(i64 p))] by simp only [List.length_set]]
           refine AWP.exit (LeQ.start (LeQ.pk [0,1,2,3,4,12,13,14,15] 1 ?_))
           exact(.inl ⟨rfl,(List.set b (Int.toNat (ZI ((List.length b:Int) - (1:Int)))) ({ z with f_values:=({ z.f_values with Hi:=(IntKind.wrap .u32 (IntKind.wrap .u64 (u - (1:Int)))) }:Zb) }:Zf)),o,(someb hF).symm,by kernel_rfl,by kernel_rfl⟩)
          ·refine AWP.skip (AWP.seq ?_)
           obtain⟨g0,hF⟩:=chkb hF
           refine AWP.rg [(5,.app Zd (fun _=>by kernel_rfl) g0)] [(0,(i64 a)),(1,(slc 10 Za d)),(2,(slc 10 Za f)),(3,(.sc (.func (.func 169) #[] #[]))),(4,(i64 g)),(12,(.own 0 (List.length (b++[(Zf.mk (Zb.mk (IntKind.wrap .u32 w) (IntKind.wrap .u32 (IntKind.wrap .u64 (u - (1:Int))))) m.1)])))),(13,(i64 o)),(14,(slc 1 Zc k)),(15,(i64 p)),(17,(slc 10 Za m.1))] [bf 3 296 Zd (b++[(Zf.mk (Zb.mk (IntKind.wrap .u32 w) (IntKind.wrap .u32 (IntKind.wrap .u64 (u - (1:Int))))) m.1)]) false,.cells (Zs (Zb.mk (IntKind.wrap .u32 w) (IntKind.wrap .u32 (IntKind.wrap .u64 (u - (1:Int))))))] (AWP.seq (AWP.rg0 [(2,.len Za m.1)] [(0,(i64 a)),(1,(slc 10 Za d)),(2,(slc 10 Za f)),(3,(.sc (.func (.func 169) #[] #[]))),(4,(i64 g)),(12,(.own 0 (List.length (b++[(Zf.mk (Zb.mk (IntKind.wrap .u32 w) (IntKind.wrap .u32 (IntKind.wrap .u64 (u - (1:Int))))) m.1)])))),(13,(i64 (ZI (o + (List.length m.1:Int))))),(14,(slc 1 Zc k)),(15,(i64 p))] (AWP.seq (AWP.rg0 [] [(0,(i64 a)),(1,(slc 10 Za d)),(2,(slc 10 Za f)),(3,(.sc (.func (.func 169) #[] #[]))),(4,(i64 g)),(12,(.own 0 (List.length (b++[(Zf.mk (Zb.mk (IntKind.wrap .u32 w) (IntKind.wrap .u32 (IntKind.wrap .u64 (u - (1:Int))))) m.1)])))),(13,(i64 (ZI (o + (List.length m.1:Int))))),(14,(slc 1 Zc k)),(15,(i64 p)),(143,(vb (decide ((ZI (o + (List.length m.1:Int))) > g))))] ?_))))
           refine AWP.cif hF (fun g1 hF=>?_) (fun g1 hF=>?_)
           ·refine AWP.seq (AWP.rg0 [] [(10,nils),(11,(vb false))] (AWP.ret ?_))
            exact LeQ.of (.inr ⟨rfl,(([]:ZL),false),(someb hF).symm,(FnQ.f1 0 (.inr rfl) (.inr ⟨_,_,rfl,rfl,(.cons _ _ _ _ (.nil 10) (.cons _ _ _ _ (.refl _) .nil))⟩))⟩)
           ·refine AWP.skip (LeQ.start (LeQ.pk [0,1,2,3,4,12,13,14,15] 1 ?_))
            exact(.inl ⟨rfl,(b++[(Zf.mk (Zb.mk (IntKind.wrap .u32 w) (IntKind.wrap .u32 (IntKind.wrap .u64 (u - (1:Int))))) m.1)]),(ZI (o + (List.length m.1:Int))),(someb hF).symm,by kernel_rfl,by kernel_rfl⟩)
       ·rintro _ _ _ (⟨rfl,a2,a4,rfl,rfl,rfl⟩ | ⟨rfl,g2,rfl,hq⟩)
        ·refine AWP.rg0 [] [(0,(i64 a)),(1,(slc 10 Za d)),(2,(slc 10 Za f)),(3,(.sc (.func (.func 169) #[] #[]))),(4,(i64 g)),(12,(.own 0 (List.length a2))),(13,(i64 a4)),(14,(slc 1 Zc k)),(15,(i64 (ZI (p + (1:Int)))))] (LeQ.start (LeQ.pk [0,1,2,3,4,12,13,14,15] 1 ?_))
         exact⟨b4,Nat.lt_succ_self _,a2,a4,(ZI (p + (1:Int))),hF,by kernel_rfl,by kernel_rfl⟩
        ·exact LeQ.of (.inr ⟨rfl,g2,(someb hF).symm,hq⟩)
      ·refine AWP.exit (LeQ.start (LeQ.pk [0,12,13] 1 ?_))
       exact(.inl ⟨rfl,b,o,(someb hF).symm,by kernel_rfl,by kernel_rfl⟩)
    ·rintro _ _ _ (⟨rfl,c,b3,rfl,rfl,rfl⟩ | ⟨rfl,h3,rfl,hq⟩)
     ·refine AWP.seq ?_
      obtain⟨g3,hF⟩:=chkb hF
      refine AWP.rg [(1,.mk0 Za g3)] [(0,(i64 a)),(12,(.own 0 (List.length c))),(20,(.own 1 (List.length ([]:ZL))))] [bf 3 296 Zd c false,bf 10 94 Za ([]:ZL) false] (AWP.seq (AWP.seq (AWP.rg0 [(1,.len Zd c)] [(0,(i64 a)),(20,(.own 1 (List.length ([]:ZL)))),(146,(.own 0 (List.length c))),(147,(i64 (List.length c:Int))),(148,(i64 (0:Int)))] ?_)))
      obtain⟨a8,g4,hF⟩:=bindb hF
      refine AWP.mid (fun e st H=>e=.normal∧st=[(20,(.own 1 (List.length a8)))]∧H=[bf 3 296 Zd c false,bf 10 94 Za a8 false]) ?_ ?_
      ·clear hF
       refine AWP.kp [0,20,146,147,148] 2 ?_
       refine AWP.bround (fun n st H=>∃ y,∃ q,Zbl a c n y q=some a8∧st=[(0,(i64 a)),(20,(.own 1 (List.length y))),(146,(.own 0 (List.length c))),(147,(i64 (List.length c:Int))),(148,(i64 q))]∧H=[bf 3 296 Zd c false,bf 10 94 Za y false]) fuel ⟨([]:ZL),(0:Int),g4,by kernel_rfl,by kernel_rfl⟩ ?_
       rintro b6 st H ⟨y,q,hF,rfl,rfl⟩
       cases b6 with
       | zero=>exact noneb hF
       | succ b6=>
        rw [Zbl] at hF
        refine AWP.seq (AWP.rg0 [] [(0,(i64 a)),(20,(.own 1 (List.length y))),(146,(.own 0 (List.length c))),(147,(i64 (List.length c:Int))),(148,(i64 q)),(149,(vb (decide (q<(List.length c:Int)))))] (AWP.seq ?_))
        refine AWP.cif hF (fun g5 hF=>?_) (fun g5 hF=>?_)
        ·refine AWP.skip (AWP.seq (AWP.block (AWP.seq ?_)))
         obtain⟨j,c6,hF⟩:=bindb hF
         refine AWP.rg [(0,.idx Zd c6),(1,.ldE Zd c6)] [(0,(i64 a)),(20,(.own 1 (List.length y))),(22,(.ptr 2 0)),(146,(.own 0 (List.length c))),(147,(i64 (List.length c:Int))),(148,(i64 q))] [bf 3 296 Zd c false,bf 10 94 Za y false,.cells (Zd j)] (AWP.seq (AWP.rg0 [(2,.len Za j.f_rest)] [(0,(i64 a)),(20,(.own 1 (List.length y))),(22,(.ptr 2 0)),(146,(.own 0 (List.length c))),(147,(i64 (List.length c:Int))),(148,(i64 q)),(153,(slc 10 Za j.f_rest)),(154,(i64 (List.length j.f_rest:Int))),(155,(i64 (0:Int)))] ?_))
         obtain⟨a9,g6,hF⟩:=bindb hF
         refine AWP.mid (fun e st H=>e=.normal∧st=[(0,(i64 a)),(20,(.own 1 (List.length a9))),(146,(.own 0 (List.length c))),(147,(i64 (List.length c:Int))),(148,(i64 q))]∧H=[bf 3 296 Zd c false,bf 10 94 Za a9 false,.cells (Zd j)]) ?_ ?_
         ·clear hF
          refine AWP.kp [0,20,22,146,147,148,153,154,155] 3 ?_
          refine AWP.bround (fun n st H=>∃ v,∃ x,Zbk a j n v x=some a9∧st=[(0,(i64 a)),(20,(.own 1 (List.length v))),(22,(.ptr 2 0)),(146,(.own 0 (List.length c))),(147,(i64 (List.length c:Int))),(148,(i64 q)),(153,(slc 10 Za j.f_rest)),(154,(i64 (List.length j.f_rest:Int))),(155,(i64 x))]∧H=[bf 3 296 Zd c false,bf 10 94 Za v false,.cells (Zd j)]) fuel ⟨y,(0:Int),g6,by kernel_rfl,by kernel_rfl⟩ ?_
          rintro b7 st H ⟨v,x,hF,rfl,rfl⟩
          cases b7 with
          | zero=>exact noneb hF
          | succ b7=>
           rw [Zbk] at hF
           refine AWP.seq (AWP.rg0 [] [(0,(i64 a)),(20,(.own 1 (List.length v))),(22,(.ptr 2 0)),(146,(.own 0 (List.length c))),(147,(i64 (List.length c:Int))),(148,(i64 q)),(153,(slc 10 Za j.f_rest)),(154,(i64 (List.length j.f_rest:Int))),(155,(i64 x)),(156,(vb (decide (x<(List.length j.f_rest:Int)))))] (AWP.seq ?_))
           refine AWP.cif hF (fun g7 hF=>?_) (fun g7 hF=>?_)
           ·refine AWP.skip (AWP.seq (AWP.block (AWP.seq ?_)))
            obtain⟨a0,g8,hF⟩:=bindb hF
            refine AWP.rg [(0,.idx Za g8)] [(0,(i64 a)),(20,(.own 1 (List.length v))),(22,(.ptr 2 0)),(24,(.ptr 3 0)),(146,(.own 0 (List.length c))),(147,(i64 (List.length c:Int))),(148,(i64 q)),(153,(slc 10 Za j.f_rest)),(154,(i64 (List.length j.f_rest:Int))),(155,(i64 x))] [bf 3 296 Zd c false,bf 10 94 Za v false,.cells (Zd j),.cells (Za a0)] (AWP.seq ?_)
            obtain⟨c7,hF⟩:=chkb hF
            refine AWP.rg [(3,.ixd c7),(4,.stA (fun g9=>Za (Arr5.set a0 g9 j.f_values)) 0 2 0 c7)] [(0,(i64 a)),(20,(.own 1 (List.length v))),(22,(.ptr 2 0)),(24,(.ptr 3 0)),(146,(.own 0 (List.length c))),(147,(i64 (List.length c:Int))),(148,(i64 q)),(153,(slc 10 Za j.f_rest)),(154,(i64 (List.length j.f_rest:Int))),(155,(i64 x))] [bf 3 296 Zd c false,bf 10 94 Za v false,.cells (Zd j),.cells (Za (Arr5.set a0 a j.f_values))] ?_
            obtain⟨h0,hF⟩:=chkb hF
            refine AWP.rg [(3,.app Za (fun _=>by kernel_rfl) h0)] [(0,(i64 a)),(20,(.own 1 (List.length (v++[(Arr5.set a0 a j.f_values)])))),(22,(.ptr 2 0)),(146,(.own 0 (List.length c))),(147,(i64 (List.length c:Int))),(148,(i64 q)),(153,(slc 10 Za j.f_rest)),(154,(i64 (List.length j.f_rest:Int))),(155,(i64 x))] [bf 3 296 Zd c false,bf 10 94 Za (v++[(Arr5.set a0 a j.f_values)]) false,.cells (Zd j),.cells (Za (Arr5.set a0 a j.f_values))] (AWP.rg0 [] [(0,(i64 a)),(20,(.own 1 (List.length (v++[(Arr5.set a0 a j.f_values)])))),(22,(.ptr 2 0)),(146,(.own 0 (List.length c))),(147,(i64 (List.length c:Int))),(148,(i64 q)),(153,(slc 10 Za j.f_rest)),(154,(i64 (List.length j.f_rest:Int))),(155,(i64 (ZI (x + (1:Int)))))] (LeQ.start (LeQ.pk [0,20,22,146,147,148,153,154,155] 3 ?_)))
            exact⟨b7,Nat.lt_succ_self _,(v++[(Arr5.set a0 a j.f_values)]),(ZI (x + (1:Int))),hF,by kernel_rfl,by kernel_rfl⟩
           ·refine AWP.exit (LeQ.start (LeQ.pk [0,20,146,147,148] 3 ?_))
            have hr:=someb hF
            subst hr
            exact⟨rfl,by kernel_rfl,by kernel_rfl⟩
         ·rintro _ _ _ ⟨rfl,rfl,rfl⟩
          refine AWP.rg0 [] [(0,(i64 a)),(20,(.own 1 (List.length a9))),(146,(.own 0 (List.length c))),(147,(i64 (List.length c:Int))),(148,(i64 (ZI (q + (1:Int)))))] (LeQ.start (LeQ.pk [0,20,146,147,148] 2 ?_))
          exact⟨b6,Nat.lt_succ_self _,a9,(ZI (q + (1:Int))),hF,by kernel_rfl,by kernel_rfl⟩
        ·refine AWP.exit (LeQ.start (LeQ.pk [20] 2 ?_))
         have hr:=someb hF
         subst hr
         exact⟨rfl,by kernel_rfl,by kernel_rfl⟩
      ·rintro _ _ _ ⟨rfl,rfl,rfl⟩
       refine AWP.seq (AWP.rg0 [] [(10,(.own 1 (List.length a8))),(11,(vb true))] (AWP.ret ?_))
       have hr:=someb hF
       subst hr
       exact(FnQ.f1 0 (.inr rfl) (.inr ⟨_,_,rfl,rfl,(.cons _ _ _ _ (Wk.ownT (i:=1) (s:=10) (t:=94) (l:=a8) (sh:=false) (row:=Za) (by kernel_rfl) (.inl rfl)) (.cons _ _ _ _ (.refl _) .nil))⟩))
     ·have hr:=someb hF
      subst hr
      exact hq
theorem Zgl (a:Int) (b:ZL) (c:ZL) (d:Int) (r:(ZL × Bool)) (hF:Z0 fuel a b c d=some r):ACall Tryz.prog glob 177 [(i64 a),(slc 10 Za b),(slc 10 Za c),(.sc (.func (.func 169) #[] #[])),(i64 d)] [] (Zc7 r):=Zge fuel a b c d r hF
def Zg9 (r:(ZL × Int)):PV→List Blk→Prop:=fun p K=>p=(.tup [(slc 10 Za r.1),(i64 r.2)])∧K=[]
theorem Zha (b:ZL) (c:ZL) (r:(ZL × Int)) (hF:Zde b c=some r):ACall Tryz.prog glob 168 [(slc 10 Za b),(slc 10 Za c),(.sc (.func (.func 169) #[] #[]))] [] (Zg9 r):=by
 refine ACall.body Tryz.func168 rfl (by kernel_rfl) ?_
 unfold Zde at hF
 refine AWP.seq (AWP.rg0 [] [(0,(slc 10 Za b)),(1,(slc 10 Za c)),(2,(.sc (.func (.func 169) #[] #[])))] (AWP.seq ?_))
 obtain⟨a,d,hF⟩:=bindb hF
 refine AWP.rg0 [(3,.call Tryz.func177 [] (Zgl (0:Int) b c (4096:Int) a d))] [(8,(slc 10 Za a.1)),(9,(vb a.2))] (AWP.seq (AWP.seq (AWP.rg0 [] [(8,(slc 10 Za a.1)),(18,(vb (!a.2)))] ?_)))
 refine AWP.cif hF (fun f hF=>?_) (fun f hF=>?_)
 ·refine AWP.seq (AWP.rg0 [] [(6,nils),(7,(i64 (3:Int)))] (AWP.ret ?_))
  have hr:=someb hF
  subst hr
  exact(FnQ.f1 0 (.inr rfl) (.inr ⟨_,_,rfl,rfl,(.cons _ _ _ _ (.nil 10) (.cons _ _ _ _ (.refl _) .nil))⟩))
 ·refine AWP.skip (AWP.seq (AWP.rg0 [] [(6,(slc 10 Za a.1)),(7,(i64 (0:Int)))] (AWP.ret ?_)))
  have hr:=someb hF
  subst hr
  exact(FnQ.f0 0 (.inr rfl))
def Zic (r:(ZL × Int)):PV→List Blk→Prop:=fun p K=>p=(.tup [(slc 10 Za r.1),(i64 r.2)])∧K=[]
theorem Zid (d:ZL) (c:ZL) (r:(ZL × Int)) (hF:Zd9 d c=some r):ACall Tryz.prog glob 155 [(slc 10 Za d),(slc 10 Za c),(.sc (.func (.func 169) #[] #[]))] [] (Zic r):=by
 refine ACall.body Tryz.func155 rfl (by kernel_rfl) ?_
 unfold Zd9 at hF
 refine AWP.seq (AWP.rg0 [] [(0,(slc 10 Za d)),(1,(slc 10 Za c)),(2,(.sc (.func (.func 169) #[] #[])))] (AWP.seq ?_))
 obtain⟨a,g,hF⟩:=bindb hF
 refine AWP.rg0 [(1,.call Tryz.func167 [] (Zdz d a g))] [(1,(slc 10 Za c)),(2,(.sc (.func (.func 169) #[] #[]))),(8,(slc 10 Za a.1)),(9,(i64 a.2))] (AWP.seq (AWP.seq (AWP.rg0 [] [(1,(slc 10 Za c)),(2,(.sc (.func (.func 169) #[] #[]))),(8,(slc 10 Za a.1)),(9,(i64 a.2)),(17,(vb (a.2 != (0:Int))))] ?_)))
 refine AWP.cif hF (fun i hF=>?_) (fun i hF=>?_)
 ·refine AWP.seq (AWP.rg0 [] [(6,nils),(7,(i64 a.2))] (AWP.ret ?_))
  have hr:=someb hF
  subst hr
  exact(FnQ.f1 0 (.inr rfl) (.inr ⟨_,_,rfl,rfl,(.cons _ _ _ _ (.nil 10) (.cons _ _ _ _ (.refl _) .nil))⟩))
 ·refine AWP.skip (AWP.seq ?_)
  obtain⟨b,j,hF⟩:=bindb hF
  refine AWP.rg0 [(1,.call Tryz.func167 [] (Zdz c b j))] [(2,(.sc (.func (.func 169) #[] #[]))),(8,(slc 10 Za a.1)),(9,(i64 b.2)),(10,(slc 10 Za b.1))] (AWP.seq (AWP.seq (AWP.rg0 [] [(2,(.sc (.func (.func 169) #[] #[]))),(8,(slc 10 Za a.1)),(9,(i64 b.2)),(10,(slc 10 Za b.1)),(25,(vb (b.2 != (0:Int))))] ?_)))
  refine AWP.cif hF (fun k hF=>?_) (fun k hF=>?_)
  ·refine AWP.seq (AWP.rg0 [] [(6,nils),(7,(i64 b.2))] (AWP.ret ?_))
   have hr:=someb hF
   subst hr
   exact(FnQ.f1 0 (.inr rfl) (.inr ⟨_,_,rfl,rfl,(.cons _ _ _ _ (.nil 10) (.cons _ _ _ _ (.refl _) .nil))⟩))
  ·refine AWP.skip (AWP.seq ?_)
   obtain⟨f,l,hF⟩:=bindb hF
   refine AWP.rg0 [(3,.call Tryz.func168 [] (Zha a.1 b.1 f l))] [(6,(slc 10 Za f.1)),(7,(i64 f.2))] (AWP.ret ?_)
   have hr:=someb hF
   subst hr
   exact(FnQ.f0 0 (.inr rfl))
def Zka (r:(ZL × Int)):PV→List Blk→Prop:=fun p K=>p=(.tup [(slc 10 Za r.1),(i64 r.2)])∧K=[]
theorem Zkb (a:ZL) (b:ZL) (r:(ZL × Int)) (hF:Zfh a b=some r):ACall Tryz.prog glob 157 [(slc 10 Za a),(slc 10 Za b)] [] (Zka r):=by
 refine ACall.body Tryz.func157 rfl (by kernel_rfl) ?_
 unfold Zfh at hF
 refine AWP.seq (AWP.rg0 [] [(0,(slc 10 Za a)),(1,(slc 10 Za b))] (AWP.seq ?_))
 obtain⟨c,d,hF⟩:=bindb hF
 refine AWP.rg0 [(2,.call Tryz.func155 [] (Zid a b c d))] [(4,(slc 10 Za c.1)),(5,(i64 c.2))] (AWP.ret ?_)
 have hr:=someb hF
 subst hr
 exact(FnQ.f0 0 (.inr rfl))
def Zjs (r:Bool):PV→List Blk→Prop:=fun p K=>p=(vb r)∧K=[]
theorem Zgu (a:Bool) (b:Bool) (r:Bool) (hF:Zdy a b=some r):ACall Tryz.prog glob 174 [(vb a),(vb b)] [] (Zjs r):=by
 refine ACall.body Tryz.func174 rfl (by kernel_rfl) ?_
 unfold Zdy at hF
 refine AWP.seq (AWP.rg0 [] [(0,(vb a)),(1,(vb b))] (AWP.seq (AWP.rg0 [] [(4,(vb (!(a == b))))] (AWP.ret ?_))))
 have hr:=someb hF
 subst hr
 exact(FnQ.f0 0 (.inr rfl))
def Zdh (r:(Bool × (Arr5 Int))):PV→List Blk→Prop:=fun p K=>p=(vb r.1)∧K=[.cells (Zy r.2)]
abbrev Zhb (r:(Bool × (Arr5 Int))):Exit→St→List Blk→Prop:=FnQ Tryz.prog Tryz.f187.results 1 (Zdh r)
theorem Zgm:∀(nr:Nat) (a:Int) (b:ZL) (c:ZL) (j:(Arr5 Int)) (r:(Bool × (Arr5 Int))) (_hF:Z8 nr a b c j=some r),ACall Tryz.prog glob 187 [(i64 a),(slc 10 Za b),(slc 10 Za c),(.sc (.func (.func 174) #[] #[])),(.ptr 0 0)] [.cells (Zy j)] (Zdh r):=by
 intro nr
 induction nr with
 | zero=>intro a b c j r hF; exact noneb (by rw [Z8] at hF; exact hF)
 | succ nr ih=>
  intro a b c j r hF
  refine ACall.body Tryz.func187 rfl (by kernel_rfl) ?_
  rw [Z8] at hF
  refine AWP.seq (AWP.rg0 [] [(0,(i64 a)),(1,(slc 10 Za b)),(2,(slc 10 Za c)),(3,(.sc (.func (.func 174) #[] #[]))),(4,(.ptr 0 0))] (AWP.seq (AWP.seq (AWP.rg0 [] [(0,(i64 a)),(1,(slc 10 Za b)),(2,(slc 10 Za c)),(3,(.sc (.func (.func 174) #[] #[]))),(4,(.ptr 0 0)),(14,(vb (a == (5:Int))))] ?_))))
  refine AWP.cif hF (fun a0 hF=>?_) (fun a0 hF=>?_)
  ·refine AWP.seq ?_
   obtain⟨s,a1,hF⟩:=bindb hF
   refine AWP.rg0 [(2,.len Za b),(5,.len Za c),(7,.call Tryz.func174 [] (Zgu (decide ((List.length b:Int) > (0:Int))) (decide ((List.length c:Int) > (0:Int))) s a1))] [(10,(vb s))] (AWP.ret ?_)
   have hr:=someb hF
   subst hr
   exact(FnQ.f0 1 (.inr rfl))
  ·refine AWP.skip (AWP.seq (AWP.seq ?_))
   obtain⟨a2,m,hF⟩:=bindb hF
   replace m:=someb m
   obtain⟨a3,t,hF⟩:=bindb hF
   refine AWP.to [(0,(i64 a)),(1,(slc 10 Za b)),(2,(slc 10 Za c)),(3,(.sc (.func (.func 174) #[] #[]))),(4,(.ptr 0 0)),(33,(vb a3))] [.cells (Zy j)] ?_ ?_
   ·cases a2 with
    | false=>
     have a4:=someb (ifF t rfl)
     subst a4
     exact AWP.rgT [(1,.len Za b),(3,.len Za c),(6,.bool m)]
    | true=>
     have k:=ifT t rfl
     obtain⟨a5,a6,k⟩:=bindb k
     replace k:=someb k
     subst k
     exact AWP.rgT [(1,.len Za b),(3,.len Za c),(6,.bool m),(8,.call Tryz.func174 [] (Zgu false false a5 a6))]
   refine AWP.cif hF (fun a7 hF=>?_) (fun a7 hF=>?_)
   ·refine AWP.seq (AWP.rg0 [] [(10,(vb false))] (AWP.ret ?_))
    have hr:=someb hF
    subst hr
    exact(FnQ.f0 1 (.inr rfl))
   ·refine AWP.skip (AWP.seq (AWP.seq ?_))
    obtain⟨d,a8,hF⟩:=bindb hF
    refine AWP.rg0 [(4,.call Tryz.func191 [] (Zfi a [b,c] d a8)),(5,.len Zc d)] [(0,(i64 a)),(1,(slc 10 Za b)),(2,(slc 10 Za c)),(3,(.sc (.func (.func 174) #[] #[]))),(4,(.ptr 0 0)),(38,(slc 1 Zc d)),(39,(i64 (List.length d:Int))),(40,(i64 (0:Int)))] ?_
    obtain⟨o,a9,hF⟩:=bindb hF
    refine AWP.mid (fun e st H=>(e=.normal∧∃ p,o=(.inl p)∧st=[]∧H=[.cells (Zy p)])∨(e=.ret∧∃ r,o=(.inr r)∧Zhb r e st H)) ?_ ?_
    ·clear hF
     refine AWP.kp [0,1,2,3,4,38,39,40] 1 ?_
     refine AWP.bround (fun n st H=>∃ f,∃ g,Zbx a b c (Z8 nr) d n f g=some o∧st=[(0,(i64 a)),(1,(slc 10 Za b)),(2,(slc 10 Za c)),(3,(.sc (.func (.func 174) #[] #[]))),(4,(.ptr 0 0)),(38,(slc 1 Zc d)),(39,(i64 (List.length d:Int))),(40,(i64 g))]∧H=[.cells (Zy f)]) fuel ⟨j,(0:Int),a9,by kernel_rfl,by kernel_rfl⟩ ?_
     rintro q st H ⟨f,g,hF,rfl,rfl⟩
     cases q with
     | zero=>exact noneb hF
     | succ q=>
      rw [Zbx] at hF
      refine AWP.seq (AWP.rg0 [] [(0,(i64 a)),(1,(slc 10 Za b)),(2,(slc 10 Za c)),(3,(.sc (.func (.func 174) #[] #[]))),(4,(.ptr 0 0)),(38,(slc 1 Zc d)),(39,(i64 (List.length d:Int))),(40,(i64 g)),(41,(vb (decide (g<(List.length d:Int)))))] (AWP.seq ?_))
      refine AWP.cif hF (fun b0 hF=>?_) (fun b0 hF=>?_)
      ·refine AWP.skip (AWP.seq (AWP.block (AWP.seq ?_)))
       obtain⟨i,b1,hF⟩:=bindb hF
       refine AWP.rg0 [(0,.idx Zc b1)] [(0,(i64 a)),(1,(slc 10 Za b)),(2,(slc 10 Za c)),(3,(.sc (.func (.func 174) #[] #[]))),(4,(.ptr 0 0)),(12,(u64 i)),(38,(slc 1 Zc d)),(39,(i64 (List.length d:Int))),(40,(i64 g))] (AWP.seq (AWP.seq ?_))
       obtain⟨u,b2,hF⟩:=bindb hF
       refine AWP.rg0 [(2,.call Tryz.func148 [] (Zof a u b2))] [(0,(i64 a)),(1,(slc 10 Za b)),(2,(slc 10 Za c)),(3,(.sc (.func (.func 174) #[] #[]))),(4,(.ptr 0 0)),(12,(u64 i)),(38,(slc 1 Zc d)),(39,(i64 (List.length d:Int))),(40,(i64 g)),(48,(vb (decide (i > (IntKind.wrap .u64 u)))))] ?_
       refine AWP.cif hF (fun b3 hF=>?_) (fun b3 hF=>?_)
       ·refine AWP.exit (LeQ.start (LeQ.pk [] 1 ?_))
        exact(.inl ⟨rfl,f,(someb hF).symm,by kernel_rfl,by kernel_rfl⟩)
       ·refine AWP.skip (AWP.seq ?_)
        obtain⟨v,hF⟩:=chkb hF
        refine AWP.rg [(5,.ixd v),(6,.stA (fun b4=>Zy (Arr5.set f b4 (IntKind.wrap .u32 i))) 0 1 0 v)] [(0,(i64 a)),(1,(slc 10 Za b)),(2,(slc 10 Za c)),(3,(.sc (.func (.func 174) #[] #[]))),(4,(.ptr 0 0)),(38,(slc 1 Zc d)),(39,(i64 (List.length d:Int))),(40,(i64 g))] [.cells (Zy (Arr5.set f a (IntKind.wrap .u32 i)))] (AWP.seq ?_)
        obtain⟨w,hF⟩:=chkb hF
        obtain⟨x,b5,hF⟩:=bindb hF
        obtain⟨y,hF⟩:=chkb hF
        obtain⟨z,b6,hF⟩:=bindb hF
        obtain⟨l,b7,hF⟩:=bindb hF
        refine AWP.dr [(7,.ixd w),(8,.ldA Zif (Arr5.get (Arr5.set f a (IntKind.wrap .u32 i))) 0 1 0 w),(9,.call Tryz.func192 [] (Za9 b a (Arr5.get (Arr5.set f a (IntKind.wrap .u32 i)) a) x b5)),(15,.ixd y),(16,.ldA Zif (Arr5.get (Arr5.set f a (IntKind.wrap .u32 i))) 0 1 0 y),(17,.call Tryz.func192 [] (Za9 c a (Arr5.get (Arr5.set f a (IntKind.wrap .u32 i)) a) z b6)),(20,.call Tryz.func187 [] (ih (ZI (a + (1:Int))) x z (Arr5.set f a (IntKind.wrap .u32 i)) l b7))] 21 [] [9,17,20] [] [(0,(i64 a)),(1,(slc 10 Za b)),(2,(slc 10 Za c)),(3,(.sc (.func (.func 174) #[] #[]))),(4,(.ptr 0 0)),(38,(slc 1 Zc d)),(39,(i64 (List.length d:Int))),(40,(i64 g)),(75,(vb l.1))] [.cells (Zy l.2)] ?_
        refine AWP.cif hF (fun b8 hF=>?_) (fun b8 hF=>?_)
        ·refine AWP.seq (AWP.rg0 [] [(10,(vb true))] (AWP.ret ?_))
         exact LeQ.of (.inr ⟨rfl,(true,l.2),(someb hF).symm,(FnQ.f0 1 (.inr rfl))⟩)
        ·refine AWP.skip (AWP.rg0 [] [(0,(i64 a)),(1,(slc 10 Za b)),(2,(slc 10 Za c)),(3,(.sc (.func (.func 174) #[] #[]))),(4,(.ptr 0 0)),(38,(slc 1 Zc d)),(39,(i64 (List.length d:Int))),(40,(i64 (ZI (g + (1:Int)))))] (LeQ.start (LeQ.pk [0,1,2,3,4,38,39,40] 1 ?_)))
         exact⟨q,Nat.lt_succ_self _,l.2,(ZI (g + (1:Int))),hF,by kernel_rfl,by kernel_rfl⟩
      ·refine AWP.exit (LeQ.start (LeQ.pk [] 1 ?_))
       exact(.inl ⟨rfl,f,(someb hF).symm,by kernel_rfl,by kernel_rfl⟩)
    ·rintro _ _ _ (⟨rfl,p,rfl,rfl,rfl⟩ | ⟨rfl,b9,rfl,hq⟩)
     ·refine AWP.seq (AWP.rg0 [] [(10,(vb false))] (AWP.ret ?_))
      have hr:=someb hF
      subst hr
      exact(FnQ.f0 1 (.inr rfl))
     ·have hr:=someb hF
      subst hr
      exact hq
theorem Zhc (a:Int) (b:ZL) (c:ZL) (d:(Arr5 Int)) (r:(Bool × (Arr5 Int))) (hF:Z8 fuel a b c d=some r):ACall Tryz.prog glob 187 [(i64 a),(slc 10 Za b),(slc 10 Za c),(.sc (.func (.func 174) #[] #[])),(.ptr 0 0)] [.cells (Zy d)] (Zdh r):=Zgm fuel a b c d r hF
def Zo8 (r:(Arr5 Int)):PV→List Blk→Prop:=fun p K=>p=(Zfc r)∧K=[]
theorem Zo9 (a:Zu) (r:(Arr5 Int)) (hF:Zir a=some r):ACall Tryz.prog glob 200 [(Zd0 a)] [] (Zo8 r):=by
 refine ACall.body Tryz.func200 rfl (by kernel_rfl) ?_
 unfold Zir at hF
 refine AWP.seq (AWP.rg [] [(1,(.ptr 0 0)),(2,(.ptr 1 0))] [.cells (Zp a),.cells (Zy Ziq)] (AWP.seq (AWP.rg [] [(2,(.ptr 1 0))] [.cells (Zp a),.cells (Zy (Arr5.mk a.Src a.Dst (IntKind.wrap .u32 a.Proto) (IntKind.wrap .u32 a.SrcPort) (IntKind.wrap .u32 a.DstPort)))] (AWP.ret ?_))))
 have hr:=someb hF
 subst hr
 exact(FnQ.f0 0 (.inr rfl))
def Zpa (r:Zu):PV→List Blk→Prop:=fun p K=>p=(Zd0 r)∧K=[]
theorem Zpb (a:(Arr5 Int)) (r:Zu) (hF:Zis a=some r):ACall Tryz.prog glob 201 [(Zfc a)] [] (Zpa r):=by
 refine ACall.body Tryz.func201 rfl (by kernel_rfl) ?_
 unfold Zis at hF
 refine AWP.seq (AWP.rg [] [(1,(.ptr 0 0)),(2,(.ptr 1 0))] [.cells (Zy a),.cells (Zp Zag)] (AWP.seq (AWP.rg [] [(2,(.ptr 1 0))] [.cells (Zy a),.cells (Zp (Zu.mk a.x0 a.x1 (IntKind.wrap .u8 a.x2) (IntKind.wrap .u16 a.x3) (IntKind.wrap .u16 a.x4)))] (AWP.ret ?_))))
 have hr:=someb hF
 subst hr
 exact(FnQ.f0 0 (.inr rfl))
def Zqm (r:Zu):PV→List Blk→Prop:=fun p K=>p=(Zd0 r)∧K=[]
theorem Zqn (a:Zu) (c:Int) (b:Int) (r:Zu) (hF:Zj8 a c b=some r):ACall Tryz.prog glob 189 [(Zd0 a),(i64 c),(u32 b)] [] (Zqm r):=by
 refine ACall.body Tryz.func189 rfl (by kernel_rfl) ?_
 unfold Zj8 at hF
 refine AWP.seq (AWP.rg [] [(1,(i64 c)),(2,(u32 b)),(3,(.ptr 0 0)),(6,(.ptr 1 0))] [.cells (Zp a),.cells (Zp Zag)] (AWP.seq (AWP.seq ?_)))
 obtain⟨n,f,hF⟩:=bindb hF
 replace f:=someb f
 obtain⟨o,g,hF⟩:=bindb hF
 replace g:=someb g
 obtain⟨p,j,hF⟩:=bindb hF
 refine AWP.to [(1,(i64 c)),(2,(u32 b)),(3,(.ptr 0 0)),(6,(.ptr 1 0)),(20,(vb p))] [.cells (Zp a),.cells (Zp Zag)] ?_ ?_
 ·cases n with
  | false=>
   cases o with
   | false=>
    have i:=ifF j rfl
    obtain⟨k,i⟩:=chkb i
    replace i:=someb i
    subst i
    exact AWP.rgT [(2,.bool f),(6,.bool g),(9,.ixd k),(10,.ldA Zif (Arr5.get Zdj) 0 1 0 k)]
   | true=>
    have q:=someb (ifT j rfl)
    subst q
    exact AWP.rgT [(2,.bool f),(6,.bool g)]
  | true=>
   subst g
   have s:=someb (ifT j rfl)
   subst s
   exact AWP.rgT [(2,.bool f)]
 refine AWP.cif hF (fun t hF=>?_) (fun t hF=>?_)
 ·refine AWP.seq (AWP.rg [] [(6,(.ptr 1 0))] [.cells (Zp a),.cells (Zp a)] (AWP.ret ?_))
  have hr:=someb hF
  subst hr
  exact(FnQ.f0 0 (.inr rfl))
 ·refine AWP.skip (AWP.seq ?_)
  obtain⟨d,u,hF⟩:=bindb hF
  refine AWP.rg [(1,.call Tryz.func200 [] (Zo9 a d u))] [(1,(i64 c)),(2,(u32 b)),(6,(.ptr 1 0)),(7,(.ptr 2 0))] [.cells (Zp a),.cells (Zp Zag),.cells (Zy d)] (AWP.seq ?_)
  obtain⟨l,hF⟩:=chkb hF
  refine AWP.rg [(2,.ixd l),(3,.stA (fun v=>Zy (Arr5.set d v b)) 0 1 0 l)] [(6,(.ptr 1 0)),(7,(.ptr 2 0))] [.cells (Zp a),.cells (Zp Zag),.cells (Zy (Arr5.set d c b))] (AWP.seq ?_)
  obtain⟨m,w,hF⟩:=bindb hF
  refine AWP.rg [(1,.call Tryz.func201 [] (Zpb (Arr5.set d c b) m w))] [(6,(.ptr 1 0))] [.cells (Zp a),.cells (Zp m),.cells (Zy (Arr5.set d c b))] (AWP.ret ?_)
  have hr:=someb hF
  subst hr
  exact(FnQ.f0 0 (.inr rfl))
def Zhd (r:(Zu × Bool)):PV→List Blk→Prop:=fun p K=>p=(.tup [(Zd0 r.1),(vb r.2)])∧K=[]
theorem Zhe (c:ZL) (d:ZL) (r:(Zu × Bool)) (hF:Zdf c d=some r):ACall Tryz.prog glob 173 [(slc 10 Za c),(slc 10 Za d),(.sc (.func (.func 174) #[] #[]))] [] (Zhd r):=by
 refine ACall.body Tryz.func173 rfl (by kernel_rfl) ?_
 unfold Zdf at hF
 refine AWP.seq (AWP.rg [] [(0,(slc 10 Za c)),(1,(slc 10 Za d)),(2,(.sc (.func (.func 174) #[] #[]))),(6,(.ptr 0 0))] [.cells (Zp Zag)] (AWP.seq (AWP.rg [] [(0,(slc 10 Za c)),(1,(slc 10 Za d)),(2,(.sc (.func (.func 174) #[] #[]))),(6,(.ptr 0 0)),(8,(.ptr 1 0))] [.cells (Zp Zag),.cells (Zy Ziq)] (AWP.seq (AWP.rg [] [(0,(slc 10 Za c)),(1,(slc 10 Za d)),(2,(.sc (.func (.func 174) #[] #[]))),(6,(.ptr 0 0)),(8,(.ptr 1 0)),(9,(.ptr 2 0))] [.cells (Zp Zag),.cells (Zy Ziq),.cells (Zp Zag)] (AWP.seq ?_))))))
 refine AWP.seq ?_
 obtain⟨k,m,hF⟩:=bindb hF
 obtain⟨l,o,hF⟩:=bindb hF
 obtain⟨a,p,hF⟩:=bindb hF
 refine AWP.rg [(1,.call Tryz.func188 [] (Zd5 c k m)),(3,.call Tryz.func188 [] (Zd5 d l o)),(5,.call Tryz.func187 [] (Zhc (0:Int) k l Ziq a p))] [(6,(.ptr 0 0)),(8,(.ptr 1 0)),(9,(.ptr 2 0)),(18,(vb (!a.1)))] [.cells (Zp Zag),.cells (Zy a.2),.cells (Zp Zag)] ?_
 refine AWP.cif hF (fun q hF=>?_) (fun q hF=>?_)
 ·refine AWP.seq (AWP.rg0 [] [(6,(.ptr 0 0)),(7,(vb false))] (AWP.ret ?_))
  have hr:=someb hF
  subst hr
  exact(FnQ.f0 0 (.inr rfl))
 ·refine AWP.skip (AWP.seq (AWP.seq (AWP.rg0 [] [(6,(.ptr 0 0)),(9,(.ptr 2 0)),(20,(Zfc a.2)),(21,(i64 (0:Int)))] ?_)))
  obtain⟨f,s,hF⟩:=bindb hF
  refine AWP.mid (fun e st H=>e=.normal∧st=[(6,(.ptr 0 0)),(9,(.ptr 2 0))]∧H=[.cells (Zp Zag),.cells (Zy a.2),.cells (Zp f)]) ?_ ?_
  ·clear hF
   refine AWP.kp [6,9,20,21] 3 ?_
   refine AWP.bround (fun n st H=>∃ g,∃ b,Zby a n g b=some f∧st=[(6,(.ptr 0 0)),(9,(.ptr 2 0)),(20,(Zfc a.2)),(21,(i64 b))]∧H=[.cells (Zp Zag),.cells (Zy a.2),.cells (Zp g)]) fuel ⟨Zag,(0:Int),s,by kernel_rfl,by kernel_rfl⟩ ?_
   rintro i st H ⟨g,b,hF,rfl,rfl⟩
   cases i with
   | zero=>exact noneb hF
   | succ i=>
    rw [Zby] at hF
    refine AWP.seq (AWP.rg0 [] [(6,(.ptr 0 0)),(9,(.ptr 2 0)),(20,(Zfc a.2)),(21,(i64 b)),(22,(vb (decide (b<(5:Int)))))] (AWP.seq ?_))
    refine AWP.cif hF (fun t hF=>?_) (fun t hF=>?_)
    ·refine AWP.skip (AWP.seq (AWP.block (AWP.seq ?_)))
     obtain⟨u,hF⟩:=chkb hF
     refine AWP.rg0 [(1,.ixA Zif (Arr5.get a.2) u)] [(6,(.ptr 0 0)),(9,(.ptr 2 0)),(10,(i64 b)),(11,(u32 (Arr5.get a.2 b))),(20,(Zfc a.2)),(21,(i64 b))] ?_
     obtain⟨j,v,hF⟩:=bindb hF
     refine AWP.rg [(3,.call Tryz.func189 [] (Zqn g b (Arr5.get a.2 b) j v))] [(6,(.ptr 0 0)),(9,(.ptr 2 0)),(20,(Zfc a.2)),(21,(i64 b))] [.cells (Zp Zag),.cells (Zy a.2),.cells (Zp j)] (AWP.rg0 [] [(6,(.ptr 0 0)),(9,(.ptr 2 0)),(20,(Zfc a.2)),(21,(i64 (ZI (b + (1:Int)))))] (LeQ.start (LeQ.pk [6,9,20,21] 3 ?_)))
     exact⟨i,Nat.lt_succ_self _,j,(ZI (b + (1:Int))),hF,by kernel_rfl,by kernel_rfl⟩
    ·refine AWP.exit (LeQ.start (LeQ.pk [6,9] 3 ?_))
     have hr:=someb hF
     subst hr
     exact⟨rfl,by kernel_rfl,by kernel_rfl⟩
  ·rintro _ _ _ ⟨rfl,rfl,rfl⟩
   refine AWP.seq (AWP.rg [] [(6,(.ptr 0 0)),(7,(vb true))] [.cells (Zp f),.cells (Zy a.2),.cells (Zp f)] (AWP.ret ?_))
   have hr:=someb hF
   subst hr
   exact(FnQ.f0 0 (.inr rfl))
def Zk0 (r:(Zu × Bool)):PV→List Blk→Prop:=fun p K=>p=(.tup [(Zd0 r.1),(vb r.2)])∧K=[]
theorem Zk1 (a:ZL) (b:ZL) (r:(Zu × Bool)) (hF:Zfu a b=some r):ACall Tryz.prog glob 164 [(slc 10 Za a),(slc 10 Za b)] [] (Zk0 r):=by
 refine ACall.body Tryz.func164 rfl (by kernel_rfl) ?_
 unfold Zfu at hF
 refine AWP.seq (AWP.rg [] [(0,(slc 10 Za a)),(1,(slc 10 Za b)),(4,(.ptr 0 0))] [.cells (Zp Zag)] (AWP.seq ?_))
 obtain⟨c,d,hF⟩:=bindb hF
 refine AWP.rg [(2,.call Tryz.func173 [] (Zhe a b c d))] [(4,(.ptr 0 0)),(5,(vb c.2))] [.cells (Zp c.1)] (AWP.ret ?_)
 have hr:=someb hF
 subst hr
 exact(FnQ.f0 0 (.inr rfl))
end Go.AM
set_option maxRecDepth 1000000
namespace Go.AM
open Go Go.Proofs
def decBox:List PV→Option (Arr5 Zb)
 | [.sc (.int .u32 a),.sc (.int .u32 b),.sc (.int .u32 c),.sc (.int .u32 d),.sc (.int .u32 e),.sc (.int .u32 f),.sc (.int .u32 g),.sc (.int .u32 h),.sc (.int .u32 i),.sc (.int .u32 j)]=>some (.mk ⟨a,b⟩ ⟨c,d⟩ ⟨e,f⟩ ⟨g,h⟩ ⟨i,j⟩)
 | _=>none
theorem Zje:∀ x a,decBox x=some a→x=Za a:=by
 intro x a h
 unfold decBox at h
 split at h
 ·simp only [Option.some.injEq] at h
  subst h; rfl
 ·cases h
def encDiffer (r:Zu × Bool):PV:=.tup [Zd0 r.1,vb r.2]
def encSet (r:List (Arr5 Zb) × Int):PV:=.tup [slc 10 Za r.1,i64 r.2]
noncomputable section
def Y1:List PV:=[.sl 5 [[.sc (.string (ByteArray.mk #[114])),.sc (.int .i64 100),.sc (.bool false),.sc (.bool false),.sc (.string (ByteArray.mk #[]))],[.sc (.string (ByteArray.mk #[115])),.sc (.int .i64 100),.sc (.bool false),.sc (.bool false),.sc (.string (ByteArray.mk #[]))]],.sl 3 [[.sc (.int .i64 0),.sc (.int .i64 1),.sc (.int .i64 1)]],.sl 6 [[.sc (.string (ByteArray.mk #[97])),.sc (.int .i64 0),.sc (.string (ByteArray.mk #[122])),.sc (.int .u32 167772160),.sc (.int .i64 24),.sc (.bool false)],[.sc (.string (ByteArray.mk #[98])),.sc (.int .i64 1),.sc (.string (ByteArray.mk #[122])),.sc (.int .u32 167772416),.sc (.int .i64 24),.sc (.bool false)]],.sc (.slice none 0 0),.sc (.int .i64 0)]
def Y2:List (List PV):=[[.sc (.int .u32 0),.sc (.int .u32 4294967295),.sc (.int .u32 0),.sc (.int .u32 4294967295),.sc (.int .u32 0),.sc (.int .u32 255),.sc (.int .u32 0),.sc (.int .u32 65535),.sc (.int .u32 0),.sc (.int .u32 65535),.sc (.bool true)]]
def Y3:List PV:=[.sc (.agg #[.int .u32 0,.int .u32 0,.int .u32 0,.int .u32 0,.int .u32 0,.int .u32 0,.int .u32 0,.int .u32 0,.int .u32 0,.int .u32 0]),.sc (.bool false)]
def Y4:List (List PV):=[[.sc (.int .u32 167772160),.sc (.int .u32 167772415),.sc (.int .u32 167772416),.sc (.int .u32 167772671),.sc (.int .u32 0),.sc (.int .u32 0),.sc (.int .u32 0),.sc (.int .u32 0),.sc (.int .u32 0),.sc (.int .u32 0)],[.sc (.int .u32 167772160),.sc (.int .u32 167772415),.sc (.int .u32 167772416),.sc (.int .u32 167772671),.sc (.int .u32 1),.sc (.int .u32 1),.sc (.int .u32 0),.sc (.int .u32 7),.sc (.int .u32 8),.sc (.int .u32 8)],[.sc (.int .u32 167772160),.sc (.int .u32 167772415),.sc (.int .u32 167772416),.sc (.int .u32 167772671),.sc (.int .u32 1),.sc (.int .u32 1),.sc (.int .u32 9),.sc (.int .u32 65535),.sc (.int .u32 8),.sc (.int .u32 8)],[.sc (.int .u32 167772160),.sc (.int .u32 167772415),.sc (.int .u32 167772416),.sc (.int .u32 167772671),.sc (.int .u32 2),.sc (.int .u32 5),.sc (.int .u32 0),.sc (.int .u32 0),.sc (.int .u32 0),.sc (.int .u32 0)],[.sc (.int .u32 167772160),.sc (.int .u32 167772415),.sc (.int .u32 167772416),.sc (.int .u32 167772671),.sc (.int .u32 6),.sc (.int .u32 6),.sc (.int .u32 0),.sc (.int .u32 65535),.sc (.int .u32 0),.sc (.int .u32 65535)],[.sc (.int .u32 167772160),.sc (.int .u32 167772415),.sc (.int .u32 167772416),.sc (.int .u32 167772671),.sc (.int .u32 7),.sc (.int .u32 16),.sc (.int .u32 0),.sc (.int .u32 0),.sc (.int .u32 0),.sc (.int .u32 0)],[.sc (.int .u32 167772160),.sc (.int .u32 167772415),.sc (.int .u32 167772416),.sc (.int .u32 167772671),.sc (.int .u32 17),.sc (.int .u32 17),.sc (.int .u32 0),.sc (.int .u32 65535),.sc (.int .u32 0),.sc (.int .u32 65535)],[.sc (.int .u32 167772160),.sc (.int .u32 167772415),.sc (.int .u32 167772416),.sc (.int .u32 167772671),.sc (.int .u32 18),.sc (.int .u32 255),.sc (.int .u32 0),.sc (.int .u32 0),.sc (.int .u32 0),.sc (.int .u32 0)]]
def Y5:List (List PV):=[[.sl 6 [[.sc (.int .i64 0),.sc (.slice none 0 0),.sc (.slice none 0 0),.sc (.slice none 0 0),.sc (.slice none 0 0),.sc (.slice none 0 0)]]],[.sl 6 [[.sc (.int .i64 1),.sc (.slice none 0 0),.sc (.slice none 0 0),.sc (.slice none 0 0),.sc (.slice none 0 0),.sc (.slice none 0 0)]]]]
def Y6:List (List PV):=[[.sl 6 [[.sc (.int .i64 0),.sl 11 Y2,.sc (.slice none 0 0),.sc (.slice none 0 0),.sc (.slice none 0 0),.sc (.slice none 0 0)]]],[.sl 6 [[.sc (.int .i64 1),.sc (.slice none 0 0),.sl 11 Y2,.sc (.slice none 0 0),.sc (.slice none 0 0),.sc (.slice none 0 0)]]]]
def Y7:Value:=(.agg #[.int .u32 167772160,.int .u32 167772415,.int .u32 167772416,.int .u32 167772671,.int .u32 17,.int .u32 17,.int .u32 0,.int .u32 65535,.int .u32 0,.int .u32 65535])
def Y8:Value:=(.agg #[.int .u32 167772160,.int .u32 167772415,.int .u32 167772416,.int .u32 167772671,.int .u32 6,.int .u32 6,.int .u32 0,.int .u32 65535,.int .u32 0,.int .u32 65535])
def Y9:Value:=(.agg #[.int .u32 167772160,.int .u32 167772415,.int .u32 167772416,.int .u32 167772671,.int .u32 1,.int .u32 1,.int .u32 9,.int .u32 65535,.int .u32 8,.int .u32 8])
def Y10:Value:=(.agg #[.int .u32 167772160,.int .u32 167772415,.int .u32 167772416,.int .u32 167772671,.int .u32 18,.int .u32 255,.int .u32 0,.int .u32 0,.int .u32 0,.int .u32 0])
def Y11:Value:=(.agg #[.int .u32 167772160,.int .u32 167772415,.int .u32 167772416,.int .u32 167772671,.int .u32 7,.int .u32 16,.int .u32 0,.int .u32 0,.int .u32 0,.int .u32 0])
def Y12:Value:=(.agg #[.int .u32 167772160,.int .u32 167772415,.int .u32 167772416,.int .u32 167772671,.int .u32 0,.int .u32 0,.int .u32 0,.int .u32 0,.int .u32 0,.int .u32 0])
def Y13:Value:=(.agg #[.int .u32 167772160,.int .u32 167772415,.int .u32 167772416,.int .u32 167772671,.int .u32 1,.int .u32 1,.int .u32 0,.int .u32 7,.int .u32 8,.int .u32 8])
def Y14:Value:=(.agg #[.int .u32 167772160,.int .u32 167772415,.int .u32 167772416,.int .u32 167772671,.int .u32 2,.int .u32 5,.int .u32 0,.int .u32 0,.int .u32 0,.int .u32 0])
def Y15:List PV:=[.sc (.agg #[.int .i64 0,.slice none 0 0,.slice none 0 0,.int .i64 0,.int .i64 0,.int .u32 0,.int .u32 0,.int .u8 0,.int .u16 0,.int .u16 0,.string (ByteArray.mk #[])]),.sc (.bool false),.sc (.int .i64 0)]
def Y16:List PV:=[.sc (.int .i64 0),.sl 11 Y2,.sl 11 [],.sl 20 [],.sl 13 [],.sl 11 []]
def Y17:List PV:=[.sc (.int .i64 1),.sl 11 [],.sl 11 Y2,.sl 20 [],.sl 13 [],.sl 11 []]
def Y18:List PV:=[.sc (.int .i64 0),.sl 11 [],.sl 11 [],.sl 20 [],.sl 13 [],.sl 11 []]
def Y19:List PV:=[.sc (.int .i64 1),.sl 11 [],.sl 11 [],.sl 20 [],.sl 13 [],.sl 11 []]
def Y20:List PV:=[.sc (.slice none 0 0),.sc (.int .i64 0)]
def Y21:Value:=(.agg #[.bool true,.bool false,.bool false,.bool true,.bool false,.bool false,.bool false,.bool false,.bool false,.bool false,.bool false,.bool false,.bool true,.bool false,.bool false,.bool true])
def T0:Tab:=[]
def E0:Eval:=hookx (hookF2 Tryz.prog 164 10 decBox Zfu encDiffer) (hookx (hookF2 Tryz.prog 149 10 decBox Ze8 encSet) (hookx (hookF2 Tryz.prog 116 10 decBox Zgb encSet) (hookx (hookF2 Tryz.prog 157 10 decBox Zfh encSet) (hookx (sortKx Tryz.prog 119 160 9) (hookx (sortKx Tryz.prog 119 166 9) (hookx (valsx Tryz.prog 40 29 3) (noE)))))))
def T1:Tab:=(49,[.agg Y1],.sc (.bool true)) :: T0
def T2:Tab:=(35,[.agg Y1,.sl 1 Y5],.sc (.bool true)) :: T1
def T3:Tab:=(35,[.agg Y1,.sl 1 Y6],.sc (.bool true)) :: T2
def T4:Tab:=(111,[],.sl 10 [[.sc (.int .u32 0),.sc (.int .u32 4294967295),.sc (.int .u32 0),.sc (.int .u32 4294967295),.sc (.int .u32 0),.sc (.int .u32 0),.sc (.int .u32 0),.sc (.int .u32 0),.sc (.int .u32 0),.sc (.int .u32 0)],[.sc (.int .u32 0),.sc (.int .u32 4294967295),.sc (.int .u32 0),.sc (.int .u32 4294967295),.sc (.int .u32 1),.sc (.int .u32 1),.sc (.int .u32 0),.sc (.int .u32 7),.sc (.int .u32 8),.sc (.int .u32 8)],[.sc (.int .u32 0),.sc (.int .u32 4294967295),.sc (.int .u32 0),.sc (.int .u32 4294967295),.sc (.int .u32 1),.sc (.int .u32 1),.sc (.int .u32 9),.sc (.int .u32 65535),.sc (.int .u32 8),.sc (.int .u32 8)],[.sc (.int .u32 0),.sc (.int .u32 4294967295),.sc (.int .u32 0),.sc (.int .u32 4294967295),.sc (.int .u32 2),.sc (.int .u32 5),.sc (.int .u32 0),.sc (.int .u32 0),.sc (.int .u32 0),.sc (.int .u32 0)],[.sc (.int .u32 0),.sc (.int .u32 4294967295),.sc (.int .u32 0),.sc (.int .u32 4294967295),.sc (.int .u32 6),.sc (.int .u32 6),.sc (.int .u32 0),.sc (.int .u32 65535),.sc (.int .u32 0),.sc (.int .u32 65535)],[.sc (.int .u32 0),.sc (.int .u32 4294967295),.sc (.int .u32 0),.sc (.int .u32 4294967295),.sc (.int .u32 7),.sc (.int .u32 16),.sc (.int .u32 0),.sc (.int .u32 0),.sc (.int .u32 0),.sc (.int .u32 0)],[.sc (.int .u32 0),.sc (.int .u32 4294967295),.sc (.int .u32 0),.sc (.int .u32 4294967295),.sc (.int .u32 17),.sc (.int .u32 17),.sc (.int .u32 0),.sc (.int .u32 65535),.sc (.int .u32 0),.sc (.int .u32 65535)],[.sc (.int .u32 0),.sc (.int .u32 4294967295),.sc (.int .u32 0),.sc (.int .u32 4294967295),.sc (.int .u32 18),.sc (.int .u32 255),.sc (.int .u32 0),.sc (.int .u32 0),.sc (.int .u32 0),.sc (.int .u32 0)]]) :: T3
def T5:Tab:=(71,[.agg Y1,.agg Y18,.agg Y19],.tup Y20) :: T4
def T6:Tab:=(109,[.agg Y1,.agg Y16,.agg Y17],.sc (.int .i64 0)) :: T5
def T7:Tab:=(71,[.agg Y1,.agg Y16,.agg Y17],.tup [.sl 2 [[.sc (.string (ByteArray.mk #[])),.sl 10 Y4]],.sc (.int .i64 0)]) :: T6
def T8:Tab:=(71,[.agg Y1,.agg Y16,.agg Y19],.tup Y20) :: T7
def T9:Tab:=(55,[.agg Y1,.sl 1 Y5,.sl 1 Y6,.agg Y16,.agg Y19],.tup Y15) :: T8
def T10:Tab:=(71,[.agg Y1,.agg Y19,.agg Y18],.tup Y20) :: T9
def T11:Tab:=(71,[.agg Y1,.agg Y17,.agg Y16],.tup Y20) :: T10
def T12:Tab:=(71,[.agg Y1,.agg Y19,.agg Y16],.tup Y20) :: T11
def T13:Tab:=(55,[.agg Y1,.sl 1 Y5,.sl 1 Y6,.agg Y19,.agg Y16],.tup Y15) :: T12
def T14:Tab:=(44,[.agg Y1,.sl 1 Y5,.sl 1 Y6,.sc (.int .i64 0),.sc (.int .i64 1)],.tup [.sc (.bool false),.sc (.int .i64 0)]) :: T13
def T15:Tab:=(71,[.agg Y1,.agg Y18,.agg Y17],.tup Y20) :: T14
def T16:Tab:=(55,[.agg Y1,.sl 1 Y5,.sl 1 Y6,.agg Y18,.agg Y17],.tup Y15) :: T15
def T17:Tab:=(71,[.agg Y1,.agg Y17,.agg Y18],.tup Y20) :: T16
def T18:Tab:=(55,[.agg Y1,.sl 1 Y5,.sl 1 Y6,.agg Y17,.agg Y18],.tup Y15) :: T17
def T19:Tab:=(44,[.agg Y1,.sl 1 Y5,.sl 1 Y6,.sc (.int .i64 1),.sc (.int .i64 0)],.tup [.sc (.bool false),.sc (.int .i64 0)]) :: T18
def T20:Tab:=(55,[.agg Y1,.sl 1 Y5,.sl 1 Y6,.agg Y18,.agg Y19],.tup Y15) :: T19
def T21:Tab:=(132,[.sc Y12,.sc Y12],.tup [.sc Y12,.sc (.bool true)]) :: T20
def T22:Tab:=(132,[.sc Y12,.sc Y13],.tup Y3) :: T21
def T23:Tab:=(132,[.sc Y12,.sc Y9],.tup Y3) :: T22
def T24:Tab:=(132,[.sc Y12,.sc Y14],.tup Y3) :: T23
def T25:Tab:=(132,[.sc Y12,.sc Y8],.tup Y3) :: T24
def T26:Tab:=(132,[.sc Y12,.sc Y11],.tup Y3) :: T25
def T27:Tab:=(132,[.sc Y12,.sc Y7],.tup Y3) :: T26
def T28:Tab:=(132,[.sc Y12,.sc Y10],.tup Y3) :: T27
def T29:Tab:=(132,[.sc Y13,.sc Y12],.tup Y3) :: T28
def T30:Tab:=(132,[.sc Y13,.sc Y13],.tup [.sc Y13,.sc (.bool true)]) :: T29
def T31:Tab:=(132,[.sc Y13,.sc Y9],.tup Y3) :: T30
def T32:Tab:=(132,[.sc Y13,.sc Y14],.tup Y3) :: T31
def T33:Tab:=(132,[.sc Y13,.sc Y8],.tup Y3) :: T32
def T34:Tab:=(132,[.sc Y13,.sc Y11],.tup Y3) :: T33
def T35:Tab:=(132,[.sc Y13,.sc Y7],.tup Y3) :: T34
def T36:Tab:=(132,[.sc Y13,.sc Y10],.tup Y3) :: T35
def T37:Tab:=(132,[.sc Y9,.sc Y12],.tup Y3) :: T36
def T38:Tab:=(132,[.sc Y9,.sc Y13],.tup Y3) :: T37
def T39:Tab:=(132,[.sc Y9,.sc Y9],.tup [.sc Y9,.sc (.bool true)]) :: T38
def T40:Tab:=(132,[.sc Y9,.sc Y14],.tup Y3) :: T39
def T41:Tab:=(132,[.sc Y9,.sc Y8],.tup Y3) :: T40
def T42:Tab:=(132,[.sc Y9,.sc Y11],.tup Y3) :: T41
def T43:Tab:=(132,[.sc Y9,.sc Y7],.tup Y3) :: T42
def T44:Tab:=(132,[.sc Y9,.sc Y10],.tup Y3) :: T43
def T45:Tab:=(132,[.sc Y14,.sc Y12],.tup Y3) :: T44
def T46:Tab:=(132,[.sc Y14,.sc Y13],.tup Y3) :: T45
def T47:Tab:=(132,[.sc Y14,.sc Y9],.tup Y3) :: T46
def T48:Tab:=(132,[.sc Y14,.sc Y14],.tup [.sc Y14,.sc (.bool true)]) :: T47
def T49:Tab:=(132,[.sc Y14,.sc Y8],.tup Y3) :: T48
def T50:Tab:=(132,[.sc Y14,.sc Y11],.tup Y3) :: T49
def T51:Tab:=(132,[.sc Y14,.sc Y7],.tup Y3) :: T50
def T52:Tab:=(132,[.sc Y14,.sc Y10],.tup Y3) :: T51
def T53:Tab:=(132,[.sc Y8,.sc Y12],.tup Y3) :: T52
def T54:Tab:=(132,[.sc Y8,.sc Y13],.tup Y3) :: T53
def T55:Tab:=(132,[.sc Y8,.sc Y9],.tup Y3) :: T54
def T56:Tab:=(132,[.sc Y8,.sc Y14],.tup Y3) :: T55
def T57:Tab:=(132,[.sc Y8,.sc Y8],.tup [.sc Y8,.sc (.bool true)]) :: T56
def T58:Tab:=(132,[.sc Y8,.sc Y11],.tup Y3) :: T57
def T59:Tab:=(132,[.sc Y8,.sc Y7],.tup Y3) :: T58
def T60:Tab:=(132,[.sc Y8,.sc Y10],.tup Y3) :: T59
def T61:Tab:=(132,[.sc Y11,.sc Y12],.tup Y3) :: T60
def T62:Tab:=(132,[.sc Y11,.sc Y13],.tup Y3) :: T61
def T63:Tab:=(132,[.sc Y11,.sc Y9],.tup Y3) :: T62
def T64:Tab:=(132,[.sc Y11,.sc Y14],.tup Y3) :: T63
def T65:Tab:=(132,[.sc Y11,.sc Y8],.tup Y3) :: T64
def T66:Tab:=(132,[.sc Y11,.sc Y11],.tup [.sc Y11,.sc (.bool true)]) :: T65
def T67:Tab:=(132,[.sc Y11,.sc Y7],.tup Y3) :: T66
def T68:Tab:=(132,[.sc Y11,.sc Y10],.tup Y3) :: T67
def T69:Tab:=(132,[.sc Y7,.sc Y12],.tup Y3) :: T68
def T70:Tab:=(132,[.sc Y7,.sc Y13],.tup Y3) :: T69
def T71:Tab:=(132,[.sc Y7,.sc Y9],.tup Y3) :: T70
def T72:Tab:=(132,[.sc Y7,.sc Y14],.tup Y3) :: T71
def T73:Tab:=(132,[.sc Y7,.sc Y8],.tup Y3) :: T72
def T74:Tab:=(132,[.sc Y7,.sc Y11],.tup Y3) :: T73
def T75:Tab:=(132,[.sc Y7,.sc Y7],.tup [.sc Y7,.sc (.bool true)]) :: T74
def T76:Tab:=(132,[.sc Y7,.sc Y10],.tup Y3) :: T75
def T77:Tab:=(132,[.sc Y10,.sc Y12],.tup Y3) :: T76
def T78:Tab:=(132,[.sc Y10,.sc Y13],.tup Y3) :: T77
def T79:Tab:=(132,[.sc Y10,.sc Y9],.tup Y3) :: T78
def T80:Tab:=(132,[.sc Y10,.sc Y14],.tup Y3) :: T79
def T81:Tab:=(132,[.sc Y10,.sc Y8],.tup Y3) :: T80
def T82:Tab:=(132,[.sc Y10,.sc Y11],.tup Y3) :: T81
def T83:Tab:=(132,[.sc Y10,.sc Y7],.tup Y3) :: T82
def T84:Tab:=(132,[.sc Y10,.sc Y10],.tup [.sc Y10,.sc (.bool true)]) :: T83
def T85:Tab:=(140,[.sl 10 Y4,.sl 10 Y4],.sl 10 Y4) :: T84
def T86:Tab:=(55,[.agg Y1,.sl 1 Y5,.sl 1 Y6,.agg Y16,.agg Y17],.tup Y15) :: T85
def T87:Tab:=(36,[.agg Y1,.sl 1 [[.sl 1 Y5],[.sc (.slice none 0 0)],[.sc (.slice none 0 0)],[.sl 1 Y6]],.sc (.int .i64 0),.sc (.int .i64 1),.sc Y21],.tup [.sc (.bool true),.sc (.int .i64 0)]) :: T86
def T88:Tab:=(55,[.agg Y1,.sl 1 Y5,.sl 1 Y6,.agg Y19,.agg Y18],.tup Y15) :: T87
def T89:Tab:=(55,[.agg Y1,.sl 1 Y5,.sl 1 Y6,.agg Y17,.agg Y16],.tup Y15) :: T88
def T90:Tab:=(36,[.agg Y1,.sl 1 [[.sl 1 Y5],[.sc (.slice none 0 0)],[.sc (.slice none 0 0)],[.sl 1 Y6]],.sc (.int .i64 1),.sc (.int .i64 0),.sc Y21],.tup [.sc (.bool true),.sc (.int .i64 0)]) :: T89
def T91:Tab:=(22,[.agg Y1,.sl 1 Y5,.sl 1 Y6,.agg [.sc (.bool false),.sl 1 [[.sl 2 [[.sc (.int .i64 0),.sc (.int .i64 3)],[.sc (.int .i64 1),.sc (.int .i64 3)]]]]]],.tup [.sc (.bool true),.sc (.int .i64 0)]) :: T90
def T92:Tab:=(22,[.agg Y1,.sl 1 Y5,.sl 1 Y6,.sc (.agg #[.bool false,.slice none 0 0])],.tup [.sc (.bool false),.sc (.int .i64 0)]) :: T91
def T93:Tab:=(9,[],.sc (.bool true)) :: T92
theorem T0_ok:T0.ok Tryz.prog glob:=Tab.nil
theorem E0_ok:E0.ok Tryz.prog glob:=Zfs (Zja Zje fun a b r h=>Zk1 a b r h) (Zfs (Zja Zje fun a b r h=>Zjr a b r h) (Zfs (Zja Zje fun a b r h=>Zlj a b r h) (Zfs (Zja Zje fun a b r h=>Zkb a b r h) (Zfs (Zoe rfl Zqk) (Zfs (Zoe rfl Zql) (Zfs (Zrx rfl Zry) (noE_ok)))))))
end
end Go.AM
set_option maxRecDepth 1000000
namespace Go.AM
open Go Go.Proofs
theorem T5_s (T4_ok:T4.ok Tryz.prog glob):T5.ok Tryz.prog glob:=Tab.consH T4_ok E0_ok 100000 (by kernel_rfl)
theorem T15_s (T14_ok:T14.ok Tryz.prog glob):T15.ok Tryz.prog glob:=Tab.consH T14_ok E0_ok 100000 (by kernel_rfl)
theorem T17_s (T16_ok:T16.ok Tryz.prog glob):T17.ok Tryz.prog glob:=Tab.consH T16_ok E0_ok 100000 (by kernel_rfl)
theorem T18_s (T17_ok:T17.ok Tryz.prog glob):T18.ok Tryz.prog glob:=Tab.consH T17_ok E0_ok 100000 (by kernel_rfl)
theorem T20_s (T19_ok:T19.ok Tryz.prog glob):T20.ok Tryz.prog glob:=Tab.consH T19_ok E0_ok 100000 (by kernel_rfl)
theorem T21_s (T20_ok:T20.ok Tryz.prog glob):T21.ok Tryz.prog glob:=Tab.consH T20_ok E0_ok 100000 (by kernel_rfl)
theorem T25_s (T24_ok:T24.ok Tryz.prog glob):T25.ok Tryz.prog glob:=Tab.consH T24_ok E0_ok 100000 (by kernel_rfl)
theorem T29_s (T28_ok:T28.ok Tryz.prog glob):T29.ok Tryz.prog glob:=Tab.consH T28_ok E0_ok 100000 (by kernel_rfl)
theorem T31_s (T30_ok:T30.ok Tryz.prog glob):T31.ok Tryz.prog glob:=Tab.consH T30_ok E0_ok 100000 (by kernel_rfl)
theorem T35_s (T34_ok:T34.ok Tryz.prog glob):T35.ok Tryz.prog glob:=Tab.consH T34_ok E0_ok 100000 (by kernel_rfl)
theorem T41_s (T40_ok:T40.ok Tryz.prog glob):T41.ok Tryz.prog glob:=Tab.consH T40_ok E0_ok 100000 (by kernel_rfl)
theorem T45_s (T44_ok:T44.ok Tryz.prog glob):T45.ok Tryz.prog glob:=Tab.consH T44_ok E0_ok 100000 (by kernel_rfl)
theorem T50_s (T49_ok:T49.ok Tryz.prog glob):T50.ok Tryz.prog glob:=Tab.consH T49_ok E0_ok 100000 (by kernel_rfl)
theorem T54_s (T53_ok:T53.ok Tryz.prog glob):T54.ok Tryz.prog glob:=Tab.consH T53_ok E0_ok 100000 (by kernel_rfl)
theorem T57_s (T56_ok:T56.ok Tryz.prog glob):T57.ok Tryz.prog glob:=Tab.consH T56_ok E0_ok 100000 (by kernel_rfl)
theorem T59_s (T58_ok:T58.ok Tryz.prog glob):T59.ok Tryz.prog glob:=Tab.consH T58_ok E0_ok 100000 (by kernel_rfl)
theorem T63_s (T62_ok:T62.ok Tryz.prog glob):T63.ok Tryz.prog glob:=Tab.consH T62_ok E0_ok 100000 (by kernel_rfl)
theorem T68_s (T67_ok:T67.ok Tryz.prog glob):T68.ok Tryz.prog glob:=Tab.consH T67_ok E0_ok 100000 (by kernel_rfl)
theorem T72_s (T71_ok:T71.ok Tryz.prog glob):T72.ok Tryz.prog glob:=Tab.consH T71_ok E0_ok 100000 (by kernel_rfl)
theorem T77_s (T76_ok:T76.ok Tryz.prog glob):T77.ok Tryz.prog glob:=Tab.consH T76_ok E0_ok 100000 (by kernel_rfl)
theorem T81_s (T80_ok:T80.ok Tryz.prog glob):T81.ok Tryz.prog glob:=Tab.consH T80_ok E0_ok 100000 (by kernel_rfl)
theorem T90_s (T89_ok:T89.ok Tryz.prog glob):T90.ok Tryz.prog glob:=Tab.consH T89_ok E0_ok 100000 (by kernel_rfl)
theorem T92_s (T91_ok:T91.ok Tryz.prog glob):T92.ok Tryz.prog glob:=Tab.consH T91_ok E0_ok 100000 (by kernel_rfl)
end Go.AM
set_option maxRecDepth 1000000
namespace Go.AM
open Go Go.Proofs
theorem T3_s (T2_ok:T2.ok Tryz.prog glob):T3.ok Tryz.prog glob:=Tab.consH T2_ok E0_ok 100000 (by kernel_rfl)
theorem T8_s (T7_ok:T7.ok Tryz.prog glob):T8.ok Tryz.prog glob:=Tab.consH T7_ok E0_ok 100000 (by kernel_rfl)
theorem T11_s (T10_ok:T10.ok Tryz.prog glob):T11.ok Tryz.prog glob:=Tab.consH T10_ok E0_ok 100000 (by kernel_rfl)
theorem T22_s (T21_ok:T21.ok Tryz.prog glob):T22.ok Tryz.prog glob:=Tab.consH T21_ok E0_ok 100000 (by kernel_rfl)
theorem T26_s (T25_ok:T25.ok Tryz.prog glob):T26.ok Tryz.prog glob:=Tab.consH T25_ok E0_ok 100000 (by kernel_rfl)
theorem T30_s (T29_ok:T29.ok Tryz.prog glob):T30.ok Tryz.prog glob:=Tab.consH T29_ok E0_ok 100000 (by kernel_rfl)
theorem T32_s (T31_ok:T31.ok Tryz.prog glob):T32.ok Tryz.prog glob:=Tab.consH T31_ok E0_ok 100000 (by kernel_rfl)
theorem T36_s (T35_ok:T35.ok Tryz.prog glob):T36.ok Tryz.prog glob:=Tab.consH T35_ok E0_ok 100000 (by kernel_rfl)
theorem T38_s (T37_ok:T37.ok Tryz.prog glob):T38.ok Tryz.prog glob:=Tab.consH T37_ok E0_ok 100000 (by kernel_rfl)
theorem T42_s (T41_ok:T41.ok Tryz.prog glob):T42.ok Tryz.prog glob:=Tab.consH T41_ok E0_ok 100000 (by kernel_rfl)
theorem T46_s (T45_ok:T45.ok Tryz.prog glob):T46.ok Tryz.prog glob:=Tab.consH T45_ok E0_ok 100000 (by kernel_rfl)
theorem T51_s (T50_ok:T50.ok Tryz.prog glob):T51.ok Tryz.prog glob:=Tab.consH T50_ok E0_ok 100000 (by kernel_rfl)
theorem T55_s (T54_ok:T54.ok Tryz.prog glob):T55.ok Tryz.prog glob:=Tab.consH T54_ok E0_ok 100000 (by kernel_rfl)
theorem T60_s (T59_ok:T59.ok Tryz.prog glob):T60.ok Tryz.prog glob:=Tab.consH T59_ok E0_ok 100000 (by kernel_rfl)
theorem T64_s (T63_ok:T63.ok Tryz.prog glob):T64.ok Tryz.prog glob:=Tab.consH T63_ok E0_ok 100000 (by kernel_rfl)
theorem T66_s (T65_ok:T65.ok Tryz.prog glob):T66.ok Tryz.prog glob:=Tab.consH T65_ok E0_ok 100000 (by kernel_rfl)
theorem T69_s (T68_ok:T68.ok Tryz.prog glob):T69.ok Tryz.prog glob:=Tab.consH T68_ok E0_ok 100000 (by kernel_rfl)
theorem T73_s (T72_ok:T72.ok Tryz.prog glob):T73.ok Tryz.prog glob:=Tab.consH T72_ok E0_ok 100000 (by kernel_rfl)
theorem T78_s (T77_ok:T77.ok Tryz.prog glob):T78.ok Tryz.prog glob:=Tab.consH T77_ok E0_ok 100000 (by kernel_rfl)
theorem T82_s (T81_ok:T81.ok Tryz.prog glob):T82.ok Tryz.prog glob:=Tab.consH T81_ok E0_ok 100000 (by kernel_rfl)
theorem T86_s (T85_ok:T85.ok Tryz.prog glob):T86.ok Tryz.prog glob:=Tab.consH T85_ok E0_ok 100000 (by kernel_rfl)
theorem T87_s (T86_ok:T86.ok Tryz.prog glob):T87.ok Tryz.prog glob:=Tab.consH T86_ok E0_ok 100000 (by kernel_rfl)
theorem T88_s (T87_ok:T87.ok Tryz.prog glob):T88.ok Tryz.prog glob:=Tab.consH T87_ok E0_ok 100000 (by kernel_rfl)
end Go.AM
set_option maxRecDepth 1000000
namespace Go.AM
open Go Go.Proofs
theorem T7_s (T6_ok:T6.ok Tryz.prog glob):T7.ok Tryz.prog glob:=Tab.consH T6_ok E0_ok 100000 (by kernel_rfl)
theorem T9_s (T8_ok:T8.ok Tryz.prog glob):T9.ok Tryz.prog glob:=Tab.consH T8_ok E0_ok 100000 (by kernel_rfl)
theorem T10_s (T9_ok:T9.ok Tryz.prog glob):T10.ok Tryz.prog glob:=Tab.consH T9_ok E0_ok 100000 (by kernel_rfl)
theorem T23_s (T22_ok:T22.ok Tryz.prog glob):T23.ok Tryz.prog glob:=Tab.consH T22_ok E0_ok 100000 (by kernel_rfl)
theorem T27_s (T26_ok:T26.ok Tryz.prog glob):T27.ok Tryz.prog glob:=Tab.consH T26_ok E0_ok 100000 (by kernel_rfl)
theorem T33_s (T32_ok:T32.ok Tryz.prog glob):T33.ok Tryz.prog glob:=Tab.consH T32_ok E0_ok 100000 (by kernel_rfl)
theorem T37_s (T36_ok:T36.ok Tryz.prog glob):T37.ok Tryz.prog glob:=Tab.consH T36_ok E0_ok 100000 (by kernel_rfl)
theorem T39_s (T38_ok:T38.ok Tryz.prog glob):T39.ok Tryz.prog glob:=Tab.consH T38_ok E0_ok 100000 (by kernel_rfl)
theorem T43_s (T42_ok:T42.ok Tryz.prog glob):T43.ok Tryz.prog glob:=Tab.consH T42_ok E0_ok 100000 (by kernel_rfl)
theorem T47_s (T46_ok:T46.ok Tryz.prog glob):T47.ok Tryz.prog glob:=Tab.consH T46_ok E0_ok 100000 (by kernel_rfl)
theorem T52_s (T51_ok:T51.ok Tryz.prog glob):T52.ok Tryz.prog glob:=Tab.consH T51_ok E0_ok 100000 (by kernel_rfl)
theorem T56_s (T55_ok:T55.ok Tryz.prog glob):T56.ok Tryz.prog glob:=Tab.consH T55_ok E0_ok 100000 (by kernel_rfl)
theorem T61_s (T60_ok:T60.ok Tryz.prog glob):T61.ok Tryz.prog glob:=Tab.consH T60_ok E0_ok 100000 (by kernel_rfl)
theorem T65_s (T64_ok:T64.ok Tryz.prog glob):T65.ok Tryz.prog glob:=Tab.consH T64_ok E0_ok 100000 (by kernel_rfl)
theorem T70_s (T69_ok:T69.ok Tryz.prog glob):T70.ok Tryz.prog glob:=Tab.consH T69_ok E0_ok 100000 (by kernel_rfl)
theorem T74_s (T73_ok:T73.ok Tryz.prog glob):T74.ok Tryz.prog glob:=Tab.consH T73_ok E0_ok 100000 (by kernel_rfl)
theorem T75_s (T74_ok:T74.ok Tryz.prog glob):T75.ok Tryz.prog glob:=Tab.consH T74_ok E0_ok 100000 (by kernel_rfl)
theorem T79_s (T78_ok:T78.ok Tryz.prog glob):T79.ok Tryz.prog glob:=Tab.consH T78_ok E0_ok 100000 (by kernel_rfl)
theorem T83_s (T82_ok:T82.ok Tryz.prog glob):T83.ok Tryz.prog glob:=Tab.consH T82_ok E0_ok 100000 (by kernel_rfl)
theorem T85_s (T84_ok:T84.ok Tryz.prog glob):T85.ok Tryz.prog glob:=Tab.consH T84_ok E0_ok 100000 (by kernel_rfl)
theorem T89_s (T88_ok:T88.ok Tryz.prog glob):T89.ok Tryz.prog glob:=Tab.consH T88_ok E0_ok 100000 (by kernel_rfl)
theorem T91_s (T90_ok:T90.ok Tryz.prog glob):T91.ok Tryz.prog glob:=Tab.consH T90_ok E0_ok 100000 (by kernel_rfl)
theorem T93_s (T92_ok:T92.ok Tryz.prog glob):T93.ok Tryz.prog glob:=Tab.consH T92_ok E0_ok 100000 (by kernel_rfl)
end Go.AM
set_option maxRecDepth 1000000
namespace Go.AM
open Go Go.Proofs
theorem T1_s:T1.ok Tryz.prog glob:=Tab.consH T0_ok E0_ok 100000 (by kernel_rfl)
theorem T2_s (T1_ok:T1.ok Tryz.prog glob):T2.ok Tryz.prog glob:=Tab.consH T1_ok E0_ok 100000 (by kernel_rfl)
theorem T4_s (T3_ok:T3.ok Tryz.prog glob):T4.ok Tryz.prog glob:=Tab.consH T3_ok E0_ok 100000 (by kernel_rfl)
theorem T6_s (T5_ok:T5.ok Tryz.prog glob):T6.ok Tryz.prog glob:=Tab.consH T5_ok E0_ok 100000 (by kernel_rfl)
theorem T12_s (T11_ok:T11.ok Tryz.prog glob):T12.ok Tryz.prog glob:=Tab.consH T11_ok E0_ok 100000 (by kernel_rfl)
theorem T13_s (T12_ok:T12.ok Tryz.prog glob):T13.ok Tryz.prog glob:=Tab.consH T12_ok E0_ok 100000 (by kernel_rfl)
theorem T14_s (T13_ok:T13.ok Tryz.prog glob):T14.ok Tryz.prog glob:=Tab.consH T13_ok E0_ok 100000 (by kernel_rfl)
theorem T16_s (T15_ok:T15.ok Tryz.prog glob):T16.ok Tryz.prog glob:=Tab.consH T15_ok E0_ok 100000 (by kernel_rfl)
theorem T19_s (T18_ok:T18.ok Tryz.prog glob):T19.ok Tryz.prog glob:=Tab.consH T18_ok E0_ok 100000 (by kernel_rfl)
theorem T24_s (T23_ok:T23.ok Tryz.prog glob):T24.ok Tryz.prog glob:=Tab.consH T23_ok E0_ok 100000 (by kernel_rfl)
theorem T28_s (T27_ok:T27.ok Tryz.prog glob):T28.ok Tryz.prog glob:=Tab.consH T27_ok E0_ok 100000 (by kernel_rfl)
theorem T34_s (T33_ok:T33.ok Tryz.prog glob):T34.ok Tryz.prog glob:=Tab.consH T33_ok E0_ok 100000 (by kernel_rfl)
theorem T40_s (T39_ok:T39.ok Tryz.prog glob):T40.ok Tryz.prog glob:=Tab.consH T39_ok E0_ok 100000 (by kernel_rfl)
theorem T44_s (T43_ok:T43.ok Tryz.prog glob):T44.ok Tryz.prog glob:=Tab.consH T43_ok E0_ok 100000 (by kernel_rfl)
theorem T48_s (T47_ok:T47.ok Tryz.prog glob):T48.ok Tryz.prog glob:=Tab.consH T47_ok E0_ok 100000 (by kernel_rfl)
theorem T49_s (T48_ok:T48.ok Tryz.prog glob):T49.ok Tryz.prog glob:=Tab.consH T48_ok E0_ok 100000 (by kernel_rfl)
theorem T53_s (T52_ok:T52.ok Tryz.prog glob):T53.ok Tryz.prog glob:=Tab.consH T52_ok E0_ok 100000 (by kernel_rfl)
theorem T58_s (T57_ok:T57.ok Tryz.prog glob):T58.ok Tryz.prog glob:=Tab.consH T57_ok E0_ok 100000 (by kernel_rfl)
theorem T62_s (T61_ok:T61.ok Tryz.prog glob):T62.ok Tryz.prog glob:=Tab.consH T61_ok E0_ok 100000 (by kernel_rfl)
theorem T67_s (T66_ok:T66.ok Tryz.prog glob):T67.ok Tryz.prog glob:=Tab.consH T66_ok E0_ok 100000 (by kernel_rfl)
theorem T71_s (T70_ok:T70.ok Tryz.prog glob):T71.ok Tryz.prog glob:=Tab.consH T70_ok E0_ok 100000 (by kernel_rfl)
theorem T76_s (T75_ok:T75.ok Tryz.prog glob):T76.ok Tryz.prog glob:=Tab.consH T75_ok E0_ok 100000 (by kernel_rfl)
theorem T80_s (T79_ok:T79.ok Tryz.prog glob):T80.ok Tryz.prog glob:=Tab.consH T79_ok E0_ok 100000 (by kernel_rfl)
theorem T84_s (T83_ok:T83.ok Tryz.prog glob):T84.ok Tryz.prog glob:=Tab.consH T83_ok E0_ok 100000 (by kernel_rfl)
end Go.AM
set_option maxRecDepth 1000000
namespace Go.AM
open Go Go.Proofs
theorem T1_ok:T1.ok Tryz.prog glob:=T1_s
theorem T2_ok:T2.ok Tryz.prog glob:=T2_s T1_ok
theorem T3_ok:T3.ok Tryz.prog glob:=T3_s T2_ok
theorem T4_ok:T4.ok Tryz.prog glob:=T4_s T3_ok
theorem T5_ok:T5.ok Tryz.prog glob:=T5_s T4_ok
theorem T6_ok:T6.ok Tryz.prog glob:=T6_s T5_ok
theorem T7_ok:T7.ok Tryz.prog glob:=T7_s T6_ok
theorem T8_ok:T8.ok Tryz.prog glob:=T8_s T7_ok
theorem T9_ok:T9.ok Tryz.prog glob:=T9_s T8_ok
theorem T10_ok:T10.ok Tryz.prog glob:=T10_s T9_ok
theorem T11_ok:T11.ok Tryz.prog glob:=T11_s T10_ok
theorem T12_ok:T12.ok Tryz.prog glob:=T12_s T11_ok
theorem T13_ok:T13.ok Tryz.prog glob:=T13_s T12_ok
theorem T14_ok:T14.ok Tryz.prog glob:=T14_s T13_ok
theorem T15_ok:T15.ok Tryz.prog glob:=T15_s T14_ok
theorem T16_ok:T16.ok Tryz.prog glob:=T16_s T15_ok
theorem T17_ok:T17.ok Tryz.prog glob:=T17_s T16_ok
theorem T18_ok:T18.ok Tryz.prog glob:=T18_s T17_ok
theorem T19_ok:T19.ok Tryz.prog glob:=T19_s T18_ok
theorem T20_ok:T20.ok Tryz.prog glob:=T20_s T19_ok
theorem T21_ok:T21.ok Tryz.prog glob:=T21_s T20_ok
theorem T22_ok:T22.ok Tryz.prog glob:=T22_s T21_ok
theorem T23_ok:T23.ok Tryz.prog glob:=T23_s T22_ok
theorem T24_ok:T24.ok Tryz.prog glob:=T24_s T23_ok
theorem T25_ok:T25.ok Tryz.prog glob:=T25_s T24_ok
theorem T26_ok:T26.ok Tryz.prog glob:=T26_s T25_ok
theorem T27_ok:T27.ok Tryz.prog glob:=T27_s T26_ok
theorem T28_ok:T28.ok Tryz.prog glob:=T28_s T27_ok
theorem T29_ok:T29.ok Tryz.prog glob:=T29_s T28_ok
theorem T30_ok:T30.ok Tryz.prog glob:=T30_s T29_ok
theorem T31_ok:T31.ok Tryz.prog glob:=T31_s T30_ok
theorem T32_ok:T32.ok Tryz.prog glob:=T32_s T31_ok
theorem T33_ok:T33.ok Tryz.prog glob:=T33_s T32_ok
theorem T34_ok:T34.ok Tryz.prog glob:=T34_s T33_ok
theorem T35_ok:T35.ok Tryz.prog glob:=T35_s T34_ok
theorem T36_ok:T36.ok Tryz.prog glob:=T36_s T35_ok
theorem T37_ok:T37.ok Tryz.prog glob:=T37_s T36_ok
theorem T38_ok:T38.ok Tryz.prog glob:=T38_s T37_ok
theorem T39_ok:T39.ok Tryz.prog glob:=T39_s T38_ok
theorem T40_ok:T40.ok Tryz.prog glob:=T40_s T39_ok
theorem T41_ok:T41.ok Tryz.prog glob:=T41_s T40_ok
theorem T42_ok:T42.ok Tryz.prog glob:=T42_s T41_ok
theorem T43_ok:T43.ok Tryz.prog glob:=T43_s T42_ok
theorem T44_ok:T44.ok Tryz.prog glob:=T44_s T43_ok
theorem T45_ok:T45.ok Tryz.prog glob:=T45_s T44_ok
theorem T46_ok:T46.ok Tryz.prog glob:=T46_s T45_ok
theorem T47_ok:T47.ok Tryz.prog glob:=T47_s T46_ok
theorem T48_ok:T48.ok Tryz.prog glob:=T48_s T47_ok
theorem T49_ok:T49.ok Tryz.prog glob:=T49_s T48_ok
theorem T50_ok:T50.ok Tryz.prog glob:=T50_s T49_ok
theorem T51_ok:T51.ok Tryz.prog glob:=T51_s T50_ok
theorem T52_ok:T52.ok Tryz.prog glob:=T52_s T51_ok
theorem T53_ok:T53.ok Tryz.prog glob:=T53_s T52_ok
theorem T54_ok:T54.ok Tryz.prog glob:=T54_s T53_ok
theorem T55_ok:T55.ok Tryz.prog glob:=T55_s T54_ok
theorem T56_ok:T56.ok Tryz.prog glob:=T56_s T55_ok
theorem T57_ok:T57.ok Tryz.prog glob:=T57_s T56_ok
theorem T58_ok:T58.ok Tryz.prog glob:=T58_s T57_ok
theorem T59_ok:T59.ok Tryz.prog glob:=T59_s T58_ok
theorem T60_ok:T60.ok Tryz.prog glob:=T60_s T59_ok
theorem T61_ok:T61.ok Tryz.prog glob:=T61_s T60_ok
theorem T62_ok:T62.ok Tryz.prog glob:=T62_s T61_ok
theorem T63_ok:T63.ok Tryz.prog glob:=T63_s T62_ok
theorem T64_ok:T64.ok Tryz.prog glob:=T64_s T63_ok
theorem T65_ok:T65.ok Tryz.prog glob:=T65_s T64_ok
theorem T66_ok:T66.ok Tryz.prog glob:=T66_s T65_ok
theorem T67_ok:T67.ok Tryz.prog glob:=T67_s T66_ok
theorem T68_ok:T68.ok Tryz.prog glob:=T68_s T67_ok
theorem T69_ok:T69.ok Tryz.prog glob:=T69_s T68_ok
theorem T70_ok:T70.ok Tryz.prog glob:=T70_s T69_ok
theorem T71_ok:T71.ok Tryz.prog glob:=T71_s T70_ok
theorem T72_ok:T72.ok Tryz.prog glob:=T72_s T71_ok
theorem T73_ok:T73.ok Tryz.prog glob:=T73_s T72_ok
theorem T74_ok:T74.ok Tryz.prog glob:=T74_s T73_ok
theorem T75_ok:T75.ok Tryz.prog glob:=T75_s T74_ok
theorem T76_ok:T76.ok Tryz.prog glob:=T76_s T75_ok
theorem T77_ok:T77.ok Tryz.prog glob:=T77_s T76_ok
theorem T78_ok:T78.ok Tryz.prog glob:=T78_s T77_ok
theorem T79_ok:T79.ok Tryz.prog glob:=T79_s T78_ok
theorem T80_ok:T80.ok Tryz.prog glob:=T80_s T79_ok
theorem T81_ok:T81.ok Tryz.prog glob:=T81_s T80_ok
theorem T82_ok:T82.ok Tryz.prog glob:=T82_s T81_ok
theorem T83_ok:T83.ok Tryz.prog glob:=T83_s T82_ok
theorem T84_ok:T84.ok Tryz.prog glob:=T84_s T83_ok
theorem T85_ok:T85.ok Tryz.prog glob:=T85_s T84_ok
theorem T86_ok:T86.ok Tryz.prog glob:=T86_s T85_ok
theorem T87_ok:T87.ok Tryz.prog glob:=T87_s T86_ok
theorem T88_ok:T88.ok Tryz.prog glob:=T88_s T87_ok
theorem T89_ok:T89.ok Tryz.prog glob:=T89_s T88_ok
theorem T90_ok:T90.ok Tryz.prog glob:=T90_s T89_ok
theorem T91_ok:T91.ok Tryz.prog glob:=T91_s T90_ok
theorem T92_ok:T92.ok Tryz.prog glob:=T92_s T91_ok
theorem T93_ok:T93.ok Tryz.prog glob:=T93_s T92_ok
end Go.AM

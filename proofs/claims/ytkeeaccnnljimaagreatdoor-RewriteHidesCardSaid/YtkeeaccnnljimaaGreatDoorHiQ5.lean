/- Parts of a proof, printed short. No condition. -/
import Derived.Test.YtkeeaccnnljimaaGreatDoorProg
import Derived.Sort.AssemblyPlain
import Derived.Sort.LotD5
import Derived.Test.YtkeeaccnnljimaaGreatDoorHiQ4
set_option maxRecDepth 100000
namespace Go.AM
open Go Go.Proofs
def Znk (r:((List ZL) × ZL × Zj)):PV→List Blk→Prop:=fun p K=>p=(.tup [(slc 1 Zo r.1),(slc 10 Za r.2.1)])∧K=[.cells (Zl r.2.2)]
theorem Znl (u:Zj) (a:ZL) (f:ZL) (r:((List ZL) × ZL × Zj)) (hF:Zey u a f=some r):ACall Tryz.prog glob 49 [(.ptr 0 0),(slc 10 Za a),(slc 10 Za f)] [.cells (Zl u)] (Znk r):=by
 refine ACall.body Tryz.func49 rfl (by kernel_rfl) ?_
 unfold Zey at hF
 refine AWP.seq (AWP.rg0 [] [(0,(.ptr 0 0)),(1,(slc 10 Za a)),(2,(slc 10 Za f))] (AWP.seq (AWP.rg0 [] [(0,(.ptr 0 0)),(1,(slc 10 Za a)),(2,(slc 10 Za f)),(8,nils)] ?_)))
 refine AWP.own (H':=[.cells (Zl u),bf 1 38 Zo ([]:(List ZL)) false]) (st':=[(8,(.own 1 (List.length ([]:(List ZL))))),(0,(.ptr 0 0)),(1,(slc 10 Za a)),(2,(slc 10 Za f))]) 8 1 38 (by kernel_rfl) (by kernel_rfl) (by kernel_rfl) ?_
 refine AWP.pick (st':=[(0,(.ptr 0 0)),(1,(slc 10 Za a)),(2,(slc 10 Za f)),(8,(.own 1 (List.length ([]:(List ZL)))))]) (ks:=[0,1,2,8]) (by kernel_rfl) ?_
 refine AWP.seq (AWP.seq (AWP.rg0 [(1,.len Za a)] [(0,(.ptr 0 0)),(2,(slc 10 Za f)),(8,(.own 1 (List.length ([]:(List ZL))))),(11,(slc 10 Za a)),(12,(i64 (List.length a:Int))),(13,(i64 (0:Int)))] ?_))
 obtain⟨z,a1,hF⟩:=bindb hF
 refine AWP.mid (fun e st H=>(e=.normal∧∃ x,∃ m,∃ v,z=(x,m,v)∧st=[(2,(slc 10 Za v)),(8,(.own 1 (List.length m)))]∧H=[.cells (Zl x),bf 1 38 Zo m false])) ?_ ?_
 ·clear hF
  refine AWP.kp [0,2,8,11,12,13] 2 ?_
  refine AWP.bround (fun n st H=>∃ g,∃ b,∃ d,∃ c,Zbd a n g b d c=some z∧st=[(0,(.ptr 0 0)),(2,(slc 10 Za d)),(8,(.own 1 (List.length b))),(11,(slc 10 Za a)),(12,(i64 (List.length a:Int))),(13,(i64 c))]∧H=[.cells (Zl g),bf 1 38 Zo b false]) fuel ⟨u,([]:(List ZL)),f,(0:Int),a1,by kernel_rfl,by kernel_rfl⟩ ?_
  rintro y st H ⟨g,b,d,c,hF,rfl,rfl⟩
  cases y with
  | zero=>exact noneb hF
  | succ y=>
   rw [Zbd] at hF
   refine AWP.seq (AWP.rg0 [] [(0,(.ptr 0 0)),(2,(slc 10 Za d)),(8,(.own 1 (List.length b))),(11,(slc 10 Za a)),(12,(i64 (List.length a:Int))),(13,(i64 c)),(14,(vb (decide (c<(List.length a:Int)))))] (AWP.seq ?_))
   refine AWP.cif hF (fun a2 hF=>?_) (fun a2 hF=>?_)
   ·refine AWP.skip ?_
    obtain⟨a3,a4,hF⟩:=bindb hF
    refine AWP.seq ?_
    refine AWP.mid (fun e st H=>(e=.normal∧∃ w,∃ o,∃ p,a3=(w,o,p)∧st=[(0,(.ptr 0 0)),(2,(slc 10 Za p)),(8,(.own 1 (List.length o))),(11,(slc 10 Za a)),(12,(i64 (List.length a:Int))),(13,(i64 c))]∧H=[.cells (Zl w),bf 1 38 Zo o false])) ?_ ?_
    ·clear hF
     have hF:=a4
     refine AWP.block (AWP.seq ?_)
     obtain⟨k,a5,hF⟩:=bindb hF
     refine AWP.rg [(0,.idx Za a5)] [(0,(.ptr 0 0)),(2,(slc 10 Za d)),(8,(.own 1 (List.length b))),(10,(.ptr 2 0)),(11,(slc 10 Za a)),(12,(i64 (List.length a:Int))),(13,(i64 c))] [.cells (Zl g),bf 1 38 Zo b false,.cells (Za k)] (AWP.seq (AWP.seq ?_))
     obtain⟨a0,a6,hF⟩:=bindb hF
     refine AWP.rg0 [(1,.call Tryz.func98 [] (Zin k a0 a6))] [(0,(.ptr 0 0)),(2,(slc 10 Za d)),(8,(.own 1 (List.length b))),(10,(.ptr 2 0)),(11,(slc 10 Za a)),(12,(i64 (List.length a:Int))),(13,(i64 c)),(19,(vb (!a0)))] ?_
     refine AWP.cif hF (fun a7 hF=>?_) (fun a7 hF=>?_)
     ·refine AWP.seq ?_
      obtain⟨a8,hF⟩:=chkb hF
      refine AWP.rg [(1,.litN),(2,.app Zo (fun _=>by kernel_rfl) a8)] [(0,(.ptr 0 0)),(2,(slc 10 Za d)),(8,(.own 1 (List.length (b++[([]:ZL)])))),(11,(slc 10 Za a)),(12,(i64 (List.length a:Int))),(13,(i64 c))] [.cells (Zl g),bf 1 38 Zo (b++[([]:ZL)]) false,.cells (Za k)] (AWP.exit (LeQ.start (LeQ.pk [0,2,8,11,12,13] 2 ?_)))
      exact⟨rfl,g,(b++[([]:ZL)]),d,(someb hF).symm,by kernel_rfl,by kernel_rfl⟩
     ·refine AWP.skip (AWP.seq ?_)
      obtain⟨j,a9,hF⟩:=bindb hF
      obtain⟨b0,hF⟩:=chkb hF
      refine AWP.rg [(5,.call Tryz.func57 [] (Zdq g d [k] j a9)),(7,.app Zo (fun _=>by kernel_rfl) b0)] [(0,(.ptr 0 0)),(2,(slc 10 Za d)),(8,(.own 1 (List.length (b++[j.1])))),(10,(.ptr 2 0)),(11,(slc 10 Za a)),(12,(i64 (List.length a:Int))),(13,(i64 c))] [.cells (Zl j.2),bf 1 38 Zo (b++[j.1]) false,.cells (Za k)] ?_
      obtain⟨q,b1,hF⟩:=bindb hF
      refine AWP.rg [(4,.call Tryz.func59 [] (Zit j.2 d [k] q b1))] [(0,(.ptr 0 0)),(2,(slc 10 Za q.1)),(8,(.own 1 (List.length (b++[j.1])))),(11,(slc 10 Za a)),(12,(i64 (List.length a:Int))),(13,(i64 c))] [.cells (Zl q.2),bf 1 38 Zo (b++[j.1]) false,.cells (Za k)] (LeQ.start (LeQ.pk [0,2,8,11,12,13] 2 ?_))
      exact⟨rfl,q.2,(b++[j.1]),q.1,(someb hF).symm,by kernel_rfl,by kernel_rfl⟩
    ·rintro _ _ _ ⟨rfl,w,o,p,rfl,rfl,rfl⟩
     refine AWP.rg0 [] [(0,(.ptr 0 0)),(2,(slc 10 Za p)),(8,(.own 1 (List.length o))),(11,(slc 10 Za a)),(12,(i64 (List.length a:Int))),(13,(i64 (ZI (c + (1:Int)))))] (LeQ.start (LeQ.pk [0,2,8,11,12,13] 2 ?_))
     exact⟨y,Nat.lt_succ_self _,w,o,p,(ZI (c + (1:Int))),hF,by kernel_rfl,by kernel_rfl⟩
   ·refine AWP.exit (LeQ.start (LeQ.pk [2,8] 2 ?_))
    exact⟨rfl,g,b,d,(someb hF).symm,by kernel_rfl,by kernel_rfl⟩
 ·rintro _ _ _ ⟨rfl,x,m,v,rfl,rfl,rfl⟩
  refine AWP.seq (AWP.rg0 [] [(6,(.own 1 (List.length m))),(7,(slc 10 Za v))] (AWP.ret ?_))
  have hr:=someb hF
  subst hr
  exact(FnQ.f1 1 (.inr rfl) (.inr ⟨_,_,rfl,rfl,(.cons _ _ _ _ (Wk.ownT (i:=1) (s:=1) (t:=38) (l:=m) (sh:=false) (row:=Zo) (by kernel_rfl) (.inl rfl)) (.cons _ _ _ _ (.refl _) .nil))⟩))
def Zss (r:(ZL × Int)):PV→List Blk→Prop:=fun p K=>p=(.tup [(slc 10 Za r.1),(i64 r.2)])∧K=[]
theorem Zst (g:ZL) (b:Int) (r:(ZL × Int)) (hF:Zhf g b=some r):ACall Tryz.prog glob 120 [(slc 10 Za g),(i64 b)] [] (Zss r):=by
 refine ACall.body Tryz.func120 rfl (by kernel_rfl) ?_
 unfold Zhf at hF
 refine AWP.seq (AWP.rg0 [] [(0,(slc 10 Za g)),(1,(i64 b))] (AWP.seq ?_))
 obtain⟨a,v,hF⟩:=bindb hF
 refine AWP.rg0 [(1,.call Tryz.func140 [] (Zfs g a v))] [(1,(i64 b)),(6,(slc 10 Za a.1)),(7,(i64 a.2))] (AWP.seq (AWP.seq (AWP.rg0 [] [(1,(i64 b)),(6,(slc 10 Za a.1)),(7,(i64 a.2)),(16,(vb (a.2 != (0:Int))))] ?_)))
 refine AWP.cif hF (fun w hF=>?_) (fun w hF=>?_)
 ·refine AWP.seq (AWP.rg0 [] [(4,nils),(5,(i64 a.2))] (AWP.ret ?_))
  have hr:=someb hF
  subst hr
  exact(FnQ.f1 0 (.inr rfl) (.inr ⟨_,_,rfl,rfl,(.cons _ _ _ _ (.nil 10) (.cons _ _ _ _ (.refl _) .nil))⟩))
 ·refine AWP.skip (AWP.seq ?_)
  obtain⟨x,hF⟩:=chkb hF
  refine AWP.rg [(1,.clone Tryz.func103 Za (fun _=>by kernel_rfl) x)] [(1,(i64 b)),(8,(.own 0 (List.length a.1)))] [bf 10 57 Za a.1 false] (AWP.seq (AWP.seq (AWP.rg0 [(1,.len Za a.1)] [(1,(i64 b)),(8,(.own 0 (List.length a.1))),(21,(i64 (List.length a.1:Int))),(22,(i64 (0:Int)))] ?_)))
  obtain⟨f,y,hF⟩:=bindb hF
  refine AWP.mid (fun e st H=>e=.normal∧st=[(8,(.own 0 (List.length f)))]∧H=[bf 10 57 Za f false]) ?_ ?_
  ·clear hF
   refine AWP.kp [1,8,21,22] 1 ?_
   refine AWP.bround (fun n st H=>∃ d,∃ c,Zd3 b a n d c=some f∧st=[(1,(i64 b)),(8,(.own 0 (List.length d))),(21,(i64 (List.length a.1:Int))),(22,(i64 c))]∧H=[bf 10 57 Za d false]) fuel ⟨a.1,(0:Int),y,by kernel_rfl,by kernel_rfl⟩ ?_
   rintro l st H ⟨d,c,hF,rfl,rfl⟩
   cases l with
   | zero=>exact noneb hF
   | succ l=>
    rw [Zd3] at hF
    refine AWP.seq (AWP.rg0 [] [(1,(i64 b)),(8,(.own 0 (List.length d))),(21,(i64 (List.length a.1:Int))),(22,(i64 c)),(23,(vb (decide (c<(List.length a.1:Int)))))] (AWP.seq ?_))
    refine AWP.cif hF (fun z hF=>?_) (fun z hF=>?_)
    ·refine AWP.skip ?_
     obtain⟨i,a0,hF⟩:=bindb hF
     refine AWP.seq ?_
     refine AWP.mid (fun e st H=>e=.normal∧st=[(1,(i64 b)),(8,(.own 0 (List.length i))),(21,(i64 (List.length a.1:Int))),(22,(i64 c))]∧H=[bf 10 57 Za i false]) ?_ ?_
     ·clear hF
      have hF:=a0
      refine AWP.block (AWP.seq (AWP.rg0 [] [(1,(i64 b)),(8,(.own 0 (List.length d))),(9,(i64 c)),(21,(i64 (List.length a.1:Int))),(22,(i64 c))] (AWP.seq ?_)))
      obtain⟨p,j,hF⟩:=bindb hF
      replace j:=someb j
      refine AWP.to [(1,(i64 b)),(8,(.own 0 (List.length d))),(9,(i64 c)),(21,(i64 (List.length a.1:Int))),(22,(i64 c)),(30,(vb (p && (decide (b<(5:Int))))))] [bf 10 57 Za d false] ?_ ?_
      ·cases p with
       | false=>
        exact AWP.rgT [(2,.bool j)]
       | true=>
        exact AWP.rgT [(2,.bool j)]
      refine AWP.cif hF (fun a1 hF=>?_) (fun a1 hF=>?_)
      ·obtain⟨k,a2,hF⟩:=bindb hF
       obtain⟨m,q,hF⟩:=bindb hF
       obtain⟨u,hF⟩:=chkb hF
       refine AWP.dr [(4,.call Tryz.func119 [] (Zqh b k a2)),(6,.idx Za q),(7,.ixE Za d c u),(8,.stEd Za q (fun a3=>(Arr5.set m a3 (Zb.mk (0:Int) k))) 0 2 0 u)] 7 [] [] [] [(1,(i64 b)),(8,(.own 0 (List.length d))),(21,(i64 (List.length a.1:Int))),(22,(i64 c))] [bf 10 57 Za (List.set d (Int.toNat c) (Arr5.set m b (Zb.mk (0:Int) k))) false] ?_
       rw [show ([(1,(i64 b)),(8,(.own 0 (List.length d))),(21,(i64 (List.length a.1:Int))),(22,(i64 c))]:St)=[(1,(i64 b)),(8,(.own 0 (List.length (List.set d (Int.toNat c) (Arr5.set m b (Zb.mk (0:Int) k)))))),(21,(i64 (List.length a.1:Int))),(22,(i64 c))] by simp only [List.length_set]]
       refine LeQ.start (LeQ.pk [1,8,21,22] 1 ?_)
       have hr:=someb hF
       subst hr
       exact⟨rfl,by kernel_rfl,by kernel_rfl⟩
      ·refine AWP.skip (LeQ.start (LeQ.pk [1,8,21,22] 1 ?_))
       have hr:=someb hF
       subst hr
       exact⟨rfl,by kernel_rfl,by kernel_rfl⟩
     ·rintro _ _ _ ⟨rfl,rfl,rfl⟩
      refine AWP.rg0 [] [(1,(i64 b)),(8,(.own 0 (List.length i))),(21,(i64 (List.length a.1:Int))),(22,(i64 (ZI (c + (1:Int)))))] (LeQ.start (LeQ.pk [1,8,21,22] 1 ?_))
      exact⟨l,Nat.lt_succ_self _,i,(ZI (c + (1:Int))),hF,by kernel_rfl,by kernel_rfl⟩
    ·refine AWP.exit (LeQ.start (LeQ.pk [8] 1 ?_))
     have hr:=someb hF
     subst hr
     exact⟨rfl,by kernel_rfl,by kernel_rfl⟩
  ·rintro _ _ _ ⟨rfl,rfl,rfl⟩
   refine AWP.seq ?_
   refine AWP.share (s:=10) (t:=57) (xs:=List.map Za f) (sh:=false) (H':=[bf 10 57 Za f true]) 0 (by kernel_rfl) (by kernel_rfl) ?_
   obtain⟨o,a4,hF⟩:=bindb hF
   refine AWP.rg0 [(1,.call Tryz.func131 [.of Za f] (Zfw f ([]:ZL) o a4))] [(4,(slc 10 Za o.1)),(5,(i64 o.2))] (AWP.ret ?_)
   have hr:=someb hF
   subst hr
   exact(FnQ.f0 0 (.inr rfl))
def Zoa (r:(ZL × Zj)):PV→List Blk→Prop:=fun p K=>p=(slc 10 Za r.1)∧K=[.cells (Zl r.2)]
theorem Zie (c:Zj) (a:ZL) (b:Int) (r:(ZL × Zj)) (hF:Zdf c a b=some r):ACall Tryz.prog glob 72 [(.ptr 0 0),(slc 10 Za a),(i64 b)] [.cells (Zl c)] (Zoa r):=by
 refine ACall.body Tryz.func72 rfl (by kernel_rfl) ?_
 unfold Zdf at hF
 refine AWP.seq (AWP.rg0 [] [(0,(.ptr 0 0)),(1,(slc 10 Za a)),(2,(i64 b))] (AWP.seq ?_))
 obtain⟨d,g,hF⟩:=bindb hF
 obtain⟨f,i,hF⟩:=bindb hF
 refine AWP.rg [(3,.call Tryz.func120 [] (Zst a b d g)),(6,.call Tryz.func100 [] (Zfc c d.1 d.2 f i))] [(6,(slc 10 Za f.1))] [.cells (Zl f.2)] (AWP.ret ?_)
 have hr:=someb hF
 subst hr
 exact(FnQ.f0 1 (.inr rfl))
def Zmp (r:(ZL × Zj)):PV→List Blk→Prop:=fun p K=>p=(slc 10 Za r.1)∧K=[.cells (Zl r.2)]
theorem Zmq (o:Zj) (b:Zh) (c:ZL) (r:(ZL × Zj)) (hF:Zek o b c=some r):ACall Tryz.prog glob 71 [(.ptr 0 0),(Zg7 b),(slc 10 Za c)] [.cells (Zl o)] (Zmp r):=by
 refine ACall.body Tryz.func71 rfl (by kernel_rfl) ?_
 unfold Zek at hF
 refine AWP.seq (AWP.rg [] [(0,(.ptr 0 0)),(2,(slc 10 Za c)),(4,(.ptr 1 0))] [.cells (Zl o),.cells (Zc b)] (AWP.seq ?_))
 obtain⟨a1,hF⟩:=chkb hF
 refine AWP.rg [(1,.clone Tryz.func103 Za (fun _=>by kernel_rfl) a1)] [(0,(.ptr 0 0)),(4,(.ptr 1 0)),(7,(.own 2 (List.length c)))] [.cells (Zl o),.cells (Zc b),bf 10 57 Za c false] (AWP.seq (AWP.seq (AWP.rg0 [(1,.len Za c)] [(0,(.ptr 0 0)),(4,(.ptr 1 0)),(7,(.own 2 (List.length c))),(14,(i64 (List.length c:Int))),(15,(i64 (0:Int)))] ?_)))
 obtain⟨m,a2,hF⟩:=bindb hF
 refine AWP.mid (fun e st H=>e=.normal∧st=[(0,(.ptr 0 0)),(4,(.ptr 1 0)),(7,(.own 2 (List.length m)))]∧H=[.cells (Zl o),.cells (Zc b),bf 10 57 Za m false]) ?_ ?_
 ·clear hF
  refine AWP.kp [0,4,7,14,15] 3 ?_
  refine AWP.bround (fun n st H=>∃ f,∃ a,Zb8 b c n f a=some m∧st=[(0,(.ptr 0 0)),(4,(.ptr 1 0)),(7,(.own 2 (List.length f))),(14,(i64 (List.length c:Int))),(15,(i64 a))]∧H=[.cells (Zl o),.cells (Zc b),bf 10 57 Za f false]) fuel ⟨c,(0:Int),a2,by kernel_rfl,by kernel_rfl⟩ ?_
  rintro w st H ⟨f,a,hF,rfl,rfl⟩
  cases w with
  | zero=>exact noneb hF
  | succ w=>
   rw [Zb8] at hF
   refine AWP.seq (AWP.rg0 [] [(0,(.ptr 0 0)),(4,(.ptr 1 0)),(7,(.own 2 (List.length f))),(14,(i64 (List.length c:Int))),(15,(i64 a)),(16,(vb (decide (a<(List.length c:Int)))))] (AWP.seq ?_))
   refine AWP.cif hF (fun a3 hF=>?_) (fun a3 hF=>?_)
   ·refine AWP.skip (AWP.seq (AWP.block (AWP.seq (AWP.rg0 [] [(0,(.ptr 0 0)),(4,(.ptr 1 0)),(7,(.own 2 (List.length f))),(8,(i64 a)),(14,(i64 (List.length c:Int))),(15,(i64 a))] (AWP.seq ?_)))))
    obtain⟨p,y,hF⟩:=bindb hF
    refine AWP.rg [(9,.idx Za y),(10,.ixE Za f a (n:=5) (j:=(0:Int)) (by decide)),(11,.stE Za y ({ p with x0:=(Zb.mk (IntKind.wrap .u32 (ZI ((2:Int) * a))) (IntKind.wrap .u32 (ZI ((2:Int) * a)))) }:ZB))] [(0,(.ptr 0 0)),(4,(.ptr 1 0)),(7,(.own 2 (List.length f))),(8,(i64 a)),(14,(i64 (List.length c:Int))),(15,(i64 a))] [.cells (Zl o),.cells (Zc b),bf 10 57 Za (List.set f (Int.toNat a) ({ p with x0:=(Zb.mk (IntKind.wrap .u32 (ZI ((2:Int) * a))) (IntKind.wrap .u32 (ZI ((2:Int) * a)))) }:ZB)) false] ?_
    rw [show ([(0,(.ptr 0 0)),(4,(.ptr 1 0)),(7,(.own 2 (List.length f))),(8,(i64 a)),(14,(i64 (List.length c:Int))),(15,(i64 a))]:St)=[(0,(.ptr 0 0)),(4,(.ptr 1 0)),(7,(.own 2 (List.length (List.set f (Int.toNat a) ({ p with x0:=(Zb.mk (IntKind.wrap .u32 (ZI ((2:Int) * a))) (IntKind.wrap .u32 (ZI ((2:Int) * a)))) }:ZB))))),(8,(i64 a)),(14,(i64 (List.length c:Int))),(15,(i64 a))] by simp only [List.length_set]]
    obtain⟨q,z,hF⟩:=bindb hF
    refine AWP.dr [(4,.idx Za z),(5,.ixE Za (List.set f (Int.toNat a) ({ p with x0:=(Zb.mk (IntKind.wrap .u32 (ZI ((2:Int) * a))) (IntKind.wrap .u32 (ZI ((2:Int) * a)))) }:ZB)) a (n:=5) (j:=(3:Int)) (by decide)),(6,.stE Za z ({ q with x3:=b.Ports }:ZB))] 5 [] [] [] [(0,(.ptr 0 0)),(4,(.ptr 1 0)),(7,(.own 2 (List.length (List.set f (Int.toNat a) ({ p with x0:=(Zb.mk (IntKind.wrap .u32 (ZI ((2:Int) * a))) (IntKind.wrap .u32 (ZI ((2:Int) * a)))) }:ZB))))),(14,(i64 (List.length c:Int))),(15,(i64 a))] [.cells (Zl o),.cells (Zc b),bf 10 57 Za (List.set (List.set f (Int.toNat a) ({ p with x0:=(Zb.mk (IntKind.wrap .u32 (ZI ((2:Int) * a))) (IntKind.wrap .u32 (ZI ((2:Int) * a)))) }:ZB)) (Int.toNat a) ({ q with x3:=b.Ports }:ZB)) false] ?_
    rw [show ([(0,(.ptr 0 0)),(4,(.ptr 1 0)),(7,(.own 2 (List.length (List.set f (Int.toNat a) ({ p with x0:=(Zb.mk (IntKind.wrap .u32 (ZI ((2:Int) * a))) (IntKind.wrap .u32 (ZI ((2:Int) * a)))) }:ZB))))),(14,(i64 (List.length c:Int))),(15,(i64 a))]:St)=[(0,(.ptr 0 0)),(4,(.ptr 1 0)),(7,(.own 2 (List.length (List.set (List.set f (Int.toNat a) ({ p with x0:=(Zb.mk (IntKind.wrap .u32 (ZI ((2:Int) * a))) (IntKind.wrap .u32 (ZI ((2:Int) * a)))) }:ZB)) (Int.toNat a) ({ q with x3:=b.Ports }:ZB))))),(14,(i64 (List.length c:Int))),(15,(i64 a))] by simp only [List.length_set]]
    refine AWP.rg0 [] [(0,(.ptr 0 0)),(4,(.ptr 1 0)),(7,(.own 2 (List.length (List.set (List.set f (Int.toNat a) ({ p with x0:=(Zb.mk (IntKind.wrap .u32 (ZI ((2:Int) * a))) (IntKind.wrap .u32 (ZI ((2:Int) * a)))) }:ZB)) (Int.toNat a) ({ q with x3:=b.Ports }:ZB))))),(14,(i64 (List.length c:Int))),(15,(i64 (ZI (a + (1:Int)))))] (LeQ.start (LeQ.pk [0,4,7,14,15] 3 ?_))
    exact⟨w,Nat.lt_succ_self _,(List.set (List.set f (Int.toNat a) ({ p with x0:=(Zb.mk (IntKind.wrap .u32 (ZI ((2:Int) * a))) (IntKind.wrap .u32 (ZI ((2:Int) * a)))) }:ZB)) (Int.toNat a) ({ q with x3:=b.Ports }:ZB)),(ZI (a + (1:Int))),hF,by kernel_rfl,by kernel_rfl⟩
   ·refine AWP.exit (LeQ.start (LeQ.pk [0,4,7] 3 ?_))
    have hr:=someb hF
    subst hr
    exact⟨rfl,by kernel_rfl,by kernel_rfl⟩
 ·rintro _ _ _ ⟨rfl,rfl,rfl⟩
  refine AWP.seq ?_
  refine AWP.share (s:=10) (t:=57) (xs:=List.map Za m) (sh:=false) (H':=[.cells (Zl o),.cells (Zc b),bf 10 57 Za m true]) 2 (by kernel_rfl) (by kernel_rfl) ?_
  obtain⟨d,a4,hF⟩:=bindb hF
  obtain⟨a5,hF⟩:=chkb hF
  refine AWP.rg [(2,.call Tryz.func72 [.of Za m] (Zie o m (0:Int) d a4)),(3,.clone Tryz.func103 Za (fun _=>by kernel_rfl) a5)] [(4,(.ptr 1 0)),(9,(.own 3 (List.length d.1)))] [.cells (Zl d.2),.cells (Zc b),bf 10 57 Za m true,bf 10 57 Za d.1 false] (AWP.seq (AWP.seq (AWP.rg0 [(1,.len Za d.1)] [(4,(.ptr 1 0)),(9,(.own 3 (List.length d.1))),(41,(i64 (List.length d.1:Int))),(42,(i64 (0:Int)))] ?_)))
  obtain⟨u,a6,hF⟩:=bindb hF
  refine AWP.mid (fun e st H=>e=.normal∧st=[(9,(.own 3 (List.length u)))]∧H=[.cells (Zl d.2),.cells (Zc b),bf 10 57 Za m true,bf 10 57 Za u false]) ?_ ?_
  ·clear hF
   refine AWP.kp [4,9,41,42] 4 ?_
   refine AWP.bround (fun n st H=>∃ k,∃ g,Zb9 b d n k g=some u∧st=[(4,(.ptr 1 0)),(9,(.own 3 (List.length k))),(41,(i64 (List.length d.1:Int))),(42,(i64 g))]∧H=[.cells (Zl d.2),.cells (Zc b),bf 10 57 Za m true,bf 10 57 Za k false]) fuel ⟨d.1,(0:Int),a6,by kernel_rfl,by kernel_rfl⟩ ?_
   rintro x st H ⟨k,g,hF,rfl,rfl⟩
   cases x with
   | zero=>exact noneb hF
   | succ x=>
    rw [Zb9] at hF
    refine AWP.seq (AWP.rg0 [] [(4,(.ptr 1 0)),(9,(.own 3 (List.length k))),(41,(i64 (List.length d.1:Int))),(42,(i64 g)),(43,(vb (decide (g<(List.length d.1:Int)))))] (AWP.seq ?_))
    refine AWP.cif hF (fun a7 hF=>?_) (fun a7 hF=>?_)
    ·refine AWP.skip (AWP.seq (AWP.block (AWP.seq (AWP.rg0 [] [(4,(.ptr 1 0)),(9,(.own 3 (List.length k))),(10,(i64 g)),(41,(i64 (List.length d.1:Int))),(42,(i64 g))] ?_))))
     obtain⟨v,a0,hF⟩:=bindb hF
     refine AWP.dr [(7,.idx Za a0),(8,.ixE Za k g (n:=5) (j:=(0:Int)) (by decide)),(9,.stE Za a0 ({ v with x0:=(Zb.mk b.Addr b.Addr) }:ZB))] 8 [] [] [] [(4,(.ptr 1 0)),(9,(.own 3 (List.length k))),(41,(i64 (List.length d.1:Int))),(42,(i64 g))] [.cells (Zl d.2),.cells (Zc b),bf 10 57 Za m true,bf 10 57 Za (List.set k (Int.toNat g) ({ v with x0:=(Zb.mk b.Addr b.Addr) }:ZB)) false] ?_
     rw [show ([(4,(.ptr 1 0)),(9,(.own 3 (List.length k))),(41,(i64 (List.length d.1:Int))),(42,(i64 g))]:St)=[(4,(.ptr 1 0)),(9,(.own 3 (List.length (List.set k (Int.toNat g) ({ v with x0:=(Zb.mk b.Addr b.Addr) }:ZB))))),(41,(i64 (List.length d.1:Int))),(42,(i64 g))] by simp only [List.length_set]]
     refine AWP.rg0 [] [(4,(.ptr 1 0)),(9,(.own 3 (List.length (List.set k (Int.toNat g) ({ v with x0:=(Zb.mk b.Addr b.Addr) }:ZB))))),(41,(i64 (List.length d.1:Int))),(42,(i64 (ZI (g + (1:Int)))))] (LeQ.start (LeQ.pk [4,9,41,42] 4 ?_))
     exact⟨x,Nat.lt_succ_self _,(List.set k (Int.toNat g) ({ v with x0:=(Zb.mk b.Addr b.Addr) }:ZB)),(ZI (g + (1:Int))),hF,by kernel_rfl,by kernel_rfl⟩
    ·refine AWP.exit (LeQ.start (LeQ.pk [9] 4 ?_))
     have hr:=someb hF
     subst hr
     exact⟨rfl,by kernel_rfl,by kernel_rfl⟩
  ·rintro _ _ _ ⟨rfl,rfl,rfl⟩
   refine AWP.seq (AWP.rg0 [] [(6,(.own 3 (List.length u)))] (AWP.ret ?_))
   have hr:=someb hF
   subst hr
   exact(FnQ.f1 1 (.inr rfl) (.inl (Wk.ownT (i:=3) (s:=10) (t:=57) (l:=u) (sh:=false) (row:=Za) (by kernel_rfl) (.inl rfl))))
def Zmi (r:(ZL × Int)):PV→List Blk→Prop:=fun p K=>p=(.tup [(slc 10 Za r.1),(i64 r.2)])∧K=[]
theorem Zmj (d:ZL) (c:ZL) (r:(ZL × Int)) (hF:Zfm d c=some r):ACall Tryz.prog glob 133 [(slc 10 Za d),(slc 10 Za c),(.sc (.func (.func 132) #[] #[]))] [] (Zmi r):=by
 refine ACall.body Tryz.func133 rfl (by kernel_rfl) ?_
 unfold Zfm at hF
 refine AWP.seq (AWP.rg0 [] [(0,(slc 10 Za d)),(1,(slc 10 Za c)),(2,(.sc (.func (.func 132) #[] #[])))] (AWP.seq ?_))
 obtain⟨a,g,hF⟩:=bindb hF
 refine AWP.rg0 [(1,.call Tryz.func140 [] (Zfs d a g))] [(1,(slc 10 Za c)),(2,(.sc (.func (.func 132) #[] #[]))),(8,(slc 10 Za a.1)),(9,(i64 a.2))] (AWP.seq (AWP.seq (AWP.rg0 [] [(1,(slc 10 Za c)),(2,(.sc (.func (.func 132) #[] #[]))),(8,(slc 10 Za a.1)),(9,(i64 a.2)),(17,(vb (a.2 != (0:Int))))] ?_)))
 refine AWP.cif hF (fun i hF=>?_) (fun i hF=>?_)
 ·refine AWP.seq (AWP.rg0 [] [(6,nils),(7,(i64 a.2))] (AWP.ret ?_))
  have hr:=someb hF
  subst hr
  exact(FnQ.f1 0 (.inr rfl) (.inr ⟨_,_,rfl,rfl,(.cons _ _ _ _ (.nil 10) (.cons _ _ _ _ (.refl _) .nil))⟩))
 ·refine AWP.skip (AWP.seq ?_)
  obtain⟨b,j,hF⟩:=bindb hF
  refine AWP.rg0 [(1,.call Tryz.func140 [] (Zfs c b j))] [(2,(.sc (.func (.func 132) #[] #[]))),(8,(slc 10 Za a.1)),(9,(i64 b.2)),(10,(slc 10 Za b.1))] (AWP.seq (AWP.seq (AWP.rg0 [] [(2,(.sc (.func (.func 132) #[] #[]))),(8,(slc 10 Za a.1)),(9,(i64 b.2)),(10,(slc 10 Za b.1)),(25,(vb (b.2 != (0:Int))))] ?_)))
  refine AWP.cif hF (fun k hF=>?_) (fun k hF=>?_)
  ·refine AWP.seq (AWP.rg0 [] [(6,nils),(7,(i64 b.2))] (AWP.ret ?_))
   have hr:=someb hF
   subst hr
   exact(FnQ.f1 0 (.inr rfl) (.inr ⟨_,_,rfl,rfl,(.cons _ _ _ _ (.nil 10) (.cons _ _ _ _ (.refl _) .nil))⟩))
  ·refine AWP.skip (AWP.seq ?_)
   obtain⟨f,l,hF⟩:=bindb hF
   refine AWP.rg0 [(3,.call Tryz.func131 [] (Zfw a.1 b.1 f l))] [(6,(slc 10 Za f.1)),(7,(i64 f.2))] (AWP.ret ?_)
   have hr:=someb hF
   subst hr
   exact(FnQ.f0 0 (.inr rfl))
def Zrr (r:(ZL × Int)):PV→List Blk→Prop:=fun p K=>p=(.tup [(slc 10 Za r.1),(i64 r.2)])∧K=[]
theorem Zrs (a:ZL) (b:ZL) (r:(ZL × Int)) (hF:Zg2 a b=some r):ACall Tryz.prog glob 102 [(slc 10 Za a),(slc 10 Za b)] [] (Zrr r):=by
 refine ACall.body Tryz.func102 rfl (by kernel_rfl) ?_
 unfold Zg2 at hF
 refine AWP.seq (AWP.rg0 [] [(0,(slc 10 Za a)),(1,(slc 10 Za b))] (AWP.seq ?_))
 obtain⟨c,d,hF⟩:=bindb hF
 refine AWP.rg0 [(2,.call Tryz.func133 [] (Zmj a b c d))] [(4,(slc 10 Za c.1)),(5,(i64 c.2))] (AWP.ret ?_)
 have hr:=someb hF
 subst hr
 exact(FnQ.f0 0 (.inr rfl))
def Znm (r:(ZL × Zj)):PV→List Blk→Prop:=fun p K=>p=(slc 10 Za r.1)∧K=[.cells (Zl r.2)]
theorem Zgd (c:Zj) (a:ZL) (b:ZL) (r:(ZL × Zj)) (hF:Zce c a b=some r):ACall Tryz.prog glob 53 [(.ptr 0 0),(slc 10 Za a),(slc 10 Za b)] [.cells (Zl c)] (Znm r):=by
 refine ACall.body Tryz.func53 rfl (by kernel_rfl) ?_
 unfold Zce at hF
 refine AWP.seq (AWP.rg0 [] [(0,(.ptr 0 0)),(1,(slc 10 Za a)),(2,(slc 10 Za b))] (AWP.seq ?_))
 obtain⟨d,g,hF⟩:=bindb hF
 obtain⟨f,i,hF⟩:=bindb hF
 refine AWP.rg [(3,.call Tryz.func102 [] (Zrs a b d g)),(6,.call Tryz.func100 [] (Zfc c d.1 d.2 f i))] [(6,(slc 10 Za f.1))] [.cells (Zl f.2)] (AWP.ret ?_)
 have hr:=someb hF
 subst hr
 exact(FnQ.f0 1 (.inr rfl))
def Zmr (a:Zj) (r:(ZL × Int)):PV→List Blk→Prop:=fun p K=>p=(.tup [(slc 10 Za r.1),(i64 r.2)])∧K=[.cells (Zl a)]
theorem Zji (a:Zj) (b:ZL) (r:(ZL × Int)) (hF:Zdk a b=some r):ACall Tryz.prog glob 55 [(.ptr 0 0),(slc 10 Za b)] [.cells (Zl a)] (Zmr a r):=by
 refine ACall.body Tryz.func55 rfl (by kernel_rfl) ?_
 unfold Zdk at hF
 refine AWP.seq (AWP.rg0 [] [(0,(.ptr 0 0)),(1,(slc 10 Za b))] (AWP.seq (AWP.seq (AWP.rg0 [] [(0,(.ptr 0 0)),(1,(slc 10 Za b)),(10,(vb (a.f_err != (0:Int))))] ?_))))
 refine AWP.cif hF (fun c hF=>?_) (fun c hF=>?_)
 ·refine AWP.seq (AWP.dr [] 5 [] [] [] [(4,nils),(5,(i64 a.f_err))] [.cells (Zl a)] (AWP.ret ?_))
  have hr:=someb hF
  subst hr
  exact(FnQ.f1 1 (.inr rfl) (.inr ⟨_,_,rfl,rfl,(.cons _ _ _ _ (.nil 10) (.cons _ _ _ _ (.refl _) .nil))⟩))
 ·refine AWP.skip (AWP.seq ?_)
  obtain⟨d,hF⟩:=chkb hF
  refine AWP.rg [(1,.clone Tryz.func103 Za (fun _=>by kernel_rfl) d)] [(4,(.own 1 (List.length b))),(5,(i64 (0:Int)))] [.cells (Zl a),bf 10 57 Za b false] (AWP.ret ?_)
  have hr:=someb hF
  subst hr
  exact(FnQ.f1 1 (.inr rfl) (.inr ⟨_,_,rfl,rfl,(.cons _ _ _ _ (Wk.ownT (i:=1) (s:=10) (t:=57) (l:=b) (sh:=false) (row:=Za) (by kernel_rfl) (.inl rfl)) (.cons _ _ _ _ (.refl _) .nil))⟩))
def Zpo (r:(ZL × Int)):PV→List Blk→Prop:=fun p K=>p=(.tup [(slc 10 Za r.1),(i64 r.2)])∧K=[]
theorem Zpp (b:(List Zh)) (g:ZL) (r:(ZL × Int)) (hF:Zf0 b g=some r):ACall Tryz.prog glob 24 [(slc 13 Zc b),(slc 10 Za g)] [] (Zpo r):=by
 refine ACall.body Tryz.func24 rfl (by kernel_rfl) ?_
 unfold Zf0 at hF
 refine AWP.seq (AWP.rg0 [] [(0,(slc 13 Zc b)),(1,(slc 10 Za g))] (AWP.seq (AWP.rg [] [(0,(slc 13 Zc b)),(1,(slc 10 Za g)),(6,(.ptr 0 0))] [.cells (Zl Zd9)] (AWP.seq ?_))))
 obtain⟨x,a0,hF⟩:=bindb hF
 obtain⟨s,a1,hF⟩:=bindb hF
 obtain⟨a,a2,hF⟩:=bindb hF
 refine AWP.rg [(1,.call Tryz.func69 [] (Zrj b x a0)),(3,.call Tryz.func51 [] (Zj4 Zd9 g s a1)),(4,.call Tryz.func49 [] (Znl s.2 x s.1 a a2))] [(0,(slc 13 Zc b)),(6,(.ptr 0 0)),(7,(slc 1 Zo a.1)),(8,(slc 10 Za a.2.1))] [.cells (Zl a.2.2)] (AWP.seq (AWP.rg0 [] [(0,(slc 13 Zc b)),(6,(.ptr 0 0)),(7,(slc 1 Zo a.1)),(8,(slc 10 Za a.2.1)),(9,nils)] (AWP.seq (AWP.seq (AWP.rg0 [(1,.len Zo a.1)] [(0,(slc 13 Zc b)),(6,(.ptr 0 0)),(8,(slc 10 Za a.2.1)),(9,nils),(20,(slc 1 Zo a.1)),(21,(i64 (List.length a.1:Int))),(22,(i64 (0:Int)))] ?_)))))
 obtain⟨y,a3,hF⟩:=bindb hF
 refine AWP.mid (fun e st H=>(e=.normal∧∃ k,∃ l,y=(k,l)∧st=[(6,(.ptr 0 0)),(8,(slc 10 Za a.2.1)),(9,(slc 10 Za l))]∧H=[.cells (Zl k)])) ?_ ?_
 ·clear hF
  refine AWP.wk (p:=nils) (q:=(slc 10 Za ([]:ZL))) (st':=[(9,(slc 10 Za ([]:ZL))),(0,(slc 13 Zc b)),(6,(.ptr 0 0)),(8,(slc 10 Za a.2.1)),(20,(slc 1 Zo a.1)),(21,(i64 (List.length a.1:Int))),(22,(i64 (0:Int)))]) 9 (by kernel_rfl) (.nil 10) (by kernel_rfl) ?_
  refine AWP.kp [0,6,8,9,20,21,22] 1 ?_
  refine AWP.bround (fun n st H=>∃ f,∃ d,∃ c,Zb0 b a n f d c=some y∧st=[(0,(slc 13 Zc b)),(6,(.ptr 0 0)),(8,(slc 10 Za a.2.1)),(9,(slc 10 Za d)),(20,(slc 1 Zo a.1)),(21,(i64 (List.length a.1:Int))),(22,(i64 c))]∧H=[.cells (Zl f)]) fuel ⟨a.2.2,([]:ZL),(0:Int),a3,by kernel_rfl,by kernel_rfl⟩ ?_
  rintro t st H ⟨f,d,c,hF,rfl,rfl⟩
  cases t with
  | zero=>exact noneb hF
  | succ t=>
   rw [Zb0] at hF
   refine AWP.seq (AWP.rg0 [] [(0,(slc 13 Zc b)),(6,(.ptr 0 0)),(8,(slc 10 Za a.2.1)),(9,(slc 10 Za d)),(20,(slc 1 Zo a.1)),(21,(i64 (List.length a.1:Int))),(22,(i64 c)),(23,(vb (decide (c<(List.length a.1:Int)))))] (AWP.seq ?_))
   refine AWP.cif hF (fun a4 hF=>?_) (fun a4 hF=>?_)
   ·refine AWP.skip ?_
    obtain⟨a5,a6,hF⟩:=bindb hF
    refine AWP.seq ?_
    refine AWP.mid (fun e st H=>(e=.normal∧∃ m,∃ i,a5=(m,i)∧st=[(0,(slc 13 Zc b)),(6,(.ptr 0 0)),(8,(slc 10 Za a.2.1)),(9,(slc 10 Za i)),(20,(slc 1 Zo a.1)),(21,(i64 (List.length a.1:Int))),(22,(i64 c))]∧H=[.cells (Zl m)])) ?_ ?_
    ·clear hF
     have hF:=a6
     refine AWP.block (AWP.seq ?_)
     obtain⟨u,a7,hF⟩:=bindb hF
     refine AWP.rg0 [(1,.idx Zo a7)] [(0,(slc 13 Zc b)),(6,(.ptr 0 0)),(8,(slc 10 Za a.2.1)),(9,(slc 10 Za d)),(10,(i64 c)),(11,(slc 10 Za u)),(20,(slc 1 Zo a.1)),(21,(i64 (List.length a.1:Int))),(22,(i64 c))] (AWP.seq ?_)
     obtain⟨a8,a9,hF⟩:=bindb hF
     obtain⟨z,b0,hF⟩:=bindb hF
     refine AWP.rg0 [(2,.idx Zc a9),(4,.call Tryz.func70 [] (Zdd a8 z b0))] [(0,(slc 13 Zc b)),(6,(.ptr 0 0)),(8,(slc 10 Za a.2.1)),(9,(slc 10 Za d)),(10,(i64 c)),(11,(slc 10 Za u)),(20,(slc 1 Zo a.1)),(21,(i64 (List.length a.1:Int))),(22,(i64 c)),(31,(vb z))] ?_
     refine AWP.cif hF (fun b1 hF=>?_) (fun b1 hF=>?_)
     ·obtain⟨b2,b3,hF⟩:=bindb hF
      obtain⟨v,b4,hF⟩:=bindb hF
      obtain⟨j,b5,hF⟩:=bindb hF
      refine AWP.rg [(3,.idx Zc b3),(6,.call Tryz.func71 [] (Zmq f b2 u v b4)),(7,.call Tryz.func53 [] (Zgd v.2 d v.1 j b5))] [(0,(slc 13 Zc b)),(6,(.ptr 0 0)),(8,(slc 10 Za a.2.1)),(9,(slc 10 Za j.1)),(20,(slc 1 Zo a.1)),(21,(i64 (List.length a.1:Int))),(22,(i64 c))] [.cells (Zl j.2)] (LeQ.start (LeQ.pk [0,6,8,9,20,21,22] 1 ?_))
      exact⟨rfl,j.2,j.1,(someb hF).symm,by kernel_rfl,by kernel_rfl⟩
     ·refine AWP.skip (LeQ.start (LeQ.pk [0,6,8,9,20,21,22] 1 ?_))
      exact⟨rfl,f,d,(someb hF).symm,by kernel_rfl,by kernel_rfl⟩
    ·rintro _ _ _ ⟨rfl,m,i,rfl,rfl,rfl⟩
     refine AWP.rg0 [] [(0,(slc 13 Zc b)),(6,(.ptr 0 0)),(8,(slc 10 Za a.2.1)),(9,(slc 10 Za i)),(20,(slc 1 Zo a.1)),(21,(i64 (List.length a.1:Int))),(22,(i64 (ZI (c + (1:Int)))))] (LeQ.start (LeQ.pk [0,6,8,9,20,21,22] 1 ?_))
     exact⟨t,Nat.lt_succ_self _,m,i,(ZI (c + (1:Int))),hF,by kernel_rfl,by kernel_rfl⟩
   ·refine AWP.exit (LeQ.start (LeQ.pk [6,8,9] 1 ?_))
    exact⟨rfl,f,d,(someb hF).symm,by kernel_rfl,by kernel_rfl⟩
 ·rintro _ _ _ ⟨rfl,k,l,rfl,rfl,rfl⟩
  refine AWP.seq ?_
  obtain⟨o,b6,hF⟩:=bindb hF
  obtain⟨w,b7,hF⟩:=bindb hF
  refine AWP.rg [(2,.call Tryz.func53 [] (Zgd k l a.2.1 o b6)),(3,.call Tryz.func55 [] (Zji o.2 o.1 w b7))] [(4,(slc 10 Za w.1)),(5,(i64 w.2))] [.cells (Zl o.2)] (AWP.ret ?_)
  have hr:=someb hF
  subst hr
  exact(FnQ.f0 0 (.inr rfl))
def Zt4 (r:ZL):PV→List Blk→Prop:=fun p K=>p=(slc 10 Za r)∧K=[]
theorem Zkp (a:ZL) (r:ZL) (hF:Zgn a=some r):ACall Tryz.prog glob 61 [(slc 10 Za a)] [] (Zt4 r):=by
 refine ACall.body Tryz.func61 rfl (by kernel_rfl) ?_
 unfold Zgn at hF
 refine AWP.seq (AWP.rg0 [] [(0,(slc 10 Za a))] (AWP.seq (AWP.rg0 [] [(0,(slc 10 Za a)),(3,nils)] ?_)))
 refine AWP.own (H':=[bf 10 57 Za ([]:ZL) false]) (st':=[(3,(.own 0 (List.length ([]:ZL)))),(0,(slc 10 Za a))]) 3 10 57 (by kernel_rfl) (by kernel_rfl) (by kernel_rfl) ?_
 refine AWP.pick (st':=[(0,(slc 10 Za a)),(3,(.own 0 (List.length ([]:ZL))))]) (ks:=[0,3]) (by kernel_rfl) ?_
 refine AWP.seq (AWP.seq (AWP.rg0 [] [(0,(slc 10 Za a)),(3,(.own 0 (List.length ([]:ZL)))),(4,(i64 (0:Int)))] ?_))
 obtain⟨d,m,hF⟩:=bindb hF
 refine AWP.mid (fun e st H=>e=.normal∧st=[(3,(.own 0 (List.length d)))]∧H=[bf 10 57 Za d false]) ?_ ?_
 ·clear hF
  refine AWP.kp [0,3,4] 1 ?_
  refine AWP.bround (fun n st H=>∃ c,∃ b,Zed a n c b=some d∧st=[(0,(slc 10 Za a)),(3,(.own 0 (List.length c))),(4,(i64 b))]∧H=[bf 10 57 Za c false]) fuel ⟨([]:ZL),(0:Int),m,by kernel_rfl,by kernel_rfl⟩ ?_
  rintro g st H ⟨c,b,hF,rfl,rfl⟩
  cases g with
  | zero=>exact noneb hF
  | succ g=>
   rw [Zed] at hF
   refine AWP.seq (AWP.seq (AWP.rg0 [(2,.len Za a)] [(0,(slc 10 Za a)),(3,(.own 0 (List.length c))),(4,(i64 b)),(8,(vb (decide (b<(List.length a:Int)))))] ?_))
   refine AWP.cif hF (fun o hF=>?_) (fun o hF=>?_)
   ·refine AWP.skip ?_
    obtain⟨f,p,hF⟩:=bindb hF
    refine AWP.seq ?_
    refine AWP.mid (fun e st H=>e=.normal∧st=[(0,(slc 10 Za a)),(3,(.own 0 (List.length f))),(4,(i64 b))]∧H=[bf 10 57 Za f false]) ?_ ?_
    ·clear hF
     have hF:=p
     refine AWP.block (AWP.seq ?_)
     obtain⟨q,u,hF⟩:=bindb hF
     obtain⟨j,v,hF⟩:=bindb hF
     refine AWP.rg0 [(2,.idx Za u),(4,.call Tryz.func96 [] (Zgs q j v))] [(0,(slc 10 Za a)),(3,(.own 0 (List.length c))),(4,(i64 b)),(15,(vb j))] ?_
     refine AWP.cif hF (fun w hF=>?_) (fun w hF=>?_)
     ·obtain⟨k,x,hF⟩:=bindb hF
      obtain⟨y,hF⟩:=chkb hF
      refine AWP.rg [(3,.idx Za x),(6,.app Za (fun _=>by kernel_rfl) y)] [(0,(slc 10 Za a)),(3,(.own 0 (List.length (c++[k])))),(4,(i64 b))] [bf 10 57 Za (c++[k]) false] (LeQ.start (LeQ.pk [0,3,4] 1 ?_))
      have hr:=someb hF
      subst hr
      exact⟨rfl,by kernel_rfl,by kernel_rfl⟩
     ·refine AWP.skip (LeQ.start (LeQ.pk [0,3,4] 1 ?_))
      have hr:=someb hF
      subst hr
      exact⟨rfl,by kernel_rfl,by kernel_rfl⟩
    ·rintro _ _ _ ⟨rfl,rfl,rfl⟩
     refine AWP.rg0 [] [(0,(slc 10 Za a)),(3,(.own 0 (List.length f))),(4,(i64 (ZI (b + (1:Int)))))] (LeQ.start (LeQ.pk [0,3,4] 1 ?_))
     exact⟨g,Nat.lt_succ_self _,f,(ZI (b + (1:Int))),hF,by kernel_rfl,by kernel_rfl⟩
   ·refine AWP.exit (LeQ.start (LeQ.pk [3] 1 ?_))
    have hr:=someb hF
    subst hr
    exact⟨rfl,by kernel_rfl,by kernel_rfl⟩
 ·rintro _ _ _ ⟨rfl,rfl,rfl⟩
  refine AWP.seq (AWP.rg0 [] [(2,(.own 0 (List.length d)))] (AWP.ret ?_))
  have hr:=someb hF
  subst hr
  exact(FnQ.f1 0 (.inr rfl) (.inl (Wk.ownT (i:=0) (s:=10) (t:=57) (l:=d) (sh:=false) (row:=Za) (by kernel_rfl) (.inl rfl))))
def Zm0 (r:Bool):PV→List Blk→Prop:=fun p K=>p=(vb r)∧K=[]
abbrev Zm1 (r:Bool):Exit→St→List Blk→Prop:=FnQ Tryz.prog Tryz.f159.results 0 (Zm0 r)
theorem Zt5 (a:ZL) (b:ZL) (c:Int) (r:Bool) (hF:Zgo a b c=some r):ACall Tryz.prog glob 159 [(slc 10 Za a),(slc 10 Za b),(i64 c)] [] (Zm0 r):=by
 refine ACall.body Tryz.func159 rfl (by kernel_rfl) ?_
 unfold Zgo at hF
 refine AWP.seq (AWP.rg0 [] [(0,(slc 10 Za a)),(1,(slc 10 Za b)),(2,(i64 c))] (AWP.seq (AWP.seq (AWP.rg0 [(1,.len Za a),(3,.len Za b)] [(0,(slc 10 Za a)),(1,(slc 10 Za b)),(2,(i64 c)),(13,(vb ((List.length a:Int) != (List.length b:Int))))] ?_))))
 refine AWP.cif hF (fun q hF=>?_) (fun q hF=>?_)
 ·refine AWP.seq (AWP.rg0 [] [(6,(vb false))] (AWP.ret ?_))
  have hr:=someb hF
  subst hr
  exact(FnQ.f0 0 (.inr rfl))
 ·refine AWP.skip (AWP.seq (AWP.seq (AWP.rg0 [] [(0,(slc 10 Za a)),(1,(slc 10 Za b)),(2,(i64 c)),(7,(i64 (0:Int)))] ?_)))
  obtain⟨g,s,hF⟩:=bindb hF
  refine AWP.mid (fun e st H=>(e=.normal∧g=(.inl ())∧st=[]∧H=[])∨(e=.ret∧∃ r,g=(.inr r)∧Zm1 r e st H)) ?_ ?_
  ·clear hF
   refine AWP.kp [0,1,2,7] 0 ?_
   refine AWP.bround (fun n st H=>∃ d,Zef a b c n d=some g∧st=[(0,(slc 10 Za a)),(1,(slc 10 Za b)),(2,(i64 c)),(7,(i64 d))]∧H=[]) fuel ⟨(0:Int),s,by kernel_rfl,by kernel_rfl⟩ ?_
   rintro i st H ⟨d,hF,rfl,rfl⟩
   cases i with
   | zero=>exact noneb hF
   | succ i=>
    rw [Zef] at hF
    refine AWP.seq (AWP.seq (AWP.rg0 [(2,.len Za a)] [(0,(slc 10 Za a)),(1,(slc 10 Za b)),(2,(i64 c)),(7,(i64 d)),(17,(vb (decide (d<(List.length a:Int)))))] ?_))
    refine AWP.cif hF (fun t hF=>?_) (fun t hF=>?_)
    ·refine AWP.skip (AWP.seq (AWP.block (AWP.seq (AWP.rg0 [] [(0,(slc 10 Za a)),(1,(slc 10 Za b)),(2,(i64 c)),(7,(i64 d)),(8,(i64 c))] ?_))))
     obtain⟨j,u,hF⟩:=bindb hF
     refine AWP.mid (fun e st H=>(e=.normal∧j=(.inl ())∧st=[(0,(slc 10 Za a)),(1,(slc 10 Za b)),(2,(i64 c)),(7,(i64 d))]∧H=[])∨(e=.ret∧∃ r,j=(.inr r)∧Zm1 r e st H)) ?_ ?_
     ·clear hF
      refine AWP.kp [0,1,2,7,8] 0 ?_
      refine AWP.bround (fun n st H=>∃ f,Zee a b d n f=some j∧st=[(0,(slc 10 Za a)),(1,(slc 10 Za b)),(2,(i64 c)),(7,(i64 d)),(8,(i64 f))]∧H=[]) fuel ⟨c,u,by kernel_rfl,by kernel_rfl⟩ ?_
      rintro k st H ⟨f,hF,rfl,rfl⟩
      cases k with
      | zero=>exact noneb hF
      | succ k=>
       rw [Zee] at hF
       refine AWP.seq (AWP.seq (AWP.rg0 [] [(0,(slc 10 Za a)),(1,(slc 10 Za b)),(2,(i64 c)),(7,(i64 d)),(8,(i64 f)),(22,(vb (decide (f<(5:Int)))))] ?_))
       refine AWP.cif hF (fun v hF=>?_) (fun v hF=>?_)
       ·refine AWP.skip (AWP.seq (AWP.block (AWP.seq ?_)))
        obtain⟨l,w,hF⟩:=bindb hF
        obtain⟨m,hF⟩:=chkb hF
        obtain⟨o,x,hF⟩:=bindb hF
        obtain⟨p,hF⟩:=chkb hF
        refine AWP.dr [(3,.idx Za w),(4,.ixd m),(5,.ldA Zk (Arr5.get l) 0 2 0 m),(9,.idx Za x),(10,.ixd p),(11,.ldA Zk (Arr5.get o) 0 2 0 p)] 13 [] [] [] [(0,(slc 10 Za a)),(1,(slc 10 Za b)),(2,(i64 c)),(7,(i64 d)),(8,(i64 f)),(37,(vb (!(Zdp (Arr5.get l f) (Arr5.get o f)))))] [] ?_
        refine AWP.cif hF (fun y hF=>?_) (fun y hF=>?_)
        ·refine AWP.seq (AWP.rg0 [] [(6,(vb false))] (AWP.ret ?_))
         exact LeQ.of (.inr ⟨rfl,false,(someb hF).symm,(FnQ.f0 0 (.inr rfl))⟩)
        ·refine AWP.skip (AWP.rg0 [] [(0,(slc 10 Za a)),(1,(slc 10 Za b)),(2,(i64 c)),(7,(i64 d)),(8,(i64 (ZI (f + (1:Int)))))] (LeQ.start (LeQ.pk [0,1,2,7,8] 0 ?_)))
         exact⟨k,Nat.lt_succ_self _,(ZI (f + (1:Int))),hF,by kernel_rfl,by kernel_rfl⟩
       ·refine AWP.exit (LeQ.start (LeQ.pk [0,1,2,7] 0 ?_))
        exact(.inl ⟨rfl,(someb hF).symm,by kernel_rfl,by kernel_rfl⟩)
     ·rintro _ _ _ (⟨rfl,rfl,rfl,rfl⟩ | ⟨rfl,z,rfl,hq⟩)
      ·refine AWP.rg0 [] [(0,(slc 10 Za a)),(1,(slc 10 Za b)),(2,(i64 c)),(7,(i64 (ZI (d + (1:Int)))))] (LeQ.start (LeQ.pk [0,1,2,7] 0 ?_))
       exact⟨i,Nat.lt_succ_self _,(ZI (d + (1:Int))),hF,by kernel_rfl,by kernel_rfl⟩
      ·exact LeQ.of (.inr ⟨rfl,z,(someb hF).symm,hq⟩)
    ·refine AWP.exit (LeQ.start (LeQ.pk [] 0 ?_))
     exact(.inl ⟨rfl,(someb hF).symm,by kernel_rfl,by kernel_rfl⟩)
  ·rintro _ _ _ (⟨rfl,rfl,rfl,rfl⟩ | ⟨rfl,a0,rfl,hq⟩)
   ·refine AWP.seq (AWP.rg0 [] [(6,(vb true))] (AWP.ret ?_))
    have hr:=someb hF
    subst hr
    exact(FnQ.f0 0 (.inr rfl))
   ·have hr:=someb hF
    subst hr
    exact hq
def Ziq (r:Bool):PV→List Blk→Prop:=fun p K=>p=(vb r)∧K=[]
abbrev Zir (r:Bool):Exit→St→List Blk→Prop:=FnQ Tryz.prog Tryz.f156.results 0 (Ziq r)
theorem Zob:∀(nr:Nat) (a:ZL) (b:Int) (r:Bool) (hF:Zbq nr a b=some r),ACall Tryz.prog glob 156 [(slc 10 Za a),(i64 b)] [] (Ziq r):=by
 intro nr
 induction nr with
 | zero=>intro a b r hF; exact noneb (by rw [Zbq] at hF; exact hF)
 | succ nr ih=>
  intro a b r hF
  refine ACall.body Tryz.func156 rfl (by kernel_rfl) ?_
  rw [Zbq] at hF
  refine AWP.seq (AWP.rg0 [] [(0,(slc 10 Za a)),(1,(i64 b))] (AWP.seq (AWP.seq (AWP.rg0 [] [(0,(slc 10 Za a)),(1,(i64 b)),(12,(vb (b == (5:Int))))] ?_))))
  refine AWP.cif hF (fun b0 hF=>?_) (fun b0 hF=>?_)
  ·refine AWP.seq (AWP.rg0 [(1,.len Za a)] [(4,(vb ((List.length a:Int) == (1:Int))))] (AWP.ret ?_))
   have hr:=someb hF
   subst hr
   exact(FnQ.f0 0 (.inr rfl))
  ·refine AWP.skip (AWP.seq (AWP.rg0 [] [(0,(slc 10 Za a)),(1,(i64 b)),(5,nils)] (AWP.seq (AWP.seq (AWP.rg0 [] [(0,(slc 10 Za a)),(1,(i64 b)),(5,nils),(6,(i64 (0:Int)))] ?_)))))
   obtain⟨x,b1,hF⟩:=bindb hF
   refine AWP.mid (fun e st H=>(e=.normal∧x=(.inl ())∧st=[]∧H=[])∨(e=.ret∧∃ r,x=(.inr r)∧Zir r e st H)) ?_ ?_
   ·clear hF
    refine AWP.wk (p:=nils) (q:=(slc 10 Za ([]:ZL))) (st':=[(5,(slc 10 Za ([]:ZL))),(0,(slc 10 Za a)),(1,(i64 b)),(6,(i64 (0:Int)))]) 5 (by kernel_rfl) (.nil 10) (by kernel_rfl) ?_
    refine AWP.kp [0,1,5,6] 0 ?_
    refine AWP.bround (fun n st H=>∃ d,∃ c,Zcf a b (Zbq nr) n d c=some x∧st=[(0,(slc 10 Za a)),(1,(i64 b)),(5,(slc 10 Za d)),(6,(i64 c))]∧H=[]) fuel ⟨([]:ZL),(0:Int),b1,by kernel_rfl,by kernel_rfl⟩ ?_
    rintro y st H ⟨d,c,hF,rfl,rfl⟩
    cases y with
    | zero=>exact noneb hF
    | succ y=>
     rw [Zcf] at hF
     refine AWP.seq (AWP.seq (AWP.rg0 [(2,.len Za a)] [(0,(slc 10 Za a)),(1,(i64 b)),(5,(slc 10 Za d)),(6,(i64 c)),(19,(vb (decide (c<(List.length a:Int)))))] ?_))
     refine AWP.cif hF (fun b2 hF=>?_) (fun b2 hF=>?_)
     ·refine AWP.skip ?_
      obtain⟨a0,b3,hF⟩:=bindb hF
      refine AWP.seq ?_
      refine AWP.mid (fun e st H=>(e=.normal∧∃ i,a0=(.inl i)∧st=[(0,(slc 10 Za a)),(1,(i64 b)),(5,(slc 10 Za i)),(6,(i64 c))]∧H=[])∨(e=.ret∧∃ r,a0=(.inr r)∧Zir r e st H)) ?_ ?_
      ·clear hF
       have hF:=b3
       refine AWP.block (AWP.seq (AWP.rg0 [] [(0,(slc 10 Za a)),(1,(i64 b)),(5,(slc 10 Za d)),(6,(i64 c)),(7,(i64 c))] (AWP.seq ?_)))
       obtain⟨f,b4,hF⟩:=bindb hF
       refine AWP.mid (fun e st H=>e=.normal∧st=[(0,(slc 10 Za a)),(1,(i64 b)),(5,(slc 10 Za d)),(6,(i64 c)),(7,(i64 f))]∧H=[]) ?_ ?_
       ·clear hF
        refine AWP.kp [0,1,5,6,7] 0 ?_
        refine AWP.bround (fun n st H=>∃ k,Zc5 a b c n k=some f∧st=[(0,(slc 10 Za a)),(1,(i64 b)),(5,(slc 10 Za d)),(6,(i64 c)),(7,(i64 k))]∧H=[]) fuel ⟨c,b4,by kernel_rfl,by kernel_rfl⟩ ?_
        rintro z st H ⟨k,hF,rfl,rfl⟩
        cases z with
        | zero=>exact noneb hF
        | succ z=>
         rw [Zc5] at hF
         refine AWP.seq (AWP.seq ?_)
         obtain⟨b5,o,hF⟩:=bindb hF
         replace o:=someb o
         obtain⟨b6,a1,hF⟩:=bindb hF
         refine AWP.to [(0,(slc 10 Za a)),(1,(i64 b)),(5,(slc 10 Za d)),(6,(i64 c)),(7,(i64 k)),(43,(vb b6))] [] ?_ ?_
         ·cases b5 with
          | false=>
           have b7:=someb (ifF a1 rfl)
           subst b7
           exact AWP.drT [(2,.len Za a),(4,.bool o)] 19 [] [] []
          | true=>
           have g:=ifT a1 rfl
           obtain⟨b8,b9,g⟩:=bindb g
           obtain⟨a2,g⟩:=chkb g
           obtain⟨c0,c1,g⟩:=bindb g
           obtain⟨a3,g⟩:=chkb g
           replace g:=someb g
           subst g
           exact AWP.drT [(2,.len Za a),(4,.bool o),(8,.idx Za b9),(9,.ixd a2),(10,.ldA Zk (Arr5.get b8) 0 2 0 a2),(14,.idx Za c1),(15,.ixd a3),(16,.ldA Zk (Arr5.get c0) 0 2 0 a3)] 19 [] [] []
         refine AWP.cif hF (fun c2 hF=>?_) (fun c2 hF=>?_)
         ·refine AWP.skip (AWP.block (AWP.rg0 [] [(0,(slc 10 Za a)),(1,(i64 b)),(5,(slc 10 Za d)),(6,(i64 c)),(7,(i64 (ZI (k + (1:Int)))))] (LeQ.start (LeQ.pk [0,1,5,6,7] 0 ?_))))
          exact⟨z,Nat.lt_succ_self _,(ZI (k + (1:Int))),hF,by kernel_rfl,by kernel_rfl⟩
         ·refine AWP.exit (LeQ.start (LeQ.pk [0,1,5,6,7] 0 ?_))
          have hr:=someb hF
          subst hr
          exact⟨rfl,by kernel_rfl,by kernel_rfl⟩
       ·rintro _ _ _ ⟨rfl,rfl,rfl⟩
        refine AWP.seq ?_
        obtain⟨c3,hF⟩:=chkb hF
        refine AWP.rg0 [(3,.slice Za a c3)] [(0,(slc 10 Za a)),(1,(i64 b)),(5,(slc 10 Za d)),(6,(i64 c)),(8,(slc 10 Za (List.drop (Int.toNat c) (List.take (Int.toNat f) a))))] ?_
        obtain⟨a4,c4,hF⟩:=bindb hF
        refine AWP.seq ?_
        refine AWP.mid (fun e st H=>(e=.normal∧a4=(.inl ())∧st=[(0,(slc 10 Za a)),(1,(i64 b)),(6,(i64 c)),(8,(slc 10 Za (List.drop (Int.toNat c) (List.take (Int.toNat f) a))))]∧H=[])∨(e=.ret∧∃ r,a4=(.inr r)∧Zir r e st H)) ?_ ?_
        ·clear hF
         have hF:=c4
         refine AWP.seq (AWP.rg0 [] [(0,(slc 10 Za a)),(1,(i64 b)),(5,(slc 10 Za d)),(6,(i64 c)),(8,(slc 10 Za (List.drop (Int.toNat c) (List.take (Int.toNat f) a)))),(51,(vb (decide (c > (0:Int)))))] ?_)
         refine AWP.cif hF (fun c5 hF=>?_) (fun c5 hF=>?_)
         ·refine AWP.seq ?_
          obtain⟨s,a5,hF⟩:=bindb hF
          obtain⟨t,hF⟩:=chkb hF
          obtain⟨u,a6,hF⟩:=bindb hF
          obtain⟨v,hF⟩:=chkb hF
          refine AWP.to [(0,(slc 10 Za a)),(1,(i64 b)),(5,(slc 10 Za d)),(6,(i64 c)),(8,(slc 10 Za (List.drop (Int.toNat c) (List.take (Int.toNat f) a)))),(9,(.ptr 0 0)),(10,(.ptr 1 0))] [.cells (Zk (Arr5.get s b)),.cells (Zk (Arr5.get u b))] ?_ ?_
          ·refine AWP.of_draw (by kernel_rfl) ?_
           refine ADraw.either 14 13 (by kernel_rfl) ?_ ?_
           ·exact ADraw.drT [(4,.idx Za a5),(5,.ixd t),(6,.ldA Zk (Arr5.get s) 0 2 0 t),(10,.idx Za a6),(11,.ixd v),(12,.ldA Zk (Arr5.get u) 0 2 0 v)] 16 [] [13,14,15] []
           ·exact ADraw.drT [(4,.idx Za a5),(5,.ixd t),(6,.ldA Zk (Arr5.get s) 0 2 0 t),(10,.idx Za a6),(11,.ixd v),(12,.ldA Zk (Arr5.get u) 0 2 0 v)] 16 [0,1,2,3,4,5,6,7,8,9,10,11,12,14,13,15] [14,13,15] [(0,1)]
          refine AWP.seq ?_
          obtain⟨c6,l,hF⟩:=bindb hF
          replace l:=someb l
          obtain⟨c7,a7,hF⟩:=bindb hF
          refine AWP.to [(0,(slc 10 Za a)),(1,(i64 b)),(6,(i64 c)),(8,(slc 10 Za (List.drop (Int.toNat c) (List.take (Int.toNat f) a)))),(84,(vb c7))] [.cells (Zk (Arr5.get s b)),.cells (Zk (Arr5.get u b))] ?_ ?_
          ·cases c6 with
           | false=>
            have j:=ifF a7 rfl
            obtain⟨c8,w,j⟩:=bindb j
            replace w:=someb w
            obtain⟨d8,a8,j⟩:=bindb j
            replace j:=someb j
            subst j
            cases c8 with
            | false=>
             have c9:=someb (ifF a8 rfl)
             subst c9
             exact AWP.rgT [(5,.bool l),(12,.bool w)]
            | true=>
             have m:=ifT a8 rfl
             obtain⟨d0,d1,m⟩:=bindb m
             replace m:=someb m
             subst m
             exact AWP.rgT [(5,.bool l),(12,.bool w),(17,.call Tryz.func159 [] (Zt5 d (List.drop (Int.toNat c) (List.take (Int.toNat f) a)) (ZI (b + (1:Int))) d0 d1))]
           | true=>
            have d2:=someb (ifT a7 rfl)
            subst d2
            exact AWP.rgT [(5,.bool l)]
          refine AWP.cif hF (fun d3 hF=>?_) (fun d3 hF=>?_)
          ·refine AWP.seq (AWP.rg0 [] [(4,(vb false))] (AWP.ret ?_))
           exact LeQ.of (.inr ⟨rfl,false,(someb hF).symm,(FnQ.f0 0 (.inr rfl))⟩)
          ·refine AWP.skip (LeQ.start (LeQ.pk [0,1,6,8] 0 ?_))
           exact(.inl ⟨rfl,(someb hF).symm,by kernel_rfl,by kernel_rfl⟩)
         ·refine AWP.skip (LeQ.start (LeQ.pk [0,1,6,8] 0 ?_))
          exact(.inl ⟨rfl,(someb hF).symm,by kernel_rfl,by kernel_rfl⟩)
        ·rintro _ _ _ (⟨rfl,rfl,rfl,rfl⟩ | ⟨rfl,d4,rfl,hq⟩)
         ·refine AWP.seq (AWP.seq ?_)
          obtain⟨a9,d5,hF⟩:=bindb hF
          refine AWP.rg0 [(3,.call Tryz.func156 [] (ih (List.drop (Int.toNat c) (List.take (Int.toNat f) a)) (ZI (b + (1:Int))) a9 d5))] [(0,(slc 10 Za a)),(1,(i64 b)),(6,(i64 c)),(8,(slc 10 Za (List.drop (Int.toNat c) (List.take (Int.toNat f) a)))),(89,(vb (!a9)))] ?_
          refine AWP.cif hF (fun d6 hF=>?_) (fun d6 hF=>?_)
          ·refine AWP.seq (AWP.rg0 [] [(4,(vb false))] (AWP.ret ?_))
           exact LeQ.of (.inr ⟨rfl,false,(someb hF).symm,(FnQ.f0 0 (.inr rfl))⟩)
          ·refine AWP.skip (AWP.rg0 [] [(0,(slc 10 Za a)),(1,(i64 b)),(5,(slc 10 Za (List.drop (Int.toNat c) (List.take (Int.toNat f) a)))),(6,(i64 c))] (LeQ.start (LeQ.pk [0,1,5,6] 0 ?_)))
           exact(.inl ⟨rfl,(List.drop (Int.toNat c) (List.take (Int.toNat f) a)),(someb hF).symm,by kernel_rfl,by kernel_rfl⟩)
         ·exact LeQ.of (.inr ⟨rfl,d4,(someb hF).symm,hq⟩)
      ·rintro _ _ _ (⟨rfl,i,rfl,rfl,rfl⟩ | ⟨rfl,d7,rfl,hq⟩)
       ·refine AWP.rg0 [(2,.len Za i)] [(0,(slc 10 Za a)),(1,(i64 b)),(5,(slc 10 Za i)),(6,(i64 (ZI (c + (List.length i:Int)))))] (LeQ.start (LeQ.pk [0,1,5,6] 0 ?_))
        exact⟨y,Nat.lt_succ_self _,i,(ZI (c + (List.length i:Int))),hF,by kernel_rfl,by kernel_rfl⟩
       ·exact LeQ.of (.inr ⟨rfl,d7,(someb hF).symm,hq⟩)
     ·refine AWP.exit (LeQ.start (LeQ.pk [] 0 ?_))
      exact(.inl ⟨rfl,(someb hF).symm,by kernel_rfl,by kernel_rfl⟩)
   ·rintro _ _ _ (⟨rfl,rfl,rfl,rfl⟩ | ⟨rfl,d9,rfl,hq⟩)
    ·refine AWP.seq (AWP.rg0 [] [(4,(vb true))] (AWP.ret ?_))
     have hr:=someb hF
     subst hr
     exact(FnQ.f0 0 (.inr rfl))
    ·have hr:=someb hF
     subst hr
     exact hq
theorem Zpq (a:ZL) (b:Int) (r:Bool) (hF:Zbq fuel a b=some r):ACall Tryz.prog glob 156 [(slc 10 Za a),(i64 b)] [] (Ziq r):=Zob fuel a b r hF
def Zt6 (r:Bool):PV→List Blk→Prop:=fun p K=>p=(vb r)∧K=[]
theorem Zt7 (a:ZL) (r:Bool) (hF:Zgp a=some r):ACall Tryz.prog glob 153 [(slc 10 Za a)] [] (Zt6 r):=by
 refine ACall.body Tryz.func153 rfl (by kernel_rfl) ?_
 unfold Zgp at hF
 refine AWP.seq (AWP.rg0 [] [(0,(slc 10 Za a))] (AWP.seq ?_))
 obtain⟨l,b,hF⟩:=bindb hF
 replace b:=someb b
 obtain⟨u,j,hF⟩:=bindb hF
 obtain⟨m,c,hF⟩:=bindb hF
 replace c:=someb c
 obtain⟨n,i,hF⟩:=bindb hF
 refine AWP.to [(2,(vb n))] [] ?_ ?_
 ·cases l with
  | false=>
   have o:=someb (ifF j rfl)
   subst o
   subst c
   have p:=someb (ifF i rfl)
   subst p
   exact AWP.rgT [(1,.len Za a),(3,.bool b)]
  | true=>
   have d:=ifT j rfl
   obtain⟨g,k,d⟩:=bindb d
   replace d:=someb d
   subst d
   cases m with
   | false=>
    have q:=someb (ifF i rfl)
    subst q
    exact AWP.rgT [(1,.len Za a),(3,.bool b),(5,.call Tryz.func61 [] (Zkp a g k)),(6,.len Za g),(8,.len Za a),(11,.bool c)]
   | true=>
    have f:=ifT i rfl
    obtain⟨s,t,f⟩:=bindb f
    replace f:=someb f
    subst f
    exact AWP.rgT [(1,.len Za a),(3,.bool b),(5,.call Tryz.func61 [] (Zkp a g k)),(6,.len Za g),(8,.len Za a),(11,.bool c),(13,.call Tryz.func156 [] (Zpq a (0:Int) s t))]
 refine AWP.ret ?_
 have hr:=someb hF
 subst hr
 exact(FnQ.f0 0 (.inr rfl))
def Zt8 (r:(ZL × Int)):PV→List Blk→Prop:=fun p K=>p=(.tup [(slc 10 Za r.1),(i64 r.2)])∧K=[]
theorem Zkq (a:ZL) (r:(ZL × Int)) (hF:Zfn a=some r):ACall Tryz.prog glob 149 [(slc 10 Za a)] [] (Zt8 r):=by
 refine ACall.body Tryz.func149 rfl (by kernel_rfl) ?_
 unfold Zfn at hF
 refine AWP.seq (AWP.rg0 [] [(0,(slc 10 Za a))] (AWP.seq (AWP.seq ?_)))
 obtain⟨c,d,hF⟩:=bindb hF
 refine AWP.rg0 [(1,.call Tryz.func153 [] (Zt7 a c d))] [(0,(slc 10 Za a)),(5,(vb c))] ?_
 refine AWP.cif hF (fun f hF=>?_) (fun f hF=>?_)
 ·refine AWP.seq (AWP.rg0 [] [(2,(slc 10 Za a)),(3,(i64 (0:Int)))] (AWP.ret ?_))
  have hr:=someb hF
  subst hr
  exact(FnQ.f0 0 (.inr rfl))
 ·refine AWP.skip (AWP.seq ?_)
  obtain⟨b,g,hF⟩:=bindb hF
  refine AWP.rg0 [(1,.call Tryz.func48 [] (Zn4 a b g))] [(2,(slc 10 Za b.1)),(3,(i64 b.2))] (AWP.ret ?_)
  have hr:=someb hF
  subst hr
  exact(FnQ.f0 0 (.inr rfl))
def Zrt (r:(ZL × Int)):PV→List Blk→Prop:=fun p K=>p=(.tup [(slc 10 Za r.1),(i64 r.2)])∧K=[]
theorem Zjo (f:ZL) (d:ZL) (b:Int) (r:(ZL × Int)) (hF:Zep f d b=some r):ACall Tryz.prog glob 148 [(slc 10 Za f),(slc 10 Za d),(i64 b)] [] (Zrt r):=by
 refine ACall.body Tryz.func148 rfl (by kernel_rfl) ?_
 unfold Zep at hF
 refine AWP.seq (AWP.rg0 [] [(0,(slc 10 Za f)),(1,(slc 10 Za d)),(2,(i64 b))] (AWP.seq ?_))
 obtain⟨a,j,hF⟩:=bindb hF
 refine AWP.rg0 [(1,.call Tryz.func149 [] (Zkq f a j))] [(1,(slc 10 Za d)),(2,(i64 b)),(8,(slc 10 Za a.1)),(9,(i64 a.2))] (AWP.seq (AWP.seq (AWP.rg0 [] [(1,(slc 10 Za d)),(2,(i64 b)),(8,(slc 10 Za a.1)),(9,(i64 a.2)),(17,(vb (a.2 != (0:Int))))] ?_)))
 refine AWP.cif hF (fun k hF=>?_) (fun k hF=>?_)
 ·refine AWP.seq (AWP.rg0 [] [(6,nils),(7,(i64 a.2))] (AWP.ret ?_))
  have hr:=someb hF
  subst hr
  exact(FnQ.f1 0 (.inr rfl) (.inr ⟨_,_,rfl,rfl,(.cons _ _ _ _ (.nil 10) (.cons _ _ _ _ (.refl _) .nil))⟩))
 ·refine AWP.skip (AWP.seq ?_)
  obtain⟨c,l,hF⟩:=bindb hF
  refine AWP.rg0 [(1,.call Tryz.func149 [] (Zkq d c l))] [(2,(i64 b)),(8,(slc 10 Za a.1)),(9,(i64 c.2)),(10,(slc 10 Za c.1))] (AWP.seq (AWP.seq (AWP.rg0 [] [(2,(i64 b)),(8,(slc 10 Za a.1)),(9,(i64 c.2)),(10,(slc 10 Za c.1)),(25,(vb (c.2 != (0:Int))))] ?_)))
  refine AWP.cif hF (fun m hF=>?_) (fun m hF=>?_)
  ·refine AWP.seq (AWP.rg0 [] [(6,nils),(7,(i64 c.2))] (AWP.ret ?_))
   have hr:=someb hF
   subst hr
   exact(FnQ.f1 0 (.inr rfl) (.inr ⟨_,_,rfl,rfl,(.cons _ _ _ _ (.nil 10) (.cons _ _ _ _ (.refl _) .nil))⟩))
  ·refine AWP.skip (AWP.seq ?_)
   obtain⟨i,n,hF⟩:=bindb hF
   obtain⟨g,o,hF⟩:=bindb hF
   refine AWP.rg0 [(3,.call Tryz.func60 [] (Zki a.1 c.1 b (0:Int) i n)),(4,.call Tryz.func97 [] (Zjj i g o))] [(6,(slc 10 Za g.1)),(7,(i64 g.2))] (AWP.ret ?_)
   have hr:=someb hF
   subst hr
   exact(FnQ.f0 0 (.inr rfl))
def Zt9 (r:(ZL × Int)):PV→List Blk→Prop:=fun p K=>p=(.tup [(slc 10 Za r.1),(i64 r.2)])∧K=[]
theorem Zua (a:ZL) (b:ZL) (r:(ZL × Int)) (hF:Zgq a b=some r):ACall Tryz.prog glob 137 [(slc 10 Za a),(slc 10 Za b)] [] (Zt9 r):=by
 refine ACall.body Tryz.func137 rfl (by kernel_rfl) ?_
 unfold Zgq at hF
 refine AWP.seq (AWP.rg0 [] [(0,(slc 10 Za a)),(1,(slc 10 Za b))] (AWP.seq ?_))
 obtain⟨c,d,hF⟩:=bindb hF
 refine AWP.rg0 [(2,.call Tryz.func148 [] (Zjo a b (0:Int) c d))] [(4,(slc 10 Za c.1)),(5,(i64 c.2))] (AWP.ret ?_)
 have hr:=someb hF
 subst hr
 exact(FnQ.f0 0 (.inr rfl))
def Zpr (r:(ZL × Int)):PV→List Blk→Prop:=fun p K=>p=(.tup [(slc 10 Za r.1),(i64 r.2)])∧K=[]
theorem Zps (a:ZL) (b:ZL) (r:(ZL × Int)) (hF:Zew a b=some r):ACall Tryz.prog glob 138 [(slc 10 Za a),(slc 10 Za b)] [] (Zpr r):=by
 refine ACall.body Tryz.func138 rfl (by kernel_rfl) ?_
 unfold Zew at hF
 refine AWP.seq (AWP.rg0 [] [(0,(slc 10 Za a)),(1,(slc 10 Za b))] (AWP.seq ?_))
 obtain⟨c,d,hF⟩:=bindb hF
 refine AWP.rg0 [(2,.call Tryz.func148 [] (Zjo a b (1:Int) c d))] [(4,(slc 10 Za c.1)),(5,(i64 c.2))] (AWP.ret ?_)
 have hr:=someb hF
 subst hr
 exact(FnQ.f0 0 (.inr rfl))
def Zqk (r:(ZL × Int)):PV→List Blk→Prop:=fun p K=>p=(.tup [(slc 10 Za r.1),(i64 r.2)])∧K=[]
theorem Zql (a:ZL) (b:ZL) (r:(ZL × Int)) (hF:Zfa a b=some r):ACall Tryz.prog glob 139 [(slc 10 Za a),(slc 10 Za b)] [] (Zqk r):=by
 refine ACall.body Tryz.func139 rfl (by kernel_rfl) ?_
 unfold Zfa at hF
 refine AWP.seq (AWP.rg0 [] [(0,(slc 10 Za a)),(1,(slc 10 Za b))] (AWP.seq ?_))
 obtain⟨c,d,hF⟩:=bindb hF
 refine AWP.rg0 [(2,.call Tryz.func148 [] (Zjo a b (2:Int) c d))] [(4,(slc 10 Za c.1)),(5,(i64 c.2))] (AWP.ret ?_)
 have hr:=someb hF
 subst hr
 exact(FnQ.f0 0 (.inr rfl))
def Zpt (r:(ZL × Zr)):PV→List Blk→Prop:=fun p K=>p=(slc 10 Za r.1)∧K=[.cells (Zu r.2)]
theorem Za2 (d:Zr) (c:Int) (a:ZL) (b:ZL) (r:(ZL × Zr)) (hF:Zv d c a b=some r):ACall Tryz.prog glob 113 [(.ptr 0 0),(i64 c),(slc 10 Za a),(slc 10 Za b)] [.cells (Zu d)] (Zpt r):=by
 refine ACall.body Tryz.func113 rfl (by kernel_rfl) ?_
 unfold Zv at hF
 refine AWP.seq (AWP.rg0 [] [(0,(.ptr 0 0)),(1,(i64 c)),(2,(slc 10 Za a)),(3,(slc 10 Za b))] (AWP.seq (AWP.seq (AWP.rg0 [] [(0,(.ptr 0 0)),(1,(i64 c)),(2,(slc 10 Za a)),(3,(slc 10 Za b)),(14,(vb d.f_failed))] ?_))))
 refine AWP.cif hF (fun l hF=>?_) (fun l hF=>?_)
 ·refine AWP.seq (AWP.rg0 [] [(8,nils)] (AWP.ret ?_))
  have hr:=someb hF
  subst hr
  exact(FnQ.f1 1 (.inr rfl) (.inl (.nil 10)))
 ·refine AWP.skip (AWP.seq (AWP.rg0 [] [(0,(.ptr 0 0)),(1,(i64 c)),(2,(slc 10 Za a)),(3,(slc 10 Za b))] (AWP.seq (AWP.rg0 [] [(0,(.ptr 0 0)),(1,(i64 c)),(2,(slc 10 Za a)),(3,(slc 10 Za b))] ?_))))
  obtain⟨m,n,hF⟩:=bindb hF
  refine AWP.seq ?_
  refine AWP.mid (fun e st H=>(e=.normal∧∃ f,∃ k,m=(f,k)∧st=[(0,(.ptr 0 0)),(9,(slc 10 Za f)),(10,(i64 k))]∧H=[.cells (Zu d)])) ?_ ?_
  ·clear hF
   have hF:=n
   refine AWP.seq (AWP.rg0 [] [(0,(.ptr 0 0)),(2,(slc 10 Za a)),(3,(slc 10 Za b)),(15,(i64 c))] (AWP.block (AWP.seq (AWP.rg0 [] [(0,(.ptr 0 0)),(2,(slc 10 Za a)),(3,(slc 10 Za b)),(15,(i64 c)),(22,(vb (c == (0:Int))))] ?_))))
   refine AWP.cif hF (fun o hF=>?_) (fun o hF=>?_)
   ·obtain⟨g,p,hF⟩:=bindb hF
    refine AWP.rg0 [(2,.call Tryz.func137 [] (Zua a b g p))] [(0,(.ptr 0 0)),(9,(slc 10 Za g.1)),(10,(i64 g.2))] (LeQ.start (LeQ.pk [0,9,10] 1 ?_))
    exact⟨rfl,g.1,g.2,(someb hF).symm,by kernel_rfl,by kernel_rfl⟩
   ·refine AWP.seq (AWP.rg0 [] [(0,(.ptr 0 0)),(2,(slc 10 Za a)),(3,(slc 10 Za b)),(30,(vb (c == (1:Int))))] ?_)
    refine AWP.cif hF (fun q hF=>?_) (fun q hF=>?_)
    ·obtain⟨i,s,hF⟩:=bindb hF
     refine AWP.rg0 [(2,.call Tryz.func138 [] (Zps a b i s))] [(0,(.ptr 0 0)),(9,(slc 10 Za i.1)),(10,(i64 i.2))] (LeQ.start (LeQ.pk [0,9,10] 1 ?_))
     exact⟨rfl,i.1,i.2,(someb hF).symm,by kernel_rfl,by kernel_rfl⟩
    ·obtain⟨j,t,hF⟩:=bindb hF
     refine AWP.rg0 [(2,.call Tryz.func139 [] (Zql a b j t))] [(0,(.ptr 0 0)),(9,(slc 10 Za j.1)),(10,(i64 j.2))] (LeQ.start (LeQ.pk [0,9,10] 1 ?_))
     exact⟨rfl,j.1,j.2,(someb hF).symm,by kernel_rfl,by kernel_rfl⟩
  ·rintro _ _ _ ⟨rfl,f,k,rfl,rfl,rfl⟩
   refine AWP.seq (AWP.rg [] [(9,(slc 10 Za f))] [.cells (Zu ({ d with f_failed:=(k != (0:Int)) }:Zr))] (AWP.seq (AWP.rg0 [] [(8,(slc 10 Za f))] (AWP.ret ?_))))
   have hr:=someb hF
   subst hr
   exact(FnQ.f0 1 (.inr rfl))
def Zpu (r:Bool):PV→List Blk→Prop:=fun p K=>p=(vb r)∧K=[]
theorem Zd4 (a:Zh) (r:Bool) (hF:Zcn a=some r):ACall Tryz.prog glob 122 [(Zg7 a)] [] (Zpu r):=by
 refine ACall.body Tryz.func122 rfl (by kernel_rfl) ?_
 unfold Zcn at hF
 refine AWP.seq (AWP.rg [] [(1,(.ptr 0 0))] [.cells (Zc a)] (AWP.seq ?_))
 obtain⟨d,f,hF⟩:=bindb hF
 obtain⟨i,b,hF⟩:=bindb hF
 replace b:=someb b
 obtain⟨g,c,hF⟩:=bindb hF
 replace c:=someb c
 refine AWP.to [(2,(vb (g && (decide (a.Ports.Hi≤(65535:Int))))))] [.cells (Zc a)] ?_ ?_
 ·cases i with
  | false=>
   subst c
   exact AWP.rgT [(2,.call Tryz.func96 [] (Zgs a.Match d f)),(3,.bool b)]
  | true=>
   cases g with
   | false=>
    exact AWP.rgT [(2,.call Tryz.func96 [] (Zgs a.Match d f)),(3,.bool b),(12,.bool c)]
   | true=>
    exact AWP.rgT [(2,.call Tryz.func96 [] (Zgs a.Match d f)),(3,.bool b),(12,.bool c)]
 refine AWP.ret ?_
 have hr:=someb hF
 subst hr
 exact(FnQ.f0 0 (.inr rfl))
def Zsu (r:ZB):PV→List Blk→Prop:=fun p K=>p=(Zag r)∧K=[]
theorem Zj1 (a:Zh) (b:ZB) (r:ZB) (hF:Zf9 a b=some r):ACall Tryz.prog glob 123 [(Zg7 a),(Zag b)] [] (Zsu r):=by
 refine ACall.body Tryz.func123 rfl (by kernel_rfl) ?_
 unfold Zf9 at hF
 refine AWP.seq (AWP.rg [] [(2,(.ptr 0 0)),(3,(.ptr 1 0)),(4,(.ptr 2 0))] [.cells (Zc a),.cells (Za b),.cells (Za Zm)] (AWP.seq (AWP.dr [] 9 [] [8] [] [(3,(.ptr 1 0)),(4,(.ptr 2 0))] [.cells (Zc a),.cells (Za ({ ({ b with x0:=(Zb.mk a.Addr a.Addr) }:ZB) with x3:=a.Ports }:ZB)),.cells (Za Zm)] (AWP.seq (AWP.rg [] [(4,(.ptr 2 0))] [.cells (Zc a),.cells (Za ({ ({ b with x0:=(Zb.mk a.Addr a.Addr) }:ZB) with x3:=a.Ports }:ZB)),.cells (Za ({ ({ b with x0:=(Zb.mk a.Addr a.Addr) }:ZB) with x3:=a.Ports }:ZB))] (AWP.ret ?_))))))
 have hr:=someb hF
 subst hr
 exact(FnQ.f0 0 (.inr rfl))
def Zub (r:ZL):PV→List Blk→Prop:=fun p K=>p=(slc 10 Za r)∧K=[]
theorem Zm2 (a:ZL) (r:ZL) (hF:Zgr a=some r):ACall Tryz.prog glob 124 [(slc 10 Za a)] [] (Zub r):=by
 refine ACall.body Tryz.func124 rfl (by kernel_rfl) ?_
 unfold Zgr at hF
 refine AWP.seq (AWP.rg0 [] [(0,(slc 10 Za a))] (AWP.seq ?_))
 obtain⟨b,d,hF⟩:=bindb hF
 obtain⟨c,f,hF⟩:=bindb hF
 refine AWP.rg0 [(1,.call Tryz.func61 [] (Zkp a b d)),(2,.call Tryz.func60 [] (Zki b ([]:ZL) (0:Int) (0:Int) c f))] [(2,(slc 10 Za c))] (AWP.ret ?_)
 have hr:=someb hF
 subst hr
 exact(FnQ.f0 0 (.inr rfl))
def Zoc (a:Zr) (r:(ZL × Int)):PV→List Blk→Prop:=fun p K=>p=(.tup [(slc 10 Za r.1),(i64 r.2)])∧K=[.cells (Zu a)]
theorem Zj5 (b:Zr) (a:ZL) (r:(ZL × Int)) (hF:Zd8 b a=some r):ACall Tryz.prog glob 115 [(.ptr 0 0),(slc 10 Za a)] [.cells (Zu b)] (Zoc b r):=by
 refine ACall.body Tryz.func115 rfl (by kernel_rfl) ?_
 unfold Zd8 at hF
 refine AWP.seq (AWP.rg0 [] [(0,(.ptr 0 0)),(1,(slc 10 Za a))] (AWP.seq (AWP.seq (AWP.rg0 [] [(1,(slc 10 Za a)),(9,(vb b.f_failed))] ?_))))
 refine AWP.cif hF (fun c hF=>?_) (fun c hF=>?_)
 ·refine AWP.seq (AWP.rg0 [] [(4,nils),(5,(i64 (3:Int)))] (AWP.ret ?_))
  have hr:=someb hF
  subst hr
  exact(FnQ.f1 1 (.inr rfl) (.inr ⟨_,_,rfl,rfl,(.cons _ _ _ _ (.nil 10) (.cons _ _ _ _ (.refl _) .nil))⟩))
 ·refine AWP.skip (AWP.seq (AWP.rg0 [] [(4,(slc 10 Za a)),(5,(i64 (0:Int)))] (AWP.ret ?_)))
  have hr:=someb hF
  subst hr
  exact(FnQ.f0 1 (.inr rfl))
def Zpv (r:(ZL × Int)):PV→List Blk→Prop:=fun p K=>p=(.tup [(slc 10 Za r.1),(i64 r.2)])∧K=[]
theorem Zpw (a:(List Zh)) (u:ZL) (r:(ZL × Int)) (hF:Zf2 a u=some r):ACall Tryz.prog glob 80 [(slc 13 Zc a),(slc 10 Za u)] [] (Zpv r):=by
 refine ACall.body Tryz.func80 rfl (by kernel_rfl) ?_
 unfold Zf2 at hF
 refine AWP.seq (AWP.rg0 [] [(0,(slc 13 Zc a)),(1,(slc 10 Za u))] (AWP.seq (AWP.rg [] [(0,(slc 13 Zc a)),(1,(slc 10 Za u)),(6,(.ptr 0 0))] [.cells (Zu (Zr.mk false))] (AWP.seq ?_))))
 obtain⟨k,b1,hF⟩:=bindb hF
 refine AWP.rg [(2,.call Tryz.func113 [] (Za2 (Zr.mk false) (0:Int) u ([]:ZL) k b1))] [(0,(slc 13 Zc a)),(6,(.ptr 0 0)),(7,(slc 10 Za k.1))] [.cells (Zu k.2)] (AWP.seq (AWP.rg0 [] [(0,(slc 13 Zc a)),(6,(.ptr 0 0)),(7,(slc 10 Za k.1)),(8,nils)] (AWP.seq (AWP.seq (AWP.rg0 [] [(0,(slc 13 Zc a)),(6,(.ptr 0 0)),(7,(slc 10 Za k.1)),(8,nils),(9,(i64 (0:Int)))] ?_)))))
 obtain⟨a9,b2,hF⟩:=bindb hF
 refine AWP.mid (fun e st H=>(e=.normal∧∃ z,∃ a0,∃ a1,a9=(z,a0,a1)∧st=[(6,(.ptr 0 0)),(7,(slc 10 Za a0)),(8,(slc 10 Za a1))]∧H=[.cells (Zu z)])) ?_ ?_
 ·clear hF
  refine AWP.wk (p:=nils) (q:=(slc 10 Za ([]:ZL))) (st':=[(8,(slc 10 Za ([]:ZL))),(0,(slc 13 Zc a)),(6,(.ptr 0 0)),(7,(slc 10 Za k.1)),(9,(i64 (0:Int)))]) 8 (by kernel_rfl) (.nil 10) (by kernel_rfl) ?_
  refine AWP.kp [0,6,7,8,9] 1 ?_
  refine AWP.bround (fun n st H=>∃ o,∃ g,∃ d,∃ b,Zb1 a n o g d b=some a9∧st=[(0,(slc 13 Zc a)),(6,(.ptr 0 0)),(7,(slc 10 Za g)),(8,(slc 10 Za d)),(9,(i64 b))]∧H=[.cells (Zu o)]) fuel ⟨k.2,k.1,([]:ZL),(0:Int),b2,by kernel_rfl,by kernel_rfl⟩ ?_
  rintro a5 st H ⟨o,g,d,b,hF,rfl,rfl⟩
  cases a5 with
  | zero=>exact noneb hF
  | succ a5=>
   rw [Zb1] at hF
   refine AWP.seq (AWP.seq (AWP.rg0 [(2,.len Zc a)] [(0,(slc 13 Zc a)),(6,(.ptr 0 0)),(7,(slc 10 Za g)),(8,(slc 10 Za d)),(9,(i64 b)),(21,(vb (decide (b<(List.length a:Int)))))] ?_))
   refine AWP.cif hF (fun b3 hF=>?_) (fun b3 hF=>?_)
   ·refine AWP.skip ?_
    obtain⟨b4,b5,hF⟩:=bindb hF
    refine AWP.seq ?_
    refine AWP.mid (fun e st H=>(e=.normal∧∃ a2,∃ v,∃ w,b4=(a2,v,w)∧st=[(0,(slc 13 Zc a)),(6,(.ptr 0 0)),(7,(slc 10 Za v)),(8,(slc 10 Za w)),(9,(i64 b))]∧H=[.cells (Zu a2)])) ?_ ?_
    ·clear hF
     have hF:=b5
     refine AWP.block (AWP.seq (AWP.seq ?_))
     obtain⟨b6,b7,hF⟩:=bindb hF
     obtain⟨b0,b8,hF⟩:=bindb hF
     refine AWP.rg0 [(2,.idx Zc b7),(4,.call Tryz.func122 [] (Zd4 b6 b0 b8))] [(0,(slc 13 Zc a)),(6,(.ptr 0 0)),(7,(slc 10 Za g)),(8,(slc 10 Za d)),(9,(i64 b)),(29,(vb (!b0)))] ?_
     refine AWP.cif hF (fun b9 hF=>?_) (fun b9 hF=>?_)
     ·refine AWP.exit (LeQ.start (LeQ.pk [0,6,7,8,9] 1 ?_))
      exact⟨rfl,o,g,d,(someb hF).symm,by kernel_rfl,by kernel_rfl⟩
     ·refine AWP.skip (AWP.seq ?_)
      obtain⟨c0,c1,hF⟩:=bindb hF
      obtain⟨f,c2,hF⟩:=bindb hF
      refine AWP.rg [(4,.idx Zc c1),(8,.call Tryz.func113 [] (Za2 o (1:Int) g [c0.Match] f c2))] [(0,(slc 13 Zc a)),(6,(.ptr 0 0)),(7,(slc 10 Za g)),(8,(slc 10 Za d)),(9,(i64 b)),(10,(slc 10 Za f.1))] [.cells (Zu f.2)] (AWP.seq ?_)
      obtain⟨c3,c4,hF⟩:=bindb hF
      obtain⟨c,c5,hF⟩:=bindb hF
      refine AWP.rg [(4,.idx Zc c4),(8,.call Tryz.func113 [] (Za2 f.2 (2:Int) g [c3.Match] c c5))] [(0,(slc 13 Zc a)),(6,(.ptr 0 0)),(7,(slc 10 Za c.1)),(8,(slc 10 Za d)),(9,(i64 b)),(10,(slc 10 Za f.1))] [.cells (Zu c.2)] (AWP.seq (AWP.rg0 [] [(0,(slc 13 Zc a)),(6,(.ptr 0 0)),(7,(slc 10 Za c.1)),(8,(slc 10 Za d)),(9,(i64 b)),(10,(slc 10 Za f.1)),(11,nils)] ?_))
      refine AWP.own (H':=[.cells (Zu c.2),bf 10 57 Za ([]:ZL) false]) (st':=[(11,(.own 1 (List.length ([]:ZL)))),(0,(slc 13 Zc a)),(6,(.ptr 0 0)),(7,(slc 10 Za c.1)),(8,(slc 10 Za d)),(9,(i64 b)),(10,(slc 10 Za f.1))]) 11 10 57 (by kernel_rfl) (by kernel_rfl) (by kernel_rfl) ?_
      refine AWP.pick (st':=[(0,(slc 13 Zc a)),(6,(.ptr 0 0)),(7,(slc 10 Za c.1)),(8,(slc 10 Za d)),(9,(i64 b)),(10,(slc 10 Za f.1)),(11,(.own 1 (List.length ([]:ZL))))]) (ks:=[0,6,7,8,9,10,11]) (by kernel_rfl) ?_
      refine AWP.seq (AWP.seq (AWP.rg0 [] [(0,(slc 13 Zc a)),(6,(.ptr 0 0)),(7,(slc 10 Za c.1)),(8,(slc 10 Za d)),(9,(i64 b)),(10,(slc 10 Za f.1)),(11,(.own 1 (List.length ([]:ZL)))),(12,(i64 (0:Int)))] ?_))
      obtain⟨i,c6,hF⟩:=bindb hF
      refine AWP.mid (fun e st H=>e=.normal∧st=[(0,(slc 13 Zc a)),(6,(.ptr 0 0)),(7,(slc 10 Za c.1)),(8,(slc 10 Za d)),(9,(i64 b)),(11,(.own 1 (List.length i)))]∧H=[.cells (Zu c.2),bf 10 57 Za i false]) ?_ ?_
      ·clear hF
       refine AWP.kp [0,6,7,8,9,10,11,12] 2 ?_
       refine AWP.bround (fun n st H=>∃ j,∃ l,Zc6 a b f n j l=some i∧st=[(0,(slc 13 Zc a)),(6,(.ptr 0 0)),(7,(slc 10 Za c.1)),(8,(slc 10 Za d)),(9,(i64 b)),(10,(slc 10 Za f.1)),(11,(.own 1 (List.length j))),(12,(i64 l))]∧H=[.cells (Zu c.2),bf 10 57 Za j false]) fuel ⟨([]:ZL),(0:Int),c6,by kernel_rfl,by kernel_rfl⟩ ?_
       rintro a6 st H ⟨j,l,hF,rfl,rfl⟩
       cases a6 with
       | zero=>exact noneb hF
       | succ a6=>
        rw [Zc6] at hF
        refine AWP.seq (AWP.seq (AWP.rg0 [(2,.len Za f.1)] [(0,(slc 13 Zc a)),(6,(.ptr 0 0)),(7,(slc 10 Za c.1)),(8,(slc 10 Za d)),(9,(i64 b)),(10,(slc 10 Za f.1)),(11,(.own 1 (List.length j))),(12,(i64 l)),(51,(vb (decide (l<(List.length f.1:Int)))))] ?_))
        refine AWP.cif hF (fun c7 hF=>?_) (fun c7 hF=>?_)
        ·refine AWP.skip (AWP.seq (AWP.block ?_))
         obtain⟨c8,c9,hF⟩:=bindb hF
         obtain⟨d0,d1,hF⟩:=bindb hF
         obtain⟨x,d2,hF⟩:=bindb hF
         obtain⟨d3,hF⟩:=chkb hF
         refine AWP.dr [(3,.idx Zc c9),(7,.idx Za d1),(9,.call Tryz.func123 [] (Zj1 c8 d0 x d2)),(11,.app Za (fun _=>by kernel_rfl) d3)] 12 [] [11] [] [(0,(slc 13 Zc a)),(6,(.ptr 0 0)),(7,(slc 10 Za c.1)),(8,(slc 10 Za d)),(9,(i64 b)),(10,(slc 10 Za f.1)),(11,(.own 1 (List.length (j++[x])))),(12,(i64 l))] [.cells (Zu c.2),bf 10 57 Za (j++[x]) false] (AWP.rg0 [] [(0,(slc 13 Zc a)),(6,(.ptr 0 0)),(7,(slc 10 Za c.1)),(8,(slc 10 Za d)),(9,(i64 b)),(10,(slc 10 Za f.1)),(11,(.own 1 (List.length (j++[x])))),(12,(i64 (ZI (l + (1:Int)))))] (LeQ.start (LeQ.pk [0,6,7,8,9,10,11,12] 2 ?_)))
         exact⟨a6,Nat.lt_succ_self _,(j++[x]),(ZI (l + (1:Int))),hF,by kernel_rfl,by kernel_rfl⟩
        ·refine AWP.exit (LeQ.start (LeQ.pk [0,6,7,8,9,11] 2 ?_))
         have hr:=someb hF
         subst hr
         exact⟨rfl,by kernel_rfl,by kernel_rfl⟩
      ·rintro _ _ _ ⟨rfl,rfl,rfl⟩
       refine AWP.seq ?_
       refine AWP.share (s:=10) (t:=57) (xs:=List.map Za i) (sh:=false) (H':=[.cells (Zu c.2),bf 10 57 Za i true]) 1 (by kernel_rfl) (by kernel_rfl) ?_
       obtain⟨m,d4,hF⟩:=bindb hF
       refine AWP.rg0 [(1,.call Tryz.func124 [.of Za i] (Zm2 i m d4))] [(0,(slc 13 Zc a)),(6,(.ptr 0 0)),(7,(slc 10 Za c.1)),(8,(slc 10 Za d)),(9,(i64 b)),(11,(slc 10 Za m))] (AWP.seq ?_)
       obtain⟨a7,a3,hF⟩:=bindb hF
       replace a3:=someb a3
       refine AWP.to [(0,(slc 13 Zc a)),(6,(.ptr 0 0)),(7,(slc 10 Za c.1)),(8,(slc 10 Za d)),(9,(i64 b)),(11,(slc 10 Za m))] [.cells (Zu ({ c.2 with f_failed:=(a7 || (decide ((List.length m:Int) > (4096:Int)))) }:Zr)),bf 10 57 Za i true] ?_ ?_
       ·cases a7 with
        | false=>
         exact AWP.rgT [(5,.bool a3),(7,.len Za m)]
        | true=>
         exact AWP.rgT [(5,.bool a3)]
       obtain⟨y,d5,hF⟩:=bindb hF
       refine AWP.rg [(3,.call Tryz.func113 [] (Za2 ({ c.2 with f_failed:=(a7 || (decide ((List.length m:Int) > (4096:Int)))) }:Zr) (0:Int) d m y d5))] [(0,(slc 13 Zc a)),(6,(.ptr 0 0)),(7,(slc 10 Za c.1)),(8,(slc 10 Za y.1)),(9,(i64 b))] [.cells (Zu y.2),bf 10 57 Za i true] (LeQ.start (LeQ.pk [0,6,7,8,9] 1 ?_))
       exact⟨rfl,y.2,c.1,y.1,(someb hF).symm,by kernel_rfl,by kernel_rfl⟩
    ·rintro _ _ _ ⟨rfl,a2,v,w,rfl,rfl,rfl⟩
     refine AWP.rg0 [] [(0,(slc 13 Zc a)),(6,(.ptr 0 0)),(7,(slc 10 Za v)),(8,(slc 10 Za w)),(9,(i64 (ZI (b + (1:Int)))))] (LeQ.start (LeQ.pk [0,6,7,8,9] 1 ?_))
     exact⟨a5,Nat.lt_succ_self _,a2,v,w,(ZI (b + (1:Int))),hF,by kernel_rfl,by kernel_rfl⟩
   ·refine AWP.exit (LeQ.start (LeQ.pk [6,7,8] 1 ?_))
    exact⟨rfl,o,g,d,(someb hF).symm,by kernel_rfl,by kernel_rfl⟩
 ·rintro _ _ _ ⟨rfl,z,a0,a1,rfl,rfl,rfl⟩
  refine AWP.seq ?_
  obtain⟨a4,d6,hF⟩:=bindb hF
  obtain⟨a8,d7,hF⟩:=bindb hF
  refine AWP.rg [(4,.call Tryz.func113 [] (Za2 z (0:Int) a1 a0 a4 d6)),(5,.call Tryz.func115 [] (Zj5 a4.2 a4.1 a8 d7))] [(4,(slc 10 Za a8.1)),(5,(i64 a8.2))] [.cells (Zu a4.2)] (AWP.ret ?_)
  have hr:=someb hF
  subst hr
  exact(FnQ.f0 0 (.inr rfl))
def Zz3 (r:ZB):PV→List Blk→Prop:=fun p K=>p=(Zag r)∧K=[]
theorem Zuc (r:ZB) (hF:Zkh=some r):ACall Tryz.prog glob 56 [] [] (Zz3 r):=by
 refine ACall.body Tryz.func56 rfl (by kernel_rfl) ?_
 unfold Zkh at hF
 refine AWP.seq (AWP.rg [] [(0,(.ptr 0 0))] [.cells (Za Zm)] (AWP.seq (AWP.rg [] [(0,(.ptr 0 0)),(1,(.ptr 1 0))] [.cells (Za Zm),.cells (Za Zm)] (AWP.seq (AWP.seq (AWP.rg0 [] [(0,(.ptr 0 0)),(1,(.ptr 1 0)),(4,(Zco Za7)),(5,(i64 (0:Int)))] ?_))))))
 obtain⟨c,i,hF⟩:=bindb hF
 refine AWP.mid (fun e st H=>e=.normal∧st=[(0,(.ptr 0 0)),(1,(.ptr 1 0))]∧H=[.cells (Za Zm),.cells (Za c)]) ?_ ?_
 ·clear hF
  refine AWP.kp [0,1,4,5] 2 ?_
  refine AWP.bround (fun n st H=>∃ b,∃ a,Zju n b a=some c∧st=[(0,(.ptr 0 0)),(1,(.ptr 1 0)),(4,(Zco Za7)),(5,(i64 a))]∧H=[.cells (Za Zm),.cells (Za b)]) fuel ⟨Zm,(0:Int),i,by kernel_rfl,by kernel_rfl⟩ ?_
  rintro d st H ⟨b,a,hF,rfl,rfl⟩
  cases d with
  | zero=>exact noneb hF
  | succ d=>
   rw [Zju] at hF
   refine AWP.seq (AWP.rg0 [] [(0,(.ptr 0 0)),(1,(.ptr 1 0)),(4,(Zco Za7)),(5,(i64 a)),(6,(vb (decide (a<(5:Int)))))] (AWP.seq ?_))
   refine AWP.cif hF (fun j hF=>?_) (fun j hF=>?_)
   ·refine AWP.skip (AWP.seq (AWP.block (AWP.seq ?_)))
    obtain⟨k,hF⟩:=chkb hF
    refine AWP.rg0 [(1,.ixA Zeh (Arr5.get Za7) k)] [(0,(.ptr 0 0)),(1,(.ptr 1 0)),(2,(i64 a)),(3,(u32 (Arr5.get Za7 a))),(4,(Zco Za7)),(5,(i64 a))] ?_
    obtain⟨f,hF⟩:=chkb hF
    refine AWP.rg [(2,.ixd f),(4,.stA (fun g=>Za (Arr5.set b g ({ (Arr5.get b g) with Hi:=(Arr5.get Za7 a) }:Zb))) 0 2 1 f)] [(0,(.ptr 0 0)),(1,(.ptr 1 0)),(4,(Zco Za7)),(5,(i64 a))] [.cells (Za Zm),.cells (Za (Arr5.set b a ({ (Arr5.get b a) with Hi:=(Arr5.get Za7 a) }:Zb)))] (AWP.rg0 [] [(0,(.ptr 0 0)),(1,(.ptr 1 0)),(4,(Zco Za7)),(5,(i64 (ZI (a + (1:Int)))))] (LeQ.start (LeQ.pk [0,1,4,5] 2 ?_)))
    exact⟨d,Nat.lt_succ_self _,(Arr5.set b a ({ (Arr5.get b a) with Hi:=(Arr5.get Za7 a) }:Zb)),(ZI (a + (1:Int))),hF,by kernel_rfl,by kernel_rfl⟩
   ·refine AWP.exit (LeQ.start (LeQ.pk [0,1] 2 ?_))
    have hr:=someb hF
    subst hr
    exact⟨rfl,by kernel_rfl,by kernel_rfl⟩
 ·rintro _ _ _ ⟨rfl,rfl,rfl⟩
  refine AWP.seq (AWP.rg [] [(0,(.ptr 0 0))] [.cells (Za c),.cells (Za c)] (AWP.ret ?_))
  have hr:=someb hF
  subst hr
  exact(FnQ.f0 0 (.inr rfl))
def Znn (r:(ZL × Int)):PV→List Blk→Prop:=fun p K=>p=(.tup [(slc 10 Za r.1),(i64 r.2)])∧K=[]
theorem Zno (a:(List Zh)) (l:ZL) (r:(ZL × Int)) (hF:Zez a l=some r):ACall Tryz.prog glob 25 [(slc 13 Zc a),(slc 10 Za l)] [] (Znn r):=by
 refine ACall.body Tryz.func25 rfl (by kernel_rfl) ?_
 unfold Zez at hF
 refine AWP.seq (AWP.rg0 [] [(0,(slc 13 Zc a)),(1,(slc 10 Za l))] (AWP.seq (AWP.rg [] [(0,(slc 13 Zc a)),(1,(slc 10 Za l)),(6,(.ptr 0 0))] [.cells (Zl Zd9)] (AWP.seq ?_))))
 obtain⟨c,a9,hF⟩:=bindb hF
 refine AWP.rg [(1,.call Tryz.func51 [] (Zj4 Zd9 l c a9))] [(0,(slc 13 Zc a)),(6,(.ptr 0 0)),(7,(slc 10 Za c.1))] [.cells (Zl c.2)] (AWP.seq (AWP.rg0 [] [(0,(slc 13 Zc a)),(6,(.ptr 0 0)),(7,(slc 10 Za c.1)),(8,nils)] (AWP.seq ?_)))
 obtain⟨m,b0,hF⟩:=bindb hF
 refine AWP.rg0 [(0,.call Tryz.func56 [] (Zuc m b0))] [(0,(slc 13 Zc a)),(6,(.ptr 0 0)),(7,(slc 10 Za c.1)),(8,nils),(9,(slc 10 Za [m]))] (AWP.seq (AWP.seq (AWP.rg0 [(1,.len Zc a)] [(6,(.ptr 0 0)),(7,(slc 10 Za c.1)),(8,nils),(9,(slc 10 Za [m])),(18,(slc 13 Zc a)),(19,(i64 (List.length a:Int))),(20,(i64 (0:Int)))] ?_)))
 obtain⟨a7,b1,hF⟩:=bindb hF
 refine AWP.mid (fun e st H=>(e=.normal∧∃ w,∃ x,∃ y,a7=(w,x,y)∧st=[(6,(.ptr 0 0)),(7,(slc 10 Za c.1)),(8,(slc 10 Za x)),(9,(slc 10 Za y))]∧H=[.cells (Zl w)])) ?_ ?_
 ·clear hF
  refine AWP.wk (p:=nils) (q:=(slc 10 Za ([]:ZL))) (st':=[(8,(slc 10 Za ([]:ZL))),(6,(.ptr 0 0)),(7,(slc 10 Za c.1)),(9,(slc 10 Za [m])),(18,(slc 13 Zc a)),(19,(i64 (List.length a:Int))),(20,(i64 (0:Int)))]) 8 (by kernel_rfl) (.nil 10) (by kernel_rfl) ?_
  refine AWP.kp [6,7,8,9,18,19,20] 1 ?_
  refine AWP.bround (fun n st H=>∃ i,∃ g,∃ f,∃ d,Zbe a c n i g f d=some a7∧st=[(6,(.ptr 0 0)),(7,(slc 10 Za c.1)),(8,(slc 10 Za g)),(9,(slc 10 Za f)),(18,(slc 13 Zc a)),(19,(i64 (List.length a:Int))),(20,(i64 d))]∧H=[.cells (Zl i)]) fuel ⟨c.2,([]:ZL),[m],(0:Int),b1,by kernel_rfl,by kernel_rfl⟩ ?_
  rintro a1 st H ⟨i,g,f,d,hF,rfl,rfl⟩
  cases a1 with
  | zero=>exact noneb hF
  | succ a1=>
   rw [Zbe] at hF
   refine AWP.seq (AWP.rg0 [] [(6,(.ptr 0 0)),(7,(slc 10 Za c.1)),(8,(slc 10 Za g)),(9,(slc 10 Za f)),(18,(slc 13 Zc a)),(19,(i64 (List.length a:Int))),(20,(i64 d)),(21,(vb (decide (d<(List.length a:Int)))))] (AWP.seq ?_))
   refine AWP.cif hF (fun b2 hF=>?_) (fun b2 hF=>?_)
   ·refine AWP.skip ?_
    obtain⟨b3,b4,hF⟩:=bindb hF
    refine AWP.seq ?_
    refine AWP.mid (fun e st H=>(e=.normal∧∃ z,∃ o,∃ s,b3=(z,o,s)∧st=[(6,(.ptr 0 0)),(7,(slc 10 Za c.1)),(8,(slc 10 Za o)),(9,(slc 10 Za s)),(18,(slc 13 Zc a)),(19,(i64 (List.length a:Int))),(20,(i64 d))]∧H=[.cells (Zl z)])) ?_ ?_
    ·clear hF
     have hF:=b4
     refine AWP.block (AWP.seq ?_)
     obtain⟨b,b5,hF⟩:=bindb hF
     refine AWP.rg [(0,.idx Zc b5)] [(6,(.ptr 0 0)),(7,(slc 10 Za c.1)),(8,(slc 10 Za g)),(9,(slc 10 Za f)),(11,(.ptr 1 0)),(18,(slc 13 Zc a)),(19,(i64 (List.length a:Int))),(20,(i64 d))] [.cells (Zl i),.cells (Zc b)] (AWP.seq (AWP.seq ?_))
     obtain⟨a8,b6,hF⟩:=bindb hF
     refine AWP.rg0 [(1,.call Tryz.func70 [] (Zdd b a8 b6))] [(6,(.ptr 0 0)),(7,(slc 10 Za c.1)),(8,(slc 10 Za g)),(9,(slc 10 Za f)),(11,(.ptr 1 0)),(18,(slc 13 Zc a)),(19,(i64 (List.length a:Int))),(20,(i64 d)),(26,(vb (!a8)))] ?_
     refine AWP.cif hF (fun b7 hF=>?_) (fun b7 hF=>?_)
     ·refine AWP.exit (LeQ.start (LeQ.pk [6,7,8,9,18,19,20] 1 ?_))
      exact⟨rfl,i,g,f,(someb hF).symm,by kernel_rfl,by kernel_rfl⟩
     ·refine AWP.skip (AWP.seq ?_)
      obtain⟨j,b8,hF⟩:=bindb hF
      refine AWP.rg [(0,.call Tryz.func56 [] (Zuc j b8))] [(6,(.ptr 0 0)),(7,(slc 10 Za c.1)),(8,(slc 10 Za g)),(9,(slc 10 Za f)),(11,(.ptr 1 0)),(12,(.ptr 2 0)),(18,(slc 13 Zc a)),(19,(i64 (List.length a:Int))),(20,(i64 d))] [.cells (Zl i),.cells (Zc b),.cells (Za j)] (AWP.seq (AWP.rg [] [(6,(.ptr 0 0)),(7,(slc 10 Za c.1)),(8,(slc 10 Za g)),(9,(slc 10 Za f)),(11,(.ptr 1 0)),(12,(.ptr 2 0)),(18,(slc 13 Zc a)),(19,(i64 (List.length a:Int))),(20,(i64 d))] [.cells (Zl i),.cells (Zc b),.cells (Za ({ j with x0:=(Zb.mk b.Addr b.Addr) }:ZB))] (AWP.seq (AWP.rg [] [(6,(.ptr 0 0)),(7,(slc 10 Za c.1)),(8,(slc 10 Za g)),(9,(slc 10 Za f)),(11,(.ptr 1 0)),(12,(.ptr 2 0)),(18,(slc 13 Zc a)),(19,(i64 (List.length a:Int))),(20,(i64 d))] [.cells (Zl i),.cells (Zc b),.cells (Za ({ ({ j with x0:=(Zb.mk b.Addr b.Addr) }:ZB) with x3:=b.Ports }:ZB))] (AWP.seq ?_)))))
      obtain⟨a2,b9,hF⟩:=bindb hF
      obtain⟨a3,c0,hF⟩:=bindb hF
      obtain⟨t,c1,hF⟩:=bindb hF
      refine AWP.rg [(3,.call Tryz.func57 [] (Zdq i c.1 [({ ({ j with x0:=(Zb.mk b.Addr b.Addr) }:ZB) with x3:=b.Ports }:ZB)] a2 b9)),(4,.call Tryz.func72 [] (Zie a2.2 a2.1 (0:Int) a3 c0)),(5,.call Tryz.func72 [] (Zie a3.2 a3.1 (3:Int) t c1))] [(6,(.ptr 0 0)),(7,(slc 10 Za c.1)),(8,(slc 10 Za g)),(9,(slc 10 Za f)),(11,(.ptr 1 0)),(13,(slc 10 Za t.1)),(18,(slc 13 Zc a)),(19,(i64 (List.length a:Int))),(20,(i64 d))] [.cells (Zl t.2),.cells (Zc b),.cells (Za ({ ({ j with x0:=(Zb.mk b.Addr b.Addr) }:ZB) with x3:=b.Ports }:ZB))] (AWP.seq ?_)
      obtain⟨a4,c2,hF⟩:=bindb hF
      obtain⟨u,c3,hF⟩:=bindb hF
      refine AWP.rg [(4,.call Tryz.func57 [] (Zdq t.2 t.1 [b.Match] a4 c2)),(6,.call Tryz.func57 [] (Zdq a4.2 a4.1 f u c3))] [(6,(.ptr 0 0)),(7,(slc 10 Za c.1)),(8,(slc 10 Za g)),(9,(slc 10 Za f)),(11,(.ptr 1 0)),(13,(slc 10 Za u.1)),(18,(slc 13 Zc a)),(19,(i64 (List.length a:Int))),(20,(i64 d))] [.cells (Zl u.2),.cells (Zc b),.cells (Za ({ ({ j with x0:=(Zb.mk b.Addr b.Addr) }:ZB) with x3:=b.Ports }:ZB))] (AWP.seq ?_)
      obtain⟨k,c4,hF⟩:=bindb hF
      refine AWP.rg [(2,.call Tryz.func53 [] (Zgd u.2 g u.1 k c4))] [(6,(.ptr 0 0)),(7,(slc 10 Za c.1)),(8,(slc 10 Za k.1)),(9,(slc 10 Za f)),(11,(.ptr 1 0)),(18,(slc 13 Zc a)),(19,(i64 (List.length a:Int))),(20,(i64 d))] [.cells (Zl k.2),.cells (Zc b),.cells (Za ({ ({ j with x0:=(Zb.mk b.Addr b.Addr) }:ZB) with x3:=b.Ports }:ZB))] ?_
      obtain⟨v,c5,hF⟩:=bindb hF
      refine AWP.rg [(4,.call Tryz.func59 [] (Zit k.2 f [b.Match] v c5))] [(6,(.ptr 0 0)),(7,(slc 10 Za c.1)),(8,(slc 10 Za k.1)),(9,(slc 10 Za v.1)),(18,(slc 13 Zc a)),(19,(i64 (List.length a:Int))),(20,(i64 d))] [.cells (Zl v.2),.cells (Zc b),.cells (Za ({ ({ j with x0:=(Zb.mk b.Addr b.Addr) }:ZB) with x3:=b.Ports }:ZB))] (LeQ.start (LeQ.pk [6,7,8,9,18,19,20] 1 ?_))
      exact⟨rfl,v.2,k.1,v.1,(someb hF).symm,by kernel_rfl,by kernel_rfl⟩
    ·rintro _ _ _ ⟨rfl,z,o,s,rfl,rfl,rfl⟩
     refine AWP.rg0 [] [(6,(.ptr 0 0)),(7,(slc 10 Za c.1)),(8,(slc 10 Za o)),(9,(slc 10 Za s)),(18,(slc 13 Zc a)),(19,(i64 (List.length a:Int))),(20,(i64 (ZI (d + (1:Int)))))] (LeQ.start (LeQ.pk [6,7,8,9,18,19,20] 1 ?_))
     exact⟨a1,Nat.lt_succ_self _,z,o,s,(ZI (d + (1:Int))),hF,by kernel_rfl,by kernel_rfl⟩
   ·refine AWP.exit (LeQ.start (LeQ.pk [6,7,8,9] 1 ?_))
    exact⟨rfl,i,g,f,(someb hF).symm,by kernel_rfl,by kernel_rfl⟩
 ·rintro _ _ _ ⟨rfl,w,x,y,rfl,rfl,rfl⟩
  refine AWP.seq ?_
  obtain⟨a5,c6,hF⟩:=bindb hF
  obtain⟨a0,c7,hF⟩:=bindb hF
  obtain⟨a6,c8,hF⟩:=bindb hF
  refine AWP.rg [(3,.call Tryz.func57 [] (Zdq w y c.1 a5 c6)),(4,.call Tryz.func53 [] (Zgd a5.2 x a5.1 a0 c7)),(5,.call Tryz.func55 [] (Zji a0.2 a0.1 a6 c8))] [(4,(slc 10 Za a6.1)),(5,(i64 a6.2))] [.cells (Zl a0.2)] (AWP.ret ?_)
  have hr:=someb hF
  subst hr
  exact(FnQ.f0 0 (.inr rfl))
def Zu9 (r:(ZL × Int)):PV→List Blk→Prop:=fun p K=>p=(.tup [(slc 10 Za r.1),(i64 r.2)])∧K=[]
theorem Zva (l:ZL) (a:Int) (r:(ZL × Int)) (hF:Zid l a=some r):ACall Tryz.prog glob 141 [(slc 10 Za l),(i64 a)] [] (Zu9 r):=by
 refine ACall.body Tryz.func141 rfl (by kernel_rfl) ?_
 unfold Zid at hF
 refine AWP.seq (AWP.rg0 [] [(0,(slc 10 Za l)),(1,(i64 a))] (AWP.seq ?_))
 obtain⟨b,v,hF⟩:=bindb hF
 refine AWP.rg0 [(1,.call Tryz.func149 [] (Zkq l b v))] [(1,(i64 a)),(6,(slc 10 Za b.1)),(7,(i64 b.2))] (AWP.seq (AWP.seq ?_))
 obtain⟨w,j,hF⟩:=bindb hF
 replace j:=someb j
 obtain⟨p,k,hF⟩:=bindb hF
 replace k:=someb k
 refine AWP.to [(1,(i64 a)),(6,(slc 10 Za b.1)),(7,(i64 b.2)),(25,(vb (p || (decide (a ≥ (5:Int))))))] [] ?_ ?_
 ·cases w with
  | false=>
   cases p with
   | false=>
    exact AWP.rgT [(2,.bool j),(6,.bool k)]
   | true=>
    exact AWP.rgT [(2,.bool j),(6,.bool k)]
  | true=>
   subst k
   exact AWP.rgT [(2,.bool j)]
 refine AWP.cif hF (fun x hF=>?_) (fun x hF=>?_)
 ·refine AWP.seq (AWP.rg0 [] [(4,(slc 10 Za b.1)),(5,(i64 b.2))] (AWP.ret ?_))
  have hr:=someb hF
  subst hr
  exact(FnQ.f0 0 (.inr rfl))
 ·refine AWP.skip (AWP.seq (AWP.rg0 [] [(1,(i64 a)),(6,(slc 10 Za b.1)),(8,nils)] ?_))
  refine AWP.own (H':=[bf 10 57 Za ([]:ZL) false]) (st':=[(8,(.own 0 (List.length ([]:ZL)))),(1,(i64 a)),(6,(slc 10 Za b.1))]) 8 10 57 (by kernel_rfl) (by kernel_rfl) (by kernel_rfl) ?_
  refine AWP.pick (st':=[(1,(i64 a)),(6,(slc 10 Za b.1)),(8,(.own 0 (List.length ([]:ZL))))]) (ks:=[1,6,8]) (by kernel_rfl) ?_
  refine AWP.seq (AWP.seq (AWP.rg0 [] [(1,(i64 a)),(6,(slc 10 Za b.1)),(8,(.own 0 (List.length ([]:ZL)))),(9,(i64 (0:Int)))] ?_))
  obtain⟨i,y,hF⟩:=bindb hF
  refine AWP.mid (fun e st H=>e=.normal∧st=[(8,(.own 0 (List.length i)))]∧H=[bf 10 57 Za i false]) ?_ ?_
  ·clear hF
   refine AWP.kp [1,6,8,9] 1 ?_
   refine AWP.bround (fun n st H=>∃ c,∃ d,Zeq a b n c d=some i∧st=[(1,(i64 a)),(6,(slc 10 Za b.1)),(8,(.own 0 (List.length c))),(9,(i64 d))]∧H=[bf 10 57 Za c false]) fuel ⟨([]:ZL),(0:Int),y,by kernel_rfl,by kernel_rfl⟩ ?_
   rintro m st H ⟨c,d,hF,rfl,rfl⟩
   cases m with
   | zero=>exact noneb hF
   | succ m=>
    rw [Zeq] at hF
    refine AWP.seq (AWP.seq (AWP.rg0 [(2,.len Za b.1)] [(1,(i64 a)),(6,(slc 10 Za b.1)),(8,(.own 0 (List.length c))),(9,(i64 d)),(31,(vb (decide (d<(List.length b.1:Int)))))] ?_))
    refine AWP.cif hF (fun z hF=>?_) (fun z hF=>?_)
    ·refine AWP.skip (AWP.seq (AWP.block (AWP.seq ?_)))
     obtain⟨g,a0,hF⟩:=bindb hF
     refine AWP.rg [(2,.idx Za a0)] [(1,(i64 a)),(6,(slc 10 Za b.1)),(8,(.own 0 (List.length c))),(9,(i64 d)),(10,(.ptr 1 0))] [bf 10 57 Za c false,.cells (Za g)] (AWP.seq ?_)
     obtain⟨f,a1,hF⟩:=bindb hF
     obtain⟨a2,hF⟩:=chkb hF
     obtain⟨q,hF⟩:=chkb hF
     refine AWP.rg [(1,.call Tryz.func47 [] (Zga f a1)),(3,.ixA Zk (Arr5.get f) a2),(4,.ixd q),(5,.stA (fun a3=>Za (Arr5.set g a3 (Arr5.get f a))) 0 2 0 q)] [(1,(i64 a)),(6,(slc 10 Za b.1)),(8,(.own 0 (List.length c))),(9,(i64 d)),(10,(.ptr 1 0))] [bf 10 57 Za c false,.cells (Za (Arr5.set g a (Arr5.get f a)))] ?_
     obtain⟨a4,hF⟩:=chkb hF
     refine AWP.rg [(3,.app Za (fun _=>by kernel_rfl) a4)] [(1,(i64 a)),(6,(slc 10 Za b.1)),(8,(.own 0 (List.length (c++[(Arr5.set g a (Arr5.get f a))])))),(9,(i64 d))] [bf 10 57 Za (c++[(Arr5.set g a (Arr5.get f a))]) false,.cells (Za (Arr5.set g a (Arr5.get f a)))] (AWP.rg0 [] [(1,(i64 a)),(6,(slc 10 Za b.1)),(8,(.own 0 (List.length (c++[(Arr5.set g a (Arr5.get f a))])))),(9,(i64 (ZI (d + (1:Int)))))] (LeQ.start (LeQ.pk [1,6,8,9] 1 ?_)))
     exact⟨m,Nat.lt_succ_self _,(c++[(Arr5.set g a (Arr5.get f a))]),(ZI (d + (1:Int))),hF,by kernel_rfl,by kernel_rfl⟩
    ·refine AWP.exit (LeQ.start (LeQ.pk [8] 1 ?_))
     have hr:=someb hF
     subst hr
     exact⟨rfl,by kernel_rfl,by kernel_rfl⟩
  ·rintro _ _ _ ⟨rfl,rfl,rfl⟩
   refine AWP.seq ?_
   refine AWP.share (s:=10) (t:=57) (xs:=List.map Za i) (sh:=false) (H':=[bf 10 57 Za i true]) 0 (by kernel_rfl) (by kernel_rfl) ?_
   obtain⟨u,a5,hF⟩:=bindb hF
   obtain⟨o,a6,hF⟩:=bindb hF
   refine AWP.rg0 [(1,.call Tryz.func124 [.of Za i] (Zm2 i u a5)),(2,.call Tryz.func97 [] (Zjj u o a6))] [(4,(slc 10 Za o.1)),(5,(i64 o.2))] (AWP.ret ?_)
   have hr:=someb hF
   subst hr
   exact(FnQ.f0 0 (.inr rfl))
def Zpx (r:(ZL × Zr)):PV→List Blk→Prop:=fun p K=>p=(slc 10 Za r.1)∧K=[.cells (Zu r.2)]
theorem Zk5 (d:Zr) (b:ZL) (c:Int) (r:(ZL × Zr)) (hF:Zb6 d b c=some r):ACall Tryz.prog glob 125 [(.ptr 0 0),(slc 10 Za b),(i64 c)] [.cells (Zu d)] (Zpx r):=by
 refine ACall.body Tryz.func125 rfl (by kernel_rfl) ?_
 unfold Zb6 at hF
 refine AWP.seq (AWP.rg0 [] [(0,(.ptr 0 0)),(1,(slc 10 Za b)),(2,(i64 c))] (AWP.seq (AWP.seq (AWP.rg0 [] [(0,(.ptr 0 0)),(1,(slc 10 Za b)),(2,(i64 c)),(12,(vb d.f_failed))] ?_))))
 refine AWP.cif hF (fun f hF=>?_) (fun f hF=>?_)
 ·refine AWP.seq (AWP.rg0 [] [(6,nils)] (AWP.ret ?_))
  have hr:=someb hF
  subst hr
  exact(FnQ.f1 1 (.inr rfl) (.inl (.nil 10)))
 ·refine AWP.skip (AWP.seq ?_)
  obtain⟨a,g,hF⟩:=bindb hF
  refine AWP.rg0 [(2,.call Tryz.func141 [] (Zva b c a g))] [(0,(.ptr 0 0)),(7,(slc 10 Za a.1)),(8,(i64 a.2))] (AWP.seq (AWP.rg [] [(7,(slc 10 Za a.1))] [.cells (Zu ({ d with f_failed:=(a.2 != (0:Int)) }:Zr))] (AWP.seq (AWP.rg0 [] [(6,(slc 10 Za a.1))] (AWP.ret ?_)))))
  have hr:=someb hF
  subst hr
  exact(FnQ.f0 1 (.inr rfl))
def Znp (r:(ZL × Int)):PV→List Blk→Prop:=fun p K=>p=(.tup [(slc 10 Za r.1),(i64 r.2)])∧K=[]
theorem Znq (a:(List Zh)) (k:ZL) (r:(ZL × Int)) (hF:Ze0 a k=some r):ACall Tryz.prog glob 81 [(slc 13 Zc a),(slc 10 Za k)] [] (Znp r):=by
 refine ACall.body Tryz.func81 rfl (by kernel_rfl) ?_
 unfold Ze0 at hF
 refine AWP.seq (AWP.rg0 [] [(0,(slc 13 Zc a)),(1,(slc 10 Za k))] (AWP.seq (AWP.rg [] [(0,(slc 13 Zc a)),(1,(slc 10 Za k)),(6,(.ptr 0 0))] [.cells (Zu (Zr.mk false))] (AWP.seq ?_))))
 obtain⟨b,a9,hF⟩:=bindb hF
 refine AWP.rg [(2,.call Tryz.func113 [] (Za2 (Zr.mk false) (0:Int) k ([]:ZL) b a9))] [(0,(slc 13 Zc a)),(1,(slc 10 Za b.1)),(6,(.ptr 0 0))] [.cells (Zu b.2)] (AWP.seq ?_)
 obtain⟨g,b0,hF⟩:=bindb hF
 refine AWP.rg0 [(0,.call Tryz.func47 [] (Zga g b0))] [(0,(slc 13 Zc a)),(1,(slc 10 Za b.1)),(6,(.ptr 0 0)),(7,(slc 10 Za [g]))] (AWP.seq (AWP.rg0 [] [(0,(slc 13 Zc a)),(1,(slc 10 Za b.1)),(6,(.ptr 0 0)),(7,(slc 10 Za [g])),(8,nils)] (AWP.seq (AWP.seq (AWP.rg0 [] [(0,(slc 13 Zc a)),(1,(slc 10 Za b.1)),(6,(.ptr 0 0)),(7,(slc 10 Za [g])),(8,nils),(9,(i64 (0:Int)))] ?_)))))
 obtain⟨a5,b1,hF⟩:=bindb hF
 refine AWP.mid (fun e st H=>(e=.normal∧∃ v,∃ w,∃ x,a5=(v,w,x)∧st=[(1,(slc 10 Za b.1)),(6,(.ptr 0 0)),(7,(slc 10 Za w)),(8,(slc 10 Za x))]∧H=[.cells (Zu v)])) ?_ ?_
 ·clear hF
  refine AWP.wk (p:=nils) (q:=(slc 10 Za ([]:ZL))) (st':=[(8,(slc 10 Za ([]:ZL))),(0,(slc 13 Zc a)),(1,(slc 10 Za b.1)),(6,(.ptr 0 0)),(7,(slc 10 Za [g])),(9,(i64 (0:Int)))]) 8 (by kernel_rfl) (.nil 10) (by kernel_rfl) ?_
  refine AWP.kp [0,1,6,7,8,9] 1 ?_
  refine AWP.bround (fun n st H=>∃ i,∃ d,∃ f,∃ c,Zaz a b n i d f c=some a5∧st=[(0,(slc 13 Zc a)),(1,(slc 10 Za b.1)),(6,(.ptr 0 0)),(7,(slc 10 Za d)),(8,(slc 10 Za f)),(9,(i64 c))]∧H=[.cells (Zu i)]) fuel ⟨b.2,[g],([]:ZL),(0:Int),b1,by kernel_rfl,by kernel_rfl⟩ ?_
  rintro a0 st H ⟨i,d,f,c,hF,rfl,rfl⟩
  cases a0 with
  | zero=>exact noneb hF
  | succ a0=>
   rw [Zaz] at hF
   refine AWP.seq (AWP.seq (AWP.rg0 [(2,.len Zc a)] [(0,(slc 13 Zc a)),(1,(slc 10 Za b.1)),(6,(.ptr 0 0)),(7,(slc 10 Za d)),(8,(slc 10 Za f)),(9,(i64 c)),(21,(vb (decide (c<(List.length a:Int)))))] ?_))
   refine AWP.cif hF (fun b2 hF=>?_) (fun b2 hF=>?_)
   ·refine AWP.skip ?_
    obtain⟨b3,b4,hF⟩:=bindb hF
    refine AWP.seq ?_
    refine AWP.mid (fun e st H=>(e=.normal∧∃ y,∃ l,∃ m,b3=(y,l,m)∧st=[(0,(slc 13 Zc a)),(1,(slc 10 Za b.1)),(6,(.ptr 0 0)),(7,(slc 10 Za l)),(8,(slc 10 Za m)),(9,(i64 c))]∧H=[.cells (Zu y)])) ?_ ?_
    ·clear hF
     have hF:=b4
     refine AWP.block (AWP.seq (AWP.seq ?_))
     obtain⟨b5,b6,hF⟩:=bindb hF
     obtain⟨a6,b7,hF⟩:=bindb hF
     refine AWP.rg0 [(2,.idx Zc b6),(4,.call Tryz.func122 [] (Zd4 b5 a6 b7))] [(0,(slc 13 Zc a)),(1,(slc 10 Za b.1)),(6,(.ptr 0 0)),(7,(slc 10 Za d)),(8,(slc 10 Za f)),(9,(i64 c)),(29,(vb (!a6)))] ?_
     refine AWP.cif hF (fun b8 hF=>?_) (fun b8 hF=>?_)
     ·refine AWP.exit (LeQ.start (LeQ.pk [0,1,6,7,8,9] 1 ?_))
      exact⟨rfl,i,d,f,(someb hF).symm,by kernel_rfl,by kernel_rfl⟩
     ·refine AWP.skip (AWP.seq ?_)
      obtain⟨b9,c0,hF⟩:=bindb hF
      obtain⟨a7,c1,hF⟩:=bindb hF
      obtain⟨a8,c2,hF⟩:=bindb hF
      obtain⟨o,c3,hF⟩:=bindb hF
      refine AWP.dr [(4,.idx Zc c0),(6,.call Tryz.func47 [] (Zga a7 c1)),(7,.call Tryz.func123 [] (Zj1 b9 a7 a8 c2)),(9,.call Tryz.func113 [] (Za2 i (1:Int) b.1 [a8] o c3))] 10 [] [9] [] [(0,(slc 13 Zc a)),(1,(slc 10 Za b.1)),(6,(.ptr 0 0)),(7,(slc 10 Za d)),(8,(slc 10 Za f)),(9,(i64 c)),(10,(slc 10 Za o.1))] [.cells (Zu o.2)] (AWP.seq ?_)
      obtain⟨a1,c4,hF⟩:=bindb hF
      obtain⟨s,c5,hF⟩:=bindb hF
      refine AWP.rg [(3,.call Tryz.func125 [] (Zk5 o.2 o.1 (0:Int) a1 c4)),(4,.call Tryz.func125 [] (Zk5 a1.2 a1.1 (3:Int) s c5))] [(0,(slc 13 Zc a)),(1,(slc 10 Za b.1)),(6,(.ptr 0 0)),(7,(slc 10 Za d)),(8,(slc 10 Za f)),(9,(i64 c)),(10,(slc 10 Za s.1))] [.cells (Zu s.2)] (AWP.seq ?_)
      obtain⟨c6,c7,hF⟩:=bindb hF
      obtain⟨a2,c8,hF⟩:=bindb hF
      obtain⟨t,c9,hF⟩:=bindb hF
      refine AWP.rg [(5,.idx Zc c7),(9,.call Tryz.func113 [] (Za2 s.2 (1:Int) s.1 [c6.Match] a2 c8)),(11,.call Tryz.func113 [] (Za2 a2.2 (1:Int) a2.1 d t c9))] [(0,(slc 13 Zc a)),(1,(slc 10 Za b.1)),(6,(.ptr 0 0)),(7,(slc 10 Za d)),(8,(slc 10 Za f)),(9,(i64 c)),(10,(slc 10 Za t.1))] [.cells (Zu t.2)] (AWP.seq ?_)
      obtain⟨j,d0,hF⟩:=bindb hF
      refine AWP.rg [(3,.call Tryz.func113 [] (Za2 t.2 (0:Int) f t.1 j d0))] [(0,(slc 13 Zc a)),(1,(slc 10 Za b.1)),(6,(.ptr 0 0)),(7,(slc 10 Za d)),(8,(slc 10 Za j.1)),(9,(i64 c))] [.cells (Zu j.2)] ?_
      obtain⟨d1,d2,hF⟩:=bindb hF
      obtain⟨u,d3,hF⟩:=bindb hF
      refine AWP.rg [(4,.idx Zc d2),(8,.call Tryz.func113 [] (Za2 j.2 (2:Int) d [d1.Match] u d3))] [(0,(slc 13 Zc a)),(1,(slc 10 Za b.1)),(6,(.ptr 0 0)),(7,(slc 10 Za u.1)),(8,(slc 10 Za j.1)),(9,(i64 c))] [.cells (Zu u.2)] (LeQ.start (LeQ.pk [0,1,6,7,8,9] 1 ?_))
      exact⟨rfl,u.2,u.1,j.1,(someb hF).symm,by kernel_rfl,by kernel_rfl⟩
    ·rintro _ _ _ ⟨rfl,y,l,m,rfl,rfl,rfl⟩
     refine AWP.rg0 [] [(0,(slc 13 Zc a)),(1,(slc 10 Za b.1)),(6,(.ptr 0 0)),(7,(slc 10 Za l)),(8,(slc 10 Za m)),(9,(i64 (ZI (c + (1:Int)))))] (LeQ.start (LeQ.pk [0,1,6,7,8,9] 1 ?_))
     exact⟨a0,Nat.lt_succ_self _,y,l,m,(ZI (c + (1:Int))),hF,by kernel_rfl,by kernel_rfl⟩
   ·refine AWP.exit (LeQ.start (LeQ.pk [1,6,7,8] 1 ?_))
    exact⟨rfl,i,d,f,(someb hF).symm,by kernel_rfl,by kernel_rfl⟩
 ·rintro _ _ _ ⟨rfl,v,w,x,rfl,rfl,rfl⟩
  refine AWP.seq ?_
  obtain⟨a3,d4,hF⟩:=bindb hF
  obtain⟨z,d5,hF⟩:=bindb hF
  obtain⟨a4,d6,hF⟩:=bindb hF
  refine AWP.rg [(6,.call Tryz.func113 [] (Za2 v (1:Int) w b.1 a3 d4)),(7,.call Tryz.func113 [] (Za2 a3.2 (0:Int) x a3.1 z d5)),(8,.call Tryz.func115 [] (Zj5 z.2 z.1 a4 d6))] [(4,(slc 10 Za a4.1)),(5,(i64 a4.2))] [.cells (Zu z.2)] (AWP.ret ?_)
  have hr:=someb hF
  subst hr
  exact(FnQ.f0 0 (.inr rfl))
def Zxq (r:(Arr5 Int)):PV→List Blk→Prop:=fun p K=>p=(Zco r)∧K=[]
theorem Zqm (a:Zs) (r:(Arr5 Int)) (hF:Zi1 a=some r):ACall Tryz.prog glob 121 [(Zcj a)] [] (Zxq r):=by
 refine ACall.body Tryz.func121 rfl (by kernel_rfl) ?_
 unfold Zi1 at hF
 refine AWP.seq (AWP.rg [] [(1,(.ptr 0 0)),(2,(.ptr 1 0))] [.cells (Zn a),.cells (Zdm Zxh)] (AWP.seq (AWP.rg [] [(2,(.ptr 1 0))] [.cells (Zn a),.cells (Zdm (Arr5.mk a.Src a.Dst (IntKind.wrap .u32 a.Proto) (IntKind.wrap .u32 a.SrcPort) (IntKind.wrap .u32 a.DstPort)))] (AWP.ret ?_))))
 have hr:=someb hF
 subst hr
 exact(FnQ.f0 0 (.inr rfl))
def Z1o (r:ZB):PV→List Blk→Prop:=fun p K=>p=(Zag r)∧K=[]
theorem Z1p (c:Zs) (r:ZB) (hF:Zmd c=some r):ACall Tryz.prog glob 77 [(Zcj c)] [] (Z1o r):=by
 refine ACall.body Tryz.func77 rfl (by kernel_rfl) ?_
 unfold Zmd at hF
 refine AWP.seq (AWP.rg [] [(1,(.ptr 0 0)),(2,(.ptr 1 0))] [.cells (Zn c),.cells (Za Zm)] (AWP.seq (AWP.rg [] [(1,(.ptr 0 0)),(2,(.ptr 1 0)),(3,(.ptr 2 0))] [.cells (Zn c),.cells (Za Zm),.cells (Za Zm)] (AWP.seq (AWP.seq ?_)))))
 obtain⟨b,j,hF⟩:=bindb hF
 refine AWP.rg0 [(1,.call Tryz.func121 [] (Zqm c b j))] [(2,(.ptr 1 0)),(3,(.ptr 2 0)),(7,(Zco b)),(8,(i64 (0:Int)))] ?_
 obtain⟨f,k,hF⟩:=bindb hF
 refine AWP.mid (fun e st H=>e=.normal∧st=[(2,(.ptr 1 0)),(3,(.ptr 2 0))]∧H=[.cells (Zn c),.cells (Za Zm),.cells (Za f)]) ?_ ?_
 ·clear hF
  refine AWP.kp [2,3,7,8] 3 ?_
  refine AWP.bround (fun n st H=>∃ d,∃ a,Zh2 b n d a=some f∧st=[(2,(.ptr 1 0)),(3,(.ptr 2 0)),(7,(Zco b)),(8,(i64 a))]∧H=[.cells (Zn c),.cells (Za Zm),.cells (Za d)]) fuel ⟨Zm,(0:Int),k,by kernel_rfl,by kernel_rfl⟩ ?_
  rintro g st H ⟨d,a,hF,rfl,rfl⟩
  cases g with
  | zero=>exact noneb hF
  | succ g=>
   rw [Zh2] at hF
   refine AWP.seq (AWP.rg0 [] [(2,(.ptr 1 0)),(3,(.ptr 2 0)),(7,(Zco b)),(8,(i64 a)),(9,(vb (decide (a<(5:Int)))))] (AWP.seq ?_))
   refine AWP.cif hF (fun l hF=>?_) (fun l hF=>?_)
   ·refine AWP.skip (AWP.seq (AWP.block (AWP.seq ?_)))
    obtain⟨m,hF⟩:=chkb hF
    refine AWP.rg0 [(1,.ixA Zeh (Arr5.get b) m)] [(2,(.ptr 1 0)),(3,(.ptr 2 0)),(4,(i64 a)),(5,(u32 (Arr5.get b a))),(7,(Zco b)),(8,(i64 a))] ?_
    obtain⟨i,hF⟩:=chkb hF
    refine AWP.rg [(4,.ixd i),(5,.stA (fun o=>Za (Arr5.set d o (Zb.mk (Arr5.get b a) (Arr5.get b a)))) 0 2 0 i)] [(2,(.ptr 1 0)),(3,(.ptr 2 0)),(7,(Zco b)),(8,(i64 a))] [.cells (Zn c),.cells (Za Zm),.cells (Za (Arr5.set d a (Zb.mk (Arr5.get b a) (Arr5.get b a))))] (AWP.rg0 [] [(2,(.ptr 1 0)),(3,(.ptr 2 0)),(7,(Zco b)),(8,(i64 (ZI (a + (1:Int)))))] (LeQ.start (LeQ.pk [2,3,7,8] 3 ?_)))
    exact⟨g,Nat.lt_succ_self _,(Arr5.set d a (Zb.mk (Arr5.get b a) (Arr5.get b a))),(ZI (a + (1:Int))),hF,by kernel_rfl,by kernel_rfl⟩
   ·refine AWP.exit (LeQ.start (LeQ.pk [2,3] 3 ?_))
    have hr:=someb hF
    subst hr
    exact⟨rfl,by kernel_rfl,by kernel_rfl⟩
 ·rintro _ _ _ ⟨rfl,rfl,rfl⟩
  refine AWP.seq (AWP.rg [] [(2,(.ptr 1 0))] [.cells (Zn c),.cells (Za f),.cells (Za f)] (AWP.ret ?_))
  have hr:=someb hF
  subst hr
  exact(FnQ.f0 0 (.inr rfl))
def Zod (r:Bool):PV→List Blk→Prop:=fun p K=>p=(vb r)∧K=[]
abbrev Zvb (r:Bool):Exit→St→List Blk→Prop:=FnQ Tryz.prog Tryz.f76.results 0 (Zod r)
theorem Zoe (a:ZB) (d:Zs) (r:Bool) (hF:Zha a d=some r):ACall Tryz.prog glob 76 [(Zag a),(Zcj d)] [] (Zod r):=by
 refine ACall.body Tryz.func76 rfl (by kernel_rfl) ?_
 unfold Zha at hF
 refine AWP.seq (AWP.rg [] [(2,(.ptr 0 0)),(3,(.ptr 1 0))] [.cells (Za a),.cells (Zn d)] (AWP.seq (AWP.seq ?_)))
 obtain⟨l,p,hF⟩:=bindb hF
 refine AWP.rg0 [(1,.call Tryz.func98 [] (Zin a l p))] [(2,(.ptr 0 0)),(3,(.ptr 1 0)),(9,(vb (!l)))] ?_
 refine AWP.cif hF (fun q hF=>?_) (fun q hF=>?_)
 ·refine AWP.seq (AWP.rg0 [] [(4,(vb false))] (AWP.ret ?_))
  have hr:=someb hF
  subst hr
  exact(FnQ.f0 0 (.inr rfl))
 ·refine AWP.skip (AWP.seq (AWP.seq ?_))
  obtain⟨c,s,hF⟩:=bindb hF
  refine AWP.rg0 [(1,.call Tryz.func121 [] (Zqm d c s))] [(2,(.ptr 0 0)),(11,(Zco c)),(12,(i64 (0:Int)))] ?_
  obtain⟨j,t,hF⟩:=bindb hF
  refine AWP.mid (fun e st H=>(e=.normal∧j=(.inl ())∧st=[]∧H=[.cells (Za a),.cells (Zn d)])∨(e=.ret∧∃ r,j=(.inr r)∧Zvb r e st H)) ?_ ?_
  ·clear hF
   refine AWP.kp [2,11,12] 2 ?_
   refine AWP.bround (fun n st H=>∃ b,Zdu a c n b=some j∧st=[(2,(.ptr 0 0)),(11,(Zco c)),(12,(i64 b))]∧H=[.cells (Za a),.cells (Zn d)]) fuel ⟨(0:Int),t,by kernel_rfl,by kernel_rfl⟩ ?_
   rintro k st H ⟨b,hF,rfl,rfl⟩
   cases k with
   | zero=>exact noneb hF
   | succ k=>
    rw [Zdu] at hF
    refine AWP.seq (AWP.rg0 [] [(2,(.ptr 0 0)),(11,(Zco c)),(12,(i64 b)),(13,(vb (decide (b<(5:Int)))))] (AWP.seq ?_))
    refine AWP.cif hF (fun u hF=>?_) (fun u hF=>?_)
    ·refine AWP.skip (AWP.seq (AWP.block (AWP.seq ?_)))
     obtain⟨v,hF⟩:=chkb hF
     refine AWP.rg0 [(1,.ixA Zeh (Arr5.get c) v)] [(2,(.ptr 0 0)),(5,(i64 b)),(6,(u32 (Arr5.get c b))),(11,(Zco c)),(12,(i64 b))] (AWP.seq ?_)
     obtain⟨g,hF⟩:=chkb hF
     obtain⟨w,i,hF⟩:=bindb hF
     replace i:=someb i
     obtain⟨x,m,hF⟩:=bindb hF
     refine AWP.to [(2,(.ptr 0 0)),(11,(Zco c)),(12,(i64 b)),(29,(vb x))] [.cells (Za a),.cells (Zn d)] ?_ ?_
     ·cases w with
      | false=>
       have f:=ifF m rfl
       obtain⟨o,f⟩:=chkb f
       replace f:=someb f
       subst f
       exact AWP.rgT [(2,.ixd g),(4,.ldA Zk (Arr5.get a) 0 2 0 g),(6,.bool i),(9,.ixd o),(11,.ldA Zk (Arr5.get a) 0 2 1 o)]
      | true=>
       have y:=someb (ifT m rfl)
       subst y
       exact AWP.rgT [(2,.ixd g),(4,.ldA Zk (Arr5.get a) 0 2 0 g),(6,.bool i)]
     refine AWP.cif hF (fun z hF=>?_) (fun z hF=>?_)
     ·refine AWP.seq (AWP.rg0 [] [(4,(vb false))] (AWP.ret ?_))
      exact LeQ.of (.inr ⟨rfl,false,(someb hF).symm,(FnQ.f0 0 (.inr rfl))⟩)
     ·refine AWP.skip (AWP.rg0 [] [(2,(.ptr 0 0)),(11,(Zco c)),(12,(i64 (ZI (b + (1:Int)))))] (LeQ.start (LeQ.pk [2,11,12] 2 ?_)))
      exact⟨k,Nat.lt_succ_self _,(ZI (b + (1:Int))),hF,by kernel_rfl,by kernel_rfl⟩
    ·refine AWP.exit (LeQ.start (LeQ.pk [] 2 ?_))
     exact(.inl ⟨rfl,(someb hF).symm,by kernel_rfl,by kernel_rfl⟩)
  ·rintro _ _ _ (⟨rfl,rfl,rfl,rfl⟩ | ⟨rfl,a0,rfl,hq⟩)
   ·refine AWP.seq (AWP.rg0 [] [(4,(vb true))] (AWP.ret ?_))
    have hr:=someb hF
    subst hr
    exact(FnQ.f0 0 (.inr rfl))
   ·have hr:=someb hF
    subst hr
    exact hq
def Zsv (r:ZB):PV→List Blk→Prop:=fun p K=>p=(Zag r)∧K=[]
theorem Zsw (a:Zh) (b:Zs) (r:ZB) (hF:Zhg a b=some r):ACall Tryz.prog glob 28 [(Zg7 a),(Zcj b)] [] (Zsv r):=by
 refine ACall.body Tryz.func28 rfl (by kernel_rfl) ?_
 unfold Zhg at hF
 refine AWP.seq (AWP.rg [] [(2,(.ptr 0 0)),(3,(.ptr 1 0)),(4,(.ptr 2 0))] [.cells (Zc a),.cells (Zn b),.cells (Za Zm)] (AWP.seq ?_))
 obtain⟨c,l,hF⟩:=bindb hF
 refine AWP.rg [(1,.call Tryz.func77 [] (Z1p b c l))] [(2,(.ptr 0 0)),(3,(.ptr 1 0)),(4,(.ptr 2 0)),(5,(.ptr 3 0))] [.cells (Zc a),.cells (Zn b),.cells (Za Zm),.cells (Za c)] ?_
 obtain⟨g,m,hF⟩:=bindb hF
 refine AWP.seq ?_
 refine AWP.mid (fun e st H=>e=.normal∧st=[(4,(.ptr 2 0)),(5,(.ptr 3 0))]∧H=[.cells (Zc a),.cells (Zn b),.cells (Za Zm),.cells (Za g)]) ?_ ?_
 ·clear hF
  have hF:=m
  refine AWP.seq ?_
  obtain⟨i,j,hF⟩:=bindb hF
  obtain⟨n,f,hF⟩:=bindb hF
  replace f:=someb f
  obtain⟨o,k,hF⟩:=bindb hF
  refine AWP.to [(2,(.ptr 0 0)),(4,(.ptr 2 0)),(5,(.ptr 3 0)),(15,(vb o))] [.cells (Zc a),.cells (Zn b),.cells (Za Zm),.cells (Za c)] ?_ ?_
  ·cases n with
   | false=>
    have p:=someb (ifF k rfl)
    subst p
    exact AWP.rgT [(1,.call Tryz.func70 [] (Zdd a i j)),(2,.bool f)]
   | true=>
    have d:=ifT k rfl
    obtain⟨q,s,d⟩:=bindb d
    replace d:=someb d
    subst d
    exact AWP.rgT [(1,.call Tryz.func70 [] (Zdd a i j)),(2,.bool f),(6,.call Tryz.func76 [] (Zoe a.Match b q s))]
  refine AWP.cif hF (fun t hF=>?_) (fun t hF=>?_)
  ·refine AWP.seq (AWP.rg [] [(2,(.ptr 0 0)),(4,(.ptr 2 0)),(5,(.ptr 3 0))] [.cells (Zc a),.cells (Zn b),.cells (Za Zm),.cells (Za ({ c with x0:=(Zb.mk a.Addr a.Addr) }:ZB))] (AWP.rg [] [(4,(.ptr 2 0)),(5,(.ptr 3 0))] [.cells (Zc a),.cells (Zn b),.cells (Za Zm),.cells (Za ({ ({ c with x0:=(Zb.mk a.Addr a.Addr) }:ZB) with x3:=a.Ports }:ZB))] (LeQ.start (LeQ.pk [4,5] 4 ?_))))
   have hr:=someb hF
   subst hr
   exact⟨rfl,by kernel_rfl,by kernel_rfl⟩
  ·refine AWP.skip (LeQ.start (LeQ.pk [4,5] 4 ?_))
   have hr:=someb hF
   subst hr
   exact⟨rfl,by kernel_rfl,by kernel_rfl⟩
 ·rintro _ _ _ ⟨rfl,rfl,rfl⟩
  refine AWP.seq (AWP.rg [] [(4,(.ptr 2 0))] [.cells (Zc a),.cells (Zn b),.cells (Za g),.cells (Za g)] (AWP.ret ?_))
  have hr:=someb hF
  subst hr
  exact(FnQ.f0 0 (.inr rfl))
def Zud (r:(Arr5 Int)):PV→List Blk→Prop:=fun p K=>p=(Zco r)∧K=[]
theorem Zm3 (a:Zs) (r:(Arr5 Int)) (hF:Zgl a=some r):ACall Tryz.prog glob 73 [(Zcj a)] [] (Zud r):=by
 refine ACall.body Tryz.func73 rfl (by kernel_rfl) ?_
 unfold Zgl at hF
 refine AWP.seq (AWP.rg [] [(1,(.ptr 0 0)),(2,(.ptr 1 0))] [.cells (Zn a),.cells (Zdm Zxh)] (AWP.seq (AWP.rg [] [(2,(.ptr 1 0))] [.cells (Zn a),.cells (Zdm (Arr5.mk a.Src a.Dst (IntKind.wrap .u32 a.Proto) (IntKind.wrap .u32 a.SrcPort) (IntKind.wrap .u32 a.DstPort)))] (AWP.ret ?_))))
 have hr:=someb hF
 subst hr
 exact(FnQ.f0 0 (.inr rfl))
def Zln (r:Bool):PV→List Blk→Prop:=fun p K=>p=(vb r)∧K=[]
abbrev Zqn (r:Bool):Exit→St→List Blk→Prop:=FnQ Tryz.prog Tryz.f78.results 0 (Zln r)
theorem Zlo (a:ZB) (c:Zs) (r:Bool) (hF:Ze7 a c=some r):ACall Tryz.prog glob 78 [(Zag a),(Zcj c)] [] (Zln r):=by
 refine ACall.body Tryz.func78 rfl (by kernel_rfl) ?_
 unfold Ze7 at hF
 refine AWP.seq (AWP.rg [] [(2,(.ptr 0 0)),(3,(.ptr 1 0))] [.cells (Za a),.cells (Zn c)] (AWP.seq ?_))
 obtain⟨b,s,hF⟩:=bindb hF
 refine AWP.rg [(1,.call Tryz.func73 [] (Zm3 c b s))] [(2,(.ptr 0 0)),(5,(.ptr 2 0))] [.cells (Za a),.cells (Zn c),.cells (Zdm b)] (AWP.seq (AWP.seq (AWP.rg0 [] [(2,(.ptr 0 0)),(5,(.ptr 2 0)),(6,(i64 (0:Int)))] ?_)))
 obtain⟨k,t,hF⟩:=bindb hF
 refine AWP.mid (fun e st H=>(e=.normal∧k=(.inl ())∧st=[(2,(.ptr 0 0))]∧H=[.cells (Za a),.cells (Zn c),.cells (Zdm b)])∨(e=.ret∧∃ r,k=(.inr r)∧Zqn r e st H)) ?_ ?_
 ·clear hF
  refine AWP.kp [2,5,6] 3 ?_
  refine AWP.bround (fun n st H=>∃ d,Zcp a b n d=some k∧st=[(2,(.ptr 0 0)),(5,(.ptr 2 0)),(6,(i64 d))]∧H=[.cells (Za a),.cells (Zn c),.cells (Zdm b)]) fuel ⟨(0:Int),t,by kernel_rfl,by kernel_rfl⟩ ?_
  rintro l st H ⟨d,hF,rfl,rfl⟩
  cases l with
  | zero=>exact noneb hF
  | succ l=>
   rw [Zcp] at hF
   refine AWP.seq (AWP.seq (AWP.rg0 [] [(2,(.ptr 0 0)),(5,(.ptr 2 0)),(6,(i64 d)),(10,(vb (decide (d<(5:Int)))))] ?_))
   refine AWP.cif hF (fun u hF=>?_) (fun u hF=>?_)
   ·refine AWP.skip (AWP.seq (AWP.block (AWP.seq ?_)))
    obtain⟨g,hF⟩:=chkb hF
    obtain⟨i,hF⟩:=chkb hF
    obtain⟨v,j,hF⟩:=bindb hF
    replace j:=someb j
    obtain⟨w,m,hF⟩:=bindb hF
    refine AWP.to [(2,(.ptr 0 0)),(5,(.ptr 2 0)),(6,(i64 d)),(30,(vb w))] [.cells (Za a),.cells (Zn c),.cells (Zdm b)] ?_ ?_
    ·cases v with
     | false=>
      have f:=ifF m rfl
      obtain⟨o,f⟩:=chkb f
      obtain⟨p,f⟩:=chkb f
      replace f:=someb f
      subst f
      exact AWP.drT [(1,.ixd g),(2,.ldA Zeh (Arr5.get b) 0 1 0 g),(4,.ixd i),(6,.ldA Zk (Arr5.get a) 0 2 0 i),(8,.bool j),(10,.ixd o),(11,.ldA Zeh (Arr5.get b) 0 1 0 o),(13,.ixd p),(15,.ldA Zk (Arr5.get a) 0 2 1 p)] 18 [] [] []
     | true=>
      have x:=someb (ifT m rfl)
      subst x
      exact AWP.drT [(1,.ixd g),(2,.ldA Zeh (Arr5.get b) 0 1 0 g),(4,.ixd i),(6,.ldA Zk (Arr5.get a) 0 2 0 i),(8,.bool j)] 18 [] [] []
    refine AWP.cif hF (fun y hF=>?_) (fun y hF=>?_)
    ·refine AWP.seq (AWP.rg0 [] [(4,(vb false))] (AWP.ret ?_))
     exact LeQ.of (.inr ⟨rfl,false,(someb hF).symm,(FnQ.f0 0 (.inr rfl))⟩)
    ·refine AWP.skip (AWP.rg0 [] [(2,(.ptr 0 0)),(5,(.ptr 2 0)),(6,(i64 (ZI (d + (1:Int)))))] (LeQ.start (LeQ.pk [2,5,6] 3 ?_)))
     exact⟨l,Nat.lt_succ_self _,(ZI (d + (1:Int))),hF,by kernel_rfl,by kernel_rfl⟩
   ·refine AWP.exit (LeQ.start (LeQ.pk [2] 3 ?_))
    exact(.inl ⟨rfl,(someb hF).symm,by kernel_rfl,by kernel_rfl⟩)
 ·rintro _ _ _ (⟨rfl,rfl,rfl,rfl⟩ | ⟨rfl,a0,rfl,hq⟩)
  ·refine AWP.seq ?_
   obtain⟨q,z,hF⟩:=bindb hF
   refine AWP.rg0 [(1,.call Tryz.func96 [] (Zgs a q z))] [(4,(vb q))] (AWP.ret ?_)
   have hr:=someb hF
   subst hr
   exact(FnQ.f0 0 (.inr rfl))
  ·have hr:=someb hF
   subst hr
   exact hq
def Zxr (r:ZB):PV→List Blk→Prop:=fun p K=>p=(Zag r)∧K=[]
theorem Zqo (c:Zs) (r:ZB) (hF:Zia c=some r):ACall Tryz.prog glob 26 [(Zcj c)] [] (Zxr r):=by
 refine ACall.body Tryz.func26 rfl (by kernel_rfl) ?_
 unfold Zia at hF
 refine AWP.seq (AWP.rg [] [(1,(.ptr 0 0)),(2,(.ptr 1 0))] [.cells (Zn c),.cells (Za Zm)] (AWP.seq (AWP.rg [] [(1,(.ptr 0 0)),(2,(.ptr 1 0)),(3,(.ptr 2 0))] [.cells (Zn c),.cells (Za Zm),.cells (Za Zm)] (AWP.seq ?_))))
 obtain⟨b,l,hF⟩:=bindb hF
 refine AWP.rg [(1,.call Tryz.func73 [] (Zm3 c b l))] [(2,(.ptr 1 0)),(3,(.ptr 2 0)),(4,(.ptr 3 0))] [.cells (Zn c),.cells (Za Zm),.cells (Za Zm),.cells (Zdm b)] (AWP.seq (AWP.seq (AWP.rg0 [] [(2,(.ptr 1 0)),(3,(.ptr 2 0)),(4,(.ptr 3 0)),(5,(i64 (0:Int)))] ?_)))
 obtain⟨f,m,hF⟩:=bindb hF
 refine AWP.mid (fun e st H=>e=.normal∧st=[(2,(.ptr 1 0)),(3,(.ptr 2 0))]∧H=[.cells (Zn c),.cells (Za Zm),.cells (Za f),.cells (Zdm b)]) ?_ ?_
 ·clear hF
  refine AWP.kp [2,3,4,5] 4 ?_
  refine AWP.bround (fun n st H=>∃ d,∃ a,Zfj b n d a=some f∧st=[(2,(.ptr 1 0)),(3,(.ptr 2 0)),(4,(.ptr 3 0)),(5,(i64 a))]∧H=[.cells (Zn c),.cells (Za Zm),.cells (Za d),.cells (Zdm b)]) fuel ⟨Zm,(0:Int),m,by kernel_rfl,by kernel_rfl⟩ ?_
  rintro g st H ⟨d,a,hF,rfl,rfl⟩
  cases g with
  | zero=>exact noneb hF
  | succ g=>
   rw [Zfj] at hF
   refine AWP.seq (AWP.seq (AWP.rg0 [] [(2,(.ptr 1 0)),(3,(.ptr 2 0)),(4,(.ptr 3 0)),(5,(i64 a)),(9,(vb (decide (a<(5:Int)))))] ?_))
   refine AWP.cif hF (fun o hF=>?_) (fun o hF=>?_)
   ·refine AWP.skip (AWP.seq (AWP.block ?_))
    obtain⟨i,hF⟩:=chkb hF
    obtain⟨j,hF⟩:=chkb hF
    obtain⟨k,hF⟩:=chkb hF
    refine AWP.dr [(2,.ixd i),(3,.ldA Zeh (Arr5.get b) 0 1 0 i),(5,.ixd j),(6,.ldA Zeh (Arr5.get b) 0 1 0 j),(8,.ixd k),(9,.stA (fun p=>Za (Arr5.set d p (Zb.mk (Arr5.get b a) (Arr5.get b a)))) 0 2 0 k)] 8 [] [] [] [(2,(.ptr 1 0)),(3,(.ptr 2 0)),(4,(.ptr 3 0)),(5,(i64 a))] [.cells (Zn c),.cells (Za Zm),.cells (Za (Arr5.set d a (Zb.mk (Arr5.get b a) (Arr5.get b a)))),.cells (Zdm b)] (AWP.rg0 [] [(2,(.ptr 1 0)),(3,(.ptr 2 0)),(4,(.ptr 3 0)),(5,(i64 (ZI (a + (1:Int)))))] (LeQ.start (LeQ.pk [2,3,4,5] 4 ?_)))
    exact⟨g,Nat.lt_succ_self _,(Arr5.set d a (Zb.mk (Arr5.get b a) (Arr5.get b a))),(ZI (a + (1:Int))),hF,by kernel_rfl,by kernel_rfl⟩
   ·refine AWP.exit (LeQ.start (LeQ.pk [2,3] 4 ?_))
    have hr:=someb hF
    subst hr
    exact⟨rfl,by kernel_rfl,by kernel_rfl⟩
 ·rintro _ _ _ ⟨rfl,rfl,rfl⟩
  refine AWP.seq (AWP.rg [] [(2,(.ptr 1 0))] [.cells (Zn c),.cells (Za f),.cells (Za f),.cells (Zdm b)] (AWP.ret ?_))
  have hr:=someb hF
  subst hr
  exact(FnQ.f0 0 (.inr rfl))
def Zsx (r:ZB):PV→List Blk→Prop:=fun p K=>p=(Zag r)∧K=[]
theorem Zsy (a:Zh) (b:Zs) (r:ZB) (hF:Zhh a b=some r):ACall Tryz.prog glob 82 [(Zg7 a),(Zcj b)] [] (Zsx r):=by
 refine ACall.body Tryz.func82 rfl (by kernel_rfl) ?_
 unfold Zhh at hF
 refine AWP.seq (AWP.rg [] [(2,(.ptr 0 0)),(3,(.ptr 1 0)),(4,(.ptr 2 0))] [.cells (Zc a),.cells (Zn b),.cells (Za Zm)] (AWP.seq (AWP.seq ?_)))
 obtain⟨f,g,hF⟩:=bindb hF
 obtain⟨m,d,hF⟩:=bindb hF
 replace d:=someb d
 obtain⟨n,i,hF⟩:=bindb hF
 refine AWP.to [(2,(.ptr 0 0)),(3,(.ptr 1 0)),(4,(.ptr 2 0)),(14,(vb n))] [.cells (Zc a),.cells (Zn b),.cells (Za Zm)] ?_ ?_
 ·cases m with
  | false=>
   have c:=ifF i rfl
   obtain⟨o,p,c⟩:=bindb c
   replace c:=someb c
   subst c
   exact AWP.rgT [(1,.call Tryz.func122 [] (Zd4 a f g)),(3,.bool d),(7,.call Tryz.func78 [] (Zlo a.Match b o p))]
  | true=>
   have q:=someb (ifT i rfl)
   subst q
   exact AWP.rgT [(1,.call Tryz.func122 [] (Zd4 a f g)),(3,.bool d)]
 refine AWP.cif hF (fun s hF=>?_) (fun s hF=>?_)
 ·refine AWP.seq ?_
  obtain⟨j,t,hF⟩:=bindb hF
  refine AWP.rg [(1,.call Tryz.func26 [] (Zqo b j t))] [(4,(.ptr 2 0))] [.cells (Zc a),.cells (Zn b),.cells (Za j)] (AWP.ret ?_)
  have hr:=someb hF
  subst hr
  exact(FnQ.f0 0 (.inr rfl))
 ·refine AWP.skip (AWP.seq ?_)
  obtain⟨k,u,hF⟩:=bindb hF
  obtain⟨l,v,hF⟩:=bindb hF
  refine AWP.dr [(2,.call Tryz.func26 [] (Zqo b k u)),(3,.call Tryz.func123 [] (Zj1 a k l v))] 4 [] [] [] [(4,(.ptr 2 0))] [.cells (Zc a),.cells (Zn b),.cells (Za l)] (AWP.ret ?_)
  have hr:=someb hF
  subst hr
  exact(FnQ.f0 0 (.inr rfl))
def Zvc (r:Bool):PV→List Blk→Prop:=fun p K=>p=(vb r)∧K=[]
theorem Zds (a:ZL) (b:ZL) (r:Bool) (hF:Zhc a b=some r):ACall Tryz.prog glob 66 [(slc 10 Za a),(slc 10 Za b)] [] (Zvc r):=by
 refine ACall.body Tryz.func66 rfl (by kernel_rfl) ?_
 unfold Zhc at hF
 refine AWP.seq (AWP.rg0 [] [(0,(slc 10 Za a)),(1,(slc 10 Za b))] (AWP.seq ?_))
 obtain⟨c,d,hF⟩:=bindb hF
 refine AWP.rg0 [(2,.call Tryz.func111 [] (Zn1 a b c d))] [(4,(vb c))] (AWP.ret ?_)
 have hr:=someb hF
 subst hr
 exact(FnQ.f0 0 (.inr rfl))
def Zkr (r:Bool):PV→List Blk→Prop:=fun p K=>p=(vb r)∧K=[]
abbrev Zov (r:Bool):Exit→St→List Blk→Prop:=FnQ Tryz.prog Tryz.f83.results 0 (Zkr r)
theorem Zks (a:(List Zh)) (r:Bool) (hF:Zfo a=some r):ACall Tryz.prog glob 83 [(slc 13 Zc a)] [] (Zkr r):=by
 refine ACall.body Tryz.func83 rfl (by kernel_rfl) ?_
 unfold Zfo at hF
 refine AWP.seq (AWP.rg0 [] [(0,(slc 13 Zc a))] (AWP.seq (AWP.seq (AWP.rg0 [(1,.len Zc a)] [(0,(slc 13 Zc a)),(5,(slc 13 Zc a)),(6,(i64 (List.length a:Int))),(7,(i64 (0:Int)))] ?_))))
 obtain⟨c,i,hF⟩:=bindb hF
 refine AWP.mid (fun e st H=>(e=.normal∧c=(.inl ())∧st=[(0,(slc 13 Zc a))]∧H=[])∨(e=.ret∧∃ r,c=(.inr r)∧Zov r e st H)) ?_ ?_
 ·clear hF
  refine AWP.kp [0,5,6,7] 0 ?_
  refine AWP.bround (fun n st H=>∃ b,Zcu a n b=some c∧st=[(0,(slc 13 Zc a)),(5,(slc 13 Zc a)),(6,(i64 (List.length a:Int))),(7,(i64 b))]∧H=[]) fuel ⟨(0:Int),i,by kernel_rfl,by kernel_rfl⟩ ?_
  rintro d st H ⟨b,hF,rfl,rfl⟩
  cases d with
  | zero=>exact noneb hF
  | succ d=>
   rw [Zcu] at hF
   refine AWP.seq (AWP.rg0 [] [(0,(slc 13 Zc a)),(5,(slc 13 Zc a)),(6,(i64 (List.length a:Int))),(7,(i64 b)),(8,(vb (decide (b<(List.length a:Int)))))] (AWP.seq ?_))
   refine AWP.cif hF (fun j hF=>?_) (fun j hF=>?_)
   ·refine AWP.skip (AWP.seq (AWP.block (AWP.seq ?_)))
    obtain⟨f,k,hF⟩:=bindb hF
    refine AWP.rg [(0,.idx Zc k)] [(0,(slc 13 Zc a)),(4,(.ptr 0 0)),(5,(slc 13 Zc a)),(6,(i64 (List.length a:Int))),(7,(i64 b))] [.cells (Zc f)] (AWP.seq ?_)
    obtain⟨g,l,hF⟩:=bindb hF
    refine AWP.rg0 [(1,.call Tryz.func70 [] (Zdd f g l))] [(0,(slc 13 Zc a)),(5,(slc 13 Zc a)),(6,(i64 (List.length a:Int))),(7,(i64 b)),(13,(vb (!g)))] ?_
    refine AWP.cif hF (fun m hF=>?_) (fun m hF=>?_)
    ·refine AWP.seq (AWP.rg0 [] [(2,(vb false))] (AWP.ret ?_))
     exact LeQ.of (.inr ⟨rfl,false,(someb hF).symm,(FnQ.f0 0 (.inr rfl))⟩)
    ·refine AWP.skip (AWP.rg0 [] [(0,(slc 13 Zc a)),(5,(slc 13 Zc a)),(6,(i64 (List.length a:Int))),(7,(i64 (ZI (b + (1:Int)))))] (LeQ.start (LeQ.pk [0,5,6,7] 0 ?_)))
     exact⟨d,Nat.lt_succ_self _,(ZI (b + (1:Int))),hF,by kernel_rfl,by kernel_rfl⟩
   ·refine AWP.exit (LeQ.start (LeQ.pk [0] 0 ?_))
    exact(.inl ⟨rfl,(someb hF).symm,by kernel_rfl,by kernel_rfl⟩)
 ·rintro _ _ _ (⟨rfl,rfl,rfl,rfl⟩ | ⟨rfl,o,rfl,hq⟩)
  ·refine AWP.seq (AWP.rg0 [(1,.len Zc a)] [(2,(vb (decide ((List.length a:Int)≤(256:Int)))))] (AWP.ret ?_))
   have hr:=someb hF
   subst hr
   exact(FnQ.f0 0 (.inr rfl))
  ·have hr:=someb hF
   subst hr
   exact hq
def Zkt (r:Bool):PV→List Blk→Prop:=fun p K=>p=(vb r)∧K=[]
abbrev Zow (r:Bool):Exit→St→List Blk→Prop:=FnQ Tryz.prog Tryz.f84.results 0 (Zkt r)
theorem Zku (a:(List Zh)) (r:Bool) (hF:Zfp a=some r):ACall Tryz.prog glob 84 [(slc 13 Zc a)] [] (Zkt r):=by
 refine ACall.body Tryz.func84 rfl (by kernel_rfl) ?_
 unfold Zfp at hF
 refine AWP.seq (AWP.rg0 [] [(0,(slc 13 Zc a))] (AWP.seq (AWP.seq (AWP.rg0 [] [(0,(slc 13 Zc a)),(3,(i64 (0:Int)))] ?_))))
 obtain⟨c,g,hF⟩:=bindb hF
 refine AWP.mid (fun e st H=>(e=.normal∧c=(.inl ())∧st=[(0,(slc 13 Zc a))]∧H=[])∨(e=.ret∧∃ r,c=(.inr r)∧Zow r e st H)) ?_ ?_
 ·clear hF
  refine AWP.kp [0,3] 0 ?_
  refine AWP.bround (fun n st H=>∃ b,Zcv a n b=some c∧st=[(0,(slc 13 Zc a)),(3,(i64 b))]∧H=[]) fuel ⟨(0:Int),g,by kernel_rfl,by kernel_rfl⟩ ?_
  rintro d st H ⟨b,hF,rfl,rfl⟩
  cases d with
  | zero=>exact noneb hF
  | succ d=>
   rw [Zcv] at hF
   refine AWP.seq (AWP.seq (AWP.rg0 [(2,.len Zc a)] [(0,(slc 13 Zc a)),(3,(i64 b)),(7,(vb (decide (b<(List.length a:Int)))))] ?_))
   refine AWP.cif hF (fun i hF=>?_) (fun i hF=>?_)
   ·refine AWP.skip (AWP.seq (AWP.block (AWP.seq ?_)))
    obtain⟨j,k,hF⟩:=bindb hF
    obtain⟨f,l,hF⟩:=bindb hF
    refine AWP.rg0 [(2,.idx Zc k),(4,.call Tryz.func122 [] (Zd4 j f l))] [(0,(slc 13 Zc a)),(3,(i64 b)),(15,(vb (!f)))] ?_
    refine AWP.cif hF (fun m hF=>?_) (fun m hF=>?_)
    ·refine AWP.seq (AWP.rg0 [] [(2,(vb false))] (AWP.ret ?_))
     exact LeQ.of (.inr ⟨rfl,false,(someb hF).symm,(FnQ.f0 0 (.inr rfl))⟩)
    ·refine AWP.skip (AWP.rg0 [] [(0,(slc 13 Zc a)),(3,(i64 (ZI (b + (1:Int)))))] (LeQ.start (LeQ.pk [0,3] 0 ?_)))
     exact⟨d,Nat.lt_succ_self _,(ZI (b + (1:Int))),hF,by kernel_rfl,by kernel_rfl⟩
   ·refine AWP.exit (LeQ.start (LeQ.pk [0] 0 ?_))
    exact(.inl ⟨rfl,(someb hF).symm,by kernel_rfl,by kernel_rfl⟩)
 ·rintro _ _ _ (⟨rfl,rfl,rfl,rfl⟩ | ⟨rfl,o,rfl,hq⟩)
  ·refine AWP.seq (AWP.rg0 [(1,.len Zc a)] [(2,(vb (decide ((List.length a:Int)≤(256:Int)))))] (AWP.ret ?_))
   have hr:=someb hF
   subst hr
   exact(FnQ.f0 0 (.inr rfl))
  ·have hr:=someb hF
   subst hr
   exact hq
def Zof (a:Zs) (r:Bool):PV→List Blk→Prop:=fun p K=>p=(vb r)∧K=[.cells (Zn a)]
theorem Zog (a:Zh) (b:Zs) (r:Bool) (hF:Zfb a b=some r):ACall Tryz.prog glob 75 [(Zg7 a),(.ptr 0 0)] [.cells (Zn b)] (Zof b r):=by
 refine ACall.body Tryz.func75 rfl (by kernel_rfl) ?_
 unfold Zfb at hF
 refine AWP.seq (AWP.rg [] [(1,(.ptr 0 0)),(2,(.ptr 1 0))] [.cells (Zn b),.cells (Zc a)] (AWP.seq ?_))
 obtain⟨f,g,hF⟩:=bindb hF
 obtain⟨j,d,hF⟩:=bindb hF
 replace d:=someb d
 obtain⟨k,i,hF⟩:=bindb hF
 refine AWP.to [(3,(vb k))] [.cells (Zn b),.cells (Zc a)] ?_ ?_
 ·cases j with
  | false=>
   have l:=someb (ifF i rfl)
   subst l
   exact AWP.rgT [(1,.call Tryz.func70 [] (Zdd a f g)),(2,.bool d)]
  | true=>
   have c:=ifT i rfl
   obtain⟨m,n,c⟩:=bindb c
   replace c:=someb c
   subst c
   exact AWP.rgT [(1,.call Tryz.func70 [] (Zdd a f g)),(2,.bool d),(6,.call Tryz.func76 [] (Zoe a.Match b m n))]
 refine AWP.ret ?_
 have hr:=someb hF
 subst hr
 exact(FnQ.f0 1 (.inr rfl))
def Zdv (a:Zs) (r:Int):PV→List Blk→Prop:=fun p K=>p=(i64 r)∧K=[.cells (Zn a)]
abbrev Zg4 (a:Zs) (r:Int):Exit→St→List Blk→Prop:=FnQ Tryz.prog Tryz.f74.results 1 (Zdv a r)
theorem Zg5 (a:(List Zh)) (c:Zs) (r:Int) (hF:Za9 a c=some r):ACall Tryz.prog glob 74 [(slc 13 Zc a),(.fn 75 [(.ptr 0 0)])] [.cells (Zn c)] (Zdv c r):=by
 refine ACall.body Tryz.func74 rfl (by kernel_rfl) ?_
 unfold Za9 at hF
 refine AWP.seq (AWP.rg0 [] [(0,(slc 13 Zc a)),(1,(.fn 75 [(.ptr 0 0)]))] (AWP.seq (AWP.seq (AWP.rg0 [(1,.len Zc a)] [(0,(slc 13 Zc a)),(1,(.fn 75 [(.ptr 0 0)])),(7,(i64 (List.length a:Int))),(8,(i64 (0:Int)))] ?_))))
 obtain⟨d,i,hF⟩:=bindb hF
 refine AWP.mid (fun e st H=>(e=.normal∧d=(.inl ())∧st=[]∧H=[.cells (Zn c)])∨(e=.ret∧∃ r,d=(.inr r)∧Zg4 c r e st H)) ?_ ?_
 ·clear hF
  refine AWP.kp [0,1,7,8] 1 ?_
  refine AWP.bround (fun n st H=>∃ b,Z2 a c n b=some d∧st=[(0,(slc 13 Zc a)),(1,(.fn 75 [(.ptr 0 0)])),(7,(i64 (List.length a:Int))),(8,(i64 b))]∧H=[.cells (Zn c)]) fuel ⟨(0:Int),i,by kernel_rfl,by kernel_rfl⟩ ?_
  rintro f st H ⟨b,hF,rfl,rfl⟩
  cases f with
  | zero=>exact noneb hF
  | succ f=>
   rw [Z2] at hF
   refine AWP.seq (AWP.rg0 [] [(0,(slc 13 Zc a)),(1,(.fn 75 [(.ptr 0 0)])),(7,(i64 (List.length a:Int))),(8,(i64 b)),(9,(vb (decide (b<(List.length a:Int)))))] (AWP.seq ?_))
   refine AWP.cif hF (fun j hF=>?_) (fun j hF=>?_)
   ·refine AWP.skip (AWP.seq (AWP.block (AWP.seq (AWP.rg0 [] [(0,(slc 13 Zc a)),(1,(.fn 75 [(.ptr 0 0)])),(5,(i64 b)),(7,(i64 (List.length a:Int))),(8,(i64 b))] (AWP.seq ?_)))))
    obtain⟨k,l,hF⟩:=bindb hF
    obtain⟨g,m,hF⟩:=bindb hF
    refine AWP.rg0 [(3,.idx Zc l),(5,.callF Tryz.func75 [] (Zog k c g m))] [(0,(slc 13 Zc a)),(1,(.fn 75 [(.ptr 0 0)])),(5,(i64 b)),(7,(i64 (List.length a:Int))),(8,(i64 b)),(16,(vb g))] ?_
    refine AWP.cif hF (fun o hF=>?_) (fun o hF=>?_)
    ·refine AWP.seq (AWP.rg0 [] [(4,(i64 b))] (AWP.ret ?_))
     exact LeQ.of (.inr ⟨rfl,b,(someb hF).symm,(FnQ.f0 1 (.inr rfl))⟩)
    ·refine AWP.skip (AWP.rg0 [] [(0,(slc 13 Zc a)),(1,(.fn 75 [(.ptr 0 0)])),(7,(i64 (List.length a:Int))),(8,(i64 (ZI (b + (1:Int)))))] (LeQ.start (LeQ.pk [0,1,7,8] 1 ?_)))
     exact⟨f,Nat.lt_succ_self _,(ZI (b + (1:Int))),hF,by kernel_rfl,by kernel_rfl⟩
   ·refine AWP.exit (LeQ.start (LeQ.pk [] 1 ?_))
    exact(.inl ⟨rfl,(someb hF).symm,by kernel_rfl,by kernel_rfl⟩)
 ·rintro _ _ _ (⟨rfl,rfl,rfl,rfl⟩ | ⟨rfl,p,rfl,hq⟩)
  ·refine AWP.seq (AWP.rg0 [] [(4,(i64 (-1:Int)))] (AWP.ret ?_))
   have hr:=someb hF
   subst hr
   exact(FnQ.f0 1 (.inr rfl))
  ·have hr:=someb hF
   subst hr
   exact hq
def Zpy (r:Int):PV→List Blk→Prop:=fun p K=>p=(i64 r)∧K=[]
theorem Zpz (a:(List Zh)) (b:Zs) (r:Int) (hF:Zf1 a b=some r):ACall Tryz.prog glob 27 [(slc 13 Zc a),(Zcj b)] [] (Zpy r):=by
 refine ACall.body Tryz.func27 rfl (by kernel_rfl) ?_
 unfold Zf1 at hF
 refine AWP.seq (AWP.rg [] [(0,(slc 13 Zc a)),(3,(.ptr 0 0))] [.cells (Zn b)] (AWP.seq ?_))
 obtain⟨c,d,hF⟩:=bindb hF
 refine AWP.rg0 [(1,.q),(2,.call Tryz.func74 [] (Zg5 a b c d))] [(4,(i64 c))] (AWP.ret ?_)
 have hr:=someb hF
 subst hr
 exact(FnQ.f0 0 (.inr rfl))
def Zk6 (r:Int):PV→List Blk→Prop:=fun p K=>p=(i64 r)∧K=[]
abbrev Zp0 (r:Int):Exit→St→List Blk→Prop:=FnQ Tryz.prog Tryz.f85.results 0 (Zk6 r)
theorem Zp1 (a:(List Zh)) (c:Zs) (r:Int) (hF:Zf3 a c=some r):ACall Tryz.prog glob 85 [(slc 13 Zc a),(Zcj c)] [] (Zk6 r):=by
 refine ACall.body Tryz.func85 rfl (by kernel_rfl) ?_
 unfold Zf3 at hF
 refine AWP.seq (AWP.rg [] [(0,(slc 13 Zc a)),(3,(.ptr 0 0))] [.cells (Zn c)] (AWP.seq (AWP.seq (AWP.rg0 [] [(0,(slc 13 Zc a)),(3,(.ptr 0 0)),(5,(i64 (0:Int)))] ?_))))
 obtain⟨g,p,hF⟩:=bindb hF
 refine AWP.mid (fun e st H=>(e=.normal∧g=(.inl ())∧st=[]∧H=[.cells (Zn c)])∨(e=.ret∧∃ r,g=(.inr r)∧Zp0 r e st H)) ?_ ?_
 ·clear hF
  refine AWP.kp [0,3,5] 1 ?_
  refine AWP.bround (fun n st H=>∃ b,Zc7 a c n b=some g∧st=[(0,(slc 13 Zc a)),(3,(.ptr 0 0)),(5,(i64 b))]∧H=[.cells (Zn c)]) fuel ⟨(0:Int),p,by kernel_rfl,by kernel_rfl⟩ ?_
  rintro i st H ⟨b,hF,rfl,rfl⟩
  cases i with
  | zero=>exact noneb hF
  | succ i=>
   rw [Zc7] at hF
   refine AWP.seq (AWP.seq (AWP.rg0 [(2,.len Zc a)] [(0,(slc 13 Zc a)),(3,(.ptr 0 0)),(5,(i64 b)),(9,(vb (decide (b<(List.length a:Int)))))] ?_))
   refine AWP.cif hF (fun q hF=>?_) (fun q hF=>?_)
   ·refine AWP.skip (AWP.seq (AWP.block (AWP.seq ?_)))
    obtain⟨j,k,hF⟩:=bindb hF
    obtain⟨l,m,hF⟩:=bindb hF
    obtain⟨s,f,hF⟩:=bindb hF
    replace f:=someb f
    obtain⟨t,o,hF⟩:=bindb hF
    refine AWP.to [(0,(slc 13 Zc a)),(3,(.ptr 0 0)),(5,(i64 b)),(25,(vb t))] [.cells (Zn c)] ?_ ?_
    ·cases s with
     | false=>
      have u:=someb (ifF o rfl)
      subst u
      exact AWP.drT [(2,.idx Zc k),(4,.call Tryz.func122 [] (Zd4 j l m)),(5,.bool f)] 14 [] [] []
     | true=>
      have d:=ifT o rfl
      obtain⟨v,w,d⟩:=bindb d
      obtain⟨x,y,d⟩:=bindb d
      replace d:=someb d
      subst d
      exact AWP.drT [(2,.idx Zc k),(4,.call Tryz.func122 [] (Zd4 j l m)),(5,.bool f),(8,.idx Zc w),(12,.call Tryz.func78 [] (Zlo v.Match c x y))] 14 [] [] []
    refine AWP.cif hF (fun z hF=>?_) (fun z hF=>?_)
    ·refine AWP.seq (AWP.rg0 [] [(4,(i64 b))] (AWP.ret ?_))
     exact LeQ.of (.inr ⟨rfl,b,(someb hF).symm,(FnQ.f0 0 (.inr rfl))⟩)
    ·refine AWP.skip (AWP.rg0 [] [(0,(slc 13 Zc a)),(3,(.ptr 0 0)),(5,(i64 (ZI (b + (1:Int)))))] (LeQ.start (LeQ.pk [0,3,5] 1 ?_)))
     exact⟨i,Nat.lt_succ_self _,(ZI (b + (1:Int))),hF,by kernel_rfl,by kernel_rfl⟩
   ·refine AWP.exit (LeQ.start (LeQ.pk [] 1 ?_))
    exact(.inl ⟨rfl,(someb hF).symm,by kernel_rfl,by kernel_rfl⟩)
 ·rintro _ _ _ (⟨rfl,rfl,rfl,rfl⟩ | ⟨rfl,a0,rfl,hq⟩)
  ·refine AWP.seq (AWP.rg0 [] [(4,(i64 (-1:Int)))] (AWP.ret ?_))
   have hr:=someb hF
   subst hr
   exact(FnQ.f0 0 (.inr rfl))
  ·have hr:=someb hF
   subst hr
   exact hq
def Zm4 (r:Bool):PV→List Blk→Prop:=fun p K=>p=(vb r)∧K=[]
abbrev Zue (r:Bool):Exit→St→List Blk→Prop:=FnQ Tryz.prog Tryz.f31.results 0 (Zm4 r)
theorem Zh0 (b:(List Zh)) (i:ZL) (g:Zs) (r:Bool) (hF:Zfq b i g=some r):ACall Tryz.prog glob 31 [(slc 13 Zc b),(slc 10 Za i),(Zcj g)] [] (Zm4 r):=by
 refine ACall.body Tryz.func31 rfl (by kernel_rfl) ?_
 unfold Zfq at hF
 refine AWP.seq (AWP.rg [] [(0,(slc 13 Zc b)),(1,(slc 10 Za i)),(5,(.ptr 0 0))] [.cells (Zn g)] (AWP.seq ?_))
 obtain⟨a,a9,hF⟩:=bindb hF
 refine AWP.rg0 [(2,.call Tryz.func24 [] (Zpp b i a a9))] [(0,(slc 13 Zc b)),(1,(slc 10 Za i)),(5,(.ptr 0 0)),(7,(slc 10 Za a.1)),(8,(i64 a.2))] (AWP.seq ?_)
 obtain⟨c,b0,hF⟩:=bindb hF
 refine AWP.rg0 [(2,.call Tryz.func80 [] (Zpw b i c b0))] [(0,(slc 13 Zc b)),(1,(slc 10 Za i)),(5,(.ptr 0 0)),(7,(slc 10 Za a.1)),(8,(i64 a.2)),(9,(slc 10 Za c.1)),(10,(i64 c.2))] (AWP.seq ?_)
 obtain⟨d,b1,hF⟩:=bindb hF
 refine AWP.rg0 [(2,.call Tryz.func25 [] (Zno b i d b1))] [(0,(slc 13 Zc b)),(1,(slc 10 Za i)),(5,(.ptr 0 0)),(7,(slc 10 Za a.1)),(8,(i64 a.2)),(9,(slc 10 Za c.1)),(10,(i64 c.2)),(11,(slc 10 Za d.1)),(12,(i64 d.2))] (AWP.seq ?_)
 obtain⟨f,b2,hF⟩:=bindb hF
 refine AWP.rg0 [(2,.call Tryz.func81 [] (Znq b i f b2))] [(0,(slc 13 Zc b)),(5,(.ptr 0 0)),(7,(slc 10 Za a.1)),(8,(i64 a.2)),(9,(slc 10 Za c.1)),(10,(i64 c.2)),(11,(slc 10 Za d.1)),(12,(i64 d.2)),(13,(slc 10 Za f.1)),(14,(i64 f.2))] (AWP.seq (AWP.seq (AWP.rg0 [] [(0,(slc 13 Zc b)),(5,(.ptr 0 0)),(7,(slc 10 Za a.1)),(8,(i64 a.2)),(9,(slc 10 Za c.1)),(10,(i64 c.2)),(11,(slc 10 Za d.1)),(12,(i64 d.2)),(13,(slc 10 Za f.1)),(14,(i64 f.2)),(15,(i64 (0:Int)))] ?_)))
 obtain⟨a0,b3,hF⟩:=bindb hF
 refine AWP.mid (fun e st H=>(e=.normal∧a0=(.inl ())∧st=[(0,(slc 13 Zc b)),(5,(.ptr 0 0)),(7,(slc 10 Za a.1)),(8,(i64 a.2)),(9,(slc 10 Za c.1)),(10,(i64 c.2)),(11,(slc 10 Za d.1)),(12,(i64 d.2)),(13,(slc 10 Za f.1)),(14,(i64 f.2))]∧H=[.cells (Zn g)])∨(e=.ret∧∃ r,a0=(.inr r)∧Zue r e st H)) ?_ ?_
 ·clear hF
  refine AWP.kp [0,5,7,8,9,10,11,12,13,14,15] 1 ?_
  refine AWP.bround (fun n st H=>∃ j,Zdj b g n j=some a0∧st=[(0,(slc 13 Zc b)),(5,(.ptr 0 0)),(7,(slc 10 Za a.1)),(8,(i64 a.2)),(9,(slc 10 Za c.1)),(10,(i64 c.2)),(11,(slc 10 Za d.1)),(12,(i64 d.2)),(13,(slc 10 Za f.1)),(14,(i64 f.2)),(15,(i64 j))]∧H=[.cells (Zn g)]) fuel ⟨(0:Int),b3,by kernel_rfl,by kernel_rfl⟩ ?_
  rintro a1 st H ⟨j,hF,rfl,rfl⟩
  cases a1 with
  | zero=>exact noneb hF
  | succ a1=>
   rw [Zdj] at hF
   refine AWP.seq (AWP.seq (AWP.rg0 [(2,.len Zc b)] [(0,(slc 13 Zc b)),(5,(.ptr 0 0)),(7,(slc 10 Za a.1)),(8,(i64 a.2)),(9,(slc 10 Za c.1)),(10,(i64 c.2)),(11,(slc 10 Za d.1)),(12,(i64 d.2)),(13,(slc 10 Za f.1)),(14,(i64 f.2)),(15,(i64 j)),(43,(vb (decide (j<(List.length b:Int)))))] ?_))
   refine AWP.cif hF (fun b4 hF=>?_) (fun b4 hF=>?_)
   ·refine AWP.skip (AWP.seq (AWP.block (AWP.seq ?_)))
    obtain⟨b5,b6,hF⟩:=bindb hF
    obtain⟨a3,b7,hF⟩:=bindb hF
    obtain⟨b8,b9,hF⟩:=bindb hF
    obtain⟨a4,c0,hF⟩:=bindb hF
    refine AWP.dr [(2,.idx Zc b6),(5,.call Tryz.func28 [] (Zsw b5 g a3 b7)),(8,.idx Zc b9),(11,.call Tryz.func82 [] (Zsy b8 g a4 c0))] 13 [] [] [] [(0,(slc 13 Zc b)),(5,(.ptr 0 0)),(7,(slc 10 Za a.1)),(8,(i64 a.2)),(9,(slc 10 Za c.1)),(10,(i64 c.2)),(11,(slc 10 Za d.1)),(12,(i64 d.2)),(13,(slc 10 Za f.1)),(14,(i64 f.2)),(15,(i64 j)),(58,(vb (!(Zer a3 a4))))] [.cells (Zn g)] ?_
    refine AWP.cif hF (fun c1 hF=>?_) (fun c1 hF=>?_)
    ·refine AWP.seq (AWP.rg0 [] [(6,(vb false))] (AWP.ret ?_))
     exact LeQ.of (.inr ⟨rfl,false,(someb hF).symm,(FnQ.f0 0 (.inr rfl))⟩)
    ·refine AWP.skip (AWP.rg0 [] [(0,(slc 13 Zc b)),(5,(.ptr 0 0)),(7,(slc 10 Za a.1)),(8,(i64 a.2)),(9,(slc 10 Za c.1)),(10,(i64 c.2)),(11,(slc 10 Za d.1)),(12,(i64 d.2)),(13,(slc 10 Za f.1)),(14,(i64 f.2)),(15,(i64 (ZI (j + (1:Int)))))] (LeQ.start (LeQ.pk [0,5,7,8,9,10,11,12,13,14,15] 1 ?_)))
     exact⟨a1,Nat.lt_succ_self _,(ZI (j + (1:Int))),hF,by kernel_rfl,by kernel_rfl⟩
   ·refine AWP.exit (LeQ.start (LeQ.pk [0,5,7,8,9,10,11,12,13,14] 1 ?_))
    exact(.inl ⟨rfl,(someb hF).symm,by kernel_rfl,by kernel_rfl⟩)
 ·rintro _ _ _ (⟨rfl,rfl,rfl,rfl⟩ | ⟨rfl,e3,rfl,hq⟩)
  ·refine AWP.seq ?_
   obtain⟨t,u,hF⟩:=bindb hF
   obtain⟨c2,k,hF⟩:=bindb hF
   replace k:=someb k
   obtain⟨c3,l,hF⟩:=bindb hF
   replace l:=someb l
   obtain⟨e4,a2,hF⟩:=bindb hF
   obtain⟨c4,m,hF⟩:=bindb hF
   replace m:=someb m
   obtain⟨c5,o,hF⟩:=bindb hF
   replace o:=someb o
   obtain⟨e5,w,hF⟩:=bindb hF
   obtain⟨c6,p,hF⟩:=bindb hF
   replace p:=someb p
   obtain⟨c7,v,hF⟩:=bindb hF
   refine AWP.to [(6,(vb c7))] [.cells (Zn g)] ?_ ?_
   ·cases c2 with
    | false=>
     subst l
     have c8:=someb (ifF a2 rfl)
     subst c8
     subst m
     subst o
     have c9:=someb (ifF w rfl)
     subst c9
     subst p
     have d0:=someb (ifF v rfl)
     subst d0
     exact AWP.drT [(2,.call Tryz.func66 [] (Zds a.1 c.1 t u)),(3,.bool k)] 34 [] [] []
    | true=>
     cases c3 with
     | false=>
      have d1:=someb (ifF a2 rfl)
      subst d1
      subst m
      subst o
      have d2:=someb (ifF w rfl)
      subst d2
      subst p
      have d3:=someb (ifF v rfl)
      subst d3
      exact AWP.drT [(2,.call Tryz.func66 [] (Zds a.1 c.1 t u)),(3,.bool k),(8,.bool l)] 34 [] [] []
     | true=>
      have x:=ifT a2 rfl
      obtain⟨y,z,x⟩:=bindb x
      replace x:=someb x
      subst x
      cases c4 with
      | false=>
       subst o
       have d4:=someb (ifF w rfl)
       subst d4
       subst p
       have d5:=someb (ifF v rfl)
       subst d5
       exact AWP.drT [(2,.call Tryz.func66 [] (Zds a.1 c.1 t u)),(3,.bool k),(8,.bool l),(11,.call Tryz.func66 [] (Zds d.1 f.1 y z)),(13,.bool m)] 34 [] [] []
      | true=>
       cases c5 with
       | false=>
        have d6:=someb (ifF w rfl)
        subst d6
        subst p
        have d7:=someb (ifF v rfl)
        subst d7
        exact AWP.drT [(2,.call Tryz.func66 [] (Zds a.1 c.1 t u)),(3,.bool k),(8,.bool l),(11,.call Tryz.func66 [] (Zds d.1 f.1 y z)),(13,.bool m),(18,.bool o)] 34 [] [] []
       | true=>
        have q:=ifT w rfl
        obtain⟨a5,a6,q⟩:=bindb q
        obtain⟨a7,a8,q⟩:=bindb q
        replace q:=someb q
        subst q
        cases c6 with
        | false=>
         have d8:=someb (ifF v rfl)
         subst d8
         exact AWP.drT [(2,.call Tryz.func66 [] (Zds a.1 c.1 t u)),(3,.bool k),(8,.bool l),(11,.call Tryz.func66 [] (Zds d.1 f.1 y z)),(13,.bool m),(18,.bool o),(20,.call Tryz.func83 [] (Zks b a5 a6)),(22,.call Tryz.func84 [] (Zku b a7 a8)),(25,.bool p)] 34 [] [] []
        | true=>
         have s:=ifT v rfl
         obtain⟨d9,e0,s⟩:=bindb s
         obtain⟨e1,e2,s⟩:=bindb s
         replace s:=someb s
         subst s
         exact AWP.drT [(2,.call Tryz.func66 [] (Zds a.1 c.1 t u)),(3,.bool k),(8,.bool l),(11,.call Tryz.func66 [] (Zds d.1 f.1 y z)),(13,.bool m),(18,.bool o),(20,.call Tryz.func83 [] (Zks b a5 a6)),(22,.call Tryz.func84 [] (Zku b a7 a8)),(25,.bool p),(28,.call Tryz.func27 [] (Zpz b g d9 e0)),(31,.call Tryz.func85 [] (Zp1 b g e1 e2))] 34 [] [] []
   refine AWP.ret ?_
   have hr:=someb hF
   subst hr
   exact(FnQ.f0 0 (.inr rfl))
  ·have hr:=someb hF
   subst hr
   exact hq
def Zqp (r:Bool):PV→List Blk→Prop:=fun p K=>p=(vb r)∧K=[]
theorem Zi9 (a:ZL) (r:Bool) (hF:Zhu a=some r):ACall Tryz.prog glob 22 [(slc 10 Za a)] [] (Zqp r):=by
 refine ACall.body Tryz.func22 rfl (by kernel_rfl) ?_
 unfold Zhu at hF
 refine AWP.seq (AWP.rg0 [] [(0,(slc 10 Za a))] (AWP.seq (AWP.rg0 [(1,.len Za a)] [(2,(vb (decide ((List.length a:Int) > (6:Int)))))] (AWP.ret ?_))))
 have hr:=someb hF
 subst hr
 exact(FnQ.f0 0 (.inr rfl))
def Zjt (r:Bool):PV→List Blk→Prop:=fun p K=>p=(vb r)∧K=[]
abbrev Znr (r:Bool):Exit→St→List Blk→Prop:=FnQ Tryz.prog Tryz.f7.results 0 (Zjt r)
theorem Zns (s:(List Int)) (a:(List Zh)) (b:ZL) (c:Zs) (r:Bool) (hF:Zgc s a b c=some r):ACall Tryz.prog glob 7 [(slc 1 Zaj s),(slc 13 Zc a),(slc 10 Za b),(Zcj c)] [] (Zjt r):=by
 refine ACall.body Tryz.func7 rfl (by kernel_rfl) ?_
 unfold Zgc at hF
 refine AWP.seq (AWP.rg [] [(0,(slc 1 Zaj s)),(1,(slc 13 Zc a)),(2,(slc 10 Za b)),(7,(.ptr 0 0))] [.cells (Zn c)] (AWP.seq ?_))
 obtain⟨w,b4,hF⟩:=bindb hF
 refine AWP.rg [(1,.call Tryz.func8 [] (Zxm s w b4))] [(1,(slc 13 Zc a)),(2,(slc 10 Za b)),(7,(.ptr 0 0)),(9,(.ptr 1 0))] [.cells (Zn c),.cells (Zi w)] (AWP.seq (AWP.seq (AWP.rg0 [] [(1,(slc 13 Zc a)),(2,(slc 10 Za b)),(7,(.ptr 0 0)),(9,(.ptr 1 0)),(10,(i64 (0:Int)))] ?_)))
 obtain⟨x,b5,hF⟩:=bindb hF
 refine AWP.mid (fun e st H=>(e=.normal∧∃ t,x=(.inl t)∧st=[(1,(slc 13 Zc a)),(2,(slc 10 Za b)),(7,(.ptr 0 0))]∧H=[.cells (Zn c),.cells (Zi t)])∨(e=.ret∧∃ r,x=(.inr r)∧Znr r e st H)) ?_ ?_
 ·clear hF
  refine AWP.kp [1,2,7,9,10] 2 ?_
  refine AWP.bround (fun n st H=>∃ m,∃ d,Zbt n m d=some x∧st=[(1,(slc 13 Zc a)),(2,(slc 10 Za b)),(7,(.ptr 0 0)),(9,(.ptr 1 0)),(10,(i64 d))]∧H=[.cells (Zn c),.cells (Zi m)]) fuel ⟨w,(0:Int),b5,by kernel_rfl,by kernel_rfl⟩ ?_
  rintro y st H ⟨m,d,hF,rfl,rfl⟩
  cases y with
  | zero=>exact noneb hF
  | succ y=>
   rw [Zbt] at hF
   refine AWP.seq (AWP.seq (AWP.rg0 [] [(1,(slc 13 Zc a)),(2,(slc 10 Za b)),(7,(.ptr 0 0)),(9,(.ptr 1 0)),(10,(i64 d)),(15,(vb (decide (d<(3:Int)))))] ?_))
   refine AWP.cif hF (fun b6 hF=>?_) (fun b6 hF=>?_)
   ·refine AWP.skip (AWP.seq (AWP.block (AWP.seq ?_)))
    obtain⟨i,b7,hF⟩:=bindb hF
    refine AWP.rg [(1,.call Tryz.func23 [] (Zpi m (3:Int) true i b7))] [(1,(slc 13 Zc a)),(2,(slc 10 Za b)),(7,(.ptr 0 0)),(9,(.ptr 1 0)),(10,(i64 d)),(11,(slc 13 Zc i.1))] [.cells (Zn c),.cells (Zi i.2)] (AWP.seq ?_)
    obtain⟨j,a4,hF⟩:=bindb hF
    obtain⟨o,a5,hF⟩:=bindb hF
    obtain⟨a6,a7,hF⟩:=bindb hF
    obtain⟨b8,u,hF⟩:=bindb hF
    replace u:=someb u
    obtain⟨z,a8,hF⟩:=bindb hF
    refine AWP.to [(1,(slc 13 Zc a)),(2,(slc 10 Za b)),(7,(.ptr 0 0)),(9,(.ptr 1 0)),(10,(i64 d)),(35,(vb z.1))] [.cells (Zn c),.cells (Zi z.2)] ?_ ?_
    ·cases b8 with
     | false=>
      have f:=ifF a8 rfl
      obtain⟨a0,b9,f⟩:=bindb f
      obtain⟨a9,c0,f⟩:=bindb f
      obtain⟨c1,c2,f⟩:=bindb f
      replace f:=someb f
      subst f
      exact AWP.rgT [(2,.call Tryz.func15 [] (Zlt i.2 (3:Int) j a4)),(4,.call Tryz.func13 [] (Zil j.2 o a5)),(5,.call Tryz.func31 [] (Zh0 i.1 j.1 o.1 a6 a7)),(7,.bool u),(10,.call Tryz.func20 [] (Zk2 o.2 (2:Int) true a0 b9)),(12,.call Tryz.func13 [] (Zil a0.2 a9 c0)),(13,.call Tryz.func31 [] (Zh0 i.1 a0.1 a9.1 c1 c2))]
     | true=>
      have c3:=someb (ifT a8 rfl)
      subst c3
      exact AWP.rgT [(2,.call Tryz.func15 [] (Zlt i.2 (3:Int) j a4)),(4,.call Tryz.func13 [] (Zil j.2 o a5)),(5,.call Tryz.func31 [] (Zh0 i.1 j.1 o.1 a6 a7)),(7,.bool u)]
    refine AWP.cif hF (fun c4 hF=>?_) (fun c4 hF=>?_)
    ·refine AWP.seq (AWP.rg0 [] [(8,(vb false))] (AWP.ret ?_))
     exact LeQ.of (.inr ⟨rfl,false,(someb hF).symm,(FnQ.f0 0 (.inr rfl))⟩)
    ·refine AWP.skip (AWP.rg0 [] [(1,(slc 13 Zc a)),(2,(slc 10 Za b)),(7,(.ptr 0 0)),(9,(.ptr 1 0)),(10,(i64 (ZI (d + (1:Int)))))] (LeQ.start (LeQ.pk [1,2,7,9,10] 2 ?_)))
     exact⟨y,Nat.lt_succ_self _,z.2,(ZI (d + (1:Int))),hF,by kernel_rfl,by kernel_rfl⟩
   ·refine AWP.exit (LeQ.start (LeQ.pk [1,2,7] 2 ?_))
    exact(.inl ⟨rfl,m,(someb hF).symm,by kernel_rfl,by kernel_rfl⟩)
 ·rintro _ _ _ (⟨rfl,t,rfl,rfl,rfl⟩ | ⟨rfl,d5,rfl,hq⟩)
  ·refine AWP.seq ?_
   obtain⟨c5,k,hF⟩:=bindb hF
   replace k:=someb k
   obtain⟨d6,b0,hF⟩:=bindb hF
   obtain⟨c6,l,hF⟩:=bindb hF
   replace l:=someb l
   obtain⟨c7,a1,hF⟩:=bindb hF
   refine AWP.to [(8,(vb c7))] [.cells (Zn c),.cells (Zi t)] ?_ ?_
   ·cases c5 with
    | false=>
     have p:=ifF b0 rfl
     obtain⟨a2,a3,p⟩:=bindb p
     replace p:=someb p
     subst p
     cases c6 with
     | false=>
      have g:=ifF a1 rfl
      obtain⟨b1,b2,g⟩:=bindb g
      obtain⟨c8,v,g⟩:=bindb g
      replace v:=someb v
      obtain⟨d7,b3,g⟩:=bindb g
      replace g:=someb g
      subst g
      cases c8 with
      | false=>
       have c9:=someb (ifF b3 rfl)
       subst c9
       exact AWP.rgT [(1,.len Zc a),(3,.bool k),(5,.call Tryz.func22 [] (Zi9 b a2 a3)),(7,.bool l),(11,.call Tryz.func31 [] (Zh0 a b c b1 b2)),(12,.bool v)]
      | true=>
       have q:=ifT b3 rfl
       obtain⟨d0,d1,q⟩:=bindb q
       replace q:=someb q
       subst q
       exact AWP.rgT [(1,.len Zc a),(3,.bool k),(5,.call Tryz.func22 [] (Zi9 b a2 a3)),(7,.bool l),(11,.call Tryz.func31 [] (Zh0 a b c b1 b2)),(12,.bool v),(13,.call Tryz.func14 [] (Zu3 d0 d1))]
     | true=>
      have d2:=someb (ifT a1 rfl)
      subst d2
      exact AWP.rgT [(1,.len Zc a),(3,.bool k),(5,.call Tryz.func22 [] (Zi9 b a2 a3)),(7,.bool l)]
    | true=>
     have d3:=someb (ifT b0 rfl)
     subst d3
     subst l
     have d4:=someb (ifT a1 rfl)
     subst d4
     exact AWP.rgT [(1,.len Zc a),(3,.bool k)]
   refine AWP.ret ?_
   have hr:=someb hF
   subst hr
   exact(FnQ.f0 0 (.inr rfl))
  ·have hr:=someb hF
   subst hr
   exact hq
end Go.AM
set_option maxRecDepth 100000
namespace Go.AM
open Go
def Ok {α:Type} (x:Option α) (p:α→Prop):Prop:=∃ r,x=some r∧p r
theorem Ok.bind {α γ:Type} {x:Option α} {p:α→Prop} {f:α→Option γ} {q:γ→Prop} (h:Ok x p) (k:∀ v,p v→Ok (f v) q):Ok (x.bind f) q:=by
 obtain⟨v,rfl,hv⟩:=h
 exact k v hv
theorem Ok.ret {α:Type} {r:α} {p:α→Prop} (h:p r):Ok (some r) p:=⟨r,rfl,h⟩
theorem Ok.chk {α:Type} {c:Prop} [Decidable c] {x:Option α} {p:α→Prop} (hc:c) (h:Ok x p):Ok (if c then x else none) p:=by rw [if_pos hc]; exact h
theorem Ok.ite {α:Type} {c:Prop} [Decidable c] {x y:Option α} {p:α→Prop} (h1:c→Ok x p) (h2:¬ c→Ok y p):Ok (if c then x else y) p:=by
 split
 ·exact h1 (by assumption)
 ·exact h2 (by assumption)
theorem Ok.lift {α γ:Type} {b:α} {f:α→Option γ} {q:γ→Prop} (h:Ok (f b) q):Ok ((Option.some b).bind f) q:=h
theorem Ok.mono {α:Type} {x:Option α} {p q:α→Prop} (h:Ok x p) (k:∀ v,p v→q v):Ok x q:=by
 obtain⟨v,h1,h2⟩:=h
 exact⟨v,h1,k v h2⟩
theorem Ok.get {α:Type} {x:Option α} {p:α→Prop} (h:Ok x p) {r:α} (e:x=some r):p r:=by
 obtain⟨v,h1,h2⟩:=h
 rw [h1] at e; cases e; exact h2
theorem Ok.eq {α:Type} {x:Option α} {r:α} (h:Ok x (·=r)):x=some r:=by
 obtain⟨v,h1,rfl⟩:=h; exact h1
theorem Ok.idx {α:Type} {l:List α} {i:Int} {p:α→Prop} (h0:0≤i) (h1:i<l.length) (h:∀ x∈l,p x):Ok (idx l i) p:=by
 have hi:i.toNat<l.length:=by omega
 exact⟨l[i.toNat],by simp [AM.idx,h0,hi],h _ (List.getElem_mem hi)⟩
theorem Z5 {α:Type} {l:List α} {i:Nat} (h:i<l.length):AM.idx l (i:Int)=some l[i]:=by simp [AM.idx,h]
theorem wrap_u (k:IntKind) (b:Nat) (hs:k.signed=false) (hb:k.bits=b) (x:Int):k.wrap x=x % (2 ^ b:Int):=by
 subst hb; simp [IntKind.wrap,hs]
theorem wi64 {x:Int} (h0:-9223372036854775808≤x) (h1:x<9223372036854775808):IntKind.wrap .i64 x=x:=by
 simp only [IntKind.wrap,IntKind.bits,IntKind.signed]
 simp
 omega
theorem wu64 {x:Int} (h0:0≤x) (h1:x<18446744073709551616):IntKind.wrap .u64 x=x:=by
 simp only [IntKind.wrap,IntKind.bits,IntKind.signed]
 simp
 omega
theorem wu32 {x:Int} (h0:0≤x) (h1:x<4294967296):IntKind.wrap .u32 x=x:=by
 simp only [IntKind.wrap,IntKind.bits,IntKind.signed]
 simp
 omega
theorem Zjg (x:Int):0≤IntKind.wrap .u32 x∧IntKind.wrap .u32 x<4294967296:=by
 simp only [IntKind.wrap,IntKind.bits,IntKind.signed]
 simp
 omega
theorem Zuf (x:Int):0≤IntKind.wrap .u16 x∧IntKind.wrap .u16 x<65536:=by
 simp only [IntKind.wrap,IntKind.bits,IntKind.signed]
 simp
 omega
theorem Zz4 (x:Int):0≤IntKind.wrap .u64 x∧IntKind.wrap .u64 x<18446744073709551616:=by
 simp only [IntKind.wrap,IntKind.bits,IntKind.signed]
 simp
 omega
theorem Z1q {k:Nat} (h:k<64):bShl .u64 1 (k:Int)=(2 ^ k:Nat):=by
 have h2:(2:Nat) ^ k<2 ^ 64:=Nat.pow_lt_pow_right (by omega) h
 unfold bShl
 have e:((1:Int) * 2 ^ min (k:Int).toNat (IntKind.bits .u64))=((2 ^ k:Nat):Int):=by
  rw [show IntKind.bits .u64=64 from rfl,Int.toNat_natCast,Nat.min_eq_left (by omega)]; simp
 have h3:((2 ^ k:Nat):Int)<18446744073709551616:=Int.ofNat_lt.2 h2
 rw [e]
 exact wu64 (Int.natCast_nonneg _) h3
structure TOk (t:Zf):Prop where
 h0:0≤t.f_i
 h1:t.f_i≤t.f_l.length
 h2:(t.f_l.length:Int)<9223372036854775808
theorem New_ok {l:List Int} (h:(l.length:Int)<9223372036854775808):Ok (Zkf l) TOk:=Ok.ret ⟨Int.le_refl 0,by simp,h⟩
theorem Mod_ok {x n:Int} (h1:1≤n) (h2:n<9223372036854775808):Ok (Zh9 x n) fun v=>0≤v∧v<n:=by
 unfold Zh9
 have hn:IntKind.wrap .u64 n=n:=wu64 (by omega) (by omega)
 rw [hn]
 have hx:=Zz4 x
 have h3:0≤Int.tmod (IntKind.wrap .u64 x) n:=Int.tmod_nonneg _ hx.1
 have h4:Int.tmod (IntKind.wrap .u64 x) n<n:=Int.tmod_lt_of_pos _ (by omega)
 refine Ok.chk (by omega) (Ok.ret ?_)
 rw [wi64 (by omega) (by omega)]
 exact⟨h3,h4⟩
theorem Z22 {t:Zf} (ht:TOk t) (n:Int) (h2:n<9223372036854775808):Ok (Zw t n) fun r=>(0≤r.1∧(r.1<n∨r.1=0))∧TOk r.2:=by
 unfold Zw
 refine Ok.lift (Ok.ite (fun hc=>Ok.ret ⟨⟨by simp,.inr rfl⟩,ht⟩) fun hc=>?_)
 simp only [Bool.or_eq_true,decide_eq_true_eq] at hc
 have hc1:¬ n≤1:=fun h=>hc (.inl h)
 have hc2:¬ t.f_i ≥ t.f_l.length:=fun h=>hc (.inr h)
 have h0:=ht.h0
 have h1:=ht.h2
 have e1:IntKind.wrap .i64 (t.f_i + 1)=t.f_i + 1:=wi64 (by omega) (by omega)
 rw [e1]
 have e2:IntKind.wrap .i64 (t.f_i + 1 - 1)=t.f_i:=by rw [Int.add_sub_cancel]; exact wi64 (by omega) (by omega)
 rw [e2]
 refine Ok.bind (Ok.idx (p:=fun _=>True) h0 (by omega) fun _ _=>trivial) fun x _=>?_
 refine Ok.bind (Mod_ok (by omega) h2) fun v hv=>Ok.ret ⟨⟨hv.1,.inl hv.2⟩,?_⟩
 exact⟨by show 0≤t.f_i + 1; omega,by show t.f_i + 1≤t.f_l.length; omega,h1⟩
theorem Zdt {t:Zf} (ht:TOk t) (n:Int) (h1:1≤n) (h2:n<9223372036854775808):Ok (Zw t n) fun r=>(0≤r.1∧r.1<n)∧TOk r.2:=
 (Z22 ht n h2).mono fun r ⟨⟨h3,h4⟩,h5⟩=>⟨⟨h3,by omega⟩,h5⟩
def full:Arr5 Zb:=⟨⟨0,4294967295⟩,⟨0,4294967295⟩,⟨0,255⟩,⟨0,65535⟩,⟨0,65535⟩⟩
theorem Zoh:Ze6=some full:=by kernel_rfl
structure ROk (top:Int) (r:Zb):Prop where
 h0:0≤r.Lo
 h1:r.Lo≤r.Hi
 h2:r.Hi≤top
structure RIn (r:Zb):Prop where
 h0:0≤r.Lo
 h1:r.Lo<4294967296
 h2:0≤r.Hi
 h3:r.Hi<4294967296
theorem ROk.rin {top:Int} {r:Zb} (h:ROk top r) (ht:top<4294967296):RIn r:=⟨h.h0,by have:=h.h1; have:=h.h2; omega,by have:=h.h0; have:=h.h1; omega,by have:=h.h2; omega⟩
structure BOk (b:Arr5 Zb):Prop where
 h0:ROk 4294967295 b.x0
 h1:ROk 4294967295 b.x1
 h2:ROk 255 b.x2
 h3:ROk 65535 b.x3
 h4:ROk 65535 b.x4
structure BIn (b:Arr5 Zb):Prop where
 h0:RIn b.x0
 h1:RIn b.x1
 h2:RIn b.x2
 h3:RIn b.x3
 h4:RIn b.x4
theorem BOk.bin {b:Arr5 Zb} (h:BOk b):BIn b:=⟨h.h0.rin (by omega),h.h1.rin (by omega),h.h2.rin (by omega),h.h3.rin (by omega),h.h4.rin (by omega)⟩
theorem Zoi:BOk full:=⟨⟨by decide,by decide,by decide⟩,⟨by decide,by decide,by decide⟩,⟨by decide,by decide,by decide⟩,⟨by decide,by decide,by decide⟩,⟨by decide,by decide,by decide⟩⟩
def topOf (i:Int):Int:=if i=0 then 4294967295 else if i=1 then 4294967295 else if i=2 then 255 else 65535
theorem Top_eq (f:Int) (h0:0≤f) (h1:f<5):Zgv f=some (topOf f):=by
 have hk:f=0∨f=1∨f=2∨f=3∨f=4:=by omega
 rcases hk with rfl | rfl | rfl | rfl | rfl <;> rfl
theorem fuel6:fuel=1180591620717411303418 + 6:=by kernel_rfl
theorem Zm5 {t:Zf} (ht:TOk t) {top:Int} (h0:0≤top) (h1:top<4294967296):Ok (Zcx t top) fun r=>(0≤r.1∧r.1≤top)∧TOk r.2:=by
 unfold Zcx
 refine Ok.bind (Zdt ht 17 (by omega) (by omega)) fun r ⟨⟨h2,h3⟩,h4⟩=>?_
 have hw:=Zjg (Int.tdiv top 2)
 have hw2:=Zjg (top - 1)
 refine Ok.bind (Ok.idx (p:=fun x=>0≤x) h2 (by simpa using h3) fun x hx=>?_) fun x hx=>Ok.ret ⟨⟨?_,?_⟩,h4⟩
 ·simp only [List.mem_cons,List.not_mem_nil,or_false] at hx
  omega
 ·show 0≤iMin x top
  unfold iMin; split <;> omega
 ·show iMin x top≤top
  unfold iMin; split <;> omega
theorem Zsz {t:Zf} (ht:TOk t) {top:Int} (h0:0≤top) (h1:top<4294967296):Ok (Zdx t top) fun r=>ROk top r.1∧TOk r.2:=by
 unfold Zdx
 refine Ok.bind (Zm5 ht h0 h1) fun r ⟨⟨h2,h3⟩,h4⟩=>Ok.bind (Zm5 h4 h0 h1) fun s ⟨⟨h5,h6⟩,h7⟩=>Ok.ret ⟨⟨?_,?_,?_⟩,h7⟩
 ·show 0≤iMin r.1 s.1
  unfold iMin; split <;> omega
 ·show iMin r.1 s.1≤iMax r.1 s.1
  unfold iMin iMax; split <;> split <;> omega
 ·show iMax r.1 s.1≤top
  unfold iMax; split <;> omega
def subnets:List Zbn:=[⟨167772160,24⟩,⟨167772416,24⟩,⟨167772672,25⟩,⟨167772800,26⟩,⟨2886729728,16⟩,⟨3232237321,32⟩]
theorem Zv3 {x:Int}:Ok (Zgk x) fun p=>p∈subnets:=by
 unfold Zgk
 refine Ok.bind (Mod_ok (by omega) (by omega)) fun r ⟨h0,h1⟩=>?_
 exact Ok.bind (Ok.idx (p:=fun p=>p∈subnets) h0 (by simpa using h1) fun x hx=>hx) fun x hx=>Ok.ret hx
theorem Of_ok {p:Zbn} (hp:p∈subnets):Ok (Zi0 p) fun r=>ROk 4294967295 r.1:=by
 simp only [subnets,List.mem_cons,List.not_mem_nil,or_false] at hp
 rcases hp with rfl | rfl | rfl | rfl | rfl | rfl
 ·exact⟨(⟨167772160,167772415⟩,true),by kernel_rfl,by decide,by decide,by decide⟩
 ·exact⟨(⟨167772416,167772671⟩,true),by kernel_rfl,by decide,by decide,by decide⟩
 ·exact⟨(⟨167772672,167772799⟩,true),by kernel_rfl,by decide,by decide,by decide⟩
 ·exact⟨(⟨167772800,167772863⟩,true),by kernel_rfl,by decide,by decide,by decide⟩
 ·exact⟨(⟨2886729728,2886795263⟩,true),by kernel_rfl,by decide,by decide,by decide⟩
 ·exact⟨(⟨3232237321,3232237321⟩,true),by kernel_rfl,by decide,by decide,by decide⟩
theorem Zoj {t:Zf} (ht:TOk t):Ok (Zcy t) fun r=>(0≤r.1∧r.1≤4294967295)∧TOk r.2:=by
 unfold Zcy
 refine Ok.bind (Zdt ht 5 (by omega) (by omega)) fun r ⟨⟨h2,h3⟩,h4⟩=>Ok.ite (fun _=>?_) fun _=>?_
 ·refine Ok.bind (Zdt h4 6 (by omega) (by omega)) fun r ⟨⟨h2,h3⟩,h4⟩=>?_
  refine Ok.bind (Ok.idx (p:=fun x=>0≤x∧x≤4294967295) h2 (by simpa using h3) fun x hx=>?_) fun x hx=>Ok.ret ⟨hx,h4⟩
  simp only [List.mem_cons,List.not_mem_nil,or_false] at hx
  omega
 ·refine Ok.bind (Zdt h4 6 (by omega) (by omega)) fun r ⟨⟨h2,h3⟩,h4⟩=>Ok.bind Zv3 fun p hp=>Ok.bind (Of_ok hp) fun q hq=>?_
  refine Ok.bind (Zdt h4 5 (by omega) (by omega)) fun r ⟨⟨h2,h3⟩,h4⟩=>?_
  refine Ok.bind (Ok.idx (p:=fun x=>0≤x∧x≤4294967295) h2 (by simpa using h3) fun x hx=>?_) fun x hx=>Ok.ret ⟨hx,h4⟩
  have g0:=hq.h0
  have g1:=hq.h1
  have g2:=hq.h2
  have w1:=Zjg (q.1.Lo + 5)
  have w2:=Zjg (q.1.Hi + 1)
  have w3:=Zjg (q.1.Lo - 1)
  simp only [List.mem_cons,List.not_mem_nil,or_false] at hx
  omega
theorem Zmk {t:Zf} (ht:TOk t):Ok (Zcs t) fun r=>ROk 4294967295 r.1∧TOk r.2:=by
 unfold Zcs
 refine Ok.bind (Zdt ht 4 (by omega) (by omega)) fun r ⟨⟨h2,h3⟩,h4⟩=>Ok.ite (fun _=>?_) fun _=>Ok.ite (fun _=>?_) fun _=>Ok.ite (fun _=>?_) fun _=>?_
 ·exact Ok.bind (Zdt h4 6 (by omega) (by omega)) fun r ⟨⟨h2,h3⟩,h4⟩=>Ok.bind Zv3 fun p hp=>Ok.bind (Of_ok hp) fun q hq=>Ok.ret ⟨hq,h4⟩
 ·refine Ok.bind (Zoj h4) fun a ⟨⟨a1,a2⟩,a3⟩=>Ok.bind (Zoj a3) fun b ⟨⟨b1,b2⟩,b3⟩=>Ok.ret ⟨⟨?_,?_,?_⟩,b3⟩
  ·show 0≤iMin a.1 b.1
   unfold iMin; split <;> omega
  ·show iMin a.1 b.1≤iMax a.1 b.1
   unfold iMin iMax; split <;> split <;> omega
  ·show iMax a.1 b.1≤4294967295
   unfold iMax; split <;> omega
 ·exact Ok.bind (Zoj h4) fun a ⟨⟨a1,a2⟩,a3⟩=>Ok.ret ⟨⟨a1,Int.le_refl _,a2⟩,a3⟩
 ·exact Ok.ret ⟨⟨Int.le_refl _,(by decide:(0:Int)≤4294967295),Int.le_refl _⟩,h4⟩
theorem Zv4:∀(n:Nat) (t:Zf) (b:Arr5 Zb) (i:Int),TOk t→BOk b→i≤n→0≤i→i<100→Ok (Zcz (n + 1) t b i) fun r=>TOk r.1∧BOk r.2
 | 0,t,b,i,ht,hb,hi,h0,h9=>by
  rw [Zcz]
  exact Ok.ite (fun hc=>absurd (of_decide_eq_true hc) (by omega)) fun _=>Ok.ret ⟨ht,hb⟩
 | n + 1,t,b,i,ht,hb,hi,h0,h9=>by
  rw [Zcz]
  refine Ok.ite (fun hc=>?_) fun _=>Ok.ret ⟨ht,hb⟩
  have hc:=of_decide_eq_true hc
  refine Ok.bind (p:=fun r=>TOk r.1∧BOk r.2) ?_ fun r ⟨h1,h2⟩=>?_
  ·refine Ok.bind (Zdt ht 5 (by omega) (by omega)) fun r ⟨_,h4⟩=>Ok.ite (fun _=>?_) fun _=>Ok.ite (fun _=>?_) fun _=>Ok.ite (fun _=>?_) fun _=>Ok.ite (fun _=>?_) fun _=>?_
   ·exact Ok.bind (Zmk h4) fun q ⟨g1,g2⟩=>Ok.ret ⟨g2,⟨g1,hb.h1,hb.h2,hb.h3,hb.h4⟩⟩
   ·exact Ok.bind (Zmk h4) fun q ⟨g1,g2⟩=>Ok.ret ⟨g2,⟨hb.h0,g1,hb.h2,hb.h3,hb.h4⟩⟩
   ·refine Ok.bind (Zdt h4 6 (by omega) (by omega)) fun r ⟨⟨h2,h3⟩,h4⟩=>?_
    refine Ok.bind (Ok.idx (p:=fun x=>0≤x∧x≤255) h2 (by simpa using h3) fun x hx=>?_) fun x hx=>Ok.ret ⟨h4,⟨hb.h0,hb.h1,⟨hx.1,Int.le_refl _,hx.2⟩,hb.h3,hb.h4⟩⟩
    simp only [List.mem_cons,List.not_mem_nil,or_false] at hx
    omega
   ·exact Ok.bind (Zsz h4 (by omega) (by omega)) fun q ⟨g1,g2⟩=>Ok.ret ⟨g2,⟨hb.h0,hb.h1,hb.h2,g1,hb.h4⟩⟩
   ·exact Ok.bind (Zsz h4 (by omega) (by omega)) fun q ⟨g1,g2⟩=>Ok.ret ⟨g2,⟨hb.h0,hb.h1,hb.h2,hb.h3,g1⟩⟩
  ·obtain⟨r1,r2⟩:=r
   show Ok (Zcz (n + 1) r1 r2 (IntKind.wrap .i64 (i - 1))) _
   rw [wi64 (by omega) (by omega)]
   exact Zv4 n r1 r2 (i - 1) h1 h2 (by omega) (by omega) (by omega)
theorem Box_ok {t:Zf} (ht:TOk t):Ok (Zgz t) fun r=>BOk r.1∧TOk r.2:=by
 unfold Zgz
 rw [Zoh]
 refine Ok.lift (Ok.bind (Zdt ht 3 (by omega) (by omega)) fun r ⟨⟨h2,h3⟩,h4⟩=>?_)
 have e:IntKind.wrap .i64 (1 + r.1)=1 + r.1:=wi64 (by omega) (by omega)
 rw [e]
 refine Ok.bind (Zv4 1180591620717411303423 r.2 full (1 + r.1) h4 Zoi (by omega) (by omega) (by omega)) fun q ⟨g1,g2⟩=>?_
 obtain⟨q1,q2⟩:=q
 exact Ok.ret ⟨g2,g1⟩
theorem five {k:Int} (h0:0≤k) (h1:k<5):k=0∨k=1∨k=2∨k=3∨k=4:=by omega
theorem wnext {k:Int} (h0:0≤k) (h1:k<1000000):IntKind.wrap .i64 (k + (1:Int))=k + 1:=wi64 (by omega) (by omega)
def sideBad (top:Int) (r:Zb):Bool:=decide (r.Lo > r.Hi) || decide (r.Hi > top)
theorem Z1r {k:Int} (h0:0≤k) (h1:k<5):Arr5.get Za7 k=topOf k:=by
 rcases five h0 h1 with rfl | rfl | rfl | rfl | rfl <;> rfl
theorem vstep (b:Arr5 Zb) (n:Nat) {k:Int} (h0:0≤k) (h1:k<5):Zat b (n + 1) k=if sideBad (topOf k) (b.get k)=true then some (.inr false) else Zat b n (k + 1):=by
 rw [Zat,if_pos (decide_eq_true h1),if_pos ⟨h0,h1⟩,if_pos ⟨h0,h1⟩,Z1r h0 h1,wnext h0 (by omega)]
 unfold sideBad
 cases decide ((b.get k).Lo > (b.get k).Hi) <;> simp
theorem rvstep (b:Arr5 Zb) (n:Nat) {k:Int} (h0:0≤k) (h1:k<5):Zad b (n + 1) k=if sideBad (topOf k) (b.get k)=true then some (.inr false) else Zad b n (k + 1):=by
 rw [Zad,if_pos (decide_eq_true h1),if_pos ⟨h0,h1⟩,if_pos ⟨h0,h1⟩,if_pos ⟨h0,h1⟩,Top_eq k h0 h1,wnext h0 (by omega)]
 unfold sideBad
 cases decide ((b.get k).Lo > (b.get k).Hi) <;> simp
def vB (b:Arr5 Zb):Bool:=
 if sideBad 4294967295 b.x0=true then false else if sideBad 4294967295 b.x1=true then false else if sideBad 255 b.x2=true then false else if sideBad 65535 b.x3=true then false else if sideBad 65535 b.x4=true then false else true
theorem Zox (b:Arr5 Zb):Zg8 b=some (vB b):=by
 unfold Zg8
 rw [fuel6]
 generalize (1180591620717411303418:Nat)=m
 have s0:Zat b (m + 6) 0=if sideBad 4294967295 b.x0=true then some (.inr false) else Zat b (m + 5) 1:=vstep b (m + 5) (by omega) (by omega)
 have s1:Zat b (m + 5) 1=if sideBad 4294967295 b.x1=true then some (.inr false) else Zat b (m + 4) 2:=vstep b (m + 4) (by omega) (by omega)
 have s2:Zat b (m + 4) 2=if sideBad 255 b.x2=true then some (.inr false) else Zat b (m + 3) 3:=vstep b (m + 3) (by omega) (by omega)
 have s3:Zat b (m + 3) 3=if sideBad 65535 b.x3=true then some (.inr false) else Zat b (m + 2) 4:=vstep b (m + 2) (by omega) (by omega)
 have s4:Zat b (m + 2) 4=if sideBad 65535 b.x4=true then some (.inr false) else Zat b (m + 1) 5:=vstep b (m + 1) (by omega) (by omega)
 have s5:Zat b (m + 1) 5=some (.inl ()):=by rw [Zat]; rfl
 rw [s0,s1,s2,s3,s4,s5]
 unfold vB
 repeat' split
 all_goals first | rfl | (simp_all; done) | skip
theorem Zm6 (b:Arr5 Zb):Zes b=some (vB b):=by
 unfold Zes
 rw [fuel6]
 generalize (1180591620717411303418:Nat)=m
 have s0:Zad b (m + 6) 0=if sideBad 4294967295 b.x0=true then some (.inr false) else Zad b (m + 5) 1:=rvstep b (m + 5) (by omega) (by omega)
 have s1:Zad b (m + 5) 1=if sideBad 4294967295 b.x1=true then some (.inr false) else Zad b (m + 4) 2:=rvstep b (m + 4) (by omega) (by omega)
 have s2:Zad b (m + 4) 2=if sideBad 255 b.x2=true then some (.inr false) else Zad b (m + 3) 3:=rvstep b (m + 3) (by omega) (by omega)
 have s3:Zad b (m + 3) 3=if sideBad 65535 b.x3=true then some (.inr false) else Zad b (m + 2) 4:=rvstep b (m + 2) (by omega) (by omega)
 have s4:Zad b (m + 2) 4=if sideBad 65535 b.x4=true then some (.inr false) else Zad b (m + 1) 5:=rvstep b (m + 1) (by omega) (by omega)
 have s5:Zad b (m + 1) 5=some (.inl ()):=by rw [Zad]; rfl
 rw [s0,s1,s2,s3,s4,s5]
 unfold vB
 repeat' split
 all_goals first | rfl | (simp_all; done) | skip
theorem vB_ok {b:Arr5 Zb} (hb:BIn b) (h:vB b=true):BOk b:=by
 unfold vB sideBad at h
 simp only [Bool.or_eq_true,decide_eq_true_eq] at h
 split at h; · cases h
 split at h; · cases h
 split at h; · cases h
 split at h; · cases h
 split at h; · cases h
 exact⟨⟨hb.h0.h0,by omega,by omega⟩,⟨hb.h1.h0,by omega,by omega⟩,⟨hb.h2.h0,by omega,by omega⟩,⟨hb.h3.h0,by omega,by omega⟩,⟨hb.h4.h0,by omega,by omega⟩⟩
theorem ok_vB {b:Arr5 Zb} (h:BOk b):vB b=true:=by
 obtain⟨⟨_,a1,a2⟩,⟨_,b1,b2⟩,⟨_,c1,c2⟩,⟨_,d1,d2⟩,⟨_,e1,e2⟩⟩:=h
 unfold vB sideBad
 simp only [Bool.or_eq_true,decide_eq_true_eq]
 rw [if_neg (by omega),if_neg (by omega),if_neg (by omega),if_neg (by omega),if_neg (by omega)]
theorem BIn.get {b:Arr5 Zb} (h:BIn b) (k:Int):RIn (b.get k):=by
 unfold Arr5.get
 split
 ·exact h.h0
 split
 ·exact h.h1
 split
 ·exact h.h2
 split
 ·exact h.h3
 ·exact h.h4
theorem BIn.set {b:Arr5 Zb} (h:BIn b) {r:Zb} (hr:RIn r) (k:Int):BIn (b.set k r):=by
 unfold Arr5.set
 split
 ·exact⟨hr,h.h1,h.h2,h.h3,h.h4⟩
 split
 ·exact⟨h.h0,hr,h.h2,h.h3,h.h4⟩
 split
 ·exact⟨h.h0,h.h1,hr,h.h3,h.h4⟩
 split
 ·exact⟨h.h0,h.h1,h.h2,hr,h.h4⟩
 ·exact⟨h.h0,h.h1,h.h2,h.h3,hr⟩
theorem BIn.setHi {b:Arr5 Zb} (h:BIn b) {v:Int} (h0:0≤v) (h1:v<4294967296) (k:Int):BIn (b.set k { (b.get k) with Hi:=v }):=by
 have hg:=h.get k
 generalize b.get k=r at hg ⊢
 exact BIn.set h (r:=⟨r.Lo,v⟩) (RIn.mk hg.h0 hg.h1 h0 h1) k
theorem BIn.setLo {b:Arr5 Zb} (h:BIn b) {v:Int} (h0:0≤v) (h1:v<4294967296) (k:Int):BIn (b.set k { (b.get k) with Lo:=v }):=by
 have hg:=h.get k
 generalize b.get k=r at hg ⊢
 exact BIn.set h (r:=⟨v,r.Hi⟩) (RIn.mk h0 h1 hg.h2 hg.h3) k
theorem Zr1 {t:Zf} (ht:TOk t) {b:Arr5 Zb} (hb:BIn b):Ok (Zdr t b) fun r=>BIn r.1∧TOk r.2:=by
 unfold Zdr
 refine Ok.bind (Zdt ht 5 (by omega) (by omega)) fun r1 ⟨⟨h2,h3⟩,h4⟩=>?_
 refine Ok.bind (p:=fun o=>TOk o.1∧BIn o.2) ?_ fun o ⟨g1,g2⟩=>Ok.ret ⟨g2,g1⟩
 refine Ok.bind (Zdt h4 3 (by omega) (by omega)) fun r20 ⟨_,h6⟩=>?_
 have hk:0≤r1.1∧r1.1<5:=⟨h2,h3⟩
 have hg:=hb.get r1.1
 refine Ok.ite (fun _=>?_) fun _=>Ok.ite (fun _=>?_) fun _=>?_
 ·refine Ok.chk hk (Ok.chk hk (Ok.chk hk (Ok.chk hk (Ok.ret ⟨h6,?_⟩))))
  exact(hb.setLo hg.h2 hg.h3 _).setHi hg.h0 hg.h1 _
 ·exact Ok.chk hk (Ok.ret ⟨h6,hb.setHi (by decide) (by decide) _⟩)
 ·exact Ok.chk hk (Ok.ret ⟨h6,hb.set ⟨by decide,by decide,by decide,by decide⟩ _⟩)
def GB (wild:Bool) (b:Arr5 Zb):Prop:=BIn b∧(wild=false→BOk b)
theorem Zr2 (wild:Bool):∀(n:Nat) (t:Zf) (l:List (Arr5 Zb)) (i:Int),TOk t→(∀ x∈l,GB wild x)→i≤n→0≤i→i<100→(l.length:Int) + i<1000 →
  Ok (Zcc wild (n + 1) t l i) fun r=>TOk r.1∧(∀ x∈r.2,GB wild x)∧(r.2.length:Int)=l.length + i
 | 0,t,l,i,ht,hl,hi,h0,h9,hlen=>by
  rw [Zcc]
  exact Ok.ite (fun hc=>absurd (of_decide_eq_true hc) (by omega)) fun _=>Ok.ret ⟨ht,hl,by show (l.length:Int)=_; omega⟩
 | n + 1,t,l,i,ht,hl,hi,h0,h9,hlen=>by
  rw [Zcc]
  refine Ok.ite (fun hc=>?_) fun hc=>Ok.ret ⟨ht,hl,by simp at hc; show (l.length:Int)=_; omega⟩
  have hc:=of_decide_eq_true hc
  refine Ok.bind (p:=fun r=>TOk r.1∧(∀ x∈r.2,GB wild x)∧r.2.length=l.length + 1) ?_ fun r ⟨h1,h2,h3⟩=>?_
  ·refine Ok.bind (Box_ok ht) fun q ⟨g1,g2⟩=>?_
   refine Ok.bind (p:=fun o=>TOk o.1∧GB wild o.2) ?_ fun o ⟨k1,k2⟩=>?_
   ·refine Ok.lift ?_
    refine Ok.bind (p:=fun v=>TOk v.2∧(v.1=true→wild=true)) ?_ fun v ⟨k1,k2⟩=>?_
    ·refine Ok.ite (fun hw=>?_) fun _=>Ok.ret ⟨g2,fun h=>by cases h⟩
     exact Ok.bind (Zdt g2 8 (by omega) (by omega)) fun r190 ⟨_,h6⟩=>Ok.ret ⟨h6,fun _=>hw⟩
    ·refine Ok.ite (fun hv=>?_) fun _=>Ok.ret ⟨k1,g1.bin,fun _=>g1⟩
     refine Ok.bind (Zr1 k1 g1.bin) fun r196 ⟨m1,m2⟩=>Ok.ret ⟨m2,m1,fun hw=>?_⟩
     rw [k2 hv] at hw; cases hw
   ·obtain⟨o1,o2⟩:=o
    refine Ok.chk (by simp only [List.length_singleton]; unfold lim; omega) (Ok.ret ⟨k1,fun x hx=>?_,by simp⟩)
    rcases List.mem_append.1 hx with hx | hx
    ·exact hl x hx
    ·simp only [List.mem_singleton] at hx; subst hx; exact k2
  ·obtain⟨r1,r2⟩:=r
   simp only at h1 h2 h3
   show Ok (Zcc wild (n + 1) r1 r2 (IntKind.wrap .i64 (i - 1))) _
   rw [wi64 (by omega) (by omega)]
   refine(Zr2 wild n r1 r2 (i - 1) h1 h2 (by omega) (by omega) (by omega) (by omega)).mono fun v ⟨e1,e2,e3⟩=>⟨e1,e2,?_⟩
   omega
theorem Zxs (wild:Bool) {t:Zf} (ht:TOk t) {n:Int} (h0:0≤n) (h1:n<90):Ok (Zeu t n wild) fun r=>(∀ x∈r.1,GB wild x)∧(r.1.length:Int)≤n∧TOk r.2:=by
 unfold Zeu
 rw [wi64 (x:=n + 1) (by omega) (by omega)]
 refine Ok.bind (Zdt ht (n + 1) (by omega) (by omega)) fun r ⟨⟨h2,h3⟩,h4⟩=>?_
 refine Ok.bind (Zr2 wild 1180591620717411303423 r.2 [] r.1 h4 (by simp) (by omega) h2 (by omega) (by simp; omega)) fun q ⟨g1,g2,g3⟩=>?_
 obtain⟨q1,q2⟩:=q
 refine Ok.ret ⟨g2,?_,g1⟩
 simp at g3
 show (q2.length:Int)≤n
 omega
theorem Zoy (m:Nat) (h:m≤1000000000000):∃ n,fuel=n + m + 1:=⟨fuel - m - 1,by unfold fuel; omega⟩
theorem Zqq {r:Zb} (h:Zge r):RIn r:=⟨h.1.1,h.1.2,h.2.1.1,h.2.1.2⟩
theorem Z0u {b:Arr5 Zb} (h:Zis b):BIn b:=⟨Zqq h.1,Zqq h.2.1,Zqq h.2.2.1,Zqq h.2.2.2.1,Zqq h.2.2.2.2.1⟩
theorem Z23 {t:List Int} (h:Zsj t):(t.length:Int)<9223372036854775808:=by have:=h.1; omega
end Go.AM
set_option maxRecDepth 100000
namespace Go.AM
open Go
theorem Zv5 {ρ:Type} {L:Nat→Int→Option (Unit ⊕ ρ)} {bad:Int→Bool} {v:ρ}
  (step:∀ n (k:Int),0≤k→k<5→L (n + 1) k=if bad k=true then some (.inr v) else L n (k + 1)) (stop:∀ n,L (n + 1) 5=some (.inl ())) :
  L fuel 0=some (if (bad 0 || bad 1 || bad 2 || bad 3 || bad 4)=true then .inr v else .inl ()):=by
 rw [fuel6]
 rw [step _ 0 (by omega) (by omega),step _ (0 + 1) (by omega) (by omega),step _ (0 + 1 + 1) (by omega) (by omega),step _ (0 + 1 + 1 + 1) (by omega) (by omega),step _ (0 + 1 + 1 + 1 + 1) (by omega) (by omega)]
 rw [show (0:Int) + 1 + 1 + 1 + 1 + 1=5 from rfl,stop,show (0:Int) + 1=1 from rfl,show (1:Int) + 1=2 from rfl,show (2:Int) + 1=3 from rfl,show (3:Int) + 1=4 from rfl]
 cases bad 0 <;> cases bad 1 <;> cases bad 2 <;> cases bad 3 <;> cases bad 4 <;> rfl
theorem Zv6 {σ ρ:Type} {L:Nat→σ→Int→Option ρ} {f:σ→Int→σ} {fin:σ→ρ}
  (step:∀ n s (k:Int),0≤k→k<5→L (n + 1) s k=L n (f s k) (k + 1)) (stop:∀ n s,L (n + 1) s 5=some (fin s)) (s:σ) :
  L fuel s 0=some (fin (f (f (f (f (f s 0) 1) 2) 3) 4)):=by
 rw [fuel6]
 rw [step _ _ 0 (by omega) (by omega),step _ _ (0 + 1) (by omega) (by omega),step _ _ (0 + 1 + 1) (by omega) (by omega),step _ _ (0 + 1 + 1 + 1) (by omega) (by omega),step _ _ (0 + 1 + 1 + 1 + 1) (by omega) (by omega)]
 rw [show (0:Int) + 1 + 1 + 1 + 1 + 1=5 from rfl,stop,show (0:Int) + 1=1 from rfl,show (1:Int) + 1=2 from rfl,show (2:Int) + 1=3 from rfl,show (3:Int) + 1=4 from rfl]
theorem wsucc {i:Nat} (h:i<1000000000001):IntKind.wrap .i64 ((i:Int) + (1:Int))=((i + 1:Nat):Int):=by
 rw [wi64 (by omega) (by omega)]; omega
def findI {α ρ:Type} (g:Nat→α→Option ρ):Nat→List α→Option ρ
 | _,[]=>none
 | i,x :: xs=>match g i x with
  | some r=>some r
  | none=>findI g (i + 1) xs
def orS {ρ:Type}:Option ρ→Unit ⊕ ρ
 | some r=>.inr r
 | none=>.inl ()
theorem Zh1 {α ρ:Type} {L:Nat→Int→Option (Unit ⊕ ρ)} (l:List α) (g:Nat→α→Option ρ) (hl:l.length≤1000000000000)
  (step:∀ n (i:Nat) (h:i<l.length),L (n + 1) (i:Int)=match g i l[i] with
   | some r=>some (.inr r)
   | none=>L n ((i + 1:Nat):Int))
  (stop:∀ n,L (n + 1) (l.length:Int)=some (.inl ())):L fuel 0=some (orS (findI g 0 l)):=by
 have key:∀(m n i:Nat),i + m=l.length→L (n + m + 1) (i:Int)=some (orS (findI g i (l.drop i))):=by
  intro m
  induction m with
  | zero=>
   intro n i h
   have hi:i=l.length:=by omega
   subst hi
   rw [List.drop_length]
   exact stop _
  | succ m ih=>
   intro n i h
   have hi:i<l.length:=by omega
   rw [show n + (m + 1) + 1=(n + m + 1) + 1 by omega,step _ i hi,List.drop_eq_getElem_cons hi]
   simp only [findI]
   cases hg:g i l[i] with
   | some r=>rfl
   | none=>exact ih n (i + 1) (by omega)
 obtain⟨f,hf⟩:=Zoy l.length hl
 rw [hf]
 exact key l.length f 0 (by omega)
def foldI {α σ:Type} (f:σ→Nat→α→σ):σ→Nat→List α→σ
 | s,_,[]=>s
 | s,i,x :: xs=>foldI f (f s i x) (i + 1) xs
theorem Zch {α σ ρ:Type} {L:Nat→σ→Int→Option ρ} (l:List α) (f:σ→Nat→α→σ) (fin:σ→ρ) (I:Nat→σ→Prop) (hl:l.length≤1000000000000)
  (step:∀ n s (i:Nat) (h:i<l.length),I i s→L (n + 1) s (i:Int)=L n (f s i l[i]) ((i + 1:Nat):Int)∧I (i + 1) (f s i l[i]))
  (stop:∀ n s,I l.length s→L (n + 1) s (l.length:Int)=some (fin s)) (s:σ) (hs:I 0 s):L fuel s 0=some (fin (foldI f s 0 l))∧I l.length (foldI f s 0 l):=by
 have key:∀(m n i:Nat) (s:σ),I i s→i + m=l.length→L (n + m + 1) s (i:Int)=some (fin (foldI f s i (l.drop i)))∧I l.length (foldI f s i (l.drop i)):=by
  intro m
  induction m with
  | zero=>
   intro n i s hs h
   have hi:i=l.length:=by omega
   subst hi
   rw [List.drop_length]
   exact⟨stop _ _ hs,hs⟩
  | succ m ih=>
   intro n i s hs h
   have hi:i<l.length:=by omega
   obtain⟨h1,h2⟩:=step (n + m + 1) s i hi hs
   rw [show n + (m + 1) + 1=(n + m + 1) + 1 by omega,h1,List.drop_eq_getElem_cons hi]
   simp only [foldI]
   exact ih n (i + 1) _ h2 (by omega)
 obtain⟨g,hg⟩:=Zoy l.length hl
 rw [hg]
 exact key l.length g 0 s hs (by omega)
theorem Zze {α σ ρ:Type} {L:Nat→σ→Int→Option ρ} (l:List α) (I:Nat→σ→Prop) {q:ρ→Prop} (hl:l.length≤1000000000000)
  (step:∀ n s (i:Nat),i<l.length→I i s→(∀ s',I (i + 1) s'→Ok (L n s' ((i + 1:Nat):Int)) q)→Ok (L (n + 1) s (i:Int)) q)
  (stop:∀ n s,I l.length s→Ok (L (n + 1) s (l.length:Int)) q) (s:σ) (hs:I 0 s):Ok (L fuel s 0) q:=by
 have key:∀(m n i:Nat) (s:σ),I i s→i + m=l.length→Ok (L (n + m + 1) s (i:Int)) q:=by
  intro m
  induction m with
  | zero=>
   intro n i s hs h
   have hi:i=l.length:=by omega
   subst hi
   exact stop _ _ hs
  | succ m ih=>
   intro n i s hs h
   rw [show n + (m + 1) + 1=(n + m + 1) + 1 by omega]
   exact step _ s i (by omega) hs fun s' hs'=>ih n (i + 1) s' hs' (by omega)
 obtain⟨g,hg⟩:=Zoy l.length hl
 rw [hg]
 exact key l.length g 0 s hs (by omega)
theorem Z1s {σ ρ:Type} {L:Nat→σ→Int→Option ρ} (m:Nat) (I:Nat→σ→Prop) {q:ρ→Prop} (hm:m≤1000000000000)
  (step:∀ n s (i:Nat),i<m→I i s→(∀ s',I (i + 1) s'→Ok (L n s' ((i + 1:Nat):Int)) q)→Ok (L (n + 1) s (i:Int)) q)
  (stop:∀ n s,I m s→Ok (L (n + 1) s (m:Int)) q) (s:σ) (hs:I 0 s):Ok (L fuel s 0) q:=
 Zze (List.replicate m ()) I (by simpa using hm) (fun n s i h=>step n s i (by simpa using h)) (fun n s h=>by simp only [List.length_replicate] at h ⊢; exact stop n s h) s hs
theorem Zih {α β:Type} (g:α→β):∀(l:List α) (acc:List β) (i:Nat),foldI (fun s _ x=>s++[g x]) acc i l=acc++l.map g
 | [],acc,i=>by simp [foldI]
 | x :: xs,acc,i=>by simp only [foldI]; rw [Zih g xs]; simp
theorem Zug {α β:Type} (g:α→List β):∀(l:List α) (acc:List β) (i:Nat),foldI (fun s _ x=>s++g x) acc i l=acc++l.flatMap g
 | [],acc,i=>by simp [foldI]
 | x :: xs,acc,i=>by simp only [foldI]; rw [Zug g xs]; simp
end Go.AM
set_option maxRecDepth 100000
namespace Go.AM
open Go
instance decRg:DecidableEq Zb:=fun a b=>
 if h:a.Lo=b.Lo∧a.Hi=b.Hi then .isTrue (by cases a; cases b; obtain⟨h1,h2⟩:=h; simp only at h1 h2; rw [h1,h2]) else .isFalse fun e=>h (by rw [e]; exact⟨rfl,rfl⟩)
def inR (v:Int) (r:Zb):Bool:=decide (r.Lo≤v) && decide (v≤r.Hi)
def mB:List Zb→List Int→Bool
 | [],[]=>true
 | r :: b,v :: p=>inR v r && mB b p
 | _,_=>false
def mS (l:List (List Zb)) (p:List Int):Bool:=l.any (mB · p)
def atv (l:List (List Zb)) (v:Int):List (List Zb):=l.flatMap fun b=>match b with
 | r :: b'=>if inR v r then [b'] else []
 | []=>[]
def vP:List Int→List Int→Prop
 | [],[]=>True
 | t :: ts,v :: p=>0≤v∧v≤t∧vP ts p
 | _,_=>False
def vR:List Int→List Zb→Prop
 | [],[]=>True
 | t :: ts,r :: b=>0≤r.Lo∧r.Lo≤r.Hi∧r.Hi≤t∧vR ts b
 | _,_=>False
theorem Zio (l:List (List Zb)) (v:Int) (p:List Int):mS l (v :: p)=mS (atv l v) p:=by
 induction l with
 | nil=>rfl
 | cons b l ih=>
  have e:mS (b :: l) (v :: p)=(mB b (v :: p) || mS l (v :: p)):=rfl
  rw [e,ih]
  cases b with
  | nil=>rfl
  | cons r b=>
   have e2:atv ((r :: b) :: l) v=(if inR v r then [b] else [])++atv l v:=rfl
   rw [e2]
   unfold mS
   rw [List.any_append]
   simp only [mB]
   cases inR v r <;> simp
theorem mS_app (a b:List (List Zb)) (p:List Int):mS (a++b) p=(mS a p || mS b p):=by unfold mS; rw [List.any_append]
theorem mS_nil (p:List Int):mS [] p=false:=rfl
theorem Z24 (a b:List (List Zb)) (v:Int):atv (a++b) v=atv a v++atv b v:=by unfold atv; rw [List.flatMap_append]
abbrev Cell:=Zb × List (List Zb)
def gp (y x:Cell):Prop:=y.1.Hi<x.1.Lo∧(y.1.Hi + 1=x.1.Lo→y.2 ≠ x.2)
def lk (c:List Cell) (v:Int):List (List Zb):=c.flatMap fun x=>if inR v x.1 then x.2 else []
def flt (c:List Cell):List (List Zb):=c.flatMap fun x=>x.2.map (x.1 :: ·)
structure Ord (t:Int) (c:List Cell):Prop where
 pw:c.Pairwise gp
 ok:∀ x∈c,0≤x.1.Lo∧x.1.Lo≤x.1.Hi∧x.1.Hi≤t∧x.2 ≠ []
def CF:List Int→List (List Zb)→Prop
 | [],l=>l=[]∨l=[[]]
 | t :: ts,l=>∃ c,l=flt c∧Ord t c∧∀ x∈c,CF ts x.2
theorem lk_app (a b:List Cell) (v:Int):lk (a++b) v=lk a v++lk b v:=by unfold lk; rw [List.flatMap_append]
theorem Zjh (x:Cell) (b:List Cell) (v:Int):lk (x :: b) v=(if inR v x.1 then x.2 else [])++lk b v:=rfl
theorem Zfd (a b:List Cell):flt (a++b)=flt a++flt b:=by unfold flt; rw [List.flatMap_append]
theorem Zh3 (x:Cell) (b:List Cell):flt (x :: b)=x.2.map (x.1 :: ·)++flt b:=rfl
theorem Zq7 (r:Zb) (v:Int):∀(l:List (List Zb)),atv (l.map (r :: ·)) v=if inR v r then l else []
 | []=>by simp [atv]
 | b :: l=>by
  have e:atv ((b :: l).map (r :: ·)) v=(if inR v r then [b] else [])++atv (l.map (r :: ·)) v:=rfl
  rw [e,Zq7 r v l]
  split <;> rfl
theorem Zl2 (c:List Cell) (v:Int):atv (flt c) v=lk c v:=by
 induction c with
 | nil=>rfl
 | cons x c ih=>rw [Zh3,Zjh,Z24,Zq7,ih]
theorem Zgt {v:Int} {r:Zb}:inR v r=true ↔ r.Lo≤v∧v≤r.Hi:=by unfold inR; simp
theorem Zqr {c:List Cell} {v:Int} (h:∀ x∈c,¬ (x.1.Lo≤v∧v≤x.1.Hi)):lk c v=[]:=by
 induction c with
 | nil=>rfl
 | cons x c ih=>
  rw [Zjh,ih fun y hy=>h y (List.mem_cons_of_mem _ hy),if_neg (by rw [Zgt]; exact h x (List.mem_cons_self ..))]; rfl
theorem Ord.tail {t:Int} {x:Cell} {c:List Cell} (h:Ord t (x :: c)):Ord t c:=⟨(List.pairwise_cons.1 h.pw).2,fun y hy=>h.ok y (List.mem_cons_of_mem _ hy)⟩
theorem lk_mem {t:Int}:∀ {c:List Cell},Ord t c→∀ {x:Cell},x∈c→∀ {v:Int},x.1.Lo≤v→v≤x.1.Hi→lk c v=x.2
 | [],_,_,h,_,_,_=>(by cases h)
 | y :: c,ho,x,hx,v,h1,h2=>by
  have hp:=List.pairwise_cons.1 ho.pw
  rw [Zjh]
  rcases List.mem_cons.1 hx with rfl | hx
  ·rw [if_pos (Zgt.2 ⟨h1,h2⟩),Zqr,List.append_nil]
   intro z hz
   have:=(hp.1 z hz).1
   omega
  ·have:=(hp.1 x hx).1
   rw [if_neg (by rw [Zgt]; omega),lk_mem ho.tail hx h1 h2]; rfl
theorem Zj6 {c:List Cell} {v:Int} (h:lk c v ≠ []):∃ x∈c,x.1.Lo≤v∧v≤x.1.Hi:=by
 apply Classical.byContradiction
 intro hn
 exact h (Zqr fun x hx hv=>hn ⟨x,hx,hv⟩)
theorem Ord.inj {t:Int}:∀ {c c':List Cell},Ord t c→Ord t c'→(∀ v,lk c v=lk c' v)→c=c'
 | [],[],_,_,_=>rfl
 | [],y :: c',_,h',h=>by
  have hy:=h'.ok y (List.mem_cons_self ..)
  have:=h y.1.Lo
  rw [lk_mem h' (List.mem_cons_self ..) (Int.le_refl _) hy.2.1] at this
  exact absurd this.symm hy.2.2.2
 | x :: c,[],h,_,he=>by
  have hy:=h.ok x (List.mem_cons_self ..)
  have:=he x.1.Lo
  rw [lk_mem h (List.mem_cons_self ..) (Int.le_refl _) hy.2.1] at this
  exact absurd this hy.2.2.2
 | x :: c,y :: c',h,h',he=>by
  have hx:=h.ok x (List.mem_cons_self ..)
  have hy:=h'.ok y (List.mem_cons_self ..)
  have px:=List.pairwise_cons.1 h.pw
  have py:=List.pairwise_cons.1 h'.pw
  have low:∀ {x:Cell} {c c':List Cell} {y:Cell},Ord t (x :: c)→Ord t (y :: c')→(∀ v,lk (x :: c) v=lk (y :: c') v)→y.1.Lo≤x.1.Lo:=by
   intro x c c' y h h' he
   have hx:=h.ok x (List.mem_cons_self ..)
   have py:=List.pairwise_cons.1 h'.pw
   have h1:=he x.1.Lo
   rw [lk_mem h (List.mem_cons_self ..) (Int.le_refl _) hx.2.1] at h1
   obtain⟨z,hz,h2,h3⟩:=Zj6 (c:=y :: c') (v:=x.1.Lo) (by rw [← h1]; exact hx.2.2.2)
   rcases List.mem_cons.1 hz with rfl | hz
   ·exact h2
   ·have:=(py.1 z hz).1
    have:=(h'.ok y (List.mem_cons_self ..)).2.1
    omega
  have e1:x.1.Lo=y.1.Lo:=Int.le_antisymm (low h' h fun v=>(he v).symm) (low h h' he)
  have e2:x.2=y.2:=by
   have h1:=he x.1.Lo
   rw [lk_mem h (List.mem_cons_self ..) (Int.le_refl _) hx.2.1,lk_mem h' (List.mem_cons_self ..) (by omega) (by omega)] at h1
   exact h1
  have hi:∀ {x:Cell} {c c':List Cell} {y:Cell},Ord t (x :: c)→Ord t (y :: c')→(∀ v,lk (x :: c) v=lk (y :: c') v)→x.1.Lo=y.1.Lo→x.2=y.2→¬ x.1.Hi<y.1.Hi:=by
   intro x c c' y h h' he e1 e2 hlt
   have hx:=h.ok x (List.mem_cons_self ..)
   have px:=List.pairwise_cons.1 h.pw
   have h1:=he (x.1.Hi + 1)
   rw [lk_mem h' (v:=x.1.Hi + 1) (List.mem_cons_self ..) (by omega) (by omega)] at h1
   obtain⟨z,hz,h2,h3⟩:=Zj6 (c:=x :: c) (v:=x.1.Hi + 1) (by rw [h1,← e2]; exact hx.2.2.2)
   rcases List.mem_cons.1 hz with rfl | hzc
   ·omega
   ·have hg:=px.1 z hzc
    rw [lk_mem h hz h2 h3,← e2] at h1
    exact hg.2 (by have:=hg.1; omega) h1.symm
  have e3:x.1.Hi=y.1.Hi:=by
   have a1:=hi h h' he e1 e2
   have a2:=hi h' h (fun v=>(he v).symm) e1.symm e2.symm
   omega
  have exy:x=y:=by
   obtain⟨⟨a,b⟩,r⟩:=x
   obtain⟨⟨a',b'⟩,r'⟩:=y
   simp only at e1 e2 e3
   subst e1 e2 e3
   rfl
  subst exy
  congr 1
  refine Ord.inj h.tail h'.tail fun v=>?_
  have h1:=he v
  rw [Zjh,Zjh] at h1
  exact List.append_cancel_left h1
theorem CF_nil:∀ ts,CF ts []
 | []=>.inl rfl
 | _ :: _=>⟨[],rfl,⟨List.Pairwise.nil,fun _ h=>(by cases h)⟩,fun _ h=>(by cases h)⟩
theorem CF_lk {ts:List Int} {t:Int} {c:List Cell} (h:Ord t c) (hc:∀ x∈c,CF ts x.2) (v:Int):CF ts (lk c v):=by
 by_cases hv:lk c v=[]
 ·rw [hv]; exact CF_nil ts
 ·obtain⟨x,hx,h1,h2⟩:=Zj6 hv
  rw [lk_mem h hx h1 h2]
  exact hc x hx
theorem lk_out {t:Int} {c:List Cell} (h:Ord t c) {v:Int} (hv:v<0∨t<v):lk c v=[]:=
 Zqr fun x hx=>by have:=h.ok x hx; omega
theorem CF_inj:∀(ts:List Int) {l l':List (List Zb)},CF ts l→CF ts l'→(∀ p,vP ts p→mS l p=mS l' p)→l=l'
 | [],l,l',h,h',he=>by
  have:=he [] trivial
  rcases h with rfl | rfl <;> rcases h' with rfl | rfl
  ·rfl
  ·simp [mS,mB] at this
  ·simp [mS,mB] at this
  ·rfl
 | t :: ts,l,l',h,h',he=>by
  obtain⟨c,rfl,ho,hc⟩:=h
  obtain⟨c',rfl,ho',hc'⟩:=h'
  rw [Ord.inj ho ho' fun v=>?_]
  by_cases hv:0≤v∧v≤t
  ·refine CF_inj ts (CF_lk ho hc v) (CF_lk ho' hc' v) fun p hp=>?_
   have:=he (v :: p) ⟨hv.1,hv.2,hp⟩
   rw [Zio,Zio,Zl2,Zl2] at this
   exact this
  ·rw [lk_out ho (by omega),lk_out ho' (by omega)]
def joinC (c:List Cell) (lo hi:Int) (rest:List (List Zb)):List Cell:=
 if rest=[] then c else match c.getLast? with
  | some y=>if y.1.Hi + 1=lo∧y.2=rest then c.dropLast++[(⟨y.1.Lo,hi⟩,rest)] else c++[(⟨lo,hi⟩,rest)]
  | none=>c++[(⟨lo,hi⟩,rest)]
structure Upto (g:Int→List (List Zb)) (p:Int) (c:List Cell):Prop where
 ord:Ord (p - 1) c
 at_:∀ v,lk c v=if 0≤v∧v<p then g v else []
theorem Ord.mono {t t':Int} (h:t≤t') {c:List Cell} (ho:Ord t c):Ord t' c:=⟨ho.pw,fun x hx=>by have:=ho.ok x hx; exact⟨this.1,this.2.1,by omega,this.2.2.2⟩⟩
theorem Upto.nil (g:Int→List (List Zb)):Upto g 0 []:=⟨⟨List.Pairwise.nil,fun _ h=>(by cases h)⟩,fun v=>by rw [if_neg (by omega)]; rfl⟩
theorem Upto.inj {g:Int→List (List Zb)} {p:Int} {c c':List Cell} (h:Upto g p c) (h':Upto g p c'):c=c':=Ord.inj h.ord h'.ord fun v=>by rw [h.at_,h'.at_]
theorem lk_one (lo hi:Int) (rest:List (List Zb)) (v:Int):lk [(⟨lo,hi⟩,rest)] v=if lo≤v∧v≤hi then rest else []:=by
 rw [Zjh]
 show _++[]=_
 rw [List.append_nil]
 by_cases h:lo≤v∧v≤hi
 ·rw [if_pos h,if_pos (Zgt.2 h)]
 ·rw [if_neg h,if_neg (by rw [Zgt]; exact h)]
theorem Upto.step {g:Int→List (List Zb)} {p q:Int} {c:List Cell} (h:Upto g p c) (hp:0≤p) (hq:p<q) (hg:∀ v,p≤v→v<q→g v=g p):Upto g q (joinC c p (q - 1) (g p)):=by
 unfold joinC
 by_cases hr:g p=[]
 ·rw [if_pos hr]
  refine⟨h.ord.mono (by omega),fun v=>?_⟩
  rw [h.at_]
  by_cases h1:0≤v∧v<p
  ·rw [if_pos h1,if_pos ⟨h1.1,by omega⟩]
  ·rw [if_neg h1]
   split
   ·rw [hg v (by omega) (by omega),hr]
   ·rfl
 ·rw [if_neg hr]
  have snoc:∀(d:List Cell) (lo:Int),d.Pairwise gp→(∀ x∈d,0≤x.1.Lo∧x.1.Lo≤x.1.Hi∧x.1.Hi≤p - 1∧x.2 ≠ [])→(∀ y∈d,gp y (⟨lo,q - 1⟩,g p))→0≤lo→lo≤p →
    Ord (q - 1) (d++[(⟨lo,q - 1⟩,g p)]):=by
   intro d lo h1 h2 h3 h4 h5
   refine⟨List.pairwise_append.2 ⟨h1,List.pairwise_singleton ..,fun y hy x hx=>by rw [List.mem_singleton] at hx; subst hx; exact h3 y hy⟩,fun x hx=>?_⟩
   rcases List.mem_append.1 hx with hx | hx
   ·have:=h2 x hx
    exact⟨this.1,this.2.1,by omega,this.2.2.2⟩
   ·rw [List.mem_singleton] at hx
    subst hx
    exact⟨h4,by show lo≤q - 1; omega,by show q - 1≤q - 1; omega,hr⟩
  have look:∀ v,lk c v++(if p≤v∧v≤q - 1 then g p else [])=if 0≤v∧v<q then g v else []:=by
   intro v
   rw [h.at_]
   by_cases h1:0≤v∧v<p
   ·rw [if_pos h1,if_neg (show ¬ (p≤v∧v≤q - 1) by omega),if_pos (show 0≤v∧v<q by omega),List.append_nil]
   ·rw [if_neg h1,List.nil_append]
    by_cases h2:p≤v∧v≤q - 1
    ·rw [if_pos h2,if_pos (by omega),hg v h2.1 (by omega)]
    ·rw [if_neg h2,if_neg (by omega)]
  cases hl:c.getLast? with
  | none=>
   rw [List.getLast?_eq_none_iff] at hl
   subst hl
   refine⟨snoc [] p List.Pairwise.nil (fun _ h=>(by cases h)) (fun _ h=>(by cases h)) hp (Int.le_refl _),fun v=>?_⟩
   rw [lk_app,lk_one]
   exact look v
  | some y=>
   obtain⟨d,rfl⟩:=List.getLast?_eq_some_iff.1 hl
   have hyo:=h.ord.ok y (List.mem_append_right _ (List.mem_singleton.2 rfl))
   have hpw:=List.pairwise_append.1 h.ord.pw
   have hbe:∀ x∈d,gp x y:=fun x hx=>hpw.2.2 x hx y (List.mem_singleton.2 rfl)
   simp only
   by_cases hj:y.1.Hi + 1=p∧y.2=g p
   ·rw [if_pos hj,List.dropLast_concat]
    refine⟨snoc d y.1.Lo hpw.1 (fun x hx=>h.ord.ok x (List.mem_append_left _ hx)) (fun x hx=>⟨(hbe x hx).1,by rw [← hj.2]; exact(hbe x hx).2⟩) hyo.1 (by omega),fun v=>?_⟩
    rw [lk_app,lk_one,← look v,lk_app,List.append_assoc]
    congr 1
    obtain⟨⟨ylo,yhi⟩,yr⟩:=y
    rw [lk_one]
    simp only at hj hyo ⊢
    obtain⟨h1,rfl⟩:=hj
    by_cases h2:ylo≤v∧v≤yhi
    ·rw [if_pos h2,if_neg (show ¬ (p≤v∧v≤q - 1) by omega),if_pos (show ylo≤v∧v≤q - 1 by omega),List.append_nil]
    ·rw [if_neg h2,List.nil_append]
     by_cases h3:p≤v∧v≤q - 1
     ·rw [if_pos h3,if_pos (show ylo≤v∧v≤q - 1 by omega)]
     ·rw [if_neg h3,if_neg (show ¬ (ylo≤v∧v≤q - 1) by omega)]
   ·rw [if_neg hj]
    refine⟨snoc (d++[y]) p h.ord.pw h.ord.ok (fun x hx=>⟨?_,fun e1 e2=>?_⟩) hp (Int.le_refl _),fun v=>?_⟩
    ·have:=h.ord.ok x hx
     show x.1.Hi<p
     omega
    ·simp only at e1 e2
     rcases List.mem_append.1 hx with hx | hx
     ·have:=(hbe x hx).1
      omega
     ·rw [List.mem_singleton] at hx
      subst hx
      exact hj ⟨e1,e2⟩
    ·rw [lk_app,lk_one]
     exact look v
theorem Upto.exists_ (g:Int→List (List Zb)):∀ n:Nat,∃ c,Upto g n c
 | 0=>⟨[],Upto.nil g⟩
 | n + 1=>by
  obtain⟨c,h⟩:=Upto.exists_ g n
  refine⟨_,h.step (q:=((n + 1:Nat):Int)) (by omega) (by omega) fun v h1 h2=>?_⟩
  rw [show v=(n:Int) by omega]
structure Is (op:Bool→Bool→Bool) (ts:List Int) (a b l:List (List Zb)):Prop where
 cf:CF ts l
 mem:∀ p,vP ts p→mS l p=op (mS a p) (mS b p)
theorem Is.inj {op:Bool→Bool→Bool} {ts:List Int} {a b l l':List (List Zb)} (h:Is op ts a b l) (h':Is op ts a b l'):l=l':=
 CF_inj ts h.cf h'.cf fun p hp=>by rw [h.mem p hp,h'.mem p hp]
theorem Is.exists_ (op:Bool→Bool→Bool):∀(ts:List Int),(∀ t∈ts,0≤t)→∀ a b,∃ l,Is op ts a b l
 | [],_,a,b=>by
  by_cases h:op (mS a []) (mS b [])=true
  ·exact⟨[[]],.inr rfl,fun p hp=>by cases p with | nil=>rw [h]; rfl | cons _ _=>exact hp.elim⟩
  ·exact⟨[],.inl rfl,fun p hp=>by cases p with | nil=>rw [Bool.not_eq_true] at h; rw [h]; rfl | cons _ _=>exact hp.elim⟩
 | t :: ts,ht,a,b=>by
  have ih:=fun v=>Is.exists_ op ts (fun x hx=>ht x (List.mem_cons_of_mem _ hx)) (atv a v) (atv b v)
  have h0:=ht t (List.mem_cons_self ..)
  obtain⟨c,hc⟩:=Upto.exists_ (fun v=>(ih v).choose) (t + 1).toNat
  have hg:=fun v=>(ih v).choose_spec
  refine⟨flt c,⟨c,rfl,hc.ord.mono (by omega),fun x hx=>?_⟩,fun p hp=>?_⟩
  ·have hx2:=hc.ord.ok x hx
   have:=hc.at_ x.1.Lo
   rw [lk_mem hc.ord hx (Int.le_refl _) hx2.2.1,if_pos (by omega)] at this
   rw [this]
   exact(hg _).cf
  ·cases p with
   | nil=>exact hp.elim
   | cons v p=>
    rw [Zio,Zl2,hc.at_,if_pos (by have:=hp.1; have:=hp.2.1; omega),(hg v).mem p hp.2.2,Zio,Zio]
theorem Is.at_ {op:Bool→Bool→Bool} {t:Int} {ts:List Int} {a b:List (List Zb)} {c:List Cell} (ho:Ord t c) (hc:∀ x∈c,CF ts x.2) (h:Is op (t :: ts) a b (flt c)) {v:Int} (h0:0≤v) (h1:v≤t) :
  Is op ts (atv a v) (atv b v) (lk c v):=
 ⟨CF_lk ho hc v,fun p hp=>by have:=h.mem (v :: p) ⟨h0,h1,hp⟩; rw [Zio,Zio,Zio,Zl2] at this; exact this⟩
end Go.AM
set_option maxRecDepth 100000
namespace Go.AM
open Go
def runC (g:Int→List (List Zb)):List Cell→List Int→List Cell
 | c,p :: q :: ps=>runC g (joinC c p (q - 1) (g p)) (q :: ps)
 | c,[_]=>c
 | c,[]=>c
theorem Zhs (r:Zb) (rest:List (List Zb)):(flt [(r,rest)]).length=rest.length:=by
 simp [flt]
theorem Z0v (c:List Cell) (lo hi:Int) (rest:List (List Zb)):(flt c).length≤(flt (joinC c lo hi rest)).length∧(flt (joinC c lo hi rest)).length≤(flt c).length + rest.length:=by
 unfold joinC
 split
 ·omega
 ·split
  ·rename_i y hl
   obtain⟨d,rfl⟩:=List.getLast?_eq_some_iff.1 hl
   split
   ·rename_i hj
    rw [List.dropLast_concat,Zfd,Zfd,List.length_append,List.length_append,Zhs]
    obtain⟨yr,yrest⟩:=y
    rw [Zhs]
    have:=congrArg List.length hj.2
    simp only at this ⊢
    omega
   ·rw [Zfd (d++[y]),List.length_append,Zhs]; omega
  ·rw [Zfd,List.length_append,Zhs]; omega
theorem Zm7 (g:Int→List (List Zb)):∀(ps:List Int) (c:List Cell),(flt c).length≤(flt (runC g c ps)).length
 | [],_=>Nat.le_refl _
 | [_],_=>Nat.le_refl _
 | p :: q :: ps,c=>Nat.le_trans (Z0v c p (q - 1) (g p)).1 (Zm7 g (q :: ps) _)
def Steps (g:Int→List (List Zb)):List Int→Prop
 | p :: q :: ps=>p<q∧(∀ v,p≤v→v<q→g v=g p)∧Steps g (q :: ps)
 | [_]=>True
 | []=>False
theorem Upto.run {g:Int→List (List Zb)}:∀ {ps:List Int} {p:Int} {c:List Cell},0≤p→Steps g (p :: ps)→Upto g p c→∃ q,(p :: ps).getLast? = some q∧Upto g q (runC g c (p :: ps))
 | [],p,c,_,_,h=>⟨p,rfl,h⟩
 | q :: ps,p,c,h0,hs,h=>by
  obtain⟨h1,h2,h3⟩:=hs
  obtain⟨z,hz,hu⟩:=Upto.run (ps:=ps) (p:=q) (by omega) h3 (h.step h0 h1 h2)
  exact⟨z,by rw [List.getLast?_cons_cons]; exact hz,hu⟩
theorem Z25 {g:Int→List (List Zb)} {t:Int} {c:List Cell} {ps:List Int} (hs:Steps g (0 :: ps)) (hl:(0 :: ps).getLast? = some (t + 1)) (ho:Ord t c) (hg:∀ v,0≤v→v≤t→lk c v=g v):runC g [] (0 :: ps)=c:=by
 obtain⟨q,h1,h2⟩:=Upto.run (Int.le_refl 0) hs (Upto.nil g)
 rw [hl,Option.some.injEq] at h1
 subst h1
 refine Ord.inj (h2.ord.mono (t':=t) (by omega)) ho fun v=>?_
 rw [h2.at_]
 by_cases hv:0≤v∧v<t + 1
 ·rw [if_pos hv,hg v hv.1 (by omega)]
 ·rw [if_neg hv,lk_out ho (by omega)]
def Cut (ps:List Int) (l:List (List Zb)):Prop:=∀ b∈l,∀ r b',b=r :: b'→r.Lo∈ps∧r.Hi + 1∈ps
theorem Z1t {l:List (List Zb)} {p q:Int} (h:∀ b∈l,∀ r b',b=r :: b'→¬ (p<r.Lo∧r.Lo<q)∧¬ (p<r.Hi + 1∧r.Hi + 1<q)) {v:Int} (h1:p≤v) (h2:v<q):atv l v=atv l p:=by
 unfold atv
 induction l with
 | nil=>rfl
 | cons b l ih=>
  rw [List.flatMap_cons,List.flatMap_cons,ih fun x hx=>h x (List.mem_cons_of_mem _ hx)]
  congr 1
  cases b with
  | nil=>rfl
  | cons r b=>
   have hb:=h (r :: b) (List.mem_cons_self ..) r b rfl
   have:inR v r=inR p r:=by
    rw [Bool.eq_iff_iff,Zgt,Zgt]
    omega
   simp only [this]
theorem Zws:∀ {ps:List Int},ps.Pairwise (·<·)→∀ {i:Nat} (h:i + 1<ps.length),∀ x∈ps,¬ (ps[i]<x∧x<ps[i + 1]):=by
 intro ps hp i h x hx hc
 obtain⟨j,hj,rfl⟩:=List.getElem_of_mem hx
 have hm:=List.pairwise_iff_getElem.1 hp
 rcases Nat.lt_trichotomy j i with h1 | h1 | h1
 ·have:=hm j i hj (by omega) h1; omega
 ·subst h1; omega
 ·rcases Nat.lt_or_eq_of_le (show i + 1≤j by omega) with h2 | h2
  ·have:=hm (i + 1) j (by omega) hj h2; omega
  ·subst h2; omega
theorem Zxt {g:Int→List (List Zb)}:∀ {ps:List Int},ps ≠ []→ps.Pairwise (·<·)→(∀ i (h:i + 1<ps.length),∀ v,ps[i]≤v→v<ps[i + 1]→g v=g ps[i])→Steps g ps
 | [],h,_,_=>h rfl
 | [_],_,_,_=>trivial
 | p :: q :: ps,_,hp,hg=>by
  refine⟨(List.pairwise_cons.1 hp).1 q (List.mem_cons_self ..),fun v h1 h2=>hg 0 (by simp) v h1 h2,Zxt (List.cons_ne_nil _ _) (List.pairwise_cons.1 hp).2 fun i h v h1 h2=>?_⟩
  have:=hg (i + 1) (by simp at h ⊢; omega) v
  simpa using this h1 h2
structure Nx (t:Int) (ts:List Int) (last:Option Cell) (c:List Cell):Prop where
 ord:Ord t c
 cf:∀ x∈c,CF ts x.2
 gap:∀ y∈last,∀ x∈c,gp y x
theorem Nx.nil (t:Int) (ts:List Int) (last:Option Cell):Nx t ts last []:=⟨⟨List.Pairwise.nil,fun _ h=>(by cases h)⟩,fun _ h=>(by cases h),fun _ _ _ h=>(by cases h)⟩
theorem CF_iff {t:Int} {ts:List Int} {l:List (List Zb)}:CF (t :: ts) l ↔ ∃ c,l=flt c∧Nx t ts none c:=
 ⟨fun⟨c,h1,h2,h3⟩=>⟨c,h1,h2,h3,fun _ h=>(by cases h)⟩,fun⟨c,h1,h2⟩=>⟨c,h1,h2.ord,h2.cf⟩⟩
theorem Nx.run {t:Int} {ts:List Int} {last:Option Cell} {r:Zb} {run:List (List Zb)} {l:List (List Zb)} (hrun:run ≠ []) (hl:∀ b,l.head? = some b→∃ r' b',b=r' :: b'∧r' ≠ r) :
  (∃ c,run.map (r :: ·)++l=flt c∧Nx t ts last c) ↔ (0≤r.Lo∧r.Lo≤r.Hi∧r.Hi≤t)∧CF ts run∧(∀ y∈last,gp y (r,run))∧∃ c,l=flt c∧Nx t ts (some (r,run)) c:=by
 constructor
 ·rintro⟨c,hc,hn⟩
  cases c with
  | nil=>
   have:run.map (r :: ·)=[]:=(List.append_eq_nil_iff.1 hc).1
   simp at this
   exact absurd this hrun
  | cons x c=>
   rw [Zh3] at hc
   have hx:=hn.ord.ok x (List.mem_cons_self ..)
   have hp:=List.pairwise_cons.1 hn.ord.pw
   have key:∀(u w:List (List Zb)) (l l':List (List Zb)),u ≠ []→w ≠ []→(∀ b,l.head? = some b→∃ r' b',b=r' :: b'∧r' ≠ r)→(∀ b,l'.head? = some b→∃ r' b',b=r' :: b'∧r' ≠ x.1) →
     u.map (r :: ·)++l=w.map (x.1 :: ·)++l'→r=x.1∧u=w∧l=l':=by
    intro u w l l' hu hw g1 g2 he
    have hr:r=x.1:=by
     cases u with
     | nil=>exact absurd rfl hu
     | cons b u=>cases w with
      | nil=>exact absurd rfl hw
      | cons d w=>
       simp only [List.map_cons,List.cons_append,List.cons.injEq] at he
       exact he.1.1
    refine⟨hr,?_⟩
    rw [← hr] at he g2
    clear hu hw
    induction u generalizing w with
    | nil=>cases w with
     | nil=>exact⟨rfl,by simpa using he⟩
     | cons d w=>
      simp only [List.map_nil,List.nil_append,List.map_cons,List.cons_append] at he
      obtain⟨r',b',e1,e2⟩:=g1 (r :: d) (by rw [he]; rfl)
      simp only [List.cons.injEq] at e1
      exact absurd e1.1.symm e2
    | cons b u ih=>cases w with
     | nil=>
      simp only [List.map_nil,List.nil_append,List.map_cons,List.cons_append] at he
      obtain⟨r',b',e1,e2⟩:=g2 (r :: b) (by rw [← he]; rfl)
      simp only [List.cons.injEq] at e1
      exact absurd e1.1.symm e2
     | cons d w=>
      simp only [List.map_cons,List.cons_append,List.cons.injEq,true_and] at he
      obtain⟨i1,i2⟩:=ih w he.2
      exact⟨by rw [he.1,i1],i2⟩
   have hnext:∀ b,(flt c).head? = some b→∃ r' b',b=r' :: b'∧r' ≠ x.1:=by
    intro b hb
    cases c with
    | nil=>simp [flt] at hb
    | cons z c=>
     have hz:=hn.ord.ok z (List.mem_cons_of_mem _ (List.mem_cons_self ..))
     rw [Zh3] at hb
     cases hz2:z.2 with
     | nil=>exact absurd hz2 hz.2.2.2
     | cons d w=>
      rw [hz2] at hb
      simp only [List.map_cons,List.cons_append,List.head?_cons,Option.some.injEq] at hb
      refine⟨z.1,d,hb.symm,fun e=>?_⟩
      have:=(hp.1 z (List.mem_cons_self ..)).1
      rw [e] at this
      omega
   obtain⟨e1,e2,e3⟩:=key run x.2 l (flt c) hrun hx.2.2.2 hl hnext hc
   subst e1 e2 e3
   exact⟨⟨hx.1,hx.2.1,hx.2.2.1⟩,hn.cf x (List.mem_cons_self ..),fun y hy=>hn.gap y hy x (List.mem_cons_self ..),c,rfl,hn.ord.tail,fun z hz=>hn.cf z (List.mem_cons_of_mem _ hz),fun y hy z hz=>by
    have:x=y:=by simpa using hy
    subst this
    exact hp.1 z hz⟩
 ·rintro⟨h1,h2,h3,c,rfl,hn⟩
  refine⟨(r,run) :: c,rfl,⟨List.pairwise_cons.2 ⟨fun z hz=>hn.gap _ rfl z hz,hn.ord.pw⟩,fun x hx=>?_⟩,fun x hx=>?_,fun y hy x hx=>?_⟩
  ·rcases List.mem_cons.1 hx with rfl | hx
   ·exact⟨h1.1,h1.2.1,h1.2.2,hrun⟩
   ·exact hn.ord.ok x hx
  ·rcases List.mem_cons.1 hx with rfl | hx
   ·exact h2
   ·exact hn.cf x hx
  ·rcases List.mem_cons.1 hx with rfl | hx
   ·exact h3 y hy
   ·have g1:=h3 y hy
    have g2:=hn.gap _ rfl x hx
    have g3:=g1.1
    have g4:=g2.1
    simp only at g3 g4
    exact⟨by omega,fun e=>by omega⟩
end Go.AM
set_option maxRecDepth 100000
namespace Go.AM
open Go
theorem Z6 {d:Array Int} {n i:Nat} (hn:d.size=n) (h:i<n):idxn n d.toList (i:Int)=some d[i]!:=by
 have hi:i<d.size:=by omega
 unfold idxn
 rw [if_pos ⟨by omega,by omega⟩]
 simp [AM.idx,hi]
theorem Z1u (d:Array Int) (i:Nat) (x:Int):d.toList.set i x=(d.setIfInBounds i x).toList:=by simp
theorem Ze4 {d:Array Int} {n i j:Nat} {x:Int} (hn:d.size=n) (h:j<n):∃ y,idxn n (d.toList.set i x) (j:Int)=some y:=by
 rw [Z1u]
 exact⟨_,Z6 (by simpa using hn) h⟩
theorem Zfe (d:Array Int) (i j:Nat):(d.toList.set i d[j]!).set j d[i]! = (Sort.swp d i j).toList:=by
 unfold Sort.swp; simp
theorem swp_sz (d:Array Int) (i j:Nat):(Sort.swp d i j).size=d.size:=Sort.swp_size d i j
theorem Zfu (x y:Int):Zae x y=some (Sort.ltInt x y):=by
 unfold Zae Zgf Sort.ltInt
 simp
abbrev sB:Nat:=1000000000
theorem wpred {j:Nat} (h:j + 1<1000000000000):IntKind.wrap .i64 (((j + 1:Nat):Int) - (1:Int))=(j:Int):=by
 rw [wi64 (by omega) (by omega)]; omega
theorem wsuc {j:Nat} (h:j + 1<1000000000000):IntKind.wrap .i64 ((j:Int) + (1:Int))=((j + 1:Nat):Int):=by
 rw [wi64 (by omega) (by omega)]; omega
theorem wadd {i j:Nat} (h:i + j<1000000000000):IntKind.wrap .i64 ((i:Int) + (j:Int))=((i + j:Nat):Int):=by
 rw [wi64 (by omega) (by omega)]; omega
theorem wsub {i j:Nat} (h:i<1000000000000) (hj:j≤i):IntKind.wrap .i64 ((i:Int) - (j:Int))=((i - j:Nat):Int):=by
 rw [wi64 (by omega) (by omega)]; omega
theorem Zr3 {n a:Nat} (hB:n≤sB):∀(j m:Nat) (d:Array Int),d.size=n→j<n→j<m→Zam n (a:Int) m d.toList (j:Int)=some (Sort.insInner Sort.ltInt a j d).toList
 | 0,m + 1,d,hd,hj,hm=>by
  rw [Zam,decide_eq_false (by omega)]
  simp [Sort.insInner]
 | j + 1,m + 1,d,hd,hj,hm=>by
  have ih:=Zr3 (a:=a) hB j m
  rw [Zam,Sort.insInner]
  unfold sB at hB
  simp only [wpred (show j + 1<1000000000000 by omega),Z6 hd hj,Z6 hd (show j<n by omega),Option.bind_some,Zfu,Int.toNat_natCast]
  by_cases h:j + 1 > a
  ·have h':((j + 1:Nat):Int) > (a:Int):=by omega
   simp only [decide_eq_true h,decide_eq_true h',if_true,Option.bind_some,Bool.true_and]
   cases hl:Sort.ltInt d[j + 1]! d[j]! with
   | false=>simp
   | true=>
    obtain⟨y,hy⟩:=Ze4 (i:=j + 1) (x:=d[j]!) hd (show j<n by omega)
    simp only [if_true,hy,Option.bind_some,Zfe]
    exact ih _ (by rw [swp_sz,hd]) (by omega) (by omega)
  ·have h':¬ ((j + 1:Nat):Int) > (a:Int):=by omega
   rw [decide_eq_false h,decide_eq_false h']
   simp
theorem Zyt {n a b:Nat} (hB:n≤sB) (hb:b≤n):∀(k i m:Nat) (d:Array Int),d.size=n→b - i=k→k<m→i≤sB + 1→Zan n (a:Int) (b:Int) m d.toList (i:Int)=some (Sort.insOuter Sort.ltInt a b i d).toList:=by
 unfold sB at hB
 intro k
 induction k with
 | zero=>
  intro i m d hd hk hm hi
  cases m with
  | zero=>omega
  | succ m=>
  rw [Zan,Sort.insOuter,if_neg (by simp; omega),if_neg (by omega)]
 | succ k ih=>
  intro i m d hd hk hm hi
  cases m with
  | zero=>omega
  | succ m=>
  rw [Zan,Sort.insOuter,if_pos (by simp; omega),if_pos (by omega)]
  rw [Zr3 (a:=a) (show n≤sB by unfold sB; omega) i fuel d hd (by omega) (by unfold fuel; omega)]
  simp only [Option.bind_some]
  unfold sB at hi
  rw [wsuc (by omega)]
  refine ih (i + 1) m _ ?_ (by omega) (by omega) (by unfold sB; omega)
  exact insInner_sz _ _ hd
where
 insInner_sz {n a:Nat}:∀(j:Nat) (d:Array Int),d.size=n→(Sort.insInner Sort.ltInt a j d).size=n
  | 0,d,hd=>hd
  | j + 1,d,hd=>by
   rw [Sort.insInner]
   split
   ·exact insInner_sz j _ (by rw [swp_sz,hd])
   ·exact hd
theorem Zs0 {n a b:Nat} (hB:n≤sB) (hb:b≤n) (hab:a≤b) {d:Array Int} (hd:d.size=n):Zb3 n d.toList (a:Int) (b:Int)=some (Sort.insertionSort Sort.ltInt d a b).toList:=by
 unfold Zb3 Sort.insertionSort
 have h:(a:Int) + 1=((a + 1:Nat):Int):=by omega
 unfold sB at hB
 rw [wsuc (by omega),Zyt (show n≤sB by unfold sB; omega) hb (b - (a + 1)) (a + 1) fuel d hd rfl (by unfold fuel; omega) (by unfold sB; omega)]
 rfl
def sTail (a0:Nat) (a3 a4:Int) (n95:Nat) (v46:List Int) (v47 v109:Int):Option (List Int ⊕ List Int):=
    (idxn a0 v46 (IntKind.wrap .i64 (a4 + v47))).bind fun(x124:Int)=>
    (idxn a0 v46 (IntKind.wrap .i64 (a4 + v109))).bind fun(x126:Int)=>
    (Zae x124 x126).bind fun(r128:Bool)=>
    if (!r128)=true then
     some (.inr v46)
    else
     (idxn a0 v46 (IntKind.wrap .i64 (a4 + v109))).bind fun(x130:Int)=>
     (idxn a0 v46 (IntKind.wrap .i64 (a4 + v47))).bind fun(x132:Int)=>
     (idxn a0 v46 (IntKind.wrap .i64 (a4 + v47))).bind fun(_:Int)=>
     (idxn a0 (List.set v46 (Int.toNat (IntKind.wrap .i64 (a4 + v47))) x130) (IntKind.wrap .i64 (a4 + v109))).bind fun(_:Int)=>
     Zai a0 a3 a4 n95 (List.set (List.set v46 (Int.toNat (IntKind.wrap .i64 (a4 + v47))) x130) (Int.toNat (IntKind.wrap .i64 (a4 + v109))) x132) v109
def outS (l:List Int) (o:List Int ⊕ List Int):Prop:=o=.inl l∨o=.inr l
theorem Z1v {n hi first root c m:Nat} (hB:n≤sB) (hf:first + hi≤n) (hr:root<hi) (hc:c<hi) {d:Array Int} (hd:d.size=n) {r:Array Int}
  (ih:Sort.ltInt d[first + root]! d[first + c]! = true→Ok (Zai n (hi:Int) (first:Int) m (Sort.swp d (first + root) (first + c)).toList (c:Int)) (outS r.toList)) (hs:Sort.ltInt d[first + root]! d[first + c]! = false→r=d) :
  Ok (sTail n (hi:Int) (first:Int) m d.toList (root:Int) (c:Int)) (outS r.toList):=by
 unfold sB at hB
 unfold sTail
 rw [wadd (i:=first) (j:=root) (by omega),wadd (i:=first) (j:=c) (by omega)]
 simp only [Z6 hd (show first + root<n by omega),Z6 hd (show first + c<n by omega),Option.bind_some,Zfu,Int.toNat_natCast]
 cases hl:Sort.ltInt d[first + root]! d[first + c]! with
 | false=>rw [hs hl]; exact⟨_,rfl,Or.inr rfl⟩
 | true=>
  obtain⟨y,hy⟩:=Ze4 (i:=first + root) (x:=d[first + c]!) hd (show first + c<n by omega)
  simp only [Bool.not_true,Bool.false_eq_true,if_false,hy,Option.bind_some,Zfe]
  exact ih hl
theorem Zyu {n hi first:Nat} (hB:n≤sB) (hf:first + hi≤n):∀(k root m:Nat) (d:Array Int),d.size=n→hi - root≤k→k<m→root≤n →
  Ok (Zai n (hi:Int) (first:Int) m d.toList (root:Int)) (outS (Sort.siftDown Sort.ltInt hi first root d).toList):=by
 intro k
 induction k with
 | zero=>
  intro root m d hd hk hm hr
  cases m with
  | zero=>omega
  | succ m=>
  unfold sB at hB
  rw [Zai,Sort.siftDown,dif_pos (by omega),if_pos]
  ·exact⟨_,rfl,Or.inl rfl⟩
  ·rw [wi64 (x:=2 * (root:Int)) (by omega) (by omega),wi64 (by omega) (by omega)]; exact decide_eq_true (by omega)
 | succ k ih=>
  intro root m d hd hk hm hr
  cases m with
  | zero=>omega
  | succ m=>
  have hB':=hB
  unfold sB at hB
  have e1:IntKind.wrap .i64 (IntKind.wrap .i64 (2 * (root:Int)) + 1)=((2 * root + 1:Nat):Int):=by
   rw [wi64 (x:=2 * (root:Int)) (by omega) (by omega),wi64 (by omega) (by omega)]; omega
  rw [Zai,Sort.siftDown]
  rw [e1]
  by_cases h:2 * root + 1 ≥ hi
  ·rw [dif_pos h,if_pos (decide_eq_true (by omega))]
   exact⟨_,rfl,Or.inl rfl⟩
  ·rw [dif_neg h,if_neg (by simp; omega)]
   have hst:∀ c:Nat,c<hi→root<c→Ok (sTail n (hi:Int) (first:Int) m d.toList (root:Int) (c:Int)) (outS (if (!Sort.ltInt d[first + root]! d[first + c]!)=true then d else Sort.siftDown Sort.ltInt hi first c (Sort.swp d (first + root) (first + c))).toList):=fun c hc hrc=>by
    refine Z1v hB' hf (by omega) hc hd (fun hl=>?_) (fun hl=>?_)
    ·rw [hl]
     simp only [Bool.not_true,Bool.false_eq_true,if_false]
     exact ih c m _ (by rw [swp_sz,hd]) (by omega) (by omega) (by omega)
    ·rw [hl]; rfl
   have e2:IntKind.wrap .i64 (((2 * root + 1:Nat):Int) + 1)=((2 * root + 2:Nat):Int):=wsuc (by omega)
   have e3:IntKind.wrap .i64 (IntKind.wrap .i64 ((first:Int) + ((2 * root + 1:Nat):Int)) + 1)=((first + (2 * root + 1) + 1:Nat):Int):=by
    rw [wadd (by omega)]; exact wsuc (by omega)
   have e4:IntKind.wrap .i64 ((first:Int) + ((2 * root + 1:Nat):Int))=((first + (2 * root + 1):Nat):Int):=wadd (by omega)
   rw [e2,e3,e4]
   by_cases h2:2 * root + 1 + 1<hi
   ·have h2':((2 * root + 2:Nat):Int)<(hi:Int):=by omega
    simp only [decide_eq_true h2,decide_eq_true h2',Option.bind_some,if_true,Z6 hd (show first + (2 * root + 1)<n by omega),Z6 hd (show first + (2 * root + 1) + 1<n by omega),Zfu,Bool.true_and]
    cases hl:Sort.ltInt d[first + (2 * root + 1)]! d[first + (2 * root + 1) + 1]! with
    | false=>
     simp only [Bool.false_eq_true,if_false,Option.bind_some]
     have q:=hst (2 * root + 1) (by omega) (by omega)
     simp only [sTail,Zfu,Option.bind_some] at q
     exact q
    | true=>
     simp only [if_true,Option.bind_some,dif_pos (show 2 * root + 2<hi from h2)]
     have q:=hst (2 * root + 2) (by omega) (by omega)
     simp only [sTail,Zfu,Option.bind_some] at q
     exact q
   ·have h2':¬ ((2 * root + 2:Nat):Int)<(hi:Int):=by omega
    simp only [decide_eq_false h2,decide_eq_false h2',Option.bind_some,Bool.false_eq_true,if_false,Bool.false_and]
    exact hst (2 * root + 1) (by omega) (by omega)
theorem Zvd {n hi first:Nat}:∀(k root:Nat) (d:Array Int),d.size=n→hi - root≤k→(Sort.siftDown Sort.ltInt hi first root d).size=n:=by
 intro k
 induction k with
 | zero=>intro root d hd hk; rw [Sort.siftDown,dif_pos (by omega)]; exact hd
 | succ k ih=>
  intro root d hd hk
  rw [Sort.siftDown]
  split
  ·exact hd
  ·split
   ·split
    ·exact hd
    ·split
     ·exact ih _ _ (by rw [swp_sz,hd]) (by omega)
     ·exact hd
   ·split
    ·exact hd
    ·exact ih _ _ (by rw [swp_sz,hd]) (by omega)
theorem Zuh {n hi first root:Nat} (hB:n≤sB) (hf:first + hi≤n) (hr:root≤n) {d:Array Int} (hd:d.size=n):Zb2 n d.toList (root:Int) (hi:Int) (first:Int)=some (Sort.siftDown Sort.ltInt hi first root d).toList:=by
 unfold Zb2
 obtain⟨o,e,ho⟩:=Zyu hB hf (hi - root) root fuel d hd (Nat.le_refl _) (by unfold fuel; unfold sB at hB; omega) hr
 rw [e]
 rcases ho with rfl | rfl <;> rfl
theorem Zqs {n a b:Nat} (hB:n≤sB) (hab:a≤b) (hb:b≤n):∀(k m:Nat) (d:Array Int),d.size=n→k≤n + 1→k<m →
  Za0 n (a:Int) (b:Int) m d.toList ((k:Int) - 1)=some (Sort.heapBuild Sort.ltInt (b - a) a k d).toList
 | 0,m + 1,d,hd,hk,hm=>by
  rw [Za0,if_neg (by simp)]; rfl
 | k + 1,m + 1,d,hd,hk,hm=>by
  have hB':=hB
  unfold sB at hB
  rw [Za0,if_pos (decide_eq_true (by omega)),show ((k + 1:Nat):Int) - 1=(k:Int) by omega,wsub (by omega) hab,Zuh hB' (by omega) (by omega) hd]
  simp only [Option.bind_some]
  rw [wi64 (by omega) (by omega),Sort.heapBuild]
  exact Zqs hB' hab hb k m _ (Zvd _ _ _ hd (Nat.le_refl _)) (by omega) (by omega)
theorem Zui {n a b:Nat} (hB:n≤sB) (hb:b≤n):∀(k m:Nat) (d:Array Int),d.size=n→a + k≤b→k<m →
  Za1 n (a:Int) m d.toList ((k:Int) - 1)=some (Sort.heapPop Sort.ltInt a k d).toList
 | 0,m + 1,d,hd,hk,hm=>by
  rw [Za1,if_neg (by simp)]; rfl
 | k + 1,m + 1,d,hd,hk,hm=>by
  have hB':=hB
  unfold sB at hB
  rw [Za1,if_pos (decide_eq_true (by omega)),show ((k + 1:Nat):Int) - 1=(k:Int) by omega,wadd (by omega)]
  obtain⟨y,hy⟩:=Ze4 (i:=a) (x:=d[a + k]!) hd (show a + k<n by omega)
  simp only [Z6 hd (show a + k<n by omega),Z6 hd (show a<n by omega),Option.bind_some,Int.toNat_natCast,hy,Zfe]
  have e:=Zuh (root:=0) (hi:=k) (first:=a) hB' (by omega) (by omega) (show (Sort.swp d a (a + k)).size=n by rw [swp_sz,hd])
  rw [show ((0:Nat):Int)=0 from rfl] at e
  rw [e]
  simp only [Option.bind_some]
  rw [wi64 (by omega) (by omega),Sort.heapPop]
  exact Zui hB' hb k m _ (Zvd _ _ _ (by rw [swp_sz,hd]) (Nat.le_refl _)) (by omega) (by omega)
theorem Zv7 {n hi first:Nat}:∀(k:Nat) (d:Array Int),d.size=n→(Sort.heapBuild Sort.ltInt hi first k d).size=n
 | 0,_,hd=>hd
 | k + 1,d,hd=>by rw [Sort.heapBuild]; exact Zv7 k _ (Zvd _ _ _ hd (Nat.le_refl _))
theorem Zyv {n a b:Nat} (hB:n≤sB) (hab:a<b) (hb:b≤n) {d:Array Int} (hd:d.size=n):Zcr n d.toList (a:Int) (b:Int)=some (Sort.heapSort Sort.ltInt d a b).toList:=by
 have hB':=hB
 unfold sB at hB
 unfold Zcr Sort.heapSort
 have e:IntKind.wrap .i64 (Int.tdiv (IntKind.wrap .i64 (IntKind.wrap .i64 ((b:Int) - (a:Int)) - 1)) 2)=(((b - a - 1) / 2 + 1:Nat):Int) - 1:=by
  rw [wsub (by omega) (by omega),wi64 (x:=((b - a:Nat):Int) - 1) (by omega) (by omega)]
  rw [Int.tdiv_eq_ediv_of_nonneg (by omega),wi64 (by omega) (by omega)]
  omega
 rw [e,Zqs hB' (by omega) hb _ _ _ hd (by omega) (by unfold fuel; omega)]
 simp only [Option.bind_some]
 rw [wsub (by omega) (by omega),wi64 (x:=((b - a:Nat):Int) - 1) (by omega) (by omega),Zui hB' hb (b - a) fuel _ (Zv7 _ _ hd) (by omega) (by unfold fuel; omega)]
 rfl
end Go.AM
set_option maxRecDepth 100000
namespace Go.AM
open Go
theorem Zz5 {n:Nat} (hB:n≤sB):∀(k i j m:Nat) (d:Array Int),d.size=n→j - i≤k→k<m→j<n→i≤n →
  Zao n m d.toList (i:Int) (j:Int)=some (Sort.reverseLoop i j d).toList:=by
 intro k
 induction k with
 | zero=>
  intro i j m d hd hk hm hj hi
  cases m with
  | zero=>omega
  | succ m=>rw [Zao,Sort.reverseLoop,if_neg (by simp; omega),if_neg (by omega)]
 | succ k ih=>
  intro i j m d hd hk hm hj hi
  cases m with
  | zero=>omega
  | succ m=>
  have hB':=hB
  unfold sB at hB
  rw [Zao,Sort.reverseLoop]
  by_cases h:i<j
  ·rw [if_pos (decide_eq_true (by omega)),if_pos h]
   obtain⟨y,hy⟩:=Ze4 (i:=i) (x:=d[j]!) hd hj
   simp only [Z6 hd hj,Z6 hd (show i<n by omega),Option.bind_some,Int.toNat_natCast,hy,Zfe]
   obtain⟨j',rfl⟩:∃ j',j=j' + 1:=⟨j - 1,by omega⟩
   rw [wsuc (by omega),wpred (by omega)]
   exact ih (i + 1) j' m _ (by rw [swp_sz,hd]) (by omega) (by omega) (by omega) (by omega)
  ·rw [if_neg (by simp; omega),if_neg h]
theorem Zuj {n a b:Nat} (hB:n≤sB) (hab:a<b) (hb:b≤n) {d:Array Int} (hd:d.size=n):Zbf n d.toList (a:Int) (b:Int)=some (Sort.reverseRange d a b).toList:=by
 have hB':=hB
 unfold sB at hB
 unfold Zbf Sort.reverseRange
 obtain⟨b',rfl⟩:∃ b',b=b' + 1:=⟨b - 1,by omega⟩
 rw [wpred (by omega),Zz5 hB' (b' - a) a b' fuel d hd (Nat.le_refl _) (by unfold fuel; omega) (by omega) (by omega)]
 rfl
theorem up_eq {n a:Nat} {L:Nat→Int→Option Int} (hB:n≤sB) {d:Array Int} (p:Int→Bool) {j:Nat} (hj:j<n) (_ha:a<n)
  (step:∀ m (i:Nat),i≤sB + 1→L (m + 1) (i:Int)=if i≤j∧p d[i]! = true then L m ((i + 1:Nat):Int) else some (i:Int)) :
  ∀(k i m:Nat),j + 1 - i≤k→k<m→i≤j + 2→L m (i:Int)=some ((Sort.scanUp p d j i:Nat):Int):=by
 unfold sB at hB
 intro k
 induction k with
 | zero=>
  intro i m hk hm hi
  cases m with
  | zero=>omega
  | succ m=>
  rw [step m i (by unfold sB; omega),if_neg (by omega),Sort.scanUp,if_neg (by simp; omega)]
 | succ k ih=>
  intro i m hk hm hi
  cases m with
  | zero=>omega
  | succ m=>
  rw [step m i (by unfold sB; omega),Sort.scanUp]
  by_cases h:i≤j∧p d[i]! = true
  ·rw [if_pos h,if_pos (by simp [h.1,h.2])]
   exact ih (i + 1) m (by omega) (by omega) (by omega)
  ·rw [if_neg h,if_neg (by simpa using h)]
theorem Zve {n i:Nat} {L:Nat→Int→Option Int} (hi:0<i) {d:Array Int} (p:Int→Bool)
  (step:∀ m (j:Nat),j<n→L (m + 1) (j:Int)=if i≤j∧p d[j]! = true then L m ((j:Int) - 1) else some (j:Int)) :
  ∀(j m:Nat),j<m→j<n→L m (j:Int)=some ((Sort.scanDown p d i j:Nat):Int):=by
 intro j
 induction j with
 | zero=>
  intro m hm hj
  cases m with
  | zero=>omega
  | succ m=>rw [step m 0 hj,if_neg (by omega)]; rfl
 | succ j ih=>
  intro m hm hj
  cases m with
  | zero=>omega
  | succ m=>
  rw [step m (j + 1) hj,Sort.scanDown]
  by_cases h:i≤j + 1∧p d[j + 1]! = true
  ·rw [if_pos h,if_pos (by simp [h.1,h.2]),show ((j + 1:Nat):Int) - 1=(j:Int) by omega]
   exact ih m (by omega) (by omega)
  ·rw [if_neg h,if_neg (by simpa using h)]
theorem pe2_eq {n a j:Nat} (hB:n≤sB) {d:Array Int} (hd:d.size=n) (ha:a<n) (hj:j<n) (i:Nat) (hi:i≤j + 2):Zau n (a:Int) d.toList (j:Int) fuel (i:Int)=some ((Sort.scanUp (fun x=>!Sort.ltInt d[a]! x) d j i:Nat):Int):=by
 refine up_eq hB (d:=d) (fun x=>!Sort.ltInt d[a]! x) hj ha (fun m i hi=>?_) (j + 1) i fuel (by omega) (by unfold sB at hB; unfold fuel; omega) hi
 unfold sB at hB hi
 rw [Zau]
 by_cases h:i≤j
 ·rw [decide_eq_true (show (i:Int)≤(j:Int) by omega)]
  simp only [Option.bind_some,if_true,Z6 hd ha,Z6 hd (show i<n by omega),Zfu,wsuc (show i + 1<1000000000000 by omega),h,true_and]
 ·rw [decide_eq_false (show ¬ (i:Int)≤(j:Int) by omega)]
  simp [h]
theorem pe3_eq {n a i:Nat} (hB:n≤sB) {d:Array Int} (hd:d.size=n) (ha:a<n) (hi:0<i) (j:Nat) (hj:j<n):Zav n (a:Int) d.toList (i:Int) fuel (j:Int)=some ((Sort.scanDown (fun x=>Sort.ltInt d[a]! x) d i j:Nat):Int):=by
 refine Zve hi (n:=n) (d:=d) (fun x=>Sort.ltInt d[a]! x) (fun m j hj=>?_) j fuel (by unfold sB at hB; unfold fuel; omega) hj
 unfold sB at hB
 rw [Zav]
 by_cases h:i≤j
 ·rw [decide_eq_true (show (i:Int)≤(j:Int) by omega)]
  simp only [Option.bind_some,if_true,Z6 hd ha,Z6 hd hj,Zfu,wi64 (show -9223372036854775808≤(j:Int) - 1 by omega) (show (j:Int) - 1<9223372036854775808 by omega),h,true_and]
 ·rw [decide_eq_false (show ¬ (i:Int)≤(j:Int) by omega)]
  simp [h]
theorem pe1_eq {n a:Nat} (hB:n≤sB) (ha:a<n):∀(k i j m:Nat) (d:Array Int),d.size=n→j + 1 - i≤k→k<m→i≤j + 2→a<i→j<n →
  Zak n (a:Int) m d.toList (i:Int) (j:Int)=some ((Sort.partEqLoop Sort.ltInt a i j d).2.toList,((Sort.partEqLoop Sort.ltInt a i j d).1:Int)):=by
 intro k
 induction k with
 | zero=>
  intro i j m d hd hk hm hij hai hj
  cases m with
  | zero=>omega
  | succ m=>
  have h1:Sort.scanUp (fun x=>!Sort.ltInt d[a]! x) d j i=i:=by rw [Sort.scanUp,if_neg (by simp; omega)]
  have h2:Sort.scanDown (fun x=>Sort.ltInt d[a]! x) d i j≤j:=Sort.scanDown_le _ _ _ _
  rw [Zak,pe2_eq hB hd ha hj i hij,Sort.partEqLoop_eq,h1]
  simp only [Option.bind_some]
  rw [pe3_eq hB hd ha (by omega) j hj]
  simp only [Option.bind_some]
  rw [if_pos (decide_eq_true (by omega)),if_pos (by omega)]
 | succ k ih=>
  intro i j m d hd hk hm hij hai hj
  cases m with
  | zero=>omega
  | succ m=>
  have hB':=hB
  unfold sB at hB
  rw [Zak,pe2_eq hB' hd ha hj i hij,Sort.partEqLoop_eq]
  simp only [Option.bind_some]
  have g1:=Sort.scanUp_ge (fun x=>!Sort.ltInt d[a]! x) d j i
  generalize Sort.scanUp (fun x=>!Sort.ltInt d[a]! x) d j i=i2 at g1 ⊢
  rw [pe3_eq hB' hd ha (by omega) j hj]
  simp only [Option.bind_some]
  have g2:=Sort.scanDown_le (fun x=>Sort.ltInt d[a]! x) d i2 j
  generalize Sort.scanDown (fun x=>Sort.ltInt d[a]! x) d i2 j=j2 at g2 ⊢
  by_cases h:i2 > j2
  ·rw [if_pos (decide_eq_true (by omega)),if_pos h]
  ·rw [if_neg (by simp; omega),if_neg h]
   obtain⟨y,hy⟩:=Ze4 (i:=i2) (x:=d[j2]!) hd (show j2<n by omega)
   simp only [Z6 hd (show j2<n by omega),Z6 hd (show i2<n by omega),Option.bind_some,Int.toNat_natCast,hy,Zfe]
   obtain⟨j',rfl⟩:∃ j',j2=j' + 1:=⟨j2 - 1,by omega⟩
   rw [wsuc (by omega),wpred (by omega)]
   exact ih (i2 + 1) j' m _ (by rw [swp_sz,hd]) (by omega) (by omega) (by omega) (by omega) (by omega)
theorem Zru {n a b p:Nat} (hB:n≤sB) (hb:b≤n) (hp0:a≤p) (hp:p<b) {d:Array Int} (hd:d.size=n) :
  Zbx n d.toList (a:Int) (b:Int) (p:Int)=some (((Sort.partitionEqual Sort.ltInt d a b p).1:Int),(Sort.partitionEqual Sort.ltInt d a b p).2.toList):=by
 have hB':=hB
 unfold sB at hB
 unfold Zbx Sort.partitionEqual
 obtain⟨y,hy⟩:=Ze4 (i:=a) (x:=d[p]!) hd (show p<n by omega)
 simp only [Z6 hd (show p<n by omega),Z6 hd (show a<n by omega),Option.bind_some,Int.toNat_natCast,hy,Zfe]
 obtain⟨b',rfl⟩:∃ b',b=b' + 1:=⟨b - 1,by omega⟩
 rw [wsuc (by omega),wpred (by omega),pe1_eq hB' (by omega) (b' + 1 - (a + 1)) (a + 1) b' fuel _ (by rw [swp_sz,hd]) (Nat.le_refl _) (by unfold fuel; omega) (by omega) (by omega) (by omega)]
 rfl
theorem pa4_eq {n a j:Nat} (hB:n≤sB) {d:Array Int} (hd:d.size=n) (ha:a<n) (hj:j<n) (i:Nat) (hi:i≤j + 2):Zbi n (a:Int) d.toList (j:Int) fuel (i:Int)=some ((Sort.scanUp (fun x=>Sort.ltInt x d[a]!) d j i:Nat):Int):=by
 refine up_eq hB (d:=d) (fun x=>Sort.ltInt x d[a]!) hj ha (fun m i hi=>?_) (j + 1) i fuel (by omega) (by unfold sB at hB; unfold fuel; omega) hi
 unfold sB at hB hi
 rw [Zbi]
 by_cases h:i≤j
 ·rw [decide_eq_true (show (i:Int)≤(j:Int) by omega)]
  simp only [Option.bind_some,if_true,Z6 hd ha,Z6 hd (show i<n by omega),Zfu,wsuc (show i + 1<1000000000000 by omega),h,true_and]
 ·rw [decide_eq_false (show ¬ (i:Int)≤(j:Int) by omega)]
  simp [h]
theorem pa5_eq {n a i:Nat} (hB:n≤sB) {d:Array Int} (hd:d.size=n) (ha:a<n) (hi:0<i) (j:Nat) (hj:j<n):Zbj n (a:Int) d.toList (i:Int) fuel (j:Int)=some ((Sort.scanDown (fun x=>!Sort.ltInt x d[a]!) d i j:Nat):Int):=by
 refine Zve hi (n:=n) (d:=d) (fun x=>!Sort.ltInt x d[a]!) (fun m j hj=>?_) j fuel (by unfold sB at hB; unfold fuel; omega) hj
 unfold sB at hB
 rw [Zbj]
 by_cases h:i≤j
 ·rw [decide_eq_true (show (i:Int)≤(j:Int) by omega)]
  simp only [Option.bind_some,if_true,Z6 hd ha,Z6 hd hj,Zfu,wi64 (show -9223372036854775808≤(j:Int) - 1 by omega) (show (j:Int) - 1<9223372036854775808 by omega),h,true_and]
 ·rw [decide_eq_false (show ¬ (i:Int)≤(j:Int) by omega)]
  simp [h]
theorem pa3_eq {n a:Nat} (hB:n≤sB) (ha:a<n):∀(k i j m:Nat) (d:Array Int),d.size=n→j + 1 - i≤k→k<m→i≤j + 2→a<i→j<n →
  Zaw n (a:Int) m d.toList (i:Int) (j:Int)=some ((Sort.partLoop Sort.ltInt a i j d).2.toList,((Sort.partLoop Sort.ltInt a i j d).1:Int)):=by
 intro k
 induction k with
 | zero=>
  intro i j m d hd hk hm hij hai hj
  cases m with
  | zero=>omega
  | succ m=>
  have h1:Sort.scanUp (fun x=>Sort.ltInt x d[a]!) d j i=i:=by rw [Sort.scanUp,if_neg (by simp; omega)]
  have h2:Sort.scanDown (fun x=>!Sort.ltInt x d[a]!) d i j≤j:=Sort.scanDown_le _ _ _ _
  rw [Zaw,pa4_eq hB hd ha hj i hij,Sort.partLoop_eq,h1]
  simp only [Option.bind_some]
  rw [pa5_eq hB hd ha (by omega) j hj]
  simp only [Option.bind_some]
  rw [if_pos (decide_eq_true (by omega)),if_pos (by omega)]
 | succ k ih=>
  intro i j m d hd hk hm hij hai hj
  cases m with
  | zero=>omega
  | succ m=>
  have hB':=hB
  unfold sB at hB
  rw [Zaw,pa4_eq hB' hd ha hj i hij,Sort.partLoop_eq]
  simp only [Option.bind_some]
  have g1:=Sort.scanUp_ge (fun x=>Sort.ltInt x d[a]!) d j i
  generalize Sort.scanUp (fun x=>Sort.ltInt x d[a]!) d j i=i2 at g1 ⊢
  rw [pa5_eq hB' hd ha (by omega) j hj]
  simp only [Option.bind_some]
  have g2:=Sort.scanDown_le (fun x=>!Sort.ltInt x d[a]!) d i2 j
  generalize Sort.scanDown (fun x=>!Sort.ltInt x d[a]!) d i2 j=j2 at g2 ⊢
  by_cases h:i2 > j2
  ·rw [if_pos (decide_eq_true (by omega)),if_pos h]
  ·rw [if_neg (by simp; omega),if_neg h]
   obtain⟨y,hy⟩:=Ze4 (i:=i2) (x:=d[j2]!) hd (show j2<n by omega)
   simp only [Z6 hd (show j2<n by omega),Z6 hd (show i2<n by omega),Option.bind_some,Int.toNat_natCast,hy,Zfe]
   obtain⟨j',rfl⟩:∃ j',j2=j' + 1:=⟨j2 - 1,by omega⟩
   rw [wsuc (by omega),wpred (by omega)]
   exact ih (i2 + 1) j' m _ (by rw [swp_sz,hd]) (by omega) (by omega) (by omega) (by omega) (by omega)
theorem pa1_eq {n a b p:Nat} (hB:n≤sB) {d:Array Int} (hd:d.size=n) (hb:b≤n) (hab:a<b) (i:Nat) (hi:i≤b - 1 + 2) :
  Zbg n d.toList (a:Int) (b:Int) (p:Int) d[p]! d[a]! fuel (i:Int)=some ((Sort.scanUp (fun x=>Sort.ltInt x (Sort.swp d a p)[a]!) (Sort.swp d a p) (b - 1) i:Nat):Int):=by
 refine up_eq hB (d:=Sort.swp d a p) (fun x=>Sort.ltInt x (Sort.swp d a p)[a]!) (show b - 1<n by omega) (show a<n by omega) (fun m i hi=>?_) b i fuel (by omega) (by unfold sB at hB; unfold fuel; omega) hi
 unfold sB at hB hi
 have hd':(Sort.swp d a p).size=n:=by rw [swp_sz,hd]
 have e1:IntKind.wrap .i64 ((b:Int) - 1)=((b - 1:Nat):Int):=by rw [wi64 (by omega) (by omega)]; omega
 rw [Zbg,e1]
 simp only [Int.toNat_natCast,Zfe]
 by_cases h:i≤b - 1
 ·rw [decide_eq_true (show (i:Int)≤((b - 1:Nat):Int) by omega)]
  simp only [Option.bind_some,if_true,Z6 hd' (show a<n by omega),Z6 hd' (show i<n by omega),Zfu,wsuc (show i + 1<1000000000000 by omega),h,true_and]
 ·rw [decide_eq_false (show ¬ (i:Int)≤((b - 1:Nat):Int) by omega)]
  simp [h]
theorem pa2_eq {n a p i:Nat} (hB:n≤sB) {d:Array Int} (hd:d.size=n) (ha:a<n) (hi:0<i) (j:Nat) (hj:j<n) :
  Zbh n d.toList (a:Int) (p:Int) d[p]! d[a]! (i:Int) fuel (j:Int)=some ((Sort.scanDown (fun x=>!Sort.ltInt x (Sort.swp d a p)[a]!) (Sort.swp d a p) i j:Nat):Int):=by
 refine Zve hi (n:=n) (d:=Sort.swp d a p) (fun x=>!Sort.ltInt x (Sort.swp d a p)[a]!) (fun m j hj=>?_) j fuel (by unfold sB at hB; unfold fuel; omega) hj
 unfold sB at hB
 have hd':(Sort.swp d a p).size=n:=by rw [swp_sz,hd]
 rw [Zbh]
 simp only [Int.toNat_natCast,Zfe]
 by_cases h:i≤j
 ·rw [decide_eq_true (show (i:Int)≤(j:Int) by omega)]
  simp only [Option.bind_some,if_true,Z6 hd' ha,Z6 hd' hj,Zfu,wi64 (show -9223372036854775808≤(j:Int) - 1 by omega) (show (j:Int) - 1<9223372036854775808 by omega),h,true_and]
 ·rw [decide_eq_false (show ¬ (i:Int)≤(j:Int) by omega)]
  simp [h]
theorem Zyw {n a:Nat}:∀(k i j:Nat) (d:Array Int),d.size=n→j + 1 - i≤k→(Sort.partLoop Sort.ltInt a i j d).2.size=n:=by
 intro k
 induction k with
 | zero=>
  intro i j d hd hk
  have h1:Sort.scanUp (fun x=>Sort.ltInt x d[a]!) d j i=i:=by rw [Sort.scanUp,if_neg (by simp; omega)]
  have h2:Sort.scanDown (fun x=>!Sort.ltInt x d[a]!) d i j≤j:=Sort.scanDown_le _ _ _ _
  rw [Sort.partLoop_eq,h1,if_pos (by omega)]; exact hd
 | succ k ih=>
  intro i j d hd hk
  rw [Sort.partLoop_eq]
  have g1:=Sort.scanUp_ge (fun x=>Sort.ltInt x d[a]!) d j i
  have g2:=Sort.scanDown_le (fun x=>!Sort.ltInt x d[a]!) d (Sort.scanUp (fun x=>Sort.ltInt x d[a]!) d j i) j
  split
  ·exact hd
  ·exact ih _ _ _ (by rw [swp_sz,hd]) (by omega)
theorem Zyx {a:Nat}:∀(k i j:Nat) (d:Array Int),j + 1 - i≤k→(Sort.partLoop Sort.ltInt a i j d).1≤j:=by
 intro k
 induction k with
 | zero=>
  intro i j d hk
  have h1:Sort.scanUp (fun x=>Sort.ltInt x d[a]!) d j i=i:=by rw [Sort.scanUp,if_neg (by simp; omega)]
  have h2:Sort.scanDown (fun x=>!Sort.ltInt x d[a]!) d i j≤j:=Sort.scanDown_le _ _ _ _
  rw [Sort.partLoop_eq,h1,if_pos (by omega)]; exact h2
 | succ k ih=>
  intro i j d hk
  rw [Sort.partLoop_eq]
  have g1:=Sort.scanUp_ge (fun x=>Sort.ltInt x d[a]!) d j i
  have g2:=Sort.scanDown_le (fun x=>!Sort.ltInt x d[a]!) d (Sort.scanUp (fun x=>Sort.ltInt x d[a]!) d j i) j
  split
  ·exact g2
  ·exact Nat.le_trans (ih _ _ _ (by omega)) (by omega)
theorem Zxu {n a b p:Nat} (hB:n≤sB) (hb:b≤n) (hp0:a≤p) (hp:p<b) {d:Array Int} (hd:d.size=n) :
  Zcm n d.toList (a:Int) (b:Int) (p:Int)=some (((Sort.partition Sort.ltInt d a b p).1:Int),(Sort.partition Sort.ltInt d a b p).2.1,(Sort.partition Sort.ltInt d a b p).2.2.toList):=by
 have hB':=hB
 unfold sB at hB
 have hd':(Sort.swp d a p).size=n:=by rw [swp_sz,hd]
 unfold Zcm Sort.partition
 obtain⟨y,hy⟩:=Ze4 (i:=a) (x:=d[p]!) hd (show p<n by omega)
 have e1:IntKind.wrap .i64 ((b:Int) - 1)=((b - 1:Nat):Int):=by rw [wi64 (by omega) (by omega)]; omega
 simp only [Z6 hd (show p<n by omega),Z6 hd (show a<n by omega),Option.bind_some,Int.toNat_natCast,hy,Zfe]
 rw [wsuc (by omega),pa1_eq hB' hd hb (by omega) (a + 1) (by omega),e1]
 simp only [Option.bind_some]
 have g1:=Sort.scanUp_ge (fun x=>Sort.ltInt x (Sort.swp d a p)[a]!) (Sort.swp d a p) (b - 1) (a + 1)
 generalize Sort.scanUp (fun x=>Sort.ltInt x (Sort.swp d a p)[a]!) (Sort.swp d a p) (b - 1) (a + 1)=i at g1 ⊢
 rw [pa2_eq hB' hd (by omega) (by omega) (b - 1) (by omega)]
 simp only [Option.bind_some]
 have g2:=Sort.scanDown_le (fun x=>!Sort.ltInt x (Sort.swp d a p)[a]!) (Sort.swp d a p) i (b - 1)
 generalize Sort.scanDown (fun x=>!Sort.ltInt x (Sort.swp d a p)[a]!) (Sort.swp d a p) i (b - 1)=j at g2 ⊢
 by_cases h:i > j
 ·rw [if_pos (decide_eq_true (by omega)),if_pos h]
  obtain⟨y,hy⟩:=Ze4 (i:=j) (x:=(Sort.swp d a p)[a]!) hd' (show a<n by omega)
  simp only [Z6 hd' (show j<n by omega),Z6 hd' (show a<n by omega),Option.bind_some,Int.toNat_natCast,hy,Zfe]
 ·rw [if_neg (by simp; omega),if_neg h]
  obtain⟨y,hy⟩:=Ze4 (i:=i) (x:=(Sort.swp d a p)[j]!) hd' (show j<n by omega)
  simp only [Z6 hd' (show j<n by omega),Z6 hd' (show i<n by omega),Option.bind_some,Int.toNat_natCast,hy,Zfe]
  obtain⟨j',rfl⟩:∃ j',j=j' + 1:=⟨j - 1,by omega⟩
  have hd2:(Sort.swp (Sort.swp d a p) i (j' + 1)).size=n:=by rw [swp_sz,hd']
  rw [wsuc (by omega),wpred (by omega),pa3_eq hB' (by omega) (j' + 1 - (i + 1)) (i + 1) j' fuel _ hd2 (Nat.le_refl _) (by unfold fuel; omega) (by omega) (by omega) (by omega)]
  simp only [Option.bind_some,Nat.add_sub_cancel]
  have hz:=Zyw (a:=a) (j' + 1 - (i + 1)) (i + 1) j' _ hd2 (Nat.le_refl _)
  have hl:=Zyx (a:=a) (j' + 1 - (i + 1)) (i + 1) j' (Sort.swp (Sort.swp d a p) i (j' + 1)) (Nat.le_refl _)
  generalize Sort.partLoop Sort.ltInt a (i + 1) j' (Sort.swp (Sort.swp d a p) i (j' + 1))=r at hz hl ⊢
  obtain⟨r1,r2⟩:=r
  simp only at hz hl ⊢
  obtain⟨y,hy⟩:=Ze4 (i:=r1) (x:=r2[a]!) hz (show a<n by omega)
  simp only [Z6 hz (show r1<n by omega),Z6 hz (show a<n by omega),Option.bind_some,Int.toNat_natCast,hy,Zfe]
end Go.AM
set_option maxRecDepth 100000
namespace Go.AM
open Go
theorem Zwt {n b:Nat} (hB:n≤sB) (hb:b≤n) {d:Array Int} (hd:d.size=n):∀(k i m:Nat),b - i≤k→k<m→0<i→i≤n + 1 →
  Zaa n (b:Int) d.toList m (i:Int)=some ((Sort.scanSorted Sort.ltInt d b i:Nat):Int):=by
 have hB':=hB
 unfold sB at hB
 intro k
 induction k with
 | zero=>
  intro i m hk hm h0 hi
  cases m with
  | zero=>omega
  | succ m=>
  rw [Zaa,Sort.scanSorted,decide_eq_false (by omega),if_neg (show ¬ (decide (i<b) && !Sort.ltInt d[i]! d[i - 1]!)=true by simp; omega)]
  simp
 | succ k ih=>
  intro i m hk hm h0 hi
  cases m with
  | zero=>omega
  | succ m=>
  rw [Zaa,Sort.scanSorted]
  by_cases h:i<b
  ·obtain⟨i',rfl⟩:∃ i',i=i' + 1:=⟨i - 1,by omega⟩
   rw [decide_eq_true (show ((i' + 1:Nat):Int)<(b:Int) by omega),decide_eq_true h]
   simp only [Option.bind_some,if_true,wpred (show i' + 1<1000000000000 by omega),Z6 hd (show i' + 1<n by omega),Z6 hd (show i'<n by omega),Zfu,Nat.add_sub_cancel,Bool.true_and]
   cases hl:Sort.ltInt d[i' + 1]! d[i']! with
   | true=>simp
   | false=>
    simp only [Bool.not_false,if_true,wsuc (show i' + 1 + 1<1000000000000 by omega)]
    exact ih (i' + 1 + 1) m (by omega) (by omega) (by omega) (by omega)
  ·rw [decide_eq_false (show ¬ (i:Int)<(b:Int) by omega),decide_eq_false h]
   simp
theorem Zvf {d:Array Int} {b:Nat}:∀(k i:Nat),b - i≤k→i≤Sort.scanSorted Sort.ltInt d b i∧(i≤b→Sort.scanSorted Sort.ltInt d b i≤b):=by
 intro k
 induction k with
 | zero=>intro i hk; rw [Sort.scanSorted,if_neg (by simp; omega)]; omega
 | succ k ih=>
  intro i hk
  rw [Sort.scanSorted]
  split
  ·rename_i h
   simp only [Bool.and_eq_true,decide_eq_true_eq] at h
   have:=ih (i + 1) (by omega)
   omega
  ·omega
theorem Zqt {n:Nat} (hB:n≤sB):∀(j m:Nat) (d:Array Int),d.size=n→j<n→j<m →
  Z7 n m d.toList (j:Int)=some (Sort.shiftDown Sort.ltInt j d).toList
 | 0,m + 1,d,hd,hj,hm=>by
  rw [Z7,if_neg (by simp)]; rfl
 | j + 1,m + 1,d,hd,hj,hm=>by
  have ih:=Zqt hB j m
  unfold sB at hB
  obtain⟨y,hy⟩:=Ze4 (i:=j + 1) (x:=d[j]!) hd (show j<n by omega)
  rw [Z7,Sort.shiftDown,if_pos (decide_eq_true (by omega))]
  simp only [wpred (show j + 1<1000000000000 by omega),Z6 hd hj,Z6 hd (show j<n by omega),Option.bind_some,Zfu,Int.toNat_natCast,hy,Zfe]
  cases hl:Sort.ltInt d[j + 1]! d[j]! with
  | false=>rfl
  | true=>
   simp only [Bool.not_true,Bool.false_eq_true,if_false]
   exact ih _ (by rw [swp_sz,hd]) (by omega) (by omega)
theorem Zkv {n:Nat}:∀(j:Nat) (d:Array Int),d.size=n→(Sort.shiftDown Sort.ltInt j d).size=n
 | 0,_,hd=>hd
 | j + 1,d,hd=>by
  rw [Sort.shiftDown]
  split
  ·exact hd
  ·exact Zkv j _ (by rw [swp_sz,hd])
theorem Zz6 {n b:Nat} (hB:n≤sB) (hb:b≤n):∀(k j m:Nat) (d:Array Int),d.size=n→b - j≤k→k<m→0<j→j≤n + 1 →
  Zab n (b:Int) m d.toList (j:Int)=some (Sort.shiftUp Sort.ltInt b j d).toList:=by
 have hB':=hB
 unfold sB at hB
 intro k
 induction k with
 | zero=>
  intro j m d hd hk hm h0 hj
  cases m with
  | zero=>omega
  | succ m=>rw [Zab,Sort.shiftUp,if_neg (by simp; omega),if_neg (by omega)]
 | succ k ih=>
  intro j m d hd hk hm h0 hj
  cases m with
  | zero=>omega
  | succ m=>
  rw [Zab,Sort.shiftUp]
  by_cases h:j<b
  ·rw [if_pos (decide_eq_true (by omega)),if_pos h]
   obtain⟨j',rfl⟩:∃ j',j=j' + 1:=⟨j - 1,by omega⟩
   obtain⟨y,hy⟩:=Ze4 (i:=j' + 1) (x:=d[j']!) hd (show j'<n by omega)
   simp only [wpred (show j' + 1<1000000000000 by omega),Z6 hd (show j' + 1<n by omega),Z6 hd (show j'<n by omega),Option.bind_some,Zfu,Int.toNat_natCast,hy,Zfe,Nat.add_sub_cancel]
   cases hl:Sort.ltInt d[j' + 1]! d[j']! with
   | false=>rfl
   | true=>
    simp only [Bool.not_true,Bool.false_eq_true,if_false,wsuc (show j' + 1 + 1<1000000000000 by omega)]
    exact ih (j' + 1 + 1) m _ (by rw [swp_sz,hd]) (by omega) (by omega) (by omega) (by omega)
  ·rw [if_neg (by simp; omega),if_neg h]
theorem Zuk {n b:Nat}:∀(k j:Nat) (d:Array Int),d.size=n→b - j≤k→(Sort.shiftUp Sort.ltInt b j d).size=n:=by
 intro k
 induction k with
 | zero=>intro j d hd hk; rw [Sort.shiftUp,if_neg (by omega)]; exact hd
 | succ k ih=>
  intro j d hd hk
  rw [Sort.shiftUp]
  split
  ·split
   ·exact hd
   ·exact ih _ _ (by rw [swp_sz,hd]) (by omega)
  ·exact hd
def outP (r:Array Int × Bool) (o:List Int ⊕ (Bool × List Int)):Prop:=(o=.inl r.1.toList∧r.2=false)∨o=.inr (r.2,r.1.toList)
theorem Zpf {n a b:Nat} (hB:n≤sB) (hb:b≤n) (hab:a<b):∀(s c i m:Nat) (d:Array Int),d.size=n→c + s=5→s<m→a<i→i≤b →
  Ok (Zac n (a:Int) (b:Int) m d.toList (i:Int) (c:Int)) (outP (Sort.partialIns Sort.ltInt a b s i d))
 | 0,c,i,m + 1,d,hd,hc,hm,hai,hi=>by
  rw [Zac,if_neg (by simp; omega)]
  exact⟨_,rfl,Or.inl ⟨rfl,rfl⟩⟩
 | s + 1,c,i,m + 1,d,hd,hc,hm,hai,hi=>by
  have ih:=Zpf hB hb hab s (c + 1)
  have hB':=hB
  unfold sB at hB
  rw [Zac,if_pos (decide_eq_true (by omega)),Zwt hB' hb hd (b - i) i fuel (Nat.le_refl _) (by unfold fuel; omega) (by omega) (by omega),Sort.partialIns]
  obtain⟨g1,g2⟩:=Zvf (d:=d) (b - i) i (Nat.le_refl _)
  have g2:=g2 hi
  generalize Sort.scanSorted Sort.ltInt d b i=j at g1 g2 ⊢
  simp only [Option.bind_some]
  by_cases h1:j=b
  ·rw [if_pos (by simp [h1]),if_pos h1]
   exact⟨_,rfl,Or.inr rfl⟩
  ·rw [if_neg (by simp; omega),if_neg h1,wsub (by omega) (by omega)]
   by_cases h2:b - a<50
   ·rw [if_pos (decide_eq_true (by omega)),if_pos h2]
    exact⟨_,rfl,Or.inr rfl⟩
   ·rw [if_neg (by simp; omega),if_neg h2]
    obtain⟨j',rfl⟩:∃ j',j=j' + 1:=⟨j - 1,by omega⟩
    obtain⟨y,hy⟩:=Ze4 (i:=j' + 1) (x:=d[j']!) hd (show j'<n by omega)
    simp only [wpred (show j' + 1<1000000000000 by omega),Z6 hd (show j' + 1<n by omega),Z6 hd (show j'<n by omega),Option.bind_some,Int.toNat_natCast,hy,Zfe,Nat.add_sub_cancel]
    rw [wsub (i:=j' + 1) (j:=a) (by omega) (by omega),wsub (i:=b) (j:=j' + 1) (by omega) (by omega)]
    have hd2:(Sort.swp d (j' + 1) j').size=n:=by rw [swp_sz,hd]
    generalize Sort.swp d (j' + 1) j'=d2 at hd2 ⊢
    have e3:(if (decide (((j' + 1 - a:Nat):Int) ≥ 2))=true then (Z7 n fuel d2.toList (j':Int)).bind fun(v1191:(List Int))=>some v1191 else some d2.toList)=some (if j' + 1 - a ≥ 2 then Sort.shiftDown Sort.ltInt j' d2 else d2).toList:=by
     by_cases h3:j' + 1 - a ≥ 2
     ·rw [if_pos (decide_eq_true (by omega)),if_pos h3,Zqt hB' j' fuel d2 hd2 (by omega) (by unfold fuel; omega)]; rfl
     ·rw [if_neg (by simp; omega),if_neg h3]
    rw [e3]
    have hd3:(if j' + 1 - a ≥ 2 then Sort.shiftDown Sort.ltInt j' d2 else d2).size=n:=by
     split
     ·exact Zkv _ _ hd2
     ·exact hd2
    generalize (if j' + 1 - a ≥ 2 then Sort.shiftDown Sort.ltInt j' d2 else d2)=d3 at hd3 ⊢
    simp only [Option.bind_some]
    rw [wsuc (j:=j' + 1) (by omega),wsuc (j:=c) (by omega)]
    by_cases h4:b - (j' + 1) ≥ 2
    ·rw [if_pos (decide_eq_true (by omega)),if_pos h4,Zz6 hB' hb (b - (j' + 1 + 1)) (j' + 1 + 1) fuel d3 hd3 (Nat.le_refl _) (by unfold fuel; omega) (by omega) (by omega)]
     simp only [Option.bind_some]
     exact ih (j' + 1) m _ (Zuk _ _ _ hd3 (Nat.le_refl _)) (by omega) (by omega) (by omega) (by omega)
    ·rw [if_neg (by simp; omega),if_neg h4]
     simp only [Option.bind_some]
     exact ih (j' + 1) m _ hd3 (by omega) (by omega) (by omega) (by omega)
theorem Zms {n a b:Nat} (hB:n≤sB) (hb:b≤n) (hab:a<b) {d:Array Int} (hd:d.size=n) :
  Zap n d.toList (a:Int) (b:Int)=some ((Sort.partialInsertionSort Sort.ltInt d a b).2,(Sort.partialInsertionSort Sort.ltInt d a b).1.toList):=by
 unfold Zap Sort.partialInsertionSort
 have hB':=hB
 unfold sB at hB
 rw [wsuc (by omega)]
 obtain⟨o,e,ho⟩:=Zpf hB' hb hab 5 0 (a + 1) fuel d hd rfl (by unfold fuel; omega) (by omega) (by omega)
 rw [show ((0:Nat):Int)=0 from rfl] at e
 rw [e]
 rcases ho with ⟨rfl,h⟩ | rfl
 ·simp only [Option.bind_some,h]
 ·rfl
theorem Zqu {n a b s:Nat} {d:Array Int} (hd:d.size=n) (ha:a<n) (hb:b<n) (hs:s<1000):Zbo n d.toList (a:Int) (b:Int) (s:Int)=some (((Sort.order2 Sort.ltInt d a b s).1:Int),((Sort.order2 Sort.ltInt d a b s).2.1:Int),((Sort.order2 Sort.ltInt d a b s).2.2:Int)):=by
 unfold Zbo Sort.order2
 simp only [Z6 hd ha,Z6 hd hb,Option.bind_some,Zfu,wsuc (show s + 1<1000000000000 by omega)]
 split <;> rfl
theorem Zkw {n a b s:Nat} {d:Array Int} (ha:a<n) (hb:b<n):(Sort.order2 Sort.ltInt d a b s).1<n∧(Sort.order2 Sort.ltInt d a b s).2.1<n∧(Sort.order2 Sort.ltInt d a b s).2.2≤s + 1:=by
 unfold Sort.order2
 split
 ·exact⟨hb,ha,by simp⟩
 ·exact⟨ha,hb,by simp⟩
theorem Zqv {n a b c s:Nat} {d:Array Int} (hd:d.size=n) (ha:a<n) (hb:b<n) (hc:c<n) (hs:s<900):Zcb n d.toList (a:Int) (b:Int) (c:Int) (s:Int)=some (((Sort.median Sort.ltInt d a b c s).1:Int),((Sort.median Sort.ltInt d a b c s).2:Int)):=by
 unfold Zcb Sort.median
 obtain⟨g1,g2,g3⟩:=Zkw (s:=s) (d:=d) ha hb
 rw [Zqu hd ha hb (by omega)]
 simp only [Option.bind_some]
 obtain⟨h1,h2,h3⟩:=Zkw (s:=(Sort.order2 Sort.ltInt d a b s).2.2) (d:=d) g2 hc
 rw [Zqu hd g2 hc (by omega)]
 simp only [Option.bind_some]
 rw [Zqu hd g1 h1 (by omega)]
 rfl
theorem Zz7 {n a b c s:Nat} {d:Array Int} (ha:a<n) (hb:b<n) (hc:c<n):(Sort.median Sort.ltInt d a b c s).1<n∧(Sort.median Sort.ltInt d a b c s).2≤s + 3:=by
 unfold Sort.median
 obtain⟨g1,g2,g3⟩:=Zkw (s:=s) (d:=d) ha hb
 obtain⟨h1,h2,h3⟩:=Zkw (s:=(Sort.order2 Sort.ltInt d a b s).2.2) (d:=d) g2 hc
 obtain⟨k1,k2,k3⟩:=Zkw (s:=(Sort.order2 Sort.ltInt d (Sort.order2 Sort.ltInt d a b s).2.1 c (Sort.order2 Sort.ltInt d a b s).2.2).2.2) (d:=d) g1 h1
 exact⟨k2,Nat.le_trans k3 (by omega)⟩
theorem Zjp {n a s:Nat} (hB:n≤sB) {d:Array Int} (hd:d.size=n) (h0:0<a) (ha:a + 1<n) (hs:s<900):Zas n d.toList (a:Int) (s:Int)=some (((Sort.medianAdjacent Sort.ltInt d a s).1:Int),((Sort.medianAdjacent Sort.ltInt d a s).2:Int)):=by
 unfold sB at hB
 unfold Zas Sort.medianAdjacent
 obtain⟨a',rfl⟩:∃ a',a=a' + 1:=⟨a - 1,by omega⟩
 rw [wpred (by omega),wsuc (by omega),Zqv hd (by omega) (by omega) ha hs]
 rfl
theorem Zja {n a s:Nat} {d:Array Int} (ha:a + 1<n):(Sort.medianAdjacent Sort.ltInt d a s).1<n∧(Sort.medianAdjacent Sort.ltInt d a s).2≤s + 3:=by
 unfold Sort.medianAdjacent
 exact Zz7 (by omega) (by omega) ha
def hintN:Sort.Hint→Int
 | .unknown=>0
 | .increasing=>1
 | .decreasing=>2
theorem Zvg {n a b:Nat} (hB:n≤sB) (hab:a<b) (hb:b≤n) {d:Array Int} (hd:d.size=n) :
  Zca n d.toList (a:Int) (b:Int)=some (((Sort.choosePivot Sort.ltInt d a b).1:Int),hintN (Sort.choosePivot Sort.ltInt d a b).2):=by
 have hB':=hB
 unfold sB at hB
 unfold Zca
 have ew:IntKind.wrap .i64 ((b:Int) - (a:Int))=((b - a:Nat):Int):=wsub (by omega) (by omega)
 have eq4:IntKind.wrap .i64 (Int.tdiv ((b - a:Nat):Int) (4:Int))=(((b - a) / 4:Nat):Int):=by
  rw [Int.tdiv_eq_ediv_of_nonneg (by omega),wi64 (by omega) (by omega)]; omega
 have ep:∀ k:Nat,k≤3→IntKind.wrap .i64 ((a:Int) + IntKind.wrap .i64 ((((b - a) / 4:Nat):Int) * (k:Int)))=((a + (b - a) / 4 * k:Nat):Int):=fun k hk=>by
  have h1:(b - a) / 4 * k≤(b - a) / 4 * 3:=Nat.mul_le_mul_left _ hk
  have e2:(((b - a) / 4:Nat):Int) * (k:Int)=(((b - a) / 4 * k:Nat):Int):=by push_cast; rfl
  rw [e2,wi64 (x:=(((b - a) / 4 * k:Nat):Int)) (by omega) (by omega),wadd (by omega)]
 have e1:=ep 1 (by omega)
 have e2:=ep 2 (by omega)
 have e3:=ep 3 (by omega)
 rw [show ((1:Nat):Int)=1 from rfl] at e1
 rw [show ((2:Nat):Int)=2 from rfl] at e2
 rw [show ((3:Nat):Int)=3 from rfl] at e3
 rw [ew,eq4,e1,e2,e3]
 have fin:∀(r:Nat × Nat),(match ((r.2:Int),(r.1:Int)) with
   | (v24,v25)=>if (v24 == (0:Int))=true then some (v25,(1:Int)) else if (v24 == (12:Int))=true then some (v25,(2:Int)) else some (v25,(0:Int))) =
   some ((r.1:Int),hintN (if r.2=0 then .increasing else if r.2=12 then .decreasing else .unknown)):=fun r=>by
  simp only [beq_iff_eq]
  by_cases h0:r.2=0
  ·rw [if_pos (by omega),if_pos h0]; rfl
  ·rw [if_neg (by omega),if_neg h0]
   by_cases h1:r.2=12
   ·rw [if_pos (by omega),if_pos h1]; rfl
   ·rw [if_neg (by omega),if_neg h1]; rfl
 unfold Sort.choosePivot
 simp only
 by_cases h8:b - a ≥ 8
 ·rw [if_pos (decide_eq_true (show ((b - a:Nat):Int) ≥ 8 by omega)),if_pos h8]
  by_cases h50:b - a ≥ 50
  ·rw [if_pos (decide_eq_true (show ((b - a:Nat):Int) ≥ 50 by omega)),if_pos h50]
   have l1:a + (b - a) / 4 * 3 + 1<n:=by omega
   rw [show (0:Int)=((0:Nat):Int) from rfl]
   rw [Zjp hB' hd (by omega) (by omega) (by omega)]
   obtain⟨p1,p2⟩:=Zja (n:=n) (a:=a + (b - a) / 4 * 1) (s:=0) (d:=d) (by omega)
   simp only [Option.bind_some]
   rw [Zjp hB' hd (by omega) (by omega) (by omega)]
   obtain⟨q1,q2⟩:=Zja (n:=n) (a:=a + (b - a) / 4 * 2) (s:=(Sort.medianAdjacent Sort.ltInt d (a + (b - a) / 4 * 1) 0).2) (d:=d) (by omega)
   simp only [Option.bind_some]
   rw [Zjp hB' hd (by omega) (by omega) (by omega)]
   obtain⟨s1,s2⟩:=Zja (n:=n) (a:=a + (b - a) / 4 * 3) (s:=(Sort.medianAdjacent Sort.ltInt d (a + (b - a) / 4 * 2) (Sort.medianAdjacent Sort.ltInt d (a + (b - a) / 4 * 1) 0).2).2) (d:=d) (by omega)
   simp only [Option.bind_some]
   rw [Zqv hd p1 q1 s1 (by omega)]
   simp only [Option.bind_some]
   exact fin _
  ·rw [if_neg (by simp; omega),if_neg h50]
   rw [show (0:Int)=((0:Nat):Int) from rfl]
   simp only [Option.bind_some]
   rw [Zqv hd (by omega) (by omega) (by omega) (by omega)]
   simp only [Option.bind_some]
   exact fin _
 ·rw [if_neg (by simp; omega),if_neg h8]
  simp only [Option.bind_some]
  exact fin (a + (b - a) / 4 * 2,0)
end Go.AM
set_option maxRecDepth 100000
namespace Go.AM
open Go
theorem Znt {x:Nat} (h:256≤x):Sort.bitsLen x=Sort.bitsLen (x / 256) + 8:=by
 have h1:∀ m,Sort.bitsLen x≤m + 8 ↔ Sort.bitsLen (x / 256)≤m:=fun m=>by
  rw [Sort.bitsLen_le_iff,Sort.bitsLen_le_iff,Nat.pow_add]
  have:0<2 ^ m:=Nat.pow_pos (by omega)
  omega
 have h2:=(h1 (Sort.bitsLen (x / 256))).2 (Nat.le_refl _)
 have h3:¬ Sort.bitsLen x≤8:=by rw [Sort.bitsLen_le_iff]; omega
 have h4:=(h1 (Sort.bitsLen x - 8)).1 (by omega)
 omega
theorem Zs1 (x k:Nat) (hk:k≤64):bShr .u64 (x:Int) (k:Int)=((x / 2 ^ k:Nat):Int):=by
 unfold bShr
 rw [Int.toNat_natCast,show min k (IntKind.bits .u64)=k from Nat.min_eq_left hk,Int.fdiv_eq_ediv_of_nonneg _ (by exact Int.le_of_lt (by exact Int.pow_pos (by decide)))]
 push_cast; rfl
def len8:ByteArray:=⟨#[0,1,2,2,3,3,3,3,4,4,4,4,4,4,4,4,5,5,5,5,5,5,5,5,5,5,5,5,5,5,5,5,6,6,6,6,6,6,6,6,6,6,6,6,6,6,6,6,6,6,6,6,6,6,6,6,6,6,6,6,6,6,6,6,7,7,7,7,7,7,7,7,7,7,7,7,7,7,7,7,7,7,7,7,7,7,7,7,7,7,7,7,7,7,7,7,7,7,7,7,7,7,7,7,7,7,7,7,7,7,7,7,7,7,7,7,7,7,7,7,7,7,7,7,7,7,7,7,8,8,8,8,8,8,8,8,8,8,8,8,8,8,8,8,8,8,8,8,8,8,8,8,8,8,8,8,8,8,8,8,8,8,8,8,8,8,8,8,8,8,8,8,8,8,8,8,8,8,8,8,8,8,8,8,8,8,8,8,8,8,8,8,8,8,8,8,8,8,8,8,8,8,8,8,8,8,8,8,8,8,8,8,8,8,8,8,8,8,8,8,8,8,8,8,8,8,8,8,8,8,8,8,8,8,8,8,8,8,8,8,8,8,8,8,8,8,8,8,8,8,8,8,8,8,8,8]⟩
theorem Z1w:(List.range 256).map (fun i=>len8.data[i]?.map (·.toNat))=(List.range 256).map (fun i=>some (Sort.bitsLen i)):=by kernel_rfl
theorem Zvh {i:Nat} (h:i<256):sidx ⟨#[0,1,2,2,3,3,3,3,4,4,4,4,4,4,4,4,5,5,5,5,5,5,5,5,5,5,5,5,5,5,5,5,6,6,6,6,6,6,6,6,6,6,6,6,6,6,6,6,6,6,6,6,6,6,6,6,6,6,6,6,6,6,6,6,7,7,7,7,7,7,7,7,7,7,7,7,7,7,7,7,7,7,7,7,7,7,7,7,7,7,7,7,7,7,7,7,7,7,7,7,7,7,7,7,7,7,7,7,7,7,7,7,7,7,7,7,7,7,7,7,7,7,7,7,7,7,7,7,8,8,8,8,8,8,8,8,8,8,8,8,8,8,8,8,8,8,8,8,8,8,8,8,8,8,8,8,8,8,8,8,8,8,8,8,8,8,8,8,8,8,8,8,8,8,8,8,8,8,8,8,8,8,8,8,8,8,8,8,8,8,8,8,8,8,8,8,8,8,8,8,8,8,8,8,8,8,8,8,8,8,8,8,8,8,8,8,8,8,8,8,8,8,8,8,8,8,8,8,8,8,8,8,8,8,8,8,8,8,8,8,8,8,8,8,8,8,8,8,8,8,8,8,8,8,8,8]⟩ (i:Int)=some ((Sort.bitsLen i:Nat):Int):=by
 have h1:len8.data[i]?.map (·.toNat)=some (Sort.bitsLen i):=List.map_inj_left.1 Z1w i (List.mem_range.2 h)
 have hs:len8.size=256:=by kernel_rfl
 have h2:i<len8.data.size:=by show i<len8.size; omega
 rw [Array.getElem?_eq_getElem h2] at h1
 simp only [Option.map_some,Option.some.injEq] at h1
 show sidx len8 (i:Int)=_
 unfold sidx
 rw [dif_pos ⟨by omega,by omega⟩,← h1]
 rfl
theorem Len_eq {x:Nat} (h:x<16777216):Zgm (x:Int)=some ((Sort.bitsLen x:Nat):Int):=by
 have w8:∀ y:Nat,y<256→IntKind.wrap .u8 (y:Int)=(y:Int):=fun y hy=>by rw [wrap_u .u8 8 rfl rfl]; omega
 have hb:∀ y:Nat,y<256→Sort.bitsLen y≤8:=fun y hy=>(Sort.bitsLen_le_iff y 8).2 (by omega)
 unfold Zgm Zh8
 rw [if_neg (by simp; omega)]
 simp only [Option.bind_some]
 have e16:bShr .u64 (x:Int) (16:Int)=((x / 65536:Nat):Int):=Zs1 x 16 (by omega)
 have e8:bShr .u64 (x:Int) (8:Int)=((x / 256:Nat):Int):=Zs1 x 8 (by omega)
 by_cases h1:x<65536
 ·rw [if_neg (show ¬ (decide ((x:Int) ≥ 65536))=true by simp; omega)]
  simp only [Option.bind_some]
  by_cases h2:x<256
  ·rw [if_neg (show ¬ (decide ((x:Int) ≥ 256))=true by simp; omega)]
   simp only [Option.bind_some]
   rw [w8 x h2,Zvh h2]
   have:=hb x h2
   simp only [Option.bind_some]
   rw [wi64 (x:=((Sort.bitsLen x:Nat):Int)) (by omega) (by omega),wi64 (by omega) (by omega),Int.zero_add]
  ·rw [if_pos (decide_eq_true (show (x:Int) ≥ 256 by omega)),e8]
   simp only [Option.bind_some]
   have h3:x / 256<256:=by omega
   rw [w8 _ h3,Zvh h3,Znt (show 256≤x by omega)]
   have:=hb _ h3
   simp only [Option.bind_some]
   rw [wi64 (x:=((Sort.bitsLen (x / 256):Nat):Int)) (by omega) (by omega),wi64 (x:=(0:Int) + 8) (by omega) (by omega),wi64 (by omega) (by omega)]
   congr 1; omega
 ·rw [if_pos (decide_eq_true (show (x:Int) ≥ 65536 by omega)),e16]
  simp only [Option.bind_some]
  have h3:x / 65536<256:=by omega
  rw [if_neg (show ¬ (decide (((x / 65536:Nat):Int) ≥ 256))=true by simp; omega)]
  simp only [Option.bind_some]
  rw [w8 _ h3,Zvh h3,Znt (show 256≤x by omega),Znt (show 256≤x / 256 by omega),Nat.div_div_eq_div_mul]
  have:=hb _ h3
  simp only [Option.bind_some]
  rw [wi64 (x:=((Sort.bitsLen (x / 65536):Nat):Int)) (by omega) (by omega),wi64 (x:=(0:Int) + 16) (by omega) (by omega),wi64 (by omega) (by omega)]
  congr 1
  show _=((Sort.bitsLen (x / 65536) + 8 + 8:Nat):Int)
  omega
theorem Zs2 {x y:Nat} (hx:x<2 ^ 64) (hy:y<2 ^ 64):bXor .u64 (x:Int) (y:Int)=((x ^^^ y:Nat):Int):=by
 have h:=Nat.xor_lt_two_pow hx hy
 unfold bXor
 have e:(BitVec.ofInt (IntKind.bits .u64) (x:Int) ^^^ BitVec.ofInt (IntKind.bits .u64) (y:Int)).toNat=x ^^^ y:=by
  rw [BitVec.ofInt_natCast,BitVec.ofInt_natCast]
  show (BitVec.ofNat 64 x ^^^ BitVec.ofNat 64 y).toNat=_
  rw [BitVec.toNat_xor,BitVec.toNat_ofNat,BitVec.toNat_ofNat,Nat.mod_eq_of_lt hx,Nat.mod_eq_of_lt hy]
 rw [e,wu64 (by omega) (by omega)]
theorem Z1x {x y:Nat} (hx:x<2 ^ 64) (hy:y<2 ^ 64):bAnd .u64 (x:Int) (y:Int)=((x &&& y:Nat):Int):=by
 have h:x &&& y<2 ^ 64:=Nat.and_lt_two_pow x hy
 unfold bAnd
 have e:(BitVec.ofInt (IntKind.bits .u64) (x:Int) &&& BitVec.ofInt (IntKind.bits .u64) (y:Int)).toNat=x &&& y:=by
  rw [BitVec.ofInt_natCast,BitVec.ofInt_natCast]
  show (BitVec.ofNat 64 x &&& BitVec.ofNat 64 y).toNat=_
  rw [BitVec.toNat_and,BitVec.toNat_ofNat,BitVec.toNat_ofNat,Nat.mod_eq_of_lt hx,Nat.mod_eq_of_lt hy]
 rw [e,wu64 (by omega) (by omega)]
theorem Zxv (x k:Nat) (hk:k≤64):bShl .u64 (x:Int) (k:Int)=((x * 2 ^ k % 2 ^ 64:Nat):Int):=by
 unfold bShl
 rw [Int.toNat_natCast,show min k (IntKind.bits .u64)=k from Nat.min_eq_left hk,wrap_u .u64 64 rfl rfl]
 rw [Int.natCast_emod,Int.natCast_mul,Int.natCast_pow,Int.natCast_pow]; rfl
theorem Z0w {x:Nat} (hx:x<2 ^ 64):Zex (x:Int)=some (((Sort.xorNextN x:Nat):Int),((Sort.xorNextN x:Nat):Int)):=by
 unfold Zex
 have a1:bShl .u64 (x:Int) (13:Int)=((x * 8192 % 18446744073709551616:Nat):Int):=Zxv x 13 (by omega)
 have l1:x * 8192 % 18446744073709551616<2 ^ 64:=by omega
 rw [a1,Zs2 hx l1]
 obtain⟨a,ha⟩:∃ a,a=x ^^^ (x * 8192 % 18446744073709551616):=⟨_,rfl⟩
 have l2:a<2 ^ 64:=by rw [ha]; exact Nat.xor_lt_two_pow hx l1
 rw [← ha]
 have a2:bShr .u64 (a:Int) (7:Int)=((a / 128:Nat):Int):=Zs1 a 7 (by omega)
 have l3:a / 128<2 ^ 64:=by omega
 rw [a2,Zs2 l2 l3]
 obtain⟨b,hb⟩:∃ b,b=a ^^^ (a / 128):=⟨_,rfl⟩
 have l4:b<2 ^ 64:=by rw [hb]; exact Nat.xor_lt_two_pow l2 l3
 rw [← hb]
 have a3:bShl .u64 (b:Int) (17:Int)=((b * 131072 % 18446744073709551616:Nat):Int):=Zxv b 17 (by omega)
 rw [a3,Zs2 l4 (by omega)]
 have e:Sort.xorNextN x=b ^^^ (b * 131072 % 18446744073709551616):=by rw [hb,ha]; rfl
 rw [e]
theorem Z1y {a l m idx:Nat} {st:UInt64 × Array Int} {n:Nat} (h:st.2.size=n):(Sort.breakStep a l m st idx).2.size=n:=by
 unfold Sort.breakStep; simp only; rw [swp_sz,h]
theorem Z0x {n a b:Nat} (hB:n≤sB) (hb:b≤n) (h8:b - a ≥ 8) {m idx:Nat} {st:UInt64 × Array Int} (hd:st.2.size=n) (h1:a≤idx) (h2:idx<b) (hc:idx≤a + (b - a) / 4 * 2 + 1) :
  Zy n (a:Int) (b:Int) ((1 <<< Sort.bitsLen (b - a):Nat):Int) (m + 1) st.2.toList ((st.1.toNat:Nat):Int) (idx:Int) =
  Zy n (a:Int) (b:Int) ((1 <<< Sort.bitsLen (b - a):Nat):Int) m (Sort.breakStep a (b - a) (1 <<< Sort.bitsLen (b - a)) st idx).2.toList (((Sort.breakStep a (b - a) (1 <<< Sort.bitsLen (b - a)) st idx).1.toNat:Nat):Int) ((idx + 1:Nat):Int):=by
 have hB':=hB
 unfold sB at hB
 obtain⟨r,d⟩:=st
 simp only at hd ⊢
 have hp:2 ^ Sort.bitsLen (b - a)≤2 * (b - a):=Sort.two_pow_bitsLen_le (by omega)
 have hp0:0<2 ^ Sort.bitsLen (b - a):=Nat.pow_pos (by omega)
 rw [Zy]
 have ew:IntKind.wrap .i64 ((b:Int) - (a:Int))=((b - a:Nat):Int):=wsub (by omega) (by omega)
 have eq4:IntKind.wrap .i64 (Int.tdiv ((b - a:Nat):Int) (4:Int))=(((b - a) / 4:Nat):Int):=by
  rw [Int.tdiv_eq_ediv_of_nonneg (by omega),wi64 (by omega) (by omega)]; omega
 have e5:IntKind.wrap .i64 (IntKind.wrap .i64 ((a:Int) + IntKind.wrap .i64 ((((b - a) / 4:Nat):Int) * (2:Int))) + 1)=((a + (b - a) / 4 * 2 + 1:Nat):Int):=by
  rw [wi64 (x:=(((b - a) / 4:Nat):Int) * 2) (by omega) (by omega),wi64 (x:=(a:Int) + (((b - a) / 4:Nat):Int) * 2) (by omega) (by omega),wi64 (by omega) (by omega)]; omega
 rw [ew,eq4,e5,if_pos (decide_eq_true (by omega)),Z0w (UInt64.toNat_lt r)]
 simp only [Option.bind_some]
 have hx:=Sort.xorNext_toNat r
 have hxl:=Sort.xorNextN_lt r.toNat (UInt64.toNat_lt r)
 unfold Sort.breakStep
 simp only
 rw [hx]
 rw [Nat.shiftLeft_eq,Nat.one_mul] at *
 generalize Sort.xorNextN r.toNat=x at hxl ⊢
 have em:IntKind.wrap .u64 (((2 ^ Sort.bitsLen (b - a):Nat):Int) - 1)=((2 ^ Sort.bitsLen (b - a) - 1:Nat):Int):=by
  rw [wu64 (by omega) (by omega)]; omega
 rw [em,Z1x hxl (by omega)]
 have ha:x &&& (2 ^ Sort.bitsLen (b - a) - 1)≤2 ^ Sort.bitsLen (b - a) - 1:=Nat.and_le_right
 generalize x &&& (2 ^ Sort.bitsLen (b - a) - 1)=o at ha ⊢
 rw [wi64 (x:=(o:Int)) (by omega) (by omega)]
 have eo:(if (decide ((o:Int) ≥ ((b - a:Nat):Int)))=true then some (IntKind.wrap .i64 ((o:Int) - ((b - a:Nat):Int))) else some (o:Int))=some ((if o ≥ b - a then o - (b - a) else o:Nat):Int):=by
  by_cases h:o ≥ b - a
  ·rw [if_pos (decide_eq_true (by omega)),if_pos h,wsub (by omega) h]
  ·rw [if_neg (by simp; omega),if_neg h]
 rw [eo]
 have ho:(if o ≥ b - a then o - (b - a) else o)<b - a:=by split <;> omega
 generalize (if o ≥ b - a then o - (b - a) else o)=q at ho ⊢
 simp only [Option.bind_some]
 rw [wadd (by omega)]
 obtain⟨y,hy⟩:=Ze4 (i:=idx) (x:=d[a + q]!) hd (show a + q<n by omega)
 simp only [Z6 hd (show a + q<n by omega),Z6 hd (show idx<n by omega),Option.bind_some,Int.toNat_natCast,hy,Zfe]
 rw [wsuc (by omega)]
theorem Z0y {n a b:Nat} (hB:n≤sB) (hb:b≤n) (h8:b - a ≥ 8) {m idx:Nat} {st:UInt64 × Array Int} (hd:st.2.size=n) (hi:idx + 1=a + (b - a) / 4 * 2) (g:Nat→UInt64 × Array Int→UInt64 × Array Int) (hg:g=fun i s=>Sort.breakStep a (b - a) (1 <<< Sort.bitsLen (b - a)) s i) :
  ∃ z,Zy n (a:Int) (b:Int) ((1 <<< Sort.bitsLen (b - a):Nat):Int) (m + 1 + 1 + 1 + 1) st.2.toList ((st.1.toNat:Nat):Int) (idx:Int)=some ((g (idx + 2) (g (idx + 1) (g idx st))).2.toList,z):=by
 have hB':=hB
 unfold sB at hB
 have z:∀ i s,s.2.size=n→(g i s).2.size=n:=fun i s h=>by rw [hg]; exact Z1y h
 have st1:∀ m i s,s.2.size=n→a≤i→i<b→i≤a + (b - a) / 4 * 2 + 1→Zy n (a:Int) (b:Int) ((1 <<< Sort.bitsLen (b - a):Nat):Int) (m + 1) s.2.toList ((s.1.toNat:Nat):Int) (i:Int)=Zy n (a:Int) (b:Int) ((1 <<< Sort.bitsLen (b - a):Nat):Int) m (g i s).2.toList (((g i s).1.toNat:Nat):Int) ((i + 1:Nat):Int):=fun m i s h h1 h2 hc=>by
  rw [hg]; exact Z0x hB' hb h8 h h1 h2 hc
 rw [st1 _ _ _ hd (by omega) (by omega) (by omega),st1 _ _ _ (z _ _ hd) (by omega) (by omega) (by omega),st1 _ _ _ (z _ _ (z _ _ hd)) (by omega) (by omega) (by omega)]
 rw [Zy]
 have ew:IntKind.wrap .i64 ((b:Int) - (a:Int))=((b - a:Nat):Int):=wsub (by omega) (by omega)
 have eq4:IntKind.wrap .i64 (Int.tdiv ((b - a:Nat):Int) (4:Int))=(((b - a) / 4:Nat):Int):=by
  rw [Int.tdiv_eq_ediv_of_nonneg (by omega),wi64 (by omega) (by omega)]; omega
 have e6:IntKind.wrap .i64 (IntKind.wrap .i64 ((a:Int) + IntKind.wrap .i64 ((((b - a) / 4:Nat):Int) * (2:Int))) + 1)=((a + (b - a) / 4 * 2 + 1:Nat):Int):=by
  rw [wi64 (x:=(((b - a) / 4:Nat):Int) * 2) (by omega) (by omega),wi64 (x:=(a:Int) + (((b - a) / 4:Nat):Int) * 2) (by omega) (by omega),wi64 (by omega) (by omega)]; omega
 rw [ew,eq4,e6,if_neg (by simp; omega)]
 exact⟨_,rfl⟩
theorem Zs3 {n a b:Nat} (hB:n≤1000000) (hb:b≤n) (hab:a≤b) {d:Array Int} (hd:d.size=n) :
  Zbb n d.toList (a:Int) (b:Int)=some (Sort.breakPatterns d a b).toList:=by
 have hB':n≤sB:=by unfold sB; omega
 unfold Zbb Sort.breakPatterns
 have ew:IntKind.wrap .i64 ((b:Int) - (a:Int))=((b - a:Nat):Int):=wsub (by omega) (by omega)
 rw [ew]
 simp only
 by_cases h8:b - a ≥ 8
 ·rw [if_pos (decide_eq_true (show ((b - a:Nat):Int) ≥ 8 by omega)),if_pos h8]
  unfold Zfy
  rw [wu64 (x:=((b - a:Nat):Int)) (by omega) (by omega),Len_eq (by omega)]
  simp only [Option.bind_some]
  have hp:2 ^ Sort.bitsLen (b - a)≤2 * (b - a):=Sort.two_pow_bitsLen_le (by omega)
  have hl:Sort.bitsLen (b - a)<64:=by
   have:=(Sort.bitsLen_le_iff (b - a) 63).2 (by omega)
   omega
  rw [if_pos (by omega),Z1q hl]
  simp only [Option.bind_some]
  have es:((2 ^ Sort.bitsLen (b - a):Nat):Int)=((1 <<< Sort.bitsLen (b - a):Nat):Int):=by rw [Nat.shiftLeft_eq,Nat.one_mul]
  have eq4:IntKind.wrap .i64 (Int.tdiv ((b - a:Nat):Int) (4:Int))=(((b - a) / 4:Nat):Int):=by
   rw [Int.tdiv_eq_ediv_of_nonneg (by omega),wi64 (by omega) (by omega)]; omega
  have e5:IntKind.wrap .i64 (IntKind.wrap .i64 ((a:Int) + IntKind.wrap .i64 ((((b - a) / 4:Nat):Int) * (2:Int))) - 1)=((a + (b - a) / 4 * 2 - 1:Nat):Int):=by
   rw [wi64 (x:=(((b - a) / 4:Nat):Int) * 2) (by omega) (by omega),wi64 (x:=(a:Int) + (((b - a) / 4:Nat):Int) * 2) (by omega) (by omega),wi64 (by omega) (by omega)]; omega
  have eu:((b - a:Nat):Int)=(((UInt64.ofNat (b - a)).toNat:Nat):Int):=by
   rw [UInt64.toNat_ofNat_of_lt' (by show b - a<18446744073709551616; omega)]
  rw [es,eq4,e5]
  have hf:fuel=1180591620717411303420 + 1 + 1 + 1 + 1:=by kernel_rfl
  obtain⟨z,hz⟩:=Z0y (m:=1180591620717411303420) (idx:=a + (b - a) / 4 * 2 - 1) (st:=(UInt64.ofNat (b - a),d)) hB' hb h8 hd (by omega) _ rfl
  rw [← hf] at hz
  simp only at hz
  rw [eu,hz]
  simp only [Option.bind_some]
 ·rw [if_neg (by simp; omega),if_neg h8]
end Go.AM
set_option maxRecDepth 100000
namespace Go.AM
open Go
theorem swo_lt:Sort.SWO Sort.ltInt:=Sort.swo_ltInt
theorem Z26 {n a b:Nat} (hab:a≤b) (hb:b≤n) {d:Array Int} (hd:d.size=n):(Sort.insertionSort Sort.ltInt d a b).size=n:=by
 rw [(Sort.insertionSort_holds swo_lt d a b hab (by omega)).1.1,hd]
theorem brk_sz {n a b:Nat} (hab:a≤b) (hb:b≤n) {d:Array Int} (hd:d.size=n):(Sort.breakPatterns d a b).size=n:=by
 rw [(Sort.breakPatterns_holds d a b hab (by omega)).1,hd]
theorem rev_sz {n a b:Nat} (hab:a≤b) (hb:b≤n) {d:Array Int} (hd:d.size=n):(Sort.reverseRange d a b).size=n:=by
 rw [(Sort.reverseRange_holds d a b hab (by omega)).1,hd]
theorem Zvi {n a b:Nat}:∀(s i:Nat) (d:Array Int),d.size=n→(Sort.partialIns Sort.ltInt a b s i d).1.size=n
 | 0,_,d,hd=>hd
 | s + 1,i,d,hd=>by
  rw [Sort.partialIns]
  simp only
  split
  ·exact hd
  ·split
   ·exact hd
   ·refine Zvi s _ _ ?_
    split
    ·refine Zuk _ _ _ ?_ (Nat.le_refl _)
     split
     ·exact Zkv _ _ (by rw [swp_sz,hd])
     ·rw [swp_sz,hd]
    ·split
     ·exact Zkv _ _ (by rw [swp_sz,hd])
     ·rw [swp_sz,hd]
theorem Zxw {n a b p:Nat} (hp0:a≤p) (hp:p<b) (hb:b≤n) {d:Array Int} (hd:d.size=n) :
  a≤(Sort.partition Sort.ltInt d a b p).1∧(Sort.partition Sort.ltInt d a b p).1<b∧(Sort.partition Sort.ltInt d a b p).2.2.size=n:=by
 obtain⟨h1,h2,h3,_⟩:=Sort.partition_holds Sort.ltInt swo_lt d a b p hp0 hp (by omega)
 exact⟨h1,h2,by rw [h3.1,hd]⟩
theorem Zul {n a b p:Nat} (hp0:a≤p) (hp:p<b) (hb:b≤n) {d:Array Int} (hd:d.size=n) :
  a<(Sort.partitionEqual Sort.ltInt d a b p).1∧(Sort.partitionEqual Sort.ltInt d a b p).1≤b∧(Sort.partitionEqual Sort.ltInt d a b p).2.size=n:=by
 unfold Sort.partitionEqual
 obtain⟨r1,r2,r3,_⟩:=Sort.partEqLoop_spec Sort.ltInt a b _ (a + 1) (b - 1) (Sort.swp d a p) (Nat.le_refl _) (Nat.lt_succ_self a) (by omega) (by omega) (by rw [swp_sz]; omega) (fun t h1 h2=>by omega) (fun t h1 h2=>by omega)
 exact⟨r1,r2,by rw [r3.1,swp_sz,hd]⟩
theorem pdq_sz {n:Nat}:∀(k:Nat) (d:Array Int) (a b limit:Nat) (wb wp:Bool),b - a≤k→d.size=n→a≤b→b≤n→(Sort.pdq Sort.ltInt d a b limit wb wp).size=n:=by
 intro k
 induction k using Nat.strongRecOn with
 | _ k ih=>
 intro d a b limit wb wp hk hd hab hb
 rw [Sort.pdq]
 split
 ·exact Z26 hab hb hd
 ·rename_i h12
  split
  ·rw [(Sort.heapSort_holds swo_lt d a b hab (by omega)).1.1,hd]
  ·simp only
   have s1:(if (!wb)=true then Sort.breakPatterns d a b else d).size=n:=by
    split
    ·exact brk_sz hab hb hd
    ·exact hd
   generalize (if (!wb)=true then Sort.breakPatterns d a b else d)=d1 at s1 ⊢
   have hc:=Sort.choosePivot_holds Sort.ltInt d1 a b (by omega)
   generalize Sort.choosePivot Sort.ltInt d1 a b=c at hc ⊢
   have s2:(if c.2=.decreasing then Sort.reverseRange d1 a b else d1).size=n:=by
    split
    ·exact rev_sz hab hb s1
    ·exact s1
   generalize (if c.2=.decreasing then Sort.reverseRange d1 a b else d1)=d2 at s2 ⊢
   have hp:a≤(if c.2=.decreasing then (b - 1) - (c.1 - a) else c.1)∧(if c.2=.decreasing then (b - 1) - (c.1 - a) else c.1)<b:=by split <;> omega
   generalize (if c.2=.decreasing then (b - 1) - (c.1 - a) else c.1)=p at hp ⊢
   generalize (if c.2=.decreasing then Sort.Hint.increasing else c.2)=hint
   have s3:(if (wb && wp && decide (hint=.increasing))=true then Sort.partialInsertionSort Sort.ltInt d2 a b else (d2,false)).1.size=n:=by
    split
    ·exact Zvi _ _ _ s2
    ·exact s2
   generalize (if (wb && wp && decide (hint=.increasing))=true then Sort.partialInsertionSort Sort.ltInt d2 a b else (d2,false))=pi at s3 ⊢
   split
   ·exact s3
   ·split
    ·obtain⟨h1,h2,h3⟩:=Zul hp.1 hp.2 hb s3
     rw [dif_pos ⟨h1,h2⟩]
     exact ih _ (by omega) _ _ _ _ _ _ (Nat.le_refl _) h3 h2 hb
    ·obtain⟨h1,h2,h3⟩:=Zxw hp.1 hp.2 hb s3
     rw [dif_pos ⟨h1,h2⟩]
     split
     ·exact ih _ (by omega) _ _ _ _ _ _ (Nat.le_refl _) (ih _ (by omega) _ _ _ _ _ _ (Nat.le_refl _) h3 h1 (by omega)) h2 hb
     ·exact ih _ (by omega) _ _ _ _ _ _ (Nat.le_refl _) (ih _ (by omega) _ _ _ _ _ _ (Nat.le_refl _) h3 h2 hb) h1 (by omega)
theorem Z1z (h:Sort.Hint):(hintN h == (2:Int))=decide (h=.decreasing):=by cases h <;> rfl
theorem Z10 (h:Sort.Hint):(hintN h == (1:Int))=decide (h=.increasing):=by cases h <;> rfl
theorem pdq_eq {n:Nat} (hB:n≤1000000):∀(k:Nat) (nr m:Nat) (d:Array Int) (a b limit:Nat) (wb wp:Bool),b - a≤k→k≤nr→k<m→d.size=n→a≤b→b≤n→limit<1000 →
  Zar n (Z4 nr) m d.toList (a:Int) (b:Int) (limit:Int) wb wp=some (Sort.pdq Sort.ltInt d a b limit wb wp).toList:=by
 have hB':n≤sB:=by unfold sB; omega
 intro k
 induction k using Nat.strongRecOn with
 | _ k ih=>
 intro nr m d a b limit wb wp hk hnr hm hd hab hb hlim
 cases m with
 | zero=>omega
 | succ m=>
 rw [Zar,Sort.pdq]
 have ew:IntKind.wrap .i64 ((b:Int) - (a:Int))=((b - a:Nat):Int):=wsub (by omega) hab
 rw [ew]
 by_cases h12:b - a≤12
 ·rw [if_pos (decide_eq_true (by omega)),if_pos h12,Zs0 hB' hb hab hd]; rfl
 ·rw [if_neg (by simp; omega),if_neg h12]
  by_cases hl:limit=0
  ·rw [if_pos (by simp [hl]),if_pos hl,Zyv hB' (by omega) hb hd]; rfl
  ·rw [if_neg (by simp [hl]),if_neg hl]
   have e1:(if (!wb)=true then (Zbb n d.toList (a:Int) (b:Int)).bind fun(r168:(List Int))=>some (r168,(IntKind.wrap .i64 ((limit:Int) - (1:Int)))) else some (d.toList,(limit:Int)))=some ((if (!wb)=true then Sort.breakPatterns d a b else d).toList,((if (!wb)=true then limit - 1 else limit:Nat):Int)):=by
    cases wb with
    | true=>rfl
    | false=>
     simp only [Bool.not_false,if_true]
     rw [Zs3 hB hb hab hd,wi64 (by omega) (by omega)]
     simp only [Option.bind_some]
     congr 2; omega
   rw [e1]
   have s1:(if (!wb)=true then Sort.breakPatterns d a b else d).size=n:=by
    split
    ·exact brk_sz hab hb hd
    ·exact hd
   have hlim':(if (!wb)=true then limit - 1 else limit)<1000:=by split <;> omega
   simp only [Option.bind_some]
   generalize (if (!wb)=true then Sort.breakPatterns d a b else d)=d1 at s1 ⊢
   generalize (if (!wb)=true then limit - 1 else limit)=limit' at hlim' ⊢
   rw [Zvg hB' (by omega) hb s1]
   simp only [Option.bind_some,Z1z]
   have hc:=Sort.choosePivot_holds Sort.ltInt d1 a b (by omega)
   generalize Sort.choosePivot Sort.ltInt d1 a b=c at hc ⊢
   obtain⟨c1,c2⟩:=c
   simp only at hc ⊢
   have e2:(if decide (c2=Sort.Hint.decreasing)=true then (Zbf n d1.toList (a:Int) (b:Int)).bind fun(r181:(List Int))=>some (r181,(IntKind.wrap .i64 ((IntKind.wrap .i64 ((b:Int) - (1:Int))) - (IntKind.wrap .i64 ((c1:Int) - (a:Int))))),(1:Int)) else some (d1.toList,(c1:Int),hintN c2)) =
     some ((if c2=.decreasing then Sort.reverseRange d1 a b else d1).toList,((if c2=.decreasing then (b - 1) - (c1 - a) else c1:Nat):Int),hintN (if c2=.decreasing then Sort.Hint.increasing else c2)):=by
    by_cases h:c2=.decreasing
    ·rw [if_pos (decide_eq_true h),if_pos h,if_pos h,if_pos h,Zuj hB' (by omega) hb s1]
     have g1:IntKind.wrap .i64 ((b:Int) - 1)=((b - 1:Nat):Int):=by rw [wi64 (by omega) (by omega)]; omega
     rw [g1,wsub (i:=c1) (j:=a) (by omega) (by omega),wsub (i:=b - 1) (j:=c1 - a) (by omega) (by omega)]
     rfl
    ·rw [if_neg (by simpa using h),if_neg h,if_neg h,if_neg h]
   rw [e2]
   have s2:(if c2=.decreasing then Sort.reverseRange d1 a b else d1).size=n:=by
    split
    ·exact rev_sz hab hb s1
    ·exact s1
   have hp:a≤(if c2=.decreasing then (b - 1) - (c1 - a) else c1)∧(if c2=.decreasing then (b - 1) - (c1 - a) else c1)<b:=by split <;> omega
   simp only [Option.bind_some,Z10]
   generalize (if c2=.decreasing then Sort.reverseRange d1 a b else d1)=d2 at s2 ⊢
   generalize (if c2=.decreasing then (b - 1) - (c1 - a) else c1)=p at hp ⊢
   generalize (if c2=.decreasing then Sort.Hint.increasing else c2)=hint
   have e3:(if (wb && wp && decide (hint=Sort.Hint.increasing))=true then (Zap n d2.toList (a:Int) (b:Int)).bind fun(r199:(Bool × (List Int)))=>if r199.1=true then some (Sum.inr r199.2) else some (Sum.inl r199.2) else some (Sum.inl d2.toList)) =
     some (if (if (wb && wp && decide (hint=.increasing))=true then Sort.partialInsertionSort Sort.ltInt d2 a b else (d2,false)).2=true then Sum.inr (if (wb && wp && decide (hint=.increasing))=true then Sort.partialInsertionSort Sort.ltInt d2 a b else (d2,false)).1.toList else (Sum.inl (if (wb && wp && decide (hint=.increasing))=true then Sort.partialInsertionSort Sort.ltInt d2 a b else (d2,false)).1.toList:List Int ⊕ List Int)):=by
    by_cases h:(wb && wp && decide (hint=.increasing))=true
    ·rw [if_pos h,if_pos h,Zms hB' hb (by omega) s2]
     simp only [Option.bind_some]
     split <;> rfl
    ·rw [if_neg h,if_neg h]; rfl
   rw [e3]
   have s3:(if (wb && wp && decide (hint=.increasing))=true then Sort.partialInsertionSort Sort.ltInt d2 a b else (d2,false)).1.size=n:=by
    split
    ·exact Zvi _ _ _ s2
    ·exact s2
   simp only [Option.bind_some]
   generalize (if (wb && wp && decide (hint=.increasing))=true then Sort.partialInsertionSort Sort.ltInt d2 a b else (d2,false))=pi at s3 ⊢
   obtain⟨d3,pf⟩:=pi
   simp only at s3 ⊢
   cases pf with
   | true=>rfl
   | false=>
    simp only [Bool.false_eq_true,if_false]
    have e4:((if (decide ((a:Int) > (0:Int)))=true then (idxn n d3.toList (IntKind.wrap .i64 ((a:Int) - (1:Int)))).bind fun(x205:Int)=>(idxn n d3.toList (p:Int)).bind fun(x207:Int)=>(Zae x205 x207).bind fun(r209:Bool)=>some (!r209) else some false)) =
      some (decide (a > 0) && !Sort.ltInt d3[a - 1]! d3[p]!):=by
     cases a with
     | zero=>rfl
     | succ a=>
      rw [if_pos (decide_eq_true (by omega)),wpred (by omega),Z6 s3 (by omega),Z6 s3 (by omega)]
      simp only [Option.bind_some,Zfu,Nat.add_sub_cancel,show a + 1 > 0 from Nat.succ_pos a,decide_true,Bool.true_and]
    rw [e4]
    simp only [Option.bind_some]
    by_cases h:(decide (a > 0) && !Sort.ltInt d3[a - 1]! d3[p]!)=true
    ·rw [if_pos h,if_pos h,Zru hB' hb hp.1 hp.2 s3]
     obtain⟨h1,h2,h3⟩:=Zul hp.1 hp.2 hb s3
     generalize Sort.partitionEqual Sort.ltInt d3 a b p=r at h1 h2 h3 ⊢
     obtain⟨mid,d4⟩:=r
     simp only [Option.bind_some] at h1 h2 h3 ⊢
     rw [dif_pos ⟨h1,h2⟩]
     exact ih (b - mid) (by omega) nr m d4 mid b limit' wb wp (Nat.le_refl _) (by omega) (by omega) h3 h2 hb hlim'
    ·rw [if_neg h,if_neg h,Zxu hB' hb hp.1 hp.2 s3]
     obtain⟨h1,h2,h3⟩:=Zxw hp.1 hp.2 hb s3
     generalize Sort.partition Sort.ltInt d3 a b p=r at h1 h2 h3 ⊢
     obtain⟨mid,ap,d4⟩:=r
     simp only [Option.bind_some] at h1 h2 h3 ⊢
     rw [dif_pos ⟨h1,h2⟩,wsub (i:=mid) (j:=a) (by omega) h1,wsub (i:=b) (j:=mid) (by omega) (by omega),wsuc (by omega)]
     have e8:IntKind.wrap .i64 (Int.tdiv ((b - a:Nat):Int) (8:Int))=(((b - a) / 8:Nat):Int):=by
      rw [Int.tdiv_eq_ediv_of_nonneg (by omega),wi64 (by omega) (by omega)]; omega
     rw [e8]
     obtain⟨nr',rfl⟩:∃ nr',nr=nr' + 1:=⟨nr - 1,by omega⟩
     have sub:∀(d:Array Int) (x y:Nat),d.size=n→x≤y→y≤n→y - x<k→Z4 (nr' + 1) n d.toList (x:Int) (y:Int) (limit':Int)=some (Sort.pdq Sort.ltInt d x y limit' true true).toList:=fun d x y hz hxy hy hlt=>by
      rw [Z4,ih (y - x) hlt nr' fuel d x y limit' true true (Nat.le_refl _) (by omega) (by unfold fuel; omega) hz hxy hy hlim']
      rfl
     by_cases h4:mid - a<b - mid
     ·rw [if_pos (decide_eq_true (by omega)),if_pos h4,sub d4 a mid h3 h1 (by omega) (by omega)]
      simp only [Option.bind_some]
      rw [show decide (((mid - a:Nat):Int) ≥ (((b - a) / 8:Nat):Int))=decide (mid - a ≥ (b - a) / 8) from decide_eq_decide.2 (by omega)]
      exact ih (b - (mid + 1)) (by omega) _ m _ (mid + 1) b limit' _ ap (Nat.le_refl _) (by omega) (by omega) (pdq_sz _ _ _ _ _ _ _ (Nat.le_refl _) h3 h1 (by omega)) h2 hb hlim'
     ·rw [if_neg (by simp; omega),if_neg h4,sub d4 (mid + 1) b h3 h2 hb (by omega)]
      simp only [Option.bind_some]
      rw [show decide (((b - mid:Nat):Int) ≥ (((b - a) / 8:Nat):Int))=decide (b - mid ≥ (b - a) / 8) from decide_eq_decide.2 (by omega)]
      exact ih (mid - a) (by omega) _ m _ a mid limit' _ ap (Nat.le_refl _) (by omega) (by omega) (pdq_sz _ _ _ _ _ _ _ (Nat.le_refl _) h3 h2 hb) h1 (by omega) hlim'
theorem Z27 {l:List Int} (hl:l.length≤1000000):Zdh l.length l=some (l.mergeSort (fun x y=>decide (x≤y))):=by
 unfold Zdh
 rw [wu64 (by omega) (by omega),Len_eq (by omega)]
 simp only [Option.bind_some]
 have hb:Sort.bitsLen l.length<1000:=by
  have:=(Sort.bitsLen_le_iff l.length 63).2 (by omega)
  omega
 have hf:fuel=1180591620717411303423 + 1:=by kernel_rfl
 have e:=pdq_eq (n:=l.length) hl l.length 1180591620717411303423 fuel l.toArray 0 l.length (Sort.bitsLen l.length) true true (by omega) (by omega) (by unfold fuel; omega) (by simp) (by omega) (Nat.le_refl _) hb
 rw [show (Z4 fuel)=Z4 (1180591620717411303423 + 1) from by rw [← hf],Z4]
 rw [show ((0:Nat):Int)=0 from rfl,show l.toArray.toList=l from rfl] at e
 rw [e]
 simp only [Option.bind_some]
 rw [← Sort.sortInt l]
 unfold Sort.sort
 rw [show l.toArray.size=l.length from by simp]
end Go.AM
set_option maxRecDepth 100000
namespace Go.AM
open Go
def dd (l:List Int):List Int:=l.foldl (fun acc x=>if acc.getLast? = some x then acc else acc++[x]) []
theorem Zok (l:List Int) (x:Int):dd (l++[x])=if (dd l).getLast? = some x then dd l else dd l++[x]:=by
 unfold dd; rw [List.foldl_append]; rfl
theorem Zm8 {l:List Int} {k:Nat} (h:k<l.length):l.take (k + 1)=l.take k++[l[k]]:=by
 rw [List.take_add_one,List.getElem?_eq_getElem h]; rfl
theorem Zoz {p:List Int→Prop} (h0:p []) (h1:∀ l x,p l→p (l++[x])) (l:List Int):p l:=by
 have key:∀ n (l:List Int),l.length=n→p l:=by
  intro n
  induction n with
  | zero=>intro l hl; rw [List.length_eq_zero_iff.1 hl]; exact h0
  | succ n ih=>
   intro l hl
   rcases List.eq_nil_or_concat l with rfl | ⟨m,x,rfl⟩
   ·exact h0
   ·rw [List.concat_eq_append] at hl ⊢
    exact h1 _ _ (ih m (by simpa using hl))
 exact key _ l rfl
theorem Zvj (l:List Int):(dd l).getLast? = l.getLast?:=by
 refine Zoz (p:=fun l=>(dd l).getLast? = l.getLast?) rfl (fun l x ih=>?_) l
 rw [Zok]
 split
 ·rename_i h; rw [h]; simp
 ·simp
theorem dd_mem (l:List Int) (z:Int):z∈dd l ↔ z∈l:=by
 refine Zoz (p:=fun l=>z∈dd l ↔ z∈l) (Iff.rfl) (fun l x ih=>?_) l
 rw [Zok]
 split
 ·rename_i h
  have hx:=List.mem_of_getLast? h
  rw [List.mem_append,← ih,List.mem_singleton]
  exact⟨Or.inl,fun h=>h.elim id fun e=>e ▸ hx⟩
 ·rw [List.mem_append,List.mem_append,ih]
theorem dd_len (l:List Int):(dd l).length≤l.length:=by
 refine Zoz (p:=fun l=>(dd l).length≤l.length) (Nat.le_refl _) (fun l x ih=>?_) l
 rw [Zok]
 split <;> simp <;> omega
theorem Z0z (l:List Int):l.Pairwise (·≤·)→(dd l).Pairwise (·<·):=by
 refine Zoz (p:=fun l=>l.Pairwise (·≤·)→(dd l).Pairwise (·<·)) (fun _=>List.Pairwise.nil) (fun l x ih hp=>?_) l
 rw [List.pairwise_append] at hp
 obtain⟨h1,_,h3⟩:=hp
 have hd:=ih h1
 rw [Zok]
 split
 ·exact hd
 ·rename_i hne
  rw [List.pairwise_append]
  refine⟨hd,List.pairwise_singleton _ _,fun a ha b hb=>?_⟩
  rw [List.mem_singleton] at hb
  subst hb
  have hle:=h3 a ((dd_mem l a).1 ha) b (List.mem_singleton.2 rfl)
  rcases Int.lt_or_eq_of_le hle with h | h
  ·exact h
  ·exfalso
   subst h
   rw [Zvj] at hne
   cases hl:l.getLast? with
   | none=>rw [List.getLast?_eq_none_iff] at hl; subst hl; simp [dd] at ha
   | some z=>
    have hz:z∈dd l:=(dd_mem l z).2 (List.mem_of_getLast? hl)
    have hza:=h3 z (List.mem_of_getLast? hl) a (List.mem_singleton.2 rfl)
    have hlast:(dd l).getLast? = some z:=by rw [Zvj,hl]
    have hle2:a≤z:=by
     obtain⟨m,hm⟩:=List.getLast?_eq_some_iff.1 hlast
     rw [hm] at ha hd
     rw [List.mem_append] at ha
     rcases ha with ha | ha
     ·rw [List.pairwise_append] at hd
      exact Int.le_of_lt (hd.2.2 a ha z (List.mem_singleton.2 rfl))
     ·rw [List.mem_singleton] at ha; omega
    have:z=a:=by omega
    subst this
    exact hne hl
theorem Zqw {l:List Int} {n i:Nat} (hn:l.length=n) (h:i<n):idxn n l (i:Int)=some (l[i]'(by omega)):=by
 unfold idxn
 rw [if_pos ⟨by omega,by omega⟩,Z5 (by omega)]
theorem Zzf {l:List Int} {k:Nat} (h0:0<k) (h:k<l.length):dd (l.take (k + 1))=if l[k - 1]=l[k] then dd (l.take k) else dd (l.take k)++[l[k]]:=by
 rw [Zm8 h,Zok,Zvj]
 have:(l.take k).getLast? = some (l[k - 1]):=by
  obtain⟨k,rfl⟩:∃ k',k=k' + 1:=⟨k - 1,by omega⟩
  rw [Zm8 (by omega),List.getLast?_append]; simp
 rw [this]
 simp only [Option.some.injEq]
theorem Z11 {l:List Int} {n v1:Nat} (hn:l.length=n) (hB:n≤1000000) (h1:0<v1) (hv:v1<n):∀(k i w m:Nat) (v:List Int),v.length=n→n - (v1 + i)=k→k<m→0<i→v1 + i≤n→w≤v1 + i - 1 →
  v.take w=dd (l.take (v1 + i))→v.drop (v1 + i - 1)=l.drop (v1 + i - 1) →
  ∃ v' w',Za4 n (v1:Int) m v (w:Int) (i:Int)=some (v',((w':Nat):Int))∧v'.length=n∧w'≤n∧v'.take w'=dd l:=by
 intro k
 induction k with
 | zero=>
  intro i w m v hl hk hm hi hle hw ht hdr
  cases m with
  | zero=>omega
  | succ m=>
  rw [Za4]
  simp only [Int.toNat_natCast]
  rw [if_neg (by simp; omega)]
  refine⟨v,w,rfl,hl,by omega,?_⟩
  rw [ht,List.take_of_length_le (by omega)]
 | succ k ih=>
  intro i w m v hl hk hm hi hle hw ht hdr
  cases m with
  | zero=>omega
  | succ m=>
  have gt:∀ q,v1 + i - 1≤q→(hq:q<n)→v[q]'(by omega)=l[q]'(by omega):=fun q hq1 hq=>by
   have h2:(v.drop (v1 + i - 1))[q - (v1 + i - 1)]? = (l.drop (v1 + i - 1))[q - (v1 + i - 1)]?:=by rw [hdr]
   rw [List.getElem?_drop,List.getElem?_drop,show v1 + i - 1 + (q - (v1 + i - 1))=q by omega,List.getElem?_eq_getElem (by omega),List.getElem?_eq_getElem (by omega)] at h2
   exact Option.some.inj h2
  have iv:∀ q:Nat,(hq:v1 + q<n)→idxv (n - v1) v (v1:Int) (q:Int)=some (v[v1 + q]'(by omega)):=fun q hq=>by
   unfold idxv
   rw [if_pos ⟨by omega,by omega⟩,show (v1:Int) + (q:Int)=((v1 + q:Nat):Int) by omega,Z5 (by omega)]
  have hx:=gt (v1 + i) (by omega) (by omega)
  have hy:=gt (v1 + i - 1) (Nat.le_refl _) (by omega)
  obtain⟨i',rfl⟩:∃ i',i=i' + 1:=⟨i - 1,by omega⟩
  have hy':v[v1 + i']'(by omega)=l[v1 + i']'(by omega):=hy
  have ds:=Zzf (l:=l) (k:=v1 + (i' + 1)) (by omega) (by omega)
  rw [Za4]
  simp only [Int.toNat_natCast]
  rw [if_pos (decide_eq_true (by omega)),iv (i' + 1) (by omega),wpred (by omega),iv i' (by omega)]
  simp only [Option.bind_some,hx,hy']
  simp only [show v1 + (i' + 1) - 1=v1 + i' by omega] at ds
  by_cases he:l[v1 + (i' + 1)]'(by omega)=l[v1 + i']'(by omega)
  ·rw [if_neg (by simp [he])]
   simp only [Option.bind_some]
   rw [wsuc (by omega)]
   refine ih (i' + 1 + 1) w m v hl (by omega) (by omega) (by omega) (by omega) (by omega) ?_ ?_
   ·rw [ht,show v1 + (i' + 1 + 1)=v1 + (i' + 1) + 1 by omega,ds,if_pos he.symm]
   ·rw [show v1 + (i' + 1 + 1) - 1=(v1 + (i' + 1) - 1) + 1 by omega,← List.drop_drop,← List.drop_drop,hdr]
  ·rw [if_pos (by simpa using he),Zqw hl (show w<n by omega)]
   simp only [Option.bind_some]
   rw [wsuc (by omega),wsuc (by omega)]
   refine ih (i' + 1 + 1) (w + 1) m _ (by rw [List.length_set,hl]) (by omega) (by omega) (by omega) (by omega) (by omega) ?_ ?_
   ·rw [show v1 + (i' + 1 + 1)=v1 + (i' + 1) + 1 by omega,ds,if_neg (fun h=>he h.symm),← ht]
    rw [Zm8 (by rw [List.length_set]; omega),List.getElem_set_self,List.take_set_of_le (Nat.le_refl _)]
   ·rw [show v1 + (i' + 1 + 1) - 1=v1 + (i' + 1) by omega,List.drop_set_of_lt (by omega)]
    rw [show v1 + (i' + 1)=(v1 + (i' + 1) - 1) + 1 by omega,← List.drop_drop,← List.drop_drop,hdr]
theorem Z12 {l:List Int} {n:Nat} (hn:l.length=n) (hB:n≤1000000):∀(k i m:Nat),n - i=k→k<m→0<i→i≤n→dd (l.take i)=l.take i →
  ∃ o,Za5 n l m (i:Int)=some o∧((o=.inl ()∧dd l=l)∨∃ w v,o=.inr (w,v)∧v.length=n∧w≤n∧v.take w=dd l):=by
 intro k
 induction k with
 | zero=>
  intro i m hk hm h0 hi hd
  cases m with
  | zero=>omega
  | succ m=>
  rw [Za5,if_neg (by simp; omega)]
  rw [List.take_of_length_le (by omega)] at hd
  exact⟨_,rfl,Or.inl ⟨rfl,hd⟩⟩
 | succ k ih=>
  intro i m hk hm h0 hi hd
  cases m with
  | zero=>omega
  | succ m=>
  have ds:=Zzf (l:=l) h0 (by omega)
  rw [Za5,if_pos (decide_eq_true (by omega)),Zqw hn (show i<n by omega)]
  obtain⟨i',rfl⟩:∃ i',i=i' + 1:=⟨i - 1,by omega⟩
  rw [wpred (by omega),Zqw hn (show i'<n by omega)]
  simp only [Option.bind_some,Nat.add_sub_cancel] at ds ⊢
  by_cases he:l[i' + 1]'(by omega)=l[i']'(by omega)
  ·rw [if_pos (by simpa using he),if_pos ⟨by omega,by omega,by omega⟩]
   obtain⟨v,w,e,g1,g2,g3⟩:=Z11 hn hB (show 0<i' + 1 by omega) (by omega) (n - (i' + 1 + 1)) 1 (i' + 1) fuel l hn rfl (by unfold fuel; omega) (by omega) (by omega) (by omega) (by rw [ds,if_pos he.symm,hd]) rfl
   rw [show ((1:Nat):Int)=1 from rfl] at e
   rw [e]
   simp only [Option.bind_some,Int.toNat_natCast]
   rw [if_pos ⟨by omega,by omega,by omega⟩,if_pos (by omega),if_pos ⟨by omega,by omega,by omega⟩]
   refine⟨_,rfl,Or.inr ⟨w,_,rfl,?_,g2,?_⟩⟩
   ·simp only [List.length_append,List.length_take,List.length_replicate,List.length_drop]; omega
   ·rw [List.append_assoc,List.take_append_of_le_length (by rw [List.length_take]; omega),List.take_take,Nat.min_self,g3]
  ·rw [if_neg (by simpa using he),wsuc (by omega)]
   refine ih (i' + 1 + 1) m (by omega) (by omega) (by omega) (by omega) ?_
   rw [ds,if_neg (fun h=>he h.symm),hd,← Zm8]
theorem Zz8 {l:List Int} (hB:l.length≤1000000):∃ w v,Zc0 l.length l=some (w,v)∧v.length=l.length∧w≤l.length∧v.take w=dd l:=by
 unfold Zc0
 by_cases h:l.length<2
 ·rw [if_pos (decide_eq_true (by omega))]
  refine⟨_,_,rfl,rfl,Nat.le_refl _,?_⟩
  rw [List.take_length]
  rcases l with _ | ⟨a,_ | ⟨b,l⟩⟩
  ·rfl
  ·rfl
  ·simp at h; omega
 ·rw [if_neg (by simp; omega)]
  have h1:dd (l.take 1)=l.take 1:=by
   rcases l with _ | ⟨a,l⟩
   ·rfl
   ·rfl
  obtain⟨o,e,ho⟩:=Z12 rfl hB (l.length - 1) 1 fuel rfl (by unfold fuel; omega) (by omega) (by omega) h1
  rw [show ((1:Nat):Int)=1 from rfl] at e
  rw [e]
  rcases ho with ⟨rfl,hd⟩ | ⟨w,v,rfl,g1,g2,g3⟩
  ·exact⟨_,_,rfl,rfl,Nat.le_refl _,by rw [List.take_length,hd]⟩
  ·exact⟨w,v,rfl,g1,g2,g3⟩
end Go.AM
set_option maxRecDepth 100000
namespace Go.AM
open Go
def hv (h:Zs):Arr5 Int:=⟨h.Src,h.Dst,h.Proto,h.SrcPort,h.DstPort⟩
theorem Zs4 {h:Zs} (hh:Zci h):Zgl h=some (hv h):=by
 obtain⟨h1,h2,h3,h4,h5,_⟩:=hh
 unfold ok_u8 at h3; unfold Zl8 at h4 h5
 simp only [Zgl,hv]
 rw [wu32 (x:=h.Proto) (by omega) (by omega),wu32 (x:=h.SrcPort) (by omega) (by omega),wu32 (x:=h.DstPort) (by omega) (by omega)]
theorem Zv8 {h:Zs} (hh:Zci h):Zi1 h=some (hv h):=Zs4 hh
def outB (b:Arr5 Zb) (v:Arr5 Int) (k:Int):Bool:=decide (v.get k<(b.get k).Lo) || decide (v.get k > (b.get k).Hi)
def allF (f:Int→Bool):Bool:=!(f 0 || f 1 || f 2 || f 3 || f 4)
def cB (b:Arr5 Zb) (h:Zs):Bool:=vB b && allF (outB b (hv h))
theorem cstep1 (b:Arr5 Zb) (v:Arr5 Int) (n:Nat) (k:Int) (h0:0≤k) (h1:k<5):Zdu b v (n + 1) k=if outB b v k=true then some (.inr false) else Zdu b v n (k + 1):=by
 rw [Zdu]
 simp only [show k<5 from h1,decide_true,if_true,show 0≤k∧k<5 from ⟨h0,h1⟩,and_self,Option.bind_some,wnext h0 (by omega:k<1000000)]
 unfold outB
 cases decide (v.get k<(b.get k).Lo) <;> simp
theorem cstep2 (b:Arr5 Zb) (v:Arr5 Int) (n:Nat) (k:Int) (h0:0≤k) (h1:k<5):Zcp b v (n + 1) k=if outB b v k=true then some (.inr false) else Zcp b v n (k + 1):=by
 rw [Zcp]
 simp only [show k<5 from h1,decide_true,if_true,show 0≤k∧k<5 from ⟨h0,h1⟩,and_self,Option.bind_some,wnext h0 (by omega:k<1000000)]
 unfold outB
 cases decide (v.get k<(b.get k).Lo) <;> simp
theorem Zr4 {h:Zs} (hh:Zci h) (b:Arr5 Zb):Zha b h=some (cB b h):=by
 unfold Zha cB
 rw [Zox,Zv8 hh]
 simp only [Option.bind_some]
 rw [Zv5 (bad:=outB b (hv h)) (cstep1 b (hv h)) (fun n=>by rw [Zdu]; rfl)]
 cases vB b
 ·rfl
 ·unfold allF
  cases (outB b (hv h) 0 || outB b (hv h) 1 || outB b (hv h) 2 || outB b (hv h) 3 || outB b (hv h) 4) <;> rfl
theorem Zqx {h:Zs} (hh:Zci h) (b:Arr5 Zb):Ze7 b h=some (cB b h):=by
 unfold Ze7 cB
 rw [Zs4 hh]
 simp only [Option.bind_some]
 rw [Zv5 (bad:=outB b (hv h)) (cstep2 b (hv h)) (fun n=>by rw [Zcp]; rfl),Zm6]
 unfold allF
 cases (outB b (hv h) 0 || outB b (hv h) 1 || outB b (hv h) 2 || outB b (hv h) 3 || outB b (hv h) 4) <;> cases vB b <;> rfl
def difM (m:Zmc) (k:Int):Bool:=(IntKind.wrap .u32 ((m.From.get k).Hi - (m.From.get k).Lo)) != (IntKind.wrap .u32 ((m.To.get k).Hi - (m.To.get k).Lo))
def vM (m:Zmc):Bool:=vB m.From && vB m.To && allF (difM m)
def orN (o:Option Int):Int:=match o with | some r=>r | none=>-1
end Go.AM
set_option maxRecDepth 100000
namespace Go.AM
open Go
def hdr (v:Arr5 Int):Zs:=⟨v.x0,v.x1,v.x2,v.x3,v.x4⟩
structure VOk (v:Arr5 Int):Prop where
 h0:0≤v.x0∧v.x0≤4294967295
 h1:0≤v.x1∧v.x1≤4294967295
 h2:0≤v.x2∧v.x2≤255
 h3:0≤v.x3∧v.x3≤65535
 h4:0≤v.x4∧v.x4≤65535
theorem VOk.set {v:Arr5 Int} (h:VOk v) {k x:Int} (h0:0≤k) (h1:k<5) (hx0:0≤x) (hx:x≤topOf k):VOk (v.set k x):=by
 obtain⟨g0,g1,g2,g3,g4⟩:=h
 rcases five h0 h1 with rfl | rfl | rfl | rfl | rfl
 ·exact⟨⟨hx0,hx⟩,g1,g2,g3,g4⟩
 ·exact⟨g0,⟨hx0,hx⟩,g2,g3,g4⟩
 ·exact⟨g0,g1,⟨hx0,hx⟩,g3,g4⟩
 ·exact⟨g0,g1,g2,⟨hx0,hx⟩,g4⟩
 ·exact⟨g0,g1,g2,g3,⟨hx0,hx⟩⟩
theorem VOk.get {v:Arr5 Int} (h:VOk v) {k:Int} (h0:0≤k) (h1:k<5):0≤v.get k∧v.get k≤topOf k:=by
 obtain⟨g0,g1,g2,g3,g4⟩:=h
 rcases five h0 h1 with rfl | rfl | rfl | rfl | rfl
 ·exact g0
 ·exact g1
 ·exact g2
 ·exact g3
 ·exact g4
theorem vB_get {b:Arr5 Zb} (h:BIn b) (hv:vB b=true) {k:Int} (h0:0≤k) (h1:k<5):0≤(b.get k).Lo∧(b.get k).Lo≤(b.get k).Hi∧(b.get k).Hi≤topOf k:=by
 obtain⟨g0,g1,g2,g3,g4⟩:=vB_ok h hv
 rcases five h0 h1 with rfl | rfl | rfl | rfl | rfl
 ·exact⟨g0.h0,g0.h1,g0.h2⟩
 ·exact⟨g1.h0,g1.h1,g1.h2⟩
 ·exact⟨g2.h0,g2.h1,g2.h2⟩
 ·exact⟨g3.h0,g3.h1,g3.h2⟩
 ·exact⟨g4.h0,g4.h1,g4.h2⟩
structure MIn (m:Zmc):Prop where
 f:BIn m.From
 t:BIn m.To
theorem Z13 {k:Int} (h0:0≤k) (h1:k<5):0≤topOf k∧topOf k≤4294967295:=by
 rcases five h0 h1 with rfl | rfl | rfl | rfl | rfl <;> decide
def ofB (v:Arr5 Int):Arr5 Zb:=⟨⟨v.x0,v.x0⟩,⟨v.x1,v.x1⟩,⟨v.x2,v.x2⟩,⟨v.x3,v.x3⟩,⟨v.x4,v.x4⟩⟩
theorem rOf_eq {h:Zs} (hh:Zci h):Zia h=some (ofB (hv h)):=by
 unfold Zia
 rw [Zs4 hh]
 simp only [Option.bind_some]
 rw [Zv6 (L:=Zfj (hv h)) (f:=fun s k=>Arr5.set s k ⟨(hv h).get k,(hv h).get k⟩) (fin:=id) (fun n s k h0 h1=>by
  rw [Zfj]
  simp only [show k<5 from h1,decide_true,if_true,show 0≤k∧k<5 from ⟨h0,h1⟩,and_self,wnext h0 (by omega:k<1000000)]) (fun n s=>by rw [Zfj]; rfl)]
 rfl
end Go.AM
set_option maxRecDepth 100000
namespace Go.AM
open Go
abbrev Bx:=Arr5 Zb
def toL (b:Bx):List Zb:=[b.x0,b.x1,b.x2,b.x3,b.x4]
def sf (f:Nat) (b:Bx):List Zb:=(toL b).drop f
def zr:Zb:=⟨0,0⟩
def ofL:List Zb→Bx
 | [a,b,c,d,e]=>⟨a,b,c,d,e⟩
 | _=>⟨zr,zr,zr,zr,zr⟩
def pad (f:Nat) (l:List Zb):Bx:=ofL (List.replicate f zr++l)
def tops5:List Int:=[4294967295,4294967295,255,65535,65535]
theorem fiveN {f:Nat} (h:f<5):f=0∨f=1∨f=2∨f=3∨f=4:=by omega
theorem Zlc {f:Nat} (h:f<5) (b:Bx):sf f b=b.get (f:Int) :: sf (f + 1) b:=by
 rcases fiveN h with rfl | rfl | rfl | rfl | rfl <;> rfl
theorem sf_len {f:Nat} (h:f≤5) (b:Bx):(sf f b).length=5 - f:=by unfold sf toL; rw [List.length_drop]; rfl
theorem Zm9 {f:Nat} (h:f<5):tops5.drop f=topOf (f:Int) :: tops5.drop (f + 1):=by
 rcases fiveN h with rfl | rfl | rfl | rfl | rfl <;> rfl
theorem len4 {l:List Zb} {n:Nat} (h:l.length=n):match n with
  | 0=>l=[]
  | 1=>∃ a,l=[a]
  | 2=>∃ a b,l=[a,b]
  | 3=>∃ a b c,l=[a,b,c]
  | 4=>∃ a b c d,l=[a,b,c,d]
  | 5=>∃ a b c d e,l=[a,b,c,d,e]
  | _=>True:=by
 subst h
 rcases l with _ | ⟨a,_ | ⟨b,_ | ⟨c,_ | ⟨d,_ | ⟨e,_ | ⟨g,l⟩⟩⟩⟩⟩⟩
 ·exact rfl
 ·exact⟨_,rfl⟩
 ·exact⟨_,_,rfl⟩
 ·exact⟨_,_,_,rfl⟩
 ·exact⟨_,_,_,_,rfl⟩
 ·exact⟨_,_,_,_,_,rfl⟩
 ·exact trivial
theorem Zq8 {f:Nat} (h:f<5) {l:List Zb} (hl:l.length=4 - f) (r:Zb):(pad (f + 1) l).set (f:Int) r=pad f (r :: l):=by
 have h1:=len4 hl
 rcases fiveN h with rfl | rfl | rfl | rfl | rfl
 ·obtain⟨a,b,c,d,rfl⟩:=h1; rfl
 ·obtain⟨a,b,c,rfl⟩:=h1; rfl
 ·obtain⟨a,b,rfl⟩:=h1; rfl
 ·obtain⟨a,rfl⟩:=h1; rfl
 ·cases h1; rfl
theorem Zzg {l:List Zb} (h:l.length=5):toL (ofL l)=l:=by
 obtain⟨a,b,c,d,e,rfl⟩:=len4 h
 rfl
theorem Zq9 (b:Bx):ofL (toL b)=b:=rfl
theorem sf_pad {f:Nat} (h:f≤5) {l:List Zb} (hl:l.length=5 - f):sf f (pad f l)=l:=by
 unfold sf pad
 rw [Zzg (by simp; omega),List.drop_left' (by simp)]
theorem Z28 {b b':Bx} (h:toL b=toL b'):b=b':=by rw [← Zq9 b,h,Zq9]
instance decBx:DecidableEq Bx:=fun a b=>if h:toL a=toL b then .isTrue (Z28 h) else .isFalse fun e=>h (by rw [e])
theorem eq_rg (a b:Zb):Zdp a b=decide (a=b):=by
 obtain⟨a1,a2⟩:=a
 obtain⟨b1,b2⟩:=b
 simp only [Zdp,Bool.and_true,Zb.mk.injEq]
 rw [Bool.eq_iff_iff]; simp
theorem eq_bx (a b:Bx):Zer a b=decide (a=b):=by
 obtain⟨a0,a1,a2,a3,a4⟩:=a
 obtain⟨b0,b1,b2,b3,b4⟩:=b
 simp only [Zer,Bool.and_true,eq_rg,Arr5.mk.injEq]
 rw [Bool.eq_iff_iff]; simp
theorem Zs5 {α:Type} [DecidableEq α]:∀(l pre b:List α),l.length + pre.length=b.length→findI (fun i x=>if b[i]? = some x then none else some false) pre.length l=if l=b.drop pre.length then none else some false
 | [],pre,b,h=>by simp at h; rw [h]; simp [findI]
 | x :: l,pre,b,h=>by
  simp only [List.length_cons] at h
  have hi:pre.length<b.length:=by omega
  rw [List.drop_eq_getElem_cons hi]
  simp only [findI,List.getElem?_eq_getElem hi,List.cons.injEq,Option.some.injEq]
  by_cases e:b[pre.length]=x
  ·rw [if_pos e]
   simp only [e,true_and]
   have:=Zs5 l (pre++[x]) b (by simp; omega)
   simp only [List.length_append,List.length_singleton] at this
   exact this
  ·rw [if_neg e,if_neg (fun h=>e h.1.symm)]
theorem Zxx {a b:List Bx} (ha:a.length≤1000000000000):Zaq a b=some (decide (a=b)):=by
 unfold Zaq
 by_cases hl:a.length=b.length
 ·rw [if_neg (by simp [hl])]
  rw [Zh1 (L:=Za3 a b) a (fun i x=>if b[i]? = some x then none else some false) ha (fun n i hi=>by
   have hj:i<b.length:=by omega
   rw [Za3]
   simp only [show ((i:Int)<(a.length:Int)) from by omega,decide_true,if_true,Z5 hi,Z5 hj,Option.bind_some,eq_bx,wsucc (by omega:i<1000000000001),List.getElem?_eq_getElem hj,Option.some.injEq]
   by_cases e:a[i]=b[i]
   ·simp [e]
   ·rw [if_neg (show ¬ b[i]=a[i] from fun h=>e h.symm)]; simp [e]) (fun n=>by rw [Za3]; simp)]
  have:=Zs5 a [] b (by simpa using hl)
  simp only [List.length_nil,List.drop_zero] at this
  rw [this]
  by_cases e:a=b
  ·simp [e,orS]
  ·simp [e,orS]
 ·rw [if_pos (by simp; omega)]
  rw [decide_eq_false (fun e=>hl (by rw [e]))]
theorem Zvk {a b:List Bx} (ha:a.length≤1000000000000):Zf6 a b=some (decide (a=b)):=by
 unfold Zf6
 by_cases hl:a.length=b.length
 ·rw [if_neg (by simp [hl])]
  rw [Zh1 (L:=Zel a b) a (fun i x=>if b[i]? = some x then none else some false) ha (fun n i hi=>by
   have hj:i<b.length:=by omega
   rw [Zel]
   simp only [show ((i:Int)<(a.length:Int)) from by omega,decide_true,if_true,Z5 hi,Z5 hj,Option.bind_some,eq_bx,wsucc (by omega:i<1000000000001),List.getElem?_eq_getElem hj,Option.some.injEq]
   by_cases e:a[i]=b[i]
   ·simp [e]
   ·rw [if_neg (show ¬ b[i]=a[i] from fun h=>e h.symm)]; simp [e]) (fun n=>by rw [Zel]; simp)]
  have:=Zs5 a [] b (by simpa using hl)
  simp only [List.length_nil,List.drop_zero] at this
  rw [this]
  by_cases e:a=b
  ·simp [e,orS]
  ·simp [e,orS]
 ·rw [if_pos (by simp; omega)]
  rw [decide_eq_false (fun e=>hl (by rw [e]))]
def cov (a:List Bx) (f v:Int):List Bx:=a.filter fun b=>inR v (b.get f)
theorem Zkx {α:Type} (p:α→Bool):∀(l acc:List α) (i:Nat),foldI (fun s _ x=>if p x=true then s++[x] else s) acc i l=acc++l.filter p
 | [],acc,i=>by simp [foldI]
 | x :: xs,acc,i=>by
  simp only [foldI,List.filter_cons]
  rw [Zkx p xs]
  cases p x <;> simp
theorem inR_eq (v:Int) (r:Zb):inR v r=(decide (r.Lo≤v) && decide (v≤r.Hi)):=rfl
theorem Zr5 {a:List Bx} (ha:a.length≤2000000000) {f:Int} (h0:0≤f) (h1:f<5) (v:Int):Zbz a f v=some (cov a f v):=by
 unfold Zbz
 have:=Zch (L:=Zct a f v) a (fun s _ x=>if inR v (x.get f)=true then s++[x] else s) id (fun i s=>s.length≤i) (by omega) (fun n s i hi hs=>by
  rw [Zct]
  simp only [show ((i:Int)<(a.length:Int)) from by omega,decide_true,if_true,Z5 hi,Option.bind_some,wsucc (by omega:i<1000000000001),List.length_singleton]
  rw [if_pos ⟨h0,h1⟩,inR_eq]
  rw [if_pos (show s.length + 1≤lim by unfold lim; omega)]
  cases decide (((a[i]).get f).Lo≤v) <;> cases decide (v≤((a[i]).get f).Hi) <;> simp [h0,h1] <;> omega) (fun n s hs=>by rw [Zct]; simp) [] (Nat.le_refl _)
 rw [this.1,Zkx]
 rfl
theorem at_eq {a:List Bx} (ha:a.length≤2000000000) {f:Int} (h0:0≤f) (h1:f<5) (v:Int) (hin:∀ b∈a,BIn b):Zic a f v=some (cov a f v):=by
 unfold Zic
 have:=Zch (L:=Zfk a f v) a (fun s _ x=>if inR v (x.get f)=true then s++[x] else s) id (fun i s=>s.length≤i) (by omega) (fun n s i hi hs=>by
  rw [Zfk]
  have hb:=(hin _ (List.getElem_mem hi)).get f
  have e1:IntKind.wrap .u64 ((a[i]).get f).Lo=((a[i]).get f).Lo:=wu64 hb.h0 (by have:=hb.h1; omega)
  have e2:IntKind.wrap .u64 ((a[i]).get f).Hi=((a[i]).get f).Hi:=wu64 hb.h2 (by have:=hb.h3; omega)
  simp only [show ((i:Int)<(a.length:Int)) from by omega,decide_true,if_true,Z5 hi,Option.bind_some,wsucc (by omega:i<1000000000001),List.length_singleton,e1,e2]
  rw [if_pos ⟨h0,h1⟩,inR_eq]
  rw [if_pos (show s.length + 1≤lim by unfold lim; omega)]
  cases decide (((a[i]).get f).Lo≤v) <;> cases decide (v≤((a[i]).get f).Hi) <;> simp [h0,h1] <;> omega) (fun n s hs=>by rw [Zfk]; simp) [] (Nat.le_refl _)
 rw [this.1,Zkx]
 rfl
theorem Zzh {f:Nat} (h:f<5) (a:List Bx) (v:Int):(cov a (f:Int) v).map (sf (f + 1))=atv (a.map (sf f)) v:=by
 induction a with
 | nil=>rfl
 | cons b a ih=>
  have e:atv ((b :: a).map (sf f)) v=(if inR v (b.get (f:Int)) then [sf (f + 1) b] else [])++atv (a.map (sf f)) v:=by
   rw [List.map_cons,Zlc h]; rfl
  rw [e,← ih]
  unfold cov
  rw [List.filter_cons]
  cases inR v (b.get (f:Int)) <;> simp
theorem Zra (a:List Bx) (f v:Int):(cov a f v).length≤a.length:=List.length_filter_le ..
theorem Z29 {a:List Bx} {f v:Int} {b:Bx} (h:b∈cov a f v):b∈a:=(List.mem_filter.1 h).1
theorem Zv9 (b:Bx):Zda b=some (!vB b):=by
 unfold Zda; rw [Zox]; rfl
theorem Zwa {a:List Bx} (ha:a.length≤2000000000):Zgn a=some (a.filter vB):=by
 unfold Zgn
 have:=Zch (L:=Zed a) a (fun s _ x=>if vB x=true then s++[x] else s) id (fun i s=>s.length≤i) (by omega) (fun n s i hi hs=>by
  rw [Zed]
  simp only [show ((i:Int)<(a.length:Int)) from by omega,decide_true,if_true,Z5 hi,Option.bind_some,wsucc (by omega:i<1000000000001),List.length_singleton,Zm6]
  rw [if_pos (show s.length + 1≤lim by unfold lim; omega)]
  cases vB a[i] <;> simp <;> omega) (fun n s hs=>by rw [Zed]; simp) [] (Nat.le_refl _)
 rw [this.1,Zkx]
 rfl
theorem Zs6 {α:Type} {l:List α} {n i:Nat} (hn:l.length=n) (h:i<n):idxn n l (i:Int)=some (l[i]'(by omega)):=by
 unfold idxn
 rw [if_pos ⟨by omega,by omega⟩,Z5 (by omega)]
theorem Z14 {l:List Bx} {n:Nat} (hn:l.length=n) (hB:n≤2000000000):∀(k j w m:Nat) (v:List Bx),n - j=k→k<m→v.length=n→w<j→j≤n→v.take w=(l.take j).filter vB→v.drop j=l.drop j →
  ∃ v' w',Z8 n m v (w:Int) (j:Int)=some (v',((w':Nat):Int))∧v'.length=n∧w'≤n∧v'.take w'=l.filter vB:=by
 intro k
 induction k with
 | zero=>
  intro j w m v hk hm hv hw hj ht hd
  cases m with
  | zero=>omega
  | succ m=>
  rw [Z8,if_neg (by simp; omega)]
  refine⟨v,w,rfl,hv,by omega,?_⟩
  rw [ht,List.take_of_length_le (by omega)]
 | succ k ih=>
  intro j w m v hk hm hv hw hj ht hd
  cases m with
  | zero=>omega
  | succ m=>
  have hjn:j<n:=by omega
  have hx:v[j]'(by omega)=l[j]'(by omega):=by
   have h2:(v.drop j)[0]? = (l.drop j)[0]?:=by rw [hd]
   rw [List.getElem?_drop,List.getElem?_drop,Nat.add_zero,List.getElem?_eq_getElem (by omega),List.getElem?_eq_getElem (by omega)] at h2
   exact Option.some.inj h2
  have tk:(l.take (j + 1)).filter vB=(l.take j).filter vB++if vB (l[j]'(by omega))=true then [l[j]'(by omega)] else []:=by
   rw [List.take_add_one,List.getElem?_eq_getElem (by omega),List.filter_append]
   congr 1
   simp only [Option.toList_some,List.filter_cons,List.filter_nil]
  rw [Z8]
  rw [if_pos (decide_eq_true (by omega)),Zs6 hv hjn]
  simp only [Option.bind_some,Zv9,hx,Bool.not_not]
  by_cases hval:vB (l[j]'(by omega))=true
  ·rw [if_pos hval,Zs6 hv (by omega:w<n)]
   simp only [Option.bind_some,Int.toNat_natCast]
   rw [wsuc (by omega),wsuc (by omega)]
   refine ih (j + 1) (w + 1) m _ (by omega) (by omega) (by rw [List.length_set]; exact hv) (by omega) (by omega) ?_ ?_
   ·rw [tk,if_pos hval,← ht,List.take_add_one,List.getElem?_eq_getElem (by rw [List.length_set]; omega),List.getElem_set_self,List.take_set_of_le (Nat.le_refl _)]
    rfl
   ·rw [List.drop_set_of_lt (by omega),← List.drop_drop,hd,List.drop_drop]
  ·rw [if_neg hval]
   simp only [Option.bind_some]
   rw [wsuc (by omega)]
   refine ih (j + 1) w m v (by omega) (by omega) hv (by omega) (by omega) ?_ ?_
   ·rw [tk,if_neg hval,List.append_nil,ht]
   ·rw [← List.drop_drop,hd,List.drop_drop]
theorem Zr6 {α:Type} (p:α→Bool):∀(l:List α) (i:Nat),(findI (fun i x=>if p x=true then some ((i:Nat):Int) else none) i l=none∧∀ x∈l,p x=false) ∨
  ∃ j,findI (fun i x=>if p x=true then some ((i:Nat):Int) else none) i l=some ((i + j:Nat):Int)∧∃ h:j<l.length,p l[j]=true∧∀ x∈l.take j,p x=false
 | [],i=>Or.inl ⟨rfl,fun _ h=>(by cases h)⟩
 | x :: l,i=>by
  by_cases hx:p x=true
  ·exact Or.inr ⟨0,by simp only [findI,if_pos hx]; rfl,by simp,hx,fun _ h=>(by cases h)⟩
  ·rcases Zr6 p l (i + 1) with ⟨h1,h2⟩ | ⟨j,h1,h2,h3,h4⟩
   ·refine Or.inl ⟨by simp only [findI,if_neg hx,h1],fun y hy=>?_⟩
    rcases List.mem_cons.1 hy with rfl | hy
    ·simpa using hx
    ·exact h2 y hy
   ·refine Or.inr ⟨j + 1,by simp only [findI,if_neg hx,h1]; rw [show i + 1 + j=i + (j + 1) by omega],by simp only [List.length_cons]; omega,by simpa using h3,fun y hy=>?_⟩
    rw [List.take_succ_cons] at hy
    rcases List.mem_cons.1 hy with rfl | hy
    ·simpa using hx
    ·exact h4 y hy
theorem del_eq {l:List Bx} (hB:l.length≤2000000000):∃ w v,Zax l.length l=some (w,v)∧v.length=l.length∧w≤l.length∧v.take w=l.filter vB:=by
 unfold Zax Zbs
 rw [Zh1 (L:=Z9 l.length l) l (fun i x=>if (!vB x)=true then some ((i:Nat):Int) else none) (by omega) (fun n i hi=>by
  rw [Z9]
  simp only [show ((i:Int)<(l.length:Int)) from by omega,decide_true,if_true,Zs6 rfl hi,Option.bind_some,Zv9,wsucc (by omega:i<1000000000001)]
  cases vB l[i] <;> rfl) (fun n=>by rw [Z9]; simp)]
 rcases Zr6 (fun x=>!vB x) l 0 with ⟨h1,h2⟩ | ⟨j,h1,h2,h3,h4⟩
 ·rw [h1]
  simp only [orS,Option.bind_some]
  rw [if_pos (by decide)]
  refine⟨_,_,rfl,rfl,Nat.le_refl _,?_⟩
  rw [List.take_length,List.filter_eq_self.2 fun x hx=>by simpa using h2 x hx]
 ·rw [h1]
  simp only [orS,Option.bind_some]
  rw [if_neg (by simp),Nat.zero_add,wsuc (by omega)]
  have tk:(l.take j).filter vB=l.take j:=List.filter_eq_self.2 fun x hx=>by simpa using h4 x hx
  obtain⟨v,w,e,g1,g2,g3⟩:=Z14 rfl hB (l.length - (j + 1)) (j + 1) j fuel l rfl (by unfold fuel; omega) rfl (by omega) (by omega) (by
   rw [List.take_add_one,List.filter_append,List.getElem?_eq_getElem h2,tk]
   have:vB l[j]=false:=by simpa using h3
   simp [this]) rfl
  rw [e]
  simp only [Option.bind_some,Int.toNat_natCast]
  rw [if_pos ⟨by omega,by omega,by omega⟩,if_pos (by omega),if_pos ⟨by omega,by omega,by omega⟩]
  refine⟨_,_,rfl,?_,g2,?_⟩
  ·simp only [List.length_append,List.length_take,List.length_replicate,List.length_drop]; omega
  ·rw [List.append_assoc,List.take_append_of_le_length (by rw [List.length_take]; omega),List.take_take,Nat.min_self,g3]
theorem Zwb {l:List Bx} (hB:l.length≤2000000000):Zft l=some (l.filter vB):=by
 unfold Zft
 rw [if_pos (by unfold lim; omega)]
 cases l with
 | nil=>rfl
 | cons b l=>
  obtain⟨w,v,e,g1,g2,g3⟩:=del_eq hB
  rw [e]
  simp only [handB,Option.bind_some]
  rw [if_pos ⟨g1,by omega⟩]
  simp only [Option.bind_some,g3]
end Go.AM

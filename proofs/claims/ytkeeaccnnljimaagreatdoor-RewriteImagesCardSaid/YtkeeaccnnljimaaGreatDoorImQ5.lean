/- Parts of a proof, printed short. No condition. -/
import Derived.Test.YtkeeaccnnljimaaGreatDoorProg
import Derived.Sort.AssemblyPlain
import Derived.Sort.LotD5
import Derived.Test.YtkeeaccnnljimaaGreatDoorImQ4
set_option maxRecDepth 100000
namespace Go.AM
open Go Go.Proofs
def Zm2 (r:((List ZL) × ZL × Zl)):PV→List Blk→Prop:=fun p K=>p=(.tup [(slc 1 Zf r.1),(slc 10 Za r.2.1)])∧K=[.cells (Zm r.2.2)]
theorem Zi7 (u:Zl) (a:ZL) (f:ZL) (r:((List ZL) × ZL × Zl)) (hF:Zdm u a f=some r):ACall Tryz.prog glob 49 [(.ptr 0 0),(slc 10 Za a),(slc 10 Za f)] [.cells (Zm u)] (Zm2 r):=by
 refine ACall.body Tryz.func49 rfl (by kernel_rfl) ?_
 unfold Zdm at hF
 refine AWP.seq (AWP.rg0 [] [(0,(.ptr 0 0)),(1,(slc 10 Za a)),(2,(slc 10 Za f))] (AWP.seq (AWP.rg0 [] [(0,(.ptr 0 0)),(1,(slc 10 Za a)),(2,(slc 10 Za f)),(8,nils)] ?_)))
 refine AWP.own (H':=[.cells (Zm u),bf 1 38 Zf ([]:(List ZL)) false]) (st':=[(8,(.own 1 (List.length ([]:(List ZL))))),(0,(.ptr 0 0)),(1,(slc 10 Za a)),(2,(slc 10 Za f))]) 8 1 38 (by kernel_rfl) (by kernel_rfl) (by kernel_rfl) ?_
 refine AWP.pick (st':=[(0,(.ptr 0 0)),(1,(slc 10 Za a)),(2,(slc 10 Za f)),(8,(.own 1 (List.length ([]:(List ZL)))))]) (ks:=[0,1,2,8]) (by kernel_rfl) ?_
 refine AWP.seq (AWP.seq (AWP.rg0 [(1,.len Za a)] [(0,(.ptr 0 0)),(2,(slc 10 Za f)),(8,(.own 1 (List.length ([]:(List ZL))))),(11,(slc 10 Za a)),(12,(i64 (List.length a:Int))),(13,(i64 (0:Int)))] ?_))
 obtain⟨z,a1,hF⟩:=bindb hF
 refine AWP.mid (fun e st H=>(e=.normal∧∃ x,∃ m,∃ v,z=(x,m,v)∧st=[(2,(slc 10 Za v)),(8,(.own 1 (List.length m)))]∧H=[.cells (Zm x),bf 1 38 Zf m false])) ?_ ?_
 ·clear hF
  refine AWP.kp [0,2,8,11,12,13] 2 ?_
  refine AWP.bround (fun n st H=>∃ g,∃ b,∃ d,∃ c,Za8 a n g b d c=some z∧st=[(0,(.ptr 0 0)),(2,(slc 10 Za d)),(8,(.own 1 (List.length b))),(11,(slc 10 Za a)),(12,(i64 (List.length a:Int))),(13,(i64 c))]∧H=[.cells (Zm g),bf 1 38 Zf b false]) fuel ⟨u,([]:(List ZL)),f,(0:Int),a1,by kernel_rfl,by kernel_rfl⟩ ?_
  rintro y st H ⟨g,b,d,c,hF,rfl,rfl⟩
  cases y with
  | zero=>exact noneb hF
  | succ y=>
   rw [Za8] at hF
   refine AWP.seq (AWP.rg0 [] [(0,(.ptr 0 0)),(2,(slc 10 Za d)),(8,(.own 1 (List.length b))),(11,(slc 10 Za a)),(12,(i64 (List.length a:Int))),(13,(i64 c)),(14,(vb (decide (c<(List.length a:Int)))))] (AWP.seq ?_))
   refine AWP.cif hF (fun a2 hF=>?_) (fun a2 hF=>?_)
   ·refine AWP.skip ?_
    obtain⟨a3,a4,hF⟩:=bindb hF
    refine AWP.seq ?_
    refine AWP.mid (fun e st H=>(e=.normal∧∃ w,∃ o,∃ p,a3=(w,o,p)∧st=[(0,(.ptr 0 0)),(2,(slc 10 Za p)),(8,(.own 1 (List.length o))),(11,(slc 10 Za a)),(12,(i64 (List.length a:Int))),(13,(i64 c))]∧H=[.cells (Zm w),bf 1 38 Zf o false])) ?_ ?_
    ·clear hF
     have hF:=a4
     refine AWP.block (AWP.seq ?_)
     obtain⟨k,a5,hF⟩:=bindb hF
     refine AWP.rg [(0,.idx Za a5)] [(0,(.ptr 0 0)),(2,(slc 10 Za d)),(8,(.own 1 (List.length b))),(10,(.ptr 2 0)),(11,(slc 10 Za a)),(12,(i64 (List.length a:Int))),(13,(i64 c))] [.cells (Zm g),bf 1 38 Zf b false,.cells (Za k)] (AWP.seq (AWP.seq ?_))
     obtain⟨a0,a6,hF⟩:=bindb hF
     refine AWP.rg0 [(1,.call Tryz.func98 [] (Zi5 k a0 a6))] [(0,(.ptr 0 0)),(2,(slc 10 Za d)),(8,(.own 1 (List.length b))),(10,(.ptr 2 0)),(11,(slc 10 Za a)),(12,(i64 (List.length a:Int))),(13,(i64 c)),(19,(vb (!a0)))] ?_
     refine AWP.cif hF (fun a7 hF=>?_) (fun a7 hF=>?_)
     ·refine AWP.seq ?_
      obtain⟨a8,hF⟩:=chkb hF
      refine AWP.rg [(1,.litN),(2,.app Zf (fun _=>by kernel_rfl) a8)] [(0,(.ptr 0 0)),(2,(slc 10 Za d)),(8,(.own 1 (List.length (b++[([]:ZL)])))),(11,(slc 10 Za a)),(12,(i64 (List.length a:Int))),(13,(i64 c))] [.cells (Zm g),bf 1 38 Zf (b++[([]:ZL)]) false,.cells (Za k)] (AWP.exit (LeQ.start (LeQ.pk [0,2,8,11,12,13] 2 ?_)))
      exact⟨rfl,g,(b++[([]:ZL)]),d,(someb hF).symm,by kernel_rfl,by kernel_rfl⟩
     ·refine AWP.skip (AWP.seq ?_)
      obtain⟨j,a9,hF⟩:=bindb hF
      obtain⟨b0,hF⟩:=chkb hF
      refine AWP.rg [(5,.call Tryz.func57 [] (Zdk g d [k] j a9)),(7,.app Zf (fun _=>by kernel_rfl) b0)] [(0,(.ptr 0 0)),(2,(slc 10 Za d)),(8,(.own 1 (List.length (b++[j.1])))),(10,(.ptr 2 0)),(11,(slc 10 Za a)),(12,(i64 (List.length a:Int))),(13,(i64 c))] [.cells (Zm j.2),bf 1 38 Zf (b++[j.1]) false,.cells (Za k)] ?_
      obtain⟨q,b1,hF⟩:=bindb hF
      refine AWP.rg [(4,.call Tryz.func59 [] (Zh3 j.2 d [k] q b1))] [(0,(.ptr 0 0)),(2,(slc 10 Za q.1)),(8,(.own 1 (List.length (b++[j.1])))),(11,(slc 10 Za a)),(12,(i64 (List.length a:Int))),(13,(i64 c))] [.cells (Zm q.2),bf 1 38 Zf (b++[j.1]) false,.cells (Za k)] (LeQ.start (LeQ.pk [0,2,8,11,12,13] 2 ?_))
      exact⟨rfl,q.2,(b++[j.1]),q.1,(someb hF).symm,by kernel_rfl,by kernel_rfl⟩
    ·rintro _ _ _ ⟨rfl,w,o,p,rfl,rfl,rfl⟩
     refine AWP.rg0 [] [(0,(.ptr 0 0)),(2,(slc 10 Za p)),(8,(.own 1 (List.length o))),(11,(slc 10 Za a)),(12,(i64 (List.length a:Int))),(13,(i64 (ZI (c + (1:Int)))))] (LeQ.start (LeQ.pk [0,2,8,11,12,13] 2 ?_))
     exact⟨y,Nat.lt_succ_self _,w,o,p,(ZI (c + (1:Int))),hF,by kernel_rfl,by kernel_rfl⟩
   ·refine AWP.exit (LeQ.start (LeQ.pk [2,8] 2 ?_))
    exact⟨rfl,g,b,d,(someb hF).symm,by kernel_rfl,by kernel_rfl⟩
 ·rintro _ _ _ ⟨rfl,x,m,v,rfl,rfl,rfl⟩
  refine AWP.seq (AWP.rg0 [] [(6,(.own 1 (List.length m))),(7,(slc 10 Za v))] (AWP.ret ?_))
  have hr:=someb hF
  subst hr
  exact(FnQ.f1 1 (.inr rfl) (.inr ⟨_,_,rfl,rfl,(.cons _ _ _ _ (Wk.ownT (i:=1) (s:=1) (t:=38) (l:=m) (sh:=false) (row:=Zf) (by kernel_rfl) (.inl rfl)) (.cons _ _ _ _ (.refl _) .nil))⟩))
def Zqo (r:ZL):PV→List Blk→Prop:=fun p K=>p=(slc 10 Za r)∧K=[]
theorem Ziz (b:Zk) (d:ZL) (r:ZL) (hF:Zef b d=some r):ACall Tryz.prog glob 54 [(Zhy b),(slc 10 Za d)] [] (Zqo r):=by
 refine ACall.body Tryz.func54 rfl (by kernel_rfl) ?_
 unfold Zef at hF
 refine AWP.seq (AWP.rg [] [(1,(slc 10 Za d)),(2,(.ptr 0 0))] [.cells (Zd b)] (AWP.seq ?_))
 obtain⟨a6,hF⟩:=chkb hF
 refine AWP.rg [(1,.clone Tryz.func103 Za (fun _=>by kernel_rfl) a6)] [(1,(slc 10 Za d)),(2,(.ptr 0 0)),(5,(.own 1 (List.length d)))] [.cells (Zd b),bf 10 57 Za d false] (AWP.seq (AWP.seq (AWP.rg0 [(1,.len Za d)] [(1,(slc 10 Za d)),(2,(.ptr 0 0)),(5,(.own 1 (List.length d))),(12,(i64 (List.length d:Int))),(13,(i64 (0:Int)))] ?_)))
 obtain⟨p,a7,hF⟩:=bindb hF
 refine AWP.mid (fun e st H=>e=.normal∧st=[(5,(.own 1 (List.length p)))]∧H=[.cells (Zd b),bf 10 57 Za p false]) ?_ ?_
 ·clear hF
  refine AWP.kp [1,2,5,12,13] 2 ?_
  refine AWP.bround (fun n st H=>∃ m,∃ c,Zdh b d n m c=some p∧st=[(1,(slc 10 Za d)),(2,(.ptr 0 0)),(5,(.own 1 (List.length m))),(12,(i64 (List.length d:Int))),(13,(i64 c))]∧H=[.cells (Zd b),bf 10 57 Za m false]) fuel ⟨d,(0:Int),a7,by kernel_rfl,by kernel_rfl⟩ ?_
  rintro u st H ⟨m,c,hF,rfl,rfl⟩
  cases u with
  | zero=>exact noneb hF
  | succ u=>
   rw [Zdh] at hF
   refine AWP.seq (AWP.rg0 [] [(1,(slc 10 Za d)),(2,(.ptr 0 0)),(5,(.own 1 (List.length m))),(12,(i64 (List.length d:Int))),(13,(i64 c)),(14,(vb (decide (c<(List.length d:Int)))))] (AWP.seq ?_))
   refine AWP.cif hF (fun a8 hF=>?_) (fun a8 hF=>?_)
   ·refine AWP.skip (AWP.seq (AWP.block (AWP.seq (AWP.rg0 [] [(1,(slc 10 Za d)),(2,(.ptr 0 0)),(5,(.own 1 (List.length m))),(6,(i64 c)),(12,(i64 (List.length d:Int))),(13,(i64 c))] (AWP.seq (AWP.rg0 [] [(1,(slc 10 Za d)),(2,(.ptr 0 0)),(5,(.own 1 (List.length m))),(6,(i64 c)),(12,(i64 (List.length d:Int))),(13,(i64 c)),(17,(Zt b.From)),(18,(i64 (0:Int)))] ?_))))))
    obtain⟨q,a9,hF⟩:=bindb hF
    refine AWP.mid (fun e st H=>e=.normal∧st=[(1,(slc 10 Za d)),(2,(.ptr 0 0)),(5,(.own 1 (List.length q))),(12,(i64 (List.length d:Int))),(13,(i64 c))]∧H=[.cells (Zd b),bf 10 57 Za q false]) ?_ ?_
    ·clear hF
     refine AWP.kp [1,2,5,6,12,13,17,18] 2 ?_
     refine AWP.bround (fun n st H=>∃ g,∃ a,Zb1 b d c n g a=some q∧st=[(1,(slc 10 Za d)),(2,(.ptr 0 0)),(5,(.own 1 (List.length g))),(6,(i64 c)),(12,(i64 (List.length d:Int))),(13,(i64 c)),(17,(Zt b.From)),(18,(i64 a))]∧H=[.cells (Zd b),bf 10 57 Za g false]) fuel ⟨m,(0:Int),a9,by kernel_rfl,by kernel_rfl⟩ ?_
     rintro v st H ⟨g,a,hF,rfl,rfl⟩
     cases v with
     | zero=>exact noneb hF
     | succ v=>
      rw [Zb1] at hF
      refine AWP.seq (AWP.rg0 [] [(1,(slc 10 Za d)),(2,(.ptr 0 0)),(5,(.own 1 (List.length g))),(6,(i64 c)),(12,(i64 (List.length d:Int))),(13,(i64 c)),(17,(Zt b.From)),(18,(i64 a)),(19,(vb (decide (a<(5:Int)))))] (AWP.seq ?_))
      refine AWP.cif hF (fun b0 hF=>?_) (fun b0 hF=>?_)
      ·refine AWP.skip (AWP.seq (AWP.block (AWP.seq ?_)))
       obtain⟨b1,hF⟩:=chkb hF
       refine AWP.rg [(1,.ixA Zi (Arr5.get b.From) b1)] [(1,(slc 10 Za d)),(2,(.ptr 0 0)),(5,(.own 1 (List.length g))),(6,(i64 c)),(7,(i64 a)),(8,(.ptr 2 0)),(12,(i64 (List.length d:Int))),(13,(i64 c)),(17,(Zt b.From)),(18,(i64 a))] [.cells (Zd b),bf 10 57 Za g false,.cells (Zi (Arr5.get b.From a))] (AWP.seq ?_)
       obtain⟨w,hF⟩:=chkb hF
       obtain⟨j,b2,hF⟩:=bindb hF
       obtain⟨x,hF⟩:=chkb hF
       obtain⟨f,y,hF⟩:=bindb hF
       obtain⟨z,hF⟩:=chkb hF
       refine AWP.dr [(5,.ixd w),(7,.ldA Zi (Arr5.get b.To) 10 2 0 w),(11,.idx Za b2),(12,.ixd x),(14,.ldA Zi (Arr5.get j) 0 2 0 x),(19,.idx Za y),(20,.ixE Za g c z),(21,.fdE Za g c),(22,.stEd Za y (fun a0=>(Arr5.set f a0 ({ (Arr5.get f a0) with Lo:=(IntKind.wrap .u32 ((Arr5.get b.To a).Lo + (IntKind.wrap .u32 ((Arr5.get j a).Lo - (Arr5.get b.From a).Lo)))) }:Zb))) 0 2 0 z)] 20 [] [] [] [(1,(slc 10 Za d)),(2,(.ptr 0 0)),(5,(.own 1 (List.length g))),(6,(i64 c)),(7,(i64 a)),(8,(.ptr 2 0)),(12,(i64 (List.length d:Int))),(13,(i64 c)),(17,(Zt b.From)),(18,(i64 a))] [.cells (Zd b),bf 10 57 Za (List.set g (Int.toNat c) (Arr5.set f a ({ (Arr5.get f a) with Lo:=(IntKind.wrap .u32 ((Arr5.get b.To a).Lo + (IntKind.wrap .u32 ((Arr5.get j a).Lo - (Arr5.get b.From a).Lo)))) }:Zb))) false,.cells (Zi (Arr5.get b.From a))] ?_
       rw [show ([(1,(slc 10 Za d)),(2,(.ptr 0 0)),(5,(.own 1 (List.length g))),(6,(i64 c)),(7,(i64 a)),(8,(.ptr 2 0)),(12,(i64 (List.length d:Int))),(13,(i64 c)),(17,(Zt b.From)),(18,(i64 a))]:St)=[(1,(slc 10 Za d)),(2,(.ptr 0 0)),(5,(.own 1 (List.length (List.set g (Int.toNat c) (Arr5.set f a ({ (Arr5.get f a) with Lo:=(IntKind.wrap .u32 ((Arr5.get b.To a).Lo + (IntKind.wrap .u32 ((Arr5.get j a).Lo - (Arr5.get b.From a).Lo)))) }:Zb)))))),(6,(i64 c)),(7,(i64 a)),(8,(.ptr 2 0)),(12,(i64 (List.length d:Int))),(13,(i64 c)),(17,(Zt b.From)),(18,(i64 a))] by simp only [List.length_set]]
       obtain⟨a1,hF⟩:=chkb hF
       obtain⟨o,b3,hF⟩:=bindb hF
       obtain⟨a2,hF⟩:=chkb hF
       obtain⟨k,a3,hF⟩:=bindb hF
       obtain⟨a4,hF⟩:=chkb hF
       refine AWP.dr [(5,.ixd a1),(7,.ldA Zi (Arr5.get b.To) 10 2 0 a1),(11,.idx Za b3),(12,.ixd a2),(14,.ldA Zi (Arr5.get o) 0 2 1 a2),(19,.idx Za a3),(20,.ixE Za (List.set g (Int.toNat c) (Arr5.set f a ({ (Arr5.get f a) with Lo:=(IntKind.wrap .u32 ((Arr5.get b.To a).Lo + (IntKind.wrap .u32 ((Arr5.get j a).Lo - (Arr5.get b.From a).Lo)))) }:Zb))) c a4),(21,.fdE Za (List.set g (Int.toNat c) (Arr5.set f a ({ (Arr5.get f a) with Lo:=(IntKind.wrap .u32 ((Arr5.get b.To a).Lo + (IntKind.wrap .u32 ((Arr5.get j a).Lo - (Arr5.get b.From a).Lo)))) }:Zb))) c),(22,.stEd Za a3 (fun a5=>(Arr5.set k a5 ({ (Arr5.get k a5) with Hi:=(IntKind.wrap .u32 ((Arr5.get b.To a).Lo + (IntKind.wrap .u32 ((Arr5.get o a).Hi - (Arr5.get b.From a).Lo)))) }:Zb))) 0 2 1 a4)] 20 [] [] [] [(1,(slc 10 Za d)),(2,(.ptr 0 0)),(5,(.own 1 (List.length (List.set g (Int.toNat c) (Arr5.set f a ({ (Arr5.get f a) with Lo:=(IntKind.wrap .u32 ((Arr5.get b.To a).Lo + (IntKind.wrap .u32 ((Arr5.get j a).Lo - (Arr5.get b.From a).Lo)))) }:Zb)))))),(6,(i64 c)),(12,(i64 (List.length d:Int))),(13,(i64 c)),(17,(Zt b.From)),(18,(i64 a))] [.cells (Zd b),bf 10 57 Za (List.set (List.set g (Int.toNat c) (Arr5.set f a ({ (Arr5.get f a) with Lo:=(IntKind.wrap .u32 ((Arr5.get b.To a).Lo + (IntKind.wrap .u32 ((Arr5.get j a).Lo - (Arr5.get b.From a).Lo)))) }:Zb))) (Int.toNat c) (Arr5.set k a ({ (Arr5.get k a) with Hi:=(IntKind.wrap .u32 ((Arr5.get b.To a).Lo + (IntKind.wrap .u32 ((Arr5.get o a).Hi - (Arr5.get b.From a).Lo)))) }:Zb))) false,.cells (Zi (Arr5.get b.From a))] ?_
       rw [show ([(1,(slc 10 Za d)),(2,(.ptr 0 0)),(5,(.own 1 (List.length (List.set g (Int.toNat c) (Arr5.set f a ({ (Arr5.get f a) with Lo:=(IntKind.wrap .u32 ((Arr5.get b.To a).Lo + (IntKind.wrap .u32 ((Arr5.get j a).Lo - (Arr5.get b.From a).Lo)))) }:Zb)))))),(6,(i64 c)),(12,(i64 (List.length d:Int))),(13,(i64 c)),(17,(Zt b.From)),(18,(i64 a))]:St)=[(1,(slc 10 Za d)),(2,(.ptr 0 0)),(5,(.own 1 (List.length (List.set (List.set g (Int.toNat c) (Arr5.set f a ({ (Arr5.get f a) with Lo:=(IntKind.wrap .u32 ((Arr5.get b.To a).Lo + (IntKind.wrap .u32 ((Arr5.get j a).Lo - (Arr5.get b.From a).Lo)))) }:Zb))) (Int.toNat c) (Arr5.set k a ({ (Arr5.get k a) with Hi:=(IntKind.wrap .u32 ((Arr5.get b.To a).Lo + (IntKind.wrap .u32 ((Arr5.get o a).Hi - (Arr5.get b.From a).Lo)))) }:Zb)))))),(6,(i64 c)),(12,(i64 (List.length d:Int))),(13,(i64 c)),(17,(Zt b.From)),(18,(i64 a))] by simp only [List.length_set]]
       refine AWP.rg0 [] [(1,(slc 10 Za d)),(2,(.ptr 0 0)),(5,(.own 1 (List.length (List.set (List.set g (Int.toNat c) (Arr5.set f a ({ (Arr5.get f a) with Lo:=(IntKind.wrap .u32 ((Arr5.get b.To a).Lo + (IntKind.wrap .u32 ((Arr5.get j a).Lo - (Arr5.get b.From a).Lo)))) }:Zb))) (Int.toNat c) (Arr5.set k a ({ (Arr5.get k a) with Hi:=(IntKind.wrap .u32 ((Arr5.get b.To a).Lo + (IntKind.wrap .u32 ((Arr5.get o a).Hi - (Arr5.get b.From a).Lo)))) }:Zb)))))),(6,(i64 c)),(12,(i64 (List.length d:Int))),(13,(i64 c)),(17,(Zt b.From)),(18,(i64 (ZI (a + (1:Int)))))] (LeQ.start (LeQ.pk [1,2,5,6,12,13,17,18] 2 ?_))
       exact⟨v,Nat.lt_succ_self _,(List.set (List.set g (Int.toNat c) (Arr5.set f a ({ (Arr5.get f a) with Lo:=(IntKind.wrap .u32 ((Arr5.get b.To a).Lo + (IntKind.wrap .u32 ((Arr5.get j a).Lo - (Arr5.get b.From a).Lo)))) }:Zb))) (Int.toNat c) (Arr5.set k a ({ (Arr5.get k a) with Hi:=(IntKind.wrap .u32 ((Arr5.get b.To a).Lo + (IntKind.wrap .u32 ((Arr5.get o a).Hi - (Arr5.get b.From a).Lo)))) }:Zb))),(ZI (a + (1:Int))),hF,by kernel_rfl,by kernel_rfl⟩
      ·refine AWP.exit (LeQ.start (LeQ.pk [1,2,5,12,13] 2 ?_))
       have hr:=someb hF
       subst hr
       exact⟨rfl,by kernel_rfl,by kernel_rfl⟩
    ·rintro _ _ _ ⟨rfl,rfl,rfl⟩
     refine AWP.rg0 [] [(1,(slc 10 Za d)),(2,(.ptr 0 0)),(5,(.own 1 (List.length q))),(12,(i64 (List.length d:Int))),(13,(i64 (ZI (c + (1:Int)))))] (LeQ.start (LeQ.pk [1,2,5,12,13] 2 ?_))
     exact⟨u,Nat.lt_succ_self _,q,(ZI (c + (1:Int))),hF,by kernel_rfl,by kernel_rfl⟩
   ·refine AWP.exit (LeQ.start (LeQ.pk [5] 2 ?_))
    have hr:=someb hF
    subst hr
    exact⟨rfl,by kernel_rfl,by kernel_rfl⟩
 ·rintro _ _ _ ⟨rfl,rfl,rfl⟩
  refine AWP.seq (AWP.rg0 [] [(4,(.own 1 (List.length p)))] (AWP.ret ?_))
  have hr:=someb hF
  subst hr
  exact(FnQ.f1 0 (.inr rfl) (.inl (Wk.ownT (i:=1) (s:=10) (t:=57) (l:=p) (sh:=false) (row:=Za) (by kernel_rfl) (.inl rfl))))
def Zlw (r:(ZL × Int)):PV→List Blk→Prop:=fun p K=>p=(.tup [(slc 10 Za r.1),(i64 r.2)])∧K=[]
theorem Zlx (d:ZL) (c:ZL) (r:(ZL × Int)) (hF:Ze8 d c=some r):ACall Tryz.prog glob 133 [(slc 10 Za d),(slc 10 Za c),(.sc (.func (.func 132) #[] #[]))] [] (Zlw r):=by
 refine ACall.body Tryz.func133 rfl (by kernel_rfl) ?_
 unfold Ze8 at hF
 refine AWP.seq (AWP.rg0 [] [(0,(slc 10 Za d)),(1,(slc 10 Za c)),(2,(.sc (.func (.func 132) #[] #[])))] (AWP.seq ?_))
 obtain⟨a,g,hF⟩:=bindb hF
 refine AWP.rg0 [(1,.call Tryz.func140 [] (Zf8 d a g))] [(1,(slc 10 Za c)),(2,(.sc (.func (.func 132) #[] #[]))),(8,(slc 10 Za a.1)),(9,(i64 a.2))] (AWP.seq (AWP.seq (AWP.rg0 [] [(1,(slc 10 Za c)),(2,(.sc (.func (.func 132) #[] #[]))),(8,(slc 10 Za a.1)),(9,(i64 a.2)),(17,(vb (a.2 != (0:Int))))] ?_)))
 refine AWP.cif hF (fun i hF=>?_) (fun i hF=>?_)
 ·refine AWP.seq (AWP.rg0 [] [(6,nils),(7,(i64 a.2))] (AWP.ret ?_))
  have hr:=someb hF
  subst hr
  exact(FnQ.f1 0 (.inr rfl) (.inr ⟨_,_,rfl,rfl,(.cons _ _ _ _ (.nil 10) (.cons _ _ _ _ (.refl _) .nil))⟩))
 ·refine AWP.skip (AWP.seq ?_)
  obtain⟨b,j,hF⟩:=bindb hF
  refine AWP.rg0 [(1,.call Tryz.func140 [] (Zf8 c b j))] [(2,(.sc (.func (.func 132) #[] #[]))),(8,(slc 10 Za a.1)),(9,(i64 b.2)),(10,(slc 10 Za b.1))] (AWP.seq (AWP.seq (AWP.rg0 [] [(2,(.sc (.func (.func 132) #[] #[]))),(8,(slc 10 Za a.1)),(9,(i64 b.2)),(10,(slc 10 Za b.1)),(25,(vb (b.2 != (0:Int))))] ?_)))
  refine AWP.cif hF (fun k hF=>?_) (fun k hF=>?_)
  ·refine AWP.seq (AWP.rg0 [] [(6,nils),(7,(i64 b.2))] (AWP.ret ?_))
   have hr:=someb hF
   subst hr
   exact(FnQ.f1 0 (.inr rfl) (.inr ⟨_,_,rfl,rfl,(.cons _ _ _ _ (.nil 10) (.cons _ _ _ _ (.refl _) .nil))⟩))
  ·refine AWP.skip (AWP.seq ?_)
   obtain⟨f,l,hF⟩:=bindb hF
   refine AWP.rg0 [(3,.call Tryz.func131 [] (Zhf a.1 b.1 f l))] [(6,(slc 10 Za f.1)),(7,(i64 f.2))] (AWP.ret ?_)
   have hr:=someb hF
   subst hr
   exact(FnQ.f0 0 (.inr rfl))
def Zqp (r:(ZL × Int)):PV→List Blk→Prop:=fun p K=>p=(.tup [(slc 10 Za r.1),(i64 r.2)])∧K=[]
theorem Zqq (a:ZL) (b:ZL) (r:(ZL × Int)) (hF:Zgi a b=some r):ACall Tryz.prog glob 102 [(slc 10 Za a),(slc 10 Za b)] [] (Zqp r):=by
 refine ACall.body Tryz.func102 rfl (by kernel_rfl) ?_
 unfold Zgi at hF
 refine AWP.seq (AWP.rg0 [] [(0,(slc 10 Za a)),(1,(slc 10 Za b))] (AWP.seq ?_))
 obtain⟨c,d,hF⟩:=bindb hF
 refine AWP.rg0 [(2,.call Tryz.func133 [] (Zlx a b c d))] [(4,(slc 10 Za c.1)),(5,(i64 c.2))] (AWP.ret ?_)
 have hr:=someb hF
 subst hr
 exact(FnQ.f0 0 (.inr rfl))
def Zm3 (r:(ZL × Zl)):PV→List Blk→Prop:=fun p K=>p=(slc 10 Za r.1)∧K=[.cells (Zm r.2)]
theorem Zfr (c:Zl) (a:ZL) (b:ZL) (r:(ZL × Zl)) (hF:Zb6 c a b=some r):ACall Tryz.prog glob 53 [(.ptr 0 0),(slc 10 Za a),(slc 10 Za b)] [.cells (Zm c)] (Zm3 r):=by
 refine ACall.body Tryz.func53 rfl (by kernel_rfl) ?_
 unfold Zb6 at hF
 refine AWP.seq (AWP.rg0 [] [(0,(.ptr 0 0)),(1,(slc 10 Za a)),(2,(slc 10 Za b))] (AWP.seq ?_))
 obtain⟨d,g,hF⟩:=bindb hF
 obtain⟨f,i,hF⟩:=bindb hF
 refine AWP.rg [(3,.call Tryz.func102 [] (Zqq a b d g)),(6,.call Tryz.func100 [] (Zf7 c d.1 d.2 f i))] [(6,(slc 10 Za f.1))] [.cells (Zm f.2)] (AWP.ret ?_)
 have hr:=someb hF
 subst hr
 exact(FnQ.f0 1 (.inr rfl))
def Zl4 (a:Zl) (r:(ZL × Int)):PV→List Blk→Prop:=fun p K=>p=(.tup [(slc 10 Za r.1),(i64 r.2)])∧K=[.cells (Zm a)]
theorem Zis (a:Zl) (b:ZL) (r:(ZL × Int)) (hF:Zdd a b=some r):ACall Tryz.prog glob 55 [(.ptr 0 0),(slc 10 Za b)] [.cells (Zm a)] (Zl4 a r):=by
 refine ACall.body Tryz.func55 rfl (by kernel_rfl) ?_
 unfold Zdd at hF
 refine AWP.seq (AWP.rg0 [] [(0,(.ptr 0 0)),(1,(slc 10 Za b))] (AWP.seq (AWP.seq (AWP.rg0 [] [(0,(.ptr 0 0)),(1,(slc 10 Za b)),(10,(vb (a.f_err != (0:Int))))] ?_))))
 refine AWP.cif hF (fun c hF=>?_) (fun c hF=>?_)
 ·refine AWP.seq (AWP.dr [] 5 [] [] [] [(4,nils),(5,(i64 a.f_err))] [.cells (Zm a)] (AWP.ret ?_))
  have hr:=someb hF
  subst hr
  exact(FnQ.f1 1 (.inr rfl) (.inr ⟨_,_,rfl,rfl,(.cons _ _ _ _ (.nil 10) (.cons _ _ _ _ (.refl _) .nil))⟩))
 ·refine AWP.skip (AWP.seq ?_)
  obtain⟨d,hF⟩:=chkb hF
  refine AWP.rg [(1,.clone Tryz.func103 Za (fun _=>by kernel_rfl) d)] [(4,(.own 1 (List.length b))),(5,(i64 (0:Int)))] [.cells (Zm a),bf 10 57 Za b false] (AWP.ret ?_)
  have hr:=someb hF
  subst hr
  exact(FnQ.f1 1 (.inr rfl) (.inr ⟨_,_,rfl,rfl,(.cons _ _ _ _ (Wk.ownT (i:=1) (s:=10) (t:=57) (l:=b) (sh:=false) (row:=Za) (by kernel_rfl) (.inl rfl)) (.cons _ _ _ _ (.refl _) .nil))⟩))
def Zst (r:(ZL × Int)):PV→List Blk→Prop:=fun p K=>p=(.tup [(slc 10 Za r.1),(i64 r.2)])∧K=[]
theorem Zmg (b:(List Zk)) (g:ZL) (r:(ZL × Int)) (hF:Zf0 b g=some r):ACall Tryz.prog glob 16 [(slc 20 Zd b),(slc 10 Za g)] [] (Zst r):=by
 refine ACall.body Tryz.func16 rfl (by kernel_rfl) ?_
 unfold Zf0 at hF
 refine AWP.seq (AWP.rg0 [] [(0,(slc 20 Zd b)),(1,(slc 10 Za g))] (AWP.seq (AWP.rg [] [(0,(slc 20 Zd b)),(1,(slc 10 Za g)),(6,(.ptr 0 0))] [.cells (Zm Zce)] (AWP.seq ?_))))
 obtain⟨w,a0,hF⟩:=bindb hF
 obtain⟨s,a1,hF⟩:=bindb hF
 obtain⟨a,a2,hF⟩:=bindb hF
 refine AWP.rg [(1,.call Tryz.func50 [] (Zni b w a0)),(3,.call Tryz.func51 [] (Zhq Zce g s a1)),(4,.call Tryz.func49 [] (Zi7 s.2 w s.1 a a2))] [(0,(slc 20 Zd b)),(6,(.ptr 0 0)),(7,(slc 1 Zf a.1)),(8,(slc 10 Za a.2.1))] [.cells (Zm a.2.2)] (AWP.seq (AWP.rg0 [] [(0,(slc 20 Zd b)),(6,(.ptr 0 0)),(7,(slc 1 Zf a.1)),(8,(slc 10 Za a.2.1)),(9,nils)] (AWP.seq (AWP.seq (AWP.rg0 [(1,.len Zf a.1)] [(0,(slc 20 Zd b)),(6,(.ptr 0 0)),(8,(slc 10 Za a.2.1)),(9,nils),(20,(slc 1 Zf a.1)),(21,(i64 (List.length a.1:Int))),(22,(i64 (0:Int)))] ?_)))))
 obtain⟨x,a3,hF⟩:=bindb hF
 refine AWP.mid (fun e st H=>(e=.normal∧∃ k,∃ l,x=(k,l)∧st=[(6,(.ptr 0 0)),(8,(slc 10 Za a.2.1)),(9,(slc 10 Za l))]∧H=[.cells (Zm k)])) ?_ ?_
 ·clear hF
  refine AWP.wk (p:=nils) (q:=(slc 10 Za ([]:ZL))) (st':=[(9,(slc 10 Za ([]:ZL))),(0,(slc 20 Zd b)),(6,(.ptr 0 0)),(8,(slc 10 Za a.2.1)),(20,(slc 1 Zf a.1)),(21,(i64 (List.length a.1:Int))),(22,(i64 (0:Int)))]) 9 (by kernel_rfl) (.nil 10) (by kernel_rfl) ?_
  refine AWP.kp [0,6,8,9,20,21,22] 1 ?_
  refine AWP.bround (fun n st H=>∃ f,∃ d,∃ c,Zcs b a n f d c=some x∧st=[(0,(slc 20 Zd b)),(6,(.ptr 0 0)),(8,(slc 10 Za a.2.1)),(9,(slc 10 Za d)),(20,(slc 1 Zf a.1)),(21,(i64 (List.length a.1:Int))),(22,(i64 c))]∧H=[.cells (Zm f)]) fuel ⟨a.2.2,([]:ZL),(0:Int),a3,by kernel_rfl,by kernel_rfl⟩ ?_
  rintro t st H ⟨f,d,c,hF,rfl,rfl⟩
  cases t with
  | zero=>exact noneb hF
  | succ t=>
   rw [Zcs] at hF
   refine AWP.seq (AWP.rg0 [] [(0,(slc 20 Zd b)),(6,(.ptr 0 0)),(8,(slc 10 Za a.2.1)),(9,(slc 10 Za d)),(20,(slc 1 Zf a.1)),(21,(i64 (List.length a.1:Int))),(22,(i64 c)),(23,(vb (decide (c<(List.length a.1:Int)))))] (AWP.seq ?_))
   refine AWP.cif hF (fun a4 hF=>?_) (fun a4 hF=>?_)
   ·refine AWP.skip ?_
    obtain⟨a5,a6,hF⟩:=bindb hF
    refine AWP.seq ?_
    refine AWP.mid (fun e st H=>(e=.normal∧∃ m,∃ i,a5=(m,i)∧st=[(0,(slc 20 Zd b)),(6,(.ptr 0 0)),(8,(slc 10 Za a.2.1)),(9,(slc 10 Za i)),(20,(slc 1 Zf a.1)),(21,(i64 (List.length a.1:Int))),(22,(i64 c))]∧H=[.cells (Zm m)])) ?_ ?_
    ·clear hF
     have hF:=a6
     refine AWP.block (AWP.seq ?_)
     obtain⟨u,a7,hF⟩:=bindb hF
     refine AWP.rg0 [(1,.idx Zf a7)] [(0,(slc 20 Zd b)),(6,(.ptr 0 0)),(8,(slc 10 Za a.2.1)),(9,(slc 10 Za d)),(10,(i64 c)),(11,(slc 10 Za u)),(20,(slc 1 Zf a.1)),(21,(i64 (List.length a.1:Int))),(22,(i64 c))] (AWP.seq ?_)
     obtain⟨a8,a9,hF⟩:=bindb hF
     obtain⟨y,b0,hF⟩:=bindb hF
     refine AWP.rg0 [(2,.idx Zd a9),(4,.call Tryz.func52 [] (Zgu a8 y b0))] [(0,(slc 20 Zd b)),(6,(.ptr 0 0)),(8,(slc 10 Za a.2.1)),(9,(slc 10 Za d)),(10,(i64 c)),(11,(slc 10 Za u)),(20,(slc 1 Zf a.1)),(21,(i64 (List.length a.1:Int))),(22,(i64 c)),(31,(vb y))] ?_
     refine AWP.cif hF (fun b1 hF=>?_) (fun b1 hF=>?_)
     ·obtain⟨b2,b3,hF⟩:=bindb hF
      obtain⟨z,b4,hF⟩:=bindb hF
      obtain⟨j,b5,hF⟩:=bindb hF
      refine AWP.rg [(3,.idx Zd b3),(6,.call Tryz.func54 [] (Ziz b2 u z b4)),(7,.call Tryz.func53 [] (Zfr f d z j b5))] [(0,(slc 20 Zd b)),(6,(.ptr 0 0)),(8,(slc 10 Za a.2.1)),(9,(slc 10 Za j.1)),(20,(slc 1 Zf a.1)),(21,(i64 (List.length a.1:Int))),(22,(i64 c))] [.cells (Zm j.2)] (LeQ.start (LeQ.pk [0,6,8,9,20,21,22] 1 ?_))
      exact⟨rfl,j.2,j.1,(someb hF).symm,by kernel_rfl,by kernel_rfl⟩
     ·refine AWP.skip (LeQ.start (LeQ.pk [0,6,8,9,20,21,22] 1 ?_))
      exact⟨rfl,f,d,(someb hF).symm,by kernel_rfl,by kernel_rfl⟩
    ·rintro _ _ _ ⟨rfl,m,i,rfl,rfl,rfl⟩
     refine AWP.rg0 [] [(0,(slc 20 Zd b)),(6,(.ptr 0 0)),(8,(slc 10 Za a.2.1)),(9,(slc 10 Za i)),(20,(slc 1 Zf a.1)),(21,(i64 (List.length a.1:Int))),(22,(i64 (ZI (c + (1:Int)))))] (LeQ.start (LeQ.pk [0,6,8,9,20,21,22] 1 ?_))
     exact⟨t,Nat.lt_succ_self _,m,i,(ZI (c + (1:Int))),hF,by kernel_rfl,by kernel_rfl⟩
   ·refine AWP.exit (LeQ.start (LeQ.pk [6,8,9] 1 ?_))
    exact⟨rfl,f,d,(someb hF).symm,by kernel_rfl,by kernel_rfl⟩
 ·rintro _ _ _ ⟨rfl,k,l,rfl,rfl,rfl⟩
  refine AWP.seq ?_
  obtain⟨o,b6,hF⟩:=bindb hF
  obtain⟨v,b7,hF⟩:=bindb hF
  refine AWP.rg [(2,.call Tryz.func53 [] (Zfr k l a.2.1 o b6)),(3,.call Tryz.func55 [] (Zis o.2 o.1 v b7))] [(4,(slc 10 Za v.1)),(5,(i64 v.2))] [.cells (Zm o.2)] (AWP.ret ?_)
  have hr:=someb hF
  subst hr
  exact(FnQ.f0 0 (.inr rfl))
def Zsu (r:ZL):PV→List Blk→Prop:=fun p K=>p=(slc 10 Za r)∧K=[]
theorem Zmh (a:ZL) (r:ZL) (hF:Zg7 a=some r):ACall Tryz.prog glob 61 [(slc 10 Za a)] [] (Zsu r):=by
 refine ACall.body Tryz.func61 rfl (by kernel_rfl) ?_
 unfold Zg7 at hF
 refine AWP.seq (AWP.rg0 [] [(0,(slc 10 Za a))] (AWP.seq (AWP.rg0 [] [(0,(slc 10 Za a)),(3,nils)] ?_)))
 refine AWP.own (H':=[bf 10 57 Za ([]:ZL) false]) (st':=[(3,(.own 0 (List.length ([]:ZL)))),(0,(slc 10 Za a))]) 3 10 57 (by kernel_rfl) (by kernel_rfl) (by kernel_rfl) ?_
 refine AWP.pick (st':=[(0,(slc 10 Za a)),(3,(.own 0 (List.length ([]:ZL))))]) (ks:=[0,3]) (by kernel_rfl) ?_
 refine AWP.seq (AWP.seq (AWP.rg0 [] [(0,(slc 10 Za a)),(3,(.own 0 (List.length ([]:ZL)))),(4,(i64 (0:Int)))] ?_))
 obtain⟨d,m,hF⟩:=bindb hF
 refine AWP.mid (fun e st H=>e=.normal∧st=[(3,(.own 0 (List.length d)))]∧H=[bf 10 57 Za d false]) ?_ ?_
 ·clear hF
  refine AWP.kp [0,3,4] 1 ?_
  refine AWP.bround (fun n st H=>∃ c,∃ b,Zd5 a n c b=some d∧st=[(0,(slc 10 Za a)),(3,(.own 0 (List.length c))),(4,(i64 b))]∧H=[bf 10 57 Za c false]) fuel ⟨([]:ZL),(0:Int),m,by kernel_rfl,by kernel_rfl⟩ ?_
  rintro g st H ⟨c,b,hF,rfl,rfl⟩
  cases g with
  | zero=>exact noneb hF
  | succ g=>
   rw [Zd5] at hF
   refine AWP.seq (AWP.seq (AWP.rg0 [(2,.len Za a)] [(0,(slc 10 Za a)),(3,(.own 0 (List.length c))),(4,(i64 b)),(8,(vb (decide (b<(List.length a:Int)))))] ?_))
   refine AWP.cif hF (fun o hF=>?_) (fun o hF=>?_)
   ·refine AWP.skip ?_
    obtain⟨f,p,hF⟩:=bindb hF
    refine AWP.seq ?_
    refine AWP.mid (fun e st H=>e=.normal∧st=[(0,(slc 10 Za a)),(3,(.own 0 (List.length f))),(4,(i64 b))]∧H=[bf 10 57 Za f false]) ?_ ?_
    ·clear hF
     have hF:=p
     refine AWP.block (AWP.seq ?_)
     obtain⟨q,u,hF⟩:=bindb hF
     obtain⟨j,v,hF⟩:=bindb hF
     refine AWP.rg0 [(2,.idx Za u),(4,.call Tryz.func96 [] (Zcv q j v))] [(0,(slc 10 Za a)),(3,(.own 0 (List.length c))),(4,(i64 b)),(15,(vb j))] ?_
     refine AWP.cif hF (fun w hF=>?_) (fun w hF=>?_)
     ·obtain⟨k,x,hF⟩:=bindb hF
      obtain⟨y,hF⟩:=chkb hF
      refine AWP.rg [(3,.idx Za x),(6,.app Za (fun _=>by kernel_rfl) y)] [(0,(slc 10 Za a)),(3,(.own 0 (List.length (c++[k])))),(4,(i64 b))] [bf 10 57 Za (c++[k]) false] (LeQ.start (LeQ.pk [0,3,4] 1 ?_))
      have hr:=someb hF
      subst hr
      exact⟨rfl,by kernel_rfl,by kernel_rfl⟩
     ·refine AWP.skip (LeQ.start (LeQ.pk [0,3,4] 1 ?_))
      have hr:=someb hF
      subst hr
      exact⟨rfl,by kernel_rfl,by kernel_rfl⟩
    ·rintro _ _ _ ⟨rfl,rfl,rfl⟩
     refine AWP.rg0 [] [(0,(slc 10 Za a)),(3,(.own 0 (List.length f))),(4,(i64 (ZI (b + (1:Int)))))] (LeQ.start (LeQ.pk [0,3,4] 1 ?_))
     exact⟨g,Nat.lt_succ_self _,f,(ZI (b + (1:Int))),hF,by kernel_rfl,by kernel_rfl⟩
   ·refine AWP.exit (LeQ.start (LeQ.pk [3] 1 ?_))
    have hr:=someb hF
    subst hr
    exact⟨rfl,by kernel_rfl,by kernel_rfl⟩
 ·rintro _ _ _ ⟨rfl,rfl,rfl⟩
  refine AWP.seq (AWP.rg0 [] [(2,(.own 0 (List.length d)))] (AWP.ret ?_))
  have hr:=someb hF
  subst hr
  exact(FnQ.f1 0 (.inr rfl) (.inl (Wk.ownT (i:=0) (s:=10) (t:=57) (l:=d) (sh:=false) (row:=Za) (by kernel_rfl) (.inl rfl))))
def Zmi (r:Bool):PV→List Blk→Prop:=fun p K=>p=(vb r)∧K=[]
abbrev Zmj (r:Bool):Exit→St→List Blk→Prop:=FnQ Tryz.prog Tryz.f159.results 0 (Zmi r)
theorem Zsv (a:ZL) (b:ZL) (c:Int) (r:Bool) (hF:Zf1 a b c=some r):ACall Tryz.prog glob 159 [(slc 10 Za a),(slc 10 Za b),(i64 c)] [] (Zmi r):=by
 refine ACall.body Tryz.func159 rfl (by kernel_rfl) ?_
 unfold Zf1 at hF
 refine AWP.seq (AWP.rg0 [] [(0,(slc 10 Za a)),(1,(slc 10 Za b)),(2,(i64 c))] (AWP.seq (AWP.seq (AWP.rg0 [(1,.len Za a),(3,.len Za b)] [(0,(slc 10 Za a)),(1,(slc 10 Za b)),(2,(i64 c)),(13,(vb ((List.length a:Int) != (List.length b:Int))))] ?_))))
 refine AWP.cif hF (fun q hF=>?_) (fun q hF=>?_)
 ·refine AWP.seq (AWP.rg0 [] [(6,(vb false))] (AWP.ret ?_))
  have hr:=someb hF
  subst hr
  exact(FnQ.f0 0 (.inr rfl))
 ·refine AWP.skip (AWP.seq (AWP.seq (AWP.rg0 [] [(0,(slc 10 Za a)),(1,(slc 10 Za b)),(2,(i64 c)),(7,(i64 (0:Int)))] ?_)))
  obtain⟨g,s,hF⟩:=bindb hF
  refine AWP.mid (fun e st H=>(e=.normal∧g=(.inl ())∧st=[]∧H=[])∨(e=.ret∧∃ r,g=(.inr r)∧Zmj r e st H)) ?_ ?_
  ·clear hF
   refine AWP.kp [0,1,2,7] 0 ?_
   refine AWP.bround (fun n st H=>∃ d,Zd7 a b c n d=some g∧st=[(0,(slc 10 Za a)),(1,(slc 10 Za b)),(2,(i64 c)),(7,(i64 d))]∧H=[]) fuel ⟨(0:Int),s,by kernel_rfl,by kernel_rfl⟩ ?_
   rintro i st H ⟨d,hF,rfl,rfl⟩
   cases i with
   | zero=>exact noneb hF
   | succ i=>
    rw [Zd7] at hF
    refine AWP.seq (AWP.seq (AWP.rg0 [(2,.len Za a)] [(0,(slc 10 Za a)),(1,(slc 10 Za b)),(2,(i64 c)),(7,(i64 d)),(17,(vb (decide (d<(List.length a:Int)))))] ?_))
    refine AWP.cif hF (fun t hF=>?_) (fun t hF=>?_)
    ·refine AWP.skip (AWP.seq (AWP.block (AWP.seq (AWP.rg0 [] [(0,(slc 10 Za a)),(1,(slc 10 Za b)),(2,(i64 c)),(7,(i64 d)),(8,(i64 c))] ?_))))
     obtain⟨j,u,hF⟩:=bindb hF
     refine AWP.mid (fun e st H=>(e=.normal∧j=(.inl ())∧st=[(0,(slc 10 Za a)),(1,(slc 10 Za b)),(2,(i64 c)),(7,(i64 d))]∧H=[])∨(e=.ret∧∃ r,j=(.inr r)∧Zmj r e st H)) ?_ ?_
     ·clear hF
      refine AWP.kp [0,1,2,7,8] 0 ?_
      refine AWP.bround (fun n st H=>∃ f,Zd6 a b d n f=some j∧st=[(0,(slc 10 Za a)),(1,(slc 10 Za b)),(2,(i64 c)),(7,(i64 d)),(8,(i64 f))]∧H=[]) fuel ⟨c,u,by kernel_rfl,by kernel_rfl⟩ ?_
      rintro k st H ⟨f,hF,rfl,rfl⟩
      cases k with
      | zero=>exact noneb hF
      | succ k=>
       rw [Zd6] at hF
       refine AWP.seq (AWP.seq (AWP.rg0 [] [(0,(slc 10 Za a)),(1,(slc 10 Za b)),(2,(i64 c)),(7,(i64 d)),(8,(i64 f)),(22,(vb (decide (f<(5:Int)))))] ?_))
       refine AWP.cif hF (fun v hF=>?_) (fun v hF=>?_)
       ·refine AWP.skip (AWP.seq (AWP.block (AWP.seq ?_)))
        obtain⟨l,w,hF⟩:=bindb hF
        obtain⟨m,hF⟩:=chkb hF
        obtain⟨o,x,hF⟩:=bindb hF
        obtain⟨p,hF⟩:=chkb hF
        refine AWP.dr [(3,.idx Za w),(4,.ixd m),(5,.ldA Zi (Arr5.get l) 0 2 0 m),(9,.idx Za x),(10,.ixd p),(11,.ldA Zi (Arr5.get o) 0 2 0 p)] 13 [] [] [] [(0,(slc 10 Za a)),(1,(slc 10 Za b)),(2,(i64 c)),(7,(i64 d)),(8,(i64 f)),(37,(vb (!(Zdj (Arr5.get l f) (Arr5.get o f)))))] [] ?_
        refine AWP.cif hF (fun y hF=>?_) (fun y hF=>?_)
        ·refine AWP.seq (AWP.rg0 [] [(6,(vb false))] (AWP.ret ?_))
         exact LeQ.of (.inr ⟨rfl,false,(someb hF).symm,(FnQ.f0 0 (.inr rfl))⟩)
        ·refine AWP.skip (AWP.rg0 [] [(0,(slc 10 Za a)),(1,(slc 10 Za b)),(2,(i64 c)),(7,(i64 d)),(8,(i64 (ZI (f + (1:Int)))))] (LeQ.start (LeQ.pk [0,1,2,7,8] 0 ?_)))
         exact⟨k,Nat.lt_succ_self _,(ZI (f + (1:Int))),hF,by kernel_rfl,by kernel_rfl⟩
       ·refine AWP.exit (LeQ.start (LeQ.pk [0,1,2,7] 0 ?_))
        exact(.inl ⟨rfl,(someb hF).symm,by kernel_rfl,by kernel_rfl⟩)
     ·rintro _ _ _ (⟨rfl,rfl,rfl,rfl⟩ | ⟨rfl,z,rfl,hq⟩)
      ·refine AWP.rg0 [] [(0,(slc 10 Za a)),(1,(slc 10 Za b)),(2,(i64 c)),(7,(i64 (ZI (d + (1:Int)))))] (LeQ.start (LeQ.pk [0,1,2,7] 0 ?_))
       exact⟨i,Nat.lt_succ_self _,(ZI (d + (1:Int))),hF,by kernel_rfl,by kernel_rfl⟩
      ·exact LeQ.of (.inr ⟨rfl,z,(someb hF).symm,hq⟩)
    ·refine AWP.exit (LeQ.start (LeQ.pk [] 0 ?_))
     exact(.inl ⟨rfl,(someb hF).symm,by kernel_rfl,by kernel_rfl⟩)
  ·rintro _ _ _ (⟨rfl,rfl,rfl,rfl⟩ | ⟨rfl,a0,rfl,hq⟩)
   ·refine AWP.seq (AWP.rg0 [] [(6,(vb true))] (AWP.ret ?_))
    have hr:=someb hF
    subst hr
    exact(FnQ.f0 0 (.inr rfl))
   ·have hr:=someb hF
    subst hr
    exact hq
def Zh1 (r:Bool):PV→List Blk→Prop:=fun p K=>p=(vb r)∧K=[]
abbrev Zh2 (r:Bool):Exit→St→List Blk→Prop:=FnQ Tryz.prog Tryz.f156.results 0 (Zh1 r)
theorem Znn:∀(nr:Nat) (a:ZL) (b:Int) (r:Bool) (hF:Zbl nr a b=some r),ACall Tryz.prog glob 156 [(slc 10 Za a),(i64 b)] [] (Zh1 r):=by
 intro nr
 induction nr with
 | zero=>intro a b r hF; exact noneb (by rw [Zbl] at hF; exact hF)
 | succ nr ih=>
  intro a b r hF
  refine ACall.body Tryz.func156 rfl (by kernel_rfl) ?_
  rw [Zbl] at hF
  refine AWP.seq (AWP.rg0 [] [(0,(slc 10 Za a)),(1,(i64 b))] (AWP.seq (AWP.seq (AWP.rg0 [] [(0,(slc 10 Za a)),(1,(i64 b)),(12,(vb (b == (5:Int))))] ?_))))
  refine AWP.cif hF (fun b0 hF=>?_) (fun b0 hF=>?_)
  ·refine AWP.seq (AWP.rg0 [(1,.len Za a)] [(4,(vb ((List.length a:Int) == (1:Int))))] (AWP.ret ?_))
   have hr:=someb hF
   subst hr
   exact(FnQ.f0 0 (.inr rfl))
  ·refine AWP.skip (AWP.seq (AWP.rg0 [] [(0,(slc 10 Za a)),(1,(i64 b)),(5,nils)] (AWP.seq (AWP.seq (AWP.rg0 [] [(0,(slc 10 Za a)),(1,(i64 b)),(5,nils),(6,(i64 (0:Int)))] ?_)))))
   obtain⟨x,b1,hF⟩:=bindb hF
   refine AWP.mid (fun e st H=>(e=.normal∧x=(.inl ())∧st=[]∧H=[])∨(e=.ret∧∃ r,x=(.inr r)∧Zh2 r e st H)) ?_ ?_
   ·clear hF
    refine AWP.wk (p:=nils) (q:=(slc 10 Za ([]:ZL))) (st':=[(5,(slc 10 Za ([]:ZL))),(0,(slc 10 Za a)),(1,(i64 b)),(6,(i64 (0:Int)))]) 5 (by kernel_rfl) (.nil 10) (by kernel_rfl) ?_
    refine AWP.kp [0,1,5,6] 0 ?_
    refine AWP.bround (fun n st H=>∃ d,∃ c,Zb7 a b (Zbl nr) n d c=some x∧st=[(0,(slc 10 Za a)),(1,(i64 b)),(5,(slc 10 Za d)),(6,(i64 c))]∧H=[]) fuel ⟨([]:ZL),(0:Int),b1,by kernel_rfl,by kernel_rfl⟩ ?_
    rintro y st H ⟨d,c,hF,rfl,rfl⟩
    cases y with
    | zero=>exact noneb hF
    | succ y=>
     rw [Zb7] at hF
     refine AWP.seq (AWP.seq (AWP.rg0 [(2,.len Za a)] [(0,(slc 10 Za a)),(1,(i64 b)),(5,(slc 10 Za d)),(6,(i64 c)),(19,(vb (decide (c<(List.length a:Int)))))] ?_))
     refine AWP.cif hF (fun b2 hF=>?_) (fun b2 hF=>?_)
     ·refine AWP.skip ?_
      obtain⟨a0,b3,hF⟩:=bindb hF
      refine AWP.seq ?_
      refine AWP.mid (fun e st H=>(e=.normal∧∃ i,a0=(.inl i)∧st=[(0,(slc 10 Za a)),(1,(i64 b)),(5,(slc 10 Za i)),(6,(i64 c))]∧H=[])∨(e=.ret∧∃ r,a0=(.inr r)∧Zh2 r e st H)) ?_ ?_
      ·clear hF
       have hF:=b3
       refine AWP.block (AWP.seq (AWP.rg0 [] [(0,(slc 10 Za a)),(1,(i64 b)),(5,(slc 10 Za d)),(6,(i64 c)),(7,(i64 c))] (AWP.seq ?_)))
       obtain⟨f,b4,hF⟩:=bindb hF
       refine AWP.mid (fun e st H=>e=.normal∧st=[(0,(slc 10 Za a)),(1,(i64 b)),(5,(slc 10 Za d)),(6,(i64 c)),(7,(i64 f))]∧H=[]) ?_ ?_
       ·clear hF
        refine AWP.kp [0,1,5,6,7] 0 ?_
        refine AWP.bround (fun n st H=>∃ k,Zcz a b c n k=some f∧st=[(0,(slc 10 Za a)),(1,(i64 b)),(5,(slc 10 Za d)),(6,(i64 c)),(7,(i64 k))]∧H=[]) fuel ⟨c,b4,by kernel_rfl,by kernel_rfl⟩ ?_
        rintro z st H ⟨k,hF,rfl,rfl⟩
        cases z with
        | zero=>exact noneb hF
        | succ z=>
         rw [Zcz] at hF
         refine AWP.seq (AWP.seq ?_)
         obtain⟨b5,o,hF⟩:=bindb hF
         replace o:=someb o
         obtain⟨b6,a1,hF⟩:=bindb hF
         refine AWP.to [(0,(slc 10 Za a)),(1,(i64 b)),(5,(slc 10 Za d)),(6,(i64 c)),(7,(i64 k)),(43,(vb b6))] [] ?_ ?_
         ·cases b5 with
          | false=>
           have b7:=someb (ifF a1 rfl)
           subst b7
           exact AWP.drT [(2,.len Za a),(4,.bool o)] 19 [] [] []
          | true=>
           have g:=ifT a1 rfl
           obtain⟨b8,b9,g⟩:=bindb g
           obtain⟨a2,g⟩:=chkb g
           obtain⟨c0,c1,g⟩:=bindb g
           obtain⟨a3,g⟩:=chkb g
           replace g:=someb g
           subst g
           exact AWP.drT [(2,.len Za a),(4,.bool o),(8,.idx Za b9),(9,.ixd a2),(10,.ldA Zi (Arr5.get b8) 0 2 0 a2),(14,.idx Za c1),(15,.ixd a3),(16,.ldA Zi (Arr5.get c0) 0 2 0 a3)] 19 [] [] []
         refine AWP.cif hF (fun c2 hF=>?_) (fun c2 hF=>?_)
         ·refine AWP.skip (AWP.block (AWP.rg0 [] [(0,(slc 10 Za a)),(1,(i64 b)),(5,(slc 10 Za d)),(6,(i64 c)),(7,(i64 (ZI (k + (1:Int)))))] (LeQ.start (LeQ.pk [0,1,5,6,7] 0 ?_))))
          exact⟨z,Nat.lt_succ_self _,(ZI (k + (1:Int))),hF,by kernel_rfl,by kernel_rfl⟩
         ·refine AWP.exit (LeQ.start (LeQ.pk [0,1,5,6,7] 0 ?_))
          have hr:=someb hF
          subst hr
          exact⟨rfl,by kernel_rfl,by kernel_rfl⟩
       ·rintro _ _ _ ⟨rfl,rfl,rfl⟩
        refine AWP.seq ?_
        obtain⟨c3,hF⟩:=chkb hF
        refine AWP.rg0 [(3,.slice Za a c3)] [(0,(slc 10 Za a)),(1,(i64 b)),(5,(slc 10 Za d)),(6,(i64 c)),(8,(slc 10 Za (List.drop (Int.toNat c) (List.take (Int.toNat f) a))))] ?_
        obtain⟨a4,c4,hF⟩:=bindb hF
        refine AWP.seq ?_
        refine AWP.mid (fun e st H=>(e=.normal∧a4=(.inl ())∧st=[(0,(slc 10 Za a)),(1,(i64 b)),(6,(i64 c)),(8,(slc 10 Za (List.drop (Int.toNat c) (List.take (Int.toNat f) a))))]∧H=[])∨(e=.ret∧∃ r,a4=(.inr r)∧Zh2 r e st H)) ?_ ?_
        ·clear hF
         have hF:=c4
         refine AWP.seq (AWP.rg0 [] [(0,(slc 10 Za a)),(1,(i64 b)),(5,(slc 10 Za d)),(6,(i64 c)),(8,(slc 10 Za (List.drop (Int.toNat c) (List.take (Int.toNat f) a)))),(51,(vb (decide (c > (0:Int)))))] ?_)
         refine AWP.cif hF (fun c5 hF=>?_) (fun c5 hF=>?_)
         ·refine AWP.seq ?_
          obtain⟨s,a5,hF⟩:=bindb hF
          obtain⟨t,hF⟩:=chkb hF
          obtain⟨u,a6,hF⟩:=bindb hF
          obtain⟨v,hF⟩:=chkb hF
          refine AWP.to [(0,(slc 10 Za a)),(1,(i64 b)),(5,(slc 10 Za d)),(6,(i64 c)),(8,(slc 10 Za (List.drop (Int.toNat c) (List.take (Int.toNat f) a)))),(9,(.ptr 0 0)),(10,(.ptr 1 0))] [.cells (Zi (Arr5.get s b)),.cells (Zi (Arr5.get u b))] ?_ ?_
          ·refine AWP.of_draw (by kernel_rfl) ?_
           refine ADraw.either 14 13 (by kernel_rfl) ?_ ?_
           ·exact ADraw.drT [(4,.idx Za a5),(5,.ixd t),(6,.ldA Zi (Arr5.get s) 0 2 0 t),(10,.idx Za a6),(11,.ixd v),(12,.ldA Zi (Arr5.get u) 0 2 0 v)] 16 [] [13,14,15] []
           ·exact ADraw.drT [(4,.idx Za a5),(5,.ixd t),(6,.ldA Zi (Arr5.get s) 0 2 0 t),(10,.idx Za a6),(11,.ixd v),(12,.ldA Zi (Arr5.get u) 0 2 0 v)] 16 [0,1,2,3,4,5,6,7,8,9,10,11,12,14,13,15] [14,13,15] [(0,1)]
          refine AWP.seq ?_
          obtain⟨c6,l,hF⟩:=bindb hF
          replace l:=someb l
          obtain⟨c7,a7,hF⟩:=bindb hF
          refine AWP.to [(0,(slc 10 Za a)),(1,(i64 b)),(6,(i64 c)),(8,(slc 10 Za (List.drop (Int.toNat c) (List.take (Int.toNat f) a)))),(84,(vb c7))] [.cells (Zi (Arr5.get s b)),.cells (Zi (Arr5.get u b))] ?_ ?_
          ·cases c6 with
           | false=>
            have j:=ifF a7 rfl
            obtain⟨c8,w,j⟩:=bindb j
            replace w:=someb w
            obtain⟨d8,a8,j⟩:=bindb j
            replace j:=someb j
            subst j
            cases c8 with
            | false=>
             have c9:=someb (ifF a8 rfl)
             subst c9
             exact AWP.rgT [(5,.bool l),(12,.bool w)]
            | true=>
             have m:=ifT a8 rfl
             obtain⟨d0,d1,m⟩:=bindb m
             replace m:=someb m
             subst m
             exact AWP.rgT [(5,.bool l),(12,.bool w),(17,.call Tryz.func159 [] (Zsv d (List.drop (Int.toNat c) (List.take (Int.toNat f) a)) (ZI (b + (1:Int))) d0 d1))]
           | true=>
            have d2:=someb (ifT a7 rfl)
            subst d2
            exact AWP.rgT [(5,.bool l)]
          refine AWP.cif hF (fun d3 hF=>?_) (fun d3 hF=>?_)
          ·refine AWP.seq (AWP.rg0 [] [(4,(vb false))] (AWP.ret ?_))
           exact LeQ.of (.inr ⟨rfl,false,(someb hF).symm,(FnQ.f0 0 (.inr rfl))⟩)
          ·refine AWP.skip (LeQ.start (LeQ.pk [0,1,6,8] 0 ?_))
           exact(.inl ⟨rfl,(someb hF).symm,by kernel_rfl,by kernel_rfl⟩)
         ·refine AWP.skip (LeQ.start (LeQ.pk [0,1,6,8] 0 ?_))
          exact(.inl ⟨rfl,(someb hF).symm,by kernel_rfl,by kernel_rfl⟩)
        ·rintro _ _ _ (⟨rfl,rfl,rfl,rfl⟩ | ⟨rfl,d4,rfl,hq⟩)
         ·refine AWP.seq (AWP.seq ?_)
          obtain⟨a9,d5,hF⟩:=bindb hF
          refine AWP.rg0 [(3,.call Tryz.func156 [] (ih (List.drop (Int.toNat c) (List.take (Int.toNat f) a)) (ZI (b + (1:Int))) a9 d5))] [(0,(slc 10 Za a)),(1,(i64 b)),(6,(i64 c)),(8,(slc 10 Za (List.drop (Int.toNat c) (List.take (Int.toNat f) a)))),(89,(vb (!a9)))] ?_
          refine AWP.cif hF (fun d6 hF=>?_) (fun d6 hF=>?_)
          ·refine AWP.seq (AWP.rg0 [] [(4,(vb false))] (AWP.ret ?_))
           exact LeQ.of (.inr ⟨rfl,false,(someb hF).symm,(FnQ.f0 0 (.inr rfl))⟩)
          ·refine AWP.skip (AWP.rg0 [] [(0,(slc 10 Za a)),(1,(i64 b)),(5,(slc 10 Za (List.drop (Int.toNat c) (List.take (Int.toNat f) a)))),(6,(i64 c))] (LeQ.start (LeQ.pk [0,1,5,6] 0 ?_)))
           exact(.inl ⟨rfl,(List.drop (Int.toNat c) (List.take (Int.toNat f) a)),(someb hF).symm,by kernel_rfl,by kernel_rfl⟩)
         ·exact LeQ.of (.inr ⟨rfl,d4,(someb hF).symm,hq⟩)
      ·rintro _ _ _ (⟨rfl,i,rfl,rfl,rfl⟩ | ⟨rfl,d7,rfl,hq⟩)
       ·refine AWP.rg0 [(2,.len Za i)] [(0,(slc 10 Za a)),(1,(i64 b)),(5,(slc 10 Za i)),(6,(i64 (ZI (c + (List.length i:Int)))))] (LeQ.start (LeQ.pk [0,1,5,6] 0 ?_))
        exact⟨y,Nat.lt_succ_self _,i,(ZI (c + (List.length i:Int))),hF,by kernel_rfl,by kernel_rfl⟩
       ·exact LeQ.of (.inr ⟨rfl,d7,(someb hF).symm,hq⟩)
     ·refine AWP.exit (LeQ.start (LeQ.pk [] 0 ?_))
      exact(.inl ⟨rfl,(someb hF).symm,by kernel_rfl,by kernel_rfl⟩)
   ·rintro _ _ _ (⟨rfl,rfl,rfl,rfl⟩ | ⟨rfl,d9,rfl,hq⟩)
    ·refine AWP.seq (AWP.rg0 [] [(4,(vb true))] (AWP.ret ?_))
     have hr:=someb hF
     subst hr
     exact(FnQ.f0 0 (.inr rfl))
    ·have hr:=someb hF
     subst hr
     exact hq
theorem Zot (a:ZL) (b:Int) (r:Bool) (hF:Zbl fuel a b=some r):ACall Tryz.prog glob 156 [(slc 10 Za a),(i64 b)] [] (Zh1 r):=Znn fuel a b r hF
def Zsw (r:Bool):PV→List Blk→Prop:=fun p K=>p=(vb r)∧K=[]
theorem Zsx (a:ZL) (r:Bool) (hF:Zf2 a=some r):ACall Tryz.prog glob 153 [(slc 10 Za a)] [] (Zsw r):=by
 refine ACall.body Tryz.func153 rfl (by kernel_rfl) ?_
 unfold Zf2 at hF
 refine AWP.seq (AWP.rg0 [] [(0,(slc 10 Za a))] (AWP.seq ?_))
 obtain⟨l,b,hF⟩:=bindb hF
 replace b:=someb b
 obtain⟨u,j,hF⟩:=bindb hF
 obtain⟨m,c,hF⟩:=bindb hF
 replace c:=someb c
 obtain⟨n,i,hF⟩:=bindb hF
 refine AWP.to [(2,(vb n))] [] ?_ ?_
 ·cases l with
  | false=>
   have o:=someb (ifF j rfl)
   subst o
   subst c
   have p:=someb (ifF i rfl)
   subst p
   exact AWP.rgT [(1,.len Za a),(3,.bool b)]
  | true=>
   have d:=ifT j rfl
   obtain⟨g,k,d⟩:=bindb d
   replace d:=someb d
   subst d
   cases m with
   | false=>
    have q:=someb (ifF i rfl)
    subst q
    exact AWP.rgT [(1,.len Za a),(3,.bool b),(5,.call Tryz.func61 [] (Zmh a g k)),(6,.len Za g),(8,.len Za a),(11,.bool c)]
   | true=>
    have f:=ifT i rfl
    obtain⟨s,t,f⟩:=bindb f
    replace f:=someb f
    subst f
    exact AWP.rgT [(1,.len Za a),(3,.bool b),(5,.call Tryz.func61 [] (Zmh a g k)),(6,.len Za g),(8,.len Za a),(11,.bool c),(13,.call Tryz.func156 [] (Zot a (0:Int) s t))]
 refine AWP.ret ?_
 have hr:=someb hF
 subst hr
 exact(FnQ.f0 0 (.inr rfl))
def Zsy (r:(ZL × Int)):PV→List Blk→Prop:=fun p K=>p=(.tup [(slc 10 Za r.1),(i64 r.2)])∧K=[]
theorem Zmk (a:ZL) (r:(ZL × Int)) (hF:Zf3 a=some r):ACall Tryz.prog glob 149 [(slc 10 Za a)] [] (Zsy r):=by
 refine ACall.body Tryz.func149 rfl (by kernel_rfl) ?_
 unfold Zf3 at hF
 refine AWP.seq (AWP.rg0 [] [(0,(slc 10 Za a))] (AWP.seq (AWP.seq ?_)))
 obtain⟨c,d,hF⟩:=bindb hF
 refine AWP.rg0 [(1,.call Tryz.func153 [] (Zsx a c d))] [(0,(slc 10 Za a)),(5,(vb c))] ?_
 refine AWP.cif hF (fun f hF=>?_) (fun f hF=>?_)
 ·refine AWP.seq (AWP.rg0 [] [(2,(slc 10 Za a)),(3,(i64 (0:Int)))] (AWP.ret ?_))
  have hr:=someb hF
  subst hr
  exact(FnQ.f0 0 (.inr rfl))
 ·refine AWP.skip (AWP.seq ?_)
  obtain⟨b,g,hF⟩:=bindb hF
  refine AWP.rg0 [(1,.call Tryz.func48 [] (Znh a b g))] [(2,(slc 10 Za b.1)),(3,(i64 b.2))] (AWP.ret ?_)
  have hr:=someb hF
  subst hr
  exact(FnQ.f0 0 (.inr rfl))
def Zqr (r:(ZL × Int)):PV→List Blk→Prop:=fun p K=>p=(.tup [(slc 10 Za r.1),(i64 r.2)])∧K=[]
theorem Zi0 (f:ZL) (d:ZL) (b:Int) (r:(ZL × Int)) (hF:Zeg f d b=some r):ACall Tryz.prog glob 148 [(slc 10 Za f),(slc 10 Za d),(i64 b)] [] (Zqr r):=by
 refine ACall.body Tryz.func148 rfl (by kernel_rfl) ?_
 unfold Zeg at hF
 refine AWP.seq (AWP.rg0 [] [(0,(slc 10 Za f)),(1,(slc 10 Za d)),(2,(i64 b))] (AWP.seq ?_))
 obtain⟨a,j,hF⟩:=bindb hF
 refine AWP.rg0 [(1,.call Tryz.func149 [] (Zmk f a j))] [(1,(slc 10 Za d)),(2,(i64 b)),(8,(slc 10 Za a.1)),(9,(i64 a.2))] (AWP.seq (AWP.seq (AWP.rg0 [] [(1,(slc 10 Za d)),(2,(i64 b)),(8,(slc 10 Za a.1)),(9,(i64 a.2)),(17,(vb (a.2 != (0:Int))))] ?_)))
 refine AWP.cif hF (fun k hF=>?_) (fun k hF=>?_)
 ·refine AWP.seq (AWP.rg0 [] [(6,nils),(7,(i64 a.2))] (AWP.ret ?_))
  have hr:=someb hF
  subst hr
  exact(FnQ.f1 0 (.inr rfl) (.inr ⟨_,_,rfl,rfl,(.cons _ _ _ _ (.nil 10) (.cons _ _ _ _ (.refl _) .nil))⟩))
 ·refine AWP.skip (AWP.seq ?_)
  obtain⟨c,l,hF⟩:=bindb hF
  refine AWP.rg0 [(1,.call Tryz.func149 [] (Zmk d c l))] [(2,(i64 b)),(8,(slc 10 Za a.1)),(9,(i64 c.2)),(10,(slc 10 Za c.1))] (AWP.seq (AWP.seq (AWP.rg0 [] [(2,(i64 b)),(8,(slc 10 Za a.1)),(9,(i64 c.2)),(10,(slc 10 Za c.1)),(25,(vb (c.2 != (0:Int))))] ?_)))
  refine AWP.cif hF (fun m hF=>?_) (fun m hF=>?_)
  ·refine AWP.seq (AWP.rg0 [] [(6,nils),(7,(i64 c.2))] (AWP.ret ?_))
   have hr:=someb hF
   subst hr
   exact(FnQ.f1 0 (.inr rfl) (.inr ⟨_,_,rfl,rfl,(.cons _ _ _ _ (.nil 10) (.cons _ _ _ _ (.refl _) .nil))⟩))
  ·refine AWP.skip (AWP.seq ?_)
   obtain⟨i,n,hF⟩:=bindb hF
   obtain⟨g,o,hF⟩:=bindb hF
   refine AWP.rg0 [(3,.call Tryz.func60 [] (Zme a.1 c.1 b (0:Int) i n)),(4,.call Tryz.func97 [] (Zk7 i g o))] [(6,(slc 10 Za g.1)),(7,(i64 g.2))] (AWP.ret ?_)
   have hr:=someb hF
   subst hr
   exact(FnQ.f0 0 (.inr rfl))
def Zsz (r:(ZL × Int)):PV→List Blk→Prop:=fun p K=>p=(.tup [(slc 10 Za r.1),(i64 r.2)])∧K=[]
theorem Zs0 (a:ZL) (b:ZL) (r:(ZL × Int)) (hF:Zf4 a b=some r):ACall Tryz.prog glob 137 [(slc 10 Za a),(slc 10 Za b)] [] (Zsz r):=by
 refine ACall.body Tryz.func137 rfl (by kernel_rfl) ?_
 unfold Zf4 at hF
 refine AWP.seq (AWP.rg0 [] [(0,(slc 10 Za a)),(1,(slc 10 Za b))] (AWP.seq ?_))
 obtain⟨c,d,hF⟩:=bindb hF
 refine AWP.rg0 [(2,.call Tryz.func148 [] (Zi0 a b (0:Int) c d))] [(4,(slc 10 Za c.1)),(5,(i64 c.2))] (AWP.ret ?_)
 have hr:=someb hF
 subst hr
 exact(FnQ.f0 0 (.inr rfl))
def Zou (r:(ZL × Int)):PV→List Blk→Prop:=fun p K=>p=(.tup [(slc 10 Za r.1),(i64 r.2)])∧K=[]
theorem Zov (a:ZL) (b:ZL) (r:(ZL × Int)) (hF:Zeo a b=some r):ACall Tryz.prog glob 138 [(slc 10 Za a),(slc 10 Za b)] [] (Zou r):=by
 refine ACall.body Tryz.func138 rfl (by kernel_rfl) ?_
 unfold Zeo at hF
 refine AWP.seq (AWP.rg0 [] [(0,(slc 10 Za a)),(1,(slc 10 Za b))] (AWP.seq ?_))
 obtain⟨c,d,hF⟩:=bindb hF
 refine AWP.rg0 [(2,.call Tryz.func148 [] (Zi0 a b (1:Int) c d))] [(4,(slc 10 Za c.1)),(5,(i64 c.2))] (AWP.ret ?_)
 have hr:=someb hF
 subst hr
 exact(FnQ.f0 0 (.inr rfl))
def Zpj (r:(ZL × Int)):PV→List Blk→Prop:=fun p K=>p=(.tup [(slc 10 Za r.1),(i64 r.2)])∧K=[]
theorem Zpk (a:ZL) (b:ZL) (r:(ZL × Int)) (hF:Zew a b=some r):ACall Tryz.prog glob 139 [(slc 10 Za a),(slc 10 Za b)] [] (Zpj r):=by
 refine ACall.body Tryz.func139 rfl (by kernel_rfl) ?_
 unfold Zew at hF
 refine AWP.seq (AWP.rg0 [] [(0,(slc 10 Za a)),(1,(slc 10 Za b))] (AWP.seq ?_))
 obtain⟨c,d,hF⟩:=bindb hF
 refine AWP.rg0 [(2,.call Tryz.func148 [] (Zi0 a b (2:Int) c d))] [(4,(slc 10 Za c.1)),(5,(i64 c.2))] (AWP.ret ?_)
 have hr:=someb hF
 subst hr
 exact(FnQ.f0 0 (.inr rfl))
def Zow (r:(ZL × Zp)):PV→List Blk→Prop:=fun p K=>p=(slc 10 Za r.1)∧K=[.cells (Zr r.2)]
theorem Zay (d:Zp) (c:Int) (a:ZL) (b:ZL) (r:(ZL × Zp)) (hF:Z2 d c a b=some r):ACall Tryz.prog glob 113 [(.ptr 0 0),(i64 c),(slc 10 Za a),(slc 10 Za b)] [.cells (Zr d)] (Zow r):=by
 refine ACall.body Tryz.func113 rfl (by kernel_rfl) ?_
 unfold Z2 at hF
 refine AWP.seq (AWP.rg0 [] [(0,(.ptr 0 0)),(1,(i64 c)),(2,(slc 10 Za a)),(3,(slc 10 Za b))] (AWP.seq (AWP.seq (AWP.rg0 [] [(0,(.ptr 0 0)),(1,(i64 c)),(2,(slc 10 Za a)),(3,(slc 10 Za b)),(14,(vb d.f_failed))] ?_))))
 refine AWP.cif hF (fun l hF=>?_) (fun l hF=>?_)
 ·refine AWP.seq (AWP.rg0 [] [(8,nils)] (AWP.ret ?_))
  have hr:=someb hF
  subst hr
  exact(FnQ.f1 1 (.inr rfl) (.inl (.nil 10)))
 ·refine AWP.skip (AWP.seq (AWP.rg0 [] [(0,(.ptr 0 0)),(1,(i64 c)),(2,(slc 10 Za a)),(3,(slc 10 Za b))] (AWP.seq (AWP.rg0 [] [(0,(.ptr 0 0)),(1,(i64 c)),(2,(slc 10 Za a)),(3,(slc 10 Za b))] ?_))))
  obtain⟨m,n,hF⟩:=bindb hF
  refine AWP.seq ?_
  refine AWP.mid (fun e st H=>(e=.normal∧∃ f,∃ k,m=(f,k)∧st=[(0,(.ptr 0 0)),(9,(slc 10 Za f)),(10,(i64 k))]∧H=[.cells (Zr d)])) ?_ ?_
  ·clear hF
   have hF:=n
   refine AWP.seq (AWP.rg0 [] [(0,(.ptr 0 0)),(2,(slc 10 Za a)),(3,(slc 10 Za b)),(15,(i64 c))] (AWP.block (AWP.seq (AWP.rg0 [] [(0,(.ptr 0 0)),(2,(slc 10 Za a)),(3,(slc 10 Za b)),(15,(i64 c)),(22,(vb (c == (0:Int))))] ?_))))
   refine AWP.cif hF (fun o hF=>?_) (fun o hF=>?_)
   ·obtain⟨g,p,hF⟩:=bindb hF
    refine AWP.rg0 [(2,.call Tryz.func137 [] (Zs0 a b g p))] [(0,(.ptr 0 0)),(9,(slc 10 Za g.1)),(10,(i64 g.2))] (LeQ.start (LeQ.pk [0,9,10] 1 ?_))
    exact⟨rfl,g.1,g.2,(someb hF).symm,by kernel_rfl,by kernel_rfl⟩
   ·refine AWP.seq (AWP.rg0 [] [(0,(.ptr 0 0)),(2,(slc 10 Za a)),(3,(slc 10 Za b)),(30,(vb (c == (1:Int))))] ?_)
    refine AWP.cif hF (fun q hF=>?_) (fun q hF=>?_)
    ·obtain⟨i,s,hF⟩:=bindb hF
     refine AWP.rg0 [(2,.call Tryz.func138 [] (Zov a b i s))] [(0,(.ptr 0 0)),(9,(slc 10 Za i.1)),(10,(i64 i.2))] (LeQ.start (LeQ.pk [0,9,10] 1 ?_))
     exact⟨rfl,i.1,i.2,(someb hF).symm,by kernel_rfl,by kernel_rfl⟩
    ·obtain⟨j,t,hF⟩:=bindb hF
     refine AWP.rg0 [(2,.call Tryz.func139 [] (Zpk a b j t))] [(0,(.ptr 0 0)),(9,(slc 10 Za j.1)),(10,(i64 j.2))] (LeQ.start (LeQ.pk [0,9,10] 1 ?_))
     exact⟨rfl,j.1,j.2,(someb hF).symm,by kernel_rfl,by kernel_rfl⟩
  ·rintro _ _ _ ⟨rfl,f,k,rfl,rfl,rfl⟩
   refine AWP.seq (AWP.rg [] [(9,(slc 10 Za f))] [.cells (Zr ({ d with f_failed:=(k != (0:Int)) }:Zp))] (AWP.seq (AWP.rg0 [] [(8,(slc 10 Za f))] (AWP.ret ?_))))
   have hr:=someb hF
   subst hr
   exact(FnQ.f0 1 (.inr rfl))
def Zkg (r:Bool):PV→List Blk→Prop:=fun p K=>p=(vb r)∧K=[]
abbrev Zox (r:Bool):Exit→St→List Blk→Prop:=FnQ Tryz.prog Tryz.f90.results 0 (Zkg r)
theorem Zkh (a:Zk) (r:Bool) (hF:Zek a=some r):ACall Tryz.prog glob 90 [(Zhy a)] [] (Zkg r):=by
 refine ACall.body Tryz.func90 rfl (by kernel_rfl) ?_
 unfold Zek at hF
 refine AWP.seq (AWP.rg [] [(1,(.ptr 0 0))] [.cells (Zd a)] (AWP.seq (AWP.seq (AWP.rg0 [] [(1,(.ptr 0 0)),(3,(i64 (0:Int)))] ?_))))
 obtain⟨f,q,hF⟩:=bindb hF
 refine AWP.mid (fun e st H=>(e=.normal∧f=(.inl ())∧st=[(1,(.ptr 0 0))]∧H=[.cells (Zd a)])∨(e=.ret∧∃ r,f=(.inr r)∧Zox r e st H)) ?_ ?_
 ·clear hF
  refine AWP.kp [1,3] 1 ?_
  refine AWP.bround (fun n st H=>∃ b,Zcx a n b=some f∧st=[(1,(.ptr 0 0)),(3,(i64 b))]∧H=[.cells (Zd a)]) fuel ⟨(0:Int),q,by kernel_rfl,by kernel_rfl⟩ ?_
  rintro g st H ⟨b,hF,rfl,rfl⟩
  cases g with
  | zero=>exact noneb hF
  | succ g=>
   rw [Zcx] at hF
   refine AWP.seq (AWP.seq (AWP.rg0 [] [(1,(.ptr 0 0)),(3,(i64 b)),(5,(vb (decide (b<(5:Int)))))] ?_))
   refine AWP.cif hF (fun s hF=>?_) (fun s hF=>?_)
   ·refine AWP.skip (AWP.seq (AWP.block (AWP.seq ?_)))
    obtain⟨i,hF⟩:=chkb hF
    obtain⟨j,hF⟩:=chkb hF
    obtain⟨k,hF⟩:=chkb hF
    obtain⟨l,hF⟩:=chkb hF
    refine AWP.dr [(2,.ixd i),(4,.ldA Zi (Arr5.get a.From) 0 2 1 i),(7,.ixd j),(9,.ldA Zi (Arr5.get a.From) 0 2 0 j),(13,.ixd k),(15,.ldA Zi (Arr5.get a.To) 10 2 1 k),(18,.ixd l),(20,.ldA Zi (Arr5.get a.To) 10 2 0 l)] 23 [] [] [] [(1,(.ptr 0 0)),(3,(i64 b)),(30,(vb ((IntKind.wrap .u32 ((Arr5.get a.From b).Hi - (Arr5.get a.From b).Lo)) != (IntKind.wrap .u32 ((Arr5.get a.To b).Hi - (Arr5.get a.To b).Lo)))))] [.cells (Zd a)] ?_
    refine AWP.cif hF (fun t hF=>?_) (fun t hF=>?_)
    ·refine AWP.seq (AWP.rg0 [] [(2,(vb false))] (AWP.ret ?_))
     exact LeQ.of (.inr ⟨rfl,false,(someb hF).symm,(FnQ.f0 0 (.inr rfl))⟩)
    ·refine AWP.skip (AWP.rg0 [] [(1,(.ptr 0 0)),(3,(i64 (ZI (b + (1:Int)))))] (LeQ.start (LeQ.pk [1,3] 1 ?_)))
     exact⟨g,Nat.lt_succ_self _,(ZI (b + (1:Int))),hF,by kernel_rfl,by kernel_rfl⟩
   ·refine AWP.exit (LeQ.start (LeQ.pk [1] 1 ?_))
    exact(.inl ⟨rfl,(someb hF).symm,by kernel_rfl,by kernel_rfl⟩)
 ·rintro _ _ _ (⟨rfl,rfl,rfl,rfl⟩ | ⟨rfl,z,rfl,hq⟩)
  ·refine AWP.seq ?_
   obtain⟨m,o,hF⟩:=bindb hF
   obtain⟨u,d,hF⟩:=bindb hF
   replace d:=someb d
   obtain⟨v,p,hF⟩:=bindb hF
   refine AWP.to [(2,(vb v))] [.cells (Zd a)] ?_ ?_
   ·cases u with
    | false=>
     have w:=someb (ifF p rfl)
     subst w
     exact AWP.rgT [(2,.call Tryz.func96 [] (Zcv a.From m o)),(3,.bool d)]
    | true=>
     have c:=ifT p rfl
     obtain⟨x,y,c⟩:=bindb c
     replace c:=someb c
     subst c
     exact AWP.rgT [(2,.call Tryz.func96 [] (Zcv a.From m o)),(3,.bool d),(6,.call Tryz.func96 [] (Zcv a.To x y))]
   refine AWP.ret ?_
   have hr:=someb hF
   subst hr
   exact(FnQ.f0 0 (.inr rfl))
  ·have hr:=someb hF
   subst hr
   exact hq
def Zs1 (r:((List ZL) × ZL × Zp)):PV→List Blk→Prop:=fun p K=>p=(.tup [(slc 1 Zf r.1),(slc 10 Za r.2.1)])∧K=[.cells (Zr r.2.2)]
theorem Zml (w:Zp) (a:(List Zk)) (q:ZL) (r:((List ZL) × ZL × Zp)) (hF:Zf5 w a q=some r):ACall Tryz.prog glob 112 [(.ptr 0 0),(slc 20 Zd a),(slc 10 Za q)] [.cells (Zr w)] (Zs1 r):=by
 refine ACall.body Tryz.func112 rfl (by kernel_rfl) ?_
 unfold Zf5 at hF
 refine AWP.seq (AWP.rg0 [] [(0,(.ptr 0 0)),(1,(slc 20 Zd a)),(2,(slc 10 Za q))] (AWP.seq ?_))
 obtain⟨f,a1,hF⟩:=bindb hF
 refine AWP.rg [(2,.call Tryz.func113 [] (Zay w (0:Int) q ([]:ZL) f a1))] [(0,(.ptr 0 0)),(1,(slc 20 Zd a)),(8,(slc 10 Za f.1))] [.cells (Zr f.2)] (AWP.seq (AWP.rg0 [] [(0,(.ptr 0 0)),(1,(slc 20 Zd a)),(8,(slc 10 Za f.1)),(9,nils)] ?_))
 refine AWP.own (H':=[.cells (Zr f.2),bf 1 38 Zf ([]:(List ZL)) false]) (st':=[(9,(.own 1 (List.length ([]:(List ZL))))),(0,(.ptr 0 0)),(1,(slc 20 Zd a)),(8,(slc 10 Za f.1))]) 9 1 38 (by kernel_rfl) (by kernel_rfl) (by kernel_rfl) ?_
 refine AWP.pick (st':=[(0,(.ptr 0 0)),(1,(slc 20 Zd a)),(8,(slc 10 Za f.1)),(9,(.own 1 (List.length ([]:(List ZL)))))]) (ks:=[0,1,8,9]) (by kernel_rfl) ?_
 refine AWP.seq (AWP.seq (AWP.rg0 [] [(0,(.ptr 0 0)),(1,(slc 20 Zd a)),(8,(slc 10 Za f.1)),(9,(.own 1 (List.length ([]:(List ZL))))),(10,(i64 (0:Int)))] ?_))
 obtain⟨z,a2,hF⟩:=bindb hF
 refine AWP.mid (fun e st H=>(e=.normal∧∃ x,∃ k,∃ u,z=(x,k,u)∧st=[(8,(slc 10 Za u)),(9,(.own 1 (List.length k)))]∧H=[.cells (Zr x),bf 1 38 Zf k false])) ?_ ?_
 ·clear hF
  refine AWP.kp [0,1,8,9,10] 2 ?_
  refine AWP.bround (fun n st H=>∃ j,∃ b,∃ d,∃ c,Zct a n j b d c=some z∧st=[(0,(.ptr 0 0)),(1,(slc 20 Zd a)),(8,(slc 10 Za d)),(9,(.own 1 (List.length b))),(10,(i64 c))]∧H=[.cells (Zr j),bf 1 38 Zf b false]) fuel ⟨f.2,([]:(List ZL)),f.1,(0:Int),a2,by kernel_rfl,by kernel_rfl⟩ ?_
  rintro y st H ⟨j,b,d,c,hF,rfl,rfl⟩
  cases y with
  | zero=>exact noneb hF
  | succ y=>
   rw [Zct] at hF
   refine AWP.seq (AWP.seq (AWP.rg0 [(2,.len Zd a)] [(0,(.ptr 0 0)),(1,(slc 20 Zd a)),(8,(slc 10 Za d)),(9,(.own 1 (List.length b))),(10,(i64 c)),(17,(vb (decide (c<(List.length a:Int)))))] ?_))
   refine AWP.cif hF (fun a3 hF=>?_) (fun a3 hF=>?_)
   ·refine AWP.skip ?_
    obtain⟨a4,a5,hF⟩:=bindb hF
    refine AWP.seq ?_
    refine AWP.mid (fun e st H=>(e=.normal∧∃ v,∃ m,∃ o,a4=(v,m,o)∧st=[(0,(.ptr 0 0)),(1,(slc 20 Zd a)),(8,(slc 10 Za o)),(9,(.own 1 (List.length m))),(10,(i64 c))]∧H=[.cells (Zr v),bf 1 38 Zf m false])) ?_ ?_
    ·clear hF
     have hF:=a5
     refine AWP.block (AWP.seq (AWP.seq ?_))
     obtain⟨a6,a7,hF⟩:=bindb hF
     obtain⟨a0,a8,hF⟩:=bindb hF
     refine AWP.rg0 [(2,.idx Zd a7),(4,.call Tryz.func90 [] (Zkh a6 a0 a8))] [(0,(.ptr 0 0)),(1,(slc 20 Zd a)),(8,(slc 10 Za d)),(9,(.own 1 (List.length b))),(10,(i64 c)),(25,(vb (!a0)))] ?_
     refine AWP.cif hF (fun a9 hF=>?_) (fun a9 hF=>?_)
     ·refine AWP.seq ?_
      obtain⟨b0,hF⟩:=chkb hF
      refine AWP.rg [(1,.litN),(2,.app Zf (fun _=>by kernel_rfl) b0)] [(0,(.ptr 0 0)),(1,(slc 20 Zd a)),(8,(slc 10 Za d)),(9,(.own 1 (List.length (b++[([]:ZL)])))),(10,(i64 c))] [.cells (Zr j),bf 1 38 Zf (b++[([]:ZL)]) false] (AWP.exit (LeQ.start (LeQ.pk [0,1,8,9,10] 2 ?_)))
      exact⟨rfl,j,(b++[([]:ZL)]),d,(someb hF).symm,by kernel_rfl,by kernel_rfl⟩
     ·refine AWP.skip (AWP.seq ?_)
      obtain⟨b1,b2,hF⟩:=bindb hF
      obtain⟨g,b3,hF⟩:=bindb hF
      obtain⟨b4,hF⟩:=chkb hF
      refine AWP.rg [(5,.idx Zd b2),(9,.call Tryz.func113 [] (Zay j (1:Int) d [b1.From] g b3)),(11,.app Zf (fun _=>by kernel_rfl) b4)] [(0,(.ptr 0 0)),(1,(slc 20 Zd a)),(8,(slc 10 Za d)),(9,(.own 1 (List.length (b++[g.1])))),(10,(i64 c))] [.cells (Zr g.2),bf 1 38 Zf (b++[g.1]) false] ?_
      obtain⟨b5,b6,hF⟩:=bindb hF
      obtain⟨p,b7,hF⟩:=bindb hF
      refine AWP.rg [(4,.idx Zd b6),(8,.call Tryz.func113 [] (Zay g.2 (2:Int) d [b5.From] p b7))] [(0,(.ptr 0 0)),(1,(slc 20 Zd a)),(8,(slc 10 Za p.1)),(9,(.own 1 (List.length (b++[g.1])))),(10,(i64 c))] [.cells (Zr p.2),bf 1 38 Zf (b++[g.1]) false] (LeQ.start (LeQ.pk [0,1,8,9,10] 2 ?_))
      exact⟨rfl,p.2,(b++[g.1]),p.1,(someb hF).symm,by kernel_rfl,by kernel_rfl⟩
    ·rintro _ _ _ ⟨rfl,v,m,o,rfl,rfl,rfl⟩
     refine AWP.rg0 [] [(0,(.ptr 0 0)),(1,(slc 20 Zd a)),(8,(slc 10 Za o)),(9,(.own 1 (List.length m))),(10,(i64 (ZI (c + (1:Int)))))] (LeQ.start (LeQ.pk [0,1,8,9,10] 2 ?_))
     exact⟨y,Nat.lt_succ_self _,v,m,o,(ZI (c + (1:Int))),hF,by kernel_rfl,by kernel_rfl⟩
   ·refine AWP.exit (LeQ.start (LeQ.pk [8,9] 2 ?_))
    exact⟨rfl,j,b,d,(someb hF).symm,by kernel_rfl,by kernel_rfl⟩
 ·rintro _ _ _ ⟨rfl,x,k,u,rfl,rfl,rfl⟩
  refine AWP.seq (AWP.rg0 [] [(6,(.own 1 (List.length k))),(7,(slc 10 Za u))] (AWP.ret ?_))
  have hr:=someb hF
  subst hr
  exact(FnQ.f1 1 (.inr rfl) (.inr ⟨_,_,rfl,rfl,(.cons _ _ _ _ (Wk.ownT (i:=1) (s:=1) (t:=38) (l:=k) (sh:=false) (row:=Zf) (by kernel_rfl) (.inl rfl)) (.cons _ _ _ _ (.refl _) .nil))⟩))
def Zs2 (r:ZB):PV→List Blk→Prop:=fun p K=>p=(Zt r)∧K=[]
theorem Zs3 (f:ZB) (b:ZB) (c:ZB) (r:ZB) (hF:Zg5 f b c=some r):ACall Tryz.prog glob 95 [(Zt f),(Zt b),(Zt c)] [] (Zs2 r):=by
 refine ACall.body Tryz.func95 rfl (by kernel_rfl) ?_
 unfold Zg5 at hF
 refine AWP.seq (AWP.rg [] [(3,(.ptr 0 0)),(4,(.ptr 1 0)),(5,(.ptr 2 0)),(6,(.ptr 3 0))] [.cells (Za f),.cells (Za b),.cells (Za c),.cells (Za Zo)] (AWP.seq (AWP.seq (AWP.rg0 [] [(3,(.ptr 0 0)),(4,(.ptr 1 0)),(5,(.ptr 2 0)),(6,(.ptr 3 0)),(7,(i64 (0:Int)))] ?_))))
 obtain⟨g,s,hF⟩:=bindb hF
 refine AWP.mid (fun e st H=>e=.normal∧st=[(3,(.ptr 0 0)),(6,(.ptr 3 0))]∧H=[.cells (Za g),.cells (Za b),.cells (Za c),.cells (Za Zo)]) ?_ ?_
 ·clear hF
  refine AWP.kp [3,4,5,6,7] 4 ?_
  refine AWP.bround (fun n st H=>∃ d,∃ a,Zd1 b c n d a=some g∧st=[(3,(.ptr 0 0)),(4,(.ptr 1 0)),(5,(.ptr 2 0)),(6,(.ptr 3 0)),(7,(i64 a))]∧H=[.cells (Za d),.cells (Za b),.cells (Za c),.cells (Za Zo)]) fuel ⟨f,(0:Int),s,by kernel_rfl,by kernel_rfl⟩ ?_
  rintro i st H ⟨d,a,hF,rfl,rfl⟩
  cases i with
  | zero=>exact noneb hF
  | succ i=>
   rw [Zd1] at hF
   refine AWP.seq (AWP.seq (AWP.rg0 [] [(3,(.ptr 0 0)),(4,(.ptr 1 0)),(5,(.ptr 2 0)),(6,(.ptr 3 0)),(7,(i64 a)),(9,(vb (decide (a<(5:Int)))))] ?_))
   refine AWP.cif hF (fun t hF=>?_) (fun t hF=>?_)
   ·refine AWP.skip (AWP.seq (AWP.block ?_))
    obtain⟨j,hF⟩:=chkb hF
    obtain⟨k,hF⟩:=chkb hF
    obtain⟨l,hF⟩:=chkb hF
    obtain⟨m,hF⟩:=chkb hF
    obtain⟨o,hF⟩:=chkb hF
    obtain⟨p,hF⟩:=chkb hF
    obtain⟨q,hF⟩:=chkb hF
    refine AWP.dr [(2,.ixd j),(4,.ldA Zi (Arr5.get d) 0 2 0 j),(6,.ixd k),(8,.ldA Zi (Arr5.get b) 0 2 0 k),(11,.ixd l),(13,.ldA Zi (Arr5.get c) 0 2 0 l),(16,.ixd m),(18,.ldA Zi (Arr5.get d) 0 2 1 m),(20,.ixd o),(22,.ldA Zi (Arr5.get b) 0 2 0 o),(25,.ixd p),(27,.ldA Zi (Arr5.get c) 0 2 0 p),(30,.ixd q),(31,.stA (fun u=>Za (Arr5.set d u (Zb.mk (IntKind.wrap .u32 ((IntKind.wrap .u32 ((Arr5.get d a).Lo - (Arr5.get b a).Lo)) + (Arr5.get c a).Lo)) (IntKind.wrap .u32 ((IntKind.wrap .u32 ((Arr5.get d a).Hi - (Arr5.get b a).Lo)) + (Arr5.get c a).Lo))))) 0 2 0 q)] 30 [] [] [] [(3,(.ptr 0 0)),(4,(.ptr 1 0)),(5,(.ptr 2 0)),(6,(.ptr 3 0)),(7,(i64 a))] [.cells (Za (Arr5.set d a (Zb.mk (IntKind.wrap .u32 ((IntKind.wrap .u32 ((Arr5.get d a).Lo - (Arr5.get b a).Lo)) + (Arr5.get c a).Lo)) (IntKind.wrap .u32 ((IntKind.wrap .u32 ((Arr5.get d a).Hi - (Arr5.get b a).Lo)) + (Arr5.get c a).Lo))))),.cells (Za b),.cells (Za c),.cells (Za Zo)] (AWP.rg0 [] [(3,(.ptr 0 0)),(4,(.ptr 1 0)),(5,(.ptr 2 0)),(6,(.ptr 3 0)),(7,(i64 (ZI (a + (1:Int)))))] (LeQ.start (LeQ.pk [3,4,5,6,7] 4 ?_)))
    exact⟨i,Nat.lt_succ_self _,(Arr5.set d a (Zb.mk (IntKind.wrap .u32 ((IntKind.wrap .u32 ((Arr5.get d a).Lo - (Arr5.get b a).Lo)) + (Arr5.get c a).Lo)) (IntKind.wrap .u32 ((IntKind.wrap .u32 ((Arr5.get d a).Hi - (Arr5.get b a).Lo)) + (Arr5.get c a).Lo)))),(ZI (a + (1:Int))),hF,by kernel_rfl,by kernel_rfl⟩
   ·refine AWP.exit (LeQ.start (LeQ.pk [3,6] 4 ?_))
    have hr:=someb hF
    subst hr
    exact⟨rfl,by kernel_rfl,by kernel_rfl⟩
 ·rintro _ _ _ ⟨rfl,rfl,rfl⟩
  refine AWP.seq (AWP.rg [] [(6,(.ptr 3 0))] [.cells (Za g),.cells (Za b),.cells (Za c),.cells (Za g)] (AWP.ret ?_))
  have hr:=someb hF
  subst hr
  exact(FnQ.f0 0 (.inr rfl))
def Zqs (r:ZL):PV→List Blk→Prop:=fun p K=>p=(slc 10 Za r)∧K=[]
theorem Zi1 (a:ZL) (b:ZB) (c:ZB) (r:ZL) (hF:Zeh a b c=some r):ACall Tryz.prog glob 114 [(slc 10 Za a),(Zt b),(Zt c)] [] (Zqs r):=by
 refine ACall.body Tryz.func114 rfl (by kernel_rfl) ?_
 unfold Zeh at hF
 refine AWP.seq (AWP.rg [] [(0,(slc 10 Za a)),(4,(.ptr 0 0)),(5,(.ptr 1 0))] [.cells (Za b),.cells (Za c)] (AWP.seq (AWP.rg0 [] [(0,(slc 10 Za a)),(4,(.ptr 0 0)),(5,(.ptr 1 0)),(7,nils)] ?_)))
 refine AWP.own (H':=[.cells (Za b),.cells (Za c),bf 10 57 Za ([]:ZL) false]) (st':=[(7,(.own 2 (List.length ([]:ZL)))),(0,(slc 10 Za a)),(4,(.ptr 0 0)),(5,(.ptr 1 0))]) 7 10 57 (by kernel_rfl) (by kernel_rfl) (by kernel_rfl) ?_
 refine AWP.pick (st':=[(0,(slc 10 Za a)),(4,(.ptr 0 0)),(5,(.ptr 1 0)),(7,(.own 2 (List.length ([]:ZL))))]) (ks:=[0,4,5,7]) (by kernel_rfl) ?_
 refine AWP.seq (AWP.seq (AWP.rg0 [] [(0,(slc 10 Za a)),(4,(.ptr 0 0)),(5,(.ptr 1 0)),(7,(.own 2 (List.length ([]:ZL)))),(8,(i64 (0:Int)))] ?_))
 obtain⟨g,m,hF⟩:=bindb hF
 refine AWP.mid (fun e st H=>e=.normal∧st=[(7,(.own 2 (List.length g)))]∧H=[.cells (Za b),.cells (Za c),bf 10 57 Za g false]) ?_ ?_
 ·clear hF
  refine AWP.kp [0,4,5,7,8] 3 ?_
  refine AWP.bround (fun n st H=>∃ d,∃ f,Zdi a b c n d f=some g∧st=[(0,(slc 10 Za a)),(4,(.ptr 0 0)),(5,(.ptr 1 0)),(7,(.own 2 (List.length d))),(8,(i64 f))]∧H=[.cells (Za b),.cells (Za c),bf 10 57 Za d false]) fuel ⟨([]:ZL),(0:Int),m,by kernel_rfl,by kernel_rfl⟩ ?_
  rintro k st H ⟨d,f,hF,rfl,rfl⟩
  cases k with
  | zero=>exact noneb hF
  | succ k=>
   rw [Zdi] at hF
   refine AWP.seq (AWP.seq (AWP.rg0 [(2,.len Za a)] [(0,(slc 10 Za a)),(4,(.ptr 0 0)),(5,(.ptr 1 0)),(7,(.own 2 (List.length d))),(8,(i64 f)),(12,(vb (decide (f<(List.length a:Int)))))] ?_))
   refine AWP.cif hF (fun o hF=>?_) (fun o hF=>?_)
   ·refine AWP.skip (AWP.seq (AWP.block ?_))
    obtain⟨p,q,hF⟩:=bindb hF
    obtain⟨j,u,hF⟩:=bindb hF
    obtain⟨v,hF⟩:=chkb hF
    refine AWP.dr [(3,.idx Za q),(7,.call Tryz.func95 [] (Zs3 p b c j u)),(9,.app Za (fun _=>by kernel_rfl) v)] 10 [] [9] [] [(0,(slc 10 Za a)),(4,(.ptr 0 0)),(5,(.ptr 1 0)),(7,(.own 2 (List.length (d++[j])))),(8,(i64 f))] [.cells (Za b),.cells (Za c),bf 10 57 Za (d++[j]) false] (AWP.rg0 [] [(0,(slc 10 Za a)),(4,(.ptr 0 0)),(5,(.ptr 1 0)),(7,(.own 2 (List.length (d++[j])))),(8,(i64 (ZI (f + (1:Int)))))] (LeQ.start (LeQ.pk [0,4,5,7,8] 3 ?_)))
    exact⟨k,Nat.lt_succ_self _,(d++[j]),(ZI (f + (1:Int))),hF,by kernel_rfl,by kernel_rfl⟩
   ·refine AWP.exit (LeQ.start (LeQ.pk [7] 3 ?_))
    have hr:=someb hF
    subst hr
    exact⟨rfl,by kernel_rfl,by kernel_rfl⟩
 ·rintro _ _ _ ⟨rfl,rfl,rfl⟩
  refine AWP.seq (AWP.rg0 [] [(6,(.own 2 (List.length g)))] (AWP.ret ?_))
  have hr:=someb hF
  subst hr
  exact(FnQ.f1 0 (.inr rfl) (.inl (Wk.ownT (i:=2) (s:=10) (t:=57) (l:=g) (sh:=false) (row:=Za) (by kernel_rfl) (.inl rfl))))
def Zno (a:Zp) (r:(ZL × Int)):PV→List Blk→Prop:=fun p K=>p=(.tup [(slc 10 Za r.1),(i64 r.2)])∧K=[.cells (Zr a)]
theorem Zjj (b:Zp) (a:ZL) (r:(ZL × Int)) (hF:Zdy b a=some r):ACall Tryz.prog glob 115 [(.ptr 0 0),(slc 10 Za a)] [.cells (Zr b)] (Zno b r):=by
 refine ACall.body Tryz.func115 rfl (by kernel_rfl) ?_
 unfold Zdy at hF
 refine AWP.seq (AWP.rg0 [] [(0,(.ptr 0 0)),(1,(slc 10 Za a))] (AWP.seq (AWP.seq (AWP.rg0 [] [(1,(slc 10 Za a)),(9,(vb b.f_failed))] ?_))))
 refine AWP.cif hF (fun c hF=>?_) (fun c hF=>?_)
 ·refine AWP.seq (AWP.rg0 [] [(4,nils),(5,(i64 (3:Int)))] (AWP.ret ?_))
  have hr:=someb hF
  subst hr
  exact(FnQ.f1 1 (.inr rfl) (.inr ⟨_,_,rfl,rfl,(.cons _ _ _ _ (.nil 10) (.cons _ _ _ _ (.refl _) .nil))⟩))
 ·refine AWP.skip (AWP.seq (AWP.rg0 [] [(4,(slc 10 Za a)),(5,(i64 (0:Int)))] (AWP.ret ?_)))
  have hr:=someb hF
  subst hr
  exact(FnQ.f0 1 (.inr rfl))
def Zs4 (r:(ZL × Int)):PV→List Blk→Prop:=fun p K=>p=(.tup [(slc 10 Za r.1),(i64 r.2)])∧K=[]
theorem Zmm (b:(List Zk)) (g:ZL) (r:(ZL × Int)) (hF:Zf6 b g=some r):ACall Tryz.prog glob 62 [(slc 20 Zd b),(slc 10 Za g)] [] (Zs4 r):=by
 refine ACall.body Tryz.func62 rfl (by kernel_rfl) ?_
 unfold Zf6 at hF
 refine AWP.seq (AWP.rg0 [] [(0,(slc 20 Zd b)),(1,(slc 10 Za g))] (AWP.seq (AWP.rg [] [(0,(slc 20 Zd b)),(1,(slc 10 Za g)),(6,(.ptr 0 0))] [.cells (Zr (Zp.mk false))] (AWP.seq ?_))))
 obtain⟨a,u,hF⟩:=bindb hF
 refine AWP.rg [(3,.call Tryz.func112 [] (Zml (Zp.mk false) b g a u))] [(0,(slc 20 Zd b)),(6,(.ptr 0 0)),(7,(slc 1 Zf a.1)),(8,(slc 10 Za a.2.1))] [.cells (Zr a.2.2)] (AWP.seq (AWP.rg0 [] [(0,(slc 20 Zd b)),(6,(.ptr 0 0)),(7,(slc 1 Zf a.1)),(8,(slc 10 Za a.2.1)),(9,nils)] (AWP.seq (AWP.seq (AWP.rg0 [] [(0,(slc 20 Zd b)),(6,(.ptr 0 0)),(7,(slc 1 Zf a.1)),(8,(slc 10 Za a.2.1)),(9,nils),(10,(i64 (0:Int)))] ?_)))))
 obtain⟨s,v,hF⟩:=bindb hF
 refine AWP.mid (fun e st H=>(e=.normal∧∃ j,∃ k,s=(j,k)∧st=[(6,(.ptr 0 0)),(8,(slc 10 Za a.2.1)),(9,(slc 10 Za k))]∧H=[.cells (Zr j)])) ?_ ?_
 ·clear hF
  refine AWP.wk (p:=nils) (q:=(slc 10 Za ([]:ZL))) (st':=[(9,(slc 10 Za ([]:ZL))),(0,(slc 20 Zd b)),(6,(.ptr 0 0)),(7,(slc 1 Zf a.1)),(8,(slc 10 Za a.2.1)),(10,(i64 (0:Int)))]) 9 (by kernel_rfl) (.nil 10) (by kernel_rfl) ?_
  refine AWP.kp [0,6,7,8,9,10] 1 ?_
  refine AWP.bround (fun n st H=>∃ i,∃ d,∃ c,Zcu b a n i d c=some s∧st=[(0,(slc 20 Zd b)),(6,(.ptr 0 0)),(7,(slc 1 Zf a.1)),(8,(slc 10 Za a.2.1)),(9,(slc 10 Za d)),(10,(i64 c))]∧H=[.cells (Zr i)]) fuel ⟨a.2.2,([]:ZL),(0:Int),v,by kernel_rfl,by kernel_rfl⟩ ?_
  rintro m st H ⟨i,d,c,hF,rfl,rfl⟩
  cases m with
  | zero=>exact noneb hF
  | succ m=>
   rw [Zcu] at hF
   refine AWP.seq (AWP.seq (AWP.rg0 [(2,.len Zd b)] [(0,(slc 20 Zd b)),(6,(.ptr 0 0)),(7,(slc 1 Zf a.1)),(8,(slc 10 Za a.2.1)),(9,(slc 10 Za d)),(10,(i64 c)),(23,(vb (decide (c<(List.length b:Int)))))] ?_))
   refine AWP.cif hF (fun w hF=>?_) (fun w hF=>?_)
   ·refine AWP.skip (AWP.seq (AWP.block ?_))
    obtain⟨x,y,hF⟩:=bindb hF
    obtain⟨z,a0,hF⟩:=bindb hF
    obtain⟨a1,a2,hF⟩:=bindb hF
    obtain⟨t,a3,hF⟩:=bindb hF
    obtain⟨f,a4,hF⟩:=bindb hF
    refine AWP.dr [(4,.idx Zf y),(8,.idx Zd a0),(13,.idx Zd a2),(16,.call Tryz.func114 [] (Zi1 x z.From a1.To t a3)),(17,.call Tryz.func113 [] (Zay i (0:Int) d t f a4))] 18 [] [17] [] [(0,(slc 20 Zd b)),(6,(.ptr 0 0)),(7,(slc 1 Zf a.1)),(8,(slc 10 Za a.2.1)),(9,(slc 10 Za f.1)),(10,(i64 c))] [.cells (Zr f.2)] (AWP.rg0 [] [(0,(slc 20 Zd b)),(6,(.ptr 0 0)),(7,(slc 1 Zf a.1)),(8,(slc 10 Za a.2.1)),(9,(slc 10 Za f.1)),(10,(i64 (ZI (c + (1:Int)))))] (LeQ.start (LeQ.pk [0,6,7,8,9,10] 1 ?_)))
    exact⟨m,Nat.lt_succ_self _,f.2,f.1,(ZI (c + (1:Int))),hF,by kernel_rfl,by kernel_rfl⟩
   ·refine AWP.exit (LeQ.start (LeQ.pk [6,8,9] 1 ?_))
    exact⟨rfl,i,d,(someb hF).symm,by kernel_rfl,by kernel_rfl⟩
 ·rintro _ _ _ ⟨rfl,j,k,rfl,rfl,rfl⟩
  refine AWP.seq ?_
  obtain⟨l,a5,hF⟩:=bindb hF
  obtain⟨o,a6,hF⟩:=bindb hF
  refine AWP.rg [(4,.call Tryz.func113 [] (Zay j (0:Int) k a.2.1 l a5)),(5,.call Tryz.func115 [] (Zjj l.2 l.1 o a6))] [(4,(slc 10 Za o.1)),(5,(i64 o.2))] [.cells (Zr l.2)] (AWP.ret ?_)
  have hr:=someb hF
  subst hr
  exact(FnQ.f0 0 (.inr rfl))
def Zyo (r:ZB):PV→List Blk→Prop:=fun p K=>p=(Zt r)∧K=[]
theorem Zyp (r:ZB) (hF:Zk9=some r):ACall Tryz.prog glob 56 [] [] (Zyo r):=by
 refine ACall.body Tryz.func56 rfl (by kernel_rfl) ?_
 unfold Zk9 at hF
 refine AWP.seq (AWP.rg [] [(0,(.ptr 0 0))] [.cells (Za Zo)] (AWP.seq (AWP.rg [] [(0,(.ptr 0 0)),(1,(.ptr 1 0))] [.cells (Za Zo),.cells (Za Zo)] (AWP.seq (AWP.seq (AWP.rg0 [] [(0,(.ptr 0 0)),(1,(.ptr 1 0)),(4,(Zjh Za2)),(5,(i64 (0:Int)))] ?_))))))
 obtain⟨c,i,hF⟩:=bindb hF
 refine AWP.mid (fun e st H=>e=.normal∧st=[(0,(.ptr 0 0)),(1,(.ptr 1 0))]∧H=[.cells (Za Zo),.cells (Za c)]) ?_ ?_
 ·clear hF
  refine AWP.kp [0,1,4,5] 2 ?_
  refine AWP.bround (fun n st H=>∃ b,∃ a,Zi8 n b a=some c∧st=[(0,(.ptr 0 0)),(1,(.ptr 1 0)),(4,(Zjh Za2)),(5,(i64 a))]∧H=[.cells (Za Zo),.cells (Za b)]) fuel ⟨Zo,(0:Int),i,by kernel_rfl,by kernel_rfl⟩ ?_
  rintro d st H ⟨b,a,hF,rfl,rfl⟩
  cases d with
  | zero=>exact noneb hF
  | succ d=>
   rw [Zi8] at hF
   refine AWP.seq (AWP.rg0 [] [(0,(.ptr 0 0)),(1,(.ptr 1 0)),(4,(Zjh Za2)),(5,(i64 a)),(6,(vb (decide (a<(5:Int)))))] (AWP.seq ?_))
   refine AWP.cif hF (fun j hF=>?_) (fun j hF=>?_)
   ·refine AWP.skip (AWP.seq (AWP.block (AWP.seq ?_)))
    obtain⟨k,hF⟩:=chkb hF
    refine AWP.rg0 [(1,.ixA Zhx (Arr5.get Za2) k)] [(0,(.ptr 0 0)),(1,(.ptr 1 0)),(2,(i64 a)),(3,(u32 (Arr5.get Za2 a))),(4,(Zjh Za2)),(5,(i64 a))] ?_
    obtain⟨f,hF⟩:=chkb hF
    refine AWP.rg [(2,.ixd f),(4,.stA (fun g=>Za (Arr5.set b g ({ (Arr5.get b g) with Hi:=(Arr5.get Za2 a) }:Zb))) 0 2 1 f)] [(0,(.ptr 0 0)),(1,(.ptr 1 0)),(4,(Zjh Za2)),(5,(i64 a))] [.cells (Za Zo),.cells (Za (Arr5.set b a ({ (Arr5.get b a) with Hi:=(Arr5.get Za2 a) }:Zb)))] (AWP.rg0 [] [(0,(.ptr 0 0)),(1,(.ptr 1 0)),(4,(Zjh Za2)),(5,(i64 (ZI (a + (1:Int)))))] (LeQ.start (LeQ.pk [0,1,4,5] 2 ?_)))
    exact⟨d,Nat.lt_succ_self _,(Arr5.set b a ({ (Arr5.get b a) with Hi:=(Arr5.get Za2 a) }:Zb)),(ZI (a + (1:Int))),hF,by kernel_rfl,by kernel_rfl⟩
   ·refine AWP.exit (LeQ.start (LeQ.pk [0,1] 2 ?_))
    have hr:=someb hF
    subst hr
    exact⟨rfl,by kernel_rfl,by kernel_rfl⟩
 ·rintro _ _ _ ⟨rfl,rfl,rfl⟩
  refine AWP.seq (AWP.rg [] [(0,(.ptr 0 0))] [.cells (Za c),.cells (Za c)] (AWP.ret ?_))
  have hr:=someb hF
  subst hr
  exact(FnQ.f0 0 (.inr rfl))
def Zro (r:Zk):PV→List Blk→Prop:=fun p K=>p=(Zhy r)∧K=[]
theorem Zrp (a:Zk) (r:Zk) (hF:Zhv a=some r):ACall Tryz.prog glob 58 [(Zhy a)] [] (Zro r):=by
 refine ACall.body Tryz.func58 rfl (by kernel_rfl) ?_
 unfold Zhv at hF
 refine AWP.seq (AWP.rg [] [(1,(.ptr 0 0)),(2,(.ptr 1 0))] [.cells (Zd a),.cells (Zd Zeq)] (AWP.seq (AWP.rg [] [(2,(.ptr 1 0))] [.cells (Zd a),.cells (Zd (Zk.mk a.To a.From))] (AWP.ret ?_))))
 have hr:=someb hF
 subst hr
 exact(FnQ.f0 0 (.inr rfl))
def Zpl (r:(ZL × Int)):PV→List Blk→Prop:=fun p K=>p=(.tup [(slc 10 Za r.1),(i64 r.2)])∧K=[]
theorem Zpm (a:(List Zk)) (k:ZL) (r:(ZL × Int)) (hF:Zfu a k=some r):ACall Tryz.prog glob 17 [(slc 20 Zd a),(slc 10 Za k)] [] (Zpl r):=by
 refine ACall.body Tryz.func17 rfl (by kernel_rfl) ?_
 unfold Zfu at hF
 refine AWP.seq (AWP.rg0 [] [(0,(slc 20 Zd a)),(1,(slc 10 Za k))] (AWP.seq (AWP.rg [] [(0,(slc 20 Zd a)),(1,(slc 10 Za k)),(6,(.ptr 0 0))] [.cells (Zm Zce)] (AWP.seq ?_))))
 obtain⟨b,a8,hF⟩:=bindb hF
 refine AWP.rg [(1,.call Tryz.func51 [] (Zhq Zce k b a8))] [(0,(slc 20 Zd a)),(6,(.ptr 0 0)),(7,(slc 10 Za b.1))] [.cells (Zm b.2)] (AWP.seq (AWP.rg0 [] [(0,(slc 20 Zd a)),(6,(.ptr 0 0)),(7,(slc 10 Za b.1)),(8,nils)] (AWP.seq ?_)))
 obtain⟨l,a9,hF⟩:=bindb hF
 refine AWP.rg0 [(0,.call Tryz.func56 [] (Zyp l a9))] [(0,(slc 20 Zd a)),(6,(.ptr 0 0)),(7,(slc 10 Za b.1)),(8,nils),(9,(slc 10 Za [l]))] (AWP.seq (AWP.seq (AWP.rg0 [(1,.len Zd a)] [(6,(.ptr 0 0)),(7,(slc 10 Za b.1)),(8,nils),(9,(slc 10 Za [l])),(18,(slc 20 Zd a)),(19,(i64 (List.length a:Int))),(20,(i64 (0:Int)))] ?_)))
 obtain⟨a4,b0,hF⟩:=bindb hF
 refine AWP.mid (fun e st H=>(e=.normal∧∃ v,∃ w,∃ x,a4=(v,w,x)∧st=[(6,(.ptr 0 0)),(7,(slc 10 Za b.1)),(8,(slc 10 Za w)),(9,(slc 10 Za x))]∧H=[.cells (Zm v)])) ?_ ?_
 ·clear hF
  refine AWP.wk (p:=nils) (q:=(slc 10 Za ([]:ZL))) (st':=[(8,(slc 10 Za ([]:ZL))),(6,(.ptr 0 0)),(7,(slc 10 Za b.1)),(9,(slc 10 Za [l])),(18,(slc 20 Zd a)),(19,(i64 (List.length a:Int))),(20,(i64 (0:Int)))]) 8 (by kernel_rfl) (.nil 10) (by kernel_rfl) ?_
  refine AWP.kp [6,7,8,9,18,19,20] 1 ?_
  refine AWP.bround (fun n st H=>∃ i,∃ f,∃ d,∃ c,Zbw a b n i f d c=some a4∧st=[(6,(.ptr 0 0)),(7,(slc 10 Za b.1)),(8,(slc 10 Za f)),(9,(slc 10 Za d)),(18,(slc 20 Zd a)),(19,(i64 (List.length a:Int))),(20,(i64 c))]∧H=[.cells (Zm i)]) fuel ⟨b.2,([]:ZL),[l],(0:Int),b0,by kernel_rfl,by kernel_rfl⟩ ?_
  rintro a0 st H ⟨i,f,d,c,hF,rfl,rfl⟩
  cases a0 with
  | zero=>exact noneb hF
  | succ a0=>
   rw [Zbw] at hF
   refine AWP.seq (AWP.rg0 [] [(6,(.ptr 0 0)),(7,(slc 10 Za b.1)),(8,(slc 10 Za f)),(9,(slc 10 Za d)),(18,(slc 20 Zd a)),(19,(i64 (List.length a:Int))),(20,(i64 c)),(21,(vb (decide (c<(List.length a:Int)))))] (AWP.seq ?_))
   refine AWP.cif hF (fun b1 hF=>?_) (fun b1 hF=>?_)
   ·refine AWP.skip ?_
    obtain⟨b2,b3,hF⟩:=bindb hF
    refine AWP.seq ?_
    refine AWP.mid (fun e st H=>(e=.normal∧∃ y,∃ m,∃ o,b2=(y,m,o)∧st=[(6,(.ptr 0 0)),(7,(slc 10 Za b.1)),(8,(slc 10 Za m)),(9,(slc 10 Za o)),(18,(slc 20 Zd a)),(19,(i64 (List.length a:Int))),(20,(i64 c))]∧H=[.cells (Zm y)])) ?_ ?_
    ·clear hF
     have hF:=b3
     refine AWP.block (AWP.seq ?_)
     obtain⟨g,b4,hF⟩:=bindb hF
     refine AWP.rg [(0,.idx Zd b4)] [(6,(.ptr 0 0)),(7,(slc 10 Za b.1)),(8,(slc 10 Za f)),(9,(slc 10 Za d)),(11,(.ptr 1 0)),(18,(slc 20 Zd a)),(19,(i64 (List.length a:Int))),(20,(i64 c))] [.cells (Zm i),.cells (Zd g)] (AWP.seq (AWP.seq ?_))
     obtain⟨a5,b5,hF⟩:=bindb hF
     refine AWP.rg0 [(1,.call Tryz.func52 [] (Zgu g a5 b5))] [(6,(.ptr 0 0)),(7,(slc 10 Za b.1)),(8,(slc 10 Za f)),(9,(slc 10 Za d)),(11,(.ptr 1 0)),(18,(slc 20 Zd a)),(19,(i64 (List.length a:Int))),(20,(i64 c)),(26,(vb (!a5)))] ?_
     refine AWP.cif hF (fun b6 hF=>?_) (fun b6 hF=>?_)
     ·refine AWP.exit (LeQ.start (LeQ.pk [6,7,8,9,18,19,20] 1 ?_))
      exact⟨rfl,i,f,d,(someb hF).symm,by kernel_rfl,by kernel_rfl⟩
     ·refine AWP.skip (AWP.seq ?_)
      obtain⟨s,b7,hF⟩:=bindb hF
      refine AWP.rg [(4,.call Tryz.func57 [] (Zdk i d [g.From] s b7))] [(6,(.ptr 0 0)),(7,(slc 10 Za b.1)),(8,(slc 10 Za f)),(9,(slc 10 Za d)),(11,(.ptr 1 0)),(12,(slc 10 Za s.1)),(18,(slc 20 Zd a)),(19,(i64 (List.length a:Int))),(20,(i64 c))] [.cells (Zm s.2),.cells (Zd g)] (AWP.seq ?_)
      obtain⟨a6,b8,hF⟩:=bindb hF
      obtain⟨a1,b9,hF⟩:=bindb hF
      obtain⟨a7,c0,hF⟩:=bindb hF
      obtain⟨t,c1,hF⟩:=bindb hF
      refine AWP.dr [(2,.call Tryz.func58 [] (Zrp g a6 b8)),(7,.call Tryz.func57 [] (Zdk s.2 b.1 [g.To] a1 b9)),(8,.call Tryz.func54 [] (Ziz a6 a1.1 a7 c0)),(9,.call Tryz.func57 [] (Zdk a1.2 s.1 a7 t c1))] 10 [] [7,8,9] [] [(6,(.ptr 0 0)),(7,(slc 10 Za b.1)),(8,(slc 10 Za f)),(9,(slc 10 Za d)),(11,(.ptr 1 0)),(13,(slc 10 Za t.1)),(18,(slc 20 Zd a)),(19,(i64 (List.length a:Int))),(20,(i64 c))] [.cells (Zm t.2),.cells (Zd g)] (AWP.seq ?_)
      obtain⟨j,c2,hF⟩:=bindb hF
      refine AWP.rg [(2,.call Tryz.func53 [] (Zfr t.2 f t.1 j c2))] [(6,(.ptr 0 0)),(7,(slc 10 Za b.1)),(8,(slc 10 Za j.1)),(9,(slc 10 Za d)),(11,(.ptr 1 0)),(18,(slc 20 Zd a)),(19,(i64 (List.length a:Int))),(20,(i64 c))] [.cells (Zm j.2),.cells (Zd g)] ?_
      obtain⟨u,c3,hF⟩:=bindb hF
      refine AWP.rg [(4,.call Tryz.func59 [] (Zh3 j.2 d [g.From] u c3))] [(6,(.ptr 0 0)),(7,(slc 10 Za b.1)),(8,(slc 10 Za j.1)),(9,(slc 10 Za u.1)),(18,(slc 20 Zd a)),(19,(i64 (List.length a:Int))),(20,(i64 c))] [.cells (Zm u.2),.cells (Zd g)] (LeQ.start (LeQ.pk [6,7,8,9,18,19,20] 1 ?_))
      exact⟨rfl,u.2,j.1,u.1,(someb hF).symm,by kernel_rfl,by kernel_rfl⟩
    ·rintro _ _ _ ⟨rfl,y,m,o,rfl,rfl,rfl⟩
     refine AWP.rg0 [] [(6,(.ptr 0 0)),(7,(slc 10 Za b.1)),(8,(slc 10 Za m)),(9,(slc 10 Za o)),(18,(slc 20 Zd a)),(19,(i64 (List.length a:Int))),(20,(i64 (ZI (c + (1:Int)))))] (LeQ.start (LeQ.pk [6,7,8,9,18,19,20] 1 ?_))
     exact⟨a0,Nat.lt_succ_self _,y,m,o,(ZI (c + (1:Int))),hF,by kernel_rfl,by kernel_rfl⟩
   ·refine AWP.exit (LeQ.start (LeQ.pk [6,7,8,9] 1 ?_))
    exact⟨rfl,i,f,d,(someb hF).symm,by kernel_rfl,by kernel_rfl⟩
 ·rintro _ _ _ ⟨rfl,v,w,x,rfl,rfl,rfl⟩
  refine AWP.seq ?_
  obtain⟨a2,c4,hF⟩:=bindb hF
  obtain⟨z,c5,hF⟩:=bindb hF
  obtain⟨a3,c6,hF⟩:=bindb hF
  refine AWP.rg [(3,.call Tryz.func57 [] (Zdk v x b.1 a2 c4)),(4,.call Tryz.func53 [] (Zfr a2.2 w a2.1 z c5)),(5,.call Tryz.func55 [] (Zis z.2 z.1 a3 c6))] [(4,(slc 10 Za a3.1)),(5,(i64 a3.2))] [.cells (Zm z.2)] (AWP.ret ?_)
  have hr:=someb hF
  subst hr
  exact(FnQ.f0 0 (.inr rfl))
def Zpn (r:(ZL × Int)):PV→List Blk→Prop:=fun p K=>p=(.tup [(slc 10 Za r.1),(i64 r.2)])∧K=[]
theorem Zpo (a:(List Zk)) (l:ZL) (r:(ZL × Int)) (hF:Zfv a l=some r):ACall Tryz.prog glob 63 [(slc 20 Zd a),(slc 10 Za l)] [] (Zpn r):=by
 refine ACall.body Tryz.func63 rfl (by kernel_rfl) ?_
 unfold Zfv at hF
 refine AWP.seq (AWP.rg0 [] [(0,(slc 20 Zd a)),(1,(slc 10 Za l))] (AWP.seq (AWP.rg [] [(0,(slc 20 Zd a)),(1,(slc 10 Za l)),(6,(.ptr 0 0))] [.cells (Zr (Zp.mk false))] (AWP.seq ?_))))
 obtain⟨b,a6,hF⟩:=bindb hF
 refine AWP.rg [(2,.call Tryz.func113 [] (Zay (Zp.mk false) (0:Int) l ([]:ZL) b a6))] [(0,(slc 20 Zd a)),(1,(slc 10 Za b.1)),(6,(.ptr 0 0))] [.cells (Zr b.2)] (AWP.seq ?_)
 obtain⟨g,a7,hF⟩:=bindb hF
 refine AWP.rg0 [(0,.call Tryz.func47 [] (Zkr g a7))] [(0,(slc 20 Zd a)),(1,(slc 10 Za b.1)),(6,(.ptr 0 0)),(7,(slc 10 Za [g]))] (AWP.seq (AWP.rg0 [] [(0,(slc 20 Zd a)),(1,(slc 10 Za b.1)),(6,(.ptr 0 0)),(7,(slc 10 Za [g])),(8,nils)] (AWP.seq (AWP.seq (AWP.rg0 [] [(0,(slc 20 Zd a)),(1,(slc 10 Za b.1)),(6,(.ptr 0 0)),(7,(slc 10 Za [g])),(8,nils),(9,(i64 (0:Int)))] ?_)))))
 obtain⟨a3,a8,hF⟩:=bindb hF
 refine AWP.mid (fun e st H=>(e=.normal∧∃ u,∃ v,∃ w,a3=(u,v,w)∧st=[(1,(slc 10 Za b.1)),(6,(.ptr 0 0)),(7,(slc 10 Za v)),(8,(slc 10 Za w))]∧H=[.cells (Zr u)])) ?_ ?_
 ·clear hF
  refine AWP.wk (p:=nils) (q:=(slc 10 Za ([]:ZL))) (st':=[(8,(slc 10 Za ([]:ZL))),(0,(slc 20 Zd a)),(1,(slc 10 Za b.1)),(6,(.ptr 0 0)),(7,(slc 10 Za [g])),(9,(i64 (0:Int)))]) 8 (by kernel_rfl) (.nil 10) (by kernel_rfl) ?_
  refine AWP.kp [0,1,6,7,8,9] 1 ?_
  refine AWP.bround (fun n st H=>∃ i,∃ d,∃ f,∃ c,Zbx a b n i d f c=some a3∧st=[(0,(slc 20 Zd a)),(1,(slc 10 Za b.1)),(6,(.ptr 0 0)),(7,(slc 10 Za d)),(8,(slc 10 Za f)),(9,(i64 c))]∧H=[.cells (Zr i)]) fuel ⟨b.2,[g],([]:ZL),(0:Int),a8,by kernel_rfl,by kernel_rfl⟩ ?_
  rintro z st H ⟨i,d,f,c,hF,rfl,rfl⟩
  cases z with
  | zero=>exact noneb hF
  | succ z=>
   rw [Zbx] at hF
   refine AWP.seq (AWP.seq (AWP.rg0 [(2,.len Zd a)] [(0,(slc 20 Zd a)),(1,(slc 10 Za b.1)),(6,(.ptr 0 0)),(7,(slc 10 Za d)),(8,(slc 10 Za f)),(9,(i64 c)),(22,(vb (decide (c<(List.length a:Int)))))] ?_))
   refine AWP.cif hF (fun a9 hF=>?_) (fun a9 hF=>?_)
   ·refine AWP.skip ?_
    obtain⟨b0,b1,hF⟩:=bindb hF
    refine AWP.seq ?_
    refine AWP.mid (fun e st H=>(e=.normal∧∃ x,∃ m,∃ o,b0=(x,m,o)∧st=[(0,(slc 20 Zd a)),(1,(slc 10 Za b.1)),(6,(.ptr 0 0)),(7,(slc 10 Za m)),(8,(slc 10 Za o)),(9,(i64 c))]∧H=[.cells (Zr x)])) ?_ ?_
    ·clear hF
     have hF:=b1
     refine AWP.block (AWP.seq (AWP.seq ?_))
     obtain⟨b2,b3,hF⟩:=bindb hF
     obtain⟨a4,b4,hF⟩:=bindb hF
     refine AWP.rg0 [(2,.idx Zd b3),(4,.call Tryz.func90 [] (Zkh b2 a4 b4))] [(0,(slc 20 Zd a)),(1,(slc 10 Za b.1)),(6,(.ptr 0 0)),(7,(slc 10 Za d)),(8,(slc 10 Za f)),(9,(i64 c)),(30,(vb (!a4)))] ?_
     refine AWP.cif hF (fun b5 hF=>?_) (fun b5 hF=>?_)
     ·refine AWP.exit (LeQ.start (LeQ.pk [0,1,6,7,8,9] 1 ?_))
      exact⟨rfl,i,d,f,(someb hF).symm,by kernel_rfl,by kernel_rfl⟩
     ·refine AWP.skip (AWP.seq ?_)
      obtain⟨b6,b7,hF⟩:=bindb hF
      obtain⟨j,b8,hF⟩:=bindb hF
      refine AWP.rg [(4,.idx Zd b7),(8,.call Tryz.func113 [] (Zay i (1:Int) d [b6.From] j b8))] [(0,(slc 20 Zd a)),(1,(slc 10 Za b.1)),(6,(.ptr 0 0)),(7,(slc 10 Za d)),(8,(slc 10 Za f)),(9,(i64 c)),(10,(slc 10 Za j.1))] [.cells (Zr j.2)] (AWP.seq ?_)
      obtain⟨b9,c0,hF⟩:=bindb hF
      obtain⟨s,c1,hF⟩:=bindb hF
      refine AWP.rg [(4,.idx Zd c0),(8,.call Tryz.func113 [] (Zay j.2 (1:Int) b.1 [b9.To] s c1))] [(0,(slc 20 Zd a)),(1,(slc 10 Za b.1)),(6,(.ptr 0 0)),(7,(slc 10 Za d)),(8,(slc 10 Za f)),(9,(i64 c)),(10,(slc 10 Za j.1)),(11,(slc 10 Za s.1))] [.cells (Zr s.2)] (AWP.seq ?_)
      obtain⟨c2,c3,hF⟩:=bindb hF
      obtain⟨c4,c5,hF⟩:=bindb hF
      obtain⟨a5,c6,hF⟩:=bindb hF
      obtain⟨a0,c7,hF⟩:=bindb hF
      obtain⟨k,c8,hF⟩:=bindb hF
      refine AWP.dr [(7,.idx Zd c3),(12,.idx Zd c5),(15,.call Tryz.func114 [] (Zi1 s.1 c2.To c4.From a5 c6)),(16,.call Tryz.func113 [] (Zay s.2 (1:Int) j.1 a5 a0 c7)),(17,.call Tryz.func113 [] (Zay a0.2 (0:Int) f a0.1 k c8))] 18 [] [16,17] [] [(0,(slc 20 Zd a)),(1,(slc 10 Za b.1)),(6,(.ptr 0 0)),(7,(slc 10 Za d)),(8,(slc 10 Za k.1)),(9,(i64 c))] [.cells (Zr k.2)] ?_
      obtain⟨c9,d0,hF⟩:=bindb hF
      obtain⟨t,d1,hF⟩:=bindb hF
      refine AWP.rg [(4,.idx Zd d0),(8,.call Tryz.func113 [] (Zay k.2 (2:Int) d [c9.From] t d1))] [(0,(slc 20 Zd a)),(1,(slc 10 Za b.1)),(6,(.ptr 0 0)),(7,(slc 10 Za t.1)),(8,(slc 10 Za k.1)),(9,(i64 c))] [.cells (Zr t.2)] (LeQ.start (LeQ.pk [0,1,6,7,8,9] 1 ?_))
      exact⟨rfl,t.2,t.1,k.1,(someb hF).symm,by kernel_rfl,by kernel_rfl⟩
    ·rintro _ _ _ ⟨rfl,x,m,o,rfl,rfl,rfl⟩
     refine AWP.rg0 [] [(0,(slc 20 Zd a)),(1,(slc 10 Za b.1)),(6,(.ptr 0 0)),(7,(slc 10 Za m)),(8,(slc 10 Za o)),(9,(i64 (ZI (c + (1:Int)))))] (LeQ.start (LeQ.pk [0,1,6,7,8,9] 1 ?_))
     exact⟨z,Nat.lt_succ_self _,x,m,o,(ZI (c + (1:Int))),hF,by kernel_rfl,by kernel_rfl⟩
   ·refine AWP.exit (LeQ.start (LeQ.pk [1,6,7,8] 1 ?_))
    exact⟨rfl,i,d,f,(someb hF).symm,by kernel_rfl,by kernel_rfl⟩
 ·rintro _ _ _ ⟨rfl,u,v,w,rfl,rfl,rfl⟩
  refine AWP.seq ?_
  obtain⟨a1,d2,hF⟩:=bindb hF
  obtain⟨y,d3,hF⟩:=bindb hF
  obtain⟨a2,d4,hF⟩:=bindb hF
  refine AWP.rg [(6,.call Tryz.func113 [] (Zay u (1:Int) v b.1 a1 d2)),(7,.call Tryz.func113 [] (Zay a1.2 (0:Int) w a1.1 y d3)),(8,.call Tryz.func115 [] (Zjj y.2 y.1 a2 d4))] [(4,(slc 10 Za a2.1)),(5,(i64 a2.2))] [.cells (Zr y.2)] (AWP.ret ?_)
  have hr:=someb hF
  subst hr
  exact(FnQ.f0 0 (.inr rfl))
def Zki (r:(Bool × Int)):PV→List Blk→Prop:=fun p K=>p=(.tup [(vb r.1),(i64 r.2)])∧K=[]
abbrev Zkj (r:(Bool × Int)):Exit→St→List Blk→Prop:=FnQ Tryz.prog Tryz.f64.results 0 (Zki r)
theorem Zoy (f:(List Zk)) (k:ZL) (r:(Bool × Int)) (hF:Zfk f k=some r):ACall Tryz.prog glob 64 [(slc 20 Zd f),(slc 10 Za k)] [] (Zki r):=by
 refine ACall.body Tryz.func64 rfl (by kernel_rfl) ?_
 unfold Zfk at hF
 refine AWP.seq (AWP.rg0 [] [(0,(slc 20 Zd f)),(1,(slc 10 Za k))] (AWP.seq (AWP.seq ?_)))
 obtain⟨l,a8,hF⟩:=bindb hF
 refine AWP.rg0 [(2,.call Tryz.func16 [] (Zmg f k l a8))] [(0,(slc 20 Zd f)),(1,(slc 10 Za k)),(7,(i64 l.2))] (AWP.seq (AWP.rg0 [] [(0,(slc 20 Zd f)),(1,(slc 10 Za k)),(7,(i64 l.2)),(26,(vb (l.2 != (0:Int))))] ?_))
 refine AWP.cif hF (fun a9 hF=>?_) (fun a9 hF=>?_)
 ·refine AWP.seq (AWP.rg0 [] [(4,(vb false)),(5,(i64 l.2))] (AWP.ret ?_))
  have hr:=someb hF
  subst hr
  exact(FnQ.f0 0 (.inr rfl))
 ·refine AWP.skip (AWP.seq (AWP.rg [] [(0,(slc 20 Zd f)),(1,(slc 10 Za k)),(8,(.ptr 0 0))] [.cells (Zm Zce)] (AWP.seq ?_)))
  obtain⟨a3,b0,hF⟩:=bindb hF
  obtain⟨u,b1,hF⟩:=bindb hF
  obtain⟨b,b2,hF⟩:=bindb hF
  refine AWP.rg [(1,.call Tryz.func50 [] (Zni f a3 b0)),(3,.call Tryz.func51 [] (Zhq Zce k u b1)),(4,.call Tryz.func49 [] (Zi7 u.2 a3 u.1 b b2))] [(0,(slc 20 Zd f)),(9,(slc 1 Zf b.1)),(10,(slc 10 Za b.2.1))] [.cells (Zm b.2.2)] (AWP.seq (AWP.rg [(1,.m)] [(0,(slc 20 Zd f)),(9,(slc 1 Zf b.1)),(11,(.own 1 (List.length [b.2.1])))] [.cells (Zm b.2.2),bf 1 38 Zf [b.2.1] false] (AWP.seq (AWP.seq (AWP.rg0 [(1,.len Zf b.1)] [(0,(slc 20 Zd f)),(11,(.own 1 (List.length [b.2.1]))),(38,(slc 1 Zf b.1)),(39,(i64 (List.length b.1:Int))),(40,(i64 (0:Int)))] ?_)))))
  obtain⟨d,b3,hF⟩:=bindb hF
  refine AWP.mid (fun e st H=>e=.normal∧st=[(11,(.own 1 (List.length d)))]∧H=[.cells (Zm b.2.2),bf 1 38 Zf d false]) ?_ ?_
  ·clear hF
   refine AWP.kp [0,11,38,39,40] 2 ?_
   refine AWP.bround (fun n st H=>∃ j,∃ g,Zb8 f b n j g=some d∧st=[(0,(slc 20 Zd f)),(11,(.own 1 (List.length j))),(38,(slc 1 Zf b.1)),(39,(i64 (List.length b.1:Int))),(40,(i64 g))]∧H=[.cells (Zm b.2.2),bf 1 38 Zf j false]) fuel ⟨[b.2.1],(0:Int),b3,by kernel_rfl,by kernel_rfl⟩ ?_
   rintro v st H ⟨j,g,hF,rfl,rfl⟩
   cases v with
   | zero=>exact noneb hF
   | succ v=>
    rw [Zb8] at hF
    refine AWP.seq (AWP.rg0 [] [(0,(slc 20 Zd f)),(11,(.own 1 (List.length j))),(38,(slc 1 Zf b.1)),(39,(i64 (List.length b.1:Int))),(40,(i64 g)),(41,(vb (decide (g<(List.length b.1:Int)))))] (AWP.seq ?_))
    refine AWP.cif hF (fun b4 hF=>?_) (fun b4 hF=>?_)
    ·refine AWP.skip ?_
     obtain⟨p,b5,hF⟩:=bindb hF
     refine AWP.seq ?_
     refine AWP.mid (fun e st H=>e=.normal∧st=[(0,(slc 20 Zd f)),(11,(.own 1 (List.length p))),(38,(slc 1 Zf b.1)),(39,(i64 (List.length b.1:Int))),(40,(i64 g))]∧H=[.cells (Zm b.2.2),bf 1 38 Zf p false]) ?_ ?_
     ·clear hF
      have hF:=b5
      refine AWP.block (AWP.seq ?_)
      obtain⟨w,b6,hF⟩:=bindb hF
      refine AWP.rg0 [(1,.idx Zf b6)] [(0,(slc 20 Zd f)),(11,(.own 1 (List.length j))),(12,(i64 g)),(13,(slc 10 Za w)),(38,(slc 1 Zf b.1)),(39,(i64 (List.length b.1:Int))),(40,(i64 g))] (AWP.seq ?_)
      obtain⟨b7,b8,hF⟩:=bindb hF
      obtain⟨a4,b9,hF⟩:=bindb hF
      refine AWP.rg0 [(2,.idx Zd b8),(4,.call Tryz.func52 [] (Zgu b7 a4 b9))] [(0,(slc 20 Zd f)),(11,(.own 1 (List.length j))),(12,(i64 g)),(13,(slc 10 Za w)),(38,(slc 1 Zf b.1)),(39,(i64 (List.length b.1:Int))),(40,(i64 g)),(49,(vb a4))] ?_
      refine AWP.cif hF (fun c0 hF=>?_) (fun c0 hF=>?_)
      ·obtain⟨c1,c2,hF⟩:=bindb hF
       obtain⟨x,c3,hF⟩:=bindb hF
       obtain⟨c4,hF⟩:=chkb hF
       refine AWP.rg [(3,.idx Zd c2),(6,.call Tryz.func54 [] (Ziz c1 w x c3)),(8,.app Zf (fun _=>by kernel_rfl) c4)] [(0,(slc 20 Zd f)),(11,(.own 1 (List.length (j++[x])))),(38,(slc 1 Zf b.1)),(39,(i64 (List.length b.1:Int))),(40,(i64 g))] [.cells (Zm b.2.2),bf 1 38 Zf (j++[x]) false] (LeQ.start (LeQ.pk [0,11,38,39,40] 2 ?_))
       have hr:=someb hF
       subst hr
       exact⟨rfl,by kernel_rfl,by kernel_rfl⟩
      ·refine AWP.skip (LeQ.start (LeQ.pk [0,11,38,39,40] 2 ?_))
       have hr:=someb hF
       subst hr
       exact⟨rfl,by kernel_rfl,by kernel_rfl⟩
     ·rintro _ _ _ ⟨rfl,rfl,rfl⟩
      refine AWP.rg0 [] [(0,(slc 20 Zd f)),(11,(.own 1 (List.length p))),(38,(slc 1 Zf b.1)),(39,(i64 (List.length b.1:Int))),(40,(i64 (ZI (g + (1:Int)))))] (LeQ.start (LeQ.pk [0,11,38,39,40] 2 ?_))
      exact⟨v,Nat.lt_succ_self _,p,(ZI (g + (1:Int))),hF,by kernel_rfl,by kernel_rfl⟩
    ·refine AWP.exit (LeQ.start (LeQ.pk [11] 2 ?_))
     have hr:=someb hF
     subst hr
     exact⟨rfl,by kernel_rfl,by kernel_rfl⟩
  ·rintro _ _ _ ⟨rfl,rfl,rfl⟩
   refine AWP.seq (AWP.seq (AWP.rg0 [(1,.len Zf d)] [(11,(.own 1 (List.length d))),(61,(i64 (List.length d:Int))),(62,(i64 (0:Int)))] ?_))
   obtain⟨y,c5,hF⟩:=bindb hF
   refine AWP.mid (fun e st H=>(e=.normal∧∃ z,y=(.inl z)∧st=[]∧H=[.cells (Zm b.2.2),bf 1 38 Zf z true])∨(e=.ret∧∃ r,y=(.inr r)∧Zkj r e st H)) ?_ ?_
   ·clear hF
    refine AWP.share (s:=1) (t:=38) (xs:=List.map Zf d) (sh:=false) (H':=[.cells (Zm b.2.2),bf 1 38 Zf d true]) 1 (by kernel_rfl) (by kernel_rfl) ?_
    refine AWP.kp [11,61,62] 2 ?_
    refine AWP.bround (fun n st H=>∃ c,∃ a,Zca d n c a=some y∧st=[(11,(.own 1 (List.length c))),(61,(i64 (List.length d:Int))),(62,(i64 a))]∧H=[.cells (Zm b.2.2),bf 1 38 Zf c true]) fuel ⟨d,(0:Int),c5,by kernel_rfl,by kernel_rfl⟩ ?_
    rintro a0 st H ⟨c,a,hF,rfl,rfl⟩
    cases a0 with
    | zero=>exact noneb hF
    | succ a0=>
     rw [Zca] at hF
     refine AWP.seq (AWP.rg0 [] [(11,(.own 1 (List.length c))),(61,(i64 (List.length d:Int))),(62,(i64 a)),(63,(vb (decide (a<(List.length d:Int)))))] (AWP.seq ?_))
     refine AWP.cif hF (fun c6 hF=>?_) (fun c6 hF=>?_)
     ·refine AWP.skip (AWP.seq (AWP.block (AWP.seq (AWP.rg0 [] [(11,(.own 1 (List.length c))),(14,(i64 a)),(61,(i64 (List.length d:Int))),(62,(i64 a))] (AWP.seq ?_)))))
      obtain⟨c7,hF⟩:=chkb hF
      refine AWP.rg0 [(2,.slice Zf c c7),(3,.len Zf (List.drop (Int.toNat (0:Int)) (List.take (Int.toNat a) c)))] [(11,(.own 1 (List.length c))),(14,(i64 a)),(61,(i64 (List.length d:Int))),(62,(i64 a)),(67,(slc 1 Zf (List.drop (Int.toNat (0:Int)) (List.take (Int.toNat a) c)))),(68,(i64 (List.length (List.drop (Int.toNat (0:Int)) (List.take (Int.toNat a) c)):Int))),(69,(i64 (0:Int)))] ?_
      obtain⟨a1,c8,hF⟩:=bindb hF
      refine AWP.mid (fun e st H=>(e=.normal∧a1=(.inl ())∧st=[(11,(.own 1 (List.length c))),(61,(i64 (List.length d:Int))),(62,(i64 a))]∧H=[.cells (Zm b.2.2),bf 1 38 Zf c true])∨(e=.ret∧∃ r,a1=(.inr r)∧Zkj r e st H)) ?_ ?_
      ·clear hF
       refine AWP.kp [11,14,61,62,67,68,69] 2 ?_
       refine AWP.bround (fun n st H=>∃ i,Zb9 c a n i=some a1∧st=[(11,(.own 1 (List.length c))),(14,(i64 a)),(61,(i64 (List.length d:Int))),(62,(i64 a)),(67,(slc 1 Zf (List.drop (Int.toNat (0:Int)) (List.take (Int.toNat a) c)))),(68,(i64 (List.length (List.drop (Int.toNat (0:Int)) (List.take (Int.toNat a) c)):Int))),(69,(i64 i))]∧H=[.cells (Zm b.2.2),bf 1 38 Zf c true]) fuel ⟨(0:Int),c8,by kernel_rfl,by kernel_rfl⟩ ?_
       rintro a2 st H ⟨i,hF,rfl,rfl⟩
       cases a2 with
       | zero=>exact noneb hF
       | succ a2=>
        rw [Zb9] at hF
        refine AWP.seq (AWP.rg0 [] [(11,(.own 1 (List.length c))),(14,(i64 a)),(61,(i64 (List.length d:Int))),(62,(i64 a)),(67,(slc 1 Zf (List.drop (Int.toNat (0:Int)) (List.take (Int.toNat a) c)))),(68,(i64 (List.length (List.drop (Int.toNat (0:Int)) (List.take (Int.toNat a) c)):Int))),(69,(i64 i)),(70,(vb (decide (i<(List.length (List.drop (Int.toNat (0:Int)) (List.take (Int.toNat a) c)):Int)))))] (AWP.seq ?_))
        refine AWP.cif hF (fun c9 hF=>?_) (fun c9 hF=>?_)
        ·refine AWP.skip (AWP.seq (AWP.block (AWP.seq ?_)))
         obtain⟨a5,d0,hF⟩:=bindb hF
         refine AWP.rg0 [(0,.idx Zf d0)] [(11,(.own 1 (List.length c))),(14,(i64 a)),(16,(slc 10 Za a5)),(61,(i64 (List.length d:Int))),(62,(i64 a)),(67,(slc 1 Zf (List.drop (Int.toNat (0:Int)) (List.take (Int.toNat a) c)))),(68,(i64 (List.length (List.drop (Int.toNat (0:Int)) (List.take (Int.toNat a) c)):Int))),(69,(i64 i))] (AWP.seq ?_)
         obtain⟨d1,a6,hF⟩:=bindb hF
         obtain⟨o,d2,hF⟩:=bindb hF
         refine AWP.rg0 [(2,.idx Zf a6),(3,.ldE Zf a6),(5,.call Tryz.func104 [] (Zji d1 a5 o d2))] [(11,(.own 1 (List.length c))),(14,(i64 a)),(17,(slc 10 Za o.1)),(18,(i64 o.2)),(61,(i64 (List.length d:Int))),(62,(i64 a)),(67,(slc 1 Zf (List.drop (Int.toNat (0:Int)) (List.take (Int.toNat a) c)))),(68,(i64 (List.length (List.drop (Int.toNat (0:Int)) (List.take (Int.toNat a) c)):Int))),(69,(i64 i))] (AWP.seq ?_)
         obtain⟨a7,q,hF⟩:=bindb hF
         replace q:=someb q
         refine AWP.to [(11,(.own 1 (List.length c))),(14,(i64 a)),(61,(i64 (List.length d:Int))),(62,(i64 a)),(67,(slc 1 Zf (List.drop (Int.toNat (0:Int)) (List.take (Int.toNat a) c)))),(68,(i64 (List.length (List.drop (Int.toNat (0:Int)) (List.take (Int.toNat a) c)):Int))),(69,(i64 i)),(88,(vb (a7 || (decide ((List.length o.1:Int) > (0:Int))))))] [.cells (Zm b.2.2),bf 1 38 Zf c true] ?_ ?_
         ·cases a7 with
          | false=>
           exact AWP.rgT [(2,.bool q),(4,.len Za o.1)]
          | true=>
           exact AWP.rgT [(2,.bool q)]
         refine AWP.cif hF (fun d3 hF=>?_) (fun d3 hF=>?_)
         ·refine AWP.seq (AWP.rg0 [] [(4,(vb false)),(5,(i64 (0:Int)))] (AWP.ret ?_))
          exact LeQ.of (.inr ⟨rfl,(false,(0:Int)),(someb hF).symm,(FnQ.f0 0 (.inr rfl))⟩)
         ·refine AWP.skip (AWP.rg0 [] [(11,(.own 1 (List.length c))),(14,(i64 a)),(61,(i64 (List.length d:Int))),(62,(i64 a)),(67,(slc 1 Zf (List.drop (Int.toNat (0:Int)) (List.take (Int.toNat a) c)))),(68,(i64 (List.length (List.drop (Int.toNat (0:Int)) (List.take (Int.toNat a) c)):Int))),(69,(i64 (ZI (i + (1:Int)))))] (LeQ.start (LeQ.pk [11,14,61,62,67,68,69] 2 ?_)))
          exact⟨a2,Nat.lt_succ_self _,(ZI (i + (1:Int))),hF,by kernel_rfl,by kernel_rfl⟩
        ·refine AWP.exit (LeQ.start (LeQ.pk [11,61,62] 2 ?_))
         exact(.inl ⟨rfl,(someb hF).symm,by kernel_rfl,by kernel_rfl⟩)
      ·rintro _ _ _ (⟨rfl,rfl,rfl,rfl⟩ | ⟨rfl,d4,rfl,hq⟩)
       ·refine AWP.rg0 [] [(11,(.own 1 (List.length c))),(61,(i64 (List.length d:Int))),(62,(i64 (ZI (a + (1:Int)))))] (LeQ.start (LeQ.pk [11,61,62] 2 ?_))
        exact⟨a0,Nat.lt_succ_self _,c,(ZI (a + (1:Int))),hF,by kernel_rfl,by kernel_rfl⟩
       ·exact LeQ.of (.inr ⟨rfl,d4,(someb hF).symm,hq⟩)
     ·refine AWP.exit (LeQ.start (LeQ.pk [] 2 ?_))
      exact(.inl ⟨rfl,c,(someb hF).symm,by kernel_rfl,by kernel_rfl⟩)
   ·rintro _ _ _ (⟨rfl,z,rfl,rfl,rfl⟩ | ⟨rfl,d5,rfl,hq⟩)
    ·refine AWP.seq (AWP.rg0 [] [(4,(vb true)),(5,(i64 (0:Int)))] (AWP.ret ?_))
     have hr:=someb hF
     subst hr
     exact(FnQ.f0 0 (.inr rfl))
    ·have hr:=someb hF
     subst hr
     exact hq
def Zoz (r:(ZB × Bool)):PV→List Blk→Prop:=fun p K=>p=(.tup [(Zt r.1),(vb r.2)])∧K=[]
theorem Zo0 (a:ZB) (c:ZB) (r:(ZB × Bool)) (hF:Zfj a c=some r):ACall Tryz.prog glob 79 [(Zt a),(Zt c)] [] (Zoz r):=by
 refine ACall.body Tryz.func79 rfl (by kernel_rfl) ?_
 unfold Zfj at hF
 refine AWP.seq (AWP.rg [] [(2,(.ptr 0 0)),(3,(.ptr 1 0)),(4,(.ptr 2 0))] [.cells (Za a),.cells (Za c),.cells (Za Zo)] (AWP.seq (AWP.rg [] [(2,(.ptr 0 0)),(3,(.ptr 1 0)),(4,(.ptr 2 0)),(6,(.ptr 3 0))] [.cells (Za a),.cells (Za c),.cells (Za Zo),.cells (Za Zo)] (AWP.seq (AWP.seq (AWP.rg0 [] [(2,(.ptr 0 0)),(3,(.ptr 1 0)),(4,(.ptr 2 0)),(6,(.ptr 3 0)),(7,(i64 (0:Int)))] ?_))))))
 obtain⟨d,z,hF⟩:=bindb hF
 refine AWP.mid (fun e st H=>e=.normal∧st=[(2,(.ptr 0 0)),(3,(.ptr 1 0)),(4,(.ptr 2 0)),(6,(.ptr 3 0))]∧H=[.cells (Za a),.cells (Za c),.cells (Za Zo),.cells (Za d)]) ?_ ?_
 ·clear hF
  refine AWP.kp [2,3,4,6,7] 4 ?_
  refine AWP.bround (fun n st H=>∃ f,∃ b,Zb3 a c n f b=some d∧st=[(2,(.ptr 0 0)),(3,(.ptr 1 0)),(4,(.ptr 2 0)),(6,(.ptr 3 0)),(7,(i64 b))]∧H=[.cells (Za a),.cells (Za c),.cells (Za Zo),.cells (Za f)]) fuel ⟨Zo,(0:Int),z,by kernel_rfl,by kernel_rfl⟩ ?_
  rintro l st H ⟨f,b,hF,rfl,rfl⟩
  cases l with
  | zero=>exact noneb hF
  | succ l=>
   rw [Zb3] at hF
   refine AWP.seq (AWP.seq (AWP.rg0 [] [(2,(.ptr 0 0)),(3,(.ptr 1 0)),(4,(.ptr 2 0)),(6,(.ptr 3 0)),(7,(i64 b)),(9,(vb (decide (b<(5:Int)))))] ?_))
   refine AWP.cif hF (fun a0 hF=>?_) (fun a0 hF=>?_)
   ·refine AWP.skip (AWP.seq (AWP.block ?_))
    obtain⟨q,hF⟩:=chkb hF
    obtain⟨s,hF⟩:=chkb hF
    obtain⟨t,hF⟩:=chkb hF
    obtain⟨u,hF⟩:=chkb hF
    obtain⟨v,hF⟩:=chkb hF
    refine AWP.dr [(2,.ixd q),(4,.ldA Zi (Arr5.get a) 0 2 0 q),(6,.ixd s),(8,.ldA Zi (Arr5.get c) 0 2 0 s),(11,.ixd t),(13,.ldA Zi (Arr5.get a) 0 2 1 t),(15,.ixd u),(17,.ldA Zi (Arr5.get c) 0 2 1 u),(20,.ixd v),(21,.stA (fun a1=>Za (Arr5.set f a1 (Zb.mk (iMax ((Arr5.get a b).Lo) ((Arr5.get c b).Lo)) (iMin ((Arr5.get a b).Hi) ((Arr5.get c b).Hi))))) 0 2 0 v)] 20 [] [] [] [(2,(.ptr 0 0)),(3,(.ptr 1 0)),(4,(.ptr 2 0)),(6,(.ptr 3 0)),(7,(i64 b))] [.cells (Za a),.cells (Za c),.cells (Za Zo),.cells (Za (Arr5.set f b (Zb.mk (iMax ((Arr5.get a b).Lo) ((Arr5.get c b).Lo)) (iMin ((Arr5.get a b).Hi) ((Arr5.get c b).Hi)))))] (AWP.rg0 [] [(2,(.ptr 0 0)),(3,(.ptr 1 0)),(4,(.ptr 2 0)),(6,(.ptr 3 0)),(7,(i64 (ZI (b + (1:Int)))))] (LeQ.start (LeQ.pk [2,3,4,6,7] 4 ?_)))
    exact⟨l,Nat.lt_succ_self _,(Arr5.set f b (Zb.mk (iMax ((Arr5.get a b).Lo) ((Arr5.get c b).Lo)) (iMin ((Arr5.get a b).Hi) ((Arr5.get c b).Hi)))),(ZI (b + (1:Int))),hF,by kernel_rfl,by kernel_rfl⟩
   ·refine AWP.exit (LeQ.start (LeQ.pk [2,3,4,6] 4 ?_))
    have hr:=someb hF
    subst hr
    exact⟨rfl,by kernel_rfl,by kernel_rfl⟩
 ·rintro _ _ _ ⟨rfl,rfl,rfl⟩
  refine AWP.seq (AWP.seq ?_)
  obtain⟨m,o,hF⟩:=bindb hF
  obtain⟨a2,g,hF⟩:=bindb hF
  replace g:=someb g
  obtain⟨b1,w,hF⟩:=bindb hF
  obtain⟨a3,i,hF⟩:=bindb hF
  replace i:=someb i
  obtain⟨a4,p,hF⟩:=bindb hF
  refine AWP.to [(4,(.ptr 2 0)),(6,(.ptr 3 0)),(45,(vb a4))] [.cells (Za a),.cells (Za c),.cells (Za Zo),.cells (Za d)] ?_ ?_
  ·cases a2 with
   | false=>
    have j:=ifF w rfl
    obtain⟨x,y,j⟩:=bindb j
    replace j:=someb j
    subst j
    cases a3 with
    | false=>
     have k:=ifF p rfl
     obtain⟨a5,a6,k⟩:=bindb k
     replace k:=someb k
     subst k
     exact AWP.rgT [(1,.call Tryz.func96 [] (Zcv a m o)),(3,.bool g),(5,.call Tryz.func96 [] (Zcv c x y)),(8,.bool i),(10,.call Tryz.func96 [] (Zcv d a5 a6))]
    | true=>
     have a7:=someb (ifT p rfl)
     subst a7
     exact AWP.rgT [(1,.call Tryz.func96 [] (Zcv a m o)),(3,.bool g),(5,.call Tryz.func96 [] (Zcv c x y)),(8,.bool i)]
   | true=>
    have a8:=someb (ifT w rfl)
    subst a8
    subst i
    have a9:=someb (ifT p rfl)
    subst a9
    exact AWP.rgT [(1,.call Tryz.func96 [] (Zcv a m o)),(3,.bool g)]
  refine AWP.cif hF (fun b0 hF=>?_) (fun b0 hF=>?_)
  ·refine AWP.seq (AWP.rg [] [(4,(.ptr 2 0)),(5,(vb false))] [.cells (Za a),.cells (Za c),.cells (Za (Arr5.mk Zn Zn Zn Zn Zn)),.cells (Za d)] (AWP.ret ?_))
   have hr:=someb hF
   subst hr
   exact(FnQ.f0 0 (.inr rfl))
  ·refine AWP.skip (AWP.seq (AWP.rg [] [(4,(.ptr 2 0)),(5,(vb true))] [.cells (Za a),.cells (Za c),.cells (Za d),.cells (Za d)] (AWP.ret ?_)))
   have hr:=someb hF
   subst hr
   exact(FnQ.f0 0 (.inr rfl))
def Znp (r:Bool):PV→List Blk→Prop:=fun p K=>p=(vb r)∧K=[]
abbrev Znq (r:Bool):Exit→St→List Blk→Prop:=FnQ Tryz.prog Tryz.f116.results 0 (Znp r)
theorem Ztw (a:ZL) (b:ZL) (r:Bool) (hF:Zhp a b=some r):ACall Tryz.prog glob 116 [(slc 10 Za a),(slc 10 Za b)] [] (Znp r):=by
 refine ACall.body Tryz.func116 rfl (by kernel_rfl) ?_
 unfold Zhp at hF
 refine AWP.seq (AWP.rg0 [] [(0,(slc 10 Za a)),(1,(slc 10 Za b))] (AWP.seq (AWP.seq (AWP.rg0 [] [(0,(slc 10 Za a)),(1,(slc 10 Za b)),(5,(i64 (0:Int)))] ?_))))
 obtain⟨g,l,hF⟩:=bindb hF
 refine AWP.mid (fun e st H=>(e=.normal∧g=(.inl ())∧st=[]∧H=[])∨(e=.ret∧∃ r,g=(.inr r)∧Znq r e st H)) ?_ ?_
 ·clear hF
  refine AWP.kp [0,1,5] 0 ?_
  refine AWP.bround (fun n st H=>∃ c,Zei a b n c=some g∧st=[(0,(slc 10 Za a)),(1,(slc 10 Za b)),(5,(i64 c))]∧H=[]) fuel ⟨(0:Int),l,by kernel_rfl,by kernel_rfl⟩ ?_
  rintro i st H ⟨c,hF,rfl,rfl⟩
  cases i with
  | zero=>exact noneb hF
  | succ i=>
   rw [Zei] at hF
   refine AWP.seq (AWP.seq (AWP.rg0 [(2,.len Za a)] [(0,(slc 10 Za a)),(1,(slc 10 Za b)),(5,(i64 c)),(12,(vb (decide (c<(List.length a:Int)))))] ?_))
   refine AWP.cif hF (fun m hF=>?_) (fun m hF=>?_)
   ·refine AWP.skip (AWP.seq (AWP.block (AWP.seq (AWP.rg0 [] [(0,(slc 10 Za a)),(1,(slc 10 Za b)),(5,(i64 c)),(6,(i64 (0:Int)))] ?_))))
    obtain⟨j,o,hF⟩:=bindb hF
    refine AWP.mid (fun e st H=>(e=.normal∧j=(.inl ())∧st=[(0,(slc 10 Za a)),(1,(slc 10 Za b)),(5,(i64 c))]∧H=[])∨(e=.ret∧∃ r,j=(.inr r)∧Znq r e st H)) ?_ ?_
    ·clear hF
     refine AWP.kp [0,1,5,6] 0 ?_
     refine AWP.bround (fun n st H=>∃ d,Zdo a b c n d=some j∧st=[(0,(slc 10 Za a)),(1,(slc 10 Za b)),(5,(i64 c)),(6,(i64 d))]∧H=[]) fuel ⟨(0:Int),o,by kernel_rfl,by kernel_rfl⟩ ?_
     rintro k st H ⟨d,hF,rfl,rfl⟩
     cases k with
     | zero=>exact noneb hF
     | succ k=>
      rw [Zdo] at hF
      refine AWP.seq (AWP.seq (AWP.rg0 [(2,.len Za b)] [(0,(slc 10 Za a)),(1,(slc 10 Za b)),(5,(i64 c)),(6,(i64 d)),(18,(vb (decide (d<(List.length b:Int)))))] ?_))
      refine AWP.cif hF (fun p hF=>?_) (fun p hF=>?_)
      ·refine AWP.skip (AWP.seq (AWP.block (AWP.seq ?_)))
       obtain⟨q,s,hF⟩:=bindb hF
       obtain⟨t,u,hF⟩:=bindb hF
       obtain⟨f,v,hF⟩:=bindb hF
       refine AWP.dr [(2,.idx Za s),(6,.idx Za u),(8,.call Tryz.func79 [] (Zo0 q t f v))] 14 [] [12,13] [] [(0,(slc 10 Za a)),(1,(slc 10 Za b)),(5,(i64 c)),(6,(i64 d)),(8,(vb f.2))] [.cells (Za f.1)] (AWP.seq (AWP.rg0 [] [(0,(slc 10 Za a)),(1,(slc 10 Za b)),(5,(i64 c)),(6,(i64 d)),(33,(vb f.2))] ?_))
       refine AWP.cif hF (fun w hF=>?_) (fun w hF=>?_)
       ·refine AWP.seq (AWP.rg0 [] [(4,(vb true))] (AWP.ret ?_))
        exact LeQ.of (.inr ⟨rfl,true,(someb hF).symm,(FnQ.f0 0 (.inr rfl))⟩)
       ·refine AWP.skip (AWP.rg0 [] [(0,(slc 10 Za a)),(1,(slc 10 Za b)),(5,(i64 c)),(6,(i64 (ZI (d + (1:Int)))))] (LeQ.start (LeQ.pk [0,1,5,6] 0 ?_)))
        exact⟨k,Nat.lt_succ_self _,(ZI (d + (1:Int))),hF,by kernel_rfl,by kernel_rfl⟩
      ·refine AWP.exit (LeQ.start (LeQ.pk [0,1,5] 0 ?_))
       exact(.inl ⟨rfl,(someb hF).symm,by kernel_rfl,by kernel_rfl⟩)
    ·rintro _ _ _ (⟨rfl,rfl,rfl,rfl⟩ | ⟨rfl,x,rfl,hq⟩)
     ·refine AWP.rg0 [] [(0,(slc 10 Za a)),(1,(slc 10 Za b)),(5,(i64 (ZI (c + (1:Int)))))] (LeQ.start (LeQ.pk [0,1,5] 0 ?_))
      exact⟨i,Nat.lt_succ_self _,(ZI (c + (1:Int))),hF,by kernel_rfl,by kernel_rfl⟩
     ·exact LeQ.of (.inr ⟨rfl,x,(someb hF).symm,hq⟩)
   ·refine AWP.exit (LeQ.start (LeQ.pk [] 0 ?_))
    exact(.inl ⟨rfl,(someb hF).symm,by kernel_rfl,by kernel_rfl⟩)
 ·rintro _ _ _ (⟨rfl,rfl,rfl,rfl⟩ | ⟨rfl,y,rfl,hq⟩)
  ·refine AWP.seq (AWP.rg0 [] [(4,(vb false))] (AWP.ret ?_))
   have hr:=someb hF
   subst hr
   exact(FnQ.f0 0 (.inr rfl))
  ·have hr:=someb hF
   subst hr
   exact hq
def Zkk (r:(Bool × Int)):PV→List Blk→Prop:=fun p K=>p=(.tup [(vb r.1),(i64 r.2)])∧K=[]
abbrev Zkl (r:(Bool × Int)):Exit→St→List Blk→Prop:=FnQ Tryz.prog Tryz.f65.results 0 (Zkk r)
theorem Zo1 (b:(List Zk)) (g:ZL) (r:(Bool × Int)) (hF:Zfl b g=some r):ACall Tryz.prog glob 65 [(slc 20 Zd b),(slc 10 Za g)] [] (Zkk r):=by
 refine ACall.body Tryz.func65 rfl (by kernel_rfl) ?_
 unfold Zfl at hF
 refine AWP.seq (AWP.rg0 [] [(0,(slc 20 Zd b)),(1,(slc 10 Za g))] (AWP.seq (AWP.seq ?_)))
 obtain⟨j,u,hF⟩:=bindb hF
 refine AWP.rg0 [(2,.call Tryz.func62 [] (Zmm b g j u))] [(0,(slc 20 Zd b)),(1,(slc 10 Za g)),(7,(i64 j.2))] (AWP.seq (AWP.rg0 [] [(0,(slc 20 Zd b)),(1,(slc 10 Za g)),(7,(i64 j.2)),(22,(vb (j.2 != (0:Int))))] ?_))
 refine AWP.cif hF (fun v hF=>?_) (fun v hF=>?_)
 ·refine AWP.seq (AWP.rg0 [] [(4,(vb false)),(5,(i64 j.2))] (AWP.ret ?_))
  have hr:=someb hF
  subst hr
  exact(FnQ.f0 0 (.inr rfl))
 ·refine AWP.skip (AWP.seq (AWP.rg [] [(0,(slc 20 Zd b)),(1,(slc 10 Za g)),(8,(.ptr 0 0))] [.cells (Zr (Zp.mk false))] (AWP.seq ?_)))
  obtain⟨a,w,hF⟩:=bindb hF
  refine AWP.rg [(3,.call Tryz.func112 [] (Zml (Zp.mk false) b g a w))] [(0,(slc 20 Zd b)),(9,(slc 1 Zf a.1)),(10,(slc 10 Za a.2.1))] [.cells (Zr a.2.2)] (AWP.seq (AWP.rg [(1,.m)] [(0,(slc 20 Zd b)),(9,(slc 1 Zf a.1)),(11,(.own 1 (List.length [a.2.1])))] [.cells (Zr a.2.2),bf 1 38 Zf [a.2.1] false] (AWP.seq (AWP.seq (AWP.rg0 [] [(0,(slc 20 Zd b)),(9,(slc 1 Zf a.1)),(11,(.own 1 (List.length [a.2.1]))),(12,(i64 (0:Int)))] ?_)))))
  obtain⟨k,x,hF⟩:=bindb hF
  refine AWP.mid (fun e st H=>(e=.normal∧∃ l,k=(.inl l)∧st=[]∧H=[.cells (Zr a.2.2),bf 1 38 Zf l false])∨(e=.ret∧∃ r,k=(.inr r)∧Zkl r e st H)) ?_ ?_
  ·clear hF
   refine AWP.kp [0,9,11,12] 2 ?_
   refine AWP.bround (fun n st H=>∃ c,∃ d,Zc0 b a n c d=some k∧st=[(0,(slc 20 Zd b)),(9,(slc 1 Zf a.1)),(11,(.own 1 (List.length c))),(12,(i64 d))]∧H=[.cells (Zr a.2.2),bf 1 38 Zf c false]) fuel ⟨[a.2.1],(0:Int),x,by kernel_rfl,by kernel_rfl⟩ ?_
   rintro o st H ⟨c,d,hF,rfl,rfl⟩
   cases o with
   | zero=>exact noneb hF
   | succ o=>
    rw [Zc0] at hF
    refine AWP.seq (AWP.seq (AWP.rg0 [(2,.len Zd b)] [(0,(slc 20 Zd b)),(9,(slc 1 Zf a.1)),(11,(.own 1 (List.length c))),(12,(i64 d)),(38,(vb (decide (d<(List.length b:Int)))))] ?_))
    refine AWP.cif hF (fun y hF=>?_) (fun y hF=>?_)
    ·refine AWP.skip (AWP.seq (AWP.block (AWP.seq ?_)))
     obtain⟨z,a0,hF⟩:=bindb hF
     obtain⟨a1,a2,hF⟩:=bindb hF
     obtain⟨a3,a4,hF⟩:=bindb hF
     obtain⟨f,a5,hF⟩:=bindb hF
     refine AWP.dr [(2,.idx Zf a0),(6,.idx Zd a2),(11,.idx Zd a4),(14,.call Tryz.func114 [] (Zi1 z a1.From a3.To f a5))] 15 [] [] [] [(0,(slc 20 Zd b)),(9,(slc 1 Zf a.1)),(11,(.own 1 (List.length c))),(12,(i64 d)),(13,(slc 10 Za f))] [.cells (Zr a.2.2),bf 1 38 Zf c false] (AWP.seq (AWP.seq (AWP.rg0 [] [(0,(slc 20 Zd b)),(9,(slc 1 Zf a.1)),(11,(.own 1 (List.length c))),(12,(i64 d)),(13,(slc 10 Za f)),(14,(i64 (0:Int)))] ?_)))
     obtain⟨p,a6,hF⟩:=bindb hF
     refine AWP.mid (fun e st H=>(e=.normal∧p=(.inl ())∧st=[(0,(slc 20 Zd b)),(9,(slc 1 Zf a.1)),(11,(.own 1 (List.length c))),(12,(i64 d)),(13,(slc 10 Za f))]∧H=[.cells (Zr a.2.2),bf 1 38 Zf c false])∨(e=.ret∧∃ r,p=(.inr r)∧Zkl r e st H)) ?_ ?_
     ·clear hF
      refine AWP.kp [0,9,11,12,13,14] 2 ?_
      refine AWP.bround (fun n st H=>∃ i,Zcb c f n i=some p∧st=[(0,(slc 20 Zd b)),(9,(slc 1 Zf a.1)),(11,(.own 1 (List.length c))),(12,(i64 d)),(13,(slc 10 Za f)),(14,(i64 i))]∧H=[.cells (Zr a.2.2),bf 1 38 Zf c false]) fuel ⟨(0:Int),a6,by kernel_rfl,by kernel_rfl⟩ ?_
      rintro q st H ⟨i,hF,rfl,rfl⟩
      cases q with
      | zero=>exact noneb hF
      | succ q=>
       rw [Zcb] at hF
       refine AWP.seq (AWP.seq (AWP.rg0 [(2,.len Zf c)] [(0,(slc 20 Zd b)),(9,(slc 1 Zf a.1)),(11,(.own 1 (List.length c))),(12,(i64 d)),(13,(slc 10 Za f)),(14,(i64 i)),(59,(vb (decide (i<(List.length c:Int)))))] ?_))
       refine AWP.cif hF (fun a7 hF=>?_) (fun a7 hF=>?_)
       ·refine AWP.skip (AWP.seq (AWP.block (AWP.seq ?_)))
        obtain⟨a8,s,hF⟩:=bindb hF
        obtain⟨t,a9,hF⟩:=bindb hF
        refine AWP.rg0 [(3,.idx Zf s),(4,.ldE Zf s),(5,.call Tryz.func116 [] (Ztw f a8 t a9))] [(0,(slc 20 Zd b)),(9,(slc 1 Zf a.1)),(11,(.own 1 (List.length c))),(12,(i64 d)),(13,(slc 10 Za f)),(14,(i64 i)),(67,(vb t))] ?_
        refine AWP.cif hF (fun b0 hF=>?_) (fun b0 hF=>?_)
        ·refine AWP.seq (AWP.rg0 [] [(4,(vb false)),(5,(i64 (0:Int)))] (AWP.ret ?_))
         exact LeQ.of (.inr ⟨rfl,(false,(0:Int)),(someb hF).symm,(FnQ.f0 0 (.inr rfl))⟩)
        ·refine AWP.skip (AWP.rg0 [] [(0,(slc 20 Zd b)),(9,(slc 1 Zf a.1)),(11,(.own 1 (List.length c))),(12,(i64 d)),(13,(slc 10 Za f)),(14,(i64 (ZI (i + (1:Int)))))] (LeQ.start (LeQ.pk [0,9,11,12,13,14] 2 ?_)))
         exact⟨q,Nat.lt_succ_self _,(ZI (i + (1:Int))),hF,by kernel_rfl,by kernel_rfl⟩
       ·refine AWP.exit (LeQ.start (LeQ.pk [0,9,11,12,13] 2 ?_))
        exact(.inl ⟨rfl,(someb hF).symm,by kernel_rfl,by kernel_rfl⟩)
     ·rintro _ _ _ (⟨rfl,rfl,rfl,rfl⟩ | ⟨rfl,b1,rfl,hq⟩)
      ·obtain⟨b2,hF⟩:=chkb hF
       refine AWP.rg [(3,.app Zf (fun _=>by kernel_rfl) b2)] [(0,(slc 20 Zd b)),(9,(slc 1 Zf a.1)),(11,(.own 1 (List.length (c++[f])))),(12,(i64 d))] [.cells (Zr a.2.2),bf 1 38 Zf (c++[f]) false] (AWP.rg0 [] [(0,(slc 20 Zd b)),(9,(slc 1 Zf a.1)),(11,(.own 1 (List.length (c++[f])))),(12,(i64 (ZI (d + (1:Int)))))] (LeQ.start (LeQ.pk [0,9,11,12] 2 ?_)))
       exact⟨o,Nat.lt_succ_self _,(c++[f]),(ZI (d + (1:Int))),hF,by kernel_rfl,by kernel_rfl⟩
      ·exact LeQ.of (.inr ⟨rfl,b1,(someb hF).symm,hq⟩)
    ·refine AWP.exit (LeQ.start (LeQ.pk [] 2 ?_))
     exact(.inl ⟨rfl,c,(someb hF).symm,by kernel_rfl,by kernel_rfl⟩)
  ·rintro _ _ _ (⟨rfl,l,rfl,rfl,rfl⟩ | ⟨rfl,b3,rfl,hq⟩)
   ·refine AWP.seq (AWP.rg0 [] [(4,(vb true)),(5,(i64 (0:Int)))] (AWP.ret ?_))
    have hr:=someb hF
    subst hr
    exact(FnQ.f0 0 (.inr rfl))
   ·have hr:=someb hF
    subst hr
    exact hq
def Ztx (r:Bool):PV→List Blk→Prop:=fun p K=>p=(vb r)∧K=[]
theorem Zdn (a:ZL) (b:ZL) (r:Bool) (hF:Zgp a b=some r):ACall Tryz.prog glob 66 [(slc 10 Za a),(slc 10 Za b)] [] (Ztx r):=by
 refine ACall.body Tryz.func66 rfl (by kernel_rfl) ?_
 unfold Zgp at hF
 refine AWP.seq (AWP.rg0 [] [(0,(slc 10 Za a)),(1,(slc 10 Za b))] (AWP.seq ?_))
 obtain⟨c,d,hF⟩:=bindb hF
 refine AWP.rg0 [(2,.call Tryz.func111 [] (Zne a b c d))] [(4,(vb c))] (AWP.ret ?_)
 have hr:=someb hF
 subst hr
 exact(FnQ.f0 0 (.inr rfl))
def Zty (r:Bool):PV→List Blk→Prop:=fun p K=>p=(vb r)∧K=[]
theorem Zey (c:(List Zk)) (d:ZL) (r:Bool) (hF:Zex c d=some r):ACall Tryz.prog glob 19 [(slc 20 Zd c),(slc 10 Za d)] [] (Zty r):=by
 refine ACall.body Tryz.func19 rfl (by kernel_rfl) ?_
 unfold Zex at hF
 refine AWP.seq (AWP.rg0 [] [(0,(slc 20 Zd c)),(1,(slc 10 Za d))] (AWP.seq ?_))
 obtain⟨a,x,hF⟩:=bindb hF
 refine AWP.rg0 [(2,.call Tryz.func16 [] (Zmg c d a x))] [(0,(slc 20 Zd c)),(1,(slc 10 Za d)),(5,(slc 10 Za a.1)),(6,(i64 a.2))] (AWP.seq ?_)
 obtain⟨b,y,hF⟩:=bindb hF
 refine AWP.rg0 [(2,.call Tryz.func62 [] (Zmm c d b y))] [(0,(slc 20 Zd c)),(1,(slc 10 Za d)),(5,(slc 10 Za a.1)),(6,(i64 a.2)),(7,(slc 10 Za b.1)),(8,(i64 b.2))] (AWP.seq ?_)
 obtain⟨f,z,hF⟩:=bindb hF
 refine AWP.rg0 [(2,.call Tryz.func17 [] (Zpm c d f z))] [(0,(slc 20 Zd c)),(1,(slc 10 Za d)),(5,(slc 10 Za a.1)),(6,(i64 a.2)),(7,(slc 10 Za b.1)),(8,(i64 b.2)),(9,(slc 10 Za f.1)),(10,(i64 f.2))] (AWP.seq ?_)
 obtain⟨g,a0,hF⟩:=bindb hF
 refine AWP.rg0 [(2,.call Tryz.func63 [] (Zpo c d g a0))] [(0,(slc 20 Zd c)),(1,(slc 10 Za d)),(5,(slc 10 Za a.1)),(6,(i64 a.2)),(7,(slc 10 Za b.1)),(8,(i64 b.2)),(9,(slc 10 Za f.1)),(10,(i64 f.2)),(11,(slc 10 Za g.1)),(12,(i64 g.2))] (AWP.seq ?_)
 obtain⟨n,a1,hF⟩:=bindb hF
 refine AWP.rg0 [(2,.call Tryz.func64 [] (Zoy c d n a1))] [(0,(slc 20 Zd c)),(1,(slc 10 Za d)),(5,(slc 10 Za a.1)),(6,(i64 a.2)),(7,(slc 10 Za b.1)),(8,(i64 b.2)),(9,(slc 10 Za f.1)),(10,(i64 f.2)),(11,(slc 10 Za g.1)),(12,(i64 g.2)),(13,(vb n.1)),(14,(i64 n.2))] (AWP.seq ?_)
 obtain⟨s,a2,hF⟩:=bindb hF
 refine AWP.rg0 [(2,.call Tryz.func65 [] (Zo1 c d s a2))] [(5,(slc 10 Za a.1)),(6,(i64 a.2)),(7,(slc 10 Za b.1)),(8,(i64 b.2)),(9,(slc 10 Za f.1)),(10,(i64 f.2)),(11,(slc 10 Za g.1)),(12,(i64 g.2)),(13,(vb n.1)),(14,(i64 n.2)),(15,(vb s.1)),(16,(i64 s.2))] (AWP.seq ?_)
 obtain⟨o,p,hF⟩:=bindb hF
 obtain⟨a3,i,hF⟩:=bindb hF
 replace i:=someb i
 obtain⟨a4,j,hF⟩:=bindb hF
 replace j:=someb j
 obtain⟨a9,v,hF⟩:=bindb hF
 obtain⟨a5,k,hF⟩:=bindb hF
 replace k:=someb k
 obtain⟨a6,l,hF⟩:=bindb hF
 replace l:=someb l
 obtain⟨w,m,hF⟩:=bindb hF
 replace m:=someb m
 refine AWP.to [(4,(vb (w && (n.2 == s.2))))] [] ?_ ?_
 ·cases a3 with
  | false=>
   subst j
   have a7:=someb (ifF v rfl)
   subst a7
   subst k
   subst l
   subst m
   exact AWP.rgT [(2,.call Tryz.func66 [] (Zdn a.1 b.1 o p)),(3,.bool i)]
  | true=>
   cases a4 with
   | false=>
    have a8:=someb (ifF v rfl)
    subst a8
    subst k
    subst l
    subst m
    exact AWP.rgT [(2,.call Tryz.func66 [] (Zdn a.1 b.1 o p)),(3,.bool i),(8,.bool j)]
   | true=>
    have q:=ifT v rfl
    obtain⟨t,u,q⟩:=bindb q
    replace q:=someb q
    subst q
    cases a5 with
    | false=>
     subst l
     subst m
     exact AWP.rgT [(2,.call Tryz.func66 [] (Zdn a.1 b.1 o p)),(3,.bool i),(8,.bool j),(11,.call Tryz.func66 [] (Zdn f.1 g.1 t u)),(13,.bool k)]
    | true=>
     cases a6 with
     | false=>
      subst m
      exact AWP.rgT [(2,.call Tryz.func66 [] (Zdn a.1 b.1 o p)),(3,.bool i),(8,.bool j),(11,.call Tryz.func66 [] (Zdn f.1 g.1 t u)),(13,.bool k),(18,.bool l)]
     | true=>
      cases w with
      | false=>
       exact AWP.rgT [(2,.call Tryz.func66 [] (Zdn a.1 b.1 o p)),(3,.bool i),(8,.bool j),(11,.call Tryz.func66 [] (Zdn f.1 g.1 t u)),(13,.bool k),(18,.bool l),(23,.bool m)]
      | true=>
       exact AWP.rgT [(2,.call Tryz.func66 [] (Zdn a.1 b.1 o p)),(3,.bool i),(8,.bool j),(11,.call Tryz.func66 [] (Zdn f.1 g.1 t u)),(13,.bool k),(18,.bool l),(23,.bool m)]
 refine AWP.ret ?_
 have hr:=someb hF
 subst hr
 exact(FnQ.f0 0 (.inr rfl))
def Ztz (r:ZL):PV→List Blk→Prop:=fun p K=>p=(slc 10 Za r)∧K=[]
theorem Zt0 (a:(List Zk)) (r:ZL) (hF:Zhm a=some r):ACall Tryz.prog glob 12 [(slc 20 Zd a)] [] (Ztz r):=by
 refine ACall.body Tryz.func12 rfl (by kernel_rfl) ?_
 unfold Zhm at hF
 refine AWP.seq (AWP.rg0 [] [(0,(slc 20 Zd a))] (AWP.seq (AWP.rg0 [] [(0,(slc 20 Zd a)),(3,nils)] ?_)))
 refine AWP.own (H':=[bf 10 57 Za ([]:ZL) false]) (st':=[(3,(.own 0 (List.length ([]:ZL)))),(0,(slc 20 Zd a))]) 3 10 57 (by kernel_rfl) (by kernel_rfl) (by kernel_rfl) ?_
 refine AWP.pick (st':=[(0,(slc 20 Zd a)),(3,(.own 0 (List.length ([]:ZL))))]) (ks:=[0,3]) (by kernel_rfl) ?_
 refine AWP.seq (AWP.seq (AWP.rg0 [] [(0,(slc 20 Zd a)),(3,(.own 0 (List.length ([]:ZL)))),(4,(i64 (0:Int)))] ?_))
 obtain⟨d,k,hF⟩:=bindb hF
 refine AWP.mid (fun e st H=>e=.normal∧st=[(3,(.own 0 (List.length d)))]∧H=[bf 10 57 Za d false]) ?_ ?_
 ·clear hF
  refine AWP.kp [0,3,4] 1 ?_
  refine AWP.bround (fun n st H=>∃ b,∃ c,Zea a n b c=some d∧st=[(0,(slc 20 Zd a)),(3,(.own 0 (List.length b))),(4,(i64 c))]∧H=[bf 10 57 Za b false]) fuel ⟨([]:ZL),(0:Int),k,by kernel_rfl,by kernel_rfl⟩ ?_
  rintro j st H ⟨b,c,hF,rfl,rfl⟩
  cases j with
  | zero=>exact noneb hF
  | succ j=>
   rw [Zea] at hF
   refine AWP.seq (AWP.seq (AWP.rg0 [(2,.len Zd a)] [(0,(slc 20 Zd a)),(3,(.own 0 (List.length b))),(4,(i64 c)),(8,(vb (decide (c<(List.length a:Int)))))] ?_))
   refine AWP.cif hF (fun m hF=>?_) (fun m hF=>?_)
   ·refine AWP.skip (AWP.seq (AWP.block ?_))
    obtain⟨f,o,hF⟩:=bindb hF
    obtain⟨g,p,hF⟩:=bindb hF
    obtain⟨q,hF⟩:=chkb hF
    refine AWP.dr [(3,.idx Zd o),(8,.idx Zd p),(12,.app Za (fun _=>by kernel_rfl) q)] 13 [] [12] [] [(0,(slc 20 Zd a)),(3,(.own 0 (List.length (b++[f.From,g.To])))),(4,(i64 c))] [bf 10 57 Za (b++[f.From,g.To]) false] (AWP.rg0 [] [(0,(slc 20 Zd a)),(3,(.own 0 (List.length (b++[f.From,g.To])))),(4,(i64 (ZI (c + (1:Int)))))] (LeQ.start (LeQ.pk [0,3,4] 1 ?_)))
    exact⟨j,Nat.lt_succ_self _,(b++[f.From,g.To]),(ZI (c + (1:Int))),hF,by kernel_rfl,by kernel_rfl⟩
   ·refine AWP.exit (LeQ.start (LeQ.pk [3] 1 ?_))
    have hr:=someb hF
    subst hr
    exact⟨rfl,by kernel_rfl,by kernel_rfl⟩
 ·rintro _ _ _ ⟨rfl,rfl,rfl⟩
  refine AWP.seq (AWP.rg0 [] [(2,(.own 0 (List.length d)))] (AWP.ret ?_))
  have hr:=someb hF
  subst hr
  exact(FnQ.f1 0 (.inr rfl) (.inl (Wk.ownT (i:=0) (s:=10) (t:=57) (l:=d) (sh:=false) (row:=Za) (by kernel_rfl) (.inl rfl))))
def Zt1 (r:Bool):PV→List Blk→Prop:=fun p K=>p=(vb r)∧K=[]
theorem Zip (a:(List Zk)) (r:Bool) (hF:Zim a=some r):ACall Tryz.prog glob 21 [(slc 20 Zd a)] [] (Zt1 r):=by
 refine ACall.body Tryz.func21 rfl (by kernel_rfl) ?_
 unfold Zim at hF
 refine AWP.seq (AWP.rg0 [] [(0,(slc 20 Zd a))] (AWP.seq (AWP.rg0 [(1,.len Zd a)] [(2,(vb (decide ((List.length a:Int) > (4:Int)))))] (AWP.ret ?_))))
 have hr:=someb hF
 subst hr
 exact(FnQ.f0 0 (.inr rfl))
def Zpp (r:Bool):PV→List Blk→Prop:=fun p K=>p=(vb r)∧K=[]
theorem Zig (a:ZL) (r:Bool) (hF:Zg8 a=some r):ACall Tryz.prog glob 22 [(slc 10 Za a)] [] (Zpp r):=by
 refine ACall.body Tryz.func22 rfl (by kernel_rfl) ?_
 unfold Zg8 at hF
 refine AWP.seq (AWP.rg0 [] [(0,(slc 10 Za a))] (AWP.seq (AWP.rg0 [(1,.len Za a)] [(2,(vb (decide ((List.length a:Int) > (6:Int)))))] (AWP.ret ?_))))
 have hr:=someb hF
 subst hr
 exact(FnQ.f0 0 (.inr rfl))
def Zit (r:Bool):PV→List Blk→Prop:=fun p K=>p=(vb r)∧K=[]
abbrev Zl5 (r:Bool):Exit→St→List Blk→Prop:=FnQ Tryz.prog Tryz.f5.results 0 (Zit r)
theorem Zl6 (t:(List Int)) (a:(List Zk)) (b:ZL) (r:Bool) (hF:Zfh t a b=some r):ACall Tryz.prog glob 5 [(slc 1 Zag t),(slc 20 Zd a),(slc 10 Za b)] [] (Zit r):=by
 refine ACall.body Tryz.func5 rfl (by kernel_rfl) ?_
 unfold Zfh at hF
 refine AWP.seq (AWP.rg0 [] [(0,(slc 1 Zag t)),(1,(slc 20 Zd a)),(2,(slc 10 Za b))] (AWP.seq ?_))
 obtain⟨z,b9,hF⟩:=bindb hF
 refine AWP.rg [(1,.call Tryz.func8 [] (Zwb t z b9))] [(1,(slc 20 Zd a)),(2,(slc 10 Za b)),(7,(.ptr 0 0))] [.cells (Zj z)] (AWP.seq (AWP.seq (AWP.rg0 [] [(1,(slc 20 Zd a)),(2,(slc 10 Za b)),(7,(.ptr 0 0)),(8,(i64 (0:Int)))] ?_)))
 obtain⟨a0,c0,hF⟩:=bindb hF
 refine AWP.mid (fun e st H=>(e=.normal∧∃ u,a0=(.inl u)∧st=[(1,(slc 20 Zd a)),(2,(slc 10 Za b))]∧H=[.cells (Zj u)])∨(e=.ret∧∃ r,a0=(.inr r)∧Zl5 r e st H)) ?_ ?_
 ·clear hF
  refine AWP.kp [1,2,7,8] 1 ?_
  refine AWP.bround (fun n st H=>∃ m,∃ d,Zbh n m d=some a0∧st=[(1,(slc 20 Zd a)),(2,(slc 10 Za b)),(7,(.ptr 0 0)),(8,(i64 d))]∧H=[.cells (Zj m)]) fuel ⟨z,(0:Int),c0,by kernel_rfl,by kernel_rfl⟩ ?_
  rintro a1 st H ⟨m,d,hF,rfl,rfl⟩
  cases a1 with
  | zero=>exact noneb hF
  | succ a1=>
   rw [Zbh] at hF
   refine AWP.seq (AWP.seq (AWP.rg0 [] [(1,(slc 20 Zd a)),(2,(slc 10 Za b)),(7,(.ptr 0 0)),(8,(i64 d)),(13,(vb (decide (d<(3:Int)))))] ?_))
   refine AWP.cif hF (fun c1 hF=>?_) (fun c1 hF=>?_)
   ·refine AWP.skip (AWP.seq (AWP.block (AWP.seq ?_)))
    obtain⟨c,c2,hF⟩:=bindb hF
    refine AWP.rg [(1,.call Tryz.func9 [] (Zom m (3:Int) true c c2))] [(1,(slc 20 Zd a)),(2,(slc 10 Za b)),(7,(.ptr 0 0)),(8,(i64 d)),(9,(slc 20 Zd c.1))] [.cells (Zj c.2)] (AWP.seq ?_)
    obtain⟨g,a2,hF⟩:=bindb hF
    obtain⟨a3,a4,hF⟩:=bindb hF
    obtain⟨c3,o,hF⟩:=bindb hF
    replace o:=someb o
    obtain⟨a9,b0,hF⟩:=bindb hF
    obtain⟨c4,p,hF⟩:=bindb hF
    replace p:=someb p
    obtain⟨c5,a5,hF⟩:=bindb hF
    refine AWP.to [(1,(slc 20 Zd a)),(2,(slc 10 Za b)),(7,(.ptr 0 0)),(8,(i64 d)),(36,(vb c5))] [.cells (Zj a9.2)] ?_ ?_
    ·cases c3 with
     | false=>
      have i:=ifF b0 rfl
      obtain⟨v,b1,i⟩:=bindb i
      obtain⟨b2,b3,i⟩:=bindb i
      replace i:=someb i
      subst i
      cases c4 with
      | false=>
       have j:=ifF a5 rfl
       obtain⟨b4,c6,j⟩:=bindb j
       obtain⟨c7,c8,j⟩:=bindb j
       replace j:=someb j
       subst j
       exact AWP.rgT [(2,.call Tryz.func15 [] (Ziu c.2 (3:Int) g a2)),(3,.call Tryz.func19 [] (Zey c.1 g.1 a3 a4)),(5,.bool o),(8,.call Tryz.func20 [] (Zhz g.2 (2:Int) true v b1)),(9,.call Tryz.func19 [] (Zey c.1 v.1 b2 b3)),(12,.bool p),(15,.call Tryz.func12 [] (Zt0 c.1 b4 c6)),(16,.call Tryz.func19 [] (Zey c.1 b4 c7 c8))]
      | true=>
       have c9:=someb (ifT a5 rfl)
       subst c9
       exact AWP.rgT [(2,.call Tryz.func15 [] (Ziu c.2 (3:Int) g a2)),(3,.call Tryz.func19 [] (Zey c.1 g.1 a3 a4)),(5,.bool o),(8,.call Tryz.func20 [] (Zhz g.2 (2:Int) true v b1)),(9,.call Tryz.func19 [] (Zey c.1 v.1 b2 b3)),(12,.bool p)]
     | true=>
      have d0:=someb (ifT b0 rfl)
      subst d0
      subst p
      have d1:=someb (ifT a5 rfl)
      subst d1
      exact AWP.rgT [(2,.call Tryz.func15 [] (Ziu c.2 (3:Int) g a2)),(3,.call Tryz.func19 [] (Zey c.1 g.1 a3 a4)),(5,.bool o)]
    refine AWP.cif hF (fun d2 hF=>?_) (fun d2 hF=>?_)
    ·refine AWP.seq (AWP.rg0 [] [(6,(vb false))] (AWP.ret ?_))
     exact LeQ.of (.inr ⟨rfl,false,(someb hF).symm,(FnQ.f0 0 (.inr rfl))⟩)
    ·refine AWP.skip (AWP.rg0 [] [(1,(slc 20 Zd a)),(2,(slc 10 Za b)),(7,(.ptr 0 0)),(8,(i64 (ZI (d + (1:Int)))))] (LeQ.start (LeQ.pk [1,2,7,8] 1 ?_)))
     exact⟨a1,Nat.lt_succ_self _,a9.2,(ZI (d + (1:Int))),hF,by kernel_rfl,by kernel_rfl⟩
   ·refine AWP.exit (LeQ.start (LeQ.pk [1,2] 1 ?_))
    exact(.inl ⟨rfl,m,(someb hF).symm,by kernel_rfl,by kernel_rfl⟩)
 ·rintro _ _ _ (⟨rfl,u,rfl,rfl,rfl⟩ | ⟨rfl,e3,rfl,hq⟩)
  ·refine AWP.seq ?_
   obtain⟨w,x,hF⟩:=bindb hF
   obtain⟨d3,k,hF⟩:=bindb hF
   replace k:=someb k
   obtain⟨e4,b5,hF⟩:=bindb hF
   obtain⟨d4,l,hF⟩:=bindb hF
   replace l:=someb l
   obtain⟨d5,a6,hF⟩:=bindb hF
   refine AWP.to [(6,(vb d5))] [.cells (Zj u)] ?_ ?_
   ·cases d3 with
    | false=>
     have q:=ifF b5 rfl
     obtain⟨a7,a8,q⟩:=bindb q
     replace q:=someb q
     subst q
     cases d4 with
     | false=>
      have f:=ifF a6 rfl
      obtain⟨b6,b7,f⟩:=bindb f
      obtain⟨d6,y,f⟩:=bindb f
      replace y:=someb y
      obtain⟨e5,b8,f⟩:=bindb f
      replace f:=someb f
      subst f
      cases d6 with
      | false=>
       have d7:=someb (ifF b8 rfl)
       subst d7
       exact AWP.rgT [(1,.call Tryz.func21 [] (Zip a w x)),(2,.bool k),(4,.call Tryz.func22 [] (Zig b a7 a8)),(6,.bool l),(9,.call Tryz.func19 [] (Zey a b b6 b7)),(10,.bool y)]
      | true=>
       have s:=ifT b8 rfl
       obtain⟨d8,d9,s⟩:=bindb s
       replace s:=someb s
       subst s
       exact AWP.rgT [(1,.call Tryz.func21 [] (Zip a w x)),(2,.bool k),(4,.call Tryz.func22 [] (Zig b a7 a8)),(6,.bool l),(9,.call Tryz.func19 [] (Zey a b b6 b7)),(10,.bool y),(11,.call Tryz.func14 [] (Ztp d8 d9))]
     | true=>
      have e0:=someb (ifT a6 rfl)
      subst e0
      exact AWP.rgT [(1,.call Tryz.func21 [] (Zip a w x)),(2,.bool k),(4,.call Tryz.func22 [] (Zig b a7 a8)),(6,.bool l)]
    | true=>
     have e1:=someb (ifT b5 rfl)
     subst e1
     subst l
     have e2:=someb (ifT a6 rfl)
     subst e2
     exact AWP.rgT [(1,.call Tryz.func21 [] (Zip a w x)),(2,.bool k)]
   refine AWP.ret ?_
   have hr:=someb hF
   subst hr
   exact(FnQ.f0 0 (.inr rfl))
  ·have hr:=someb hF
   subst hr
   exact hq
end Go.AM
set_option maxRecDepth 100000
namespace Go.AM
open Go
def Ok {α:Type} (x:Option α) (p:α→Prop):Prop:=∃ r,x=some r∧p r
theorem Ok.bind {α γ:Type} {x:Option α} {p:α→Prop} {f:α→Option γ} {q:γ→Prop} (h:Ok x p) (k:∀ v,p v→Ok (f v) q):Ok (x.bind f) q:=by
 obtain⟨v,rfl,hv⟩:=h
 exact k v hv
theorem Ok.ret {α:Type} {r:α} {p:α→Prop} (h:p r):Ok (some r) p:=⟨r,rfl,h⟩
theorem Ok.chk {α:Type} {c:Prop} [Decidable c] {x:Option α} {p:α→Prop} (hc:c) (h:Ok x p):Ok (if c then x else none) p:=by rw [if_pos hc]; exact h
theorem Ok.ite {α:Type} {c:Prop} [Decidable c] {x y:Option α} {p:α→Prop} (h1:c→Ok x p) (h2:¬ c→Ok y p):Ok (if c then x else y) p:=by
 split
 ·exact h1 (by assumption)
 ·exact h2 (by assumption)
theorem Ok.lift {α γ:Type} {b:α} {f:α→Option γ} {q:γ→Prop} (h:Ok (f b) q):Ok ((Option.some b).bind f) q:=h
theorem Ok.mono {α:Type} {x:Option α} {p q:α→Prop} (h:Ok x p) (k:∀ v,p v→q v):Ok x q:=by
 obtain⟨v,h1,h2⟩:=h
 exact⟨v,h1,k v h2⟩
theorem Ok.get {α:Type} {x:Option α} {p:α→Prop} (h:Ok x p) {r:α} (e:x=some r):p r:=by
 obtain⟨v,h1,h2⟩:=h
 rw [h1] at e; cases e; exact h2
theorem Ok.eq {α:Type} {x:Option α} {r:α} (h:Ok x (·=r)):x=some r:=by
 obtain⟨v,h1,rfl⟩:=h; exact h1
theorem Ok.idx {α:Type} {l:List α} {i:Int} {p:α→Prop} (h0:0≤i) (h1:i<l.length) (h:∀ x∈l,p x):Ok (idx l i) p:=by
 have hi:i.toNat<l.length:=by omega
 exact⟨l[i.toNat],by simp [AM.idx,h0,hi],h _ (List.getElem_mem hi)⟩
theorem Z1 {α:Type} {l:List α} {i:Nat} (h:i<l.length):AM.idx l (i:Int)=some l[i]:=by simp [AM.idx,h]
theorem wrap_u (k:IntKind) (b:Nat) (hs:k.signed=false) (hb:k.bits=b) (x:Int):k.wrap x=x % (2 ^ b:Int):=by
 subst hb; simp [IntKind.wrap,hs]
theorem wi64 {x:Int} (h0:-9223372036854775808≤x) (h1:x<9223372036854775808):IntKind.wrap .i64 x=x:=by
 simp only [IntKind.wrap,IntKind.bits,IntKind.signed]
 simp
 omega
theorem wu64 {x:Int} (h0:0≤x) (h1:x<18446744073709551616):IntKind.wrap .u64 x=x:=by
 simp only [IntKind.wrap,IntKind.bits,IntKind.signed]
 simp
 omega
theorem wu32 {x:Int} (h0:0≤x) (h1:x<4294967296):IntKind.wrap .u32 x=x:=by
 simp only [IntKind.wrap,IntKind.bits,IntKind.signed]
 simp
 omega
theorem Zgk (x:Int):0≤IntKind.wrap .u32 x∧IntKind.wrap .u32 x<4294967296:=by
 simp only [IntKind.wrap,IntKind.bits,IntKind.signed]
 simp
 omega
theorem Zyq (x:Int):0≤IntKind.wrap .u64 x∧IntKind.wrap .u64 x<18446744073709551616:=by
 simp only [IntKind.wrap,IntKind.bits,IntKind.signed]
 simp
 omega
theorem Zz5 {k:Nat} (h:k<64):bShl .u64 1 (k:Int)=(2 ^ k:Nat):=by
 have h2:(2:Nat) ^ k<2 ^ 64:=Nat.pow_lt_pow_right (by omega) h
 unfold bShl
 have e:((1:Int) * 2 ^ min (k:Int).toNat (IntKind.bits .u64))=((2 ^ k:Nat):Int):=by
  rw [show IntKind.bits .u64=64 from rfl,Int.toNat_natCast,Nat.min_eq_left (by omega)]; simp
 have h3:((2 ^ k:Nat):Int)<18446744073709551616:=Int.ofNat_lt.2 h2
 rw [e]
 exact wu64 (Int.natCast_nonneg _) h3
structure TOk (t:Zh):Prop where
 h0:0≤t.f_i
 h1:t.f_i≤t.f_l.length
 h2:(t.f_l.length:Int)<9223372036854775808
theorem New_ok {l:List Int} (h:(l.length:Int)<9223372036854775808):Ok (Zju l) TOk:=Ok.ret ⟨Int.le_refl 0,by simp,h⟩
theorem Mod_ok {x n:Int} (h1:1≤n) (h2:n<9223372036854775808):Ok (Zhk x n) fun v=>0≤v∧v<n:=by
 unfold Zhk
 have hn:IntKind.wrap .u64 n=n:=wu64 (by omega) (by omega)
 rw [hn]
 have hx:=Zyq x
 have h3:0≤Int.tmod (IntKind.wrap .u64 x) n:=Int.tmod_nonneg _ hx.1
 have h4:Int.tmod (IntKind.wrap .u64 x) n<n:=Int.tmod_lt_of_pos _ (by omega)
 refine Ok.chk (by omega) (Ok.ret ?_)
 rw [wi64 (by omega) (by omega)]
 exact⟨h3,h4⟩
theorem Z09 {t:Zh} (ht:TOk t) (n:Int) (h2:n<9223372036854775808):Ok (Zu t n) fun r=>(0≤r.1∧(r.1<n∨r.1=0))∧TOk r.2:=by
 unfold Zu
 refine Ok.lift (Ok.ite (fun hc=>Ok.ret ⟨⟨by simp,.inr rfl⟩,ht⟩) fun hc=>?_)
 simp only [Bool.or_eq_true,decide_eq_true_eq] at hc
 have hc1:¬ n≤1:=fun h=>hc (.inl h)
 have hc2:¬ t.f_i ≥ t.f_l.length:=fun h=>hc (.inr h)
 have h0:=ht.h0
 have h1:=ht.h2
 have e1:IntKind.wrap .i64 (t.f_i + 1)=t.f_i + 1:=wi64 (by omega) (by omega)
 rw [e1]
 have e2:IntKind.wrap .i64 (t.f_i + 1 - 1)=t.f_i:=by rw [Int.add_sub_cancel]; exact wi64 (by omega) (by omega)
 rw [e2]
 refine Ok.bind (Ok.idx (p:=fun _=>True) h0 (by omega) fun _ _=>trivial) fun x _=>?_
 refine Ok.bind (Mod_ok (by omega) h2) fun v hv=>Ok.ret ⟨⟨hv.1,.inl hv.2⟩,?_⟩
 exact⟨by show 0≤t.f_i + 1; omega,by show t.f_i + 1≤t.f_l.length; omega,h1⟩
theorem Zde {t:Zh} (ht:TOk t) (n:Int) (h1:1≤n) (h2:n<9223372036854775808):Ok (Zu t n) fun r=>(0≤r.1∧r.1<n)∧TOk r.2:=
 (Z09 ht n h2).mono fun r ⟨⟨h3,h4⟩,h5⟩=>⟨⟨h3,by omega⟩,h5⟩
def full:Arr5 Zb:=⟨⟨0,4294967295⟩,⟨0,4294967295⟩,⟨0,255⟩,⟨0,65535⟩,⟨0,65535⟩⟩
theorem Zt2:Zgm=some full:=by kernel_rfl
structure ROk (top:Int) (r:Zb):Prop where
 h0:0≤r.Lo
 h1:r.Lo≤r.Hi
 h2:r.Hi≤top
structure RIn (r:Zb):Prop where
 h0:0≤r.Lo
 h1:r.Lo<4294967296
 h2:0≤r.Hi
 h3:r.Hi<4294967296
theorem ROk.rin {top:Int} {r:Zb} (h:ROk top r) (ht:top<4294967296):RIn r:=⟨h.h0,by have:=h.h1; have:=h.h2; omega,by have:=h.h0; have:=h.h1; omega,by have:=h.h2; omega⟩
structure BOk (b:Arr5 Zb):Prop where
 h0:ROk 4294967295 b.x0
 h1:ROk 4294967295 b.x1
 h2:ROk 255 b.x2
 h3:ROk 65535 b.x3
 h4:ROk 65535 b.x4
structure BIn (b:Arr5 Zb):Prop where
 h0:RIn b.x0
 h1:RIn b.x1
 h2:RIn b.x2
 h3:RIn b.x3
 h4:RIn b.x4
theorem BOk.bin {b:Arr5 Zb} (h:BOk b):BIn b:=⟨h.h0.rin (by omega),h.h1.rin (by omega),h.h2.rin (by omega),h.h3.rin (by omega),h.h4.rin (by omega)⟩
theorem Zlg:BOk full:=⟨⟨by decide,by decide,by decide⟩,⟨by decide,by decide,by decide⟩,⟨by decide,by decide,by decide⟩,⟨by decide,by decide,by decide⟩,⟨by decide,by decide,by decide⟩⟩
def topOf (i:Int):Int:=if i=0 then 4294967295 else if i=1 then 4294967295 else if i=2 then 255 else 65535
theorem Top_eq (f:Int) (h0:0≤f) (h1:f<5):Zga f=some (topOf f):=by
 have hk:f=0∨f=1∨f=2∨f=3∨f=4:=by omega
 rcases hk with rfl | rfl | rfl | rfl | rfl <;> rfl
theorem fuel6:fuel=1180591620717411303418 + 6:=by kernel_rfl
theorem Zmn {t:Zh} (ht:TOk t) {top:Int} (h0:0≤top) (h1:top<4294967296):Ok (Zcm t top) fun r=>(0≤r.1∧r.1≤top)∧TOk r.2:=by
 unfold Zcm
 refine Ok.bind (Zde ht 17 (by omega) (by omega)) fun r ⟨⟨h2,h3⟩,h4⟩=>?_
 have hw:=Zgk (Int.tdiv top 2)
 have hw2:=Zgk (top - 1)
 refine Ok.bind (Ok.idx (p:=fun x=>0≤x) h2 (by simpa using h3) fun x hx=>?_) fun x hx=>Ok.ret ⟨⟨?_,?_⟩,h4⟩
 ·simp only [List.mem_cons,List.not_mem_nil,or_false] at hx
  omega
 ·show 0≤iMin x top
  unfold iMin; split <;> omega
 ·show iMin x top≤top
  unfold iMin; split <;> omega
theorem Zwf {t:Zh} (ht:TOk t) {top:Int} (h0:0≤top) (h1:top<4294967296):Ok (Zel t top) fun r=>ROk top r.1∧TOk r.2:=by
 unfold Zel
 refine Ok.bind (Zmn ht h0 h1) fun r ⟨⟨h2,h3⟩,h4⟩=>Ok.bind (Zmn h4 h0 h1) fun s ⟨⟨h5,h6⟩,h7⟩=>Ok.ret ⟨⟨?_,?_,?_⟩,h7⟩
 ·show 0≤iMin r.1 s.1
  unfold iMin; split <;> omega
 ·show iMin r.1 s.1≤iMax r.1 s.1
  unfold iMin iMax; split <;> split <;> omega
 ·show iMax r.1 s.1≤top
  unfold iMax; split <;> omega
def subnets:List Za6:=[⟨167772160,24⟩,⟨167772416,24⟩,⟨167772672,25⟩,⟨167772800,26⟩,⟨2886729728,16⟩,⟨3232237321,32⟩]
theorem Zpq {x:Int}:Ok (Ze5 x) fun p=>p∈subnets:=by
 unfold Ze5
 refine Ok.bind (Mod_ok (by omega) (by omega)) fun r ⟨h0,h1⟩=>?_
 exact Ok.bind (Ok.idx (p:=fun p=>p∈subnets) h0 (by simpa using h1) fun x hx=>hx) fun x hx=>Ok.ret hx
theorem Of_ok {p:Za6} (hp:p∈subnets):Ok (Zhl p) fun r=>ROk 4294967295 r.1:=by
 simp only [subnets,List.mem_cons,List.not_mem_nil,or_false] at hp
 rcases hp with rfl | rfl | rfl | rfl | rfl | rfl
 ·exact⟨(⟨167772160,167772415⟩,true),by kernel_rfl,by decide,by decide,by decide⟩
 ·exact⟨(⟨167772416,167772671⟩,true),by kernel_rfl,by decide,by decide,by decide⟩
 ·exact⟨(⟨167772672,167772799⟩,true),by kernel_rfl,by decide,by decide,by decide⟩
 ·exact⟨(⟨167772800,167772863⟩,true),by kernel_rfl,by decide,by decide,by decide⟩
 ·exact⟨(⟨2886729728,2886795263⟩,true),by kernel_rfl,by decide,by decide,by decide⟩
 ·exact⟨(⟨3232237321,3232237321⟩,true),by kernel_rfl,by decide,by decide,by decide⟩
theorem Zt3 {t:Zh} (ht:TOk t):Ok (Zd0 t) fun r=>(0≤r.1∧r.1≤4294967295)∧TOk r.2:=by
 unfold Zd0
 refine Ok.bind (Zde ht 5 (by omega) (by omega)) fun r ⟨⟨h2,h3⟩,h4⟩=>Ok.ite (fun _=>?_) fun _=>?_
 ·refine Ok.bind (Zde h4 6 (by omega) (by omega)) fun r ⟨⟨h2,h3⟩,h4⟩=>?_
  refine Ok.bind (Ok.idx (p:=fun x=>0≤x∧x≤4294967295) h2 (by simpa using h3) fun x hx=>?_) fun x hx=>Ok.ret ⟨hx,h4⟩
  simp only [List.mem_cons,List.not_mem_nil,or_false] at hx
  omega
 ·refine Ok.bind (Zde h4 6 (by omega) (by omega)) fun r ⟨⟨h2,h3⟩,h4⟩=>Ok.bind Zpq fun p hp=>Ok.bind (Of_ok hp) fun q hq=>?_
  refine Ok.bind (Zde h4 5 (by omega) (by omega)) fun r ⟨⟨h2,h3⟩,h4⟩=>?_
  refine Ok.bind (Ok.idx (p:=fun x=>0≤x∧x≤4294967295) h2 (by simpa using h3) fun x hx=>?_) fun x hx=>Ok.ret ⟨hx,h4⟩
  have g0:=hq.h0
  have g1:=hq.h1
  have g2:=hq.h2
  have w1:=Zgk (q.1.Lo + 5)
  have w2:=Zgk (q.1.Hi + 1)
  have w3:=Zgk (q.1.Lo - 1)
  simp only [List.mem_cons,List.not_mem_nil,or_false] at hx
  omega
theorem Zpr {t:Zh} (ht:TOk t):Ok (Zdc t) fun r=>ROk 4294967295 r.1∧TOk r.2:=by
 unfold Zdc
 refine Ok.bind (Zde ht 4 (by omega) (by omega)) fun r ⟨⟨h2,h3⟩,h4⟩=>Ok.ite (fun _=>?_) fun _=>Ok.ite (fun _=>?_) fun _=>Ok.ite (fun _=>?_) fun _=>?_
 ·exact Ok.bind (Zde h4 6 (by omega) (by omega)) fun r ⟨⟨h2,h3⟩,h4⟩=>Ok.bind Zpq fun p hp=>Ok.bind (Of_ok hp) fun q hq=>Ok.ret ⟨hq,h4⟩
 ·refine Ok.bind (Zt3 h4) fun a ⟨⟨a1,a2⟩,a3⟩=>Ok.bind (Zt3 a3) fun b ⟨⟨b1,b2⟩,b3⟩=>Ok.ret ⟨⟨?_,?_,?_⟩,b3⟩
  ·show 0≤iMin a.1 b.1
   unfold iMin; split <;> omega
  ·show iMin a.1 b.1≤iMax a.1 b.1
   unfold iMin iMax; split <;> split <;> omega
  ·show iMax a.1 b.1≤4294967295
   unfold iMax; split <;> omega
 ·exact Ok.bind (Zt3 h4) fun a ⟨⟨a1,a2⟩,a3⟩=>Ok.ret ⟨⟨a1,Int.le_refl _,a2⟩,a3⟩
 ·exact Ok.ret ⟨⟨Int.le_refl _,(by decide:(0:Int)≤4294967295),Int.le_refl _⟩,h4⟩
theorem Zux:∀(n:Nat) (t:Zh) (b:Arr5 Zb) (i:Int),TOk t→BOk b→i≤n→0≤i→i<100→Ok (Zco (n + 1) t b i) fun r=>TOk r.1∧BOk r.2
 | 0,t,b,i,ht,hb,hi,h0,h9=>by
  rw [Zco]
  exact Ok.ite (fun hc=>absurd (of_decide_eq_true hc) (by omega)) fun _=>Ok.ret ⟨ht,hb⟩
 | n + 1,t,b,i,ht,hb,hi,h0,h9=>by
  rw [Zco]
  refine Ok.ite (fun hc=>?_) fun _=>Ok.ret ⟨ht,hb⟩
  have hc:=of_decide_eq_true hc
  refine Ok.bind (p:=fun r=>TOk r.1∧BOk r.2) ?_ fun r ⟨h1,h2⟩=>?_
  ·refine Ok.bind (Zde ht 5 (by omega) (by omega)) fun r ⟨_,h4⟩=>Ok.ite (fun _=>?_) fun _=>Ok.ite (fun _=>?_) fun _=>Ok.ite (fun _=>?_) fun _=>Ok.ite (fun _=>?_) fun _=>?_
   ·exact Ok.bind (Zpr h4) fun q ⟨g1,g2⟩=>Ok.ret ⟨g2,⟨g1,hb.h1,hb.h2,hb.h3,hb.h4⟩⟩
   ·exact Ok.bind (Zpr h4) fun q ⟨g1,g2⟩=>Ok.ret ⟨g2,⟨hb.h0,g1,hb.h2,hb.h3,hb.h4⟩⟩
   ·refine Ok.bind (Zde h4 6 (by omega) (by omega)) fun r ⟨⟨h2,h3⟩,h4⟩=>?_
    refine Ok.bind (Ok.idx (p:=fun x=>0≤x∧x≤255) h2 (by simpa using h3) fun x hx=>?_) fun x hx=>Ok.ret ⟨h4,⟨hb.h0,hb.h1,⟨hx.1,Int.le_refl _,hx.2⟩,hb.h3,hb.h4⟩⟩
    simp only [List.mem_cons,List.not_mem_nil,or_false] at hx
    omega
   ·exact Ok.bind (Zwf h4 (by omega) (by omega)) fun q ⟨g1,g2⟩=>Ok.ret ⟨g2,⟨hb.h0,hb.h1,hb.h2,g1,hb.h4⟩⟩
   ·exact Ok.bind (Zwf h4 (by omega) (by omega)) fun q ⟨g1,g2⟩=>Ok.ret ⟨g2,⟨hb.h0,hb.h1,hb.h2,hb.h3,g1⟩⟩
  ·obtain⟨r1,r2⟩:=r
   show Ok (Zco (n + 1) r1 r2 (IntKind.wrap .i64 (i - 1))) _
   rw [wi64 (by omega) (by omega)]
   exact Zux n r1 r2 (i - 1) h1 h2 (by omega) (by omega) (by omega)
theorem Box_ok {t:Zh} (ht:TOk t):Ok (Zgf t) fun r=>BOk r.1∧TOk r.2:=by
 unfold Zgf
 rw [Zt2]
 refine Ok.lift (Ok.bind (Zde ht 3 (by omega) (by omega)) fun r ⟨⟨h2,h3⟩,h4⟩=>?_)
 have e:IntKind.wrap .i64 (1 + r.1)=1 + r.1:=wi64 (by omega) (by omega)
 rw [e]
 refine Ok.bind (Zux 1180591620717411303423 r.2 full (1 + r.1) h4 Zlg (by omega) (by omega) (by omega)) fun q ⟨g1,g2⟩=>?_
 obtain⟨q1,q2⟩:=q
 exact Ok.ret ⟨g2,g1⟩
theorem five {k:Int} (h0:0≤k) (h1:k<5):k=0∨k=1∨k=2∨k=3∨k=4:=by omega
theorem wnext {k:Int} (h0:0≤k) (h1:k<1000000):IntKind.wrap .i64 (k + (1:Int))=k + 1:=wi64 (by omega) (by omega)
def sideBad (top:Int) (r:Zb):Bool:=decide (r.Lo > r.Hi) || decide (r.Hi > top)
theorem Zz6 {k:Int} (h0:0≤k) (h1:k<5):Arr5.get Za2 k=topOf k:=by
 rcases five h0 h1 with rfl | rfl | rfl | rfl | rfl <;> rfl
theorem vstep (b:Arr5 Zb) (n:Nat) {k:Int} (h0:0≤k) (h1:k<5):Zaq b (n + 1) k=if sideBad (topOf k) (b.get k)=true then some (.inr false) else Zaq b n (k + 1):=by
 rw [Zaq,if_pos (decide_eq_true h1),if_pos ⟨h0,h1⟩,if_pos ⟨h0,h1⟩,Zz6 h0 h1,wnext h0 (by omega)]
 unfold sideBad
 cases decide ((b.get k).Lo > (b.get k).Hi) <;> simp
theorem rvstep (b:Arr5 Zb) (n:Nat) {k:Int} (h0:0≤k) (h1:k<5):Zab b (n + 1) k=if sideBad (topOf k) (b.get k)=true then some (.inr false) else Zab b n (k + 1):=by
 rw [Zab,if_pos (decide_eq_true h1),if_pos ⟨h0,h1⟩,if_pos ⟨h0,h1⟩,if_pos ⟨h0,h1⟩,Top_eq k h0 h1,wnext h0 (by omega)]
 unfold sideBad
 cases decide ((b.get k).Lo > (b.get k).Hi) <;> simp
def vB (b:Arr5 Zb):Bool:=
 if sideBad 4294967295 b.x0=true then false else if sideBad 4294967295 b.x1=true then false else if sideBad 255 b.x2=true then false else if sideBad 65535 b.x3=true then false else if sideBad 65535 b.x4=true then false else true
theorem Zn4 (b:Arr5 Zb):Zgl b=some (vB b):=by
 unfold Zgl
 rw [fuel6]
 generalize (1180591620717411303418:Nat)=m
 have s0:Zaq b (m + 6) 0=if sideBad 4294967295 b.x0=true then some (.inr false) else Zaq b (m + 5) 1:=vstep b (m + 5) (by omega) (by omega)
 have s1:Zaq b (m + 5) 1=if sideBad 4294967295 b.x1=true then some (.inr false) else Zaq b (m + 4) 2:=vstep b (m + 4) (by omega) (by omega)
 have s2:Zaq b (m + 4) 2=if sideBad 255 b.x2=true then some (.inr false) else Zaq b (m + 3) 3:=vstep b (m + 3) (by omega) (by omega)
 have s3:Zaq b (m + 3) 3=if sideBad 65535 b.x3=true then some (.inr false) else Zaq b (m + 2) 4:=vstep b (m + 2) (by omega) (by omega)
 have s4:Zaq b (m + 2) 4=if sideBad 65535 b.x4=true then some (.inr false) else Zaq b (m + 1) 5:=vstep b (m + 1) (by omega) (by omega)
 have s5:Zaq b (m + 1) 5=some (.inl ()):=by rw [Zaq]; rfl
 rw [s0,s1,s2,s3,s4,s5]
 unfold vB
 repeat' split
 all_goals first | rfl | (simp_all; done) | skip
theorem Zih (b:Arr5 Zb):Zcn b=some (vB b):=by
 unfold Zcn
 rw [fuel6]
 generalize (1180591620717411303418:Nat)=m
 have s0:Zab b (m + 6) 0=if sideBad 4294967295 b.x0=true then some (.inr false) else Zab b (m + 5) 1:=rvstep b (m + 5) (by omega) (by omega)
 have s1:Zab b (m + 5) 1=if sideBad 4294967295 b.x1=true then some (.inr false) else Zab b (m + 4) 2:=rvstep b (m + 4) (by omega) (by omega)
 have s2:Zab b (m + 4) 2=if sideBad 255 b.x2=true then some (.inr false) else Zab b (m + 3) 3:=rvstep b (m + 3) (by omega) (by omega)
 have s3:Zab b (m + 3) 3=if sideBad 65535 b.x3=true then some (.inr false) else Zab b (m + 2) 4:=rvstep b (m + 2) (by omega) (by omega)
 have s4:Zab b (m + 2) 4=if sideBad 65535 b.x4=true then some (.inr false) else Zab b (m + 1) 5:=rvstep b (m + 1) (by omega) (by omega)
 have s5:Zab b (m + 1) 5=some (.inl ()):=by rw [Zab]; rfl
 rw [s0,s1,s2,s3,s4,s5]
 unfold vB
 repeat' split
 all_goals first | rfl | (simp_all; done) | skip
theorem vB_ok {b:Arr5 Zb} (hb:BIn b) (h:vB b=true):BOk b:=by
 unfold vB sideBad at h
 simp only [Bool.or_eq_true,decide_eq_true_eq] at h
 split at h; · cases h
 split at h; · cases h
 split at h; · cases h
 split at h; · cases h
 split at h; · cases h
 exact⟨⟨hb.h0.h0,by omega,by omega⟩,⟨hb.h1.h0,by omega,by omega⟩,⟨hb.h2.h0,by omega,by omega⟩,⟨hb.h3.h0,by omega,by omega⟩,⟨hb.h4.h0,by omega,by omega⟩⟩
theorem ok_vB {b:Arr5 Zb} (h:BOk b):vB b=true:=by
 obtain⟨⟨_,a1,a2⟩,⟨_,b1,b2⟩,⟨_,c1,c2⟩,⟨_,d1,d2⟩,⟨_,e1,e2⟩⟩:=h
 unfold vB sideBad
 simp only [Bool.or_eq_true,decide_eq_true_eq]
 rw [if_neg (by omega),if_neg (by omega),if_neg (by omega),if_neg (by omega),if_neg (by omega)]
theorem BIn.get {b:Arr5 Zb} (h:BIn b) (k:Int):RIn (b.get k):=by
 unfold Arr5.get
 split
 ·exact h.h0
 split
 ·exact h.h1
 split
 ·exact h.h2
 split
 ·exact h.h3
 ·exact h.h4
theorem BIn.set {b:Arr5 Zb} (h:BIn b) {r:Zb} (hr:RIn r) (k:Int):BIn (b.set k r):=by
 unfold Arr5.set
 split
 ·exact⟨hr,h.h1,h.h2,h.h3,h.h4⟩
 split
 ·exact⟨h.h0,hr,h.h2,h.h3,h.h4⟩
 split
 ·exact⟨h.h0,h.h1,hr,h.h3,h.h4⟩
 split
 ·exact⟨h.h0,h.h1,h.h2,hr,h.h4⟩
 ·exact⟨h.h0,h.h1,h.h2,h.h3,hr⟩
theorem BIn.setHi {b:Arr5 Zb} (h:BIn b) {v:Int} (h0:0≤v) (h1:v<4294967296) (k:Int):BIn (b.set k { (b.get k) with Hi:=v }):=by
 have hg:=h.get k
 generalize b.get k=r at hg ⊢
 exact BIn.set h (r:=⟨r.Lo,v⟩) (RIn.mk hg.h0 hg.h1 h0 h1) k
theorem BIn.setLo {b:Arr5 Zb} (h:BIn b) {v:Int} (h0:0≤v) (h1:v<4294967296) (k:Int):BIn (b.set k { (b.get k) with Lo:=v }):=by
 have hg:=h.get k
 generalize b.get k=r at hg ⊢
 exact BIn.set h (r:=⟨v,r.Hi⟩) (RIn.mk h0 h1 hg.h2 hg.h3) k
theorem Zqz {t:Zh} (ht:TOk t) {b:Arr5 Zb} (hb:BIn b):Ok (Zdl t b) fun r=>BIn r.1∧TOk r.2:=by
 unfold Zdl
 refine Ok.bind (Zde ht 5 (by omega) (by omega)) fun r1 ⟨⟨h2,h3⟩,h4⟩=>?_
 refine Ok.bind (p:=fun o=>TOk o.1∧BIn o.2) ?_ fun o ⟨g1,g2⟩=>Ok.ret ⟨g2,g1⟩
 refine Ok.bind (Zde h4 3 (by omega) (by omega)) fun r20 ⟨_,h6⟩=>?_
 have hk:0≤r1.1∧r1.1<5:=⟨h2,h3⟩
 have hg:=hb.get r1.1
 refine Ok.ite (fun _=>?_) fun _=>Ok.ite (fun _=>?_) fun _=>?_
 ·refine Ok.chk hk (Ok.chk hk (Ok.chk hk (Ok.chk hk (Ok.ret ⟨h6,?_⟩))))
  exact(hb.setLo hg.h2 hg.h3 _).setHi hg.h0 hg.h1 _
 ·exact Ok.chk hk (Ok.ret ⟨h6,hb.setHi (by decide) (by decide) _⟩)
 ·exact Ok.chk hk (Ok.ret ⟨h6,hb.set ⟨by decide,by decide,by decide,by decide⟩ _⟩)
def GB (wild:Bool) (b:Arr5 Zb):Prop:=BIn b∧(wild=false→BOk b)
theorem Zq0 (wild:Bool):∀(n:Nat) (t:Zh) (l:List (Arr5 Zb)) (i:Int),TOk t→(∀ x∈l,GB wild x)→i≤n→0≤i→i<100→(l.length:Int) + i<1000 →
  Ok (Zb4 wild (n + 1) t l i) fun r=>TOk r.1∧(∀ x∈r.2,GB wild x)∧(r.2.length:Int)=l.length + i
 | 0,t,l,i,ht,hl,hi,h0,h9,hlen=>by
  rw [Zb4]
  exact Ok.ite (fun hc=>absurd (of_decide_eq_true hc) (by omega)) fun _=>Ok.ret ⟨ht,hl,by show (l.length:Int)=_; omega⟩
 | n + 1,t,l,i,ht,hl,hi,h0,h9,hlen=>by
  rw [Zb4]
  refine Ok.ite (fun hc=>?_) fun hc=>Ok.ret ⟨ht,hl,by simp at hc; show (l.length:Int)=_; omega⟩
  have hc:=of_decide_eq_true hc
  refine Ok.bind (p:=fun r=>TOk r.1∧(∀ x∈r.2,GB wild x)∧r.2.length=l.length + 1) ?_ fun r ⟨h1,h2,h3⟩=>?_
  ·refine Ok.bind (Box_ok ht) fun q ⟨g1,g2⟩=>?_
   refine Ok.bind (p:=fun o=>TOk o.1∧GB wild o.2) ?_ fun o ⟨k1,k2⟩=>?_
   ·refine Ok.lift ?_
    refine Ok.bind (p:=fun v=>TOk v.2∧(v.1=true→wild=true)) ?_ fun v ⟨k1,k2⟩=>?_
    ·refine Ok.ite (fun hw=>?_) fun _=>Ok.ret ⟨g2,fun h=>by cases h⟩
     exact Ok.bind (Zde g2 8 (by omega) (by omega)) fun r190 ⟨_,h6⟩=>Ok.ret ⟨h6,fun _=>hw⟩
    ·refine Ok.ite (fun hv=>?_) fun _=>Ok.ret ⟨k1,g1.bin,fun _=>g1⟩
     refine Ok.bind (Zqz k1 g1.bin) fun r196 ⟨m1,m2⟩=>Ok.ret ⟨m2,m1,fun hw=>?_⟩
     rw [k2 hv] at hw; cases hw
   ·obtain⟨o1,o2⟩:=o
    refine Ok.chk (by simp only [List.length_singleton]; unfold lim; omega) (Ok.ret ⟨k1,fun x hx=>?_,by simp⟩)
    rcases List.mem_append.1 hx with hx | hx
    ·exact hl x hx
    ·simp only [List.mem_singleton] at hx; subst hx; exact k2
  ·obtain⟨r1,r2⟩:=r
   simp only at h1 h2 h3
   show Ok (Zb4 wild (n + 1) r1 r2 (IntKind.wrap .i64 (i - 1))) _
   rw [wi64 (by omega) (by omega)]
   refine(Zq0 wild n r1 r2 (i - 1) h1 h2 (by omega) (by omega) (by omega) (by omega)).mono fun v ⟨e1,e2,e3⟩=>⟨e1,e2,?_⟩
   omega
theorem Zwg (wild:Bool) {t:Zh} (ht:TOk t) {n:Int} (h0:0≤n) (h1:n<90):Ok (Zem t n wild) fun r=>(∀ x∈r.1,GB wild x)∧(r.1.length:Int)≤n∧TOk r.2:=by
 unfold Zem
 rw [wi64 (x:=n + 1) (by omega) (by omega)]
 refine Ok.bind (Zde ht (n + 1) (by omega) (by omega)) fun r ⟨⟨h2,h3⟩,h4⟩=>?_
 refine Ok.bind (Zq0 wild 1180591620717411303423 r.2 [] r.1 h4 (by simp) (by omega) h2 (by omega) (by simp; omega)) fun q ⟨g1,g2,g3⟩=>?_
 obtain⟨q1,q2⟩:=q
 refine Ok.ret ⟨g2,?_,g1⟩
 simp at g3
 show (q2.length:Int)≤n
 omega
theorem Zn5 (m:Nat) (h:m≤1000000000000):∃ n,fuel=n + m + 1:=⟨fuel - m - 1,by unfold fuel; omega⟩
theorem Zps {r:Zb} (h:Zgq r):RIn r:=⟨h.1.1,h.1.2,h.2.1.1,h.2.1.2⟩
theorem Zwh {b:Arr5 Zb} (h:Zg4 b):BIn b:=⟨Zps h.1,Zps h.2.1,Zps h.2.2.1,Zps h.2.2.2.1,Zps h.2.2.2.2.1⟩
theorem Z1a {t:List Int} (h:Zrf t):(t.length:Int)<9223372036854775808:=by have:=h.1; omega
end Go.AM
set_option maxRecDepth 100000
namespace Go.AM
open Go
theorem Zuy {ρ:Type} {L:Nat→Int→Option (Unit ⊕ ρ)} {bad:Int→Bool} {v:ρ}
  (step:∀ n (k:Int),0≤k→k<5→L (n + 1) k=if bad k=true then some (.inr v) else L n (k + 1)) (stop:∀ n,L (n + 1) 5=some (.inl ())) :
  L fuel 0=some (if (bad 0 || bad 1 || bad 2 || bad 3 || bad 4)=true then .inr v else .inl ()):=by
 rw [fuel6]
 rw [step _ 0 (by omega) (by omega),step _ (0 + 1) (by omega) (by omega),step _ (0 + 1 + 1) (by omega) (by omega),step _ (0 + 1 + 1 + 1) (by omega) (by omega),step _ (0 + 1 + 1 + 1 + 1) (by omega) (by omega)]
 rw [show (0:Int) + 1 + 1 + 1 + 1 + 1=5 from rfl,stop,show (0:Int) + 1=1 from rfl,show (1:Int) + 1=2 from rfl,show (2:Int) + 1=3 from rfl,show (3:Int) + 1=4 from rfl]
 cases bad 0 <;> cases bad 1 <;> cases bad 2 <;> cases bad 3 <;> cases bad 4 <;> rfl
theorem Zuz {σ ρ:Type} {L:Nat→σ→Int→Option ρ} {f:σ→Int→σ} {fin:σ→ρ}
  (step:∀ n s (k:Int),0≤k→k<5→L (n + 1) s k=L n (f s k) (k + 1)) (stop:∀ n s,L (n + 1) s 5=some (fin s)) (s:σ) :
  L fuel s 0=some (fin (f (f (f (f (f s 0) 1) 2) 3) 4)):=by
 rw [fuel6]
 rw [step _ _ 0 (by omega) (by omega),step _ _ (0 + 1) (by omega) (by omega),step _ _ (0 + 1 + 1) (by omega) (by omega),step _ _ (0 + 1 + 1 + 1) (by omega) (by omega),step _ _ (0 + 1 + 1 + 1 + 1) (by omega) (by omega)]
 rw [show (0:Int) + 1 + 1 + 1 + 1 + 1=5 from rfl,stop,show (0:Int) + 1=1 from rfl,show (1:Int) + 1=2 from rfl,show (2:Int) + 1=3 from rfl,show (3:Int) + 1=4 from rfl]
theorem wsucc {i:Nat} (h:i<1000000000001):IntKind.wrap .i64 ((i:Int) + (1:Int))=((i + 1:Nat):Int):=by
 rw [wi64 (by omega) (by omega)]; omega
def findI {α ρ:Type} (g:Nat→α→Option ρ):Nat→List α→Option ρ
 | _,[]=>none
 | i,x :: xs=>match g i x with
  | some r=>some r
  | none=>findI g (i + 1) xs
def orS {ρ:Type}:Option ρ→Unit ⊕ ρ
 | some r=>.inr r
 | none=>.inl ()
theorem Zhs {α ρ:Type} {L:Nat→Int→Option (Unit ⊕ ρ)} (l:List α) (g:Nat→α→Option ρ) (hl:l.length≤1000000000000)
  (step:∀ n (i:Nat) (h:i<l.length),L (n + 1) (i:Int)=match g i l[i] with
   | some r=>some (.inr r)
   | none=>L n ((i + 1:Nat):Int))
  (stop:∀ n,L (n + 1) (l.length:Int)=some (.inl ())):L fuel 0=some (orS (findI g 0 l)):=by
 have key:∀(m n i:Nat),i + m=l.length→L (n + m + 1) (i:Int)=some (orS (findI g i (l.drop i))):=by
  intro m
  induction m with
  | zero=>
   intro n i h
   have hi:i=l.length:=by omega
   subst hi
   rw [List.drop_length]
   exact stop _
  | succ m ih=>
   intro n i h
   have hi:i<l.length:=by omega
   rw [show n + (m + 1) + 1=(n + m + 1) + 1 by omega,step _ i hi,List.drop_eq_getElem_cons hi]
   simp only [findI]
   cases hg:g i l[i] with
   | some r=>rfl
   | none=>exact ih n (i + 1) (by omega)
 obtain⟨f,hf⟩:=Zn5 l.length hl
 rw [hf]
 exact key l.length f 0 (by omega)
def foldI {α σ:Type} (f:σ→Nat→α→σ):σ→Nat→List α→σ
 | s,_,[]=>s
 | s,i,x :: xs=>foldI f (f s i x) (i + 1) xs
theorem Zch {α σ ρ:Type} {L:Nat→σ→Int→Option ρ} (l:List α) (f:σ→Nat→α→σ) (fin:σ→ρ) (I:Nat→σ→Prop) (hl:l.length≤1000000000000)
  (step:∀ n s (i:Nat) (h:i<l.length),I i s→L (n + 1) s (i:Int)=L n (f s i l[i]) ((i + 1:Nat):Int)∧I (i + 1) (f s i l[i]))
  (stop:∀ n s,I l.length s→L (n + 1) s (l.length:Int)=some (fin s)) (s:σ) (hs:I 0 s):L fuel s 0=some (fin (foldI f s 0 l))∧I l.length (foldI f s 0 l):=by
 have key:∀(m n i:Nat) (s:σ),I i s→i + m=l.length→L (n + m + 1) s (i:Int)=some (fin (foldI f s i (l.drop i)))∧I l.length (foldI f s i (l.drop i)):=by
  intro m
  induction m with
  | zero=>
   intro n i s hs h
   have hi:i=l.length:=by omega
   subst hi
   rw [List.drop_length]
   exact⟨stop _ _ hs,hs⟩
  | succ m ih=>
   intro n i s hs h
   have hi:i<l.length:=by omega
   obtain⟨h1,h2⟩:=step (n + m + 1) s i hi hs
   rw [show n + (m + 1) + 1=(n + m + 1) + 1 by omega,h1,List.drop_eq_getElem_cons hi]
   simp only [foldI]
   exact ih n (i + 1) _ h2 (by omega)
 obtain⟨g,hg⟩:=Zn5 l.length hl
 rw [hg]
 exact key l.length g 0 s hs (by omega)
theorem Zt4 {α σ ρ:Type} {L:Nat→σ→Int→Option ρ} (l:List α) (I:Nat→σ→Prop) {q:ρ→Prop} (hl:l.length≤1000000000000)
  (step:∀ n s (i:Nat),i<l.length→I i s→(∀ s',I (i + 1) s'→Ok (L n s' ((i + 1:Nat):Int)) q)→Ok (L (n + 1) s (i:Int)) q)
  (stop:∀ n s,I l.length s→Ok (L (n + 1) s (l.length:Int)) q) (s:σ) (hs:I 0 s):Ok (L fuel s 0) q:=by
 have key:∀(m n i:Nat) (s:σ),I i s→i + m=l.length→Ok (L (n + m + 1) s (i:Int)) q:=by
  intro m
  induction m with
  | zero=>
   intro n i s hs h
   have hi:i=l.length:=by omega
   subst hi
   exact stop _ _ hs
  | succ m ih=>
   intro n i s hs h
   rw [show n + (m + 1) + 1=(n + m + 1) + 1 by omega]
   exact step _ s i (by omega) hs fun s' hs'=>ih n (i + 1) s' hs' (by omega)
 obtain⟨g,hg⟩:=Zn5 l.length hl
 rw [hg]
 exact key l.length g 0 s hs (by omega)
theorem Zz7 {σ ρ:Type} {L:Nat→σ→Int→Option ρ} (m:Nat) (I:Nat→σ→Prop) {q:ρ→Prop} (hm:m≤1000000000000)
  (step:∀ n s (i:Nat),i<m→I i s→(∀ s',I (i + 1) s'→Ok (L n s' ((i + 1:Nat):Int)) q)→Ok (L (n + 1) s (i:Int)) q)
  (stop:∀ n s,I m s→Ok (L (n + 1) s (m:Int)) q) (s:σ) (hs:I 0 s):Ok (L fuel s 0) q:=
 Zt4 (List.replicate m ()) I (by simpa using hm) (fun n s i h=>step n s i (by simpa using h)) (fun n s h=>by simp only [List.length_replicate] at h ⊢; exact stop n s h) s hs
theorem Zii {α β:Type} (g:α→β):∀(l:List α) (acc:List β) (i:Nat),foldI (fun s _ x=>s++[g x]) acc i l=acc++l.map g
 | [],acc,i=>by simp [foldI]
 | x :: xs,acc,i=>by simp only [foldI]; rw [Zii g xs]; simp
theorem Zs5 {α β:Type} (g:α→List β):∀(l:List α) (acc:List β) (i:Nat),foldI (fun s _ x=>s++g x) acc i l=acc++l.flatMap g
 | [],acc,i=>by simp [foldI]
 | x :: xs,acc,i=>by simp only [foldI]; rw [Zs5 g xs]; simp
end Go.AM
set_option maxRecDepth 100000
namespace Go.AM
open Go
instance decRg:DecidableEq Zb:=fun a b=>
 if h:a.Lo=b.Lo∧a.Hi=b.Hi then .isTrue (by cases a; cases b; obtain⟨h1,h2⟩:=h; simp only at h1 h2; rw [h1,h2]) else .isFalse fun e=>h (by rw [e]; exact⟨rfl,rfl⟩)
def inR (v:Int) (r:Zb):Bool:=decide (r.Lo≤v) && decide (v≤r.Hi)
def mB:List Zb→List Int→Bool
 | [],[]=>true
 | r :: b,v :: p=>inR v r && mB b p
 | _,_=>false
def mS (l:List (List Zb)) (p:List Int):Bool:=l.any (mB · p)
def atv (l:List (List Zb)) (v:Int):List (List Zb):=l.flatMap fun b=>match b with
 | r :: b'=>if inR v r then [b'] else []
 | []=>[]
def vP:List Int→List Int→Prop
 | [],[]=>True
 | t :: ts,v :: p=>0≤v∧v≤t∧vP ts p
 | _,_=>False
def vR:List Int→List Zb→Prop
 | [],[]=>True
 | t :: ts,r :: b=>0≤r.Lo∧r.Lo≤r.Hi∧r.Hi≤t∧vR ts b
 | _,_=>False
theorem Zjk (l:List (List Zb)) (v:Int) (p:List Int):mS l (v :: p)=mS (atv l v) p:=by
 induction l with
 | nil=>rfl
 | cons b l ih=>
  have e:mS (b :: l) (v :: p)=(mB b (v :: p) || mS l (v :: p)):=rfl
  rw [e,ih]
  cases b with
  | nil=>rfl
  | cons r b=>
   have e2:atv ((r :: b) :: l) v=(if inR v r then [b] else [])++atv l v:=rfl
   rw [e2]
   unfold mS
   rw [List.any_append]
   simp only [mB]
   cases inR v r <;> simp
theorem mS_app (a b:List (List Zb)) (p:List Int):mS (a++b) p=(mS a p || mS b p):=by unfold mS; rw [List.any_append]
theorem mS_nil (p:List Int):mS [] p=false:=rfl
theorem Z1b (a b:List (List Zb)) (v:Int):atv (a++b) v=atv a v++atv b v:=by unfold atv; rw [List.flatMap_append]
theorem mS_iff {l:List (List Zb)} {p:List Int}:mS l p=true ↔ ∃ b∈l,mB b p=true:=by unfold mS; rw [List.any_eq_true]
abbrev Cell:=Zb × List (List Zb)
def gp (y x:Cell):Prop:=y.1.Hi<x.1.Lo∧(y.1.Hi + 1=x.1.Lo→y.2 ≠ x.2)
def lk (c:List Cell) (v:Int):List (List Zb):=c.flatMap fun x=>if inR v x.1 then x.2 else []
def flt (c:List Cell):List (List Zb):=c.flatMap fun x=>x.2.map (x.1 :: ·)
structure Ord (t:Int) (c:List Cell):Prop where
 pw:c.Pairwise gp
 ok:∀ x∈c,0≤x.1.Lo∧x.1.Lo≤x.1.Hi∧x.1.Hi≤t∧x.2 ≠ []
def CF:List Int→List (List Zb)→Prop
 | [],l=>l=[]∨l=[[]]
 | t :: ts,l=>∃ c,l=flt c∧Ord t c∧∀ x∈c,CF ts x.2
theorem lk_app (a b:List Cell) (v:Int):lk (a++b) v=lk a v++lk b v:=by unfold lk; rw [List.flatMap_append]
theorem Ziq (x:Cell) (b:List Cell) (v:Int):lk (x :: b) v=(if inR v x.1 then x.2 else [])++lk b v:=rfl
theorem Zez (a b:List Cell):flt (a++b)=flt a++flt b:=by unfold flt; rw [List.flatMap_append]
theorem Zhw (x:Cell) (b:List Cell):flt (x :: b)=x.2.map (x.1 :: ·)++flt b:=rfl
theorem Zx3 (r:Zb) (v:Int):∀(l:List (List Zb)),atv (l.map (r :: ·)) v=if inR v r then l else []
 | []=>by simp [atv]
 | b :: l=>by
  have e:atv ((b :: l).map (r :: ·)) v=(if inR v r then [b] else [])++atv (l.map (r :: ·)) v:=rfl
  rw [e,Zx3 r v l]
  split <;> rfl
theorem Zlh (c:List Cell) (v:Int):atv (flt c) v=lk c v:=by
 induction c with
 | nil=>rfl
 | cons x c ih=>rw [Zhw,Ziq,Z1b,Zx3,ih]
theorem Zdz {v:Int} {r:Zb}:inR v r=true ↔ r.Lo≤v∧v≤r.Hi:=by unfold inR; simp
theorem Zpt {c:List Cell} {v:Int} (h:∀ x∈c,¬ (x.1.Lo≤v∧v≤x.1.Hi)):lk c v=[]:=by
 induction c with
 | nil=>rfl
 | cons x c ih=>
  rw [Ziq,ih fun y hy=>h y (List.mem_cons_of_mem _ hy),if_neg (by rw [Zdz]; exact h x (List.mem_cons_self ..))]; rfl
theorem Ord.tail {t:Int} {x:Cell} {c:List Cell} (h:Ord t (x :: c)):Ord t c:=⟨(List.pairwise_cons.1 h.pw).2,fun y hy=>h.ok y (List.mem_cons_of_mem _ hy)⟩
theorem lk_mem {t:Int}:∀ {c:List Cell},Ord t c→∀ {x:Cell},x∈c→∀ {v:Int},x.1.Lo≤v→v≤x.1.Hi→lk c v=x.2
 | [],_,_,h,_,_,_=>(by cases h)
 | y :: c,ho,x,hx,v,h1,h2=>by
  have hp:=List.pairwise_cons.1 ho.pw
  rw [Ziq]
  rcases List.mem_cons.1 hx with rfl | hx
  ·rw [if_pos (Zdz.2 ⟨h1,h2⟩),Zpt,List.append_nil]
   intro z hz
   have:=(hp.1 z hz).1
   omega
  ·have:=(hp.1 x hx).1
   rw [if_neg (by rw [Zdz]; omega),lk_mem ho.tail hx h1 h2]; rfl
theorem Zli {c:List Cell} {v:Int} (h:lk c v ≠ []):∃ x∈c,x.1.Lo≤v∧v≤x.1.Hi:=by
 apply Classical.byContradiction
 intro hn
 exact h (Zpt fun x hx hv=>hn ⟨x,hx,hv⟩)
theorem Ord.inj {t:Int}:∀ {c c':List Cell},Ord t c→Ord t c'→(∀ v,lk c v=lk c' v)→c=c'
 | [],[],_,_,_=>rfl
 | [],y :: c',_,h',h=>by
  have hy:=h'.ok y (List.mem_cons_self ..)
  have:=h y.1.Lo
  rw [lk_mem h' (List.mem_cons_self ..) (Int.le_refl _) hy.2.1] at this
  exact absurd this.symm hy.2.2.2
 | x :: c,[],h,_,he=>by
  have hy:=h.ok x (List.mem_cons_self ..)
  have:=he x.1.Lo
  rw [lk_mem h (List.mem_cons_self ..) (Int.le_refl _) hy.2.1] at this
  exact absurd this hy.2.2.2
 | x :: c,y :: c',h,h',he=>by
  have hx:=h.ok x (List.mem_cons_self ..)
  have hy:=h'.ok y (List.mem_cons_self ..)
  have px:=List.pairwise_cons.1 h.pw
  have py:=List.pairwise_cons.1 h'.pw
  have low:∀ {x:Cell} {c c':List Cell} {y:Cell},Ord t (x :: c)→Ord t (y :: c')→(∀ v,lk (x :: c) v=lk (y :: c') v)→y.1.Lo≤x.1.Lo:=by
   intro x c c' y h h' he
   have hx:=h.ok x (List.mem_cons_self ..)
   have py:=List.pairwise_cons.1 h'.pw
   have h1:=he x.1.Lo
   rw [lk_mem h (List.mem_cons_self ..) (Int.le_refl _) hx.2.1] at h1
   obtain⟨z,hz,h2,h3⟩:=Zli (c:=y :: c') (v:=x.1.Lo) (by rw [← h1]; exact hx.2.2.2)
   rcases List.mem_cons.1 hz with rfl | hz
   ·exact h2
   ·have:=(py.1 z hz).1
    have:=(h'.ok y (List.mem_cons_self ..)).2.1
    omega
  have e1:x.1.Lo=y.1.Lo:=Int.le_antisymm (low h' h fun v=>(he v).symm) (low h h' he)
  have e2:x.2=y.2:=by
   have h1:=he x.1.Lo
   rw [lk_mem h (List.mem_cons_self ..) (Int.le_refl _) hx.2.1,lk_mem h' (List.mem_cons_self ..) (by omega) (by omega)] at h1
   exact h1
  have hi:∀ {x:Cell} {c c':List Cell} {y:Cell},Ord t (x :: c)→Ord t (y :: c')→(∀ v,lk (x :: c) v=lk (y :: c') v)→x.1.Lo=y.1.Lo→x.2=y.2→¬ x.1.Hi<y.1.Hi:=by
   intro x c c' y h h' he e1 e2 hlt
   have hx:=h.ok x (List.mem_cons_self ..)
   have px:=List.pairwise_cons.1 h.pw
   have h1:=he (x.1.Hi + 1)
   rw [lk_mem h' (v:=x.1.Hi + 1) (List.mem_cons_self ..) (by omega) (by omega)] at h1
   obtain⟨z,hz,h2,h3⟩:=Zli (c:=x :: c) (v:=x.1.Hi + 1) (by rw [h1,← e2]; exact hx.2.2.2)
   rcases List.mem_cons.1 hz with rfl | hzc
   ·omega
   ·have hg:=px.1 z hzc
    rw [lk_mem h hz h2 h3,← e2] at h1
    exact hg.2 (by have:=hg.1; omega) h1.symm
  have e3:x.1.Hi=y.1.Hi:=by
   have a1:=hi h h' he e1 e2
   have a2:=hi h' h (fun v=>(he v).symm) e1.symm e2.symm
   omega
  have exy:x=y:=by
   obtain⟨⟨a,b⟩,r⟩:=x
   obtain⟨⟨a',b'⟩,r'⟩:=y
   simp only at e1 e2 e3
   subst e1 e2 e3
   rfl
  subst exy
  congr 1
  refine Ord.inj h.tail h'.tail fun v=>?_
  have h1:=he v
  rw [Ziq,Ziq] at h1
  exact List.append_cancel_left h1
theorem CF_nil:∀ ts,CF ts []
 | []=>.inl rfl
 | _ :: _=>⟨[],rfl,⟨List.Pairwise.nil,fun _ h=>(by cases h)⟩,fun _ h=>(by cases h)⟩
theorem CF_lk {ts:List Int} {t:Int} {c:List Cell} (h:Ord t c) (hc:∀ x∈c,CF ts x.2) (v:Int):CF ts (lk c v):=by
 by_cases hv:lk c v=[]
 ·rw [hv]; exact CF_nil ts
 ·obtain⟨x,hx,h1,h2⟩:=Zli hv
  rw [lk_mem h hx h1 h2]
  exact hc x hx
theorem lk_out {t:Int} {c:List Cell} (h:Ord t c) {v:Int} (hv:v<0∨t<v):lk c v=[]:=
 Zpt fun x hx=>by have:=h.ok x hx; omega
theorem CF_inj:∀(ts:List Int) {l l':List (List Zb)},CF ts l→CF ts l'→(∀ p,vP ts p→mS l p=mS l' p)→l=l'
 | [],l,l',h,h',he=>by
  have:=he [] trivial
  rcases h with rfl | rfl <;> rcases h' with rfl | rfl
  ·rfl
  ·simp [mS,mB] at this
  ·simp [mS,mB] at this
  ·rfl
 | t :: ts,l,l',h,h',he=>by
  obtain⟨c,rfl,ho,hc⟩:=h
  obtain⟨c',rfl,ho',hc'⟩:=h'
  rw [Ord.inj ho ho' fun v=>?_]
  by_cases hv:0≤v∧v≤t
  ·refine CF_inj ts (CF_lk ho hc v) (CF_lk ho' hc' v) fun p hp=>?_
   have:=he (v :: p) ⟨hv.1,hv.2,hp⟩
   rw [Zjk,Zjk,Zlh,Zlh] at this
   exact this
  ·rw [lk_out ho (by omega),lk_out ho' (by omega)]
def joinC (c:List Cell) (lo hi:Int) (rest:List (List Zb)):List Cell:=
 if rest=[] then c else match c.getLast? with
  | some y=>if y.1.Hi + 1=lo∧y.2=rest then c.dropLast++[(⟨y.1.Lo,hi⟩,rest)] else c++[(⟨lo,hi⟩,rest)]
  | none=>c++[(⟨lo,hi⟩,rest)]
structure Upto (g:Int→List (List Zb)) (p:Int) (c:List Cell):Prop where
 ord:Ord (p - 1) c
 at_:∀ v,lk c v=if 0≤v∧v<p then g v else []
theorem Ord.mono {t t':Int} (h:t≤t') {c:List Cell} (ho:Ord t c):Ord t' c:=⟨ho.pw,fun x hx=>by have:=ho.ok x hx; exact⟨this.1,this.2.1,by omega,this.2.2.2⟩⟩
theorem Upto.nil (g:Int→List (List Zb)):Upto g 0 []:=⟨⟨List.Pairwise.nil,fun _ h=>(by cases h)⟩,fun v=>by rw [if_neg (by omega)]; rfl⟩
theorem Upto.inj {g:Int→List (List Zb)} {p:Int} {c c':List Cell} (h:Upto g p c) (h':Upto g p c'):c=c':=Ord.inj h.ord h'.ord fun v=>by rw [h.at_,h'.at_]
theorem lk_one (lo hi:Int) (rest:List (List Zb)) (v:Int):lk [(⟨lo,hi⟩,rest)] v=if lo≤v∧v≤hi then rest else []:=by
 rw [Ziq]
 show _++[]=_
 rw [List.append_nil]
 by_cases h:lo≤v∧v≤hi
 ·rw [if_pos h,if_pos (Zdz.2 h)]
 ·rw [if_neg h,if_neg (by rw [Zdz]; exact h)]
theorem Upto.step {g:Int→List (List Zb)} {p q:Int} {c:List Cell} (h:Upto g p c) (hp:0≤p) (hq:p<q) (hg:∀ v,p≤v→v<q→g v=g p):Upto g q (joinC c p (q - 1) (g p)):=by
 unfold joinC
 by_cases hr:g p=[]
 ·rw [if_pos hr]
  refine⟨h.ord.mono (by omega),fun v=>?_⟩
  rw [h.at_]
  by_cases h1:0≤v∧v<p
  ·rw [if_pos h1,if_pos ⟨h1.1,by omega⟩]
  ·rw [if_neg h1]
   split
   ·rw [hg v (by omega) (by omega),hr]
   ·rfl
 ·rw [if_neg hr]
  have snoc:∀(d:List Cell) (lo:Int),d.Pairwise gp→(∀ x∈d,0≤x.1.Lo∧x.1.Lo≤x.1.Hi∧x.1.Hi≤p - 1∧x.2 ≠ [])→(∀ y∈d,gp y (⟨lo,q - 1⟩,g p))→0≤lo→lo≤p →
    Ord (q - 1) (d++[(⟨lo,q - 1⟩,g p)]):=by
   intro d lo h1 h2 h3 h4 h5
   refine⟨List.pairwise_append.2 ⟨h1,List.pairwise_singleton ..,fun y hy x hx=>by rw [List.mem_singleton] at hx; subst hx; exact h3 y hy⟩,fun x hx=>?_⟩
   rcases List.mem_append.1 hx with hx | hx
   ·have:=h2 x hx
    exact⟨this.1,this.2.1,by omega,this.2.2.2⟩
   ·rw [List.mem_singleton] at hx
    subst hx
    exact⟨h4,by show lo≤q - 1; omega,by show q - 1≤q - 1; omega,hr⟩
  have look:∀ v,lk c v++(if p≤v∧v≤q - 1 then g p else [])=if 0≤v∧v<q then g v else []:=by
   intro v
   rw [h.at_]
   by_cases h1:0≤v∧v<p
   ·rw [if_pos h1,if_neg (show ¬ (p≤v∧v≤q - 1) by omega),if_pos (show 0≤v∧v<q by omega),List.append_nil]
   ·rw [if_neg h1,List.nil_append]
    by_cases h2:p≤v∧v≤q - 1
    ·rw [if_pos h2,if_pos (by omega),hg v h2.1 (by omega)]
    ·rw [if_neg h2,if_neg (by omega)]
  cases hl:c.getLast? with
  | none=>
   rw [List.getLast?_eq_none_iff] at hl
   subst hl
   refine⟨snoc [] p List.Pairwise.nil (fun _ h=>(by cases h)) (fun _ h=>(by cases h)) hp (Int.le_refl _),fun v=>?_⟩
   rw [lk_app,lk_one]
   exact look v
  | some y=>
   obtain⟨d,rfl⟩:=List.getLast?_eq_some_iff.1 hl
   have hyo:=h.ord.ok y (List.mem_append_right _ (List.mem_singleton.2 rfl))
   have hpw:=List.pairwise_append.1 h.ord.pw
   have hbe:∀ x∈d,gp x y:=fun x hx=>hpw.2.2 x hx y (List.mem_singleton.2 rfl)
   simp only
   by_cases hj:y.1.Hi + 1=p∧y.2=g p
   ·rw [if_pos hj,List.dropLast_concat]
    refine⟨snoc d y.1.Lo hpw.1 (fun x hx=>h.ord.ok x (List.mem_append_left _ hx)) (fun x hx=>⟨(hbe x hx).1,by rw [← hj.2]; exact(hbe x hx).2⟩) hyo.1 (by omega),fun v=>?_⟩
    rw [lk_app,lk_one,← look v,lk_app,List.append_assoc]
    congr 1
    obtain⟨⟨ylo,yhi⟩,yr⟩:=y
    rw [lk_one]
    simp only at hj hyo ⊢
    obtain⟨h1,rfl⟩:=hj
    by_cases h2:ylo≤v∧v≤yhi
    ·rw [if_pos h2,if_neg (show ¬ (p≤v∧v≤q - 1) by omega),if_pos (show ylo≤v∧v≤q - 1 by omega),List.append_nil]
    ·rw [if_neg h2,List.nil_append]
     by_cases h3:p≤v∧v≤q - 1
     ·rw [if_pos h3,if_pos (show ylo≤v∧v≤q - 1 by omega)]
     ·rw [if_neg h3,if_neg (show ¬ (ylo≤v∧v≤q - 1) by omega)]
   ·rw [if_neg hj]
    refine⟨snoc (d++[y]) p h.ord.pw h.ord.ok (fun x hx=>⟨?_,fun e1 e2=>?_⟩) hp (Int.le_refl _),fun v=>?_⟩
    ·have:=h.ord.ok x hx
     show x.1.Hi<p
     omega
    ·simp only at e1 e2
     rcases List.mem_append.1 hx with hx | hx
     ·have:=(hbe x hx).1
      omega
     ·rw [List.mem_singleton] at hx
      subst hx
      exact hj ⟨e1,e2⟩
    ·rw [lk_app,lk_one]
     exact look v
theorem Upto.exists_ (g:Int→List (List Zb)):∀ n:Nat,∃ c,Upto g n c
 | 0=>⟨[],Upto.nil g⟩
 | n + 1=>by
  obtain⟨c,h⟩:=Upto.exists_ g n
  refine⟨_,h.step (q:=((n + 1:Nat):Int)) (by omega) (by omega) fun v h1 h2=>?_⟩
  rw [show v=(n:Int) by omega]
structure Is (op:Bool→Bool→Bool) (ts:List Int) (a b l:List (List Zb)):Prop where
 cf:CF ts l
 mem:∀ p,vP ts p→mS l p=op (mS a p) (mS b p)
theorem Is.inj {op:Bool→Bool→Bool} {ts:List Int} {a b l l':List (List Zb)} (h:Is op ts a b l) (h':Is op ts a b l'):l=l':=
 CF_inj ts h.cf h'.cf fun p hp=>by rw [h.mem p hp,h'.mem p hp]
theorem Is.exists_ (op:Bool→Bool→Bool):∀(ts:List Int),(∀ t∈ts,0≤t)→∀ a b,∃ l,Is op ts a b l
 | [],_,a,b=>by
  by_cases h:op (mS a []) (mS b [])=true
  ·exact⟨[[]],.inr rfl,fun p hp=>by cases p with | nil=>rw [h]; rfl | cons _ _=>exact hp.elim⟩
  ·exact⟨[],.inl rfl,fun p hp=>by cases p with | nil=>rw [Bool.not_eq_true] at h; rw [h]; rfl | cons _ _=>exact hp.elim⟩
 | t :: ts,ht,a,b=>by
  have ih:=fun v=>Is.exists_ op ts (fun x hx=>ht x (List.mem_cons_of_mem _ hx)) (atv a v) (atv b v)
  have h0:=ht t (List.mem_cons_self ..)
  obtain⟨c,hc⟩:=Upto.exists_ (fun v=>(ih v).choose) (t + 1).toNat
  have hg:=fun v=>(ih v).choose_spec
  refine⟨flt c,⟨c,rfl,hc.ord.mono (by omega),fun x hx=>?_⟩,fun p hp=>?_⟩
  ·have hx2:=hc.ord.ok x hx
   have:=hc.at_ x.1.Lo
   rw [lk_mem hc.ord hx (Int.le_refl _) hx2.2.1,if_pos (by omega)] at this
   rw [this]
   exact(hg _).cf
  ·cases p with
   | nil=>exact hp.elim
   | cons v p=>
    rw [Zjk,Zlh,hc.at_,if_pos (by have:=hp.1; have:=hp.2.1; omega),(hg v).mem p hp.2.2,Zjk,Zjk]
theorem Is.at_ {op:Bool→Bool→Bool} {t:Int} {ts:List Int} {a b:List (List Zb)} {c:List Cell} (ho:Ord t c) (hc:∀ x∈c,CF ts x.2) (h:Is op (t :: ts) a b (flt c)) {v:Int} (h0:0≤v) (h1:v≤t) :
  Is op ts (atv a v) (atv b v) (lk c v):=
 ⟨CF_lk ho hc v,fun p hp=>by have:=h.mem (v :: p) ⟨h0,h1,hp⟩; rw [Zjk,Zjk,Zjk,Zlh] at this; exact this⟩
end Go.AM
set_option maxRecDepth 100000
namespace Go.AM
open Go
def runC (g:Int→List (List Zb)):List Cell→List Int→List Cell
 | c,p :: q :: ps=>runC g (joinC c p (q - 1) (g p)) (q :: ps)
 | c,[_]=>c
 | c,[]=>c
theorem Zg3 (r:Zb) (rest:List (List Zb)):(flt [(r,rest)]).length=rest.length:=by
 simp [flt]
theorem Zzf (c:List Cell) (lo hi:Int) (rest:List (List Zb)):(flt c).length≤(flt (joinC c lo hi rest)).length∧(flt (joinC c lo hi rest)).length≤(flt c).length + rest.length:=by
 unfold joinC
 split
 ·omega
 ·split
  ·rename_i y hl
   obtain⟨d,rfl⟩:=List.getLast?_eq_some_iff.1 hl
   split
   ·rename_i hj
    rw [List.dropLast_concat,Zez,Zez,List.length_append,List.length_append,Zg3]
    obtain⟨yr,yrest⟩:=y
    rw [Zg3]
    have:=congrArg List.length hj.2
    simp only at this ⊢
    omega
   ·rw [Zez (d++[y]),List.length_append,Zg3]; omega
  ·rw [Zez,List.length_append,Zg3]; omega
theorem Zmo (g:Int→List (List Zb)):∀(ps:List Int) (c:List Cell),(flt c).length≤(flt (runC g c ps)).length
 | [],_=>Nat.le_refl _
 | [_],_=>Nat.le_refl _
 | p :: q :: ps,c=>Nat.le_trans (Zzf c p (q - 1) (g p)).1 (Zmo g (q :: ps) _)
def Steps (g:Int→List (List Zb)):List Int→Prop
 | p :: q :: ps=>p<q∧(∀ v,p≤v→v<q→g v=g p)∧Steps g (q :: ps)
 | [_]=>True
 | []=>False
theorem Upto.run {g:Int→List (List Zb)}:∀ {ps:List Int} {p:Int} {c:List Cell},0≤p→Steps g (p :: ps)→Upto g p c→∃ q,(p :: ps).getLast? = some q∧Upto g q (runC g c (p :: ps))
 | [],p,c,_,_,h=>⟨p,rfl,h⟩
 | q :: ps,p,c,h0,hs,h=>by
  obtain⟨h1,h2,h3⟩:=hs
  obtain⟨z,hz,hu⟩:=Upto.run (ps:=ps) (p:=q) (by omega) h3 (h.step h0 h1 h2)
  exact⟨z,by rw [List.getLast?_cons_cons]; exact hz,hu⟩
theorem Z1c {g:Int→List (List Zb)} {t:Int} {c:List Cell} {ps:List Int} (hs:Steps g (0 :: ps)) (hl:(0 :: ps).getLast? = some (t + 1)) (ho:Ord t c) (hg:∀ v,0≤v→v≤t→lk c v=g v):runC g [] (0 :: ps)=c:=by
 obtain⟨q,h1,h2⟩:=Upto.run (Int.le_refl 0) hs (Upto.nil g)
 rw [hl,Option.some.injEq] at h1
 subst h1
 refine Ord.inj (h2.ord.mono (t':=t) (by omega)) ho fun v=>?_
 rw [h2.at_]
 by_cases hv:0≤v∧v<t + 1
 ·rw [if_pos hv,hg v hv.1 (by omega)]
 ·rw [if_neg hv,lk_out ho (by omega)]
def Cut (ps:List Int) (l:List (List Zb)):Prop:=∀ b∈l,∀ r b',b=r :: b'→r.Lo∈ps∧r.Hi + 1∈ps
theorem Zz8 {l:List (List Zb)} {p q:Int} (h:∀ b∈l,∀ r b',b=r :: b'→¬ (p<r.Lo∧r.Lo<q)∧¬ (p<r.Hi + 1∧r.Hi + 1<q)) {v:Int} (h1:p≤v) (h2:v<q):atv l v=atv l p:=by
 unfold atv
 induction l with
 | nil=>rfl
 | cons b l ih=>
  rw [List.flatMap_cons,List.flatMap_cons,ih fun x hx=>h x (List.mem_cons_of_mem _ hx)]
  congr 1
  cases b with
  | nil=>rfl
  | cons r b=>
   have hb:=h (r :: b) (List.mem_cons_self ..) r b rfl
   have:inR v r=inR p r:=by
    rw [Bool.eq_iff_iff,Zdz,Zdz]
    omega
   simp only [this]
theorem Zvk:∀ {ps:List Int},ps.Pairwise (·<·)→∀ {i:Nat} (h:i + 1<ps.length),∀ x∈ps,¬ (ps[i]<x∧x<ps[i + 1]):=by
 intro ps hp i h x hx hc
 obtain⟨j,hj,rfl⟩:=List.getElem_of_mem hx
 have hm:=List.pairwise_iff_getElem.1 hp
 rcases Nat.lt_trichotomy j i with h1 | h1 | h1
 ·have:=hm j i hj (by omega) h1; omega
 ·subst h1; omega
 ·rcases Nat.lt_or_eq_of_le (show i + 1≤j by omega) with h2 | h2
  ·have:=hm (i + 1) j (by omega) hj h2; omega
  ·subst h2; omega
theorem Zwi {g:Int→List (List Zb)}:∀ {ps:List Int},ps ≠ []→ps.Pairwise (·<·)→(∀ i (h:i + 1<ps.length),∀ v,ps[i]≤v→v<ps[i + 1]→g v=g ps[i])→Steps g ps
 | [],h,_,_=>h rfl
 | [_],_,_,_=>trivial
 | p :: q :: ps,_,hp,hg=>by
  refine⟨(List.pairwise_cons.1 hp).1 q (List.mem_cons_self ..),fun v h1 h2=>hg 0 (by simp) v h1 h2,Zwi (List.cons_ne_nil _ _) (List.pairwise_cons.1 hp).2 fun i h v h1 h2=>?_⟩
  have:=hg (i + 1) (by simp at h ⊢; omega) v
  simpa using this h1 h2
structure Nx (t:Int) (ts:List Int) (last:Option Cell) (c:List Cell):Prop where
 ord:Ord t c
 cf:∀ x∈c,CF ts x.2
 gap:∀ y∈last,∀ x∈c,gp y x
theorem Nx.nil (t:Int) (ts:List Int) (last:Option Cell):Nx t ts last []:=⟨⟨List.Pairwise.nil,fun _ h=>(by cases h)⟩,fun _ h=>(by cases h),fun _ _ _ h=>(by cases h)⟩
theorem CF_iff {t:Int} {ts:List Int} {l:List (List Zb)}:CF (t :: ts) l ↔ ∃ c,l=flt c∧Nx t ts none c:=
 ⟨fun⟨c,h1,h2,h3⟩=>⟨c,h1,h2,h3,fun _ h=>(by cases h)⟩,fun⟨c,h1,h2⟩=>⟨c,h1,h2.ord,h2.cf⟩⟩
theorem Nx.run {t:Int} {ts:List Int} {last:Option Cell} {r:Zb} {run:List (List Zb)} {l:List (List Zb)} (hrun:run ≠ []) (hl:∀ b,l.head? = some b→∃ r' b',b=r' :: b'∧r' ≠ r) :
  (∃ c,run.map (r :: ·)++l=flt c∧Nx t ts last c) ↔ (0≤r.Lo∧r.Lo≤r.Hi∧r.Hi≤t)∧CF ts run∧(∀ y∈last,gp y (r,run))∧∃ c,l=flt c∧Nx t ts (some (r,run)) c:=by
 constructor
 ·rintro⟨c,hc,hn⟩
  cases c with
  | nil=>
   have:run.map (r :: ·)=[]:=(List.append_eq_nil_iff.1 hc).1
   simp at this
   exact absurd this hrun
  | cons x c=>
   rw [Zhw] at hc
   have hx:=hn.ord.ok x (List.mem_cons_self ..)
   have hp:=List.pairwise_cons.1 hn.ord.pw
   have key:∀(u w:List (List Zb)) (l l':List (List Zb)),u ≠ []→w ≠ []→(∀ b,l.head? = some b→∃ r' b',b=r' :: b'∧r' ≠ r)→(∀ b,l'.head? = some b→∃ r' b',b=r' :: b'∧r' ≠ x.1) →
     u.map (r :: ·)++l=w.map (x.1 :: ·)++l'→r=x.1∧u=w∧l=l':=by
    intro u w l l' hu hw g1 g2 he
    have hr:r=x.1:=by
     cases u with
     | nil=>exact absurd rfl hu
     | cons b u=>cases w with
      | nil=>exact absurd rfl hw
      | cons d w=>
       simp only [List.map_cons,List.cons_append,List.cons.injEq] at he
       exact he.1.1
    refine⟨hr,?_⟩
    rw [← hr] at he g2
    clear hu hw
    induction u generalizing w with
    | nil=>cases w with
     | nil=>exact⟨rfl,by simpa using he⟩
     | cons d w=>
      simp only [List.map_nil,List.nil_append,List.map_cons,List.cons_append] at he
      obtain⟨r',b',e1,e2⟩:=g1 (r :: d) (by rw [he]; rfl)
      simp only [List.cons.injEq] at e1
      exact absurd e1.1.symm e2
    | cons b u ih=>cases w with
     | nil=>
      simp only [List.map_nil,List.nil_append,List.map_cons,List.cons_append] at he
      obtain⟨r',b',e1,e2⟩:=g2 (r :: b) (by rw [← he]; rfl)
      simp only [List.cons.injEq] at e1
      exact absurd e1.1.symm e2
     | cons d w=>
      simp only [List.map_cons,List.cons_append,List.cons.injEq,true_and] at he
      obtain⟨i1,i2⟩:=ih w he.2
      exact⟨by rw [he.1,i1],i2⟩
   have hnext:∀ b,(flt c).head? = some b→∃ r' b',b=r' :: b'∧r' ≠ x.1:=by
    intro b hb
    cases c with
    | nil=>simp [flt] at hb
    | cons z c=>
     have hz:=hn.ord.ok z (List.mem_cons_of_mem _ (List.mem_cons_self ..))
     rw [Zhw] at hb
     cases hz2:z.2 with
     | nil=>exact absurd hz2 hz.2.2.2
     | cons d w=>
      rw [hz2] at hb
      simp only [List.map_cons,List.cons_append,List.head?_cons,Option.some.injEq] at hb
      refine⟨z.1,d,hb.symm,fun e=>?_⟩
      have:=(hp.1 z (List.mem_cons_self ..)).1
      rw [e] at this
      omega
   obtain⟨e1,e2,e3⟩:=key run x.2 l (flt c) hrun hx.2.2.2 hl hnext hc
   subst e1 e2 e3
   exact⟨⟨hx.1,hx.2.1,hx.2.2.1⟩,hn.cf x (List.mem_cons_self ..),fun y hy=>hn.gap y hy x (List.mem_cons_self ..),c,rfl,hn.ord.tail,fun z hz=>hn.cf z (List.mem_cons_of_mem _ hz),fun y hy z hz=>by
    have:x=y:=by simpa using hy
    subst this
    exact hp.1 z hz⟩
 ·rintro⟨h1,h2,h3,c,rfl,hn⟩
  refine⟨(r,run) :: c,rfl,⟨List.pairwise_cons.2 ⟨fun z hz=>hn.gap _ rfl z hz,hn.ord.pw⟩,fun x hx=>?_⟩,fun x hx=>?_,fun y hy x hx=>?_⟩
  ·rcases List.mem_cons.1 hx with rfl | hx
   ·exact⟨h1.1,h1.2.1,h1.2.2,hrun⟩
   ·exact hn.ord.ok x hx
  ·rcases List.mem_cons.1 hx with rfl | hx
   ·exact h2
   ·exact hn.cf x hx
  ·rcases List.mem_cons.1 hx with rfl | hx
   ·exact h3 y hy
   ·have g1:=h3 y hy
    have g2:=hn.gap _ rfl x hx
    have g3:=g1.1
    have g4:=g2.1
    simp only at g3 g4
    exact⟨by omega,fun e=>by omega⟩
end Go.AM
set_option maxRecDepth 100000
namespace Go.AM
open Go
theorem Z3 {d:Array Int} {n i:Nat} (hn:d.size=n) (h:i<n):idxn n d.toList (i:Int)=some d[i]!:=by
 have hi:i<d.size:=by omega
 unfold idxn
 rw [if_pos ⟨by omega,by omega⟩]
 simp [AM.idx,hi]
theorem Zz9 (d:Array Int) (i:Nat) (x:Int):d.toList.set i x=(d.setIfInBounds i x).toList:=by simp
theorem Zeu {d:Array Int} {n i j:Nat} {x:Int} (hn:d.size=n) (h:j<n):∃ y,idxn n (d.toList.set i x) (j:Int)=some y:=by
 rw [Zz9]
 exact⟨_,Z3 (by simpa using hn) h⟩
theorem Ze0 (d:Array Int) (i j:Nat):(d.toList.set i d[j]!).set j d[i]! = (Sort.swp d i j).toList:=by
 unfold Sort.swp; simp
theorem swp_sz (d:Array Int) (i j:Nat):(Sort.swp d i j).size=d.size:=Sort.swp_size d i j
theorem Zfc (x y:Int):Zac x y=some (Sort.ltInt x y):=by
 unfold Zac Zft Sort.ltInt
 simp
abbrev sB:Nat:=1000000000
theorem wpred {j:Nat} (h:j + 1<1000000000000):IntKind.wrap .i64 (((j + 1:Nat):Int) - (1:Int))=(j:Int):=by
 rw [wi64 (by omega) (by omega)]; omega
theorem wsuc {j:Nat} (h:j + 1<1000000000000):IntKind.wrap .i64 ((j:Int) + (1:Int))=((j + 1:Nat):Int):=by
 rw [wi64 (by omega) (by omega)]; omega
theorem wadd {i j:Nat} (h:i + j<1000000000000):IntKind.wrap .i64 ((i:Int) + (j:Int))=((i + j:Nat):Int):=by
 rw [wi64 (by omega) (by omega)]; omega
theorem wsub {i j:Nat} (h:i<1000000000000) (hj:j≤i):IntKind.wrap .i64 ((i:Int) - (j:Int))=((i - j:Nat):Int):=by
 rw [wi64 (by omega) (by omega)]; omega
theorem Zq1 {n a:Nat} (hB:n≤sB):∀(j m:Nat) (d:Array Int),d.size=n→j<n→j<m→Zaj n (a:Int) m d.toList (j:Int)=some (Sort.insInner Sort.ltInt a j d).toList
 | 0,m + 1,d,hd,hj,hm=>by
  rw [Zaj,decide_eq_false (by omega)]
  simp [Sort.insInner]
 | j + 1,m + 1,d,hd,hj,hm=>by
  have ih:=Zq1 (a:=a) hB j m
  rw [Zaj,Sort.insInner]
  unfold sB at hB
  simp only [wpred (show j + 1<1000000000000 by omega),Z3 hd hj,Z3 hd (show j<n by omega),Option.bind_some,Zfc,Int.toNat_natCast]
  by_cases h:j + 1 > a
  ·have h':((j + 1:Nat):Int) > (a:Int):=by omega
   simp only [decide_eq_true h,decide_eq_true h',if_true,Option.bind_some,Bool.true_and]
   cases hl:Sort.ltInt d[j + 1]! d[j]! with
   | false=>simp
   | true=>
    obtain⟨y,hy⟩:=Zeu (i:=j + 1) (x:=d[j]!) hd (show j<n by omega)
    simp only [if_true,hy,Option.bind_some,Ze0]
    exact ih _ (by rw [swp_sz,hd]) (by omega) (by omega)
  ·have h':¬ ((j + 1:Nat):Int) > (a:Int):=by omega
   rw [decide_eq_false h,decide_eq_false h']
   simp
theorem Zxf {n a b:Nat} (hB:n≤sB) (hb:b≤n):∀(k i m:Nat) (d:Array Int),d.size=n→b - i=k→k<m→i≤sB + 1→Zak n (a:Int) (b:Int) m d.toList (i:Int)=some (Sort.insOuter Sort.ltInt a b i d).toList:=by
 unfold sB at hB
 intro k
 induction k with
 | zero=>
  intro i m d hd hk hm hi
  cases m with
  | zero=>omega
  | succ m=>
  rw [Zak,Sort.insOuter,if_neg (by simp; omega),if_neg (by omega)]
 | succ k ih=>
  intro i m d hd hk hm hi
  cases m with
  | zero=>omega
  | succ m=>
  rw [Zak,Sort.insOuter,if_pos (by simp; omega),if_pos (by omega)]
  rw [Zq1 (a:=a) (show n≤sB by unfold sB; omega) i fuel d hd (by omega) (by unfold fuel; omega)]
  simp only [Option.bind_some]
  unfold sB at hi
  rw [wsuc (by omega)]
  refine ih (i + 1) m _ ?_ (by omega) (by omega) (by unfold sB; omega)
  exact insInner_sz _ _ hd
where
 insInner_sz {n a:Nat}:∀(j:Nat) (d:Array Int),d.size=n→(Sort.insInner Sort.ltInt a j d).size=n
  | 0,d,hd=>hd
  | j + 1,d,hd=>by
   rw [Sort.insInner]
   split
   ·exact insInner_sz j _ (by rw [swp_sz,hd])
   ·exact hd
theorem Zrq {n a b:Nat} (hB:n≤sB) (hb:b≤n) (hab:a≤b) {d:Array Int} (hd:d.size=n):Zbu n d.toList (a:Int) (b:Int)=some (Sort.insertionSort Sort.ltInt d a b).toList:=by
 unfold Zbu Sort.insertionSort
 have h:(a:Int) + 1=((a + 1:Nat):Int):=by omega
 unfold sB at hB
 rw [wsuc (by omega),Zxf (show n≤sB by unfold sB; omega) hb (b - (a + 1)) (a + 1) fuel d hd rfl (by unfold fuel; omega) (by unfold sB; omega)]
 rfl
def sTail (a0:Nat) (a3 a4:Int) (n95:Nat) (v46:List Int) (v47 v109:Int):Option (List Int ⊕ List Int):=
    (idxn a0 v46 (IntKind.wrap .i64 (a4 + v47))).bind fun(x124:Int)=>
    (idxn a0 v46 (IntKind.wrap .i64 (a4 + v109))).bind fun(x126:Int)=>
    (Zac x124 x126).bind fun(r128:Bool)=>
    if (!r128)=true then
     some (.inr v46)
    else
     (idxn a0 v46 (IntKind.wrap .i64 (a4 + v109))).bind fun(x130:Int)=>
     (idxn a0 v46 (IntKind.wrap .i64 (a4 + v47))).bind fun(x132:Int)=>
     (idxn a0 v46 (IntKind.wrap .i64 (a4 + v47))).bind fun(_:Int)=>
     (idxn a0 (List.set v46 (Int.toNat (IntKind.wrap .i64 (a4 + v47))) x130) (IntKind.wrap .i64 (a4 + v109))).bind fun(_:Int)=>
     Zaf a0 a3 a4 n95 (List.set (List.set v46 (Int.toNat (IntKind.wrap .i64 (a4 + v47))) x130) (Int.toNat (IntKind.wrap .i64 (a4 + v109))) x132) v109
def outS (l:List Int) (o:List Int ⊕ List Int):Prop:=o=.inl l∨o=.inr l
theorem Z0a {n hi first root c m:Nat} (hB:n≤sB) (hf:first + hi≤n) (hr:root<hi) (hc:c<hi) {d:Array Int} (hd:d.size=n) {r:Array Int}
  (ih:Sort.ltInt d[first + root]! d[first + c]! = true→Ok (Zaf n (hi:Int) (first:Int) m (Sort.swp d (first + root) (first + c)).toList (c:Int)) (outS r.toList)) (hs:Sort.ltInt d[first + root]! d[first + c]! = false→r=d) :
  Ok (sTail n (hi:Int) (first:Int) m d.toList (root:Int) (c:Int)) (outS r.toList):=by
 unfold sB at hB
 unfold sTail
 rw [wadd (i:=first) (j:=root) (by omega),wadd (i:=first) (j:=c) (by omega)]
 simp only [Z3 hd (show first + root<n by omega),Z3 hd (show first + c<n by omega),Option.bind_some,Zfc,Int.toNat_natCast]
 cases hl:Sort.ltInt d[first + root]! d[first + c]! with
 | false=>rw [hs hl]; exact⟨_,rfl,Or.inr rfl⟩
 | true=>
  obtain⟨y,hy⟩:=Zeu (i:=first + root) (x:=d[first + c]!) hd (show first + c<n by omega)
  simp only [Bool.not_true,Bool.false_eq_true,if_false,hy,Option.bind_some,Ze0]
  exact ih hl
theorem Zxg {n hi first:Nat} (hB:n≤sB) (hf:first + hi≤n):∀(k root m:Nat) (d:Array Int),d.size=n→hi - root≤k→k<m→root≤n →
  Ok (Zaf n (hi:Int) (first:Int) m d.toList (root:Int)) (outS (Sort.siftDown Sort.ltInt hi first root d).toList):=by
 intro k
 induction k with
 | zero=>
  intro root m d hd hk hm hr
  cases m with
  | zero=>omega
  | succ m=>
  unfold sB at hB
  rw [Zaf,Sort.siftDown,dif_pos (by omega),if_pos]
  ·exact⟨_,rfl,Or.inl rfl⟩
  ·rw [wi64 (x:=2 * (root:Int)) (by omega) (by omega),wi64 (by omega) (by omega)]; exact decide_eq_true (by omega)
 | succ k ih=>
  intro root m d hd hk hm hr
  cases m with
  | zero=>omega
  | succ m=>
  have hB':=hB
  unfold sB at hB
  have e1:IntKind.wrap .i64 (IntKind.wrap .i64 (2 * (root:Int)) + 1)=((2 * root + 1:Nat):Int):=by
   rw [wi64 (x:=2 * (root:Int)) (by omega) (by omega),wi64 (by omega) (by omega)]; omega
  rw [Zaf,Sort.siftDown]
  rw [e1]
  by_cases h:2 * root + 1 ≥ hi
  ·rw [dif_pos h,if_pos (decide_eq_true (by omega))]
   exact⟨_,rfl,Or.inl rfl⟩
  ·rw [dif_neg h,if_neg (by simp; omega)]
   have hst:∀ c:Nat,c<hi→root<c→Ok (sTail n (hi:Int) (first:Int) m d.toList (root:Int) (c:Int)) (outS (if (!Sort.ltInt d[first + root]! d[first + c]!)=true then d else Sort.siftDown Sort.ltInt hi first c (Sort.swp d (first + root) (first + c))).toList):=fun c hc hrc=>by
    refine Z0a hB' hf (by omega) hc hd (fun hl=>?_) (fun hl=>?_)
    ·rw [hl]
     simp only [Bool.not_true,Bool.false_eq_true,if_false]
     exact ih c m _ (by rw [swp_sz,hd]) (by omega) (by omega) (by omega)
    ·rw [hl]; rfl
   have e2:IntKind.wrap .i64 (((2 * root + 1:Nat):Int) + 1)=((2 * root + 2:Nat):Int):=wsuc (by omega)
   have e3:IntKind.wrap .i64 (IntKind.wrap .i64 ((first:Int) + ((2 * root + 1:Nat):Int)) + 1)=((first + (2 * root + 1) + 1:Nat):Int):=by
    rw [wadd (by omega)]; exact wsuc (by omega)
   have e4:IntKind.wrap .i64 ((first:Int) + ((2 * root + 1:Nat):Int))=((first + (2 * root + 1):Nat):Int):=wadd (by omega)
   rw [e2,e3,e4]
   by_cases h2:2 * root + 1 + 1<hi
   ·have h2':((2 * root + 2:Nat):Int)<(hi:Int):=by omega
    simp only [decide_eq_true h2,decide_eq_true h2',Option.bind_some,if_true,Z3 hd (show first + (2 * root + 1)<n by omega),Z3 hd (show first + (2 * root + 1) + 1<n by omega),Zfc,Bool.true_and]
    cases hl:Sort.ltInt d[first + (2 * root + 1)]! d[first + (2 * root + 1) + 1]! with
    | false=>
     simp only [Bool.false_eq_true,if_false,Option.bind_some]
     have q:=hst (2 * root + 1) (by omega) (by omega)
     simp only [sTail,Zfc,Option.bind_some] at q
     exact q
    | true=>
     simp only [if_true,Option.bind_some,dif_pos (show 2 * root + 2<hi from h2)]
     have q:=hst (2 * root + 2) (by omega) (by omega)
     simp only [sTail,Zfc,Option.bind_some] at q
     exact q
   ·have h2':¬ ((2 * root + 2:Nat):Int)<(hi:Int):=by omega
    simp only [decide_eq_false h2,decide_eq_false h2',Option.bind_some,Bool.false_eq_true,if_false,Bool.false_and]
    exact hst (2 * root + 1) (by omega) (by omega)
theorem Zt5 {n hi first:Nat}:∀(k root:Nat) (d:Array Int),d.size=n→hi - root≤k→(Sort.siftDown Sort.ltInt hi first root d).size=n:=by
 intro k
 induction k with
 | zero=>intro root d hd hk; rw [Sort.siftDown,dif_pos (by omega)]; exact hd
 | succ k ih=>
  intro root d hd hk
  rw [Sort.siftDown]
  split
  ·exact hd
  ·split
   ·split
    ·exact hd
    ·split
     ·exact ih _ _ (by rw [swp_sz,hd]) (by omega)
     ·exact hd
   ·split
    ·exact hd
    ·exact ih _ _ (by rw [swp_sz,hd]) (by omega)
theorem Zs6 {n hi first root:Nat} (hB:n≤sB) (hf:first + hi≤n) (hr:root≤n) {d:Array Int} (hd:d.size=n):Zbt n d.toList (root:Int) (hi:Int) (first:Int)=some (Sort.siftDown Sort.ltInt hi first root d).toList:=by
 unfold Zbt
 obtain⟨o,e,ho⟩:=Zxg hB hf (hi - root) root fuel d hd (Nat.le_refl _) (by unfold fuel; unfold sB at hB; omega) hr
 rw [e]
 rcases ho with rfl | rfl <;> rfl
theorem Zpu {n a b:Nat} (hB:n≤sB) (hab:a≤b) (hb:b≤n):∀(k m:Nat) (d:Array Int),d.size=n→k≤n + 1→k<m →
  Zaw n (a:Int) (b:Int) m d.toList ((k:Int) - 1)=some (Sort.heapBuild Sort.ltInt (b - a) a k d).toList
 | 0,m + 1,d,hd,hk,hm=>by
  rw [Zaw,if_neg (by simp)]; rfl
 | k + 1,m + 1,d,hd,hk,hm=>by
  have hB':=hB
  unfold sB at hB
  rw [Zaw,if_pos (decide_eq_true (by omega)),show ((k + 1:Nat):Int) - 1=(k:Int) by omega,wsub (by omega) hab,Zs6 hB' (by omega) (by omega) hd]
  simp only [Option.bind_some]
  rw [wi64 (by omega) (by omega),Sort.heapBuild]
  exact Zpu hB' hab hb k m _ (Zt5 _ _ _ hd (Nat.le_refl _)) (by omega) (by omega)
theorem Zs7 {n a b:Nat} (hB:n≤sB) (hb:b≤n):∀(k m:Nat) (d:Array Int),d.size=n→a + k≤b→k<m →
  Zax n (a:Int) m d.toList ((k:Int) - 1)=some (Sort.heapPop Sort.ltInt a k d).toList
 | 0,m + 1,d,hd,hk,hm=>by
  rw [Zax,if_neg (by simp)]; rfl
 | k + 1,m + 1,d,hd,hk,hm=>by
  have hB':=hB
  unfold sB at hB
  rw [Zax,if_pos (decide_eq_true (by omega)),show ((k + 1:Nat):Int) - 1=(k:Int) by omega,wadd (by omega)]
  obtain⟨y,hy⟩:=Zeu (i:=a) (x:=d[a + k]!) hd (show a + k<n by omega)
  simp only [Z3 hd (show a + k<n by omega),Z3 hd (show a<n by omega),Option.bind_some,Int.toNat_natCast,hy,Ze0]
  have e:=Zs6 (root:=0) (hi:=k) (first:=a) hB' (by omega) (by omega) (show (Sort.swp d a (a + k)).size=n by rw [swp_sz,hd])
  rw [show ((0:Nat):Int)=0 from rfl] at e
  rw [e]
  simp only [Option.bind_some]
  rw [wi64 (by omega) (by omega),Sort.heapPop]
  exact Zs7 hB' hb k m _ (Zt5 _ _ _ (by rw [swp_sz,hd]) (Nat.le_refl _)) (by omega) (by omega)
theorem Zu0 {n hi first:Nat}:∀(k:Nat) (d:Array Int),d.size=n→(Sort.heapBuild Sort.ltInt hi first k d).size=n
 | 0,_,hd=>hd
 | k + 1,d,hd=>by rw [Sort.heapBuild]; exact Zu0 k _ (Zt5 _ _ _ hd (Nat.le_refl _))
theorem Zxh {n a b:Nat} (hB:n≤sB) (hab:a<b) (hb:b≤n) {d:Array Int} (hd:d.size=n):Zcj n d.toList (a:Int) (b:Int)=some (Sort.heapSort Sort.ltInt d a b).toList:=by
 have hB':=hB
 unfold sB at hB
 unfold Zcj Sort.heapSort
 have e:IntKind.wrap .i64 (Int.tdiv (IntKind.wrap .i64 (IntKind.wrap .i64 ((b:Int) - (a:Int)) - 1)) 2)=(((b - a - 1) / 2 + 1:Nat):Int) - 1:=by
  rw [wsub (by omega) (by omega),wi64 (x:=((b - a:Nat):Int) - 1) (by omega) (by omega)]
  rw [Int.tdiv_eq_ediv_of_nonneg (by omega),wi64 (by omega) (by omega)]
  omega
 rw [e,Zpu hB' (by omega) hb _ _ _ hd (by omega) (by unfold fuel; omega)]
 simp only [Option.bind_some]
 rw [wsub (by omega) (by omega),wi64 (x:=((b - a:Nat):Int) - 1) (by omega) (by omega),Zs7 hB' hb (b - a) fuel _ (Zu0 _ _ hd) (by omega) (by unfold fuel; omega)]
 rfl
end Go.AM
set_option maxRecDepth 100000
namespace Go.AM
open Go
theorem Zyr {n:Nat} (hB:n≤sB):∀(k i j m:Nat) (d:Array Int),d.size=n→j - i≤k→k<m→j<n→i≤n →
  Zal n m d.toList (i:Int) (j:Int)=some (Sort.reverseLoop i j d).toList:=by
 intro k
 induction k with
 | zero=>
  intro i j m d hd hk hm hj hi
  cases m with
  | zero=>omega
  | succ m=>rw [Zal,Sort.reverseLoop,if_neg (by simp; omega),if_neg (by omega)]
 | succ k ih=>
  intro i j m d hd hk hm hj hi
  cases m with
  | zero=>omega
  | succ m=>
  have hB':=hB
  unfold sB at hB
  rw [Zal,Sort.reverseLoop]
  by_cases h:i<j
  ·rw [if_pos (decide_eq_true (by omega)),if_pos h]
   obtain⟨y,hy⟩:=Zeu (i:=i) (x:=d[j]!) hd hj
   simp only [Z3 hd hj,Z3 hd (show i<n by omega),Option.bind_some,Int.toNat_natCast,hy,Ze0]
   obtain⟨j',rfl⟩:∃ j',j=j' + 1:=⟨j - 1,by omega⟩
   rw [wsuc (by omega),wpred (by omega)]
   exact ih (i + 1) j' m _ (by rw [swp_sz,hd]) (by omega) (by omega) (by omega) (by omega)
  ·rw [if_neg (by simp; omega),if_neg h]
theorem Zs8 {n a b:Nat} (hB:n≤sB) (hab:a<b) (hb:b≤n) {d:Array Int} (hd:d.size=n):Za9 n d.toList (a:Int) (b:Int)=some (Sort.reverseRange d a b).toList:=by
 have hB':=hB
 unfold sB at hB
 unfold Za9 Sort.reverseRange
 obtain⟨b',rfl⟩:∃ b',b=b' + 1:=⟨b - 1,by omega⟩
 rw [wpred (by omega),Zyr hB' (b' - a) a b' fuel d hd (Nat.le_refl _) (by unfold fuel; omega) (by omega) (by omega)]
 rfl
theorem up_eq {n a:Nat} {L:Nat→Int→Option Int} (hB:n≤sB) {d:Array Int} (p:Int→Bool) {j:Nat} (hj:j<n) (_ha:a<n)
  (step:∀ m (i:Nat),i≤sB + 1→L (m + 1) (i:Int)=if i≤j∧p d[i]! = true then L m ((i + 1:Nat):Int) else some (i:Int)) :
  ∀(k i m:Nat),j + 1 - i≤k→k<m→i≤j + 2→L m (i:Int)=some ((Sort.scanUp p d j i:Nat):Int):=by
 unfold sB at hB
 intro k
 induction k with
 | zero=>
  intro i m hk hm hi
  cases m with
  | zero=>omega
  | succ m=>
  rw [step m i (by unfold sB; omega),if_neg (by omega),Sort.scanUp,if_neg (by simp; omega)]
 | succ k ih=>
  intro i m hk hm hi
  cases m with
  | zero=>omega
  | succ m=>
  rw [step m i (by unfold sB; omega),Sort.scanUp]
  by_cases h:i≤j∧p d[i]! = true
  ·rw [if_pos h,if_pos (by simp [h.1,h.2])]
   exact ih (i + 1) m (by omega) (by omega) (by omega)
  ·rw [if_neg h,if_neg (by simpa using h)]
theorem Zt6 {n i:Nat} {L:Nat→Int→Option Int} (hi:0<i) {d:Array Int} (p:Int→Bool)
  (step:∀ m (j:Nat),j<n→L (m + 1) (j:Int)=if i≤j∧p d[j]! = true then L m ((j:Int) - 1) else some (j:Int)) :
  ∀(j m:Nat),j<m→j<n→L m (j:Int)=some ((Sort.scanDown p d i j:Nat):Int):=by
 intro j
 induction j with
 | zero=>
  intro m hm hj
  cases m with
  | zero=>omega
  | succ m=>rw [step m 0 hj,if_neg (by omega)]; rfl
 | succ j ih=>
  intro m hm hj
  cases m with
  | zero=>omega
  | succ m=>
  rw [step m (j + 1) hj,Sort.scanDown]
  by_cases h:i≤j + 1∧p d[j + 1]! = true
  ·rw [if_pos h,if_pos (by simp [h.1,h.2]),show ((j + 1:Nat):Int) - 1=(j:Int) by omega]
   exact ih m (by omega) (by omega)
  ·rw [if_neg h,if_neg (by simpa using h)]
theorem pe2_eq {n a j:Nat} (hB:n≤sB) {d:Array Int} (hd:d.size=n) (ha:a<n) (hj:j<n) (i:Nat) (hi:i≤j + 2):Zar n (a:Int) d.toList (j:Int) fuel (i:Int)=some ((Sort.scanUp (fun x=>!Sort.ltInt d[a]! x) d j i:Nat):Int):=by
 refine up_eq hB (d:=d) (fun x=>!Sort.ltInt d[a]! x) hj ha (fun m i hi=>?_) (j + 1) i fuel (by omega) (by unfold sB at hB; unfold fuel; omega) hi
 unfold sB at hB hi
 rw [Zar]
 by_cases h:i≤j
 ·rw [decide_eq_true (show (i:Int)≤(j:Int) by omega)]
  simp only [Option.bind_some,if_true,Z3 hd ha,Z3 hd (show i<n by omega),Zfc,wsuc (show i + 1<1000000000000 by omega),h,true_and]
 ·rw [decide_eq_false (show ¬ (i:Int)≤(j:Int) by omega)]
  simp [h]
theorem pe3_eq {n a i:Nat} (hB:n≤sB) {d:Array Int} (hd:d.size=n) (ha:a<n) (hi:0<i) (j:Nat) (hj:j<n):Zas n (a:Int) d.toList (i:Int) fuel (j:Int)=some ((Sort.scanDown (fun x=>Sort.ltInt d[a]! x) d i j:Nat):Int):=by
 refine Zt6 hi (n:=n) (d:=d) (fun x=>Sort.ltInt d[a]! x) (fun m j hj=>?_) j fuel (by unfold sB at hB; unfold fuel; omega) hj
 unfold sB at hB
 rw [Zas]
 by_cases h:i≤j
 ·rw [decide_eq_true (show (i:Int)≤(j:Int) by omega)]
  simp only [Option.bind_some,if_true,Z3 hd ha,Z3 hd hj,Zfc,wi64 (show -9223372036854775808≤(j:Int) - 1 by omega) (show (j:Int) - 1<9223372036854775808 by omega),h,true_and]
 ·rw [decide_eq_false (show ¬ (i:Int)≤(j:Int) by omega)]
  simp [h]
theorem pe1_eq {n a:Nat} (hB:n≤sB) (ha:a<n):∀(k i j m:Nat) (d:Array Int),d.size=n→j + 1 - i≤k→k<m→i≤j + 2→a<i→j<n →
  Zah n (a:Int) m d.toList (i:Int) (j:Int)=some ((Sort.partEqLoop Sort.ltInt a i j d).2.toList,((Sort.partEqLoop Sort.ltInt a i j d).1:Int)):=by
 intro k
 induction k with
 | zero=>
  intro i j m d hd hk hm hij hai hj
  cases m with
  | zero=>omega
  | succ m=>
  have h1:Sort.scanUp (fun x=>!Sort.ltInt d[a]! x) d j i=i:=by rw [Sort.scanUp,if_neg (by simp; omega)]
  have h2:Sort.scanDown (fun x=>Sort.ltInt d[a]! x) d i j≤j:=Sort.scanDown_le _ _ _ _
  rw [Zah,pe2_eq hB hd ha hj i hij,Sort.partEqLoop_eq,h1]
  simp only [Option.bind_some]
  rw [pe3_eq hB hd ha (by omega) j hj]
  simp only [Option.bind_some]
  rw [if_pos (decide_eq_true (by omega)),if_pos (by omega)]
 | succ k ih=>
  intro i j m d hd hk hm hij hai hj
  cases m with
  | zero=>omega
  | succ m=>
  have hB':=hB
  unfold sB at hB
  rw [Zah,pe2_eq hB' hd ha hj i hij,Sort.partEqLoop_eq]
  simp only [Option.bind_some]
  have g1:=Sort.scanUp_ge (fun x=>!Sort.ltInt d[a]! x) d j i
  generalize Sort.scanUp (fun x=>!Sort.ltInt d[a]! x) d j i=i2 at g1 ⊢
  rw [pe3_eq hB' hd ha (by omega) j hj]
  simp only [Option.bind_some]
  have g2:=Sort.scanDown_le (fun x=>Sort.ltInt d[a]! x) d i2 j
  generalize Sort.scanDown (fun x=>Sort.ltInt d[a]! x) d i2 j=j2 at g2 ⊢
  by_cases h:i2 > j2
  ·rw [if_pos (decide_eq_true (by omega)),if_pos h]
  ·rw [if_neg (by simp; omega),if_neg h]
   obtain⟨y,hy⟩:=Zeu (i:=i2) (x:=d[j2]!) hd (show j2<n by omega)
   simp only [Z3 hd (show j2<n by omega),Z3 hd (show i2<n by omega),Option.bind_some,Int.toNat_natCast,hy,Ze0]
   obtain⟨j',rfl⟩:∃ j',j2=j' + 1:=⟨j2 - 1,by omega⟩
   rw [wsuc (by omega),wpred (by omega)]
   exact ih (i2 + 1) j' m _ (by rw [swp_sz,hd]) (by omega) (by omega) (by omega) (by omega) (by omega)
theorem Zqt {n a b p:Nat} (hB:n≤sB) (hb:b≤n) (hp0:a≤p) (hp:p<b) {d:Array Int} (hd:d.size=n) :
  Zbq n d.toList (a:Int) (b:Int) (p:Int)=some (((Sort.partitionEqual Sort.ltInt d a b p).1:Int),(Sort.partitionEqual Sort.ltInt d a b p).2.toList):=by
 have hB':=hB
 unfold sB at hB
 unfold Zbq Sort.partitionEqual
 obtain⟨y,hy⟩:=Zeu (i:=a) (x:=d[p]!) hd (show p<n by omega)
 simp only [Z3 hd (show p<n by omega),Z3 hd (show a<n by omega),Option.bind_some,Int.toNat_natCast,hy,Ze0]
 obtain⟨b',rfl⟩:∃ b',b=b' + 1:=⟨b - 1,by omega⟩
 rw [wsuc (by omega),wpred (by omega),pe1_eq hB' (by omega) (b' + 1 - (a + 1)) (a + 1) b' fuel _ (by rw [swp_sz,hd]) (Nat.le_refl _) (by unfold fuel; omega) (by omega) (by omega) (by omega)]
 rfl
theorem pa4_eq {n a j:Nat} (hB:n≤sB) {d:Array Int} (hd:d.size=n) (ha:a<n) (hj:j<n) (i:Nat) (hi:i≤j + 2):Zbc n (a:Int) d.toList (j:Int) fuel (i:Int)=some ((Sort.scanUp (fun x=>Sort.ltInt x d[a]!) d j i:Nat):Int):=by
 refine up_eq hB (d:=d) (fun x=>Sort.ltInt x d[a]!) hj ha (fun m i hi=>?_) (j + 1) i fuel (by omega) (by unfold sB at hB; unfold fuel; omega) hi
 unfold sB at hB hi
 rw [Zbc]
 by_cases h:i≤j
 ·rw [decide_eq_true (show (i:Int)≤(j:Int) by omega)]
  simp only [Option.bind_some,if_true,Z3 hd ha,Z3 hd (show i<n by omega),Zfc,wsuc (show i + 1<1000000000000 by omega),h,true_and]
 ·rw [decide_eq_false (show ¬ (i:Int)≤(j:Int) by omega)]
  simp [h]
theorem pa5_eq {n a i:Nat} (hB:n≤sB) {d:Array Int} (hd:d.size=n) (ha:a<n) (hi:0<i) (j:Nat) (hj:j<n):Zbd n (a:Int) d.toList (i:Int) fuel (j:Int)=some ((Sort.scanDown (fun x=>!Sort.ltInt x d[a]!) d i j:Nat):Int):=by
 refine Zt6 hi (n:=n) (d:=d) (fun x=>!Sort.ltInt x d[a]!) (fun m j hj=>?_) j fuel (by unfold sB at hB; unfold fuel; omega) hj
 unfold sB at hB
 rw [Zbd]
 by_cases h:i≤j
 ·rw [decide_eq_true (show (i:Int)≤(j:Int) by omega)]
  simp only [Option.bind_some,if_true,Z3 hd ha,Z3 hd hj,Zfc,wi64 (show -9223372036854775808≤(j:Int) - 1 by omega) (show (j:Int) - 1<9223372036854775808 by omega),h,true_and]
 ·rw [decide_eq_false (show ¬ (i:Int)≤(j:Int) by omega)]
  simp [h]
theorem pa3_eq {n a:Nat} (hB:n≤sB) (ha:a<n):∀(k i j m:Nat) (d:Array Int),d.size=n→j + 1 - i≤k→k<m→i≤j + 2→a<i→j<n →
  Zat n (a:Int) m d.toList (i:Int) (j:Int)=some ((Sort.partLoop Sort.ltInt a i j d).2.toList,((Sort.partLoop Sort.ltInt a i j d).1:Int)):=by
 intro k
 induction k with
 | zero=>
  intro i j m d hd hk hm hij hai hj
  cases m with
  | zero=>omega
  | succ m=>
  have h1:Sort.scanUp (fun x=>Sort.ltInt x d[a]!) d j i=i:=by rw [Sort.scanUp,if_neg (by simp; omega)]
  have h2:Sort.scanDown (fun x=>!Sort.ltInt x d[a]!) d i j≤j:=Sort.scanDown_le _ _ _ _
  rw [Zat,pa4_eq hB hd ha hj i hij,Sort.partLoop_eq,h1]
  simp only [Option.bind_some]
  rw [pa5_eq hB hd ha (by omega) j hj]
  simp only [Option.bind_some]
  rw [if_pos (decide_eq_true (by omega)),if_pos (by omega)]
 | succ k ih=>
  intro i j m d hd hk hm hij hai hj
  cases m with
  | zero=>omega
  | succ m=>
  have hB':=hB
  unfold sB at hB
  rw [Zat,pa4_eq hB' hd ha hj i hij,Sort.partLoop_eq]
  simp only [Option.bind_some]
  have g1:=Sort.scanUp_ge (fun x=>Sort.ltInt x d[a]!) d j i
  generalize Sort.scanUp (fun x=>Sort.ltInt x d[a]!) d j i=i2 at g1 ⊢
  rw [pa5_eq hB' hd ha (by omega) j hj]
  simp only [Option.bind_some]
  have g2:=Sort.scanDown_le (fun x=>!Sort.ltInt x d[a]!) d i2 j
  generalize Sort.scanDown (fun x=>!Sort.ltInt x d[a]!) d i2 j=j2 at g2 ⊢
  by_cases h:i2 > j2
  ·rw [if_pos (decide_eq_true (by omega)),if_pos h]
  ·rw [if_neg (by simp; omega),if_neg h]
   obtain⟨y,hy⟩:=Zeu (i:=i2) (x:=d[j2]!) hd (show j2<n by omega)
   simp only [Z3 hd (show j2<n by omega),Z3 hd (show i2<n by omega),Option.bind_some,Int.toNat_natCast,hy,Ze0]
   obtain⟨j',rfl⟩:∃ j',j2=j' + 1:=⟨j2 - 1,by omega⟩
   rw [wsuc (by omega),wpred (by omega)]
   exact ih (i2 + 1) j' m _ (by rw [swp_sz,hd]) (by omega) (by omega) (by omega) (by omega) (by omega)
theorem pa1_eq {n a b p:Nat} (hB:n≤sB) {d:Array Int} (hd:d.size=n) (hb:b≤n) (hab:a<b) (i:Nat) (hi:i≤b - 1 + 2) :
  Zba n d.toList (a:Int) (b:Int) (p:Int) d[p]! d[a]! fuel (i:Int)=some ((Sort.scanUp (fun x=>Sort.ltInt x (Sort.swp d a p)[a]!) (Sort.swp d a p) (b - 1) i:Nat):Int):=by
 refine up_eq hB (d:=Sort.swp d a p) (fun x=>Sort.ltInt x (Sort.swp d a p)[a]!) (show b - 1<n by omega) (show a<n by omega) (fun m i hi=>?_) b i fuel (by omega) (by unfold sB at hB; unfold fuel; omega) hi
 unfold sB at hB hi
 have hd':(Sort.swp d a p).size=n:=by rw [swp_sz,hd]
 have e1:IntKind.wrap .i64 ((b:Int) - 1)=((b - 1:Nat):Int):=by rw [wi64 (by omega) (by omega)]; omega
 rw [Zba,e1]
 simp only [Int.toNat_natCast,Ze0]
 by_cases h:i≤b - 1
 ·rw [decide_eq_true (show (i:Int)≤((b - 1:Nat):Int) by omega)]
  simp only [Option.bind_some,if_true,Z3 hd' (show a<n by omega),Z3 hd' (show i<n by omega),Zfc,wsuc (show i + 1<1000000000000 by omega),h,true_and]
 ·rw [decide_eq_false (show ¬ (i:Int)≤((b - 1:Nat):Int) by omega)]
  simp [h]
theorem pa2_eq {n a p i:Nat} (hB:n≤sB) {d:Array Int} (hd:d.size=n) (ha:a<n) (hi:0<i) (j:Nat) (hj:j<n) :
  Zbb n d.toList (a:Int) (p:Int) d[p]! d[a]! (i:Int) fuel (j:Int)=some ((Sort.scanDown (fun x=>!Sort.ltInt x (Sort.swp d a p)[a]!) (Sort.swp d a p) i j:Nat):Int):=by
 refine Zt6 hi (n:=n) (d:=Sort.swp d a p) (fun x=>!Sort.ltInt x (Sort.swp d a p)[a]!) (fun m j hj=>?_) j fuel (by unfold sB at hB; unfold fuel; omega) hj
 unfold sB at hB
 have hd':(Sort.swp d a p).size=n:=by rw [swp_sz,hd]
 rw [Zbb]
 simp only [Int.toNat_natCast,Ze0]
 by_cases h:i≤j
 ·rw [decide_eq_true (show (i:Int)≤(j:Int) by omega)]
  simp only [Option.bind_some,if_true,Z3 hd' ha,Z3 hd' hj,Zfc,wi64 (show -9223372036854775808≤(j:Int) - 1 by omega) (show (j:Int) - 1<9223372036854775808 by omega),h,true_and]
 ·rw [decide_eq_false (show ¬ (i:Int)≤(j:Int) by omega)]
  simp [h]
theorem Zxi {n a:Nat}:∀(k i j:Nat) (d:Array Int),d.size=n→j + 1 - i≤k→(Sort.partLoop Sort.ltInt a i j d).2.size=n:=by
 intro k
 induction k with
 | zero=>
  intro i j d hd hk
  have h1:Sort.scanUp (fun x=>Sort.ltInt x d[a]!) d j i=i:=by rw [Sort.scanUp,if_neg (by simp; omega)]
  have h2:Sort.scanDown (fun x=>!Sort.ltInt x d[a]!) d i j≤j:=Sort.scanDown_le _ _ _ _
  rw [Sort.partLoop_eq,h1,if_pos (by omega)]; exact hd
 | succ k ih=>
  intro i j d hd hk
  rw [Sort.partLoop_eq]
  have g1:=Sort.scanUp_ge (fun x=>Sort.ltInt x d[a]!) d j i
  have g2:=Sort.scanDown_le (fun x=>!Sort.ltInt x d[a]!) d (Sort.scanUp (fun x=>Sort.ltInt x d[a]!) d j i) j
  split
  ·exact hd
  ·exact ih _ _ _ (by rw [swp_sz,hd]) (by omega)
theorem Zxj {a:Nat}:∀(k i j:Nat) (d:Array Int),j + 1 - i≤k→(Sort.partLoop Sort.ltInt a i j d).1≤j:=by
 intro k
 induction k with
 | zero=>
  intro i j d hk
  have h1:Sort.scanUp (fun x=>Sort.ltInt x d[a]!) d j i=i:=by rw [Sort.scanUp,if_neg (by simp; omega)]
  have h2:Sort.scanDown (fun x=>!Sort.ltInt x d[a]!) d i j≤j:=Sort.scanDown_le _ _ _ _
  rw [Sort.partLoop_eq,h1,if_pos (by omega)]; exact h2
 | succ k ih=>
  intro i j d hk
  rw [Sort.partLoop_eq]
  have g1:=Sort.scanUp_ge (fun x=>Sort.ltInt x d[a]!) d j i
  have g2:=Sort.scanDown_le (fun x=>!Sort.ltInt x d[a]!) d (Sort.scanUp (fun x=>Sort.ltInt x d[a]!) d j i) j
  split
  ·exact g2
  ·exact Nat.le_trans (ih _ _ _ (by omega)) (by omega)
theorem Zwj {n a b p:Nat} (hB:n≤sB) (hb:b≤n) (hp0:a≤p) (hp:p<b) {d:Array Int} (hd:d.size=n) :
  Zcf n d.toList (a:Int) (b:Int) (p:Int)=some (((Sort.partition Sort.ltInt d a b p).1:Int),(Sort.partition Sort.ltInt d a b p).2.1,(Sort.partition Sort.ltInt d a b p).2.2.toList):=by
 have hB':=hB
 unfold sB at hB
 have hd':(Sort.swp d a p).size=n:=by rw [swp_sz,hd]
 unfold Zcf Sort.partition
 obtain⟨y,hy⟩:=Zeu (i:=a) (x:=d[p]!) hd (show p<n by omega)
 have e1:IntKind.wrap .i64 ((b:Int) - 1)=((b - 1:Nat):Int):=by rw [wi64 (by omega) (by omega)]; omega
 simp only [Z3 hd (show p<n by omega),Z3 hd (show a<n by omega),Option.bind_some,Int.toNat_natCast,hy,Ze0]
 rw [wsuc (by omega),pa1_eq hB' hd hb (by omega) (a + 1) (by omega),e1]
 simp only [Option.bind_some]
 have g1:=Sort.scanUp_ge (fun x=>Sort.ltInt x (Sort.swp d a p)[a]!) (Sort.swp d a p) (b - 1) (a + 1)
 generalize Sort.scanUp (fun x=>Sort.ltInt x (Sort.swp d a p)[a]!) (Sort.swp d a p) (b - 1) (a + 1)=i at g1 ⊢
 rw [pa2_eq hB' hd (by omega) (by omega) (b - 1) (by omega)]
 simp only [Option.bind_some]
 have g2:=Sort.scanDown_le (fun x=>!Sort.ltInt x (Sort.swp d a p)[a]!) (Sort.swp d a p) i (b - 1)
 generalize Sort.scanDown (fun x=>!Sort.ltInt x (Sort.swp d a p)[a]!) (Sort.swp d a p) i (b - 1)=j at g2 ⊢
 by_cases h:i > j
 ·rw [if_pos (decide_eq_true (by omega)),if_pos h]
  obtain⟨y,hy⟩:=Zeu (i:=j) (x:=(Sort.swp d a p)[a]!) hd' (show a<n by omega)
  simp only [Z3 hd' (show j<n by omega),Z3 hd' (show a<n by omega),Option.bind_some,Int.toNat_natCast,hy,Ze0]
 ·rw [if_neg (by simp; omega),if_neg h]
  obtain⟨y,hy⟩:=Zeu (i:=i) (x:=(Sort.swp d a p)[j]!) hd' (show j<n by omega)
  simp only [Z3 hd' (show j<n by omega),Z3 hd' (show i<n by omega),Option.bind_some,Int.toNat_natCast,hy,Ze0]
  obtain⟨j',rfl⟩:∃ j',j=j' + 1:=⟨j - 1,by omega⟩
  have hd2:(Sort.swp (Sort.swp d a p) i (j' + 1)).size=n:=by rw [swp_sz,hd']
  rw [wsuc (by omega),wpred (by omega),pa3_eq hB' (by omega) (j' + 1 - (i + 1)) (i + 1) j' fuel _ hd2 (Nat.le_refl _) (by unfold fuel; omega) (by omega) (by omega) (by omega)]
  simp only [Option.bind_some,Nat.add_sub_cancel]
  have hz:=Zxi (a:=a) (j' + 1 - (i + 1)) (i + 1) j' _ hd2 (Nat.le_refl _)
  have hl:=Zxj (a:=a) (j' + 1 - (i + 1)) (i + 1) j' (Sort.swp (Sort.swp d a p) i (j' + 1)) (Nat.le_refl _)
  generalize Sort.partLoop Sort.ltInt a (i + 1) j' (Sort.swp (Sort.swp d a p) i (j' + 1))=r at hz hl ⊢
  obtain⟨r1,r2⟩:=r
  simp only at hz hl ⊢
  obtain⟨y,hy⟩:=Zeu (i:=r1) (x:=r2[a]!) hz (show a<n by omega)
  simp only [Z3 hz (show r1<n by omega),Z3 hz (show a<n by omega),Option.bind_some,Int.toNat_natCast,hy,Ze0]
end Go.AM
set_option maxRecDepth 100000
namespace Go.AM
open Go
theorem Zvl {n b:Nat} (hB:n≤sB) (hb:b≤n) {d:Array Int} (hd:d.size=n):∀(k i m:Nat),b - i≤k→k<m→0<i→i≤n + 1 →
  Z8 n (b:Int) d.toList m (i:Int)=some ((Sort.scanSorted Sort.ltInt d b i:Nat):Int):=by
 have hB':=hB
 unfold sB at hB
 intro k
 induction k with
 | zero=>
  intro i m hk hm h0 hi
  cases m with
  | zero=>omega
  | succ m=>
  rw [Z8,Sort.scanSorted,decide_eq_false (by omega),if_neg (show ¬ (decide (i<b) && !Sort.ltInt d[i]! d[i - 1]!)=true by simp; omega)]
  simp
 | succ k ih=>
  intro i m hk hm h0 hi
  cases m with
  | zero=>omega
  | succ m=>
  rw [Z8,Sort.scanSorted]
  by_cases h:i<b
  ·obtain⟨i',rfl⟩:∃ i',i=i' + 1:=⟨i - 1,by omega⟩
   rw [decide_eq_true (show ((i' + 1:Nat):Int)<(b:Int) by omega),decide_eq_true h]
   simp only [Option.bind_some,if_true,wpred (show i' + 1<1000000000000 by omega),Z3 hd (show i' + 1<n by omega),Z3 hd (show i'<n by omega),Zfc,Nat.add_sub_cancel,Bool.true_and]
   cases hl:Sort.ltInt d[i' + 1]! d[i']! with
   | true=>simp
   | false=>
    simp only [Bool.not_false,if_true,wsuc (show i' + 1 + 1<1000000000000 by omega)]
    exact ih (i' + 1 + 1) m (by omega) (by omega) (by omega) (by omega)
  ·rw [decide_eq_false (show ¬ (i:Int)<(b:Int) by omega),decide_eq_false h]
   simp
theorem Zt7 {d:Array Int} {b:Nat}:∀(k i:Nat),b - i≤k→i≤Sort.scanSorted Sort.ltInt d b i∧(i≤b→Sort.scanSorted Sort.ltInt d b i≤b):=by
 intro k
 induction k with
 | zero=>intro i hk; rw [Sort.scanSorted,if_neg (by simp; omega)]; omega
 | succ k ih=>
  intro i hk
  rw [Sort.scanSorted]
  split
  ·rename_i h
   simp only [Bool.and_eq_true,decide_eq_true_eq] at h
   have:=ih (i + 1) (by omega)
   omega
  ·omega
theorem Zpv {n:Nat} (hB:n≤sB):∀(j m:Nat) (d:Array Int),d.size=n→j<n→j<m →
  Z4 n m d.toList (j:Int)=some (Sort.shiftDown Sort.ltInt j d).toList
 | 0,m + 1,d,hd,hj,hm=>by
  rw [Z4,if_neg (by simp)]; rfl
 | j + 1,m + 1,d,hd,hj,hm=>by
  have ih:=Zpv hB j m
  unfold sB at hB
  obtain⟨y,hy⟩:=Zeu (i:=j + 1) (x:=d[j]!) hd (show j<n by omega)
  rw [Z4,Sort.shiftDown,if_pos (decide_eq_true (by omega))]
  simp only [wpred (show j + 1<1000000000000 by omega),Z3 hd hj,Z3 hd (show j<n by omega),Option.bind_some,Zfc,Int.toNat_natCast,hy,Ze0]
  cases hl:Sort.ltInt d[j + 1]! d[j]! with
  | false=>rfl
  | true=>
   simp only [Bool.not_true,Bool.false_eq_true,if_false]
   exact ih _ (by rw [swp_sz,hd]) (by omega) (by omega)
theorem Zj3 {n:Nat}:∀(j:Nat) (d:Array Int),d.size=n→(Sort.shiftDown Sort.ltInt j d).size=n
 | 0,_,hd=>hd
 | j + 1,d,hd=>by
  rw [Sort.shiftDown]
  split
  ·exact hd
  ·exact Zj3 j _ (by rw [swp_sz,hd])
theorem Zys {n b:Nat} (hB:n≤sB) (hb:b≤n):∀(k j m:Nat) (d:Array Int),d.size=n→b - j≤k→k<m→0<j→j≤n + 1 →
  Z9 n (b:Int) m d.toList (j:Int)=some (Sort.shiftUp Sort.ltInt b j d).toList:=by
 have hB':=hB
 unfold sB at hB
 intro k
 induction k with
 | zero=>
  intro j m d hd hk hm h0 hj
  cases m with
  | zero=>omega
  | succ m=>rw [Z9,Sort.shiftUp,if_neg (by simp; omega),if_neg (by omega)]
 | succ k ih=>
  intro j m d hd hk hm h0 hj
  cases m with
  | zero=>omega
  | succ m=>
  rw [Z9,Sort.shiftUp]
  by_cases h:j<b
  ·rw [if_pos (decide_eq_true (by omega)),if_pos h]
   obtain⟨j',rfl⟩:∃ j',j=j' + 1:=⟨j - 1,by omega⟩
   obtain⟨y,hy⟩:=Zeu (i:=j' + 1) (x:=d[j']!) hd (show j'<n by omega)
   simp only [wpred (show j' + 1<1000000000000 by omega),Z3 hd (show j' + 1<n by omega),Z3 hd (show j'<n by omega),Option.bind_some,Zfc,Int.toNat_natCast,hy,Ze0,Nat.add_sub_cancel]
   cases hl:Sort.ltInt d[j' + 1]! d[j']! with
   | false=>rfl
   | true=>
    simp only [Bool.not_true,Bool.false_eq_true,if_false,wsuc (show j' + 1 + 1<1000000000000 by omega)]
    exact ih (j' + 1 + 1) m _ (by rw [swp_sz,hd]) (by omega) (by omega) (by omega) (by omega)
  ·rw [if_neg (by simp; omega),if_neg h]
theorem Zs9 {n b:Nat}:∀(k j:Nat) (d:Array Int),d.size=n→b - j≤k→(Sort.shiftUp Sort.ltInt b j d).size=n:=by
 intro k
 induction k with
 | zero=>intro j d hd hk; rw [Sort.shiftUp,if_neg (by omega)]; exact hd
 | succ k ih=>
  intro j d hd hk
  rw [Sort.shiftUp]
  split
  ·split
   ·exact hd
   ·exact ih _ _ (by rw [swp_sz,hd]) (by omega)
  ·exact hd
def outP (r:Array Int × Bool) (o:List Int ⊕ (Bool × List Int)):Prop:=(o=.inl r.1.toList∧r.2=false)∨o=.inr (r.2,r.1.toList)
theorem Zoi {n a b:Nat} (hB:n≤sB) (hb:b≤n) (hab:a<b):∀(s c i m:Nat) (d:Array Int),d.size=n→c + s=5→s<m→a<i→i≤b →
  Ok (Zaa n (a:Int) (b:Int) m d.toList (i:Int) (c:Int)) (outP (Sort.partialIns Sort.ltInt a b s i d))
 | 0,c,i,m + 1,d,hd,hc,hm,hai,hi=>by
  rw [Zaa,if_neg (by simp; omega)]
  exact⟨_,rfl,Or.inl ⟨rfl,rfl⟩⟩
 | s + 1,c,i,m + 1,d,hd,hc,hm,hai,hi=>by
  have ih:=Zoi hB hb hab s (c + 1)
  have hB':=hB
  unfold sB at hB
  rw [Zaa,if_pos (decide_eq_true (by omega)),Zvl hB' hb hd (b - i) i fuel (Nat.le_refl _) (by unfold fuel; omega) (by omega) (by omega),Sort.partialIns]
  obtain⟨g1,g2⟩:=Zt7 (d:=d) (b - i) i (Nat.le_refl _)
  have g2:=g2 hi
  generalize Sort.scanSorted Sort.ltInt d b i=j at g1 g2 ⊢
  simp only [Option.bind_some]
  by_cases h1:j=b
  ·rw [if_pos (by simp [h1]),if_pos h1]
   exact⟨_,rfl,Or.inr rfl⟩
  ·rw [if_neg (by simp; omega),if_neg h1,wsub (by omega) (by omega)]
   by_cases h2:b - a<50
   ·rw [if_pos (decide_eq_true (by omega)),if_pos h2]
    exact⟨_,rfl,Or.inr rfl⟩
   ·rw [if_neg (by simp; omega),if_neg h2]
    obtain⟨j',rfl⟩:∃ j',j=j' + 1:=⟨j - 1,by omega⟩
    obtain⟨y,hy⟩:=Zeu (i:=j' + 1) (x:=d[j']!) hd (show j'<n by omega)
    simp only [wpred (show j' + 1<1000000000000 by omega),Z3 hd (show j' + 1<n by omega),Z3 hd (show j'<n by omega),Option.bind_some,Int.toNat_natCast,hy,Ze0,Nat.add_sub_cancel]
    rw [wsub (i:=j' + 1) (j:=a) (by omega) (by omega),wsub (i:=b) (j:=j' + 1) (by omega) (by omega)]
    have hd2:(Sort.swp d (j' + 1) j').size=n:=by rw [swp_sz,hd]
    generalize Sort.swp d (j' + 1) j'=d2 at hd2 ⊢
    have e3:(if (decide (((j' + 1 - a:Nat):Int) ≥ 2))=true then (Z4 n fuel d2.toList (j':Int)).bind fun(v1191:(List Int))=>some v1191 else some d2.toList)=some (if j' + 1 - a ≥ 2 then Sort.shiftDown Sort.ltInt j' d2 else d2).toList:=by
     by_cases h3:j' + 1 - a ≥ 2
     ·rw [if_pos (decide_eq_true (by omega)),if_pos h3,Zpv hB' j' fuel d2 hd2 (by omega) (by unfold fuel; omega)]; rfl
     ·rw [if_neg (by simp; omega),if_neg h3]
    rw [e3]
    have hd3:(if j' + 1 - a ≥ 2 then Sort.shiftDown Sort.ltInt j' d2 else d2).size=n:=by
     split
     ·exact Zj3 _ _ hd2
     ·exact hd2
    generalize (if j' + 1 - a ≥ 2 then Sort.shiftDown Sort.ltInt j' d2 else d2)=d3 at hd3 ⊢
    simp only [Option.bind_some]
    rw [wsuc (j:=j' + 1) (by omega),wsuc (j:=c) (by omega)]
    by_cases h4:b - (j' + 1) ≥ 2
    ·rw [if_pos (decide_eq_true (by omega)),if_pos h4,Zys hB' hb (b - (j' + 1 + 1)) (j' + 1 + 1) fuel d3 hd3 (Nat.le_refl _) (by unfold fuel; omega) (by omega) (by omega)]
     simp only [Option.bind_some]
     exact ih (j' + 1) m _ (Zs9 _ _ _ hd3 (Nat.le_refl _)) (by omega) (by omega) (by omega) (by omega)
    ·rw [if_neg (by simp; omega),if_neg h4]
     simp only [Option.bind_some]
     exact ih (j' + 1) m _ hd3 (by omega) (by omega) (by omega) (by omega)
theorem Zl7 {n a b:Nat} (hB:n≤sB) (hb:b≤n) (hab:a<b) {d:Array Int} (hd:d.size=n) :
  Zam n d.toList (a:Int) (b:Int)=some ((Sort.partialInsertionSort Sort.ltInt d a b).2,(Sort.partialInsertionSort Sort.ltInt d a b).1.toList):=by
 unfold Zam Sort.partialInsertionSort
 have hB':=hB
 unfold sB at hB
 rw [wsuc (by omega)]
 obtain⟨o,e,ho⟩:=Zoi hB' hb hab 5 0 (a + 1) fuel d hd rfl (by unfold fuel; omega) (by omega) (by omega)
 rw [show ((0:Nat):Int)=0 from rfl] at e
 rw [e]
 rcases ho with ⟨rfl,h⟩ | rfl
 ·simp only [Option.bind_some,h]
 ·rfl
theorem Zpw {n a b s:Nat} {d:Array Int} (hd:d.size=n) (ha:a<n) (hb:b<n) (hs:s<1000):Zbi n d.toList (a:Int) (b:Int) (s:Int)=some (((Sort.order2 Sort.ltInt d a b s).1:Int),((Sort.order2 Sort.ltInt d a b s).2.1:Int),((Sort.order2 Sort.ltInt d a b s).2.2:Int)):=by
 unfold Zbi Sort.order2
 simp only [Z3 hd ha,Z3 hd hb,Option.bind_some,Zfc,wsuc (show s + 1<1000000000000 by omega)]
 split <;> rfl
theorem Zj4 {n a b s:Nat} {d:Array Int} (ha:a<n) (hb:b<n):(Sort.order2 Sort.ltInt d a b s).1<n∧(Sort.order2 Sort.ltInt d a b s).2.1<n∧(Sort.order2 Sort.ltInt d a b s).2.2≤s + 1:=by
 unfold Sort.order2
 split
 ·exact⟨hb,ha,by simp⟩
 ·exact⟨ha,hb,by simp⟩
theorem Zpx {n a b c s:Nat} {d:Array Int} (hd:d.size=n) (ha:a<n) (hb:b<n) (hc:c<n) (hs:s<900):Zb0 n d.toList (a:Int) (b:Int) (c:Int) (s:Int)=some (((Sort.median Sort.ltInt d a b c s).1:Int),((Sort.median Sort.ltInt d a b c s).2:Int)):=by
 unfold Zb0 Sort.median
 obtain⟨g1,g2,g3⟩:=Zj4 (s:=s) (d:=d) ha hb
 rw [Zpw hd ha hb (by omega)]
 simp only [Option.bind_some]
 obtain⟨h1,h2,h3⟩:=Zj4 (s:=(Sort.order2 Sort.ltInt d a b s).2.2) (d:=d) g2 hc
 rw [Zpw hd g2 hc (by omega)]
 simp only [Option.bind_some]
 rw [Zpw hd g1 h1 (by omega)]
 rfl
theorem Zyt {n a b c s:Nat} {d:Array Int} (ha:a<n) (hb:b<n) (hc:c<n):(Sort.median Sort.ltInt d a b c s).1<n∧(Sort.median Sort.ltInt d a b c s).2≤s + 3:=by
 unfold Sort.median
 obtain⟨g1,g2,g3⟩:=Zj4 (s:=s) (d:=d) ha hb
 obtain⟨h1,h2,h3⟩:=Zj4 (s:=(Sort.order2 Sort.ltInt d a b s).2.2) (d:=d) g2 hc
 obtain⟨k1,k2,k3⟩:=Zj4 (s:=(Sort.order2 Sort.ltInt d (Sort.order2 Sort.ltInt d a b s).2.1 c (Sort.order2 Sort.ltInt d a b s).2.2).2.2) (d:=d) g1 h1
 exact⟨k2,Nat.le_trans k3 (by omega)⟩
theorem Zi2 {n a s:Nat} (hB:n≤sB) {d:Array Int} (hd:d.size=n) (h0:0<a) (ha:a + 1<n) (hs:s<900):Zap n d.toList (a:Int) (s:Int)=some (((Sort.medianAdjacent Sort.ltInt d a s).1:Int),((Sort.medianAdjacent Sort.ltInt d a s).2:Int)):=by
 unfold sB at hB
 unfold Zap Sort.medianAdjacent
 obtain⟨a',rfl⟩:∃ a',a=a' + 1:=⟨a - 1,by omega⟩
 rw [wpred (by omega),wsuc (by omega),Zpx hd (by omega) (by omega) ha hs]
 rfl
theorem Zij {n a s:Nat} {d:Array Int} (ha:a + 1<n):(Sort.medianAdjacent Sort.ltInt d a s).1<n∧(Sort.medianAdjacent Sort.ltInt d a s).2≤s + 3:=by
 unfold Sort.medianAdjacent
 exact Zyt (by omega) (by omega) ha
def hintN:Sort.Hint→Int
 | .unknown=>0
 | .increasing=>1
 | .decreasing=>2
theorem Zt8 {n a b:Nat} (hB:n≤sB) (hab:a<b) (hb:b≤n) {d:Array Int} (hd:d.size=n) :
  Zbz n d.toList (a:Int) (b:Int)=some (((Sort.choosePivot Sort.ltInt d a b).1:Int),hintN (Sort.choosePivot Sort.ltInt d a b).2):=by
 have hB':=hB
 unfold sB at hB
 unfold Zbz
 have ew:IntKind.wrap .i64 ((b:Int) - (a:Int))=((b - a:Nat):Int):=wsub (by omega) (by omega)
 have eq4:IntKind.wrap .i64 (Int.tdiv ((b - a:Nat):Int) (4:Int))=(((b - a) / 4:Nat):Int):=by
  rw [Int.tdiv_eq_ediv_of_nonneg (by omega),wi64 (by omega) (by omega)]; omega
 have ep:∀ k:Nat,k≤3→IntKind.wrap .i64 ((a:Int) + IntKind.wrap .i64 ((((b - a) / 4:Nat):Int) * (k:Int)))=((a + (b - a) / 4 * k:Nat):Int):=fun k hk=>by
  have h1:(b - a) / 4 * k≤(b - a) / 4 * 3:=Nat.mul_le_mul_left _ hk
  have e2:(((b - a) / 4:Nat):Int) * (k:Int)=(((b - a) / 4 * k:Nat):Int):=by push_cast; rfl
  rw [e2,wi64 (x:=(((b - a) / 4 * k:Nat):Int)) (by omega) (by omega),wadd (by omega)]
 have e1:=ep 1 (by omega)
 have e2:=ep 2 (by omega)
 have e3:=ep 3 (by omega)
 rw [show ((1:Nat):Int)=1 from rfl] at e1
 rw [show ((2:Nat):Int)=2 from rfl] at e2
 rw [show ((3:Nat):Int)=3 from rfl] at e3
 rw [ew,eq4,e1,e2,e3]
 have fin:∀(r:Nat × Nat),(match ((r.2:Int),(r.1:Int)) with
   | (v24,v25)=>if (v24 == (0:Int))=true then some (v25,(1:Int)) else if (v24 == (12:Int))=true then some (v25,(2:Int)) else some (v25,(0:Int))) =
   some ((r.1:Int),hintN (if r.2=0 then .increasing else if r.2=12 then .decreasing else .unknown)):=fun r=>by
  simp only [beq_iff_eq]
  by_cases h0:r.2=0
  ·rw [if_pos (by omega),if_pos h0]; rfl
  ·rw [if_neg (by omega),if_neg h0]
   by_cases h1:r.2=12
   ·rw [if_pos (by omega),if_pos h1]; rfl
   ·rw [if_neg (by omega),if_neg h1]; rfl
 unfold Sort.choosePivot
 simp only
 by_cases h8:b - a ≥ 8
 ·rw [if_pos (decide_eq_true (show ((b - a:Nat):Int) ≥ 8 by omega)),if_pos h8]
  by_cases h50:b - a ≥ 50
  ·rw [if_pos (decide_eq_true (show ((b - a:Nat):Int) ≥ 50 by omega)),if_pos h50]
   have l1:a + (b - a) / 4 * 3 + 1<n:=by omega
   rw [show (0:Int)=((0:Nat):Int) from rfl]
   rw [Zi2 hB' hd (by omega) (by omega) (by omega)]
   obtain⟨p1,p2⟩:=Zij (n:=n) (a:=a + (b - a) / 4 * 1) (s:=0) (d:=d) (by omega)
   simp only [Option.bind_some]
   rw [Zi2 hB' hd (by omega) (by omega) (by omega)]
   obtain⟨q1,q2⟩:=Zij (n:=n) (a:=a + (b - a) / 4 * 2) (s:=(Sort.medianAdjacent Sort.ltInt d (a + (b - a) / 4 * 1) 0).2) (d:=d) (by omega)
   simp only [Option.bind_some]
   rw [Zi2 hB' hd (by omega) (by omega) (by omega)]
   obtain⟨s1,s2⟩:=Zij (n:=n) (a:=a + (b - a) / 4 * 3) (s:=(Sort.medianAdjacent Sort.ltInt d (a + (b - a) / 4 * 2) (Sort.medianAdjacent Sort.ltInt d (a + (b - a) / 4 * 1) 0).2).2) (d:=d) (by omega)
   simp only [Option.bind_some]
   rw [Zpx hd p1 q1 s1 (by omega)]
   simp only [Option.bind_some]
   exact fin _
  ·rw [if_neg (by simp; omega),if_neg h50]
   rw [show (0:Int)=((0:Nat):Int) from rfl]
   simp only [Option.bind_some]
   rw [Zpx hd (by omega) (by omega) (by omega) (by omega)]
   simp only [Option.bind_some]
   exact fin _
 ·rw [if_neg (by simp; omega),if_neg h8]
  simp only [Option.bind_some]
  exact fin (a + (b - a) / 4 * 2,0)
end Go.AM
set_option maxRecDepth 100000
namespace Go.AM
open Go
theorem Zm4 {x:Nat} (h:256≤x):Sort.bitsLen x=Sort.bitsLen (x / 256) + 8:=by
 have h1:∀ m,Sort.bitsLen x≤m + 8 ↔ Sort.bitsLen (x / 256)≤m:=fun m=>by
  rw [Sort.bitsLen_le_iff,Sort.bitsLen_le_iff,Nat.pow_add]
  have:0<2 ^ m:=Nat.pow_pos (by omega)
  omega
 have h2:=(h1 (Sort.bitsLen (x / 256))).2 (Nat.le_refl _)
 have h3:¬ Sort.bitsLen x≤8:=by rw [Sort.bitsLen_le_iff]; omega
 have h4:=(h1 (Sort.bitsLen x - 8)).1 (by omega)
 omega
theorem Zrr (x k:Nat) (hk:k≤64):bShr .u64 (x:Int) (k:Int)=((x / 2 ^ k:Nat):Int):=by
 unfold bShr
 rw [Int.toNat_natCast,show min k (IntKind.bits .u64)=k from Nat.min_eq_left hk,Int.fdiv_eq_ediv_of_nonneg _ (by exact Int.le_of_lt (by exact Int.pow_pos (by decide)))]
 push_cast; rfl
def len8:ByteArray:=⟨#[0,1,2,2,3,3,3,3,4,4,4,4,4,4,4,4,5,5,5,5,5,5,5,5,5,5,5,5,5,5,5,5,6,6,6,6,6,6,6,6,6,6,6,6,6,6,6,6,6,6,6,6,6,6,6,6,6,6,6,6,6,6,6,6,7,7,7,7,7,7,7,7,7,7,7,7,7,7,7,7,7,7,7,7,7,7,7,7,7,7,7,7,7,7,7,7,7,7,7,7,7,7,7,7,7,7,7,7,7,7,7,7,7,7,7,7,7,7,7,7,7,7,7,7,7,7,7,7,8,8,8,8,8,8,8,8,8,8,8,8,8,8,8,8,8,8,8,8,8,8,8,8,8,8,8,8,8,8,8,8,8,8,8,8,8,8,8,8,8,8,8,8,8,8,8,8,8,8,8,8,8,8,8,8,8,8,8,8,8,8,8,8,8,8,8,8,8,8,8,8,8,8,8,8,8,8,8,8,8,8,8,8,8,8,8,8,8,8,8,8,8,8,8,8,8,8,8,8,8,8,8,8,8,8,8,8,8,8,8,8,8,8,8,8,8,8,8,8,8,8,8,8,8,8,8,8]⟩
theorem Z0b:(List.range 256).map (fun i=>len8.data[i]?.map (·.toNat))=(List.range 256).map (fun i=>some (Sort.bitsLen i)):=by kernel_rfl
theorem Zt9 {i:Nat} (h:i<256):sidx ⟨#[0,1,2,2,3,3,3,3,4,4,4,4,4,4,4,4,5,5,5,5,5,5,5,5,5,5,5,5,5,5,5,5,6,6,6,6,6,6,6,6,6,6,6,6,6,6,6,6,6,6,6,6,6,6,6,6,6,6,6,6,6,6,6,6,7,7,7,7,7,7,7,7,7,7,7,7,7,7,7,7,7,7,7,7,7,7,7,7,7,7,7,7,7,7,7,7,7,7,7,7,7,7,7,7,7,7,7,7,7,7,7,7,7,7,7,7,7,7,7,7,7,7,7,7,7,7,7,7,8,8,8,8,8,8,8,8,8,8,8,8,8,8,8,8,8,8,8,8,8,8,8,8,8,8,8,8,8,8,8,8,8,8,8,8,8,8,8,8,8,8,8,8,8,8,8,8,8,8,8,8,8,8,8,8,8,8,8,8,8,8,8,8,8,8,8,8,8,8,8,8,8,8,8,8,8,8,8,8,8,8,8,8,8,8,8,8,8,8,8,8,8,8,8,8,8,8,8,8,8,8,8,8,8,8,8,8,8,8,8,8,8,8,8,8,8,8,8,8,8,8,8,8,8,8,8,8]⟩ (i:Int)=some ((Sort.bitsLen i:Nat):Int):=by
 have h1:len8.data[i]?.map (·.toNat)=some (Sort.bitsLen i):=List.map_inj_left.1 Z0b i (List.mem_range.2 h)
 have hs:len8.size=256:=by kernel_rfl
 have h2:i<len8.data.size:=by show i<len8.size; omega
 rw [Array.getElem?_eq_getElem h2] at h1
 simp only [Option.map_some,Option.some.injEq] at h1
 show sidx len8 (i:Int)=_
 unfold sidx
 rw [dif_pos ⟨by omega,by omega⟩,← h1]
 rfl
theorem Len_eq {x:Nat} (h:x<16777216):Zfz (x:Int)=some ((Sort.bitsLen x:Nat):Int):=by
 have w8:∀ y:Nat,y<256→IntKind.wrap .u8 (y:Int)=(y:Int):=fun y hy=>by rw [wrap_u .u8 8 rfl rfl]; omega
 have hb:∀ y:Nat,y<256→Sort.bitsLen y≤8:=fun y hy=>(Sort.bitsLen_le_iff y 8).2 (by omega)
 unfold Zfz Zhj
 rw [if_neg (by simp; omega)]
 simp only [Option.bind_some]
 have e16:bShr .u64 (x:Int) (16:Int)=((x / 65536:Nat):Int):=Zrr x 16 (by omega)
 have e8:bShr .u64 (x:Int) (8:Int)=((x / 256:Nat):Int):=Zrr x 8 (by omega)
 by_cases h1:x<65536
 ·rw [if_neg (show ¬ (decide ((x:Int) ≥ 65536))=true by simp; omega)]
  simp only [Option.bind_some]
  by_cases h2:x<256
  ·rw [if_neg (show ¬ (decide ((x:Int) ≥ 256))=true by simp; omega)]
   simp only [Option.bind_some]
   rw [w8 x h2,Zt9 h2]
   have:=hb x h2
   simp only [Option.bind_some]
   rw [wi64 (x:=((Sort.bitsLen x:Nat):Int)) (by omega) (by omega),wi64 (by omega) (by omega),Int.zero_add]
  ·rw [if_pos (decide_eq_true (show (x:Int) ≥ 256 by omega)),e8]
   simp only [Option.bind_some]
   have h3:x / 256<256:=by omega
   rw [w8 _ h3,Zt9 h3,Zm4 (show 256≤x by omega)]
   have:=hb _ h3
   simp only [Option.bind_some]
   rw [wi64 (x:=((Sort.bitsLen (x / 256):Nat):Int)) (by omega) (by omega),wi64 (x:=(0:Int) + 8) (by omega) (by omega),wi64 (by omega) (by omega)]
   congr 1; omega
 ·rw [if_pos (decide_eq_true (show (x:Int) ≥ 65536 by omega)),e16]
  simp only [Option.bind_some]
  have h3:x / 65536<256:=by omega
  rw [if_neg (show ¬ (decide (((x / 65536:Nat):Int) ≥ 256))=true by simp; omega)]
  simp only [Option.bind_some]
  rw [w8 _ h3,Zt9 h3,Zm4 (show 256≤x by omega),Zm4 (show 256≤x / 256 by omega),Nat.div_div_eq_div_mul]
  have:=hb _ h3
  simp only [Option.bind_some]
  rw [wi64 (x:=((Sort.bitsLen (x / 65536):Nat):Int)) (by omega) (by omega),wi64 (x:=(0:Int) + 16) (by omega) (by omega),wi64 (by omega) (by omega)]
  congr 1
  show _=((Sort.bitsLen (x / 65536) + 8 + 8:Nat):Int)
  omega
theorem Zrs {x y:Nat} (hx:x<2 ^ 64) (hy:y<2 ^ 64):bXor .u64 (x:Int) (y:Int)=((x ^^^ y:Nat):Int):=by
 have h:=Nat.xor_lt_two_pow hx hy
 unfold bXor
 have e:(BitVec.ofInt (IntKind.bits .u64) (x:Int) ^^^ BitVec.ofInt (IntKind.bits .u64) (y:Int)).toNat=x ^^^ y:=by
  rw [BitVec.ofInt_natCast,BitVec.ofInt_natCast]
  show (BitVec.ofNat 64 x ^^^ BitVec.ofNat 64 y).toNat=_
  rw [BitVec.toNat_xor,BitVec.toNat_ofNat,BitVec.toNat_ofNat,Nat.mod_eq_of_lt hx,Nat.mod_eq_of_lt hy]
 rw [e,wu64 (by omega) (by omega)]
theorem Z0c {x y:Nat} (hx:x<2 ^ 64) (hy:y<2 ^ 64):bAnd .u64 (x:Int) (y:Int)=((x &&& y:Nat):Int):=by
 have h:x &&& y<2 ^ 64:=Nat.and_lt_two_pow x hy
 unfold bAnd
 have e:(BitVec.ofInt (IntKind.bits .u64) (x:Int) &&& BitVec.ofInt (IntKind.bits .u64) (y:Int)).toNat=x &&& y:=by
  rw [BitVec.ofInt_natCast,BitVec.ofInt_natCast]
  show (BitVec.ofNat 64 x &&& BitVec.ofNat 64 y).toNat=_
  rw [BitVec.toNat_and,BitVec.toNat_ofNat,BitVec.toNat_ofNat,Nat.mod_eq_of_lt hx,Nat.mod_eq_of_lt hy]
 rw [e,wu64 (by omega) (by omega)]
theorem Zwk (x k:Nat) (hk:k≤64):bShl .u64 (x:Int) (k:Int)=((x * 2 ^ k % 2 ^ 64:Nat):Int):=by
 unfold bShl
 rw [Int.toNat_natCast,show min k (IntKind.bits .u64)=k from Nat.min_eq_left hk,wrap_u .u64 64 rfl rfl]
 rw [Int.natCast_emod,Int.natCast_mul,Int.natCast_pow,Int.natCast_pow]; rfl
theorem Zzg {x:Nat} (hx:x<2 ^ 64):Zep (x:Int)=some (((Sort.xorNextN x:Nat):Int),((Sort.xorNextN x:Nat):Int)):=by
 unfold Zep
 have a1:bShl .u64 (x:Int) (13:Int)=((x * 8192 % 18446744073709551616:Nat):Int):=Zwk x 13 (by omega)
 have l1:x * 8192 % 18446744073709551616<2 ^ 64:=by omega
 rw [a1,Zrs hx l1]
 obtain⟨a,ha⟩:∃ a,a=x ^^^ (x * 8192 % 18446744073709551616):=⟨_,rfl⟩
 have l2:a<2 ^ 64:=by rw [ha]; exact Nat.xor_lt_two_pow hx l1
 rw [← ha]
 have a2:bShr .u64 (a:Int) (7:Int)=((a / 128:Nat):Int):=Zrr a 7 (by omega)
 have l3:a / 128<2 ^ 64:=by omega
 rw [a2,Zrs l2 l3]
 obtain⟨b,hb⟩:∃ b,b=a ^^^ (a / 128):=⟨_,rfl⟩
 have l4:b<2 ^ 64:=by rw [hb]; exact Nat.xor_lt_two_pow l2 l3
 rw [← hb]
 have a3:bShl .u64 (b:Int) (17:Int)=((b * 131072 % 18446744073709551616:Nat):Int):=Zwk b 17 (by omega)
 rw [a3,Zrs l4 (by omega)]
 have e:Sort.xorNextN x=b ^^^ (b * 131072 % 18446744073709551616):=by rw [hb,ha]; rfl
 rw [e]
theorem Z0d {a l m idx:Nat} {st:UInt64 × Array Int} {n:Nat} (h:st.2.size=n):(Sort.breakStep a l m st idx).2.size=n:=by
 unfold Sort.breakStep; simp only; rw [swp_sz,h]
theorem Zzh {n a b:Nat} (hB:n≤sB) (hb:b≤n) (h8:b - a ≥ 8) {m idx:Nat} {st:UInt64 × Array Int} (hd:st.2.size=n) (h1:a≤idx) (h2:idx<b) (hc:idx≤a + (b - a) / 4 * 2 + 1) :
  Zw n (a:Int) (b:Int) ((1 <<< Sort.bitsLen (b - a):Nat):Int) (m + 1) st.2.toList ((st.1.toNat:Nat):Int) (idx:Int) =
  Zw n (a:Int) (b:Int) ((1 <<< Sort.bitsLen (b - a):Nat):Int) m (Sort.breakStep a (b - a) (1 <<< Sort.bitsLen (b - a)) st idx).2.toList (((Sort.breakStep a (b - a) (1 <<< Sort.bitsLen (b - a)) st idx).1.toNat:Nat):Int) ((idx + 1:Nat):Int):=by
 have hB':=hB
 unfold sB at hB
 obtain⟨r,d⟩:=st
 simp only at hd ⊢
 have hp:2 ^ Sort.bitsLen (b - a)≤2 * (b - a):=Sort.two_pow_bitsLen_le (by omega)
 have hp0:0<2 ^ Sort.bitsLen (b - a):=Nat.pow_pos (by omega)
 rw [Zw]
 have ew:IntKind.wrap .i64 ((b:Int) - (a:Int))=((b - a:Nat):Int):=wsub (by omega) (by omega)
 have eq4:IntKind.wrap .i64 (Int.tdiv ((b - a:Nat):Int) (4:Int))=(((b - a) / 4:Nat):Int):=by
  rw [Int.tdiv_eq_ediv_of_nonneg (by omega),wi64 (by omega) (by omega)]; omega
 have e5:IntKind.wrap .i64 (IntKind.wrap .i64 ((a:Int) + IntKind.wrap .i64 ((((b - a) / 4:Nat):Int) * (2:Int))) + 1)=((a + (b - a) / 4 * 2 + 1:Nat):Int):=by
  rw [wi64 (x:=(((b - a) / 4:Nat):Int) * 2) (by omega) (by omega),wi64 (x:=(a:Int) + (((b - a) / 4:Nat):Int) * 2) (by omega) (by omega),wi64 (by omega) (by omega)]; omega
 rw [ew,eq4,e5,if_pos (decide_eq_true (by omega)),Zzg (UInt64.toNat_lt r)]
 simp only [Option.bind_some]
 have hx:=Sort.xorNext_toNat r
 have hxl:=Sort.xorNextN_lt r.toNat (UInt64.toNat_lt r)
 unfold Sort.breakStep
 simp only
 rw [hx]
 rw [Nat.shiftLeft_eq,Nat.one_mul] at *
 generalize Sort.xorNextN r.toNat=x at hxl ⊢
 have em:IntKind.wrap .u64 (((2 ^ Sort.bitsLen (b - a):Nat):Int) - 1)=((2 ^ Sort.bitsLen (b - a) - 1:Nat):Int):=by
  rw [wu64 (by omega) (by omega)]; omega
 rw [em,Z0c hxl (by omega)]
 have ha:x &&& (2 ^ Sort.bitsLen (b - a) - 1)≤2 ^ Sort.bitsLen (b - a) - 1:=Nat.and_le_right
 generalize x &&& (2 ^ Sort.bitsLen (b - a) - 1)=o at ha ⊢
 rw [wi64 (x:=(o:Int)) (by omega) (by omega)]
 have eo:(if (decide ((o:Int) ≥ ((b - a:Nat):Int)))=true then some (IntKind.wrap .i64 ((o:Int) - ((b - a:Nat):Int))) else some (o:Int))=some ((if o ≥ b - a then o - (b - a) else o:Nat):Int):=by
  by_cases h:o ≥ b - a
  ·rw [if_pos (decide_eq_true (by omega)),if_pos h,wsub (by omega) h]
  ·rw [if_neg (by simp; omega),if_neg h]
 rw [eo]
 have ho:(if o ≥ b - a then o - (b - a) else o)<b - a:=by split <;> omega
 generalize (if o ≥ b - a then o - (b - a) else o)=q at ho ⊢
 simp only [Option.bind_some]
 rw [wadd (by omega)]
 obtain⟨y,hy⟩:=Zeu (i:=idx) (x:=d[a + q]!) hd (show a + q<n by omega)
 simp only [Z3 hd (show a + q<n by omega),Z3 hd (show idx<n by omega),Option.bind_some,Int.toNat_natCast,hy,Ze0]
 rw [wsuc (by omega)]
theorem Zzi {n a b:Nat} (hB:n≤sB) (hb:b≤n) (h8:b - a ≥ 8) {m idx:Nat} {st:UInt64 × Array Int} (hd:st.2.size=n) (hi:idx + 1=a + (b - a) / 4 * 2) (g:Nat→UInt64 × Array Int→UInt64 × Array Int) (hg:g=fun i s=>Sort.breakStep a (b - a) (1 <<< Sort.bitsLen (b - a)) s i) :
  ∃ z,Zw n (a:Int) (b:Int) ((1 <<< Sort.bitsLen (b - a):Nat):Int) (m + 1 + 1 + 1 + 1) st.2.toList ((st.1.toNat:Nat):Int) (idx:Int)=some ((g (idx + 2) (g (idx + 1) (g idx st))).2.toList,z):=by
 have hB':=hB
 unfold sB at hB
 have z:∀ i s,s.2.size=n→(g i s).2.size=n:=fun i s h=>by rw [hg]; exact Z0d h
 have st1:∀ m i s,s.2.size=n→a≤i→i<b→i≤a + (b - a) / 4 * 2 + 1→Zw n (a:Int) (b:Int) ((1 <<< Sort.bitsLen (b - a):Nat):Int) (m + 1) s.2.toList ((s.1.toNat:Nat):Int) (i:Int)=Zw n (a:Int) (b:Int) ((1 <<< Sort.bitsLen (b - a):Nat):Int) m (g i s).2.toList (((g i s).1.toNat:Nat):Int) ((i + 1:Nat):Int):=fun m i s h h1 h2 hc=>by
  rw [hg]; exact Zzh hB' hb h8 h h1 h2 hc
 rw [st1 _ _ _ hd (by omega) (by omega) (by omega),st1 _ _ _ (z _ _ hd) (by omega) (by omega) (by omega),st1 _ _ _ (z _ _ (z _ _ hd)) (by omega) (by omega) (by omega)]
 rw [Zw]
 have ew:IntKind.wrap .i64 ((b:Int) - (a:Int))=((b - a:Nat):Int):=wsub (by omega) (by omega)
 have eq4:IntKind.wrap .i64 (Int.tdiv ((b - a:Nat):Int) (4:Int))=(((b - a) / 4:Nat):Int):=by
  rw [Int.tdiv_eq_ediv_of_nonneg (by omega),wi64 (by omega) (by omega)]; omega
 have e6:IntKind.wrap .i64 (IntKind.wrap .i64 ((a:Int) + IntKind.wrap .i64 ((((b - a) / 4:Nat):Int) * (2:Int))) + 1)=((a + (b - a) / 4 * 2 + 1:Nat):Int):=by
  rw [wi64 (x:=(((b - a) / 4:Nat):Int) * 2) (by omega) (by omega),wi64 (x:=(a:Int) + (((b - a) / 4:Nat):Int) * 2) (by omega) (by omega),wi64 (by omega) (by omega)]; omega
 rw [ew,eq4,e6,if_neg (by simp; omega)]
 exact⟨_,rfl⟩
theorem Zrt {n a b:Nat} (hB:n≤1000000) (hb:b≤n) (hab:a≤b) {d:Array Int} (hd:d.size=n) :
  Za5 n d.toList (a:Int) (b:Int)=some (Sort.breakPatterns d a b).toList:=by
 have hB':n≤sB:=by unfold sB; omega
 unfold Za5 Sort.breakPatterns
 have ew:IntKind.wrap .i64 ((b:Int) - (a:Int))=((b - a:Nat):Int):=wsub (by omega) (by omega)
 rw [ew]
 simp only
 by_cases h8:b - a ≥ 8
 ·rw [if_pos (decide_eq_true (show ((b - a:Nat):Int) ≥ 8 by omega)),if_pos h8]
  unfold Zfg
  rw [wu64 (x:=((b - a:Nat):Int)) (by omega) (by omega),Len_eq (by omega)]
  simp only [Option.bind_some]
  have hp:2 ^ Sort.bitsLen (b - a)≤2 * (b - a):=Sort.two_pow_bitsLen_le (by omega)
  have hl:Sort.bitsLen (b - a)<64:=by
   have:=(Sort.bitsLen_le_iff (b - a) 63).2 (by omega)
   omega
  rw [if_pos (by omega),Zz5 hl]
  simp only [Option.bind_some]
  have es:((2 ^ Sort.bitsLen (b - a):Nat):Int)=((1 <<< Sort.bitsLen (b - a):Nat):Int):=by rw [Nat.shiftLeft_eq,Nat.one_mul]
  have eq4:IntKind.wrap .i64 (Int.tdiv ((b - a:Nat):Int) (4:Int))=(((b - a) / 4:Nat):Int):=by
   rw [Int.tdiv_eq_ediv_of_nonneg (by omega),wi64 (by omega) (by omega)]; omega
  have e5:IntKind.wrap .i64 (IntKind.wrap .i64 ((a:Int) + IntKind.wrap .i64 ((((b - a) / 4:Nat):Int) * (2:Int))) - 1)=((a + (b - a) / 4 * 2 - 1:Nat):Int):=by
   rw [wi64 (x:=(((b - a) / 4:Nat):Int) * 2) (by omega) (by omega),wi64 (x:=(a:Int) + (((b - a) / 4:Nat):Int) * 2) (by omega) (by omega),wi64 (by omega) (by omega)]; omega
  have eu:((b - a:Nat):Int)=(((UInt64.ofNat (b - a)).toNat:Nat):Int):=by
   rw [UInt64.toNat_ofNat_of_lt' (by show b - a<18446744073709551616; omega)]
  rw [es,eq4,e5]
  have hf:fuel=1180591620717411303420 + 1 + 1 + 1 + 1:=by kernel_rfl
  obtain⟨z,hz⟩:=Zzi (m:=1180591620717411303420) (idx:=a + (b - a) / 4 * 2 - 1) (st:=(UInt64.ofNat (b - a),d)) hB' hb h8 hd (by omega) _ rfl
  rw [← hf] at hz
  simp only at hz
  rw [eu,hz]
  simp only [Option.bind_some]
 ·rw [if_neg (by simp; omega),if_neg h8]
end Go.AM
set_option maxRecDepth 100000
namespace Go.AM
open Go
theorem swo_lt:Sort.SWO Sort.ltInt:=Sort.swo_ltInt
theorem Z1d {n a b:Nat} (hab:a≤b) (hb:b≤n) {d:Array Int} (hd:d.size=n):(Sort.insertionSort Sort.ltInt d a b).size=n:=by
 rw [(Sort.insertionSort_holds swo_lt d a b hab (by omega)).1.1,hd]
theorem brk_sz {n a b:Nat} (hab:a≤b) (hb:b≤n) {d:Array Int} (hd:d.size=n):(Sort.breakPatterns d a b).size=n:=by
 rw [(Sort.breakPatterns_holds d a b hab (by omega)).1,hd]
theorem rev_sz {n a b:Nat} (hab:a≤b) (hb:b≤n) {d:Array Int} (hd:d.size=n):(Sort.reverseRange d a b).size=n:=by
 rw [(Sort.reverseRange_holds d a b hab (by omega)).1,hd]
theorem Zua {n a b:Nat}:∀(s i:Nat) (d:Array Int),d.size=n→(Sort.partialIns Sort.ltInt a b s i d).1.size=n
 | 0,_,d,hd=>hd
 | s + 1,i,d,hd=>by
  rw [Sort.partialIns]
  simp only
  split
  ·exact hd
  ·split
   ·exact hd
   ·refine Zua s _ _ ?_
    split
    ·refine Zs9 _ _ _ ?_ (Nat.le_refl _)
     split
     ·exact Zj3 _ _ (by rw [swp_sz,hd])
     ·rw [swp_sz,hd]
    ·split
     ·exact Zj3 _ _ (by rw [swp_sz,hd])
     ·rw [swp_sz,hd]
theorem Zwl {n a b p:Nat} (hp0:a≤p) (hp:p<b) (hb:b≤n) {d:Array Int} (hd:d.size=n) :
  a≤(Sort.partition Sort.ltInt d a b p).1∧(Sort.partition Sort.ltInt d a b p).1<b∧(Sort.partition Sort.ltInt d a b p).2.2.size=n:=by
 obtain⟨h1,h2,h3,_⟩:=Sort.partition_holds Sort.ltInt swo_lt d a b p hp0 hp (by omega)
 exact⟨h1,h2,by rw [h3.1,hd]⟩
theorem Zta {n a b p:Nat} (hp0:a≤p) (hp:p<b) (hb:b≤n) {d:Array Int} (hd:d.size=n) :
  a<(Sort.partitionEqual Sort.ltInt d a b p).1∧(Sort.partitionEqual Sort.ltInt d a b p).1≤b∧(Sort.partitionEqual Sort.ltInt d a b p).2.size=n:=by
 unfold Sort.partitionEqual
 obtain⟨r1,r2,r3,_⟩:=Sort.partEqLoop_spec Sort.ltInt a b _ (a + 1) (b - 1) (Sort.swp d a p) (Nat.le_refl _) (Nat.lt_succ_self a) (by omega) (by omega) (by rw [swp_sz]; omega) (fun t h1 h2=>by omega) (fun t h1 h2=>by omega)
 exact⟨r1,r2,by rw [r3.1,swp_sz,hd]⟩
theorem pdq_sz {n:Nat}:∀(k:Nat) (d:Array Int) (a b limit:Nat) (wb wp:Bool),b - a≤k→d.size=n→a≤b→b≤n→(Sort.pdq Sort.ltInt d a b limit wb wp).size=n:=by
 intro k
 induction k using Nat.strongRecOn with
 | _ k ih=>
 intro d a b limit wb wp hk hd hab hb
 rw [Sort.pdq]
 split
 ·exact Z1d hab hb hd
 ·rename_i h12
  split
  ·rw [(Sort.heapSort_holds swo_lt d a b hab (by omega)).1.1,hd]
  ·simp only
   have s1:(if (!wb)=true then Sort.breakPatterns d a b else d).size=n:=by
    split
    ·exact brk_sz hab hb hd
    ·exact hd
   generalize (if (!wb)=true then Sort.breakPatterns d a b else d)=d1 at s1 ⊢
   have hc:=Sort.choosePivot_holds Sort.ltInt d1 a b (by omega)
   generalize Sort.choosePivot Sort.ltInt d1 a b=c at hc ⊢
   have s2:(if c.2=.decreasing then Sort.reverseRange d1 a b else d1).size=n:=by
    split
    ·exact rev_sz hab hb s1
    ·exact s1
   generalize (if c.2=.decreasing then Sort.reverseRange d1 a b else d1)=d2 at s2 ⊢
   have hp:a≤(if c.2=.decreasing then (b - 1) - (c.1 - a) else c.1)∧(if c.2=.decreasing then (b - 1) - (c.1 - a) else c.1)<b:=by split <;> omega
   generalize (if c.2=.decreasing then (b - 1) - (c.1 - a) else c.1)=p at hp ⊢
   generalize (if c.2=.decreasing then Sort.Hint.increasing else c.2)=hint
   have s3:(if (wb && wp && decide (hint=.increasing))=true then Sort.partialInsertionSort Sort.ltInt d2 a b else (d2,false)).1.size=n:=by
    split
    ·exact Zua _ _ _ s2
    ·exact s2
   generalize (if (wb && wp && decide (hint=.increasing))=true then Sort.partialInsertionSort Sort.ltInt d2 a b else (d2,false))=pi at s3 ⊢
   split
   ·exact s3
   ·split
    ·obtain⟨h1,h2,h3⟩:=Zta hp.1 hp.2 hb s3
     rw [dif_pos ⟨h1,h2⟩]
     exact ih _ (by omega) _ _ _ _ _ _ (Nat.le_refl _) h3 h2 hb
    ·obtain⟨h1,h2,h3⟩:=Zwl hp.1 hp.2 hb s3
     rw [dif_pos ⟨h1,h2⟩]
     split
     ·exact ih _ (by omega) _ _ _ _ _ _ (Nat.le_refl _) (ih _ (by omega) _ _ _ _ _ _ (Nat.le_refl _) h3 h1 (by omega)) h2 hb
     ·exact ih _ (by omega) _ _ _ _ _ _ (Nat.le_refl _) (ih _ (by omega) _ _ _ _ _ _ (Nat.le_refl _) h3 h2 hb) h1 (by omega)
theorem Z0e (h:Sort.Hint):(hintN h == (2:Int))=decide (h=.decreasing):=by cases h <;> rfl
theorem Z0f (h:Sort.Hint):(hintN h == (1:Int))=decide (h=.increasing):=by cases h <;> rfl
theorem pdq_eq {n:Nat} (hB:n≤1000000):∀(k:Nat) (nr m:Nat) (d:Array Int) (a b limit:Nat) (wb wp:Bool),b - a≤k→k≤nr→k<m→d.size=n→a≤b→b≤n→limit<1000 →
  Zao n (Z0 nr) m d.toList (a:Int) (b:Int) (limit:Int) wb wp=some (Sort.pdq Sort.ltInt d a b limit wb wp).toList:=by
 have hB':n≤sB:=by unfold sB; omega
 intro k
 induction k using Nat.strongRecOn with
 | _ k ih=>
 intro nr m d a b limit wb wp hk hnr hm hd hab hb hlim
 cases m with
 | zero=>omega
 | succ m=>
 rw [Zao,Sort.pdq]
 have ew:IntKind.wrap .i64 ((b:Int) - (a:Int))=((b - a:Nat):Int):=wsub (by omega) hab
 rw [ew]
 by_cases h12:b - a≤12
 ·rw [if_pos (decide_eq_true (by omega)),if_pos h12,Zrq hB' hb hab hd]; rfl
 ·rw [if_neg (by simp; omega),if_neg h12]
  by_cases hl:limit=0
  ·rw [if_pos (by simp [hl]),if_pos hl,Zxh hB' (by omega) hb hd]; rfl
  ·rw [if_neg (by simp [hl]),if_neg hl]
   have e1:(if (!wb)=true then (Za5 n d.toList (a:Int) (b:Int)).bind fun(r168:(List Int))=>some (r168,(IntKind.wrap .i64 ((limit:Int) - (1:Int)))) else some (d.toList,(limit:Int)))=some ((if (!wb)=true then Sort.breakPatterns d a b else d).toList,((if (!wb)=true then limit - 1 else limit:Nat):Int)):=by
    cases wb with
    | true=>rfl
    | false=>
     simp only [Bool.not_false,if_true]
     rw [Zrt hB hb hab hd,wi64 (by omega) (by omega)]
     simp only [Option.bind_some]
     congr 2; omega
   rw [e1]
   have s1:(if (!wb)=true then Sort.breakPatterns d a b else d).size=n:=by
    split
    ·exact brk_sz hab hb hd
    ·exact hd
   have hlim':(if (!wb)=true then limit - 1 else limit)<1000:=by split <;> omega
   simp only [Option.bind_some]
   generalize (if (!wb)=true then Sort.breakPatterns d a b else d)=d1 at s1 ⊢
   generalize (if (!wb)=true then limit - 1 else limit)=limit' at hlim' ⊢
   rw [Zt8 hB' (by omega) hb s1]
   simp only [Option.bind_some,Z0e]
   have hc:=Sort.choosePivot_holds Sort.ltInt d1 a b (by omega)
   generalize Sort.choosePivot Sort.ltInt d1 a b=c at hc ⊢
   obtain⟨c1,c2⟩:=c
   simp only at hc ⊢
   have e2:(if decide (c2=Sort.Hint.decreasing)=true then (Za9 n d1.toList (a:Int) (b:Int)).bind fun(r181:(List Int))=>some (r181,(IntKind.wrap .i64 ((IntKind.wrap .i64 ((b:Int) - (1:Int))) - (IntKind.wrap .i64 ((c1:Int) - (a:Int))))),(1:Int)) else some (d1.toList,(c1:Int),hintN c2)) =
     some ((if c2=.decreasing then Sort.reverseRange d1 a b else d1).toList,((if c2=.decreasing then (b - 1) - (c1 - a) else c1:Nat):Int),hintN (if c2=.decreasing then Sort.Hint.increasing else c2)):=by
    by_cases h:c2=.decreasing
    ·rw [if_pos (decide_eq_true h),if_pos h,if_pos h,if_pos h,Zs8 hB' (by omega) hb s1]
     have g1:IntKind.wrap .i64 ((b:Int) - 1)=((b - 1:Nat):Int):=by rw [wi64 (by omega) (by omega)]; omega
     rw [g1,wsub (i:=c1) (j:=a) (by omega) (by omega),wsub (i:=b - 1) (j:=c1 - a) (by omega) (by omega)]
     rfl
    ·rw [if_neg (by simpa using h),if_neg h,if_neg h,if_neg h]
   rw [e2]
   have s2:(if c2=.decreasing then Sort.reverseRange d1 a b else d1).size=n:=by
    split
    ·exact rev_sz hab hb s1
    ·exact s1
   have hp:a≤(if c2=.decreasing then (b - 1) - (c1 - a) else c1)∧(if c2=.decreasing then (b - 1) - (c1 - a) else c1)<b:=by split <;> omega
   simp only [Option.bind_some,Z0f]
   generalize (if c2=.decreasing then Sort.reverseRange d1 a b else d1)=d2 at s2 ⊢
   generalize (if c2=.decreasing then (b - 1) - (c1 - a) else c1)=p at hp ⊢
   generalize (if c2=.decreasing then Sort.Hint.increasing else c2)=hint
   have e3:(if (wb && wp && decide (hint=Sort.Hint.increasing))=true then (Zam n d2.toList (a:Int) (b:Int)).bind fun(r199:(Bool × (List Int)))=>if r199.1=true then some (Sum.inr r199.2) else some (Sum.inl r199.2) else some (Sum.inl d2.toList)) =
     some (if (if (wb && wp && decide (hint=.increasing))=true then Sort.partialInsertionSort Sort.ltInt d2 a b else (d2,false)).2=true then Sum.inr (if (wb && wp && decide (hint=.increasing))=true then Sort.partialInsertionSort Sort.ltInt d2 a b else (d2,false)).1.toList else (Sum.inl (if (wb && wp && decide (hint=.increasing))=true then Sort.partialInsertionSort Sort.ltInt d2 a b else (d2,false)).1.toList:List Int ⊕ List Int)):=by
    by_cases h:(wb && wp && decide (hint=.increasing))=true
    ·rw [if_pos h,if_pos h,Zl7 hB' hb (by omega) s2]
     simp only [Option.bind_some]
     split <;> rfl
    ·rw [if_neg h,if_neg h]; rfl
   rw [e3]
   have s3:(if (wb && wp && decide (hint=.increasing))=true then Sort.partialInsertionSort Sort.ltInt d2 a b else (d2,false)).1.size=n:=by
    split
    ·exact Zua _ _ _ s2
    ·exact s2
   simp only [Option.bind_some]
   generalize (if (wb && wp && decide (hint=.increasing))=true then Sort.partialInsertionSort Sort.ltInt d2 a b else (d2,false))=pi at s3 ⊢
   obtain⟨d3,pf⟩:=pi
   simp only at s3 ⊢
   cases pf with
   | true=>rfl
   | false=>
    simp only [Bool.false_eq_true,if_false]
    have e4:((if (decide ((a:Int) > (0:Int)))=true then (idxn n d3.toList (IntKind.wrap .i64 ((a:Int) - (1:Int)))).bind fun(x205:Int)=>(idxn n d3.toList (p:Int)).bind fun(x207:Int)=>(Zac x205 x207).bind fun(r209:Bool)=>some (!r209) else some false)) =
      some (decide (a > 0) && !Sort.ltInt d3[a - 1]! d3[p]!):=by
     cases a with
     | zero=>rfl
     | succ a=>
      rw [if_pos (decide_eq_true (by omega)),wpred (by omega),Z3 s3 (by omega),Z3 s3 (by omega)]
      simp only [Option.bind_some,Zfc,Nat.add_sub_cancel,show a + 1 > 0 from Nat.succ_pos a,decide_true,Bool.true_and]
    rw [e4]
    simp only [Option.bind_some]
    by_cases h:(decide (a > 0) && !Sort.ltInt d3[a - 1]! d3[p]!)=true
    ·rw [if_pos h,if_pos h,Zqt hB' hb hp.1 hp.2 s3]
     obtain⟨h1,h2,h3⟩:=Zta hp.1 hp.2 hb s3
     generalize Sort.partitionEqual Sort.ltInt d3 a b p=r at h1 h2 h3 ⊢
     obtain⟨mid,d4⟩:=r
     simp only [Option.bind_some] at h1 h2 h3 ⊢
     rw [dif_pos ⟨h1,h2⟩]
     exact ih (b - mid) (by omega) nr m d4 mid b limit' wb wp (Nat.le_refl _) (by omega) (by omega) h3 h2 hb hlim'
    ·rw [if_neg h,if_neg h,Zwj hB' hb hp.1 hp.2 s3]
     obtain⟨h1,h2,h3⟩:=Zwl hp.1 hp.2 hb s3
     generalize Sort.partition Sort.ltInt d3 a b p=r at h1 h2 h3 ⊢
     obtain⟨mid,ap,d4⟩:=r
     simp only [Option.bind_some] at h1 h2 h3 ⊢
     rw [dif_pos ⟨h1,h2⟩,wsub (i:=mid) (j:=a) (by omega) h1,wsub (i:=b) (j:=mid) (by omega) (by omega),wsuc (by omega)]
     have e8:IntKind.wrap .i64 (Int.tdiv ((b - a:Nat):Int) (8:Int))=(((b - a) / 8:Nat):Int):=by
      rw [Int.tdiv_eq_ediv_of_nonneg (by omega),wi64 (by omega) (by omega)]; omega
     rw [e8]
     obtain⟨nr',rfl⟩:∃ nr',nr=nr' + 1:=⟨nr - 1,by omega⟩
     have sub:∀(d:Array Int) (x y:Nat),d.size=n→x≤y→y≤n→y - x<k→Z0 (nr' + 1) n d.toList (x:Int) (y:Int) (limit':Int)=some (Sort.pdq Sort.ltInt d x y limit' true true).toList:=fun d x y hz hxy hy hlt=>by
      rw [Z0,ih (y - x) hlt nr' fuel d x y limit' true true (Nat.le_refl _) (by omega) (by unfold fuel; omega) hz hxy hy hlim']
      rfl
     by_cases h4:mid - a<b - mid
     ·rw [if_pos (decide_eq_true (by omega)),if_pos h4,sub d4 a mid h3 h1 (by omega) (by omega)]
      simp only [Option.bind_some]
      rw [show decide (((mid - a:Nat):Int) ≥ (((b - a) / 8:Nat):Int))=decide (mid - a ≥ (b - a) / 8) from decide_eq_decide.2 (by omega)]
      exact ih (b - (mid + 1)) (by omega) _ m _ (mid + 1) b limit' _ ap (Nat.le_refl _) (by omega) (by omega) (pdq_sz _ _ _ _ _ _ _ (Nat.le_refl _) h3 h1 (by omega)) h2 hb hlim'
     ·rw [if_neg (by simp; omega),if_neg h4,sub d4 (mid + 1) b h3 h2 hb (by omega)]
      simp only [Option.bind_some]
      rw [show decide (((b - mid:Nat):Int) ≥ (((b - a) / 8:Nat):Int))=decide (b - mid ≥ (b - a) / 8) from decide_eq_decide.2 (by omega)]
      exact ih (mid - a) (by omega) _ m _ a mid limit' _ ap (Nat.le_refl _) (by omega) (by omega) (pdq_sz _ _ _ _ _ _ _ (Nat.le_refl _) h3 h2 hb) h1 (by omega) hlim'
theorem Z1e {l:List Int} (hl:l.length≤1000000):Zda l.length l=some (l.mergeSort (fun x y=>decide (x≤y))):=by
 unfold Zda
 rw [wu64 (by omega) (by omega),Len_eq (by omega)]
 simp only [Option.bind_some]
 have hb:Sort.bitsLen l.length<1000:=by
  have:=(Sort.bitsLen_le_iff l.length 63).2 (by omega)
  omega
 have hf:fuel=1180591620717411303423 + 1:=by kernel_rfl
 have e:=pdq_eq (n:=l.length) hl l.length 1180591620717411303423 fuel l.toArray 0 l.length (Sort.bitsLen l.length) true true (by omega) (by omega) (by unfold fuel; omega) (by simp) (by omega) (Nat.le_refl _) hb
 rw [show (Z0 fuel)=Z0 (1180591620717411303423 + 1) from by rw [← hf],Z0]
 rw [show ((0:Nat):Int)=0 from rfl,show l.toArray.toList=l from rfl] at e
 rw [e]
 simp only [Option.bind_some]
 rw [← Sort.sortInt l]
 unfold Sort.sort
 rw [show l.toArray.size=l.length from by simp]
end Go.AM
set_option maxRecDepth 100000
namespace Go.AM
open Go
def dd (l:List Int):List Int:=l.foldl (fun acc x=>if acc.getLast? = some x then acc else acc++[x]) []
theorem Znr (l:List Int) (x:Int):dd (l++[x])=if (dd l).getLast? = some x then dd l else dd l++[x]:=by
 unfold dd; rw [List.foldl_append]; rfl
theorem Zmp {l:List Int} {k:Nat} (h:k<l.length):l.take (k + 1)=l.take k++[l[k]]:=by
 rw [List.take_add_one,List.getElem?_eq_getElem h]; rfl
theorem Zn6 {p:List Int→Prop} (h0:p []) (h1:∀ l x,p l→p (l++[x])) (l:List Int):p l:=by
 have key:∀ n (l:List Int),l.length=n→p l:=by
  intro n
  induction n with
  | zero=>intro l hl; rw [List.length_eq_zero_iff.1 hl]; exact h0
  | succ n ih=>
   intro l hl
   rcases List.eq_nil_or_concat l with rfl | ⟨m,x,rfl⟩
   ·exact h0
   ·rw [List.concat_eq_append] at hl ⊢
    exact h1 _ _ (ih m (by simpa using hl))
 exact key _ l rfl
theorem Zub (l:List Int):(dd l).getLast? = l.getLast?:=by
 refine Zn6 (p:=fun l=>(dd l).getLast? = l.getLast?) rfl (fun l x ih=>?_) l
 rw [Znr]
 split
 ·rename_i h; rw [h]; simp
 ·simp
theorem dd_mem (l:List Int) (z:Int):z∈dd l ↔ z∈l:=by
 refine Zn6 (p:=fun l=>z∈dd l ↔ z∈l) (Iff.rfl) (fun l x ih=>?_) l
 rw [Znr]
 split
 ·rename_i h
  have hx:=List.mem_of_getLast? h
  rw [List.mem_append,← ih,List.mem_singleton]
  exact⟨Or.inl,fun h=>h.elim id fun e=>e ▸ hx⟩
 ·rw [List.mem_append,List.mem_append,ih]
theorem dd_len (l:List Int):(dd l).length≤l.length:=by
 refine Zn6 (p:=fun l=>(dd l).length≤l.length) (Nat.le_refl _) (fun l x ih=>?_) l
 rw [Znr]
 split <;> simp <;> omega
theorem Zzj (l:List Int):l.Pairwise (·≤·)→(dd l).Pairwise (·<·):=by
 refine Zn6 (p:=fun l=>l.Pairwise (·≤·)→(dd l).Pairwise (·<·)) (fun _=>List.Pairwise.nil) (fun l x ih hp=>?_) l
 rw [List.pairwise_append] at hp
 obtain⟨h1,_,h3⟩:=hp
 have hd:=ih h1
 rw [Znr]
 split
 ·exact hd
 ·rename_i hne
  rw [List.pairwise_append]
  refine⟨hd,List.pairwise_singleton _ _,fun a ha b hb=>?_⟩
  rw [List.mem_singleton] at hb
  subst hb
  have hle:=h3 a ((dd_mem l a).1 ha) b (List.mem_singleton.2 rfl)
  rcases Int.lt_or_eq_of_le hle with h | h
  ·exact h
  ·exfalso
   subst h
   rw [Zub] at hne
   cases hl:l.getLast? with
   | none=>rw [List.getLast?_eq_none_iff] at hl; subst hl; simp [dd] at ha
   | some z=>
    have hz:z∈dd l:=(dd_mem l z).2 (List.mem_of_getLast? hl)
    have hza:=h3 z (List.mem_of_getLast? hl) a (List.mem_singleton.2 rfl)
    have hlast:(dd l).getLast? = some z:=by rw [Zub,hl]
    have hle2:a≤z:=by
     obtain⟨m,hm⟩:=List.getLast?_eq_some_iff.1 hlast
     rw [hm] at ha hd
     rw [List.mem_append] at ha
     rcases ha with ha | ha
     ·rw [List.pairwise_append] at hd
      exact Int.le_of_lt (hd.2.2 a ha z (List.mem_singleton.2 rfl))
     ·rw [List.mem_singleton] at ha; omega
    have:z=a:=by omega
    subst this
    exact hne hl
theorem Zpy {l:List Int} {n i:Nat} (hn:l.length=n) (h:i<n):idxn n l (i:Int)=some (l[i]'(by omega)):=by
 unfold idxn
 rw [if_pos ⟨by omega,by omega⟩,Z1 (by omega)]
theorem Zx4 {l:List Int} {k:Nat} (h0:0<k) (h:k<l.length):dd (l.take (k + 1))=if l[k - 1]=l[k] then dd (l.take k) else dd (l.take k)++[l[k]]:=by
 rw [Zmp h,Znr,Zub]
 have:(l.take k).getLast? = some (l[k - 1]):=by
  obtain⟨k,rfl⟩:∃ k',k=k' + 1:=⟨k - 1,by omega⟩
  rw [Zmp (by omega),List.getLast?_append]; simp
 rw [this]
 simp only [Option.some.injEq]
theorem Z0g {l:List Int} {n v1:Nat} (hn:l.length=n) (hB:n≤1000000) (h1:0<v1) (hv:v1<n):∀(k i w m:Nat) (v:List Int),v.length=n→n - (v1 + i)=k→k<m→0<i→v1 + i≤n→w≤v1 + i - 1 →
  v.take w=dd (l.take (v1 + i))→v.drop (v1 + i - 1)=l.drop (v1 + i - 1) →
  ∃ v' w',Za0 n (v1:Int) m v (w:Int) (i:Int)=some (v',((w':Nat):Int))∧v'.length=n∧w'≤n∧v'.take w'=dd l:=by
 intro k
 induction k with
 | zero=>
  intro i w m v hl hk hm hi hle hw ht hdr
  cases m with
  | zero=>omega
  | succ m=>
  rw [Za0]
  simp only [Int.toNat_natCast]
  rw [if_neg (by simp; omega)]
  refine⟨v,w,rfl,hl,by omega,?_⟩
  rw [ht,List.take_of_length_le (by omega)]
 | succ k ih=>
  intro i w m v hl hk hm hi hle hw ht hdr
  cases m with
  | zero=>omega
  | succ m=>
  have gt:∀ q,v1 + i - 1≤q→(hq:q<n)→v[q]'(by omega)=l[q]'(by omega):=fun q hq1 hq=>by
   have h2:(v.drop (v1 + i - 1))[q - (v1 + i - 1)]? = (l.drop (v1 + i - 1))[q - (v1 + i - 1)]?:=by rw [hdr]
   rw [List.getElem?_drop,List.getElem?_drop,show v1 + i - 1 + (q - (v1 + i - 1))=q by omega,List.getElem?_eq_getElem (by omega),List.getElem?_eq_getElem (by omega)] at h2
   exact Option.some.inj h2
  have iv:∀ q:Nat,(hq:v1 + q<n)→idxv (n - v1) v (v1:Int) (q:Int)=some (v[v1 + q]'(by omega)):=fun q hq=>by
   unfold idxv
   rw [if_pos ⟨by omega,by omega⟩,show (v1:Int) + (q:Int)=((v1 + q:Nat):Int) by omega,Z1 (by omega)]
  have hx:=gt (v1 + i) (by omega) (by omega)
  have hy:=gt (v1 + i - 1) (Nat.le_refl _) (by omega)
  obtain⟨i',rfl⟩:∃ i',i=i' + 1:=⟨i - 1,by omega⟩
  have hy':v[v1 + i']'(by omega)=l[v1 + i']'(by omega):=hy
  have ds:=Zx4 (l:=l) (k:=v1 + (i' + 1)) (by omega) (by omega)
  rw [Za0]
  simp only [Int.toNat_natCast]
  rw [if_pos (decide_eq_true (by omega)),iv (i' + 1) (by omega),wpred (by omega),iv i' (by omega)]
  simp only [Option.bind_some,hx,hy']
  simp only [show v1 + (i' + 1) - 1=v1 + i' by omega] at ds
  by_cases he:l[v1 + (i' + 1)]'(by omega)=l[v1 + i']'(by omega)
  ·rw [if_neg (by simp [he])]
   simp only [Option.bind_some]
   rw [wsuc (by omega)]
   refine ih (i' + 1 + 1) w m v hl (by omega) (by omega) (by omega) (by omega) (by omega) ?_ ?_
   ·rw [ht,show v1 + (i' + 1 + 1)=v1 + (i' + 1) + 1 by omega,ds,if_pos he.symm]
   ·rw [show v1 + (i' + 1 + 1) - 1=(v1 + (i' + 1) - 1) + 1 by omega,← List.drop_drop,← List.drop_drop,hdr]
  ·rw [if_pos (by simpa using he),Zpy hl (show w<n by omega)]
   simp only [Option.bind_some]
   rw [wsuc (by omega),wsuc (by omega)]
   refine ih (i' + 1 + 1) (w + 1) m _ (by rw [List.length_set,hl]) (by omega) (by omega) (by omega) (by omega) (by omega) ?_ ?_
   ·rw [show v1 + (i' + 1 + 1)=v1 + (i' + 1) + 1 by omega,ds,if_neg (fun h=>he h.symm),← ht]
    rw [Zmp (by rw [List.length_set]; omega),List.getElem_set_self,List.take_set_of_le (Nat.le_refl _)]
   ·rw [show v1 + (i' + 1 + 1) - 1=v1 + (i' + 1) by omega,List.drop_set_of_lt (by omega)]
    rw [show v1 + (i' + 1)=(v1 + (i' + 1) - 1) + 1 by omega,← List.drop_drop,← List.drop_drop,hdr]
theorem Z0h {l:List Int} {n:Nat} (hn:l.length=n) (hB:n≤1000000):∀(k i m:Nat),n - i=k→k<m→0<i→i≤n→dd (l.take i)=l.take i →
  ∃ o,Za1 n l m (i:Int)=some o∧((o=.inl ()∧dd l=l)∨∃ w v,o=.inr (w,v)∧v.length=n∧w≤n∧v.take w=dd l):=by
 intro k
 induction k with
 | zero=>
  intro i m hk hm h0 hi hd
  cases m with
  | zero=>omega
  | succ m=>
  rw [Za1,if_neg (by simp; omega)]
  rw [List.take_of_length_le (by omega)] at hd
  exact⟨_,rfl,Or.inl ⟨rfl,hd⟩⟩
 | succ k ih=>
  intro i m hk hm h0 hi hd
  cases m with
  | zero=>omega
  | succ m=>
  have ds:=Zx4 (l:=l) h0 (by omega)
  rw [Za1,if_pos (decide_eq_true (by omega)),Zpy hn (show i<n by omega)]
  obtain⟨i',rfl⟩:∃ i',i=i' + 1:=⟨i - 1,by omega⟩
  rw [wpred (by omega),Zpy hn (show i'<n by omega)]
  simp only [Option.bind_some,Nat.add_sub_cancel] at ds ⊢
  by_cases he:l[i' + 1]'(by omega)=l[i']'(by omega)
  ·rw [if_pos (by simpa using he),if_pos ⟨by omega,by omega,by omega⟩]
   obtain⟨v,w,e,g1,g2,g3⟩:=Z0g hn hB (show 0<i' + 1 by omega) (by omega) (n - (i' + 1 + 1)) 1 (i' + 1) fuel l hn rfl (by unfold fuel; omega) (by omega) (by omega) (by omega) (by rw [ds,if_pos he.symm,hd]) rfl
   rw [show ((1:Nat):Int)=1 from rfl] at e
   rw [e]
   simp only [Option.bind_some,Int.toNat_natCast]
   rw [if_pos ⟨by omega,by omega,by omega⟩,if_pos (by omega),if_pos ⟨by omega,by omega,by omega⟩]
   refine⟨_,rfl,Or.inr ⟨w,_,rfl,?_,g2,?_⟩⟩
   ·simp only [List.length_append,List.length_take,List.length_replicate,List.length_drop]; omega
   ·rw [List.append_assoc,List.take_append_of_le_length (by rw [List.length_take]; omega),List.take_take,Nat.min_self,g3]
  ·rw [if_neg (by simpa using he),wsuc (by omega)]
   refine ih (i' + 1 + 1) m (by omega) (by omega) (by omega) (by omega) ?_
   rw [ds,if_neg (fun h=>he h.symm),hd,← Zmp]
theorem Zyu {l:List Int} (hB:l.length≤1000000):∃ w v,Zcp l.length l=some (w,v)∧v.length=l.length∧w≤l.length∧v.take w=dd l:=by
 unfold Zcp
 by_cases h:l.length<2
 ·rw [if_pos (decide_eq_true (by omega))]
  refine⟨_,_,rfl,rfl,Nat.le_refl _,?_⟩
  rw [List.take_length]
  rcases l with _ | ⟨a,_ | ⟨b,l⟩⟩
  ·rfl
  ·rfl
  ·simp at h; omega
 ·rw [if_neg (by simp; omega)]
  have h1:dd (l.take 1)=l.take 1:=by
   rcases l with _ | ⟨a,l⟩
   ·rfl
   ·rfl
  obtain⟨o,e,ho⟩:=Z0h rfl hB (l.length - 1) 1 fuel rfl (by unfold fuel; omega) (by omega) (by omega) h1
  rw [show ((1:Nat):Int)=1 from rfl] at e
  rw [e]
  rcases ho with ⟨rfl,hd⟩ | ⟨w,v,rfl,g1,g2,g3⟩
  ·exact⟨_,_,rfl,rfl,Nat.le_refl _,by rw [List.take_length,hd]⟩
  ·exact⟨w,v,rfl,g1,g2,g3⟩
end Go.AM
set_option maxRecDepth 100000
namespace Go.AM
open Go
def hv (h:Zsk):Arr5 Int:=⟨h.Src,h.Dst,h.Proto,h.SrcPort,h.DstPort⟩
def allF (f:Int→Bool):Bool:=!(f 0 || f 1 || f 2 || f 3 || f 4)
def zb5:Arr5 Zb:=⟨⟨0,0⟩,⟨0,0⟩,⟨0,0⟩,⟨0,0⟩,⟨0,0⟩⟩
def ixr (a b:Zb):Zb:=⟨iMax a.Lo b.Lo,iMin a.Hi b.Hi⟩
def isect (a b:Arr5 Zb):Arr5 Zb:=⟨ixr a.x0 b.x0,ixr a.x1 b.x1,ixr a.x2 b.x2,ixr a.x3 b.x3,ixr a.x4 b.x4⟩
def xB (a b:Arr5 Zb):Arr5 Zb × Bool:=if (vB a && vB b && vB (isect a b))=true then (isect a b,true) else (zb5,false)
theorem Zzk (z a b:Arr5 Zb):(((((z.set 0 (ixr (a.get 0) (b.get 0))).set 1 (ixr (a.get 1) (b.get 1))).set 2 (ixr (a.get 2) (b.get 2))).set 3 (ixr (a.get 3) (b.get 3))).set 4 (ixr (a.get 4) (b.get 4)))=isect a b:=rfl
theorem Zvm (a b:Arr5 Zb):Zfj a b=some (xB a b):=by
 unfold Zfj xB
 have h1:Zb3 a b fuel Zo 0=some (isect a b):=by
  rw [Zuz (L:=Zb3 a b) (f:=fun s k=>Arr5.set s k (ixr (a.get k) (b.get k))) (fin:=id) (fun n s k h0 h1=>by
   rw [Zb3]
   simp only [show k<5 from h1,decide_true,if_true,show 0≤k∧k<5 from ⟨h0,h1⟩,and_self,wnext h0 (by omega:k<1000000)]
   rfl) (fun n s=>by rw [Zb3]; rfl)]
  rw [Zzk]; rfl
 rw [h1]
 simp only [Option.bind_some]
 rw [Zih,Zih,Zih]
 cases vB a <;> cases vB b <;> cases vB (isect a b) <;> rfl
def difM (m:Zk) (k:Int):Bool:=(IntKind.wrap .u32 ((m.From.get k).Hi - (m.From.get k).Lo)) != (IntKind.wrap .u32 ((m.To.get k).Hi - (m.To.get k).Lo))
def vM (m:Zk):Bool:=vB m.From && vB m.To && allF (difM m)
theorem Zj5 (m:Zk):Zc2 m=some (vM m):=by
 unfold Zc2 vM
 rw [Zn4,Zn4,Zuy (L:=Zcw m) (bad:=difM m) (fun n k h0 h1=>by
  rw [Zcw]
  simp only [show k<5 from h1,decide_true,if_true,show 0≤k∧k<5 from ⟨h0,h1⟩,and_self,wnext h0 (by omega:k<1000000)]
  rfl) (fun n=>by rw [Zcw]; rfl)]
 unfold allF
 cases vB m.From <;> cases vB m.To <;> cases (difM m 0 || difM m 1 || difM m 2 || difM m 3 || difM m 4) <;> rfl
theorem Zoj (m:Zk):Zek m=some (vM m):=by
 unfold Zek vM
 rw [Zih,Zih,Zuy (L:=Zcx m) (bad:=difM m) (fun n k h0 h1=>by
  rw [Zcx]
  simp only [show k<5 from h1,decide_true,if_true,show 0≤k∧k<5 from ⟨h0,h1⟩,and_self,wnext h0 (by omega:k<1000000)]
  rfl) (fun n=>by rw [Zcx]; rfl)]
 unfold allF
 cases vB m.From <;> cases vB m.To <;> cases (difM m 0 || difM m 1 || difM m 2 || difM m 3 || difM m 4) <;> rfl
def turn (m:Zk):Zk:=⟨m.To,m.From⟩
end Go.AM
set_option maxRecDepth 100000
namespace Go.AM
open Go
def hdr (v:Arr5 Int):Zsk:=⟨v.x0,v.x1,v.x2,v.x3,v.x4⟩
structure VOk (v:Arr5 Int):Prop where
 h0:0≤v.x0∧v.x0≤4294967295
 h1:0≤v.x1∧v.x1≤4294967295
 h2:0≤v.x2∧v.x2≤255
 h3:0≤v.x3∧v.x3≤65535
 h4:0≤v.x4∧v.x4≤65535
theorem VOk.set {v:Arr5 Int} (h:VOk v) {k x:Int} (h0:0≤k) (h1:k<5) (hx0:0≤x) (hx:x≤topOf k):VOk (v.set k x):=by
 obtain⟨g0,g1,g2,g3,g4⟩:=h
 rcases five h0 h1 with rfl | rfl | rfl | rfl | rfl
 ·exact⟨⟨hx0,hx⟩,g1,g2,g3,g4⟩
 ·exact⟨g0,⟨hx0,hx⟩,g2,g3,g4⟩
 ·exact⟨g0,g1,⟨hx0,hx⟩,g3,g4⟩
 ·exact⟨g0,g1,g2,⟨hx0,hx⟩,g4⟩
 ·exact⟨g0,g1,g2,g3,⟨hx0,hx⟩⟩
theorem VOk.get {v:Arr5 Int} (h:VOk v) {k:Int} (h0:0≤k) (h1:k<5):0≤v.get k∧v.get k≤topOf k:=by
 obtain⟨g0,g1,g2,g3,g4⟩:=h
 rcases five h0 h1 with rfl | rfl | rfl | rfl | rfl
 ·exact g0
 ·exact g1
 ·exact g2
 ·exact g3
 ·exact g4
theorem vB_get {b:Arr5 Zb} (h:BIn b) (hv:vB b=true) {k:Int} (h0:0≤k) (h1:k<5):0≤(b.get k).Lo∧(b.get k).Lo≤(b.get k).Hi∧(b.get k).Hi≤topOf k:=by
 obtain⟨g0,g1,g2,g3,g4⟩:=vB_ok h hv
 rcases five h0 h1 with rfl | rfl | rfl | rfl | rfl
 ·exact⟨g0.h0,g0.h1,g0.h2⟩
 ·exact⟨g1.h0,g1.h1,g1.h2⟩
 ·exact⟨g2.h0,g2.h1,g2.h2⟩
 ·exact⟨g3.h0,g3.h1,g3.h2⟩
 ·exact⟨g4.h0,g4.h1,g4.h2⟩
structure MIn (m:Zk):Prop where
 f:BIn m.From
 t:BIn m.To
theorem Z0i {f:Int→Bool} (h:allF f=true) {k:Int} (h0:0≤k) (h1:k<5):f k=false:=by
 unfold allF at h
 simp only [Bool.not_eq_true',Bool.or_eq_false_iff] at h
 obtain⟨⟨⟨⟨g0,g1⟩,g2⟩,g3⟩,g4⟩:=h
 rcases five h0 h1 with rfl | rfl | rfl | rfl | rfl <;> assumption
theorem Zwm {k:Int} (h0:0≤k) (h1:k<5):0≤topOf k∧topOf k≤4294967295:=by
 rcases five h0 h1 with rfl | rfl | rfl | rfl | rfl <;> decide
def shr (a f t:Zb):Zb:=⟨IntKind.wrap .u32 (IntKind.wrap .u32 (a.Lo - f.Lo) + t.Lo),IntKind.wrap .u32 (IntKind.wrap .u32 (a.Hi - f.Lo) + t.Lo)⟩
def shB (a f t:Arr5 Zb):Arr5 Zb:=⟨shr a.x0 f.x0 t.x0,shr a.x1 f.x1 t.x1,shr a.x2 f.x2 t.x2,shr a.x3 f.x3 t.x3,shr a.x4 f.x4 t.x4⟩
theorem Z0j (a f t:Arr5 Zb):Zg5 a f t=some (shB a f t):=by
 unfold Zg5
 rw [Zuz (L:=Zd1 f t) (f:=fun s k=>Arr5.set s k (shr (s.get k) (f.get k) (t.get k))) (fin:=id) (fun n s k h0 h1=>by
  rw [Zd1]
  simp only [show k<5 from h1,decide_true,if_true,show 0≤k∧k<5 from ⟨h0,h1⟩,and_self,wnext h0 (by omega:k<1000000)]
  rfl) (fun n s=>by rw [Zd1]; rfl)]
 rfl
end Go.AM
set_option maxRecDepth 100000
namespace Go.AM
open Go
abbrev Bx:=Arr5 Zb
def toL (b:Bx):List Zb:=[b.x0,b.x1,b.x2,b.x3,b.x4]
def sf (f:Nat) (b:Bx):List Zb:=(toL b).drop f
def zr:Zb:=⟨0,0⟩
def ofL:List Zb→Bx
 | [a,b,c,d,e]=>⟨a,b,c,d,e⟩
 | _=>⟨zr,zr,zr,zr,zr⟩
def pad (f:Nat) (l:List Zb):Bx:=ofL (List.replicate f zr++l)
def tops5:List Int:=[4294967295,4294967295,255,65535,65535]
theorem fiveN {f:Nat} (h:f<5):f=0∨f=1∨f=2∨f=3∨f=4:=by omega
theorem Zks {f:Nat} (h:f<5) (b:Bx):sf f b=b.get (f:Int) :: sf (f + 1) b:=by
 rcases fiveN h with rfl | rfl | rfl | rfl | rfl <;> rfl
theorem sf_len {f:Nat} (h:f≤5) (b:Bx):(sf f b).length=5 - f:=by unfold sf toL; rw [List.length_drop]; rfl
theorem Zmq {f:Nat} (h:f<5):tops5.drop f=topOf (f:Int) :: tops5.drop (f + 1):=by
 rcases fiveN h with rfl | rfl | rfl | rfl | rfl <;> rfl
theorem len4 {l:List Zb} {n:Nat} (h:l.length=n):match n with
  | 0=>l=[]
  | 1=>∃ a,l=[a]
  | 2=>∃ a b,l=[a,b]
  | 3=>∃ a b c,l=[a,b,c]
  | 4=>∃ a b c d,l=[a,b,c,d]
  | 5=>∃ a b c d e,l=[a,b,c,d,e]
  | _=>True:=by
 subst h
 rcases l with _ | ⟨a,_ | ⟨b,_ | ⟨c,_ | ⟨d,_ | ⟨e,_ | ⟨g,l⟩⟩⟩⟩⟩⟩
 ·exact rfl
 ·exact⟨_,rfl⟩
 ·exact⟨_,_,rfl⟩
 ·exact⟨_,_,_,rfl⟩
 ·exact⟨_,_,_,_,rfl⟩
 ·exact⟨_,_,_,_,_,rfl⟩
 ·exact trivial
theorem Zp6 {f:Nat} (h:f<5) {l:List Zb} (hl:l.length=4 - f) (r:Zb):(pad (f + 1) l).set (f:Int) r=pad f (r :: l):=by
 have h1:=len4 hl
 rcases fiveN h with rfl | rfl | rfl | rfl | rfl
 ·obtain⟨a,b,c,d,rfl⟩:=h1; rfl
 ·obtain⟨a,b,c,rfl⟩:=h1; rfl
 ·obtain⟨a,b,rfl⟩:=h1; rfl
 ·obtain⟨a,rfl⟩:=h1; rfl
 ·cases h1; rfl
theorem Zx5 {l:List Zb} (h:l.length=5):toL (ofL l)=l:=by
 obtain⟨a,b,c,d,e,rfl⟩:=len4 h
 rfl
theorem Zp7 (b:Bx):ofL (toL b)=b:=rfl
theorem sf_pad {f:Nat} (h:f≤5) {l:List Zb} (hl:l.length=5 - f):sf f (pad f l)=l:=by
 unfold sf pad
 rw [Zx5 (by simp; omega),List.drop_left' (by simp)]
theorem Z1f {b b':Bx} (h:toL b=toL b'):b=b':=by rw [← Zp7 b,h,Zp7]
instance decBx:DecidableEq Bx:=fun a b=>if h:toL a=toL b then .isTrue (Z1f h) else .isFalse fun e=>h (by rw [e])
theorem eq_rg (a b:Zb):Zdj a b=decide (a=b):=by
 obtain⟨a1,a2⟩:=a
 obtain⟨b1,b2⟩:=b
 simp only [Zdj,Bool.and_true,Zb.mk.injEq]
 rw [Bool.eq_iff_iff]; simp
theorem eq_bx (a b:Bx):Zfy a b=decide (a=b):=by
 obtain⟨a0,a1,a2,a3,a4⟩:=a
 obtain⟨b0,b1,b2,b3,b4⟩:=b
 simp only [Zfy,Bool.and_true,eq_rg,Arr5.mk.injEq]
 rw [Bool.eq_iff_iff]; simp
theorem Zru {α:Type} [DecidableEq α]:∀(l pre b:List α),l.length + pre.length=b.length→findI (fun i x=>if b[i]? = some x then none else some false) pre.length l=if l=b.drop pre.length then none else some false
 | [],pre,b,h=>by simp at h; rw [h]; simp [findI]
 | x :: l,pre,b,h=>by
  simp only [List.length_cons] at h
  have hi:pre.length<b.length:=by omega
  rw [List.drop_eq_getElem_cons hi]
  simp only [findI,List.getElem?_eq_getElem hi,List.cons.injEq,Option.some.injEq]
  by_cases e:b[pre.length]=x
  ·rw [if_pos e]
   simp only [e,true_and]
   have:=Zru l (pre++[x]) b (by simp; omega)
   simp only [List.length_append,List.length_singleton] at this
   exact this
  ·rw [if_neg e,if_neg (fun h=>e h.1.symm)]
theorem Zwn {a b:List Bx} (ha:a.length≤1000000000000):Zan a b=some (decide (a=b)):=by
 unfold Zan
 by_cases hl:a.length=b.length
 ·rw [if_neg (by simp [hl])]
  rw [Zhs (L:=Zaz a b) a (fun i x=>if b[i]? = some x then none else some false) ha (fun n i hi=>by
   have hj:i<b.length:=by omega
   rw [Zaz]
   simp only [show ((i:Int)<(a.length:Int)) from by omega,decide_true,if_true,Z1 hi,Z1 hj,Option.bind_some,eq_bx,wsucc (by omega:i<1000000000001),List.getElem?_eq_getElem hj,Option.some.injEq]
   by_cases e:a[i]=b[i]
   ·simp [e]
   ·rw [if_neg (show ¬ b[i]=a[i] from fun h=>e h.symm)]; simp [e]) (fun n=>by rw [Zaz]; simp)]
  have:=Zru a [] b (by simpa using hl)
  simp only [List.length_nil,List.drop_zero] at this
  rw [this]
  by_cases e:a=b
  ·simp [e,orS]
  ·simp [e,orS]
 ·rw [if_pos (by simp; omega)]
  rw [decide_eq_false (fun e=>hl (by rw [e]))]
theorem Zuc {a b:List Bx} (ha:a.length≤1000000000000):Zfn a b=some (decide (a=b)):=by
 unfold Zfn
 by_cases hl:a.length=b.length
 ·rw [if_neg (by simp [hl])]
  rw [Zhs (L:=Zeb a b) a (fun i x=>if b[i]? = some x then none else some false) ha (fun n i hi=>by
   have hj:i<b.length:=by omega
   rw [Zeb]
   simp only [show ((i:Int)<(a.length:Int)) from by omega,decide_true,if_true,Z1 hi,Z1 hj,Option.bind_some,eq_bx,wsucc (by omega:i<1000000000001),List.getElem?_eq_getElem hj,Option.some.injEq]
   by_cases e:a[i]=b[i]
   ·simp [e]
   ·rw [if_neg (show ¬ b[i]=a[i] from fun h=>e h.symm)]; simp [e]) (fun n=>by rw [Zeb]; simp)]
  have:=Zru a [] b (by simpa using hl)
  simp only [List.length_nil,List.drop_zero] at this
  rw [this]
  by_cases e:a=b
  ·simp [e,orS]
  ·simp [e,orS]
 ·rw [if_pos (by simp; omega)]
  rw [decide_eq_false (fun e=>hl (by rw [e]))]
def cov (a:List Bx) (f v:Int):List Bx:=a.filter fun b=>inR v (b.get f)
theorem Zj6 {α:Type} (p:α→Bool):∀(l acc:List α) (i:Nat),foldI (fun s _ x=>if p x=true then s++[x] else s) acc i l=acc++l.filter p
 | [],acc,i=>by simp [foldI]
 | x :: xs,acc,i=>by
  simp only [foldI,List.filter_cons]
  rw [Zj6 p xs]
  cases p x <;> simp
theorem inR_eq (v:Int) (r:Zb):inR v r=(decide (r.Lo≤v) && decide (v≤r.Hi)):=rfl
theorem Zq2 {a:List Bx} (ha:a.length≤2000000000) {f:Int} (h0:0≤f) (h1:f<5) (v:Int):Zbs a f v=some (cov a f v):=by
 unfold Zbs
 have:=Zch (L:=Zck a f v) a (fun s _ x=>if inR v (x.get f)=true then s++[x] else s) id (fun i s=>s.length≤i) (by omega) (fun n s i hi hs=>by
  rw [Zck]
  simp only [show ((i:Int)<(a.length:Int)) from by omega,decide_true,if_true,Z1 hi,Option.bind_some,wsucc (by omega:i<1000000000001),List.length_singleton]
  rw [if_pos ⟨h0,h1⟩,inR_eq]
  rw [if_pos (show s.length + 1≤lim by unfold lim; omega)]
  cases decide (((a[i]).get f).Lo≤v) <;> cases decide (v≤((a[i]).get f).Hi) <;> simp [h0,h1] <;> omega) (fun n s hs=>by rw [Zck]; simp) [] (Nat.le_refl _)
 rw [this.1,Zj6]
 rfl
theorem at_eq {a:List Bx} (ha:a.length≤2000000000) {f:Int} (h0:0≤f) (h1:f<5) (v:Int) (hin:∀ b∈a,BIn b):Zho a f v=some (cov a f v):=by
 unfold Zho
 have:=Zch (L:=Ze6 a f v) a (fun s _ x=>if inR v (x.get f)=true then s++[x] else s) id (fun i s=>s.length≤i) (by omega) (fun n s i hi hs=>by
  rw [Ze6]
  have hb:=(hin _ (List.getElem_mem hi)).get f
  have e1:IntKind.wrap .u64 ((a[i]).get f).Lo=((a[i]).get f).Lo:=wu64 hb.h0 (by have:=hb.h1; omega)
  have e2:IntKind.wrap .u64 ((a[i]).get f).Hi=((a[i]).get f).Hi:=wu64 hb.h2 (by have:=hb.h3; omega)
  simp only [show ((i:Int)<(a.length:Int)) from by omega,decide_true,if_true,Z1 hi,Option.bind_some,wsucc (by omega:i<1000000000001),List.length_singleton,e1,e2]
  rw [if_pos ⟨h0,h1⟩,inR_eq]
  rw [if_pos (show s.length + 1≤lim by unfold lim; omega)]
  cases decide (((a[i]).get f).Lo≤v) <;> cases decide (v≤((a[i]).get f).Hi) <;> simp [h0,h1] <;> omega) (fun n s hs=>by rw [Ze6]; simp) [] (Nat.le_refl _)
 rw [this.1,Zj6]
 rfl
theorem Zx6 {f:Nat} (h:f<5) (a:List Bx) (v:Int):(cov a (f:Int) v).map (sf (f + 1))=atv (a.map (sf f)) v:=by
 induction a with
 | nil=>rfl
 | cons b a ih=>
  have e:atv ((b :: a).map (sf f)) v=(if inR v (b.get (f:Int)) then [sf (f + 1) b] else [])++atv (a.map (sf f)) v:=by
   rw [List.map_cons,Zks h]; rfl
  rw [e,← ih]
  unfold cov
  rw [List.filter_cons]
  cases inR v (b.get (f:Int)) <;> simp
theorem Zp8 (a:List Bx) (f v:Int):(cov a f v).length≤a.length:=List.length_filter_le ..
theorem Z1g {a:List Bx} {f v:Int} {b:Bx} (h:b∈cov a f v):b∈a:=(List.mem_filter.1 h).1
theorem Zu1 (b:Bx):Zc3 b=some (!vB b):=by
 unfold Zc3; rw [Zn4]; rfl
theorem Zzl {a:List Bx} (ha:a.length≤2000000000):Zg7 a=some (a.filter vB):=by
 unfold Zg7
 have:=Zch (L:=Zd5 a) a (fun s _ x=>if vB x=true then s++[x] else s) id (fun i s=>s.length≤i) (by omega) (fun n s i hi hs=>by
  rw [Zd5]
  simp only [show ((i:Int)<(a.length:Int)) from by omega,decide_true,if_true,Z1 hi,Option.bind_some,wsucc (by omega:i<1000000000001),List.length_singleton,Zih]
  rw [if_pos (show s.length + 1≤lim by unfold lim; omega)]
  cases vB a[i] <;> simp <;> omega) (fun n s hs=>by rw [Zd5]; simp) [] (Nat.le_refl _)
 rw [this.1,Zj6]
 rfl
theorem Zrv {α:Type} {l:List α} {n i:Nat} (hn:l.length=n) (h:i<n):idxn n l (i:Int)=some (l[i]'(by omega)):=by
 unfold idxn
 rw [if_pos ⟨by omega,by omega⟩,Z1 (by omega)]
theorem Z0k {l:List Bx} {n:Nat} (hn:l.length=n) (hB:n≤2000000000):∀(k j w m:Nat) (v:List Bx),n - j=k→k<m→v.length=n→w<j→j≤n→v.take w=(l.take j).filter vB→v.drop j=l.drop j →
  ∃ v' w',Z6 n m v (w:Int) (j:Int)=some (v',((w':Nat):Int))∧v'.length=n∧w'≤n∧v'.take w'=l.filter vB:=by
 intro k
 induction k with
 | zero=>
  intro j w m v hk hm hv hw hj ht hd
  cases m with
  | zero=>omega
  | succ m=>
  rw [Z6,if_neg (by simp; omega)]
  refine⟨v,w,rfl,hv,by omega,?_⟩
  rw [ht,List.take_of_length_le (by omega)]
 | succ k ih=>
  intro j w m v hk hm hv hw hj ht hd
  cases m with
  | zero=>omega
  | succ m=>
  have hjn:j<n:=by omega
  have hx:v[j]'(by omega)=l[j]'(by omega):=by
   have h2:(v.drop j)[0]? = (l.drop j)[0]?:=by rw [hd]
   rw [List.getElem?_drop,List.getElem?_drop,Nat.add_zero,List.getElem?_eq_getElem (by omega),List.getElem?_eq_getElem (by omega)] at h2
   exact Option.some.inj h2
  have tk:(l.take (j + 1)).filter vB=(l.take j).filter vB++if vB (l[j]'(by omega))=true then [l[j]'(by omega)] else []:=by
   rw [List.take_add_one,List.getElem?_eq_getElem (by omega),List.filter_append]
   congr 1
   simp only [Option.toList_some,List.filter_cons,List.filter_nil]
  rw [Z6]
  rw [if_pos (decide_eq_true (by omega)),Zrv hv hjn]
  simp only [Option.bind_some,Zu1,hx,Bool.not_not]
  by_cases hval:vB (l[j]'(by omega))=true
  ·rw [if_pos hval,Zrv hv (by omega:w<n)]
   simp only [Option.bind_some,Int.toNat_natCast]
   rw [wsuc (by omega),wsuc (by omega)]
   refine ih (j + 1) (w + 1) m _ (by omega) (by omega) (by rw [List.length_set]; exact hv) (by omega) (by omega) ?_ ?_
   ·rw [tk,if_pos hval,← ht,List.take_add_one,List.getElem?_eq_getElem (by rw [List.length_set]; omega),List.getElem_set_self,List.take_set_of_le (Nat.le_refl _)]
    rfl
   ·rw [List.drop_set_of_lt (by omega),← List.drop_drop,hd,List.drop_drop]
  ·rw [if_neg hval]
   simp only [Option.bind_some]
   rw [wsuc (by omega)]
   refine ih (j + 1) w m v (by omega) (by omega) hv (by omega) (by omega) ?_ ?_
   ·rw [tk,if_neg hval,List.append_nil,ht]
   ·rw [← List.drop_drop,hd,List.drop_drop]
theorem Zq3 {α:Type} (p:α→Bool):∀(l:List α) (i:Nat),(findI (fun i x=>if p x=true then some ((i:Nat):Int) else none) i l=none∧∀ x∈l,p x=false) ∨
  ∃ j,findI (fun i x=>if p x=true then some ((i:Nat):Int) else none) i l=some ((i + j:Nat):Int)∧∃ h:j<l.length,p l[j]=true∧∀ x∈l.take j,p x=false
 | [],i=>Or.inl ⟨rfl,fun _ h=>(by cases h)⟩
 | x :: l,i=>by
  by_cases hx:p x=true
  ·exact Or.inr ⟨0,by simp only [findI,if_pos hx]; rfl,by simp,hx,fun _ h=>(by cases h)⟩
  ·rcases Zq3 p l (i + 1) with ⟨h1,h2⟩ | ⟨j,h1,h2,h3,h4⟩
   ·refine Or.inl ⟨by simp only [findI,if_neg hx,h1],fun y hy=>?_⟩
    rcases List.mem_cons.1 hy with rfl | hy
    ·simpa using hx
    ·exact h2 y hy
   ·refine Or.inr ⟨j + 1,by simp only [findI,if_neg hx,h1]; rw [show i + 1 + j=i + (j + 1) by omega],by simp only [List.length_cons]; omega,by simpa using h3,fun y hy=>?_⟩
    rw [List.take_succ_cons] at hy
    rcases List.mem_cons.1 hy with rfl | hy
    ·simpa using hx
    ·exact h4 y hy
theorem del_eq {l:List Bx} (hB:l.length≤2000000000):∃ w v,Zau l.length l=some (w,v)∧v.length=l.length∧w≤l.length∧v.take w=l.filter vB:=by
 unfold Zau Zbm
 rw [Zhs (L:=Z7 l.length l) l (fun i x=>if (!vB x)=true then some ((i:Nat):Int) else none) (by omega) (fun n i hi=>by
  rw [Z7]
  simp only [show ((i:Int)<(l.length:Int)) from by omega,decide_true,if_true,Zrv rfl hi,Option.bind_some,Zu1,wsucc (by omega:i<1000000000001)]
  cases vB l[i] <;> rfl) (fun n=>by rw [Z7]; simp)]
 rcases Zq3 (fun x=>!vB x) l 0 with ⟨h1,h2⟩ | ⟨j,h1,h2,h3,h4⟩
 ·rw [h1]
  simp only [orS,Option.bind_some]
  rw [if_pos (by decide)]
  refine⟨_,_,rfl,rfl,Nat.le_refl _,?_⟩
  rw [List.take_length,List.filter_eq_self.2 fun x hx=>by simpa using h2 x hx]
 ·rw [h1]
  simp only [orS,Option.bind_some]
  rw [if_neg (by simp),Nat.zero_add,wsuc (by omega)]
  have tk:(l.take j).filter vB=l.take j:=List.filter_eq_self.2 fun x hx=>by simpa using h4 x hx
  obtain⟨v,w,e,g1,g2,g3⟩:=Z0k rfl hB (l.length - (j + 1)) (j + 1) j fuel l rfl (by unfold fuel; omega) rfl (by omega) (by omega) (by
   rw [List.take_add_one,List.filter_append,List.getElem?_eq_getElem h2,tk]
   have:vB l[j]=false:=by simpa using h3
   simp [this]) rfl
  rw [e]
  simp only [Option.bind_some,Int.toNat_natCast]
  rw [if_pos ⟨by omega,by omega,by omega⟩,if_pos (by omega),if_pos ⟨by omega,by omega,by omega⟩]
  refine⟨_,_,rfl,?_,g2,?_⟩
  ·simp only [List.length_append,List.length_take,List.length_replicate,List.length_drop]; omega
  ·rw [List.append_assoc,List.take_append_of_le_length (by rw [List.length_take]; omega),List.take_take,Nat.min_self,g3]
theorem Zu2 {l:List Bx} (hB:l.length≤2000000000):Zfb l=some (l.filter vB):=by
 unfold Zfb
 rw [if_pos (by unfold lim; omega)]
 cases l with
 | nil=>rfl
 | cons b l=>
  obtain⟨w,v,e,g1,g2,g3⟩:=del_eq hB
  rw [e]
  simp only [handB,Option.bind_some]
  rw [if_pos ⟨g1,by omega⟩]
  simp only [Option.bind_some,g3]
end Go.AM
set_option maxRecDepth 100000
namespace Go.AM
open Go
theorem Z1h {f:Nat} (h:f<5):Zmb (f:Int)=some (topOf (f:Int)):=by
 rcases fiveN h with rfl | rfl | rfl | rfl | rfl <;> rfl
theorem topN {f:Nat} (h:f<5):0≤topOf (f:Int)∧topOf (f:Int)≤4294967295:=Zwm (by omega) (by omega)
theorem BOk.at_ {b:Bx} (h:BOk b) {f:Nat} (hf:f<5):0≤(b.get (f:Int)).Lo∧(b.get (f:Int)).Lo≤(b.get (f:Int)).Hi∧(b.get (f:Int)).Hi≤topOf (f:Int):=
 vB_get h.bin (ok_vB h) (by omega) (by omega)
structure Pts (f:Nat) (l:List Bx) (ps:List Int):Prop where
 asc:ps.Pairwise (·<·)
 h0:∃ tl,ps=0 :: tl
 hl:ps.getLast? = some (topOf (f:Int) + 1)
 cut:∀ b∈l,(b.get (f:Int)).Lo∈ps∧(b.get (f:Int)).Hi + 1∈ps
 len:ps.length≤2 * l.length + 2
theorem Zwo {ps:List Int} (ha:ps.Pairwise (·<·)) {z:Int} (hz:z∈ps) (hb:∀ x∈ps,z≤x):∃ tl,ps=z :: tl:=by
 cases ps with
 | nil=>cases hz
 | cons p ps=>
  rcases List.mem_cons.1 hz with rfl | h
  ·exact⟨ps,rfl⟩
  ·have:=(List.pairwise_cons.1 ha).1 z h
   have:=hb p (List.mem_cons_self ..)
   omega
theorem Z0l {ps:List Int} (ha:ps.Pairwise (·<·)) {z:Int} (hz:z∈ps) (hb:∀ x∈ps,x≤z):ps.getLast? = some z:=by
 rcases List.eq_nil_or_concat ps with rfl | ⟨qs,p,rfl⟩
 ·cases hz
 ·rw [List.concat_eq_append] at *
  rw [List.getLast?_concat]
  rcases List.mem_append.1 hz with h | h
  ·have:=(List.pairwise_append.1 ha).2.2 z h p (List.mem_singleton.2 rfl)
   have:=hb p (List.mem_append_right _ (List.mem_singleton.2 rfl))
   omega
  ·rw [List.mem_singleton] at h; rw [h]
def rawC (f:Int) (l:List Bx):List Int:=l.flatMap fun b=>[(b.get f).Lo,(b.get f).Hi + 1]
theorem Zwp (f:Int) (l:List Bx):(rawC f l).length=2 * l.length:=by
 induction l with
 | nil=>rfl
 | cons b l ih=>unfold rawC at *; rw [List.flatMap_cons,List.length_append,ih]; simp; omega
theorem Zwq {f:Nat} (hf:f<5) {l:List Bx} (hl:l.length≤400000) (hin:∀ b∈l,BOk b) (acc:List Int) (ha:acc.length≤1000000):Zc4 (f:Int) l fuel acc 0=some (acc++rawC f l):=by
 have:=Zch (L:=Zc4 (f:Int) l) l (fun s _ x=>s++[(x.get (f:Int)).Lo,(x.get (f:Int)).Hi + 1]) id (fun i s=>s.length≤1000000 + 2 * i) (by omega) (fun n s i hi hs=>by
  have hb:=(hin _ (List.getElem_mem hi)).at_ hf
  have ht:=topN hf
  rw [Zc4]
  simp only [show ((i:Int)<(l.length:Int)) from by omega,decide_true,if_true,Z1 hi,Option.bind_some,wsucc (by omega:i<1000000000001),List.length_cons,List.length_nil]
  rw [if_pos ⟨by omega,by omega⟩,if_pos ⟨by omega,by omega⟩,if_pos (show s.length + (0 + 1 + 1)≤lim by unfold lim; omega)]
  rw [wu64 (x:=((l[i]).get (f:Int)).Lo) (by omega) (by omega),wu64 (x:=((l[i]).get (f:Int)).Hi) (by omega) (by omega),wu64 (by omega) (by omega)]
  exact⟨rfl,by simp; omega⟩) (fun n s hs=>by rw [Zc4]; simp) acc (by omega)
 rw [this.1,Zs5]
 rfl
theorem Z0m {f:Nat} (hf:f<5) {a b:List Bx} (hl:a.length + b.length≤400000) (ha:∀ x∈a,BOk x) (hb:∀ x∈b,BOk x) (acc:List Int) (hacc:acc.length≤2):Zc5 (f:Int) [a,b] fuel acc 0=some (acc++rawC f (a++b)):=by
 obtain⟨m,hm⟩:=Zn5 2 (by omega)
 rw [hm]
 have i0:idx [a,b] (0:Int)=some a:=rfl
 have i1:idx [a,b] (0 + 1:Int)=some b:=rfl
 rw [Zc5,if_pos (by simp),i0]
 simp only [Option.bind_some]
 rw [Zwq hf (by omega) ha acc (by omega)]
 simp only [Option.bind_some]
 rw [wi64 (by omega) (by omega),Zc5,if_pos (by simp),i1]
 simp only [Option.bind_some]
 rw [Zwq hf (by omega) hb _ (by rw [List.length_append,Zwp]; omega)]
 simp only [Option.bind_some]
 rw [wi64 (by omega) (by omega),Zc5,if_neg (by simp)]
 unfold rawC
 rw [List.flatMap_append,List.append_assoc]
theorem Z1i {f:Nat} (hf:f<5) {a b:List Bx} (hl:a.length + b.length≤400000) (ha:∀ x∈a,BOk x) (hb:∀ x∈b,BOk x):Ok (Zd4 (f:Int) [a,b]) (Pts f (a++b)):=by
 have ht:=topN hf
 unfold Zd4
 rw [Z1h hf]
 simp only [Option.bind_some]
 rw [wu64 (x:=topOf (f:Int)) (by omega) (by omega),wu64 (by omega) (by omega),Z0m hf hl ha hb _ (by simp)]
 simp only [Option.bind_some]
 rw [if_pos (by simp)]
 have hlen:([0,topOf (f:Int) + 1]++rawC (f:Int) (a++b)).length=2 + 2 * (a++b).length:=by rw [List.length_append,Zwp]; rfl
 have hab:(a++b).length=a.length + b.length:=List.length_append
 generalize hr:[0,topOf (f:Int) + 1]++rawC (f:Int) (a++b)=raw at hlen
 rw [Z1e (by omega)]
 simp only [Option.bind_some]
 rw [if_pos (List.length_mergeSort _)]
 have hms:(raw.mergeSort (fun x y=>decide (x≤y))).length=raw.length:=List.length_mergeSort _
 obtain⟨w,v,e,g1,g2,g3⟩:=Zyu (l:=raw.mergeSort (fun x y=>decide (x≤y))) (by omega)
 rw [e]
 have hb2:handB (raw.mergeSort (fun x y=>decide (x≤y))) (some (w,v)) Zcq=some (w,v):=by
  cases hq:raw.mergeSort (fun x y=>decide (x≤y)) with
  | nil=>rw [hq] at hms; simp at hms; omega
  | cons x l=>
   rw [hq] at g1 g2
   simp only [handB,Option.bind_some]
   rw [if_pos ⟨g1,by omega⟩]
 rw [hb2]
 simp only [Option.bind_some,g3]
 have hmem:∀ x,x∈dd (raw.mergeSort (fun x y=>decide (x≤y))) ↔ x∈raw:=fun x=>by rw [dd_mem,List.mem_mergeSort]
 have hasc:(dd (raw.mergeSort (fun x y=>decide (x≤y)))).Pairwise (·<·):=by
  refine Zzj _ ?_
  have:=List.pairwise_mergeSort (le:=fun x y:Int=>decide (x≤y)) (fun a b c h1 h2=>by simp only [decide_eq_true_eq] at *; omega) (fun a b=>by simp only [Bool.or_eq_true,decide_eq_true_eq]; omega) raw
  exact this.imp fun h=>by simpa using h
 have hrng:∀ x∈raw,0≤x∧x≤topOf (f:Int) + 1:=by
  intro x hx
  rw [← hr] at hx
  simp only [List.mem_append,List.mem_cons,List.not_mem_nil,or_false,rawC,List.mem_flatMap] at hx
  rcases hx with (rfl | rfl) | ⟨b',hb',rfl | rfl⟩
  ·omega
  ·omega
  ·have:=(hb'.elim (fun h=>ha b' h) (fun h=>hb b' h)).at_ hf; omega
  ·have:=(hb'.elim (fun h=>ha b' h) (fun h=>hb b' h)).at_ hf; omega
 refine Ok.ret ⟨hasc,Zwo hasc ((hmem 0).2 (by rw [← hr]; simp)) fun x hx=>(hrng x ((hmem x).1 hx)).1,Z0l hasc ((hmem _).2 (by rw [← hr]; simp)) fun x hx=>(hrng x ((hmem x).1 hx)).2,fun x hx=>⟨(hmem _).2 ?_,(hmem _).2 ?_⟩,?_⟩
 ·rw [← hr]; exact List.mem_append_right _ (List.mem_flatMap.2 ⟨x,hx,by simp⟩)
 ·rw [← hr]; exact List.mem_append_right _ (List.mem_flatMap.2 ⟨x,hx,by simp⟩)
 ·have:=dd_len (raw.mergeSort (fun x y=>decide (x≤y)))
  omega
theorem Zzm {f:Nat} (hf:f<5) {a b:List Bx} (hl:a.length + b.length≤400000):Zgr a b (f:Int)=some ((a++b).map fun x=>x.get (f:Int)):=by
 unfold Zgr
 have h1:=Zch (L:=Zdq a (f:Int)) a (fun s _ x=>s++[x.get (f:Int)]) id (fun i s=>s.length≤i) (by omega) (fun n s i hi hs=>by
  rw [Zdq]
  simp only [show ((i:Int)<(a.length:Int)) from by omega,decide_true,if_true,Z1 hi,Option.bind_some,wsucc (by omega:i<1000000000001),List.length_singleton]
  rw [if_pos ⟨by omega,by omega⟩,if_pos (show s.length + 1≤lim by unfold lim; omega)]
  exact⟨rfl,by simp; omega⟩) (fun n s hs=>by rw [Zdq]; simp) [] (Nat.le_refl _)
 rw [h1.1,Zii]
 simp only [id,List.nil_append,Option.bind_some]
 have h2:=Zch (L:=Zdr b (f:Int)) b (fun s _ x=>s++[x.get (f:Int)]) id (fun i s=>s.length≤a.length + i) (by omega) (fun n s i hi hs=>by
  rw [Zdr]
  simp only [show ((i:Int)<(b.length:Int)) from by omega,decide_true,if_true,Z1 hi,Option.bind_some,wsucc (by omega:i<1000000000001),List.length_singleton]
  rw [if_pos ⟨by omega,by omega⟩,if_pos (show s.length + 1≤lim by unfold lim; omega)]
  exact⟨rfl,by simp; omega⟩) (fun n s hs=>by rw [Zdr]; simp) (a.map fun x=>x.get (f:Int)) (by simp)
 rw [h2.1,Zii,List.map_append]
 rfl
theorem Z1j {l:List Int} {v:Int} (hl:l.length≤1000000):∀(k i n:Nat),l.length - i=k→k<n→i≤l.length→(∀ x∈l.take i,x<v)→∃ j,Zds l v n (i:Int)=some ((j:Nat):Int)∧j≤l.length∧(∀ x∈l.take j,x<v)∧∀ h:j<l.length,v≤l[j]:=by
 intro k
 induction k with
 | zero=>
  intro i n hk hn hi hx
  cases n with
  | zero=>omega
  | succ n=>
  refine⟨i,?_,hi,hx,fun h=>by omega⟩
  rw [Zds]
  have:decide ((i:Int)<(l.length:Int))=false:=by simp; omega
  rw [this]; rfl
 | succ k ih=>
  intro i n hk hn hi hx
  cases n with
  | zero=>omega
  | succ n=>
  have h1:i<l.length:=by omega
  rw [Zds]
  have:decide ((i:Int)<(l.length:Int))=true:=by simp; omega
  rw [this]
  simp only [Option.bind_some,if_true,Z1 h1]
  by_cases hlt:l[i]<v
  ·rw [if_pos (decide_eq_true hlt),wsucc (by omega)]
   refine ih (i + 1) n (by omega) (by omega) (by omega) fun x hx'=>?_
   rw [List.take_add_one,List.getElem?_eq_getElem h1] at hx'
   rcases List.mem_append.1 hx' with h | h
   ·exact hx x h
   ·simp at h; rw [h]; exact hlt
  ·rw [if_neg (by simpa using hlt)]
   exact⟨i,rfl,hi,hx,fun _=>by omega⟩
structure InsP (l:List Int) (v top:Int) (r:List Int):Prop where
 asc:r.Pairwise (·<·)
 mem:∀ x,x∈r ↔ x∈l∨(x=v∧v≤top)
 len:r.length≤l.length + 1
theorem Zu3 {l:List Int} {v top:Int} (hl:l.length≤1000000) (ha:l.Pairwise (·<·)) (h0:0≤top) (h1:top<4294967296):Ok (Zfm l v top) (InsP l v top):=by
 unfold Zfm
 rw [wu64 h0 (by omega)]
 by_cases hv:v > top
 ·rw [if_pos (decide_eq_true hv)]
  exact Ok.ret ⟨ha,fun x=>⟨Or.inl,fun h=>h.elim id fun h=>by omega⟩,by omega⟩
 ·rw [if_neg (by simpa using hv)]
  obtain⟨j,e,g1,g2,g3⟩:=Z1j (v:=v) hl l.length 0 fuel (by omega) (by unfold fuel; omega) (by omega) (fun x h=>(by cases h))
  rw [show ((0:Nat):Int)=0 from rfl] at e
  rw [e]
  simp only [Option.bind_some]
  have tail:∀ x∈l.drop j,v≤x:=by
   intro x hx
   by_cases hj:j<l.length
   ·rw [List.drop_eq_getElem_cons hj] at hx
    have hp:=ha.sublist (List.drop_sublist j l)
    rw [List.drop_eq_getElem_cons hj] at hp
    have:=g3 hj
    rcases List.mem_cons.1 hx with rfl | hx
    ·exact this
    ·have:=(List.pairwise_cons.1 hp).1 x hx; omega
   ·rw [List.drop_eq_nil_of_le (by omega)] at hx; cases hx
  have fin:(¬ ∃ h:j<l.length,l[j]=v)→Ok (if 0≤(0:Int)∧(0:Int)≤(j:Int)∧(j:Int)≤(List.length l:Int) then
    if List.length ([]:(List Int)) + List.length (List.drop (Int.toNat (0:Int)) (List.take (Int.toNat (j:Int)) l))≤lim then
    if List.length (([]:(List Int))++(List.drop (Int.toNat (0:Int)) (List.take (Int.toNat (j:Int)) l))) + List.length [v]≤lim then
    if 0≤(j:Int)∧(j:Int)≤(List.length l:Int)∧(List.length l:Int)≤(List.length l:Int) then
    if List.length ((([]:(List Int))++(List.drop (Int.toNat (0:Int)) (List.take (Int.toNat (j:Int)) l)))++[v]) + List.length (List.drop (Int.toNat (j:Int)) (List.take (Int.toNat (List.length l:Int)) l))≤lim then
    some (((([]:(List Int))++(List.drop (Int.toNat (0:Int)) (List.take (Int.toNat (j:Int)) l)))++[v])++(List.drop (Int.toNat (j:Int)) (List.take (Int.toNat (List.length l:Int)) l)))
    else none
    else none
    else none
    else none
    else none) (InsP l v top):=by
   intro hne
   have e1:List.drop (Int.toNat (0:Int)) (List.take (Int.toNat (j:Int)) l)=l.take j:=rfl
   have e2:List.drop (Int.toNat (j:Int)) (List.take (Int.toNat (List.length l:Int)) l)=l.drop j:=by rw [Int.toNat_natCast,Int.toNat_natCast,List.take_length]
   rw [e1,e2,List.nil_append]
   have l1:(l.take j).length=j:=by rw [List.length_take]; omega
   have l2:(l.drop j).length=l.length - j:=List.length_drop
   refine Ok.chk ⟨by omega,by omega,by omega⟩ (Ok.chk ?_ (Ok.chk ?_ (Ok.chk ⟨by omega,by omega,by omega⟩ (Ok.chk ?_ (Ok.ret ⟨?_,fun x=>?_,?_⟩)))))
   ·rw [l1]; unfold lim; simp; omega
   ·rw [l1]; unfold lim; simp; omega
   ·rw [List.length_append,l1,l2]; unfold lim; simp; omega
   ·have hp1:=ha.sublist (List.take_sublist j l)
    have hp2:=ha.sublist (List.drop_sublist j l)
    have hlt:∀ x∈l.drop j,v<x:=by
     intro x hx
     have:=tail x hx
     rcases Int.lt_or_eq_of_le this with h | h
     ·exact h
     ·exfalso
      subst h
      by_cases hj:j<l.length
      ·have hv:=g3 hj
       rw [List.drop_eq_getElem_cons hj] at hx hp2
       rcases List.mem_cons.1 hx with h | h
       ·exact hne ⟨hj,h.symm⟩
       ·have:=(List.pairwise_cons.1 hp2).1 _ h; omega
      ·rw [List.drop_eq_nil_of_le (by omega)] at hx; cases hx
    rw [List.append_assoc,List.pairwise_append]
    refine⟨hp1,List.pairwise_cons.2 ⟨hlt,hp2⟩,fun x hx y hy=>?_⟩
    have:=g2 x hx
    rcases List.mem_cons.1 hy with rfl | hy
    ·exact this
    ·have:=hlt y hy; omega
   ·have hm:x∈l ↔ x∈l.take j∨x∈l.drop j:=by rw [← List.mem_append,List.take_append_drop]
    simp only [List.mem_append,List.mem_cons,List.not_mem_nil,or_false,hm]
    constructor
    ·rintro((h | h) | h)
     ·exact Or.inl (Or.inl h)
     ·exact Or.inr ⟨h,by omega⟩
     ·exact Or.inl (Or.inr h)
    ·rintro((h | h) | h)
     ·exact Or.inl (Or.inl h)
     ·exact Or.inr h
     ·exact Or.inl (Or.inr h.1)
   ·rw [List.length_append,List.length_append,l1,l2]; simp; omega
  by_cases hj:j<l.length
  ·have:decide ((j:Int)<(l.length:Int))=true:=by simp; omega
   rw [this]
   simp only [if_true,Z1 hj,Option.bind_some]
   by_cases he:l[j]=v
   ·rw [if_pos (by simpa using he)]
    refine Ok.ret ⟨ha,fun x=>⟨Or.inl,fun h=>h.elim id fun h=>?_⟩,by omega⟩
    rw [h.1,← he]; exact List.getElem_mem hj
   ·rw [if_neg (by simpa using he)]
    exact fin fun⟨_,h⟩=>he h
  ·have:decide ((j:Int)<(l.length:Int))=false:=by simp; omega
   rw [this]
   simp only [Bool.false_eq_true,if_false,Option.bind_some]
   exact fin fun⟨h,_⟩=>hj h
structure StP (rs:List Zb) (top:Int) (r:List Int):Prop where
 asc:r.Pairwise (·<·)
 z:0∈r
 rng:∀ x∈r,0≤x∧x≤top
 cut:∀ y∈rs,y.Lo∈r∧(y.Hi + 1≤top→y.Hi + 1∈r)
 len:r.length≤2 * rs.length + 1
theorem Zzn {rs:List Zb} {top:Int} (hl:rs.length≤400000) (h0:0≤top) (h1:top<4294967296) (hr:∀ r∈rs,0≤r.Lo∧r.Lo≤r.Hi∧r.Hi≤top):Ok (Zgs rs top) (StP rs top):=by
 unfold Zgs
 refine Ok.bind (p:=StP rs top) ?_ fun v hv=>Ok.ret hv
 refine Zt4 (L:=Zdt rs top) rs (fun i s=>StP (rs.take i) top s) (by omega) (fun n s i hi hs k=>?_) (fun n s hs=>?_) _ ?_
 ·rw [Zdt]
  have hy:=hr _ (List.getElem_mem hi)
  have ll:(rs.take i).length=i:=by rw [List.length_take]; omega
  have hsl:=hs.len
  simp only [show ((i:Int)<(rs.length:Int)) from by omega,decide_true,if_true,Z1 hi,Option.bind_some,wsucc (by omega:i<1000000000001)]
  rw [if_pos (decide_eq_true hy.2.1),wu64 (x:=(rs[i]).Lo) (by omega) (by omega),wu64 (x:=(rs[i]).Hi) (by omega) (by omega),wu64 (by omega) (by omega)]
  refine Ok.bind (p:=StP (rs.take (i + 1)) top) ?_ fun v hv=>k v hv
  refine Ok.bind (Zu3 (by omega) hs.asc h0 h1) fun r1 g1=>Ok.bind (Zu3 (by have:=g1.len; omega) g1.asc h0 h1) fun r2 g2=>Ok.ret ⟨g2.asc,?_,fun x hx=>?_,fun y hy'=>?_,?_⟩
  ·exact(g2.mem 0).2 (Or.inl ((g1.mem 0).2 (Or.inl hs.z)))
  ·rcases (g2.mem x).1 hx with h | h
   ·rcases (g1.mem x).1 h with h | h
    ·exact hs.rng x h
    ·omega
   ·omega
  ·rw [List.take_add_one,List.getElem?_eq_getElem hi] at hy'
   rcases List.mem_append.1 hy' with h | h
   ·have:=hs.cut y h
    exact⟨(g2.mem _).2 (Or.inl ((g1.mem _).2 (Or.inl this.1))),fun hh=>(g2.mem _).2 (Or.inl ((g1.mem _).2 (Or.inl (this.2 hh))))⟩
   ·have h:y=rs[i]:=by simpa using h
    subst h
    exact⟨(g2.mem _).2 (Or.inl ((g1.mem _).2 (Or.inr ⟨rfl,by omega⟩))),fun hh=>(g2.mem _).2 (Or.inr ⟨rfl,hh⟩)⟩
  ·have:=g1.len
   have:=g2.len
   have:(rs.take (i + 1)).length=i + 1:=by rw [List.length_take]; omega
   omega
 ·rw [Zdt,if_neg (by simp)]
  rw [List.take_length] at hs
  exact Ok.ret hs
 ·exact⟨List.pairwise_singleton ..,List.mem_singleton.2 rfl,fun x hx=>by rw [List.mem_singleton] at hx; omega,fun y hy=>(by cases hy),by simp⟩
theorem Zyv {f:Nat} (hf:f<5) {l:List Bx} (hb:∀ x∈l,BOk x) {ss:List Int} (h:StP (l.map fun x=>x.get (f:Int)) (topOf (f:Int)) ss):Pts f l (ss++[topOf (f:Int) + 1]):=by
 have ht:=topN hf
 refine⟨List.pairwise_append.2 ⟨h.asc,List.pairwise_singleton ..,fun x hx y hy=>?_⟩,?_,List.getLast?_concat,fun b hb'=>?_,?_⟩
 ·rw [List.mem_singleton] at hy
  have:=h.rng x hx
  omega
 ·obtain⟨tl,e⟩:=Zwo h.asc h.z fun x hx=>(h.rng x hx).1
  exact⟨tl++[topOf (f:Int) + 1],by rw [e]; rfl⟩
 ·have hr:=(hb b hb').at_ hf
  have hc:=h.cut (b.get (f:Int)) (List.mem_map.2 ⟨b,hb',rfl⟩)
  refine⟨List.mem_append_left _ hc.1,?_⟩
  by_cases hh:(b.get (f:Int)).Hi + 1≤topOf (f:Int)
  ·exact List.mem_append_left _ (hc.2 hh)
  ·refine List.mem_append_right _ (List.mem_singleton.2 ?_)
   omega
 ·have:=h.len
  rw [List.length_map] at this
  rw [List.length_append,List.length_singleton]; omega
end Go.AM

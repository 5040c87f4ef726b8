/- Parts of a proof, printed short. No condition. -/
import Derived.Test.YtkeeaccnnljimaaGreatDoorProg
import Derived.Test.YtkeeaccnnljimaaGreatDoorHpQ3
set_option maxRecDepth 100000
namespace Go.AM
open Go Go.Proofs
def Ze2 (a:List Value) (r:(List Int)):PV→List Blk→Prop:=fun p K=>p=(.tup [])∧K=[.cells (cel Zc r a)]
abbrev Zg0 (a:List Value) (r:(List Int)):Exit→St→List Blk→Prop:=FnQ Tryz.prog Tryz.f157.results 1 (Ze2 a r)
theorem Ziu:∀(nr:Nat) (g:Nat) (a1:(List Int)) (d:List Value) (v:Int) (w:Int) (x:Int) (r:(List Int)) (hF:Z1 nr g a1 v w x=some r),ACall Tryz.prog glob 157 [(.vw 0 0 g),(i64 v),(i64 w),(i64 x)] [.cells (cel Zc a1 d)] (Ze2 d r):=by
 intro nr
 induction nr with
 | zero=>intro g a1 d v w x r hF; exact noneb (by rw [Z1] at hF; exact hF)
 | succ nr ih=>
  intro g a1 d v w x r hF
  refine ACall.body Tryz.func157 rfl (by kernel_rfl) ?_
  rw [Z1] at hF
  refine AWP.seq (AWP.rg0 [] [(0,(.vw 0 0 g)),(1,(i64 v)),(2,(i64 w)),(3,(i64 x)),(8,(vb true))] (AWP.seq (AWP.rg0 [] [(0,(.vw 0 0 g)),(1,(i64 v)),(2,(i64 w)),(3,(i64 x)),(8,(vb true)),(9,(vb true))] ?_)))
  obtain⟨b3,b9,hF⟩:=bindb hF
  refine AWP.mid (fun e st H=>(e=.ret∧∃ r,b3=r∧Zg0 d r e st H)) ?_ ?_
  ·clear hF
   refine AWP.kp [0,1,2,3,8,9] 1 ?_
   refine AWP.bround (fun n st H=>∃ o,∃ b,∃ a,∃ l,∃ j,∃ k,Zao g (Z1 nr) n o b a l j k=some b3∧st=[(0,(.vw 0 0 g)),(1,(i64 b)),(2,(i64 a)),(3,(i64 l)),(8,(vb j)),(9,(vb k))]∧H=[.cells (cel Zc o d)]) fuel ⟨a1,v,w,x,true,true,b9,by kernel_rfl,by kernel_rfl⟩ ?_
   rintro a2 st H ⟨o,b,a,l,j,k,hF,rfl,rfl⟩
   cases a2 with
   | zero=>exact noneb hF
   | succ a2=>
    rw [Zao] at hF
    refine AWP.block (AWP.seq (AWP.rg0 [] [(0,(.vw 0 0 g)),(1,(i64 b)),(2,(i64 a)),(3,(i64 l)),(8,(vb j)),(9,(vb k)),(10,(i64 (ZI (a - b))))] (AWP.seq (AWP.seq (AWP.rg0 [] [(0,(.vw 0 0 g)),(1,(i64 b)),(2,(i64 a)),(3,(i64 l)),(8,(vb j)),(9,(vb k)),(10,(i64 (ZI (a - b)))),(23,(vb (decide ((ZI (a - b))≤(12:Int)))))] ?_)))))
    refine AWP.cif hF (fun c0 hF=>?_) (fun c0 hF=>?_)
    ·refine AWP.seq ?_
     obtain⟨a5,c1,hF⟩:=bindb hF
     refine AWP.rg [(3,.callC Tryz.func160 [] (closedH.c (Zx (row:=Zc) (fun _=>rfl) o d) closedH.n) (closedH.c (Zx (row:=Zc) (fun _=>rfl) a5 d) closedH.n) (Zhy g o d b a a5 c1))] [] [.cells (cel Zc a5 d)] (AWP.ret ?_)
     exact LeQ.of ⟨rfl,a5,(someb hF).symm,(FnQ.f0 1 (.inr rfl))⟩
    ·refine AWP.skip (AWP.seq (AWP.seq (AWP.rg0 [] [(0,(.vw 0 0 g)),(1,(i64 b)),(2,(i64 a)),(3,(i64 l)),(8,(vb j)),(9,(vb k)),(10,(i64 (ZI (a - b)))),(29,(vb (l == (0:Int))))] ?_)))
     refine AWP.cif hF (fun c2 hF=>?_) (fun c2 hF=>?_)
     ·refine AWP.seq ?_
      obtain⟨a6,c3,hF⟩:=bindb hF
      refine AWP.rg [(3,.callC Tryz.func161 [] (closedH.c (Zx (row:=Zc) (fun _=>rfl) o d) closedH.n) (closedH.c (Zx (row:=Zc) (fun _=>rfl) a6 d) closedH.n) (Zi4 g o d b a a6 c3))] [] [.cells (cel Zc a6 d)] (AWP.ret ?_)
      exact LeQ.of ⟨rfl,a6,(someb hF).symm,(FnQ.f0 1 (.inr rfl))⟩
     ·refine AWP.skip ?_
      obtain⟨c4,c5,hF⟩:=bindb hF
      refine AWP.seq ?_
      refine AWP.mid (fun e st H=>(e=.normal∧∃ q,∃ i,c4=(q,i)∧st=[(0,(.vw 0 0 g)),(1,(i64 b)),(2,(i64 a)),(3,(i64 i)),(8,(vb j)),(9,(vb k)),(10,(i64 (ZI (a - b))))]∧H=[.cells (cel Zc q d)])) ?_ ?_
      ·clear hF
       have hF:=c5
       refine AWP.seq (AWP.rg0 [] [(0,(.vw 0 0 g)),(1,(i64 b)),(2,(i64 a)),(3,(i64 l)),(8,(vb j)),(9,(vb k)),(10,(i64 (ZI (a - b)))),(35,(vb (!j)))] ?_)
       refine AWP.cif hF (fun c6 hF=>?_) (fun c6 hF=>?_)
       ·refine AWP.seq ?_
        obtain⟨a7,c7,hF⟩:=bindb hF
        refine AWP.rg [(3,.callC Tryz.func162 [] (closedH.c (Zx (row:=Zc) (fun _=>rfl) o d) closedH.n) (closedH.c (Zx (row:=Zc) (fun _=>rfl) a7 d) closedH.n) (Zh0 g o d b a a7 c7))] [(0,(.vw 0 0 g)),(1,(i64 b)),(2,(i64 a)),(3,(i64 l)),(8,(vb j)),(9,(vb k)),(10,(i64 (ZI (a - b))))] [.cells (cel Zc a7 d)] (AWP.rg0 [] [(0,(.vw 0 0 g)),(1,(i64 b)),(2,(i64 a)),(3,(i64 (ZI (l - (1:Int))))),(8,(vb j)),(9,(vb k)),(10,(i64 (ZI (a - b))))] (LeQ.start (LeQ.pk [0,1,2,3,8,9,10] 1 ?_)))
        exact⟨rfl,a7,(ZI (l - (1:Int))),(someb hF).symm,by kernel_rfl,by kernel_rfl⟩
       ·refine AWP.skip (LeQ.start (LeQ.pk [0,1,2,3,8,9,10] 1 ?_))
        exact⟨rfl,o,l,(someb hF).symm,by kernel_rfl,by kernel_rfl⟩
      ·rintro _ _ _ ⟨rfl,q,i,rfl,rfl,rfl⟩
       refine AWP.seq ?_
       obtain⟨m,c8,hF⟩:=bindb hF
       refine AWP.rg0 [(3,.callC Tryz.func163 [] (closedH.c (Zx (row:=Zc) (fun _=>rfl) q d) closedH.n) (closedH.c (Zx (row:=Zc) (fun _=>rfl) q d) closedH.n) (Zii g q d b a m c8))] [(0,(.vw 0 0 g)),(1,(i64 b)),(2,(i64 a)),(3,(i64 i)),(8,(vb j)),(9,(vb k)),(10,(i64 (ZI (a - b)))),(11,(i64 m.1)),(12,(i64 m.2))] ?_
       obtain⟨c9,d0,hF⟩:=bindb hF
       refine AWP.seq ?_
       refine AWP.mid (fun e st H=>(e=.normal∧∃ y,∃ p,∃ a8,c9=(y,p,a8)∧st=[(0,(.vw 0 0 g)),(1,(i64 b)),(2,(i64 a)),(3,(i64 i)),(8,(vb j)),(9,(vb k)),(10,(i64 (ZI (a - b)))),(11,(i64 p)),(12,(i64 a8))]∧H=[.cells (cel Zc y d)])) ?_ ?_
       ·clear hF
        have hF:=d0
        refine AWP.seq (AWP.rg0 [] [(0,(.vw 0 0 g)),(1,(i64 b)),(2,(i64 a)),(3,(i64 i)),(8,(vb j)),(9,(vb k)),(10,(i64 (ZI (a - b)))),(11,(i64 m.1)),(12,(i64 m.2)),(50,(vb (m.2 == (2:Int))))] ?_)
        refine AWP.cif hF (fun d1 hF=>?_) (fun d1 hF=>?_)
        ·refine AWP.seq ?_
         obtain⟨a9,d2,hF⟩:=bindb hF
         refine AWP.rg [(3,.callC Tryz.func164 [] (closedH.c (Zx (row:=Zc) (fun _=>rfl) q d) closedH.n) (closedH.c (Zx (row:=Zc) (fun _=>rfl) a9 d) closedH.n) (Zic g q d b a a9 d2))] [(0,(.vw 0 0 g)),(1,(i64 b)),(2,(i64 a)),(3,(i64 i)),(8,(vb j)),(9,(vb k)),(10,(i64 (ZI (a - b)))),(11,(i64 m.1))] [.cells (cel Zc a9 d)] (AWP.seq (AWP.rg0 [] [(0,(.vw 0 0 g)),(1,(i64 b)),(2,(i64 a)),(3,(i64 i)),(8,(vb j)),(9,(vb k)),(10,(i64 (ZI (a - b)))),(11,(i64 (ZI ((ZI (a - (1:Int))) - (ZI (m.1 - b))))))] (AWP.rg0 [] [(0,(.vw 0 0 g)),(1,(i64 b)),(2,(i64 a)),(3,(i64 i)),(8,(vb j)),(9,(vb k)),(10,(i64 (ZI (a - b)))),(11,(i64 (ZI ((ZI (a - (1:Int))) - (ZI (m.1 - b)))))),(12,(i64 (1:Int)))] (LeQ.start (LeQ.pk [0,1,2,3,8,9,10,11,12] 1 ?_)))))
         exact⟨rfl,a9,(ZI ((ZI (a - (1:Int))) - (ZI (m.1 - b)))),(1:Int),(someb hF).symm,by kernel_rfl,by kernel_rfl⟩
        ·refine AWP.skip (LeQ.start (LeQ.pk [0,1,2,3,8,9,10,11,12] 1 ?_))
         exact⟨rfl,q,m.1,m.2,(someb hF).symm,by kernel_rfl,by kernel_rfl⟩
       ·rintro _ _ _ ⟨rfl,y,p,a8,rfl,rfl,rfl⟩
        obtain⟨b4,d3,hF⟩:=bindb hF
        refine AWP.seq ?_
        refine AWP.mid (fun e st H=>(e=.normal∧∃ u,b4=(.inl u)∧st=[(0,(.vw 0 0 g)),(1,(i64 b)),(2,(i64 a)),(3,(i64 i)),(8,(vb j)),(9,(vb k)),(10,(i64 (ZI (a - b)))),(11,(i64 p))]∧H=[.cells (cel Zc u d)])∨(e=.ret∧∃ r,b4=(.inr r)∧Zg0 d r e st H)) ?_ ?_
        ·clear hF
         have hF:=d3
         refine AWP.seq ?_
         obtain⟨d4,a3,hF⟩:=bindb hF
         replace a3:=someb a3
         obtain⟨b5,a4,hF⟩:=bindb hF
         replace a4:=someb a4
         refine AWP.to [(0,(.vw 0 0 g)),(1,(i64 b)),(2,(i64 a)),(3,(i64 i)),(8,(vb j)),(9,(vb k)),(10,(i64 (ZI (a - b)))),(11,(i64 p)),(68,(vb (b5 && (a8 == (1:Int)))))] [.cells (cel Zc y d)] ?_ ?_
         ·cases d4 with
          | false=>
           subst a4
           exact AWP.rgT [(1,.bool a3)]
          | true=>
           cases b5 with
           | false=>
            exact AWP.rgT [(1,.bool a3),(4,.bool a4)]
           | true=>
            exact AWP.rgT [(1,.bool a3),(4,.bool a4)]
         refine AWP.cif hF (fun d5 hF=>?_) (fun d5 hF=>?_)
         ·refine AWP.seq ?_
          obtain⟨a0,d6,hF⟩:=bindb hF
          refine AWP.rg [(3,.callC Tryz.func165 [] (closedH.c (Zx (row:=Zc) (fun _=>rfl) y d) closedH.n) (closedH.c (Zx (row:=Zc) (fun _=>rfl) a0.2 d) closedH.n) (Zg6 g y d b a a0 d6))] [(0,(.vw 0 0 g)),(1,(i64 b)),(2,(i64 a)),(3,(i64 i)),(8,(vb j)),(9,(vb k)),(10,(i64 (ZI (a - b)))),(11,(i64 p)),(72,(vb a0.1))] [.cells (cel Zc a0.2 d)] ?_
          refine AWP.cif hF (fun d7 hF=>?_) (fun d7 hF=>?_)
          ·refine AWP.ret ?_
           exact LeQ.of (.inr ⟨rfl,a0.2,(someb hF).symm,(FnQ.f0 1 (.inr rfl))⟩)
          ·refine AWP.skip (LeQ.start (LeQ.pk [0,1,2,3,8,9,10,11] 1 ?_))
           exact(.inl ⟨rfl,a0.2,(someb hF).symm,by kernel_rfl,by kernel_rfl⟩)
         ·refine AWP.skip (LeQ.start (LeQ.pk [0,1,2,3,8,9,10,11] 1 ?_))
          exact(.inl ⟨rfl,y,(someb hF).symm,by kernel_rfl,by kernel_rfl⟩)
        ·rintro _ _ _ (⟨rfl,u,rfl,rfl,rfl⟩ | ⟨rfl,d8,rfl,hq⟩)
         ·refine AWP.seq (AWP.seq ?_)
          obtain⟨d9,b0,hF⟩:=bindb hF
          replace b0:=someb b0
          obtain⟨e0,b6,hF⟩:=bindb hF
          refine AWP.to [(0,(.vw 0 0 g)),(1,(i64 b)),(2,(i64 a)),(3,(i64 i)),(8,(vb j)),(9,(vb k)),(10,(i64 (ZI (a - b)))),(11,(i64 p)),(87,(vb e0))] [.cells (cel Zc u d)] ?_ ?_
          ·cases d9 with
           | false=>
            have e1:=someb (ifF b6 rfl)
            subst e1
            exact AWP.drT [(2,.bool b0)] 15 [] [] []
           | true=>
            have t:=ifT b6 rfl
            obtain⟨e2,b7,t⟩:=bindb t
            obtain⟨e3,b8,t⟩:=bindb t
            obtain⟨e4,e5,t⟩:=bindb t
            replace t:=someb t
            subst t
            exact AWP.drT [(2,.bool b0),(6,.idxV (Zs b7)),(7,.ldV Zc (s:=1) (fun _=>rfl) d (Zr b7) (0 + Int.toNat (ZI (b - (1:Int))) * 1) (Nat.zero_add _) []),(10,.idxV (Zs b8)),(11,.ldV Zc (s:=1) (fun _=>rfl) d (Zr b8) (0 + Int.toNat p * 1) (Nat.zero_add _) []),(12,.call Tryz.func166 [] (Za8 e2 e3 e4 e5))] 15 [] [] []
          refine AWP.cif hF (fun e6 hF=>?_) (fun e6 hF=>?_)
          ·refine AWP.seq ?_
           obtain⟨z,e7,hF⟩:=bindb hF
           refine AWP.rg [(4,.callC Tryz.func167 [] (closedH.c (Zx (row:=Zc) (fun _=>rfl) u d) closedH.n) (closedH.c (Zx (row:=Zc) (fun _=>rfl) z.2 d) closedH.n) (Zhq g u d b a p z e7))] [(0,(.vw 0 0 g)),(2,(i64 a)),(3,(i64 i)),(8,(vb j)),(9,(vb k)),(13,(i64 z.1))] [.cells (cel Zc z.2 d)] (AWP.seq (AWP.rg0 [] [(0,(.vw 0 0 g)),(1,(i64 z.1)),(2,(i64 a)),(3,(i64 i)),(8,(vb j)),(9,(vb k))] (AWP.exit (LeQ.start (LeQ.pk [0,1,2,3,8,9] 1 ?_)))))
           exact⟨a2,Nat.lt_succ_self _,z.2,z.1,a,i,j,k,hF,by kernel_rfl,by kernel_rfl⟩
          ·refine AWP.skip (AWP.seq ?_)
           obtain⟨f,e8,hF⟩:=bindb hF
           refine AWP.rg [(4,.callC Tryz.func168 [] (closedH.c (Zx (row:=Zc) (fun _=>rfl) u d) closedH.n) (closedH.c (Zx (row:=Zc) (fun _=>rfl) f.2.2 d) closedH.n) (Zit g u d b a p f e8))] [(0,(.vw 0 0 g)),(1,(i64 b)),(2,(i64 a)),(3,(i64 i)),(10,(i64 (ZI (a - b)))),(14,(i64 f.1)),(15,(vb f.2.1))] [.cells (cel Zc f.2.2 d)] (AWP.seq (AWP.rg0 [] [(0,(.vw 0 0 g)),(1,(i64 b)),(2,(i64 a)),(3,(i64 i)),(9,(vb f.2.1)),(10,(i64 (ZI (a - b)))),(14,(i64 f.1))] (AWP.seq (AWP.rg0 [] [(0,(.vw 0 0 g)),(1,(i64 b)),(2,(i64 a)),(3,(i64 i)),(9,(vb f.2.1)),(10,(i64 (ZI (a - b)))),(14,(i64 f.1)),(16,(i64 (ZI (f.1 - b)))),(17,(i64 (ZI (a - f.1))))] (AWP.seq (AWP.rg0 [] [(0,(.vw 0 0 g)),(1,(i64 b)),(2,(i64 a)),(3,(i64 i)),(9,(vb f.2.1)),(14,(i64 f.1)),(16,(i64 (ZI (f.1 - b)))),(17,(i64 (ZI (a - f.1)))),(18,(i64 (ZI (Int.tdiv (ZI (a - b)) (8:Int)))))] ?_))))))
           refine AWP.seq (AWP.rg0 [] [(0,(.vw 0 0 g)),(1,(i64 b)),(2,(i64 a)),(3,(i64 i)),(9,(vb f.2.1)),(14,(i64 f.1)),(16,(i64 (ZI (f.1 - b)))),(17,(i64 (ZI (a - f.1)))),(18,(i64 (ZI (Int.tdiv (ZI (a - b)) (8:Int))))),(113,(vb (decide ((ZI (f.1 - b))<(ZI (a - f.1))))))] ?_)
           refine AWP.cif hF (fun e9 hF=>?_) (fun e9 hF=>?_)
           ·refine AWP.seq (AWP.rg0 [] [(0,(.vw 0 0 g)),(1,(i64 b)),(2,(i64 a)),(3,(i64 i)),(8,(vb (decide ((ZI (f.1 - b)) ≥ (ZI (Int.tdiv (ZI (a - b)) (8:Int))))))),(9,(vb f.2.1)),(14,(i64 f.1))] (AWP.seq ?_))
            obtain⟨b1,f1,hF⟩:=bindb hF
            refine AWP.rg [(4,.callC Tryz.func157 [] (closedH.c (Zx (row:=Zc) (fun _=>rfl) f.2.2 d) closedH.n) (closedH.c (Zx (row:=Zc) (fun _=>rfl) b1 d) closedH.n) (ih g f.2.2 d b f.1 i b1 f1))] [(0,(.vw 0 0 g)),(2,(i64 a)),(3,(i64 i)),(8,(vb (decide ((ZI (f.1 - b)) ≥ (ZI (Int.tdiv (ZI (a - b)) (8:Int))))))),(9,(vb f.2.1)),(14,(i64 f.1))] [.cells (cel Zc b1 d)] (AWP.rg0 [] [(0,(.vw 0 0 g)),(1,(i64 (ZI (f.1 + (1:Int))))),(2,(i64 a)),(3,(i64 i)),(8,(vb (decide ((ZI (f.1 - b)) ≥ (ZI (Int.tdiv (ZI (a - b)) (8:Int))))))),(9,(vb f.2.1))] (LeQ.start (LeQ.pk [0,1,2,3,8,9] 1 ?_)))
            exact⟨a2,Nat.lt_succ_self _,b1,(ZI (f.1 + (1:Int))),a,i,(decide ((ZI (f.1 - b)) ≥ (ZI (Int.tdiv (ZI (a - b)) (8:Int))))),f.2.1,hF,by kernel_rfl,by kernel_rfl⟩
           ·refine AWP.seq (AWP.rg0 [] [(0,(.vw 0 0 g)),(1,(i64 b)),(2,(i64 a)),(3,(i64 i)),(8,(vb (decide ((ZI (a - f.1)) ≥ (ZI (Int.tdiv (ZI (a - b)) (8:Int))))))),(9,(vb f.2.1)),(14,(i64 f.1))] (AWP.seq ?_))
            obtain⟨b2,f2,hF⟩:=bindb hF
            refine AWP.rg [(5,.callC Tryz.func157 [] (closedH.c (Zx (row:=Zc) (fun _=>rfl) f.2.2 d) closedH.n) (closedH.c (Zx (row:=Zc) (fun _=>rfl) b2 d) closedH.n) (ih g f.2.2 d (ZI (f.1 + (1:Int))) a i b2 f2))] [(0,(.vw 0 0 g)),(1,(i64 b)),(3,(i64 i)),(8,(vb (decide ((ZI (a - f.1)) ≥ (ZI (Int.tdiv (ZI (a - b)) (8:Int))))))),(9,(vb f.2.1)),(14,(i64 f.1))] [.cells (cel Zc b2 d)] (AWP.rg0 [] [(0,(.vw 0 0 g)),(1,(i64 b)),(2,(i64 f.1)),(3,(i64 i)),(8,(vb (decide ((ZI (a - f.1)) ≥ (ZI (Int.tdiv (ZI (a - b)) (8:Int))))))),(9,(vb f.2.1))] (LeQ.start (LeQ.pk [0,1,2,3,8,9] 1 ?_)))
            exact⟨a2,Nat.lt_succ_self _,b2,b,f.1,i,(decide ((ZI (a - f.1)) ≥ (ZI (Int.tdiv (ZI (a - b)) (8:Int))))),f.2.1,hF,by kernel_rfl,by kernel_rfl⟩
         ·exact LeQ.of ⟨rfl,d8,(someb hF).symm,hq⟩
  ·rintro _ _ _ ⟨rfl,f3,rfl,hq⟩
   have hr:=someb hF
   subst hr
   exact hq
theorem Zjf (a:Nat) (b:(List Int)) (c:List Value) (d:Int) (f:Int) (g:Int) (r:(List Int)) (hF:Z1 fuel a b d f g=some r):ACall Tryz.prog glob 157 [(.vw 0 0 a),(i64 d),(i64 f),(i64 g)] [.cells (cel Zc b c)] (Ze2 c r):=Ziu fuel a b c d f g r hF
def Zj7 (a:List Value) (r:(List Int)):PV→List Blk→Prop:=fun p K=>p=(.tup [])∧K=[.cells (cel Zc r a)]
theorem Zj8 (a:Nat) (d:(List Int)) (b:List Value) (r:(List Int)) (hF:Zc5 a d=some r):ACall Tryz.prog glob 154 [(.vw 0 0 a)] [.cells (cel Zc d b)] (Zj7 b r):=by
 refine ACall.body Tryz.func154 rfl (by kernel_rfl) ?_
 unfold Zc5 at hF
 refine AWP.seq (AWP.rg0 [(1,.lenV a)] [(0,(.vw 0 0 a)),(2,(i64 (a:Int)))] ?_)
 obtain⟨g,i,hF⟩:=bindb hF
 obtain⟨f,j,hF⟩:=bindb hF
 refine AWP.rg [(4,.call Tryz.func158 [] (Zln (IntKind.wrap .u64 (a:Int)) g i)),(5,.callC Tryz.func157 [] (closedH.c (Zx (row:=Zc) (fun _=>rfl) d b) closedH.n) (closedH.c (Zx (row:=Zc) (fun _=>rfl) f b) closedH.n) (Zjf a d b (0:Int) (a:Int) g f j))] [] [.cells (cel Zc f b)] ?_
 have hr:=someb hF
 subst hr
 exact(FnQ.f0 1 (.inl rfl))
def Zg1 (a:List Value) (r:(Nat × (List Int))):PV→List Blk→Prop:=fun p K=>p=(.vw 0 0 r.1)∧K=[.cells (cel Zc r.2 a)]
abbrev Zjg (a:List Value) (r:(Nat × (List Int))):Exit→St→List Blk→Prop:=FnQ Tryz.prog Tryz.f155.results 1 (Zg1 a r)
theorem Zjh (a:Nat) (k:(List Int)) (c:List Value) (r:(Nat × (List Int))) (hF:Zcr a k=some r):ACall Tryz.prog glob 155 [(.vw 0 0 a)] [.cells (cel Zc k c)] (Zg1 c r):=by
 refine ACall.body Tryz.func155 rfl (by kernel_rfl) ?_
 unfold Zcr at hF
 refine AWP.seq (AWP.rg0 [] [(0,(.vw 0 0 a))] (AWP.seq (AWP.seq (AWP.rg0 [(1,.lenV a)] [(0,(.vw 0 0 a)),(8,(vb (decide ((a:Int)<(2:Int)))))] ?_))))
 refine AWP.cif hF (fun a2 hF=>?_) (fun a2 hF=>?_)
 ·refine AWP.seq (AWP.rg0 [] [(2,(.vw 0 0 a))] (AWP.ret ?_))
  have hr:=someb hF
  subst hr
  exact(FnQ.f0 1 (.inr rfl))
 ·refine AWP.skip (AWP.seq (AWP.seq (AWP.rg0 [] [(0,(.vw 0 0 a)),(3,(i64 (1:Int)))] ?_)))
  obtain⟨p,a3,hF⟩:=bindb hF
  refine AWP.mid (fun e st H=>(e=.normal∧p=(.inl ())∧st=[(0,(.vw 0 0 a))]∧H=[.cells (cel Zc k c)])∨(e=.ret∧∃ r,p=(.inr r)∧Zjg c r e st H)) ?_ ?_
  ·clear hF
   refine AWP.kp [0,3] 1 ?_
   refine AWP.bround (fun n st H=>∃ b,Za2 a k n b=some p∧st=[(0,(.vw 0 0 a)),(3,(i64 b))]∧H=[.cells (cel Zc k c)]) fuel ⟨(1:Int),a3,by kernel_rfl,by kernel_rfl⟩ ?_
   rintro q st H ⟨b,hF,rfl,rfl⟩
   cases q with
   | zero=>exact noneb hF
   | succ q=>
    rw [Za2] at hF
    refine AWP.seq (AWP.seq (AWP.rg0 [(2,.lenV a)] [(0,(.vw 0 0 a)),(3,(i64 b)),(13,(vb (decide (b<(a:Int)))))] ?_))
    refine AWP.cif hF (fun a4 hF=>?_) (fun a4 hF=>?_)
    ·refine AWP.skip (AWP.seq (AWP.block (AWP.seq ?_)))
     obtain⟨a5,y,hF⟩:=bindb hF
     obtain⟨a6,z,hF⟩:=bindb hF
     refine AWP.dr [(2,.idxV (Zs y)),(3,.ldV Zc (s:=1) (fun _=>rfl) c (Zr y) (0 + Int.toNat b * 1) (Nat.zero_add _) []),(7,.idxV (Zs z)),(8,.ldV Zc (s:=1) (fun _=>rfl) c (Zr z) (0 + Int.toNat (ZI (b - (1:Int))) * 1) (Nat.zero_add _) [])] 10 [] [] [] [(0,(.vw 0 0 a)),(3,(i64 b)),(25,(vb (a5 == a6)))] [.cells (cel Zc k c)] ?_
     refine AWP.cif hF (fun a7 hF=>?_) (fun a7 hF=>?_)
     ·refine AWP.seq ?_
      obtain⟨m,hF⟩:=chkb hF
      refine AWP.rg0 [(2,.sliceV m)] [(0,(.vw 0 0 a)),(3,(i64 b)),(4,(.vw 0 (0 + Int.toNat b * 1) (Int.toNat (a:Int) - Int.toNat b)))] (AWP.seq (AWP.seq (AWP.rg0 [] [(0,(.vw 0 0 a)),(3,(i64 b)),(4,(.vw 0 (0 + Int.toNat b * 1) (Int.toNat (a:Int) - Int.toNat b))),(5,(i64 (1:Int)))] ?_)))
      obtain⟨a0,a8,hF⟩:=bindb hF
      refine AWP.mid (fun e st H=>(e=.normal∧∃ i,∃ d,a0=(i,d)∧st=[(0,(.vw 0 0 a)),(3,(i64 d))]∧H=[.cells (cel Zc i c)])) ?_ ?_
      ·clear hF
       refine AWP.kp [0,3,4,5] 1 ?_
       refine AWP.bround (fun n st H=>∃ j,∃ g,∃ f,Za1 a b n j g f=some a0∧st=[(0,(.vw 0 0 a)),(3,(i64 g)),(4,(.vw 0 (0 + Int.toNat b * 1) (Int.toNat (a:Int) - Int.toNat b))),(5,(i64 f))]∧H=[.cells (cel Zc j c)]) fuel ⟨k,b,(1:Int),a8,by kernel_rfl,by kernel_rfl⟩ ?_
       rintro t st H ⟨j,g,f,hF,rfl,rfl⟩
       cases t with
       | zero=>exact noneb hF
       | succ t=>
        rw [Za1] at hF
        refine AWP.seq (AWP.seq (AWP.rg0 [(2,.lenV (Int.toNat (a:Int) - Int.toNat b))] [(0,(.vw 0 0 a)),(3,(i64 g)),(4,(.vw 0 (0 + Int.toNat b * 1) (Int.toNat (a:Int) - Int.toNat b))),(5,(i64 f)),(32,(vb (decide (f<(((Int.toNat (a:Int) - Int.toNat b):Nat):Int)))))] ?_))
        refine AWP.cif hF (fun a9 hF=>?_) (fun a9 hF=>?_)
        ·refine AWP.skip ?_
         obtain⟨b0,b1,hF⟩:=bindb hF
         refine AWP.seq ?_
         refine AWP.mid (fun e st H=>(e=.normal∧∃ o,∃ l,b0=(o,l)∧st=[(0,(.vw 0 0 a)),(3,(i64 l)),(4,(.vw 0 (0 + Int.toNat b * 1) (Int.toNat (a:Int) - Int.toNat b))),(5,(i64 f))]∧H=[.cells (cel Zc o c)])) ?_ ?_
         ·clear hF
          have hF:=b1
          refine AWP.block (AWP.seq ?_)
          obtain⟨b2,u,hF⟩:=bindb hF
          obtain⟨b3,v,hF⟩:=bindb hF
          refine AWP.dr [(2,.idxV (Zkp u)),(3,.ldV Zc (s:=1) (fun _=>rfl) c (Zqe u) ((0 + Int.toNat b * 1) + Int.toNat f * 1) (Zsn m.1 (Zkp u).1 _) []),(7,.idxV (Zkp v)),(8,.ldV Zc (s:=1) (fun _=>rfl) c (Zqe v) ((0 + Int.toNat b * 1) + Int.toNat (ZI (f - (1:Int))) * 1) (Zsn m.1 (Zkp v).1 _) [])] 10 [] [] [] [(0,(.vw 0 0 a)),(3,(i64 g)),(4,(.vw 0 (0 + Int.toNat b * 1) (Int.toNat (a:Int) - Int.toNat b))),(5,(i64 f)),(44,(vb (b2 != b3)))] [.cells (cel Zc j c)] ?_
          refine AWP.cif hF (fun b4 hF=>?_) (fun b4 hF=>?_)
          ·refine AWP.seq ?_
           obtain⟨w,x,hF⟩:=bindb hF
           obtain⟨b8,a1,hF⟩:=bindb hF
           refine AWP.rg [(4,.idxV (Zkp x)),(5,.ldV Zc (s:=1) (fun _=>rfl) c (Zqe x) ((0 + Int.toNat b * 1) + Int.toNat f * 1) (Zsn m.1 (Zkp x).1 _) []),(6,.idxV (Zs a1)),(7,.stV Zc (s:=1) (fun _=>rfl) c (Zr a1) w (0 + Int.toNat g * 1) (Nat.zero_add _) [])] [(0,(.vw 0 0 a)),(3,(i64 g)),(4,(.vw 0 (0 + Int.toNat b * 1) (Int.toNat (a:Int) - Int.toNat b))),(5,(i64 f))] [.cells (cel Zc (List.set j (Int.toNat g) w) c)] (AWP.rg0 [] [(0,(.vw 0 0 a)),(3,(i64 (ZI (g + (1:Int))))),(4,(.vw 0 (0 + Int.toNat b * 1) (Int.toNat (a:Int) - Int.toNat b))),(5,(i64 f))] (LeQ.start (LeQ.pk [0,3,4,5] 1 ?_)))
           exact⟨rfl,(List.set j (Int.toNat g) w),(ZI (g + (1:Int))),(someb hF).symm,by kernel_rfl,by kernel_rfl⟩
          ·refine AWP.skip (LeQ.start (LeQ.pk [0,3,4,5] 1 ?_))
           exact⟨rfl,j,g,(someb hF).symm,by kernel_rfl,by kernel_rfl⟩
         ·rintro _ _ _ ⟨rfl,o,l,rfl,rfl,rfl⟩
          refine AWP.rg0 [] [(0,(.vw 0 0 a)),(3,(i64 l)),(4,(.vw 0 (0 + Int.toNat b * 1) (Int.toNat (a:Int) - Int.toNat b))),(5,(i64 (ZI (f + (1:Int)))))] (LeQ.start (LeQ.pk [0,3,4,5] 1 ?_))
          exact⟨t,Nat.lt_succ_self _,o,l,(ZI (f + (1:Int))),hF,by kernel_rfl,by kernel_rfl⟩
        ·refine AWP.exit (LeQ.start (LeQ.pk [0,3] 1 ?_))
         exact⟨rfl,j,g,(someb hF).symm,by kernel_rfl,by kernel_rfl⟩
      ·rintro _ _ _ ⟨rfl,i,d,rfl,rfl,rfl⟩
       refine AWP.seq ?_
       obtain⟨b5,hF⟩:=chkb hF
       obtain⟨b6,hF⟩:=chkb hF
       refine AWP.rg [(2,.sliceV b5),(3,.clrV Zc (s:=1) (fun _=>rfl) (fun _=>rfl) c i (0:Int) (lo:=Int.toNat d) (n:=(Int.toNat (a:Int) - Int.toNat d)) b6 (0 + Int.toNat d * 1) (Nat.zero_add _))] [(0,(.vw 0 0 a)),(3,(i64 d))] [.cells (cel Zc (List.take (Int.toNat d) i++List.replicate (Int.toNat (a:Int) - Int.toNat d) (0:Int)++List.drop (Int.toNat d + (Int.toNat (a:Int) - Int.toNat d)) i) c)] (AWP.seq ?_)
       obtain⟨b7,hF⟩:=chkb hF
       refine AWP.rg0 [(2,.sliceV b7)] [(2,(.vw 0 0 (Int.toNat d)))] (AWP.ret ?_)
       exact LeQ.of (.inr ⟨rfl,((Int.toNat d),(List.take (Int.toNat d) i++List.replicate (Int.toNat (a:Int) - Int.toNat d) (0:Int)++List.drop (Int.toNat d + (Int.toNat (a:Int) - Int.toNat d)) i)),(someb hF).symm,(FnQ.f0 1 (.inr rfl))⟩)
     ·refine AWP.skip (AWP.rg0 [] [(0,(.vw 0 0 a)),(3,(i64 (ZI (b + (1:Int)))))] (LeQ.start (LeQ.pk [0,3] 1 ?_)))
      exact⟨q,Nat.lt_succ_self _,(ZI (b + (1:Int))),hF,by kernel_rfl,by kernel_rfl⟩
    ·refine AWP.exit (LeQ.start (LeQ.pk [0] 1 ?_))
     exact(.inl ⟨rfl,(someb hF).symm,by kernel_rfl,by kernel_rfl⟩)
  ·rintro _ _ _ (⟨rfl,rfl,rfl,rfl⟩ | ⟨rfl,b9,rfl,hq⟩)
   ·refine AWP.seq (AWP.rg0 [] [(2,(.vw 0 0 a))] (AWP.ret ?_))
    have hr:=someb hF
    subst hr
    exact(FnQ.f0 1 (.inr rfl))
   ·have hr:=someb hF
    subst hr
    exact hq
def Zfs (r:(List Int)):PV→List Blk→Prop:=fun p K=>p=(slc 1 Zc r)∧K=[]
abbrev Zh1 (r:(List Int)):Exit→St→List Blk→Prop:=FnQ Tryz.prog Tryz.f155.results 0 (Zfs r)
theorem Zh2 (r:(List Int)) (hF:Zcs=some r):ACall Tryz.prog glob 155 [(slc 1 Zc ([]:(List Int)))] [] (Zfs r):=by
 refine ACall.body Tryz.func155 rfl (by kernel_rfl) ?_
 unfold Zcs at hF
 refine AWP.seq (AWP.rg0 [] [(0,(slc 1 Zc ([]:(List Int))))] (AWP.seq (AWP.seq (AWP.rg0 [(1,.len Zc ([]:(List Int)))] [(0,(slc 1 Zc ([]:(List Int)))),(8,(vb (decide ((List.length ([]:(List Int)):Int)<(2:Int)))))] ?_))))
 refine AWP.cif hF (fun j hF=>?_) (fun j hF=>?_)
 ·refine AWP.seq (AWP.rg0 [] [(2,(slc 1 Zc ([]:(List Int))))] (AWP.ret ?_))
  have hr:=someb hF
  subst hr
  exact(FnQ.f0 0 (.inr rfl))
 ·refine AWP.skip (AWP.seq (AWP.seq (AWP.rg0 [] [(0,(slc 1 Zc ([]:(List Int)))),(3,(i64 (1:Int)))] ?_)))
  obtain⟨d,k,hF⟩:=bindb hF
  refine AWP.mid (fun e st H=>(e=.normal∧d=(.inl ())∧st=[(0,(slc 1 Zc ([]:(List Int))))]∧H=[])∨(e=.ret∧∃ r,d=(.inr r)∧Zh1 r e st H)) ?_ ?_
  ·clear hF
   refine AWP.kp [0,3] 0 ?_
   refine AWP.bround (fun n st H=>∃ a,Zcf n a=some d∧st=[(0,(slc 1 Zc ([]:(List Int)))),(3,(i64 a))]∧H=[]) fuel ⟨(1:Int),k,by kernel_rfl,by kernel_rfl⟩ ?_
   rintro f st H ⟨a,hF,rfl,rfl⟩
   cases f with
   | zero=>exact noneb hF
   | succ f=>
    rw [Zcf] at hF
    refine AWP.seq (AWP.seq (AWP.rg0 [(2,.len Zc ([]:(List Int)))] [(0,(slc 1 Zc ([]:(List Int)))),(3,(i64 a)),(13,(vb (decide (a<(List.length ([]:(List Int)):Int)))))] ?_))
    refine AWP.cif hF (fun l hF=>?_) (fun l hF=>?_)
    ·refine AWP.skip (AWP.seq (AWP.block (AWP.seq ?_)))
     obtain⟨m,o,hF⟩:=bindb hF
     obtain⟨p,q,hF⟩:=bindb hF
     refine AWP.dr [(2,.idx Zc o),(7,.idx Zc q)] 10 [] [] [] [(0,(slc 1 Zc ([]:(List Int)))),(3,(i64 a)),(25,(vb (m == p)))] [] ?_
     refine AWP.cif hF (fun s hF=>?_) (fun s hF=>?_)
     ·refine AWP.seq ?_
      obtain⟨t,hF⟩:=chkb hF
      refine AWP.rg0 [(2,.slice Zc ([]:(List Int)) t)] [(0,(slc 1 Zc ([]:(List Int)))),(3,(i64 a)),(4,(slc 1 Zc (List.drop (Int.toNat a) (List.take (Int.toNat (List.length ([]:(List Int)):Int)) ([]:(List Int))))))] (AWP.seq (AWP.seq (AWP.rg0 [] [(0,(slc 1 Zc ([]:(List Int)))),(3,(i64 a)),(4,(slc 1 Zc (List.drop (Int.toNat a) (List.take (Int.toNat (List.length ([]:(List Int)):Int)) ([]:(List Int)))))),(5,(i64 (1:Int)))] ?_)))
      obtain⟨i,u,hF⟩:=bindb hF
      refine AWP.mid (fun e st H=>e=.normal∧st=[(0,(slc 1 Zc ([]:(List Int)))),(3,(i64 i))]∧H=[]) ?_ ?_
      ·clear hF
       refine AWP.kp [0,3,4,5] 0 ?_
       refine AWP.bround (fun n st H=>∃ c,∃ b,Zce a n c b=some i∧st=[(0,(slc 1 Zc ([]:(List Int)))),(3,(i64 c)),(4,(slc 1 Zc (List.drop (Int.toNat a) (List.take (Int.toNat (List.length ([]:(List Int)):Int)) ([]:(List Int)))))),(5,(i64 b))]∧H=[]) fuel ⟨a,(1:Int),u,by kernel_rfl,by kernel_rfl⟩ ?_
       rintro g st H ⟨c,b,hF,rfl,rfl⟩
       cases g with
       | zero=>exact noneb hF
       | succ g=>
        rw [Zce] at hF
        refine AWP.seq (AWP.seq (AWP.rg0 [(2,.len Zc (List.drop (Int.toNat a) (List.take (Int.toNat (List.length ([]:(List Int)):Int)) ([]:(List Int)))))] [(0,(slc 1 Zc ([]:(List Int)))),(3,(i64 c)),(4,(slc 1 Zc (List.drop (Int.toNat a) (List.take (Int.toNat (List.length ([]:(List Int)):Int)) ([]:(List Int)))))),(5,(i64 b)),(32,(vb (decide (b<(List.length (List.drop (Int.toNat a) (List.take (Int.toNat (List.length ([]:(List Int)):Int)) ([]:(List Int)))):Int)))))] ?_))
        refine AWP.cif hF (fun v hF=>?_) (fun v hF=>?_)
        ·refine AWP.skip ?_
         obtain⟨w,x,hF⟩:=bindb hF
         refine AWP.seq ?_
         refine AWP.mid (fun e st H=>(e=.normal∧w=()∧st=[(0,(slc 1 Zc ([]:(List Int)))),(3,(i64 c)),(4,(slc 1 Zc (List.drop (Int.toNat a) (List.take (Int.toNat (List.length ([]:(List Int)):Int)) ([]:(List Int)))))),(5,(i64 b))]∧H=[])) ?_ ?_
         ·clear hF
          have hF:=x
          refine AWP.block (AWP.seq ?_)
          obtain⟨y,z,hF⟩:=bindb hF
          obtain⟨a0,a1,hF⟩:=bindb hF
          refine AWP.dr [(2,.idx Zc z),(7,.idx Zc a1)] 10 [] [] [] [(0,(slc 1 Zc ([]:(List Int)))),(3,(i64 c)),(4,(slc 1 Zc (List.drop (Int.toNat a) (List.take (Int.toNat (List.length ([]:(List Int)):Int)) ([]:(List Int)))))),(5,(i64 b)),(44,(vb (y != a0)))] [] ?_
          refine AWP.cif hF (fun a2 hF=>?_) (fun a2 hF=>?_)
          ·refine AWP.seq ?_
           exact noneb hF
          ·refine AWP.skip (LeQ.start (LeQ.pk [0,3,4,5] 0 ?_))
           exact⟨rfl,(someb hF).symm,by kernel_rfl,by kernel_rfl⟩
         ·rintro _ _ _ ⟨rfl,rfl,rfl,rfl⟩
          refine AWP.rg0 [] [(0,(slc 1 Zc ([]:(List Int)))),(3,(i64 c)),(4,(slc 1 Zc (List.drop (Int.toNat a) (List.take (Int.toNat (List.length ([]:(List Int)):Int)) ([]:(List Int)))))),(5,(i64 (ZI (b + (1:Int)))))] (LeQ.start (LeQ.pk [0,3,4,5] 0 ?_))
          exact⟨g,Nat.lt_succ_self _,c,(ZI (b + (1:Int))),hF,by kernel_rfl,by kernel_rfl⟩
        ·refine AWP.exit (LeQ.start (LeQ.pk [0,3] 0 ?_))
         have hr:=someb hF
         subst hr
         exact⟨rfl,by kernel_rfl,by kernel_rfl⟩
      ·rintro _ _ _ ⟨rfl,rfl,rfl⟩
       refine AWP.seq ?_
       exact noneb hF
     ·refine AWP.skip (AWP.rg0 [] [(0,(slc 1 Zc ([]:(List Int)))),(3,(i64 (ZI (a + (1:Int)))))] (LeQ.start (LeQ.pk [0,3] 0 ?_)))
      exact⟨f,Nat.lt_succ_self _,(ZI (a + (1:Int))),hF,by kernel_rfl,by kernel_rfl⟩
    ·refine AWP.exit (LeQ.start (LeQ.pk [0] 0 ?_))
     exact(.inl ⟨rfl,(someb hF).symm,by kernel_rfl,by kernel_rfl⟩)
  ·rintro _ _ _ (⟨rfl,rfl,rfl,rfl⟩ | ⟨rfl,a3,rfl,hq⟩)
   ·refine AWP.seq (AWP.rg0 [] [(2,(slc 1 Zc ([]:(List Int))))] (AWP.ret ?_))
    have hr:=someb hF
    subst hr
    exact(FnQ.f0 0 (.inr rfl))
   ·have hr:=someb hF
    subst hr
    exact hq
def Zqh (r:(List Int)):PV→List Blk→Prop:=fun p K=>p=(slc 1 Zc r)∧K=[]
theorem Ziv (b:Int) (a:(List ZL)) (r:(List Int)) (hF:Zdx b a=some r):ACall Tryz.prog glob 151 [(i64 b),(slc 1 Zq a)] [] (Zqh r):=by
 refine ACall.body Tryz.func151 rfl (by kernel_rfl) ?_
 unfold Zdx at hF
 refine AWP.seq (AWP.rg0 [] [(0,(i64 b)),(1,(slc 1 Zq a))] (AWP.seq ?_))
 obtain⟨l,y,hF⟩:=bindb hF
 refine AWP.rg [(1,.call Tryz.func119 [] (Zoh b l y)),(4,.m)] [(0,(i64 b)),(1,(slc 1 Zq a)),(5,(.own 0 (List.length [(0:Int),(IntKind.wrap .u64 ((IntKind.wrap .u64 l) + (1:Int)))])))] [bf 1 134 Zc [(0:Int),(IntKind.wrap .u64 ((IntKind.wrap .u64 l) + (1:Int)))] false] (AWP.seq (AWP.seq (AWP.rg0 [(1,.len Zq a)] [(0,(i64 b)),(5,(.own 0 (List.length [(0:Int),(IntKind.wrap .u64 ((IntKind.wrap .u64 l) + (1:Int)))]))),(15,(slc 1 Zq a)),(16,(i64 (List.length a:Int))),(17,(i64 (0:Int)))] ?_)))
 obtain⟨k,z,hF⟩:=bindb hF
 refine AWP.mid (fun e st H=>e=.normal∧st=[(5,(.own 0 (List.length k)))]∧H=[bf 1 134 Zc k false]) ?_ ?_
 ·clear hF
  refine AWP.kp [0,5,15,16,17] 1 ?_
  refine AWP.bround (fun n st H=>∃ j,∃ d,Zc0 b a n j d=some k∧st=[(0,(i64 b)),(5,(.own 0 (List.length j))),(15,(slc 1 Zq a)),(16,(i64 (List.length a:Int))),(17,(i64 d))]∧H=[bf 1 134 Zc j false]) fuel ⟨[(0:Int),(IntKind.wrap .u64 ((IntKind.wrap .u64 l) + (1:Int)))],(0:Int),z,by kernel_rfl,by kernel_rfl⟩ ?_
  rintro q st H ⟨j,d,hF,rfl,rfl⟩
  cases q with
  | zero=>exact noneb hF
  | succ q=>
   rw [Zc0] at hF
   refine AWP.seq (AWP.rg0 [] [(0,(i64 b)),(5,(.own 0 (List.length j))),(15,(slc 1 Zq a)),(16,(i64 (List.length a:Int))),(17,(i64 d)),(18,(vb (decide (d<(List.length a:Int)))))] (AWP.seq ?_))
   refine AWP.cif hF (fun a0 hF=>?_) (fun a0 hF=>?_)
   ·refine AWP.skip (AWP.seq (AWP.block (AWP.seq ?_)))
    obtain⟨c,a1,hF⟩:=bindb hF
    refine AWP.rg0 [(0,.idx Zq a1)] [(0,(i64 b)),(5,(.own 0 (List.length j))),(7,(slc 10 Za c)),(15,(slc 1 Zq a)),(16,(i64 (List.length a:Int))),(17,(i64 d))] (AWP.seq (AWP.rg0 [(1,.len Za c)] [(0,(i64 b)),(5,(.own 0 (List.length j))),(15,(slc 1 Zq a)),(16,(i64 (List.length a:Int))),(17,(i64 d)),(21,(slc 10 Za c)),(22,(i64 (List.length c:Int))),(23,(i64 (0:Int)))] ?_))
    obtain⟨o,a2,hF⟩:=bindb hF
    refine AWP.mid (fun e st H=>e=.normal∧st=[(0,(i64 b)),(5,(.own 0 (List.length o))),(15,(slc 1 Zq a)),(16,(i64 (List.length a:Int))),(17,(i64 d))]∧H=[bf 1 134 Zc o false]) ?_ ?_
    ·clear hF
     refine AWP.kp [0,5,15,16,17,21,22,23] 1 ?_
     refine AWP.bround (fun n st H=>∃ g,∃ i,Zcz b c n g i=some o∧st=[(0,(i64 b)),(5,(.own 0 (List.length g))),(15,(slc 1 Zq a)),(16,(i64 (List.length a:Int))),(17,(i64 d)),(21,(slc 10 Za c)),(22,(i64 (List.length c:Int))),(23,(i64 i))]∧H=[bf 1 134 Zc g false]) fuel ⟨j,(0:Int),a2,by kernel_rfl,by kernel_rfl⟩ ?_
     rintro t st H ⟨g,i,hF,rfl,rfl⟩
     cases t with
     | zero=>exact noneb hF
     | succ t=>
      rw [Zcz] at hF
      refine AWP.seq (AWP.rg0 [] [(0,(i64 b)),(5,(.own 0 (List.length g))),(15,(slc 1 Zq a)),(16,(i64 (List.length a:Int))),(17,(i64 d)),(21,(slc 10 Za c)),(22,(i64 (List.length c:Int))),(23,(i64 i)),(24,(vb (decide (i<(List.length c:Int)))))] (AWP.seq ?_))
      refine AWP.cif hF (fun a3 hF=>?_) (fun a3 hF=>?_)
      ·refine AWP.skip (AWP.seq (AWP.block (AWP.seq ?_)))
       obtain⟨f,a4,hF⟩:=bindb hF
       refine AWP.rg [(0,.idx Za a4)] [(0,(i64 b)),(5,(.own 0 (List.length g))),(9,(.ptr 1 0)),(15,(slc 1 Zq a)),(16,(i64 (List.length a:Int))),(17,(i64 d)),(21,(slc 10 Za c)),(22,(i64 (List.length c:Int))),(23,(i64 i))] [bf 1 134 Zc g false,.cells (Za f)] ?_
       obtain⟨v,hF⟩:=chkb hF
       obtain⟨w,hF⟩:=chkb hF
       obtain⟨a5,hF⟩:=chkb hF
       refine AWP.dr [(2,.ixd v),(4,.ldA Zl (Arr5.get f) 0 2 0 v),(7,.ixd w),(9,.ldA Zl (Arr5.get f) 0 2 1 w),(13,.app Zc (fun _=>by kernel_rfl) a5)] 14 [] [13] [] [(0,(i64 b)),(5,(.own 0 (List.length (g++[(IntKind.wrap .u64 (Arr5.get f b).Lo),(IntKind.wrap .u64 ((IntKind.wrap .u64 (Arr5.get f b).Hi) + (1:Int)))])))),(15,(slc 1 Zq a)),(16,(i64 (List.length a:Int))),(17,(i64 d)),(21,(slc 10 Za c)),(22,(i64 (List.length c:Int))),(23,(i64 i))] [bf 1 134 Zc (g++[(IntKind.wrap .u64 (Arr5.get f b).Lo),(IntKind.wrap .u64 ((IntKind.wrap .u64 (Arr5.get f b).Hi) + (1:Int)))]) false,.cells (Za f)] (AWP.rg0 [] [(0,(i64 b)),(5,(.own 0 (List.length (g++[(IntKind.wrap .u64 (Arr5.get f b).Lo),(IntKind.wrap .u64 ((IntKind.wrap .u64 (Arr5.get f b).Hi) + (1:Int)))])))),(15,(slc 1 Zq a)),(16,(i64 (List.length a:Int))),(17,(i64 d)),(21,(slc 10 Za c)),(22,(i64 (List.length c:Int))),(23,(i64 (ZI (i + (1:Int)))))] (LeQ.start (LeQ.pk [0,5,15,16,17,21,22,23] 1 ?_)))
       exact⟨t,Nat.lt_succ_self _,(g++[(IntKind.wrap .u64 (Arr5.get f b).Lo),(IntKind.wrap .u64 ((IntKind.wrap .u64 (Arr5.get f b).Hi) + (1:Int)))]),(ZI (i + (1:Int))),hF,by kernel_rfl,by kernel_rfl⟩
      ·refine AWP.exit (LeQ.start (LeQ.pk [0,5,15,16,17] 1 ?_))
       have hr:=someb hF
       subst hr
       exact⟨rfl,by kernel_rfl,by kernel_rfl⟩
    ·rintro _ _ _ ⟨rfl,rfl,rfl⟩
     refine AWP.rg0 [] [(0,(i64 b)),(5,(.own 0 (List.length o))),(15,(slc 1 Zq a)),(16,(i64 (List.length a:Int))),(17,(i64 (ZI (d + (1:Int)))))] (LeQ.start (LeQ.pk [0,5,15,16,17] 1 ?_))
     exact⟨q,Nat.lt_succ_self _,o,(ZI (d + (1:Int))),hF,by kernel_rfl,by kernel_rfl⟩
   ·refine AWP.exit (LeQ.start (LeQ.pk [5] 1 ?_))
    have hr:=someb hF
    subst hr
    exact⟨rfl,by kernel_rfl,by kernel_rfl⟩
 ·rintro _ _ _ ⟨rfl,rfl,rfl⟩
  refine AWP.seq ?_
  obtain⟨a6,hF⟩:=chkb hF
  obtain⟨p,a7,hF⟩:=bindb hF
  obtain⟨x,hF⟩:=chkb hF
  refine AWP.rg [(1,.callB (s:=1) Zc Tryz.func154 (fun _=>rfl) a6 x (fun sp_=>Zj8 (List.length k) k sp_ p a7))] [(5,(.own 0 (List.length k)))] [bf 1 134 Zc p false] ?_
  rw [show ([(5,(.own 0 (List.length k)))]:St)=[(5,(.own 0 (List.length p)))] by simp only [x]]
  refine AWP.seq ?_
  obtain⟨u,a8,hF⟩:=bindb hF
  refine AWP.rg [(1,.callBE (s:=1) Zc Tryz.func155 (fun _=>rfl) a8 (fun h sp_=>Zjh (List.length p) p sp_ _ h) (fun h=>Zh2 _ h))] [(4,(slc 1 Zc (List.take u.1 u.2)))] [bf 1 134 Zc u.2 true] (AWP.ret ?_)
  have hr:=someb hF
  subst hr
  exact(FnQ.f0 0 (.inr rfl))
def Zm3 (r:ZL):PV→List Blk→Prop:=fun p K=>p=(slc 10 Za r)∧K=[]
theorem Zd2 (a:ZL) (b:Int) (c:Int) (r:ZL) (hF:Zbw a b c=some r):ACall Tryz.prog glob 152 [(slc 10 Za a),(i64 b),(u32 c)] [] (Zm3 r):=by
 refine ACall.body Tryz.func152 rfl (by kernel_rfl) ?_
 unfold Zbw at hF
 refine AWP.seq (AWP.rg0 [] [(0,(slc 10 Za a)),(1,(i64 b)),(2,(u32 c))] (AWP.seq (AWP.rg0 [] [(0,(slc 10 Za a)),(1,(i64 b)),(2,(u32 c)),(7,nils)] ?_)))
 refine AWP.own (H':=[bf 10 57 Za ([]:ZL) false]) (st':=[(7,(.own 0 (List.length ([]:ZL)))),(0,(slc 10 Za a)),(1,(i64 b)),(2,(u32 c))]) 7 10 57 (by kernel_rfl) (by kernel_rfl) (by kernel_rfl) ?_
 refine AWP.pick (st':=[(0,(slc 10 Za a)),(1,(i64 b)),(2,(u32 c)),(7,(.own 0 (List.length ([]:ZL))))]) (ks:=[0,1,2,7]) (by kernel_rfl) ?_
 refine AWP.seq (AWP.seq (AWP.rg0 [(1,.len Za a)] [(1,(i64 b)),(2,(u32 c)),(7,(.own 0 (List.length ([]:ZL)))),(10,(slc 10 Za a)),(11,(i64 (List.length a:Int))),(12,(i64 (0:Int)))] ?_))
 obtain⟨j,w,hF⟩:=bindb hF
 refine AWP.mid (fun e st H=>e=.normal∧st=[(7,(.own 0 (List.length j)))]∧H=[bf 10 57 Za j false]) ?_ ?_
 ·clear hF
  refine AWP.kp [1,2,7,10,11,12] 1 ?_
  refine AWP.bround (fun n st H=>∃ d,∃ f,Zcm a b c n d f=some j∧st=[(1,(i64 b)),(2,(u32 c)),(7,(.own 0 (List.length d))),(10,(slc 10 Za a)),(11,(i64 (List.length a:Int))),(12,(i64 f))]∧H=[bf 10 57 Za d false]) fuel ⟨([]:ZL),(0:Int),w,by kernel_rfl,by kernel_rfl⟩ ?_
  rintro q st H ⟨d,f,hF,rfl,rfl⟩
  cases q with
  | zero=>exact noneb hF
  | succ q=>
   rw [Zcm] at hF
   refine AWP.seq (AWP.rg0 [] [(1,(i64 b)),(2,(u32 c)),(7,(.own 0 (List.length d))),(10,(slc 10 Za a)),(11,(i64 (List.length a:Int))),(12,(i64 f)),(13,(vb (decide (f<(List.length a:Int)))))] (AWP.seq ?_))
   refine AWP.cif hF (fun x hF=>?_) (fun x hF=>?_)
   ·refine AWP.skip ?_
    obtain⟨m,y,hF⟩:=bindb hF
    refine AWP.seq ?_
    refine AWP.mid (fun e st H=>e=.normal∧st=[(1,(i64 b)),(2,(u32 c)),(7,(.own 0 (List.length m))),(10,(slc 10 Za a)),(11,(i64 (List.length a:Int))),(12,(i64 f))]∧H=[bf 10 57 Za m false]) ?_ ?_
    ·clear hF
     have hF:=y
     refine AWP.block (AWP.seq ?_)
     obtain⟨g,z,hF⟩:=bindb hF
     refine AWP.rg [(0,.idx Za z)] [(1,(i64 b)),(2,(u32 c)),(7,(.own 0 (List.length d))),(9,(.ptr 1 0)),(10,(slc 10 Za a)),(11,(i64 (List.length a:Int))),(12,(i64 f))] [bf 10 57 Za d false,.cells (Za g)] (AWP.seq ?_)
     obtain⟨o,hF⟩:=chkb hF
     obtain⟨a0,p,hF⟩:=bindb hF
     replace p:=someb p
     obtain⟨a1,u,hF⟩:=bindb hF
     refine AWP.to [(1,(i64 b)),(2,(u32 c)),(7,(.own 0 (List.length d))),(9,(.ptr 1 0)),(10,(slc 10 Za a)),(11,(i64 (List.length a:Int))),(12,(i64 f)),(29,(vb a1))] [bf 10 57 Za d false,.cells (Za g)] ?_ ?_
     ·cases a0 with
      | false=>
       have a2:=someb (ifF u rfl)
       subst a2
       exact AWP.rgT [(1,.ixd o),(3,.ldA Zl (Arr5.get g) 0 2 0 o),(6,.bool p)]
      | true=>
       have k:=ifT u rfl
       obtain⟨v,k⟩:=chkb k
       replace k:=someb k
       subst k
       exact AWP.rgT [(1,.ixd o),(3,.ldA Zl (Arr5.get g) 0 2 0 o),(6,.bool p),(9,.ixd v),(11,.ldA Zl (Arr5.get g) 0 2 1 v)]
     refine AWP.cif hF (fun a3 hF=>?_) (fun a3 hF=>?_)
     ·obtain⟨a4,hF⟩:=chkb hF
      refine AWP.rg [(3,.app Za (fun _=>by kernel_rfl) a4)] [(1,(i64 b)),(2,(u32 c)),(7,(.own 0 (List.length (d++[g])))),(10,(slc 10 Za a)),(11,(i64 (List.length a:Int))),(12,(i64 f))] [bf 10 57 Za (d++[g]) false,.cells (Za g)] (LeQ.start (LeQ.pk [1,2,7,10,11,12] 1 ?_))
      have hr:=someb hF
      subst hr
      exact⟨rfl,by kernel_rfl,by kernel_rfl⟩
     ·refine AWP.skip (LeQ.start (LeQ.pk [1,2,7,10,11,12] 1 ?_))
      have hr:=someb hF
      subst hr
      exact⟨rfl,by kernel_rfl,by kernel_rfl⟩
    ·rintro _ _ _ ⟨rfl,rfl,rfl⟩
     refine AWP.rg0 [] [(1,(i64 b)),(2,(u32 c)),(7,(.own 0 (List.length m))),(10,(slc 10 Za a)),(11,(i64 (List.length a:Int))),(12,(i64 (ZI (f + (1:Int)))))] (LeQ.start (LeQ.pk [1,2,7,10,11,12] 1 ?_))
     exact⟨q,Nat.lt_succ_self _,m,(ZI (f + (1:Int))),hF,by kernel_rfl,by kernel_rfl⟩
   ·refine AWP.exit (LeQ.start (LeQ.pk [7] 1 ?_))
    have hr:=someb hF
    subst hr
    exact⟨rfl,by kernel_rfl,by kernel_rfl⟩
 ·rintro _ _ _ ⟨rfl,rfl,rfl⟩
  refine AWP.seq (AWP.rg0 [] [(6,(.own 0 (List.length j)))] (AWP.ret ?_))
  have hr:=someb hF
  subst hr
  exact(FnQ.f1 0 (.inr rfl) (.inl (Wk.ownT (i:=0) (s:=10) (t:=57) (l:=j) (sh:=false) (row:=Za) (by kernel_rfl) (.inl rfl))))
def Zev (r:(ZL × Bool)):PV→List Blk→Prop:=fun p K=>p=(.tup [(slc 10 Za r.1),(vb r.2)])∧K=[]
abbrev Zgq (r:(ZL × Bool)):Exit→St→List Blk→Prop:=FnQ Tryz.prog Tryz.f147.results 0 (Zev r)
theorem Zip:∀(nr:Nat) (a:Int) (d:ZL) (f:ZL) (g:Int) (r:(ZL × Bool)) (hF:Zad nr a d f g=some r),ACall Tryz.prog glob 147 [(i64 a),(slc 10 Za d),(slc 10 Za f),(.sc (.func (.func 132) #[] #[])),(i64 g)] [] (Zev r):=by
 intro nr
 induction nr with
 | zero=>intro a d f g r hF; exact noneb (by rw [Zad] at hF; exact hF)
 | succ nr ih=>
  intro a d f g r hF
  refine ACall.body Tryz.func147 rfl (by kernel_rfl) ?_
  rw [Zad] at hF
  refine AWP.seq (AWP.rg0 [] [(0,(i64 a)),(1,(slc 10 Za d)),(2,(slc 10 Za f)),(3,(.sc (.func (.func 132) #[] #[]))),(4,(i64 g))] (AWP.seq (AWP.seq (AWP.rg0 [] [(0,(i64 a)),(1,(slc 10 Za d)),(2,(slc 10 Za f)),(3,(.sc (.func (.func 132) #[] #[]))),(4,(i64 g)),(26,(vb (a == (5:Int))))] ?_))))
  refine AWP.cif hF (fun c8 hF=>?_) (fun c8 hF=>?_)
  ·refine AWP.seq (AWP.seq ?_)
   obtain⟨b8,c9,hF⟩:=bindb hF
   refine AWP.rg0 [(2,.len Za d),(5,.len Za f),(7,.call Tryz.func132 [] (Zj6 (decide ((List.length d:Int) > (0:Int))) (decide ((List.length f:Int) > (0:Int))) b8 c9))] [(34,(vb b8))] ?_
   refine AWP.cif hF (fun d0 hF=>?_) (fun d0 hF=>?_)
   ·refine AWP.seq (AWP.rg0 [] [(10,(slc 10 Za [(Arr5.mk Zp Zp Zp Zp Zp)])),(11,(vb true))] (AWP.ret ?_))
    have hr:=someb hF
    subst hr
    exact(FnQ.f0 0 (.inr rfl))
   ·refine AWP.skip (AWP.seq (AWP.rg0 [] [(10,nils),(11,(vb true))] (AWP.ret ?_)))
    have hr:=someb hF
    subst hr
    exact(FnQ.f1 0 (.inr rfl) (.inr ⟨_,_,rfl,rfl,(.cons _ _ _ _ (.nil 10) (.cons _ _ _ _ (.refl _) .nil))⟩))
  ·refine AWP.skip (AWP.seq (AWP.seq ?_))
   obtain⟨d1,b0,hF⟩:=bindb hF
   replace b0:=someb b0
   obtain⟨d2,b9,hF⟩:=bindb hF
   refine AWP.to [(0,(i64 a)),(1,(slc 10 Za d)),(2,(slc 10 Za f)),(3,(.sc (.func (.func 132) #[] #[]))),(4,(i64 g)),(47,(vb d2))] [] ?_ ?_
   ·cases d1 with
    | false=>
     have d3:=someb (ifF b9 rfl)
     subst d3
     exact AWP.rgT [(1,.len Za d),(3,.len Za f),(6,.bool b0)]
    | true=>
     have a3:=ifT b9 rfl
     obtain⟨d4,d5,a3⟩:=bindb a3
     replace a3:=someb a3
     subst a3
     exact AWP.rgT [(1,.len Za d),(3,.len Za f),(6,.bool b0),(8,.call Tryz.func132 [] (Zj6 false false d4 d5))]
   refine AWP.cif hF (fun d6 hF=>?_) (fun d6 hF=>?_)
   ·refine AWP.seq (AWP.rg0 [] [(10,nils),(11,(vb true))] (AWP.ret ?_))
    have hr:=someb hF
    subst hr
    exact(FnQ.f1 0 (.inr rfl) (.inr ⟨_,_,rfl,rfl,(.cons _ _ _ _ (.nil 10) (.cons _ _ _ _ (.refl _) .nil))⟩))
   ·refine AWP.skip (AWP.seq (AWP.rg0 [] [(0,(i64 a)),(1,(slc 10 Za d)),(2,(slc 10 Za f)),(3,(.sc (.func (.func 132) #[] #[]))),(4,(i64 g)),(12,nils)] ?_))
    refine AWP.own (H':=[bf 3 157 Zd ([]:(List Zh)) false]) (st':=[(12,(.own 0 (List.length ([]:(List Zh))))),(0,(i64 a)),(1,(slc 10 Za d)),(2,(slc 10 Za f)),(3,(.sc (.func (.func 132) #[] #[]))),(4,(i64 g))]) 12 3 157 (by kernel_rfl) (by kernel_rfl) (by kernel_rfl) ?_
    refine AWP.pick (st':=[(0,(i64 a)),(1,(slc 10 Za d)),(2,(slc 10 Za f)),(3,(.sc (.func (.func 132) #[] #[]))),(4,(i64 g)),(12,(.own 0 (List.length ([]:(List Zh)))))]) (ks:=[0,1,2,3,4,12]) (by kernel_rfl) ?_
    refine AWP.seq (AWP.rg0 [] [(0,(i64 a)),(1,(slc 10 Za d)),(2,(slc 10 Za f)),(3,(.sc (.func (.func 132) #[] #[]))),(4,(i64 g)),(12,(.own 0 (List.length ([]:(List Zh))))),(13,(i64 (0:Int)))] (AWP.seq ?_))
    obtain⟨k,d7,hF⟩:=bindb hF
    refine AWP.rg0 [(4,.call Tryz.func151 [] (Ziv a [d,f] k d7))] [(0,(i64 a)),(1,(slc 10 Za d)),(2,(slc 10 Za f)),(3,(.sc (.func (.func 132) #[] #[]))),(4,(i64 g)),(12,(.own 0 (List.length ([]:(List Zh))))),(13,(i64 (0:Int))),(14,(slc 1 Zc k))] (AWP.seq (AWP.seq (AWP.rg0 [] [(0,(i64 a)),(1,(slc 10 Za d)),(2,(slc 10 Za f)),(3,(.sc (.func (.func 132) #[] #[]))),(4,(i64 g)),(12,(.own 0 (List.length ([]:(List Zh))))),(13,(i64 (0:Int))),(14,(slc 1 Zc k)),(15,(i64 (0:Int)))] ?_)))
    obtain⟨b2,d8,hF⟩:=bindb hF
    refine AWP.mid (fun e st H=>(e=.normal∧∃ c,∃ b3,b2=(.inl (c,b3))∧st=[(0,(i64 a)),(12,(.own 0 (List.length c))),(13,(i64 b3))]∧H=[bf 3 157 Zd c false])∨(e=.ret∧∃ r,b2=(.inr r)∧Zgq r e st H)) ?_ ?_
    ·clear hF
     refine AWP.kp [0,1,2,3,4,12,13,14,15] 1 ?_
     refine AWP.bround (fun n st H=>∃ b,∃ o,∃ p,Zy a d f g (Zad nr) k n b o p=some b2∧st=[(0,(i64 a)),(1,(slc 10 Za d)),(2,(slc 10 Za f)),(3,(.sc (.func (.func 132) #[] #[]))),(4,(i64 g)),(12,(.own 0 (List.length b))),(13,(i64 o)),(14,(slc 1 Zc k)),(15,(i64 p))]∧H=[bf 3 157 Zd b false]) fuel ⟨([]:(List Zh)),(0:Int),(0:Int),d8,by kernel_rfl,by kernel_rfl⟩ ?_
     rintro b4 st H ⟨b,o,p,hF,rfl,rfl⟩
     cases b4 with
     | zero=>exact noneb hF
     | succ b4=>
      rw [Zy] at hF
      refine AWP.seq (AWP.seq (AWP.rg0 [(3,.len Zc k)] [(0,(i64 a)),(1,(slc 10 Za d)),(2,(slc 10 Za f)),(3,(.sc (.func (.func 132) #[] #[]))),(4,(i64 g)),(12,(.own 0 (List.length b))),(13,(i64 o)),(14,(slc 1 Zc k)),(15,(i64 p)),(57,(vb (decide ((ZI (p + (1:Int)))<(List.length k:Int)))))] ?_))
      refine AWP.cif hF (fun d9 hF=>?_) (fun d9 hF=>?_)
      ·refine AWP.skip ?_
       obtain⟨c0,e0,hF⟩:=bindb hF
       refine AWP.seq ?_
       refine AWP.mid (fun e st H=>(e=.normal∧∃ a2,∃ a4,c0=(.inl (a2,a4))∧st=[(0,(i64 a)),(1,(slc 10 Za d)),(2,(slc 10 Za f)),(3,(.sc (.func (.func 132) #[] #[]))),(4,(i64 g)),(12,(.own 0 (List.length a2))),(13,(i64 a4)),(14,(slc 1 Zc k)),(15,(i64 p))]∧H=[bf 3 157 Zd a2 false])∨(e=.ret∧∃ r,c0=(.inr r)∧Zgq r e st H)) ?_ ?_
       ·clear hF
        have hF:=e0
        refine AWP.block (AWP.seq ?_)
        obtain⟨w,e1,hF⟩:=bindb hF
        obtain⟨u,e2,hF⟩:=bindb hF
        refine AWP.dr [(2,.idx Zc e1),(8,.idx Zc e2)] 14 [] [13] [] [(0,(i64 a)),(1,(slc 10 Za d)),(2,(slc 10 Za f)),(3,(.sc (.func (.func 132) #[] #[]))),(4,(i64 g)),(12,(.own 0 (List.length b))),(13,(i64 o)),(14,(slc 1 Zc k)),(15,(i64 p)),(16,(.ptr 1 0))] [bf 3 157 Zd b false,.cells (Zl (Zb.mk (IntKind.wrap .u32 w) (IntKind.wrap .u32 (IntKind.wrap .u64 (u - (1:Int))))))] (AWP.seq ?_)
        obtain⟨c1,e3,hF⟩:=bindb hF
        obtain⟨c2,e4,hF⟩:=bindb hF
        obtain⟨m,e5,hF⟩:=bindb hF
        refine AWP.dr [(6,.call Tryz.func152 [] (Zd2 d a (IntKind.wrap .u32 w) c1 e3)),(11,.call Tryz.func152 [] (Zd2 f a (IntKind.wrap .u32 w) c2 e4)),(14,.call Tryz.func147 [] (ih (ZI (a + (1:Int))) c1 c2 g m e5))] 19 [] [] [] [(0,(i64 a)),(1,(slc 10 Za d)),(2,(slc 10 Za f)),(3,(.sc (.func (.func 132) #[] #[]))),(4,(i64 g)),(12,(.own 0 (List.length b))),(13,(i64 o)),(14,(slc 1 Zc k)),(15,(i64 p)),(16,(.ptr 1 0)),(17,(slc 10 Za m.1)),(18,(vb m.2))] [bf 3 157 Zd b false,.cells (Zl (Zb.mk (IntKind.wrap .u32 w) (IntKind.wrap .u32 (IntKind.wrap .u64 (u - (1:Int))))))] (AWP.seq (AWP.seq (AWP.rg0 [] [(0,(i64 a)),(1,(slc 10 Za d)),(2,(slc 10 Za f)),(3,(.sc (.func (.func 132) #[] #[]))),(4,(i64 g)),(12,(.own 0 (List.length b))),(13,(i64 o)),(14,(slc 1 Zc k)),(15,(i64 p)),(16,(.ptr 1 0)),(17,(slc 10 Za m.1)),(92,(vb (!m.2)))] ?_)))
        refine AWP.cif hF (fun e6 hF=>?_) (fun e6 hF=>?_)
        ·refine AWP.seq (AWP.rg0 [] [(10,nils),(11,(vb false))] (AWP.ret ?_))
         exact LeQ.of (.inr ⟨rfl,(([]:ZL),false),(someb hF).symm,(FnQ.f1 0 (.inr rfl) (.inr ⟨_,_,rfl,rfl,(.cons _ _ _ _ (.nil 10) (.cons _ _ _ _ (.refl _) .nil))⟩))⟩)
        ·refine AWP.skip (AWP.seq (AWP.seq (AWP.rg0 [(1,.len Za m.1)] [(0,(i64 a)),(1,(slc 10 Za d)),(2,(slc 10 Za f)),(3,(.sc (.func (.func 132) #[] #[]))),(4,(i64 g)),(12,(.own 0 (List.length b))),(13,(i64 o)),(14,(slc 1 Zc k)),(15,(i64 p)),(16,(.ptr 1 0)),(17,(slc 10 Za m.1)),(95,(vb ((List.length m.1:Int) == (0:Int))))] ?_)))
         refine AWP.cif hF (fun e7 hF=>?_) (fun e7 hF=>?_)
         ·refine AWP.exit (LeQ.start (LeQ.pk [0,1,2,3,4,12,13,14,15] 1 ?_))
          exact(.inl ⟨rfl,b,o,(someb hF).symm,by kernel_rfl,by kernel_rfl⟩)
         ·refine AWP.skip (AWP.seq (AWP.seq (AWP.rg0 [(1,.len Zd b)] [(0,(i64 a)),(1,(slc 10 Za d)),(2,(slc 10 Za f)),(3,(.sc (.func (.func 132) #[] #[]))),(4,(i64 g)),(12,(.own 0 (List.length b))),(13,(i64 o)),(14,(slc 1 Zc k)),(15,(i64 p)),(16,(.ptr 1 0)),(17,(slc 10 Za m.1)),(19,(i64 (List.length b:Int)))] (AWP.seq ?_))))
          obtain⟨e8,a5,hF⟩:=bindb hF
          replace a5:=someb a5
          obtain⟨h1,c3,hF⟩:=bindb hF
          obtain⟨e9,a6,hF⟩:=bindb hF
          replace a6:=someb a6
          obtain⟨f2,b5,hF⟩:=bindb hF
          refine AWP.to [(0,(i64 a)),(1,(slc 10 Za d)),(2,(slc 10 Za f)),(3,(.sc (.func (.func 132) #[] #[]))),(4,(i64 g)),(12,(.own 0 (List.length b))),(13,(i64 o)),(14,(slc 1 Zc k)),(15,(i64 p)),(16,(.ptr 1 0)),(17,(slc 10 Za m.1)),(19,(i64 (List.length b:Int))),(122,(vb f2))] [bf 3 157 Zd b false,.cells (Zl (Zb.mk (IntKind.wrap .u32 w) (IntKind.wrap .u32 (IntKind.wrap .u64 (u - (1:Int))))))] ?_ ?_
          ·cases e8 with
           | false=>
            have f3:=someb (ifF c3 rfl)
            subst f3
            subst a6
            have f4:=someb (ifF b5 rfl)
            subst f4
            exact AWP.drT [(2,.bool a5)] 25 [] [] []
           | true=>
            have a7:=ifT c3 rfl
            obtain⟨h2,b1,a7⟩:=bindb a7
            replace a7:=someb a7
            subst a7
            cases e9 with
            | false=>
             have f5:=someb (ifF b5 rfl)
             subst f5
             exact AWP.drT [(2,.bool a5),(6,.idx Zd b1),(7,.fdE Zd b (ZI ((List.length b:Int) - (1:Int)))),(8,.fdE Zd b (ZI ((List.length b:Int) - (1:Int)))),(9,.ldE Zd b1),(15,.bool a6)] 25 [] [] []
            | true=>
             have a1:=ifT b5 rfl
             obtain⟨f6,c4,a1⟩:=bindb a1
             obtain⟨f7,f8,a1⟩:=bindb a1
             replace a1:=someb a1
             subst a1
             exact AWP.drT [(2,.bool a5),(6,.idx Zd b1),(7,.fdE Zd b (ZI ((List.length b:Int) - (1:Int)))),(8,.fdE Zd b (ZI ((List.length b:Int) - (1:Int)))),(9,.ldE Zd b1),(15,.bool a6),(19,.idx Zd c4),(20,.fdE Zd b (ZI ((List.length b:Int) - (1:Int)))),(21,.ldE Zd c4),(23,.call Tryz.func146 [] (Zdr f6.f_rest m.1 f7 f8))] 25 [] [] []
          refine AWP.cif hF (fun f9 hF=>?_) (fun f9 hF=>?_)
          ·refine AWP.seq ?_
           obtain⟨z,c5,hF⟩:=bindb hF
           refine AWP.rg [(5,.idx Zd c5),(6,.fdE Zd b (ZI ((List.length b:Int) - (1:Int)))),(7,.fdE Zd b (ZI ((List.length b:Int) - (1:Int)))),(8,.stE Zd c5 ({ z with f_values:=({ z.f_values with Hi:=(IntKind.wrap .u32 (IntKind.wrap .u64 (u - (1:Int)))) }:Zb) }:Zh))] [(0,(i64 a)),(1,(slc 10 Za d)),(2,(slc 10 Za f)),(3,(.sc (.func (.func 132) #[] #[]))),(4,(i64 g)),(12,(.own 0 (List.length b))),(13,(i64 o)),(14,(slc 1 Zc k)),(15,(i64 p))] [bf 3 157 Zd (List.set b (Int.toNat (ZI ((List.length b:Int) - (1:Int)))) ({ z with f_values:=({ z.f_values with Hi:=(IntKind.wrap .u32 (IntKind.wrap .u64 (u - (1:Int)))) }:Zb) }:Zh)) false,.cells (Zl (Zb.mk (IntKind.wrap .u32 w) (IntKind.wrap .u32 (IntKind.wrap .u64 (u - (1:Int))))))] ?_
           rw [show ([(0,(i64 a)),(1,(slc 10 Za d)),(2,(slc 10 Za f)),(3,(.sc (.func (.func 132) #[] #[]))),(4,(i64 g)),(12,(.own 0 (List.length b))),(13,(i64 o)),(14,(slc 1 Zc k)),(15,(i64 p))]:St)=[(0,(i64 a)),(1,(slc 10 Za d)),(2,(slc 10 Za f)),(3,(.sc (.func (.func 132) #[] #[]))),(4,(i64 g)),(12,(.own 0 (List.length (List.set b (Int.toNat (ZI ((List.length b:Int) - (1:Int)))) ({ z with f_values:=({ z.f_values with Hi:=(IntKind.wrap .u32 (IntKind.wrap .u64 (u - (1:Int)))) }:Zb) }:Zh))))),(13,(i64 o)),(14,(slc 1 Zc k)),(15,(i64 p))] by simp only [List.length_set]]
           refine AWP.exit (LeQ.start (LeQ.pk [0,1,2,3,4,12,13,14,15] 1 ?_))
           exact(.inl ⟨rfl,(List.set b (Int.toNat (ZI ((List.length b:Int) - (1:Int)))) ({ z with f_values:=({ z.f_values with Hi:=(IntKind.wrap .u32 (IntKind.wrap .u64 (u - (1:Int)))) }:Zb) }:Zh)),o,(someb hF).symm,by kernel_rfl,by kernel_rfl⟩)
          ·refine AWP.skip (AWP.seq ?_)
           obtain⟨g0,hF⟩:=chkb hF
           refine AWP.rg [(5,.app Zd (fun _=>by kernel_rfl) g0)] [(0,(i64 a)),(1,(slc 10 Za d)),(2,(slc 10 Za f)),(3,(.sc (.func (.func 132) #[] #[]))),(4,(i64 g)),(12,(.own 0 (List.length (b++[(Zh.mk (Zb.mk (IntKind.wrap .u32 w) (IntKind.wrap .u32 (IntKind.wrap .u64 (u - (1:Int))))) m.1)])))),(13,(i64 o)),(14,(slc 1 Zc k)),(15,(i64 p)),(17,(slc 10 Za m.1))] [bf 3 157 Zd (b++[(Zh.mk (Zb.mk (IntKind.wrap .u32 w) (IntKind.wrap .u32 (IntKind.wrap .u64 (u - (1:Int))))) m.1)]) false,.cells (Zl (Zb.mk (IntKind.wrap .u32 w) (IntKind.wrap .u32 (IntKind.wrap .u64 (u - (1:Int))))))] (AWP.seq (AWP.rg0 [(2,.len Za m.1)] [(0,(i64 a)),(1,(slc 10 Za d)),(2,(slc 10 Za f)),(3,(.sc (.func (.func 132) #[] #[]))),(4,(i64 g)),(12,(.own 0 (List.length (b++[(Zh.mk (Zb.mk (IntKind.wrap .u32 w) (IntKind.wrap .u32 (IntKind.wrap .u64 (u - (1:Int))))) m.1)])))),(13,(i64 (ZI (o + (List.length m.1:Int))))),(14,(slc 1 Zc k)),(15,(i64 p))] (AWP.seq (AWP.rg0 [] [(0,(i64 a)),(1,(slc 10 Za d)),(2,(slc 10 Za f)),(3,(.sc (.func (.func 132) #[] #[]))),(4,(i64 g)),(12,(.own 0 (List.length (b++[(Zh.mk (Zb.mk (IntKind.wrap .u32 w) (IntKind.wrap .u32 (IntKind.wrap .u64 (u - (1:Int))))) m.1)])))),(13,(i64 (ZI (o + (List.length m.1:Int))))),(14,(slc 1 Zc k)),(15,(i64 p)),(143,(vb (decide ((ZI (o + (List.length m.1:Int))) > g))))] ?_))))
           refine AWP.cif hF (fun g1 hF=>?_) (fun g1 hF=>?_)
           ·refine AWP.seq (AWP.rg0 [] [(10,nils),(11,(vb false))] (AWP.ret ?_))
            exact LeQ.of (.inr ⟨rfl,(([]:ZL),false),(someb hF).symm,(FnQ.f1 0 (.inr rfl) (.inr ⟨_,_,rfl,rfl,(.cons _ _ _ _ (.nil 10) (.cons _ _ _ _ (.refl _) .nil))⟩))⟩)
           ·refine AWP.skip (LeQ.start (LeQ.pk [0,1,2,3,4,12,13,14,15] 1 ?_))
            exact(.inl ⟨rfl,(b++[(Zh.mk (Zb.mk (IntKind.wrap .u32 w) (IntKind.wrap .u32 (IntKind.wrap .u64 (u - (1:Int))))) m.1)]),(ZI (o + (List.length m.1:Int))),(someb hF).symm,by kernel_rfl,by kernel_rfl⟩)
       ·rintro _ _ _ (⟨rfl,a2,a4,rfl,rfl,rfl⟩ | ⟨rfl,g2,rfl,hq⟩)
        ·refine AWP.rg0 [] [(0,(i64 a)),(1,(slc 10 Za d)),(2,(slc 10 Za f)),(3,(.sc (.func (.func 132) #[] #[]))),(4,(i64 g)),(12,(.own 0 (List.length a2))),(13,(i64 a4)),(14,(slc 1 Zc k)),(15,(i64 (ZI (p + (1:Int)))))] (LeQ.start (LeQ.pk [0,1,2,3,4,12,13,14,15] 1 ?_))
         exact⟨b4,Nat.lt_succ_self _,a2,a4,(ZI (p + (1:Int))),hF,by kernel_rfl,by kernel_rfl⟩
        ·exact LeQ.of (.inr ⟨rfl,g2,(someb hF).symm,hq⟩)
      ·refine AWP.exit (LeQ.start (LeQ.pk [0,12,13] 1 ?_))
       exact(.inl ⟨rfl,b,o,(someb hF).symm,by kernel_rfl,by kernel_rfl⟩)
    ·rintro _ _ _ (⟨rfl,c,b3,rfl,rfl,rfl⟩ | ⟨rfl,h3,rfl,hq⟩)
     ·refine AWP.seq ?_
      obtain⟨g3,hF⟩:=chkb hF
      refine AWP.rg [(1,.mk0 Za g3)] [(0,(i64 a)),(12,(.own 0 (List.length c))),(20,(.own 1 (List.length ([]:ZL))))] [bf 3 157 Zd c false,bf 10 57 Za ([]:ZL) false] (AWP.seq (AWP.seq (AWP.rg0 [(1,.len Zd c)] [(0,(i64 a)),(20,(.own 1 (List.length ([]:ZL)))),(146,(.own 0 (List.length c))),(147,(i64 (List.length c:Int))),(148,(i64 (0:Int)))] ?_)))
      obtain⟨a8,g4,hF⟩:=bindb hF
      refine AWP.mid (fun e st H=>e=.normal∧st=[(20,(.own 1 (List.length a8)))]∧H=[bf 3 157 Zd c false,bf 10 57 Za a8 false]) ?_ ?_
      ·clear hF
       refine AWP.kp [0,20,146,147,148] 2 ?_
       refine AWP.bround (fun n st H=>∃ y,∃ q,Zv a c n y q=some a8∧st=[(0,(i64 a)),(20,(.own 1 (List.length y))),(146,(.own 0 (List.length c))),(147,(i64 (List.length c:Int))),(148,(i64 q))]∧H=[bf 3 157 Zd c false,bf 10 57 Za y false]) fuel ⟨([]:ZL),(0:Int),g4,by kernel_rfl,by kernel_rfl⟩ ?_
       rintro b6 st H ⟨y,q,hF,rfl,rfl⟩
       cases b6 with
       | zero=>exact noneb hF
       | succ b6=>
        rw [Zv] at hF
        refine AWP.seq (AWP.rg0 [] [(0,(i64 a)),(20,(.own 1 (List.length y))),(146,(.own 0 (List.length c))),(147,(i64 (List.length c:Int))),(148,(i64 q)),(149,(vb (decide (q<(List.length c:Int)))))] (AWP.seq ?_))
        refine AWP.cif hF (fun g5 hF=>?_) (fun g5 hF=>?_)
        ·refine AWP.skip (AWP.seq (AWP.block (AWP.seq ?_)))
         obtain⟨j,c6,hF⟩:=bindb hF
         refine AWP.rg [(0,.idx Zd c6),(1,.ldE Zd c6)] [(0,(i64 a)),(20,(.own 1 (List.length y))),(22,(.ptr 2 0)),(146,(.own 0 (List.length c))),(147,(i64 (List.length c:Int))),(148,(i64 q))] [bf 3 157 Zd c false,bf 10 57 Za y false,.cells (Zd j)] (AWP.seq (AWP.rg0 [(2,.len Za j.f_rest)] [(0,(i64 a)),(20,(.own 1 (List.length y))),(22,(.ptr 2 0)),(146,(.own 0 (List.length c))),(147,(i64 (List.length c:Int))),(148,(i64 q)),(153,(slc 10 Za j.f_rest)),(154,(i64 (List.length j.f_rest:Int))),(155,(i64 (0:Int)))] ?_))
         obtain⟨a9,g6,hF⟩:=bindb hF
         refine AWP.mid (fun e st H=>e=.normal∧st=[(0,(i64 a)),(20,(.own 1 (List.length a9))),(146,(.own 0 (List.length c))),(147,(i64 (List.length c:Int))),(148,(i64 q))]∧H=[bf 3 157 Zd c false,bf 10 57 Za a9 false,.cells (Zd j)]) ?_ ?_
         ·clear hF
          refine AWP.kp [0,20,22,146,147,148,153,154,155] 3 ?_
          refine AWP.bround (fun n st H=>∃ v,∃ x,Zz a j n v x=some a9∧st=[(0,(i64 a)),(20,(.own 1 (List.length v))),(22,(.ptr 2 0)),(146,(.own 0 (List.length c))),(147,(i64 (List.length c:Int))),(148,(i64 q)),(153,(slc 10 Za j.f_rest)),(154,(i64 (List.length j.f_rest:Int))),(155,(i64 x))]∧H=[bf 3 157 Zd c false,bf 10 57 Za v false,.cells (Zd j)]) fuel ⟨y,(0:Int),g6,by kernel_rfl,by kernel_rfl⟩ ?_
          rintro b7 st H ⟨v,x,hF,rfl,rfl⟩
          cases b7 with
          | zero=>exact noneb hF
          | succ b7=>
           rw [Zz] at hF
           refine AWP.seq (AWP.rg0 [] [(0,(i64 a)),(20,(.own 1 (List.length v))),(22,(.ptr 2 0)),(146,(.own 0 (List.length c))),(147,(i64 (List.length c:Int))),(148,(i64 q)),(153,(slc 10 Za j.f_rest)),(154,(i64 (List.length j.f_rest:Int))),(155,(i64 x)),(156,(vb (decide (x<(List.length j.f_rest:Int)))))] (AWP.seq ?_))
           refine AWP.cif hF (fun g7 hF=>?_) (fun g7 hF=>?_)
           ·refine AWP.skip (AWP.seq (AWP.block (AWP.seq ?_)))
            obtain⟨a0,g8,hF⟩:=bindb hF
            refine AWP.rg [(0,.idx Za g8)] [(0,(i64 a)),(20,(.own 1 (List.length v))),(22,(.ptr 2 0)),(24,(.ptr 3 0)),(146,(.own 0 (List.length c))),(147,(i64 (List.length c:Int))),(148,(i64 q)),(153,(slc 10 Za j.f_rest)),(154,(i64 (List.length j.f_rest:Int))),(155,(i64 x))] [bf 3 157 Zd c false,bf 10 57 Za v false,.cells (Zd j),.cells (Za a0)] (AWP.seq ?_)
            obtain⟨c7,hF⟩:=chkb hF
            refine AWP.rg [(3,.ixd c7),(4,.stA (fun g9=>Za (Arr5.set a0 g9 j.f_values)) 0 2 0 c7)] [(0,(i64 a)),(20,(.own 1 (List.length v))),(22,(.ptr 2 0)),(24,(.ptr 3 0)),(146,(.own 0 (List.length c))),(147,(i64 (List.length c:Int))),(148,(i64 q)),(153,(slc 10 Za j.f_rest)),(154,(i64 (List.length j.f_rest:Int))),(155,(i64 x))] [bf 3 157 Zd c false,bf 10 57 Za v false,.cells (Zd j),.cells (Za (Arr5.set a0 a j.f_values))] ?_
            obtain⟨h0,hF⟩:=chkb hF
            refine AWP.rg [(3,.app Za (fun _=>by kernel_rfl) h0)] [(0,(i64 a)),(20,(.own 1 (List.length (v++[(Arr5.set a0 a j.f_values)])))),(22,(.ptr 2 0)),(146,(.own 0 (List.length c))),(147,(i64 (List.length c:Int))),(148,(i64 q)),(153,(slc 10 Za j.f_rest)),(154,(i64 (List.length j.f_rest:Int))),(155,(i64 x))] [bf 3 157 Zd c false,bf 10 57 Za (v++[(Arr5.set a0 a j.f_values)]) false,.cells (Zd j),.cells (Za (Arr5.set a0 a j.f_values))] (AWP.rg0 [] [(0,(i64 a)),(20,(.own 1 (List.length (v++[(Arr5.set a0 a j.f_values)])))),(22,(.ptr 2 0)),(146,(.own 0 (List.length c))),(147,(i64 (List.length c:Int))),(148,(i64 q)),(153,(slc 10 Za j.f_rest)),(154,(i64 (List.length j.f_rest:Int))),(155,(i64 (ZI (x + (1:Int)))))] (LeQ.start (LeQ.pk [0,20,22,146,147,148,153,154,155] 3 ?_)))
            exact⟨b7,Nat.lt_succ_self _,(v++[(Arr5.set a0 a j.f_values)]),(ZI (x + (1:Int))),hF,by kernel_rfl,by kernel_rfl⟩
           ·refine AWP.exit (LeQ.start (LeQ.pk [0,20,146,147,148] 3 ?_))
            have hr:=someb hF
            subst hr
            exact⟨rfl,by kernel_rfl,by kernel_rfl⟩
         ·rintro _ _ _ ⟨rfl,rfl,rfl⟩
          refine AWP.rg0 [] [(0,(i64 a)),(20,(.own 1 (List.length a9))),(146,(.own 0 (List.length c))),(147,(i64 (List.length c:Int))),(148,(i64 (ZI (q + (1:Int)))))] (LeQ.start (LeQ.pk [0,20,146,147,148] 2 ?_))
          exact⟨b6,Nat.lt_succ_self _,a9,(ZI (q + (1:Int))),hF,by kernel_rfl,by kernel_rfl⟩
        ·refine AWP.exit (LeQ.start (LeQ.pk [20] 2 ?_))
         have hr:=someb hF
         subst hr
         exact⟨rfl,by kernel_rfl,by kernel_rfl⟩
      ·rintro _ _ _ ⟨rfl,rfl,rfl⟩
       refine AWP.seq (AWP.rg0 [] [(10,(.own 1 (List.length a8))),(11,(vb true))] (AWP.ret ?_))
       have hr:=someb hF
       subst hr
       exact(FnQ.f1 0 (.inr rfl) (.inr ⟨_,_,rfl,rfl,(.cons _ _ _ _ (Wk.ownT (i:=1) (s:=10) (t:=57) (l:=a8) (sh:=false) (row:=Za) (by kernel_rfl) (.inl rfl)) (.cons _ _ _ _ (.refl _) .nil))⟩))
     ·have hr:=someb hF
      subst hr
      exact hq
theorem Zi5 (a:Int) (b:ZL) (c:ZL) (d:Int) (r:(ZL × Bool)) (hF:Zad fuel a b c d=some r):ACall Tryz.prog glob 147 [(i64 a),(slc 10 Za b),(slc 10 Za c),(.sc (.func (.func 132) #[] #[])),(i64 d)] [] (Zev r):=Zip fuel a b c d r hF
def Zjr (r:(ZL × Int)):PV→List Blk→Prop:=fun p K=>p=(.tup [(slc 10 Za r.1),(i64 r.2)])∧K=[]
theorem Ze8 (b:ZL) (c:ZL) (r:(ZL × Int)) (hF:Za3 b c=some r):ACall Tryz.prog glob 131 [(slc 10 Za b),(slc 10 Za c),(.sc (.func (.func 132) #[] #[]))] [] (Zjr r):=by
 refine ACall.body Tryz.func131 rfl (by kernel_rfl) ?_
 unfold Za3 at hF
 refine AWP.seq (AWP.rg0 [] [(0,(slc 10 Za b)),(1,(slc 10 Za c)),(2,(.sc (.func (.func 132) #[] #[])))] (AWP.seq ?_))
 obtain⟨a,d,hF⟩:=bindb hF
 refine AWP.rg0 [(3,.call Tryz.func147 [] (Zi5 (0:Int) b c (4096:Int) a d))] [(8,(slc 10 Za a.1)),(9,(vb a.2))] (AWP.seq (AWP.seq (AWP.rg0 [] [(8,(slc 10 Za a.1)),(18,(vb (!a.2)))] ?_)))
 refine AWP.cif hF (fun f hF=>?_) (fun f hF=>?_)
 ·refine AWP.seq (AWP.rg0 [] [(6,nils),(7,(i64 (3:Int)))] (AWP.ret ?_))
  have hr:=someb hF
  subst hr
  exact(FnQ.f1 0 (.inr rfl) (.inr ⟨_,_,rfl,rfl,(.cons _ _ _ _ (.nil 10) (.cons _ _ _ _ (.refl _) .nil))⟩))
 ·refine AWP.skip (AWP.seq (AWP.rg0 [] [(6,(slc 10 Za a.1)),(7,(i64 (0:Int)))] (AWP.ret ?_)))
  have hr:=someb hF
  subst hr
  exact(FnQ.f0 0 (.inr rfl))
def Zk1 (r:(ZL × Int)):PV→List Blk→Prop:=fun p K=>p=(.tup [(slc 10 Za r.1),(i64 r.2)])∧K=[]
abbrev Zqi (r:(ZL × Int)):Exit→St→List Blk→Prop:=FnQ Tryz.prog Tryz.f101.results 0 (Zk1 r)
theorem Zk2 (f:ZL) (r:(ZL × Int)) (hF:Zfh f=some r):ACall Tryz.prog glob 101 [(slc 10 Za f)] [] (Zk1 r):=by
 refine ACall.body Tryz.func101 rfl (by kernel_rfl) ?_
 unfold Zfh at hF
 refine AWP.seq (AWP.rg0 [] [(0,(slc 10 Za f))] (AWP.seq (AWP.rg0 [] [(0,(slc 10 Za f)),(4,nils)] (AWP.seq (AWP.seq ?_)))))
 obtain⟨a,l,hF⟩:=bindb hF
 refine AWP.rg0 [(1,.call Tryz.func129 [] (Zig f a l)),(2,.len Za a)] [(4,nils),(10,(slc 10 Za a)),(11,(i64 (List.length a:Int))),(12,(i64 (0:Int)))] ?_
 obtain⟨i,m,hF⟩:=bindb hF
 refine AWP.mid (fun e st H=>(e=.normal∧∃ g,i=(.inl g)∧st=[(4,(slc 10 Za g))]∧H=[])∨(e=.ret∧∃ r,i=(.inr r)∧Zqi r e st H)) ?_ ?_
 ·clear hF
  refine AWP.wk (p:=nils) (q:=(slc 10 Za ([]:ZL))) (st':=[(4,(slc 10 Za ([]:ZL))),(10,(slc 10 Za a)),(11,(i64 (List.length a:Int))),(12,(i64 (0:Int)))]) 4 (by kernel_rfl) (.nil 10) (by kernel_rfl) ?_
  refine AWP.kp [4,10,11,12] 0 ?_
  refine AWP.bround (fun n st H=>∃ d,∃ b,Zdn a n d b=some i∧st=[(4,(slc 10 Za d)),(10,(slc 10 Za a)),(11,(i64 (List.length a:Int))),(12,(i64 b))]∧H=[]) fuel ⟨([]:ZL),(0:Int),m,by kernel_rfl,by kernel_rfl⟩ ?_
  rintro j st H ⟨d,b,hF,rfl,rfl⟩
  cases j with
  | zero=>exact noneb hF
  | succ j=>
   rw [Zdn] at hF
   refine AWP.seq (AWP.rg0 [] [(4,(slc 10 Za d)),(10,(slc 10 Za a)),(11,(i64 (List.length a:Int))),(12,(i64 b)),(13,(vb (decide (b<(List.length a:Int)))))] (AWP.seq ?_))
   refine AWP.cif hF (fun o hF=>?_) (fun o hF=>?_)
   ·refine AWP.skip (AWP.seq (AWP.block (AWP.seq ?_)))
    obtain⟨k,s,hF⟩:=bindb hF
    refine AWP.rg [(0,.idx Za s)] [(4,(slc 10 Za d)),(6,(.ptr 0 0)),(10,(slc 10 Za a)),(11,(i64 (List.length a:Int))),(12,(i64 b))] [.cells (Za k)] (AWP.seq ?_)
    obtain⟨c,t,hF⟩:=bindb hF
    refine AWP.rg0 [(3,.call Tryz.func131 [] (Ze8 d [k] c t))] [(7,(slc 10 Za c.1)),(8,(i64 c.2)),(10,(slc 10 Za a)),(11,(i64 (List.length a:Int))),(12,(i64 b))] (AWP.seq (AWP.seq (AWP.rg0 [] [(7,(slc 10 Za c.1)),(8,(i64 c.2)),(10,(slc 10 Za a)),(11,(i64 (List.length a:Int))),(12,(i64 b)),(24,(vb (c.2 != (0:Int))))] ?_)))
    refine AWP.cif hF (fun u hF=>?_) (fun u hF=>?_)
    ·refine AWP.seq (AWP.rg0 [] [(2,nils),(3,(i64 c.2))] (AWP.ret ?_))
     exact LeQ.of (.inr ⟨rfl,(([]:ZL),c.2),(someb hF).symm,(FnQ.f1 0 (.inr rfl) (.inr ⟨_,_,rfl,rfl,(.cons _ _ _ _ (.nil 10) (.cons _ _ _ _ (.refl _) .nil))⟩))⟩)
    ·refine AWP.skip (AWP.rg0 [] [(4,(slc 10 Za c.1)),(10,(slc 10 Za a)),(11,(i64 (List.length a:Int))),(12,(i64 b))] (AWP.rg0 [] [(4,(slc 10 Za c.1)),(10,(slc 10 Za a)),(11,(i64 (List.length a:Int))),(12,(i64 (ZI (b + (1:Int)))))] (LeQ.start (LeQ.pk [4,10,11,12] 0 ?_))))
     exact⟨j,Nat.lt_succ_self _,c.1,(ZI (b + (1:Int))),hF,by kernel_rfl,by kernel_rfl⟩
   ·refine AWP.exit (LeQ.start (LeQ.pk [4] 0 ?_))
    exact(.inl ⟨rfl,d,(someb hF).symm,by kernel_rfl,by kernel_rfl⟩)
 ·rintro _ _ _ (⟨rfl,g,rfl,rfl,rfl⟩ | ⟨rfl,v,rfl,hq⟩)
  ·refine AWP.seq (AWP.rg0 [] [(2,(slc 10 Za g)),(3,(i64 (0:Int)))] (AWP.ret ?_))
   have hr:=someb hF
   subst hr
   exact(FnQ.f0 0 (.inr rfl))
  ·have hr:=someb hF
   subst hr
   exact hq
def Zmh (r:(ZL × Zj)):PV→List Blk→Prop:=fun p K=>p=(slc 10 Za r.1)∧K=[.cells (Zm r.2)]
theorem Zeq (c:Zj) (a:ZL) (b:Int) (r:(ZL × Zj)) (hF:Zb0 c a b=some r):ACall Tryz.prog glob 100 [(.ptr 0 0),(slc 10 Za a),(i64 b)] [.cells (Zm c)] (Zmh r):=by
 refine ACall.body Tryz.func100 rfl (by kernel_rfl) ?_
 unfold Zb0 at hF
 refine AWP.seq (AWP.rg0 [] [(0,(.ptr 0 0)),(1,(slc 10 Za a)),(2,(i64 b))] ?_)
 obtain⟨d,f,hF⟩:=bindb hF
 refine AWP.seq ?_
 refine AWP.mid (fun e st H=>e=.normal∧st=[(0,(.ptr 0 0)),(1,(slc 10 Za a))]∧H=[.cells (Zm d)]) ?_ ?_
 ·clear hF
  have hF:=f
  refine AWP.seq (AWP.rg0 [] [(0,(.ptr 0 0)),(1,(slc 10 Za a)),(2,(i64 b)),(11,(vb (c.f_err == (0:Int))))] ?_)
  refine AWP.cif hF (fun g hF=>?_) (fun g hF=>?_)
  ·refine AWP.rg [] [(0,(.ptr 0 0)),(1,(slc 10 Za a))] [.cells (Zm ({ c with f_err:=b }:Zj))] (LeQ.start (LeQ.pk [0,1] 1 ?_))
   have hr:=someb hF
   subst hr
   exact⟨rfl,by kernel_rfl,by kernel_rfl⟩
  ·refine AWP.skip (LeQ.start (LeQ.pk [0,1] 1 ?_))
   have hr:=someb hF
   subst hr
   exact⟨rfl,by kernel_rfl,by kernel_rfl⟩
 ·rintro _ _ _ ⟨rfl,rfl,rfl⟩
  refine AWP.seq (AWP.seq (AWP.rg0 [] [(1,(slc 10 Za a)),(20,(vb (d.f_err != (0:Int))))] ?_))
  refine AWP.cif hF (fun i hF=>?_) (fun i hF=>?_)
  ·refine AWP.seq (AWP.rg0 [] [(6,nils)] (AWP.ret ?_))
   have hr:=someb hF
   subst hr
   exact(FnQ.f1 1 (.inr rfl) (.inl (.nil 10)))
  ·refine AWP.skip (AWP.seq (AWP.rg0 [] [(6,(slc 10 Za a))] (AWP.ret ?_)))
   have hr:=someb hF
   subst hr
   exact(FnQ.f0 1 (.inr rfl))
def Zmi (r:(ZL × Zj)):PV→List Blk→Prop:=fun p K=>p=(slc 10 Za r.1)∧K=[.cells (Zm r.2)]
theorem Ziz (b:Zj) (a:ZL) (r:(ZL × Zj)) (hF:Zdt b a=some r):ACall Tryz.prog glob 51 [(.ptr 0 0),(slc 10 Za a)] [.cells (Zm b)] (Zmi r):=by
 refine ACall.body Tryz.func51 rfl (by kernel_rfl) ?_
 unfold Zdt at hF
 refine AWP.seq (AWP.rg0 [] [(0,(.ptr 0 0)),(1,(slc 10 Za a))] (AWP.seq (AWP.seq ?_)))
 obtain⟨f,g,hF⟩:=bindb hF
 refine AWP.rg0 [(1,.call Tryz.func99 [] (Zki a f g))] [(0,(.ptr 0 0)),(1,(slc 10 Za a)),(6,(vb f))] ?_
 refine AWP.cif hF (fun i hF=>?_) (fun i hF=>?_)
 ·refine AWP.seq (AWP.rg0 [] [(4,(slc 10 Za a))] (AWP.ret ?_))
  have hr:=someb hF
  subst hr
  exact(FnQ.f0 1 (.inr rfl))
 ·refine AWP.skip (AWP.seq ?_)
  obtain⟨c,j,hF⟩:=bindb hF
  obtain⟨d,k,hF⟩:=bindb hF
  refine AWP.rg [(2,.call Tryz.func101 [] (Zk2 a c j)),(5,.call Tryz.func100 [] (Zeq b c.1 c.2 d k))] [(4,(slc 10 Za d.1))] [.cells (Zm d.2)] (AWP.ret ?_)
  have hr:=someb hF
  subst hr
  exact(FnQ.f0 1 (.inr rfl))
def Zrw (r:(ZL × Int)):PV→List Blk→Prop:=fun p K=>p=(.tup [(slc 10 Za r.1),(i64 r.2)])∧K=[]
theorem Ze3 (a:ZL) (r:(ZL × Int)) (hF:Zct a=some r):ACall Tryz.prog glob 140 [(slc 10 Za a)] [] (Zrw r):=by
 refine ACall.body Tryz.func140 rfl (by kernel_rfl) ?_
 unfold Zct at hF
 refine AWP.seq (AWP.rg0 [] [(0,(slc 10 Za a))] (AWP.seq (AWP.seq ?_)))
 obtain⟨c,d,hF⟩:=bindb hF
 refine AWP.rg0 [(1,.call Tryz.func99 [] (Zki a c d))] [(0,(slc 10 Za a)),(5,(vb c))] ?_
 refine AWP.cif hF (fun f hF=>?_) (fun f hF=>?_)
 ·refine AWP.seq (AWP.rg0 [] [(2,(slc 10 Za a)),(3,(i64 (0:Int)))] (AWP.ret ?_))
  have hr:=someb hF
  subst hr
  exact(FnQ.f0 0 (.inr rfl))
 ·refine AWP.skip (AWP.seq ?_)
  obtain⟨b,g,hF⟩:=bindb hF
  refine AWP.rg0 [(1,.call Tryz.func101 [] (Zk2 a b g))] [(2,(slc 10 Za b.1)),(3,(i64 b.2))] (AWP.ret ?_)
  have hr:=someb hF
  subst hr
  exact(FnQ.f0 0 (.inr rfl))
def Zqj (r:Bool):PV→List Blk→Prop:=fun p K=>p=(vb r)∧K=[]
theorem Zk3 (c:Bool) (a:Bool) (r:Bool) (hF:Zfi c a=some r):ACall Tryz.prog glob 134 [(vb c),(vb a)] [] (Zqj r):=by
 refine ACall.body Tryz.func134 rfl (by kernel_rfl) ?_
 unfold Zfi at hF
 refine AWP.seq (AWP.rg0 [] [(0,(vb c)),(1,(vb a))] (AWP.seq ?_))
 obtain⟨d,b,hF⟩:=bindb hF
 replace b:=someb b
 refine AWP.to [(4,(vb (d && a)))] [] ?_ ?_
 ·cases d with
  | false=>
   exact AWP.rgT [(1,.bool b)]
  | true=>
   exact AWP.rgT [(1,.bool b)]
 refine AWP.ret ?_
 have hr:=someb hF
 subst hr
 exact(FnQ.f0 0 (.inr rfl))
def Ze9 (r:(ZL × Bool)):PV→List Blk→Prop:=fun p K=>p=(.tup [(slc 10 Za r.1),(vb r.2)])∧K=[]
abbrev Zg5 (r:(ZL × Bool)):Exit→St→List Blk→Prop:=FnQ Tryz.prog Tryz.f147.results 0 (Ze9 r)
theorem Zi6:∀(nr:Nat) (a:Int) (d:ZL) (f:ZL) (g:Int) (r:(ZL × Bool)) (hF:Zai nr a d f g=some r),ACall Tryz.prog glob 147 [(i64 a),(slc 10 Za d),(slc 10 Za f),(.sc (.func (.func 134) #[] #[])),(i64 g)] [] (Ze9 r):=by
 intro nr
 induction nr with
 | zero=>intro a d f g r hF; exact noneb (by rw [Zai] at hF; exact hF)
 | succ nr ih=>
  intro a d f g r hF
  refine ACall.body Tryz.func147 rfl (by kernel_rfl) ?_
  rw [Zai] at hF
  refine AWP.seq (AWP.rg0 [] [(0,(i64 a)),(1,(slc 10 Za d)),(2,(slc 10 Za f)),(3,(.sc (.func (.func 134) #[] #[]))),(4,(i64 g))] (AWP.seq (AWP.seq (AWP.rg0 [] [(0,(i64 a)),(1,(slc 10 Za d)),(2,(slc 10 Za f)),(3,(.sc (.func (.func 134) #[] #[]))),(4,(i64 g)),(26,(vb (a == (5:Int))))] ?_))))
  refine AWP.cif hF (fun c8 hF=>?_) (fun c8 hF=>?_)
  ·refine AWP.seq (AWP.seq ?_)
   obtain⟨b8,c9,hF⟩:=bindb hF
   refine AWP.rg0 [(2,.len Za d),(5,.len Za f),(7,.call Tryz.func134 [] (Zk3 (decide ((List.length d:Int) > (0:Int))) (decide ((List.length f:Int) > (0:Int))) b8 c9))] [(34,(vb b8))] ?_
   refine AWP.cif hF (fun d0 hF=>?_) (fun d0 hF=>?_)
   ·refine AWP.seq (AWP.rg0 [] [(10,(slc 10 Za [(Arr5.mk Zp Zp Zp Zp Zp)])),(11,(vb true))] (AWP.ret ?_))
    have hr:=someb hF
    subst hr
    exact(FnQ.f0 0 (.inr rfl))
   ·refine AWP.skip (AWP.seq (AWP.rg0 [] [(10,nils),(11,(vb true))] (AWP.ret ?_)))
    have hr:=someb hF
    subst hr
    exact(FnQ.f1 0 (.inr rfl) (.inr ⟨_,_,rfl,rfl,(.cons _ _ _ _ (.nil 10) (.cons _ _ _ _ (.refl _) .nil))⟩))
  ·refine AWP.skip (AWP.seq (AWP.seq ?_))
   obtain⟨d1,b0,hF⟩:=bindb hF
   replace b0:=someb b0
   obtain⟨d2,b9,hF⟩:=bindb hF
   refine AWP.to [(0,(i64 a)),(1,(slc 10 Za d)),(2,(slc 10 Za f)),(3,(.sc (.func (.func 134) #[] #[]))),(4,(i64 g)),(47,(vb d2))] [] ?_ ?_
   ·cases d1 with
    | false=>
     have d3:=someb (ifF b9 rfl)
     subst d3
     exact AWP.rgT [(1,.len Za d),(3,.len Za f),(6,.bool b0)]
    | true=>
     have a3:=ifT b9 rfl
     obtain⟨d4,d5,a3⟩:=bindb a3
     replace a3:=someb a3
     subst a3
     exact AWP.rgT [(1,.len Za d),(3,.len Za f),(6,.bool b0),(8,.call Tryz.func134 [] (Zk3 false false d4 d5))]
   refine AWP.cif hF (fun d6 hF=>?_) (fun d6 hF=>?_)
   ·refine AWP.seq (AWP.rg0 [] [(10,nils),(11,(vb true))] (AWP.ret ?_))
    have hr:=someb hF
    subst hr
    exact(FnQ.f1 0 (.inr rfl) (.inr ⟨_,_,rfl,rfl,(.cons _ _ _ _ (.nil 10) (.cons _ _ _ _ (.refl _) .nil))⟩))
   ·refine AWP.skip (AWP.seq (AWP.rg0 [] [(0,(i64 a)),(1,(slc 10 Za d)),(2,(slc 10 Za f)),(3,(.sc (.func (.func 134) #[] #[]))),(4,(i64 g)),(12,nils)] ?_))
    refine AWP.own (H':=[bf 3 157 Zd ([]:(List Zh)) false]) (st':=[(12,(.own 0 (List.length ([]:(List Zh))))),(0,(i64 a)),(1,(slc 10 Za d)),(2,(slc 10 Za f)),(3,(.sc (.func (.func 134) #[] #[]))),(4,(i64 g))]) 12 3 157 (by kernel_rfl) (by kernel_rfl) (by kernel_rfl) ?_
    refine AWP.pick (st':=[(0,(i64 a)),(1,(slc 10 Za d)),(2,(slc 10 Za f)),(3,(.sc (.func (.func 134) #[] #[]))),(4,(i64 g)),(12,(.own 0 (List.length ([]:(List Zh)))))]) (ks:=[0,1,2,3,4,12]) (by kernel_rfl) ?_
    refine AWP.seq (AWP.rg0 [] [(0,(i64 a)),(1,(slc 10 Za d)),(2,(slc 10 Za f)),(3,(.sc (.func (.func 134) #[] #[]))),(4,(i64 g)),(12,(.own 0 (List.length ([]:(List Zh))))),(13,(i64 (0:Int)))] (AWP.seq ?_))
    obtain⟨k,d7,hF⟩:=bindb hF
    refine AWP.rg0 [(4,.call Tryz.func151 [] (Ziv a [d,f] k d7))] [(0,(i64 a)),(1,(slc 10 Za d)),(2,(slc 10 Za f)),(3,(.sc (.func (.func 134) #[] #[]))),(4,(i64 g)),(12,(.own 0 (List.length ([]:(List Zh))))),(13,(i64 (0:Int))),(14,(slc 1 Zc k))] (AWP.seq (AWP.seq (AWP.rg0 [] [(0,(i64 a)),(1,(slc 10 Za d)),(2,(slc 10 Za f)),(3,(.sc (.func (.func 134) #[] #[]))),(4,(i64 g)),(12,(.own 0 (List.length ([]:(List Zh))))),(13,(i64 (0:Int))),(14,(slc 1 Zc k)),(15,(i64 (0:Int)))] ?_)))
    obtain⟨b2,d8,hF⟩:=bindb hF
    refine AWP.mid (fun e st H=>(e=.normal∧∃ c,∃ b3,b2=(.inl (c,b3))∧st=[(0,(i64 a)),(12,(.own 0 (List.length c))),(13,(i64 b3))]∧H=[bf 3 157 Zd c false])∨(e=.ret∧∃ r,b2=(.inr r)∧Zg5 r e st H)) ?_ ?_
    ·clear hF
     refine AWP.kp [0,1,2,3,4,12,13,14,15] 1 ?_
     refine AWP.bround (fun n st H=>∃ b,∃ o,∃ p,Zbr a d f g (Zai nr) k n b o p=some b2∧st=[(0,(i64 a)),(1,(slc 10 Za d)),(2,(slc 10 Za f)),(3,(.sc (.func (.func 134) #[] #[]))),(4,(i64 g)),(12,(.own 0 (List.length b))),(13,(i64 o)),(14,(slc 1 Zc k)),(15,(i64 p))]∧H=[bf 3 157 Zd b false]) fuel ⟨([]:(List Zh)),(0:Int),(0:Int),d8,by kernel_rfl,by kernel_rfl⟩ ?_
     rintro b4 st H ⟨b,o,p,hF,rfl,rfl⟩
     cases b4 with
     | zero=>exact noneb hF
     | succ b4=>
      rw [Zbr] at hF
      refine AWP.seq (AWP.seq (AWP.rg0 [(3,.len Zc k)] [(0,(i64 a)),(1,(slc 10 Za d)),(2,(slc 10 Za f)),(3,(.sc (.func (.func 134) #[] #[]))),(4,(i64 g)),(12,(.own 0 (List.length b))),(13,(i64 o)),(14,(slc 1 Zc k)),(15,(i64 p)),(57,(vb (decide ((ZI (p + (1:Int)))<(List.length k:Int)))))] ?_))
      refine AWP.cif hF (fun d9 hF=>?_) (fun d9 hF=>?_)
      ·refine AWP.skip ?_
       obtain⟨c0,e0,hF⟩:=bindb hF
       refine AWP.seq ?_
       refine AWP.mid (fun e st H=>(e=.normal∧∃ a2,∃ a4,c0=(.inl (a2,a4))∧st=[(0,(i64 a)),(1,(slc 10 Za d)),(2,(slc 10 Za f)),(3,(.sc (.func (.func 134) #[] #[]))),(4,(i64 g)),(12,(.own 0 (List.length a2))),(13,(i64 a4)),(14,(slc 1 Zc k)),(15,(i64 p))]∧H=[bf 3 157 Zd a2 false])∨(e=.ret∧∃ r,c0=(.inr r)∧Zg5 r e st H)) ?_ ?_
       ·clear hF
        have hF:=e0
        refine AWP.block (AWP.seq ?_)
        obtain⟨w,e1,hF⟩:=bindb hF
        obtain⟨u,e2,hF⟩:=bindb hF
        refine AWP.dr [(2,.idx Zc e1),(8,.idx Zc e2)] 14 [] [13] [] [(0,(i64 a)),(1,(slc 10 Za d)),(2,(slc 10 Za f)),(3,(.sc (.func (.func 134) #[] #[]))),(4,(i64 g)),(12,(.own 0 (List.length b))),(13,(i64 o)),(14,(slc 1 Zc k)),(15,(i64 p)),(16,(.ptr 1 0))] [bf 3 157 Zd b false,.cells (Zl (Zb.mk (IntKind.wrap .u32 w) (IntKind.wrap .u32 (IntKind.wrap .u64 (u - (1:Int))))))] (AWP.seq ?_)
        obtain⟨c1,e3,hF⟩:=bindb hF
        obtain⟨c2,e4,hF⟩:=bindb hF
        obtain⟨m,e5,hF⟩:=bindb hF
        refine AWP.dr [(6,.call Tryz.func152 [] (Zd2 d a (IntKind.wrap .u32 w) c1 e3)),(11,.call Tryz.func152 [] (Zd2 f a (IntKind.wrap .u32 w) c2 e4)),(14,.call Tryz.func147 [] (ih (ZI (a + (1:Int))) c1 c2 g m e5))] 19 [] [] [] [(0,(i64 a)),(1,(slc 10 Za d)),(2,(slc 10 Za f)),(3,(.sc (.func (.func 134) #[] #[]))),(4,(i64 g)),(12,(.own 0 (List.length b))),(13,(i64 o)),(14,(slc 1 Zc k)),(15,(i64 p)),(16,(.ptr 1 0)),(17,(slc 10 Za m.1)),(18,(vb m.2))] [bf 3 157 Zd b false,.cells (Zl (Zb.mk (IntKind.wrap .u32 w) (IntKind.wrap .u32 (IntKind.wrap .u64 (u - (1:Int))))))] (AWP.seq (AWP.seq (AWP.rg0 [] [(0,(i64 a)),(1,(slc 10 Za d)),(2,(slc 10 Za f)),(3,(.sc (.func (.func 134) #[] #[]))),(4,(i64 g)),(12,(.own 0 (List.length b))),(13,(i64 o)),(14,(slc 1 Zc k)),(15,(i64 p)),(16,(.ptr 1 0)),(17,(slc 10 Za m.1)),(92,(vb (!m.2)))] ?_)))
        refine AWP.cif hF (fun e6 hF=>?_) (fun e6 hF=>?_)
        ·refine AWP.seq (AWP.rg0 [] [(10,nils),(11,(vb false))] (AWP.ret ?_))
         exact LeQ.of (.inr ⟨rfl,(([]:ZL),false),(someb hF).symm,(FnQ.f1 0 (.inr rfl) (.inr ⟨_,_,rfl,rfl,(.cons _ _ _ _ (.nil 10) (.cons _ _ _ _ (.refl _) .nil))⟩))⟩)
        ·refine AWP.skip (AWP.seq (AWP.seq (AWP.rg0 [(1,.len Za m.1)] [(0,(i64 a)),(1,(slc 10 Za d)),(2,(slc 10 Za f)),(3,(.sc (.func (.func 134) #[] #[]))),(4,(i64 g)),(12,(.own 0 (List.length b))),(13,(i64 o)),(14,(slc 1 Zc k)),(15,(i64 p)),(16,(.ptr 1 0)),(17,(slc 10 Za m.1)),(95,(vb ((List.length m.1:Int) == (0:Int))))] ?_)))
         refine AWP.cif hF (fun e7 hF=>?_) (fun e7 hF=>?_)
         ·refine AWP.exit (LeQ.start (LeQ.pk [0,1,2,3,4,12,13,14,15] 1 ?_))
          exact(.inl ⟨rfl,b,o,(someb hF).symm,by kernel_rfl,by kernel_rfl⟩)
         ·refine AWP.skip (AWP.seq (AWP.seq (AWP.rg0 [(1,.len Zd b)] [(0,(i64 a)),(1,(slc 10 Za d)),(2,(slc 10 Za f)),(3,(.sc (.func (.func 134) #[] #[]))),(4,(i64 g)),(12,(.own 0 (List.length b))),(13,(i64 o)),(14,(slc 1 Zc k)),(15,(i64 p)),(16,(.ptr 1 0)),(17,(slc 10 Za m.1)),(19,(i64 (List.length b:Int)))] (AWP.seq ?_))))
          obtain⟨e8,a5,hF⟩:=bindb hF
          replace a5:=someb a5
          obtain⟨h1,c3,hF⟩:=bindb hF
          obtain⟨e9,a6,hF⟩:=bindb hF
          replace a6:=someb a6
          obtain⟨f2,b5,hF⟩:=bindb hF
          refine AWP.to [(0,(i64 a)),(1,(slc 10 Za d)),(2,(slc 10 Za f)),(3,(.sc (.func (.func 134) #[] #[]))),(4,(i64 g)),(12,(.own 0 (List.length b))),(13,(i64 o)),(14,(slc 1 Zc k)),(15,(i64 p)),(16,(.ptr 1 0)),(17,(slc 10 Za m.1)),(19,(i64 (List.length b:Int))),(122,(vb f2))] [bf 3 157 Zd b false,.cells (Zl (Zb.mk (IntKind.wrap .u32 w) (IntKind.wrap .u32 (IntKind.wrap .u64 (u - (1:Int))))))] ?_ ?_
          ·cases e8 with
           | false=>
            have f3:=someb (ifF c3 rfl)
            subst f3
            subst a6
            have f4:=someb (ifF b5 rfl)
            subst f4
            exact AWP.drT [(2,.bool a5)] 25 [] [] []
           | true=>
            have a7:=ifT c3 rfl
            obtain⟨h2,b1,a7⟩:=bindb a7
            replace a7:=someb a7
            subst a7
            cases e9 with
            | false=>
             have f5:=someb (ifF b5 rfl)
             subst f5
             exact AWP.drT [(2,.bool a5),(6,.idx Zd b1),(7,.fdE Zd b (ZI ((List.length b:Int) - (1:Int)))),(8,.fdE Zd b (ZI ((List.length b:Int) - (1:Int)))),(9,.ldE Zd b1),(15,.bool a6)] 25 [] [] []
            | true=>
             have a1:=ifT b5 rfl
             obtain⟨f6,c4,a1⟩:=bindb a1
             obtain⟨f7,f8,a1⟩:=bindb a1
             replace a1:=someb a1
             subst a1
             exact AWP.drT [(2,.bool a5),(6,.idx Zd b1),(7,.fdE Zd b (ZI ((List.length b:Int) - (1:Int)))),(8,.fdE Zd b (ZI ((List.length b:Int) - (1:Int)))),(9,.ldE Zd b1),(15,.bool a6),(19,.idx Zd c4),(20,.fdE Zd b (ZI ((List.length b:Int) - (1:Int)))),(21,.ldE Zd c4),(23,.call Tryz.func146 [] (Zdr f6.f_rest m.1 f7 f8))] 25 [] [] []
          refine AWP.cif hF (fun f9 hF=>?_) (fun f9 hF=>?_)
          ·refine AWP.seq ?_
           obtain⟨z,c5,hF⟩:=bindb hF
           refine AWP.rg [(5,.idx Zd c5),(6,.fdE Zd b (ZI ((List.length b:Int) - (1:Int)))),(7,.fdE Zd b (ZI ((List.length b:Int) - (1:Int)))),(8,.stE Zd c5 ({ z with f_values:=({ z.f_values with Hi:=(IntKind.wrap .u32 (IntKind.wrap .u64 (u - (1:Int)))) }:Zb) }:Zh))] [(0,(i64 a)),(1,(slc 10 Za d)),(2,(slc 10 Za f)),(3,(.sc (.func (.func 134) #[] #[]))),(4,(i64 g)),(12,(.own 0 (List.length b))),(13,(i64 o)),(14,(slc 1 Zc k)),(15,(i64 p))] [bf 3 157 Zd (List.set b (Int.toNat (ZI ((List.length b:Int) - (1:Int)))) ({ z with f_values:=({ z.f_values with Hi:=(IntKind.wrap .u32 (IntKind.wrap .u64 (u - (1:Int)))) }:Zb) }:Zh)) false,.cells (Zl (Zb.mk (IntKind.wrap .u32 w) (IntKind.wrap .u32 (IntKind.wrap .u64 (u - (1:Int))))))] ?_
           rw [show ([(0,(i64 a)),(1,(slc 10 Za d)),(2,(slc 10 Za f)),(3,(.sc (.func (.func 134) #[] #[]))),(4,(i64 g)),(12,(.own 0 (List.length b))),(13,(i64 o)),(14,(slc 1 Zc k)),(15,(i64 p))]:St)=[(0,(i64 a)),(1,(slc 10 Za d)),(2,(slc 10 Za f)),(3,(.sc (.func (.func 134) #[] #[]))),(4,(i64 g)),(12,(.own 0 (List.length (List.set b (Int.toNat (ZI ((List.length b:Int) - (1:Int)))) ({ z with f_values:=({ z.f_values with Hi:=(IntKind.wrap .u32 (IntKind.wrap .u64 (u - (1:Int)))) }:Zb) }:Zh))))),(13,(i64 o)),(14,(slc 1 Zc k)),(15,(i64 p))] by simp only [List.length_set]]
           refine AWP.exit (LeQ.start (LeQ.pk [0,1,2,3,4,12,13,14,15] 1 ?_))
           exact(.inl ⟨rfl,(List.set b (Int.toNat (ZI ((List.length b:Int) - (1:Int)))) ({ z with f_values:=({ z.f_values with Hi:=(IntKind.wrap .u32 (IntKind.wrap .u64 (u - (1:Int)))) }:Zb) }:Zh)),o,(someb hF).symm,by kernel_rfl,by kernel_rfl⟩)
          ·refine AWP.skip (AWP.seq ?_)
           obtain⟨g0,hF⟩:=chkb hF
           refine AWP.rg [(5,.app Zd (fun _=>by kernel_rfl) g0)] [(0,(i64 a)),(1,(slc 10 Za d)),(2,(slc 10 Za f)),(3,(.sc (.func (.func 134) #[] #[]))),(4,(i64 g)),(12,(.own 0 (List.length (b++[(Zh.mk (Zb.mk (IntKind.wrap .u32 w) (IntKind.wrap .u32 (IntKind.wrap .u64 (u - (1:Int))))) m.1)])))),(13,(i64 o)),(14,(slc 1 Zc k)),(15,(i64 p)),(17,(slc 10 Za m.1))] [bf 3 157 Zd (b++[(Zh.mk (Zb.mk (IntKind.wrap .u32 w) (IntKind.wrap .u32 (IntKind.wrap .u64 (u - (1:Int))))) m.1)]) false,.cells (Zl (Zb.mk (IntKind.wrap .u32 w) (IntKind.wrap .u32 (IntKind.wrap .u64 (u - (1:Int))))))] (AWP.seq (AWP.rg0 [(2,.len Za m.1)] [(0,(i64 a)),(1,(slc 10 Za d)),(2,(slc 10 Za f)),(3,(.sc (.func (.func 134) #[] #[]))),(4,(i64 g)),(12,(.own 0 (List.length (b++[(Zh.mk (Zb.mk (IntKind.wrap .u32 w) (IntKind.wrap .u32 (IntKind.wrap .u64 (u - (1:Int))))) m.1)])))),(13,(i64 (ZI (o + (List.length m.1:Int))))),(14,(slc 1 Zc k)),(15,(i64 p))] (AWP.seq (AWP.rg0 [] [(0,(i64 a)),(1,(slc 10 Za d)),(2,(slc 10 Za f)),(3,(.sc (.func (.func 134) #[] #[]))),(4,(i64 g)),(12,(.own 0 (List.length (b++[(Zh.mk (Zb.mk (IntKind.wrap .u32 w) (IntKind.wrap .u32 (IntKind.wrap .u64 (u - (1:Int))))) m.1)])))),(13,(i64 (ZI (o + (List.length m.1:Int))))),(14,(slc 1 Zc k)),(15,(i64 p)),(143,(vb (decide ((ZI (o + (List.length m.1:Int))) > g))))] ?_))))
           refine AWP.cif hF (fun g1 hF=>?_) (fun g1 hF=>?_)
           ·refine AWP.seq (AWP.rg0 [] [(10,nils),(11,(vb false))] (AWP.ret ?_))
            exact LeQ.of (.inr ⟨rfl,(([]:ZL),false),(someb hF).symm,(FnQ.f1 0 (.inr rfl) (.inr ⟨_,_,rfl,rfl,(.cons _ _ _ _ (.nil 10) (.cons _ _ _ _ (.refl _) .nil))⟩))⟩)
           ·refine AWP.skip (LeQ.start (LeQ.pk [0,1,2,3,4,12,13,14,15] 1 ?_))
            exact(.inl ⟨rfl,(b++[(Zh.mk (Zb.mk (IntKind.wrap .u32 w) (IntKind.wrap .u32 (IntKind.wrap .u64 (u - (1:Int))))) m.1)]),(ZI (o + (List.length m.1:Int))),(someb hF).symm,by kernel_rfl,by kernel_rfl⟩)
       ·rintro _ _ _ (⟨rfl,a2,a4,rfl,rfl,rfl⟩ | ⟨rfl,g2,rfl,hq⟩)
        ·refine AWP.rg0 [] [(0,(i64 a)),(1,(slc 10 Za d)),(2,(slc 10 Za f)),(3,(.sc (.func (.func 134) #[] #[]))),(4,(i64 g)),(12,(.own 0 (List.length a2))),(13,(i64 a4)),(14,(slc 1 Zc k)),(15,(i64 (ZI (p + (1:Int)))))] (LeQ.start (LeQ.pk [0,1,2,3,4,12,13,14,15] 1 ?_))
         exact⟨b4,Nat.lt_succ_self _,a2,a4,(ZI (p + (1:Int))),hF,by kernel_rfl,by kernel_rfl⟩
        ·exact LeQ.of (.inr ⟨rfl,g2,(someb hF).symm,hq⟩)
      ·refine AWP.exit (LeQ.start (LeQ.pk [0,12,13] 1 ?_))
       exact(.inl ⟨rfl,b,o,(someb hF).symm,by kernel_rfl,by kernel_rfl⟩)
    ·rintro _ _ _ (⟨rfl,c,b3,rfl,rfl,rfl⟩ | ⟨rfl,h3,rfl,hq⟩)
     ·refine AWP.seq ?_
      obtain⟨g3,hF⟩:=chkb hF
      refine AWP.rg [(1,.mk0 Za g3)] [(0,(i64 a)),(12,(.own 0 (List.length c))),(20,(.own 1 (List.length ([]:ZL))))] [bf 3 157 Zd c false,bf 10 57 Za ([]:ZL) false] (AWP.seq (AWP.seq (AWP.rg0 [(1,.len Zd c)] [(0,(i64 a)),(20,(.own 1 (List.length ([]:ZL)))),(146,(.own 0 (List.length c))),(147,(i64 (List.length c:Int))),(148,(i64 (0:Int)))] ?_)))
      obtain⟨a8,g4,hF⟩:=bindb hF
      refine AWP.mid (fun e st H=>e=.normal∧st=[(20,(.own 1 (List.length a8)))]∧H=[bf 3 157 Zd c false,bf 10 57 Za a8 false]) ?_ ?_
      ·clear hF
       refine AWP.kp [0,20,146,147,148] 2 ?_
       refine AWP.bround (fun n st H=>∃ y,∃ q,Zbt a c n y q=some a8∧st=[(0,(i64 a)),(20,(.own 1 (List.length y))),(146,(.own 0 (List.length c))),(147,(i64 (List.length c:Int))),(148,(i64 q))]∧H=[bf 3 157 Zd c false,bf 10 57 Za y false]) fuel ⟨([]:ZL),(0:Int),g4,by kernel_rfl,by kernel_rfl⟩ ?_
       rintro b6 st H ⟨y,q,hF,rfl,rfl⟩
       cases b6 with
       | zero=>exact noneb hF
       | succ b6=>
        rw [Zbt] at hF
        refine AWP.seq (AWP.rg0 [] [(0,(i64 a)),(20,(.own 1 (List.length y))),(146,(.own 0 (List.length c))),(147,(i64 (List.length c:Int))),(148,(i64 q)),(149,(vb (decide (q<(List.length c:Int)))))] (AWP.seq ?_))
        refine AWP.cif hF (fun g5 hF=>?_) (fun g5 hF=>?_)
        ·refine AWP.skip (AWP.seq (AWP.block (AWP.seq ?_)))
         obtain⟨j,c6,hF⟩:=bindb hF
         refine AWP.rg [(0,.idx Zd c6),(1,.ldE Zd c6)] [(0,(i64 a)),(20,(.own 1 (List.length y))),(22,(.ptr 2 0)),(146,(.own 0 (List.length c))),(147,(i64 (List.length c:Int))),(148,(i64 q))] [bf 3 157 Zd c false,bf 10 57 Za y false,.cells (Zd j)] (AWP.seq (AWP.rg0 [(2,.len Za j.f_rest)] [(0,(i64 a)),(20,(.own 1 (List.length y))),(22,(.ptr 2 0)),(146,(.own 0 (List.length c))),(147,(i64 (List.length c:Int))),(148,(i64 q)),(153,(slc 10 Za j.f_rest)),(154,(i64 (List.length j.f_rest:Int))),(155,(i64 (0:Int)))] ?_))
         obtain⟨a9,g6,hF⟩:=bindb hF
         refine AWP.mid (fun e st H=>e=.normal∧st=[(0,(i64 a)),(20,(.own 1 (List.length a9))),(146,(.own 0 (List.length c))),(147,(i64 (List.length c:Int))),(148,(i64 q))]∧H=[bf 3 157 Zd c false,bf 10 57 Za a9 false,.cells (Zd j)]) ?_ ?_
         ·clear hF
          refine AWP.kp [0,20,22,146,147,148,153,154,155] 3 ?_
          refine AWP.bround (fun n st H=>∃ v,∃ x,Zbs a j n v x=some a9∧st=[(0,(i64 a)),(20,(.own 1 (List.length v))),(22,(.ptr 2 0)),(146,(.own 0 (List.length c))),(147,(i64 (List.length c:Int))),(148,(i64 q)),(153,(slc 10 Za j.f_rest)),(154,(i64 (List.length j.f_rest:Int))),(155,(i64 x))]∧H=[bf 3 157 Zd c false,bf 10 57 Za v false,.cells (Zd j)]) fuel ⟨y,(0:Int),g6,by kernel_rfl,by kernel_rfl⟩ ?_
          rintro b7 st H ⟨v,x,hF,rfl,rfl⟩
          cases b7 with
          | zero=>exact noneb hF
          | succ b7=>
           rw [Zbs] at hF
           refine AWP.seq (AWP.rg0 [] [(0,(i64 a)),(20,(.own 1 (List.length v))),(22,(.ptr 2 0)),(146,(.own 0 (List.length c))),(147,(i64 (List.length c:Int))),(148,(i64 q)),(153,(slc 10 Za j.f_rest)),(154,(i64 (List.length j.f_rest:Int))),(155,(i64 x)),(156,(vb (decide (x<(List.length j.f_rest:Int)))))] (AWP.seq ?_))
           refine AWP.cif hF (fun g7 hF=>?_) (fun g7 hF=>?_)
           ·refine AWP.skip (AWP.seq (AWP.block (AWP.seq ?_)))
            obtain⟨a0,g8,hF⟩:=bindb hF
            refine AWP.rg [(0,.idx Za g8)] [(0,(i64 a)),(20,(.own 1 (List.length v))),(22,(.ptr 2 0)),(24,(.ptr 3 0)),(146,(.own 0 (List.length c))),(147,(i64 (List.length c:Int))),(148,(i64 q)),(153,(slc 10 Za j.f_rest)),(154,(i64 (List.length j.f_rest:Int))),(155,(i64 x))] [bf 3 157 Zd c false,bf 10 57 Za v false,.cells (Zd j),.cells (Za a0)] (AWP.seq ?_)
            obtain⟨c7,hF⟩:=chkb hF
            refine AWP.rg [(3,.ixd c7),(4,.stA (fun g9=>Za (Arr5.set a0 g9 j.f_values)) 0 2 0 c7)] [(0,(i64 a)),(20,(.own 1 (List.length v))),(22,(.ptr 2 0)),(24,(.ptr 3 0)),(146,(.own 0 (List.length c))),(147,(i64 (List.length c:Int))),(148,(i64 q)),(153,(slc 10 Za j.f_rest)),(154,(i64 (List.length j.f_rest:Int))),(155,(i64 x))] [bf 3 157 Zd c false,bf 10 57 Za v false,.cells (Zd j),.cells (Za (Arr5.set a0 a j.f_values))] ?_
            obtain⟨h0,hF⟩:=chkb hF
            refine AWP.rg [(3,.app Za (fun _=>by kernel_rfl) h0)] [(0,(i64 a)),(20,(.own 1 (List.length (v++[(Arr5.set a0 a j.f_values)])))),(22,(.ptr 2 0)),(146,(.own 0 (List.length c))),(147,(i64 (List.length c:Int))),(148,(i64 q)),(153,(slc 10 Za j.f_rest)),(154,(i64 (List.length j.f_rest:Int))),(155,(i64 x))] [bf 3 157 Zd c false,bf 10 57 Za (v++[(Arr5.set a0 a j.f_values)]) false,.cells (Zd j),.cells (Za (Arr5.set a0 a j.f_values))] (AWP.rg0 [] [(0,(i64 a)),(20,(.own 1 (List.length (v++[(Arr5.set a0 a j.f_values)])))),(22,(.ptr 2 0)),(146,(.own 0 (List.length c))),(147,(i64 (List.length c:Int))),(148,(i64 q)),(153,(slc 10 Za j.f_rest)),(154,(i64 (List.length j.f_rest:Int))),(155,(i64 (ZI (x + (1:Int)))))] (LeQ.start (LeQ.pk [0,20,22,146,147,148,153,154,155] 3 ?_)))
            exact⟨b7,Nat.lt_succ_self _,(v++[(Arr5.set a0 a j.f_values)]),(ZI (x + (1:Int))),hF,by kernel_rfl,by kernel_rfl⟩
           ·refine AWP.exit (LeQ.start (LeQ.pk [0,20,146,147,148] 3 ?_))
            have hr:=someb hF
            subst hr
            exact⟨rfl,by kernel_rfl,by kernel_rfl⟩
         ·rintro _ _ _ ⟨rfl,rfl,rfl⟩
          refine AWP.rg0 [] [(0,(i64 a)),(20,(.own 1 (List.length a9))),(146,(.own 0 (List.length c))),(147,(i64 (List.length c:Int))),(148,(i64 (ZI (q + (1:Int)))))] (LeQ.start (LeQ.pk [0,20,146,147,148] 2 ?_))
          exact⟨b6,Nat.lt_succ_self _,a9,(ZI (q + (1:Int))),hF,by kernel_rfl,by kernel_rfl⟩
        ·refine AWP.exit (LeQ.start (LeQ.pk [20] 2 ?_))
         have hr:=someb hF
         subst hr
         exact⟨rfl,by kernel_rfl,by kernel_rfl⟩
      ·rintro _ _ _ ⟨rfl,rfl,rfl⟩
       refine AWP.seq (AWP.rg0 [] [(10,(.own 1 (List.length a8))),(11,(vb true))] (AWP.ret ?_))
       have hr:=someb hF
       subst hr
       exact(FnQ.f1 0 (.inr rfl) (.inr ⟨_,_,rfl,rfl,(.cons _ _ _ _ (Wk.ownT (i:=1) (s:=10) (t:=57) (l:=a8) (sh:=false) (row:=Za) (by kernel_rfl) (.inl rfl)) (.cons _ _ _ _ (.refl _) .nil))⟩))
     ·have hr:=someb hF
      subst hr
      exact hq
theorem Zjs (a:Int) (b:ZL) (c:ZL) (d:Int) (r:(ZL × Bool)) (hF:Zai fuel a b c d=some r):ACall Tryz.prog glob 147 [(i64 a),(slc 10 Za b),(slc 10 Za c),(.sc (.func (.func 134) #[] #[])),(i64 d)] [] (Ze9 r):=Zi6 fuel a b c d r hF
def Zj9 (r:(ZL × Int)):PV→List Blk→Prop:=fun p K=>p=(.tup [(slc 10 Za r.1),(i64 r.2)])∧K=[]
theorem Zka (b:ZL) (c:ZL) (r:(ZL × Int)) (hF:Zc6 b c=some r):ACall Tryz.prog glob 131 [(slc 10 Za b),(slc 10 Za c),(.sc (.func (.func 134) #[] #[]))] [] (Zj9 r):=by
 refine ACall.body Tryz.func131 rfl (by kernel_rfl) ?_
 unfold Zc6 at hF
 refine AWP.seq (AWP.rg0 [] [(0,(slc 10 Za b)),(1,(slc 10 Za c)),(2,(.sc (.func (.func 134) #[] #[])))] (AWP.seq ?_))
 obtain⟨a,d,hF⟩:=bindb hF
 refine AWP.rg0 [(3,.call Tryz.func147 [] (Zjs (0:Int) b c (4096:Int) a d))] [(8,(slc 10 Za a.1)),(9,(vb a.2))] (AWP.seq (AWP.seq (AWP.rg0 [] [(8,(slc 10 Za a.1)),(18,(vb (!a.2)))] ?_)))
 refine AWP.cif hF (fun f hF=>?_) (fun f hF=>?_)
 ·refine AWP.seq (AWP.rg0 [] [(6,nils),(7,(i64 (3:Int)))] (AWP.ret ?_))
  have hr:=someb hF
  subst hr
  exact(FnQ.f1 0 (.inr rfl) (.inr ⟨_,_,rfl,rfl,(.cons _ _ _ _ (.nil 10) (.cons _ _ _ _ (.refl _) .nil))⟩))
 ·refine AWP.skip (AWP.seq (AWP.rg0 [] [(6,(slc 10 Za a.1)),(7,(i64 (0:Int)))] (AWP.ret ?_)))
  have hr:=someb hF
  subst hr
  exact(FnQ.f0 0 (.inr rfl))
def Zl2 (r:(ZL × Int)):PV→List Blk→Prop:=fun p K=>p=(.tup [(slc 10 Za r.1),(i64 r.2)])∧K=[]
theorem Zl3 (d:ZL) (c:ZL) (r:(ZL × Int)) (hF:Zfk d c=some r):ACall Tryz.prog glob 133 [(slc 10 Za d),(slc 10 Za c),(.sc (.func (.func 134) #[] #[]))] [] (Zl2 r):=by
 refine ACall.body Tryz.func133 rfl (by kernel_rfl) ?_
 unfold Zfk at hF
 refine AWP.seq (AWP.rg0 [] [(0,(slc 10 Za d)),(1,(slc 10 Za c)),(2,(.sc (.func (.func 134) #[] #[])))] (AWP.seq ?_))
 obtain⟨a,g,hF⟩:=bindb hF
 refine AWP.rg0 [(1,.call Tryz.func140 [] (Ze3 d a g))] [(1,(slc 10 Za c)),(2,(.sc (.func (.func 134) #[] #[]))),(8,(slc 10 Za a.1)),(9,(i64 a.2))] (AWP.seq (AWP.seq (AWP.rg0 [] [(1,(slc 10 Za c)),(2,(.sc (.func (.func 134) #[] #[]))),(8,(slc 10 Za a.1)),(9,(i64 a.2)),(17,(vb (a.2 != (0:Int))))] ?_)))
 refine AWP.cif hF (fun i hF=>?_) (fun i hF=>?_)
 ·refine AWP.seq (AWP.rg0 [] [(6,nils),(7,(i64 a.2))] (AWP.ret ?_))
  have hr:=someb hF
  subst hr
  exact(FnQ.f1 0 (.inr rfl) (.inr ⟨_,_,rfl,rfl,(.cons _ _ _ _ (.nil 10) (.cons _ _ _ _ (.refl _) .nil))⟩))
 ·refine AWP.skip (AWP.seq ?_)
  obtain⟨b,j,hF⟩:=bindb hF
  refine AWP.rg0 [(1,.call Tryz.func140 [] (Ze3 c b j))] [(2,(.sc (.func (.func 134) #[] #[]))),(8,(slc 10 Za a.1)),(9,(i64 b.2)),(10,(slc 10 Za b.1))] (AWP.seq (AWP.seq (AWP.rg0 [] [(2,(.sc (.func (.func 134) #[] #[]))),(8,(slc 10 Za a.1)),(9,(i64 b.2)),(10,(slc 10 Za b.1)),(25,(vb (b.2 != (0:Int))))] ?_)))
  refine AWP.cif hF (fun k hF=>?_) (fun k hF=>?_)
  ·refine AWP.seq (AWP.rg0 [] [(6,nils),(7,(i64 b.2))] (AWP.ret ?_))
   have hr:=someb hF
   subst hr
   exact(FnQ.f1 0 (.inr rfl) (.inr ⟨_,_,rfl,rfl,(.cons _ _ _ _ (.nil 10) (.cons _ _ _ _ (.refl _) .nil))⟩))
  ·refine AWP.skip (AWP.seq ?_)
   obtain⟨f,l,hF⟩:=bindb hF
   refine AWP.rg0 [(3,.call Tryz.func131 [] (Zka a.1 b.1 f l))] [(6,(slc 10 Za f.1)),(7,(i64 f.2))] (AWP.ret ?_)
   have hr:=someb hF
   subst hr
   exact(FnQ.f0 0 (.inr rfl))
def Zmj (r:(ZL × Int)):PV→List Blk→Prop:=fun p K=>p=(.tup [(slc 10 Za r.1),(i64 r.2)])∧K=[]
theorem Zmk (a:ZL) (b:ZL) (r:(ZL × Int)) (hF:Zen a b=some r):ACall Tryz.prog glob 104 [(slc 10 Za a),(slc 10 Za b)] [] (Zmj r):=by
 refine ACall.body Tryz.func104 rfl (by kernel_rfl) ?_
 unfold Zen at hF
 refine AWP.seq (AWP.rg0 [] [(0,(slc 10 Za a)),(1,(slc 10 Za b))] (AWP.seq ?_))
 obtain⟨c,d,hF⟩:=bindb hF
 refine AWP.rg0 [(2,.call Tryz.func133 [] (Zl3 a b c d))] [(4,(slc 10 Za c.1)),(5,(i64 c.2))] (AWP.ret ?_)
 have hr:=someb hF
 subst hr
 exact(FnQ.f0 0 (.inr rfl))
def Zkh (r:(ZL × Zj)):PV→List Blk→Prop:=fun p K=>p=(slc 10 Za r.1)∧K=[.cells (Zm r.2)]
theorem Zdc (c:Zj) (a:ZL) (b:ZL) (r:(ZL × Zj)) (hF:Za6 c a b=some r):ACall Tryz.prog glob 57 [(.ptr 0 0),(slc 10 Za a),(slc 10 Za b)] [.cells (Zm c)] (Zkh r):=by
 refine ACall.body Tryz.func57 rfl (by kernel_rfl) ?_
 unfold Za6 at hF
 refine AWP.seq (AWP.rg0 [] [(0,(.ptr 0 0)),(1,(slc 10 Za a)),(2,(slc 10 Za b))] (AWP.seq ?_))
 obtain⟨d,g,hF⟩:=bindb hF
 obtain⟨f,i,hF⟩:=bindb hF
 refine AWP.rg [(3,.call Tryz.func104 [] (Zmk a b d g)),(6,.call Tryz.func100 [] (Zeq c d.1 d.2 f i))] [(6,(slc 10 Za f.1))] [.cells (Zm f.2)] (AWP.ret ?_)
 have hr:=someb hF
 subst hr
 exact(FnQ.f0 1 (.inr rfl))
def Znw (r:Bool):PV→List Blk→Prop:=fun p K=>p=(vb r)∧K=[]
theorem Zju (c:Bool) (a:Bool) (r:Bool) (hF:Zd9 c a=some r):ACall Tryz.prog glob 135 [(vb c),(vb a)] [] (Znw r):=by
 refine ACall.body Tryz.func135 rfl (by kernel_rfl) ?_
 unfold Zd9 at hF
 refine AWP.seq (AWP.rg0 [] [(0,(vb c)),(1,(vb a))] (AWP.seq ?_))
 obtain⟨d,b,hF⟩:=bindb hF
 replace b:=someb b
 refine AWP.to [(4,(vb (d && (!a))))] [] ?_ ?_
 ·cases d with
  | false=>
   exact AWP.rgT [(1,.bool b)]
  | true=>
   exact AWP.rgT [(1,.bool b)]
 refine AWP.ret ?_
 have hr:=someb hF
 subst hr
 exact(FnQ.f0 0 (.inr rfl))
def Zei (r:(ZL × Bool)):PV→List Blk→Prop:=fun p K=>p=(.tup [(slc 10 Za r.1),(vb r.2)])∧K=[]
abbrev Zgk (r:(ZL × Bool)):Exit→St→List Blk→Prop:=FnQ Tryz.prog Tryz.f147.results 0 (Zei r)
theorem Zij:∀(nr:Nat) (a:Int) (d:ZL) (f:ZL) (g:Int) (r:(ZL × Bool)) (hF:Zac nr a d f g=some r),ACall Tryz.prog glob 147 [(i64 a),(slc 10 Za d),(slc 10 Za f),(.sc (.func (.func 135) #[] #[])),(i64 g)] [] (Zei r):=by
 intro nr
 induction nr with
 | zero=>intro a d f g r hF; exact noneb (by rw [Zac] at hF; exact hF)
 | succ nr ih=>
  intro a d f g r hF
  refine ACall.body Tryz.func147 rfl (by kernel_rfl) ?_
  rw [Zac] at hF
  refine AWP.seq (AWP.rg0 [] [(0,(i64 a)),(1,(slc 10 Za d)),(2,(slc 10 Za f)),(3,(.sc (.func (.func 135) #[] #[]))),(4,(i64 g))] (AWP.seq (AWP.seq (AWP.rg0 [] [(0,(i64 a)),(1,(slc 10 Za d)),(2,(slc 10 Za f)),(3,(.sc (.func (.func 135) #[] #[]))),(4,(i64 g)),(26,(vb (a == (5:Int))))] ?_))))
  refine AWP.cif hF (fun c8 hF=>?_) (fun c8 hF=>?_)
  ·refine AWP.seq (AWP.seq ?_)
   obtain⟨b8,c9,hF⟩:=bindb hF
   refine AWP.rg0 [(2,.len Za d),(5,.len Za f),(7,.call Tryz.func135 [] (Zju (decide ((List.length d:Int) > (0:Int))) (decide ((List.length f:Int) > (0:Int))) b8 c9))] [(34,(vb b8))] ?_
   refine AWP.cif hF (fun d0 hF=>?_) (fun d0 hF=>?_)
   ·refine AWP.seq (AWP.rg0 [] [(10,(slc 10 Za [(Arr5.mk Zp Zp Zp Zp Zp)])),(11,(vb true))] (AWP.ret ?_))
    have hr:=someb hF
    subst hr
    exact(FnQ.f0 0 (.inr rfl))
   ·refine AWP.skip (AWP.seq (AWP.rg0 [] [(10,nils),(11,(vb true))] (AWP.ret ?_)))
    have hr:=someb hF
    subst hr
    exact(FnQ.f1 0 (.inr rfl) (.inr ⟨_,_,rfl,rfl,(.cons _ _ _ _ (.nil 10) (.cons _ _ _ _ (.refl _) .nil))⟩))
  ·refine AWP.skip (AWP.seq (AWP.seq ?_))
   obtain⟨d1,b0,hF⟩:=bindb hF
   replace b0:=someb b0
   obtain⟨d2,b9,hF⟩:=bindb hF
   refine AWP.to [(0,(i64 a)),(1,(slc 10 Za d)),(2,(slc 10 Za f)),(3,(.sc (.func (.func 135) #[] #[]))),(4,(i64 g)),(47,(vb d2))] [] ?_ ?_
   ·cases d1 with
    | false=>
     have d3:=someb (ifF b9 rfl)
     subst d3
     exact AWP.rgT [(1,.len Za d),(3,.len Za f),(6,.bool b0)]
    | true=>
     have a3:=ifT b9 rfl
     obtain⟨d4,d5,a3⟩:=bindb a3
     replace a3:=someb a3
     subst a3
     exact AWP.rgT [(1,.len Za d),(3,.len Za f),(6,.bool b0),(8,.call Tryz.func135 [] (Zju false false d4 d5))]
   refine AWP.cif hF (fun d6 hF=>?_) (fun d6 hF=>?_)
   ·refine AWP.seq (AWP.rg0 [] [(10,nils),(11,(vb true))] (AWP.ret ?_))
    have hr:=someb hF
    subst hr
    exact(FnQ.f1 0 (.inr rfl) (.inr ⟨_,_,rfl,rfl,(.cons _ _ _ _ (.nil 10) (.cons _ _ _ _ (.refl _) .nil))⟩))
   ·refine AWP.skip (AWP.seq (AWP.rg0 [] [(0,(i64 a)),(1,(slc 10 Za d)),(2,(slc 10 Za f)),(3,(.sc (.func (.func 135) #[] #[]))),(4,(i64 g)),(12,nils)] ?_))
    refine AWP.own (H':=[bf 3 157 Zd ([]:(List Zh)) false]) (st':=[(12,(.own 0 (List.length ([]:(List Zh))))),(0,(i64 a)),(1,(slc 10 Za d)),(2,(slc 10 Za f)),(3,(.sc (.func (.func 135) #[] #[]))),(4,(i64 g))]) 12 3 157 (by kernel_rfl) (by kernel_rfl) (by kernel_rfl) ?_
    refine AWP.pick (st':=[(0,(i64 a)),(1,(slc 10 Za d)),(2,(slc 10 Za f)),(3,(.sc (.func (.func 135) #[] #[]))),(4,(i64 g)),(12,(.own 0 (List.length ([]:(List Zh)))))]) (ks:=[0,1,2,3,4,12]) (by kernel_rfl) ?_
    refine AWP.seq (AWP.rg0 [] [(0,(i64 a)),(1,(slc 10 Za d)),(2,(slc 10 Za f)),(3,(.sc (.func (.func 135) #[] #[]))),(4,(i64 g)),(12,(.own 0 (List.length ([]:(List Zh))))),(13,(i64 (0:Int)))] (AWP.seq ?_))
    obtain⟨k,d7,hF⟩:=bindb hF
    refine AWP.rg0 [(4,.call Tryz.func151 [] (Ziv a [d,f] k d7))] [(0,(i64 a)),(1,(slc 10 Za d)),(2,(slc 10 Za f)),(3,(.sc (.func (.func 135) #[] #[]))),(4,(i64 g)),(12,(.own 0 (List.length ([]:(List Zh))))),(13,(i64 (0:Int))),(14,(slc 1 Zc k))] (AWP.seq (AWP.seq (AWP.rg0 [] [(0,(i64 a)),(1,(slc 10 Za d)),(2,(slc 10 Za f)),(3,(.sc (.func (.func 135) #[] #[]))),(4,(i64 g)),(12,(.own 0 (List.length ([]:(List Zh))))),(13,(i64 (0:Int))),(14,(slc 1 Zc k)),(15,(i64 (0:Int)))] ?_)))
    obtain⟨b2,d8,hF⟩:=bindb hF
    refine AWP.mid (fun e st H=>(e=.normal∧∃ c,∃ b3,b2=(.inl (c,b3))∧st=[(0,(i64 a)),(12,(.own 0 (List.length c))),(13,(i64 b3))]∧H=[bf 3 157 Zd c false])∨(e=.ret∧∃ r,b2=(.inr r)∧Zgk r e st H)) ?_ ?_
    ·clear hF
     refine AWP.kp [0,1,2,3,4,12,13,14,15] 1 ?_
     refine AWP.bround (fun n st H=>∃ b,∃ o,∃ p,Zbi a d f g (Zac nr) k n b o p=some b2∧st=[(0,(i64 a)),(1,(slc 10 Za d)),(2,(slc 10 Za f)),(3,(.sc (.func (.func 135) #[] #[]))),(4,(i64 g)),(12,(.own 0 (List.length b))),(13,(i64 o)),(14,(slc 1 Zc k)),(15,(i64 p))]∧H=[bf 3 157 Zd b false]) fuel ⟨([]:(List Zh)),(0:Int),(0:Int),d8,by kernel_rfl,by kernel_rfl⟩ ?_
     rintro b4 st H ⟨b,o,p,hF,rfl,rfl⟩
     cases b4 with
     | zero=>exact noneb hF
     | succ b4=>
      rw [Zbi] at hF
      refine AWP.seq (AWP.seq (AWP.rg0 [(3,.len Zc k)] [(0,(i64 a)),(1,(slc 10 Za d)),(2,(slc 10 Za f)),(3,(.sc (.func (.func 135) #[] #[]))),(4,(i64 g)),(12,(.own 0 (List.length b))),(13,(i64 o)),(14,(slc 1 Zc k)),(15,(i64 p)),(57,(vb (decide ((ZI (p + (1:Int)))<(List.length k:Int)))))] ?_))
      refine AWP.cif hF (fun d9 hF=>?_) (fun d9 hF=>?_)
      ·refine AWP.skip ?_
       obtain⟨c0,e0,hF⟩:=bindb hF
       refine AWP.seq ?_
       refine AWP.mid (fun e st H=>(e=.normal∧∃ a2,∃ a4,c0=(.inl (a2,a4))∧st=[(0,(i64 a)),(1,(slc 10 Za d)),(2,(slc 10 Za f)),(3,(.sc (.func (.func 135) #[] #[]))),(4,(i64 g)),(12,(.own 0 (List.length a2))),(13,(i64 a4)),(14,(slc 1 Zc k)),(15,(i64 p))]∧H=[bf 3 157 Zd a2 false])∨(e=.ret∧∃ r,c0=(.inr r)∧Zgk r e st H)) ?_ ?_
       ·clear hF
        have hF:=e0
        refine AWP.block (AWP.seq ?_)
        obtain⟨w,e1,hF⟩:=bindb hF
        obtain⟨u,e2,hF⟩:=bindb hF
        refine AWP.dr [(2,.idx Zc e1),(8,.idx Zc e2)] 14 [] [13] [] [(0,(i64 a)),(1,(slc 10 Za d)),(2,(slc 10 Za f)),(3,(.sc (.func (.func 135) #[] #[]))),(4,(i64 g)),(12,(.own 0 (List.length b))),(13,(i64 o)),(14,(slc 1 Zc k)),(15,(i64 p)),(16,(.ptr 1 0))] [bf 3 157 Zd b false,.cells (Zl (Zb.mk (IntKind.wrap .u32 w) (IntKind.wrap .u32 (IntKind.wrap .u64 (u - (1:Int))))))] (AWP.seq ?_)
        obtain⟨c1,e3,hF⟩:=bindb hF
        obtain⟨c2,e4,hF⟩:=bindb hF
        obtain⟨m,e5,hF⟩:=bindb hF
        refine AWP.dr [(6,.call Tryz.func152 [] (Zd2 d a (IntKind.wrap .u32 w) c1 e3)),(11,.call Tryz.func152 [] (Zd2 f a (IntKind.wrap .u32 w) c2 e4)),(14,.call Tryz.func147 [] (ih (ZI (a + (1:Int))) c1 c2 g m e5))] 19 [] [] [] [(0,(i64 a)),(1,(slc 10 Za d)),(2,(slc 10 Za f)),(3,(.sc (.func (.func 135) #[] #[]))),(4,(i64 g)),(12,(.own 0 (List.length b))),(13,(i64 o)),(14,(slc 1 Zc k)),(15,(i64 p)),(16,(.ptr 1 0)),(17,(slc 10 Za m.1)),(18,(vb m.2))] [bf 3 157 Zd b false,.cells (Zl (Zb.mk (IntKind.wrap .u32 w) (IntKind.wrap .u32 (IntKind.wrap .u64 (u - (1:Int))))))] (AWP.seq (AWP.seq (AWP.rg0 [] [(0,(i64 a)),(1,(slc 10 Za d)),(2,(slc 10 Za f)),(3,(.sc (.func (.func 135) #[] #[]))),(4,(i64 g)),(12,(.own 0 (List.length b))),(13,(i64 o)),(14,(slc 1 Zc k)),(15,(i64 p)),(16,(.ptr 1 0)),(17,(slc 10 Za m.1)),(92,(vb (!m.2)))] ?_)))
        refine AWP.cif hF (fun e6 hF=>?_) (fun e6 hF=>?_)
        ·refine AWP.seq (AWP.rg0 [] [(10,nils),(11,(vb false))] (AWP.ret ?_))
         exact LeQ.of (.inr ⟨rfl,(([]:ZL),false),(someb hF).symm,(FnQ.f1 0 (.inr rfl) (.inr ⟨_,_,rfl,rfl,(.cons _ _ _ _ (.nil 10) (.cons _ _ _ _ (.refl _) .nil))⟩))⟩)
        ·refine AWP.skip (AWP.seq (AWP.seq (AWP.rg0 [(1,.len Za m.1)] [(0,(i64 a)),(1,(slc 10 Za d)),(2,(slc 10 Za f)),(3,(.sc (.func (.func 135) #[] #[]))),(4,(i64 g)),(12,(.own 0 (List.length b))),(13,(i64 o)),(14,(slc 1 Zc k)),(15,(i64 p)),(16,(.ptr 1 0)),(17,(slc 10 Za m.1)),(95,(vb ((List.length m.1:Int) == (0:Int))))] ?_)))
         refine AWP.cif hF (fun e7 hF=>?_) (fun e7 hF=>?_)
         ·refine AWP.exit (LeQ.start (LeQ.pk [0,1,2,3,4,12,13,14,15] 1 ?_))
          exact(.inl ⟨rfl,b,o,(someb hF).symm,by kernel_rfl,by kernel_rfl⟩)
         ·refine AWP.skip (AWP.seq (AWP.seq (AWP.rg0 [(1,.len Zd b)] [(0,(i64 a)),(1,(slc 10 Za d)),(2,(slc 10 Za f)),(3,(.sc (.func (.func 135) #[] #[]))),(4,(i64 g)),(12,(.own 0 (List.length b))),(13,(i64 o)),(14,(slc 1 Zc k)),(15,(i64 p)),(16,(.ptr 1 0)),(17,(slc 10 Za m.1)),(19,(i64 (List.length b:Int)))] (AWP.seq ?_))))
          obtain⟨e8,a5,hF⟩:=bindb hF
          replace a5:=someb a5
          obtain⟨h1,c3,hF⟩:=bindb hF
          obtain⟨e9,a6,hF⟩:=bindb hF
          replace a6:=someb a6
          obtain⟨f2,b5,hF⟩:=bindb hF
          refine AWP.to [(0,(i64 a)),(1,(slc 10 Za d)),(2,(slc 10 Za f)),(3,(.sc (.func (.func 135) #[] #[]))),(4,(i64 g)),(12,(.own 0 (List.length b))),(13,(i64 o)),(14,(slc 1 Zc k)),(15,(i64 p)),(16,(.ptr 1 0)),(17,(slc 10 Za m.1)),(19,(i64 (List.length b:Int))),(122,(vb f2))] [bf 3 157 Zd b false,.cells (Zl (Zb.mk (IntKind.wrap .u32 w) (IntKind.wrap .u32 (IntKind.wrap .u64 (u - (1:Int))))))] ?_ ?_
          ·cases e8 with
           | false=>
            have f3:=someb (ifF c3 rfl)
            subst f3
            subst a6
            have f4:=someb (ifF b5 rfl)
            subst f4
            exact AWP.drT [(2,.bool a5)] 25 [] [] []
           | true=>
            have a7:=ifT c3 rfl
            obtain⟨h2,b1,a7⟩:=bindb a7
            replace a7:=someb a7
            subst a7
            cases e9 with
            | false=>
             have f5:=someb (ifF b5 rfl)
             subst f5
             exact AWP.drT [(2,.bool a5),(6,.idx Zd b1),(7,.fdE Zd b (ZI ((List.length b:Int) - (1:Int)))),(8,.fdE Zd b (ZI ((List.length b:Int) - (1:Int)))),(9,.ldE Zd b1),(15,.bool a6)] 25 [] [] []
            | true=>
             have a1:=ifT b5 rfl
             obtain⟨f6,c4,a1⟩:=bindb a1
             obtain⟨f7,f8,a1⟩:=bindb a1
             replace a1:=someb a1
             subst a1
             exact AWP.drT [(2,.bool a5),(6,.idx Zd b1),(7,.fdE Zd b (ZI ((List.length b:Int) - (1:Int)))),(8,.fdE Zd b (ZI ((List.length b:Int) - (1:Int)))),(9,.ldE Zd b1),(15,.bool a6),(19,.idx Zd c4),(20,.fdE Zd b (ZI ((List.length b:Int) - (1:Int)))),(21,.ldE Zd c4),(23,.call Tryz.func146 [] (Zdr f6.f_rest m.1 f7 f8))] 25 [] [] []
          refine AWP.cif hF (fun f9 hF=>?_) (fun f9 hF=>?_)
          ·refine AWP.seq ?_
           obtain⟨z,c5,hF⟩:=bindb hF
           refine AWP.rg [(5,.idx Zd c5),(6,.fdE Zd b (ZI ((List.length b:Int) - (1:Int)))),(7,.fdE Zd b (ZI ((List.length b:Int) - (1:Int)))),(8,.stE Zd c5 ({ z with f_values:=({ z.f_values with Hi:=(IntKind.wrap .u32 (IntKind.wrap .u64 (u - (1:Int)))) }:Zb) }:Zh))] [(0,(i64 a)),(1,(slc 10 Za d)),(2,(slc 10 Za f)),(3,(.sc (.func (.func 135) #[] #[]))),(4,(i64 g)),(12,(.own 0 (List.length b))),(13,(i64 o)),(14,(slc 1 Zc k)),(15,(i64 p))] [bf 3 157 Zd (List.set b (Int.toNat (ZI ((List.length b:Int) - (1:Int)))) ({ z with f_values:=({ z.f_values with Hi:=(IntKind.wrap .u32 (IntKind.wrap .u64 (u - (1:Int)))) }:Zb) }:Zh)) false,.cells (Zl (Zb.mk (IntKind.wrap .u32 w) (IntKind.wrap .u32 (IntKind.wrap .u64 (u - (1:Int))))))] ?_
           rw [show ([(0,(i64 a)),(1,(slc 10 Za d)),(2,(slc 10 Za f)),(3,(.sc (.func (.func 135) #[] #[]))),(4,(i64 g)),(12,(.own 0 (List.length b))),(13,(i64 o)),(14,(slc 1 Zc k)),(15,(i64 p))]:St)=[(0,(i64 a)),(1,(slc 10 Za d)),(2,(slc 10 Za f)),(3,(.sc (.func (.func 135) #[] #[]))),(4,(i64 g)),(12,(.own 0 (List.length (List.set b (Int.toNat (ZI ((List.length b:Int) - (1:Int)))) ({ z with f_values:=({ z.f_values with Hi:=(IntKind.wrap .u32 (IntKind.wrap .u64 (u - (1:Int)))) }:Zb) }:Zh))))),(13,(i64 o)),(14,(slc 1 Zc k)),(15,(i64 p))] by simp only [List.length_set]]
           refine AWP.exit (LeQ.start (LeQ.pk [0,1,2,3,4,12,13,14,15] 1 ?_))
           exact(.inl ⟨rfl,(List.set b (Int.toNat (ZI ((List.length b:Int) - (1:Int)))) ({ z with f_values:=({ z.f_values with Hi:=(IntKind.wrap .u32 (IntKind.wrap .u64 (u - (1:Int)))) }:Zb) }:Zh)),o,(someb hF).symm,by kernel_rfl,by kernel_rfl⟩)
          ·refine AWP.skip (AWP.seq ?_)
           obtain⟨g0,hF⟩:=chkb hF
           refine AWP.rg [(5,.app Zd (fun _=>by kernel_rfl) g0)] [(0,(i64 a)),(1,(slc 10 Za d)),(2,(slc 10 Za f)),(3,(.sc (.func (.func 135) #[] #[]))),(4,(i64 g)),(12,(.own 0 (List.length (b++[(Zh.mk (Zb.mk (IntKind.wrap .u32 w) (IntKind.wrap .u32 (IntKind.wrap .u64 (u - (1:Int))))) m.1)])))),(13,(i64 o)),(14,(slc 1 Zc k)),(15,(i64 p)),(17,(slc 10 Za m.1))] [bf 3 157 Zd (b++[(Zh.mk (Zb.mk (IntKind.wrap .u32 w) (IntKind.wrap .u32 (IntKind.wrap .u64 (u - (1:Int))))) m.1)]) false,.cells (Zl (Zb.mk (IntKind.wrap .u32 w) (IntKind.wrap .u32 (IntKind.wrap .u64 (u - (1:Int))))))] (AWP.seq (AWP.rg0 [(2,.len Za m.1)] [(0,(i64 a)),(1,(slc 10 Za d)),(2,(slc 10 Za f)),(3,(.sc (.func (.func 135) #[] #[]))),(4,(i64 g)),(12,(.own 0 (List.length (b++[(Zh.mk (Zb.mk (IntKind.wrap .u32 w) (IntKind.wrap .u32 (IntKind.wrap .u64 (u - (1:Int))))) m.1)])))),(13,(i64 (ZI (o + (List.length m.1:Int))))),(14,(slc 1 Zc k)),(15,(i64 p))] (AWP.seq (AWP.rg0 [] [(0,(i64 a)),(1,(slc 10 Za d)),(2,(slc 10 Za f)),(3,(.sc (.func (.func 135) #[] #[]))),(4,(i64 g)),(12,(.own 0 (List.length (b++[(Zh.mk (Zb.mk (IntKind.wrap .u32 w) (IntKind.wrap .u32 (IntKind.wrap .u64 (u - (1:Int))))) m.1)])))),(13,(i64 (ZI (o + (List.length m.1:Int))))),(14,(slc 1 Zc k)),(15,(i64 p)),(143,(vb (decide ((ZI (o + (List.length m.1:Int))) > g))))] ?_))))
           refine AWP.cif hF (fun g1 hF=>?_) (fun g1 hF=>?_)
           ·refine AWP.seq (AWP.rg0 [] [(10,nils),(11,(vb false))] (AWP.ret ?_))
            exact LeQ.of (.inr ⟨rfl,(([]:ZL),false),(someb hF).symm,(FnQ.f1 0 (.inr rfl) (.inr ⟨_,_,rfl,rfl,(.cons _ _ _ _ (.nil 10) (.cons _ _ _ _ (.refl _) .nil))⟩))⟩)
           ·refine AWP.skip (LeQ.start (LeQ.pk [0,1,2,3,4,12,13,14,15] 1 ?_))
            exact(.inl ⟨rfl,(b++[(Zh.mk (Zb.mk (IntKind.wrap .u32 w) (IntKind.wrap .u32 (IntKind.wrap .u64 (u - (1:Int))))) m.1)]),(ZI (o + (List.length m.1:Int))),(someb hF).symm,by kernel_rfl,by kernel_rfl⟩)
       ·rintro _ _ _ (⟨rfl,a2,a4,rfl,rfl,rfl⟩ | ⟨rfl,g2,rfl,hq⟩)
        ·refine AWP.rg0 [] [(0,(i64 a)),(1,(slc 10 Za d)),(2,(slc 10 Za f)),(3,(.sc (.func (.func 135) #[] #[]))),(4,(i64 g)),(12,(.own 0 (List.length a2))),(13,(i64 a4)),(14,(slc 1 Zc k)),(15,(i64 (ZI (p + (1:Int)))))] (LeQ.start (LeQ.pk [0,1,2,3,4,12,13,14,15] 1 ?_))
         exact⟨b4,Nat.lt_succ_self _,a2,a4,(ZI (p + (1:Int))),hF,by kernel_rfl,by kernel_rfl⟩
        ·exact LeQ.of (.inr ⟨rfl,g2,(someb hF).symm,hq⟩)
      ·refine AWP.exit (LeQ.start (LeQ.pk [0,12,13] 1 ?_))
       exact(.inl ⟨rfl,b,o,(someb hF).symm,by kernel_rfl,by kernel_rfl⟩)
    ·rintro _ _ _ (⟨rfl,c,b3,rfl,rfl,rfl⟩ | ⟨rfl,h3,rfl,hq⟩)
     ·refine AWP.seq ?_
      obtain⟨g3,hF⟩:=chkb hF
      refine AWP.rg [(1,.mk0 Za g3)] [(0,(i64 a)),(12,(.own 0 (List.length c))),(20,(.own 1 (List.length ([]:ZL))))] [bf 3 157 Zd c false,bf 10 57 Za ([]:ZL) false] (AWP.seq (AWP.seq (AWP.rg0 [(1,.len Zd c)] [(0,(i64 a)),(20,(.own 1 (List.length ([]:ZL)))),(146,(.own 0 (List.length c))),(147,(i64 (List.length c:Int))),(148,(i64 (0:Int)))] ?_)))
      obtain⟨a8,g4,hF⟩:=bindb hF
      refine AWP.mid (fun e st H=>e=.normal∧st=[(20,(.own 1 (List.length a8)))]∧H=[bf 3 157 Zd c false,bf 10 57 Za a8 false]) ?_ ?_
      ·clear hF
       refine AWP.kp [0,20,146,147,148] 2 ?_
       refine AWP.bround (fun n st H=>∃ y,∃ q,Zbk a c n y q=some a8∧st=[(0,(i64 a)),(20,(.own 1 (List.length y))),(146,(.own 0 (List.length c))),(147,(i64 (List.length c:Int))),(148,(i64 q))]∧H=[bf 3 157 Zd c false,bf 10 57 Za y false]) fuel ⟨([]:ZL),(0:Int),g4,by kernel_rfl,by kernel_rfl⟩ ?_
       rintro b6 st H ⟨y,q,hF,rfl,rfl⟩
       cases b6 with
       | zero=>exact noneb hF
       | succ b6=>
        rw [Zbk] at hF
        refine AWP.seq (AWP.rg0 [] [(0,(i64 a)),(20,(.own 1 (List.length y))),(146,(.own 0 (List.length c))),(147,(i64 (List.length c:Int))),(148,(i64 q)),(149,(vb (decide (q<(List.length c:Int)))))] (AWP.seq ?_))
        refine AWP.cif hF (fun g5 hF=>?_) (fun g5 hF=>?_)
        ·refine AWP.skip (AWP.seq (AWP.block (AWP.seq ?_)))
         obtain⟨j,c6,hF⟩:=bindb hF
         refine AWP.rg [(0,.idx Zd c6),(1,.ldE Zd c6)] [(0,(i64 a)),(20,(.own 1 (List.length y))),(22,(.ptr 2 0)),(146,(.own 0 (List.length c))),(147,(i64 (List.length c:Int))),(148,(i64 q))] [bf 3 157 Zd c false,bf 10 57 Za y false,.cells (Zd j)] (AWP.seq (AWP.rg0 [(2,.len Za j.f_rest)] [(0,(i64 a)),(20,(.own 1 (List.length y))),(22,(.ptr 2 0)),(146,(.own 0 (List.length c))),(147,(i64 (List.length c:Int))),(148,(i64 q)),(153,(slc 10 Za j.f_rest)),(154,(i64 (List.length j.f_rest:Int))),(155,(i64 (0:Int)))] ?_))
         obtain⟨a9,g6,hF⟩:=bindb hF
         refine AWP.mid (fun e st H=>e=.normal∧st=[(0,(i64 a)),(20,(.own 1 (List.length a9))),(146,(.own 0 (List.length c))),(147,(i64 (List.length c:Int))),(148,(i64 q))]∧H=[bf 3 157 Zd c false,bf 10 57 Za a9 false,.cells (Zd j)]) ?_ ?_
         ·clear hF
          refine AWP.kp [0,20,22,146,147,148,153,154,155] 3 ?_
          refine AWP.bround (fun n st H=>∃ v,∃ x,Zbj a j n v x=some a9∧st=[(0,(i64 a)),(20,(.own 1 (List.length v))),(22,(.ptr 2 0)),(146,(.own 0 (List.length c))),(147,(i64 (List.length c:Int))),(148,(i64 q)),(153,(slc 10 Za j.f_rest)),(154,(i64 (List.length j.f_rest:Int))),(155,(i64 x))]∧H=[bf 3 157 Zd c false,bf 10 57 Za v false,.cells (Zd j)]) fuel ⟨y,(0:Int),g6,by kernel_rfl,by kernel_rfl⟩ ?_
          rintro b7 st H ⟨v,x,hF,rfl,rfl⟩
          cases b7 with
          | zero=>exact noneb hF
          | succ b7=>
           rw [Zbj] at hF
           refine AWP.seq (AWP.rg0 [] [(0,(i64 a)),(20,(.own 1 (List.length v))),(22,(.ptr 2 0)),(146,(.own 0 (List.length c))),(147,(i64 (List.length c:Int))),(148,(i64 q)),(153,(slc 10 Za j.f_rest)),(154,(i64 (List.length j.f_rest:Int))),(155,(i64 x)),(156,(vb (decide (x<(List.length j.f_rest:Int)))))] (AWP.seq ?_))
           refine AWP.cif hF (fun g7 hF=>?_) (fun g7 hF=>?_)
           ·refine AWP.skip (AWP.seq (AWP.block (AWP.seq ?_)))
            obtain⟨a0,g8,hF⟩:=bindb hF
            refine AWP.rg [(0,.idx Za g8)] [(0,(i64 a)),(20,(.own 1 (List.length v))),(22,(.ptr 2 0)),(24,(.ptr 3 0)),(146,(.own 0 (List.length c))),(147,(i64 (List.length c:Int))),(148,(i64 q)),(153,(slc 10 Za j.f_rest)),(154,(i64 (List.length j.f_rest:Int))),(155,(i64 x))] [bf 3 157 Zd c false,bf 10 57 Za v false,.cells (Zd j),.cells (Za a0)] (AWP.seq ?_)
            obtain⟨c7,hF⟩:=chkb hF
            refine AWP.rg [(3,.ixd c7),(4,.stA (fun g9=>Za (Arr5.set a0 g9 j.f_values)) 0 2 0 c7)] [(0,(i64 a)),(20,(.own 1 (List.length v))),(22,(.ptr 2 0)),(24,(.ptr 3 0)),(146,(.own 0 (List.length c))),(147,(i64 (List.length c:Int))),(148,(i64 q)),(153,(slc 10 Za j.f_rest)),(154,(i64 (List.length j.f_rest:Int))),(155,(i64 x))] [bf 3 157 Zd c false,bf 10 57 Za v false,.cells (Zd j),.cells (Za (Arr5.set a0 a j.f_values))] ?_
            obtain⟨h0,hF⟩:=chkb hF
            refine AWP.rg [(3,.app Za (fun _=>by kernel_rfl) h0)] [(0,(i64 a)),(20,(.own 1 (List.length (v++[(Arr5.set a0 a j.f_values)])))),(22,(.ptr 2 0)),(146,(.own 0 (List.length c))),(147,(i64 (List.length c:Int))),(148,(i64 q)),(153,(slc 10 Za j.f_rest)),(154,(i64 (List.length j.f_rest:Int))),(155,(i64 x))] [bf 3 157 Zd c false,bf 10 57 Za (v++[(Arr5.set a0 a j.f_values)]) false,.cells (Zd j),.cells (Za (Arr5.set a0 a j.f_values))] (AWP.rg0 [] [(0,(i64 a)),(20,(.own 1 (List.length (v++[(Arr5.set a0 a j.f_values)])))),(22,(.ptr 2 0)),(146,(.own 0 (List.length c))),(147,(i64 (List.length c:Int))),(148,(i64 q)),(153,(slc 10 Za j.f_rest)),(154,(i64 (List.length j.f_rest:Int))),(155,(i64 (ZI (x + (1:Int)))))] (LeQ.start (LeQ.pk [0,20,22,146,147,148,153,154,155] 3 ?_)))
            exact⟨b7,Nat.lt_succ_self _,(v++[(Arr5.set a0 a j.f_values)]),(ZI (x + (1:Int))),hF,by kernel_rfl,by kernel_rfl⟩
           ·refine AWP.exit (LeQ.start (LeQ.pk [0,20,146,147,148] 3 ?_))
            have hr:=someb hF
            subst hr
            exact⟨rfl,by kernel_rfl,by kernel_rfl⟩
         ·rintro _ _ _ ⟨rfl,rfl,rfl⟩
          refine AWP.rg0 [] [(0,(i64 a)),(20,(.own 1 (List.length a9))),(146,(.own 0 (List.length c))),(147,(i64 (List.length c:Int))),(148,(i64 (ZI (q + (1:Int)))))] (LeQ.start (LeQ.pk [0,20,146,147,148] 2 ?_))
          exact⟨b6,Nat.lt_succ_self _,a9,(ZI (q + (1:Int))),hF,by kernel_rfl,by kernel_rfl⟩
        ·refine AWP.exit (LeQ.start (LeQ.pk [20] 2 ?_))
         have hr:=someb hF
         subst hr
         exact⟨rfl,by kernel_rfl,by kernel_rfl⟩
      ·rintro _ _ _ ⟨rfl,rfl,rfl⟩
       refine AWP.seq (AWP.rg0 [] [(10,(.own 1 (List.length a8))),(11,(vb true))] (AWP.ret ?_))
       have hr:=someb hF
       subst hr
       exact(FnQ.f1 0 (.inr rfl) (.inr ⟨_,_,rfl,rfl,(.cons _ _ _ _ (Wk.ownT (i:=1) (s:=10) (t:=57) (l:=a8) (sh:=false) (row:=Za) (by kernel_rfl) (.inl rfl)) (.cons _ _ _ _ (.refl _) .nil))⟩))
     ·have hr:=someb hF
      subst hr
      exact hq
theorem Ziw (a:Int) (b:ZL) (c:ZL) (d:Int) (r:(ZL × Bool)) (hF:Zac fuel a b c d=some r):ACall Tryz.prog glob 147 [(i64 a),(slc 10 Za b),(slc 10 Za c),(.sc (.func (.func 135) #[] #[])),(i64 d)] [] (Zei r):=Zij fuel a b c d r hF
def Zji (r:(ZL × Int)):PV→List Blk→Prop:=fun p K=>p=(.tup [(slc 10 Za r.1),(i64 r.2)])∧K=[]
theorem Zjj (b:ZL) (c:ZL) (r:(ZL × Int)) (hF:Zcu b c=some r):ACall Tryz.prog glob 131 [(slc 10 Za b),(slc 10 Za c),(.sc (.func (.func 135) #[] #[]))] [] (Zji r):=by
 refine ACall.body Tryz.func131 rfl (by kernel_rfl) ?_
 unfold Zcu at hF
 refine AWP.seq (AWP.rg0 [] [(0,(slc 10 Za b)),(1,(slc 10 Za c)),(2,(.sc (.func (.func 135) #[] #[])))] (AWP.seq ?_))
 obtain⟨a,d,hF⟩:=bindb hF
 refine AWP.rg0 [(3,.call Tryz.func147 [] (Ziw (0:Int) b c (4096:Int) a d))] [(8,(slc 10 Za a.1)),(9,(vb a.2))] (AWP.seq (AWP.seq (AWP.rg0 [] [(8,(slc 10 Za a.1)),(18,(vb (!a.2)))] ?_)))
 refine AWP.cif hF (fun f hF=>?_) (fun f hF=>?_)
 ·refine AWP.seq (AWP.rg0 [] [(6,nils),(7,(i64 (3:Int)))] (AWP.ret ?_))
  have hr:=someb hF
  subst hr
  exact(FnQ.f1 0 (.inr rfl) (.inr ⟨_,_,rfl,rfl,(.cons _ _ _ _ (.nil 10) (.cons _ _ _ _ (.refl _) .nil))⟩))
 ·refine AWP.skip (AWP.seq (AWP.rg0 [] [(6,(slc 10 Za a.1)),(7,(i64 (0:Int)))] (AWP.ret ?_)))
  have hr:=someb hF
  subst hr
  exact(FnQ.f0 0 (.inr rfl))
def Zkj (r:(ZL × Int)):PV→List Blk→Prop:=fun p K=>p=(.tup [(slc 10 Za r.1),(i64 r.2)])∧K=[]
theorem Zkk (d:ZL) (c:ZL) (r:(ZL × Int)) (hF:Zeu d c=some r):ACall Tryz.prog glob 133 [(slc 10 Za d),(slc 10 Za c),(.sc (.func (.func 135) #[] #[]))] [] (Zkj r):=by
 refine ACall.body Tryz.func133 rfl (by kernel_rfl) ?_
 unfold Zeu at hF
 refine AWP.seq (AWP.rg0 [] [(0,(slc 10 Za d)),(1,(slc 10 Za c)),(2,(.sc (.func (.func 135) #[] #[])))] (AWP.seq ?_))
 obtain⟨a,g,hF⟩:=bindb hF
 refine AWP.rg0 [(1,.call Tryz.func140 [] (Ze3 d a g))] [(1,(slc 10 Za c)),(2,(.sc (.func (.func 135) #[] #[]))),(8,(slc 10 Za a.1)),(9,(i64 a.2))] (AWP.seq (AWP.seq (AWP.rg0 [] [(1,(slc 10 Za c)),(2,(.sc (.func (.func 135) #[] #[]))),(8,(slc 10 Za a.1)),(9,(i64 a.2)),(17,(vb (a.2 != (0:Int))))] ?_)))
 refine AWP.cif hF (fun i hF=>?_) (fun i hF=>?_)
 ·refine AWP.seq (AWP.rg0 [] [(6,nils),(7,(i64 a.2))] (AWP.ret ?_))
  have hr:=someb hF
  subst hr
  exact(FnQ.f1 0 (.inr rfl) (.inr ⟨_,_,rfl,rfl,(.cons _ _ _ _ (.nil 10) (.cons _ _ _ _ (.refl _) .nil))⟩))
 ·refine AWP.skip (AWP.seq ?_)
  obtain⟨b,j,hF⟩:=bindb hF
  refine AWP.rg0 [(1,.call Tryz.func140 [] (Ze3 c b j))] [(2,(.sc (.func (.func 135) #[] #[]))),(8,(slc 10 Za a.1)),(9,(i64 b.2)),(10,(slc 10 Za b.1))] (AWP.seq (AWP.seq (AWP.rg0 [] [(2,(.sc (.func (.func 135) #[] #[]))),(8,(slc 10 Za a.1)),(9,(i64 b.2)),(10,(slc 10 Za b.1)),(25,(vb (b.2 != (0:Int))))] ?_)))
  refine AWP.cif hF (fun k hF=>?_) (fun k hF=>?_)
  ·refine AWP.seq (AWP.rg0 [] [(6,nils),(7,(i64 b.2))] (AWP.ret ?_))
   have hr:=someb hF
   subst hr
   exact(FnQ.f1 0 (.inr rfl) (.inr ⟨_,_,rfl,rfl,(.cons _ _ _ _ (.nil 10) (.cons _ _ _ _ (.refl _) .nil))⟩))
  ·refine AWP.skip (AWP.seq ?_)
   obtain⟨f,l,hF⟩:=bindb hF
   refine AWP.rg0 [(3,.call Tryz.func131 [] (Zjj a.1 b.1 f l))] [(6,(slc 10 Za f.1)),(7,(i64 f.2))] (AWP.ret ?_)
   have hr:=someb hF
   subst hr
   exact(FnQ.f0 0 (.inr rfl))
def Zm4 (r:(ZL × Int)):PV→List Blk→Prop:=fun p K=>p=(.tup [(slc 10 Za r.1),(i64 r.2)])∧K=[]
theorem Zm5 (a:ZL) (b:ZL) (r:(ZL × Int)) (hF:Ze0 a b=some r):ACall Tryz.prog glob 105 [(slc 10 Za a),(slc 10 Za b)] [] (Zm4 r):=by
 refine ACall.body Tryz.func105 rfl (by kernel_rfl) ?_
 unfold Ze0 at hF
 refine AWP.seq (AWP.rg0 [] [(0,(slc 10 Za a)),(1,(slc 10 Za b))] (AWP.seq ?_))
 obtain⟨c,d,hF⟩:=bindb hF
 refine AWP.rg0 [(2,.call Tryz.func133 [] (Zkk a b c d))] [(4,(slc 10 Za c.1)),(5,(i64 c.2))] (AWP.ret ?_)
 have hr:=someb hF
 subst hr
 exact(FnQ.f0 0 (.inr rfl))
def Zkl (r:(ZL × Zj)):PV→List Blk→Prop:=fun p K=>p=(slc 10 Za r.1)∧K=[.cells (Zm r.2)]
theorem Zhn (c:Zj) (a:ZL) (b:ZL) (r:(ZL × Zj)) (hF:Zcw c a b=some r):ACall Tryz.prog glob 59 [(.ptr 0 0),(slc 10 Za a),(slc 10 Za b)] [.cells (Zm c)] (Zkl r):=by
 refine ACall.body Tryz.func59 rfl (by kernel_rfl) ?_
 unfold Zcw at hF
 refine AWP.seq (AWP.rg0 [] [(0,(.ptr 0 0)),(1,(slc 10 Za a)),(2,(slc 10 Za b))] (AWP.seq ?_))
 obtain⟨d,g,hF⟩:=bindb hF
 obtain⟨f,i,hF⟩:=bindb hF
 refine AWP.rg [(3,.call Tryz.func105 [] (Zm5 a b d g)),(6,.call Tryz.func100 [] (Zeq c d.1 d.2 f i))] [(6,(slc 10 Za f.1))] [.cells (Zm f.2)] (AWP.ret ?_)
 have hr:=someb hF
 subst hr
 exact(FnQ.f0 1 (.inr rfl))
def Zl4 (r:((List ZL) × ZL × Zj)):PV→List Blk→Prop:=fun p K=>p=(.tup [(slc 1 Zq r.1),(slc 10 Za r.2.1)])∧K=[.cells (Zm r.2.2)]
theorem Zl5 (u:Zj) (a:ZL) (f:ZL) (r:((List ZL) × ZL × Zj)) (hF:Zee u a f=some r):ACall Tryz.prog glob 49 [(.ptr 0 0),(slc 10 Za a),(slc 10 Za f)] [.cells (Zm u)] (Zl4 r):=by
 refine ACall.body Tryz.func49 rfl (by kernel_rfl) ?_
 unfold Zee at hF
 refine AWP.seq (AWP.rg0 [] [(0,(.ptr 0 0)),(1,(slc 10 Za a)),(2,(slc 10 Za f))] (AWP.seq (AWP.rg0 [] [(0,(.ptr 0 0)),(1,(slc 10 Za a)),(2,(slc 10 Za f)),(8,nils)] ?_)))
 refine AWP.own (H':=[.cells (Zm u),bf 1 38 Zq ([]:(List ZL)) false]) (st':=[(8,(.own 1 (List.length ([]:(List ZL))))),(0,(.ptr 0 0)),(1,(slc 10 Za a)),(2,(slc 10 Za f))]) 8 1 38 (by kernel_rfl) (by kernel_rfl) (by kernel_rfl) ?_
 refine AWP.pick (st':=[(0,(.ptr 0 0)),(1,(slc 10 Za a)),(2,(slc 10 Za f)),(8,(.own 1 (List.length ([]:(List ZL)))))]) (ks:=[0,1,2,8]) (by kernel_rfl) ?_
 refine AWP.seq (AWP.seq (AWP.rg0 [(1,.len Za a)] [(0,(.ptr 0 0)),(2,(slc 10 Za f)),(8,(.own 1 (List.length ([]:(List ZL))))),(11,(slc 10 Za a)),(12,(i64 (List.length a:Int))),(13,(i64 (0:Int)))] ?_))
 obtain⟨z,a1,hF⟩:=bindb hF
 refine AWP.mid (fun e st H=>(e=.normal∧∃ x,∃ m,∃ v,z=(x,m,v)∧st=[(2,(slc 10 Za v)),(8,(.own 1 (List.length m)))]∧H=[.cells (Zm x),bf 1 38 Zq m false])) ?_ ?_
 ·clear hF
  refine AWP.kp [0,2,8,11,12,13] 2 ?_
  refine AWP.bround (fun n st H=>∃ g,∃ b,∃ d,∃ c,Zbb a n g b d c=some z∧st=[(0,(.ptr 0 0)),(2,(slc 10 Za d)),(8,(.own 1 (List.length b))),(11,(slc 10 Za a)),(12,(i64 (List.length a:Int))),(13,(i64 c))]∧H=[.cells (Zm g),bf 1 38 Zq b false]) fuel ⟨u,([]:(List ZL)),f,(0:Int),a1,by kernel_rfl,by kernel_rfl⟩ ?_
  rintro y st H ⟨g,b,d,c,hF,rfl,rfl⟩
  cases y with
  | zero=>exact noneb hF
  | succ y=>
   rw [Zbb] at hF
   refine AWP.seq (AWP.rg0 [] [(0,(.ptr 0 0)),(2,(slc 10 Za d)),(8,(.own 1 (List.length b))),(11,(slc 10 Za a)),(12,(i64 (List.length a:Int))),(13,(i64 c)),(14,(vb (decide (c<(List.length a:Int)))))] (AWP.seq ?_))
   refine AWP.cif hF (fun a2 hF=>?_) (fun a2 hF=>?_)
   ·refine AWP.skip ?_
    obtain⟨a3,a4,hF⟩:=bindb hF
    refine AWP.seq ?_
    refine AWP.mid (fun e st H=>(e=.normal∧∃ w,∃ o,∃ p,a3=(w,o,p)∧st=[(0,(.ptr 0 0)),(2,(slc 10 Za p)),(8,(.own 1 (List.length o))),(11,(slc 10 Za a)),(12,(i64 (List.length a:Int))),(13,(i64 c))]∧H=[.cells (Zm w),bf 1 38 Zq o false])) ?_ ?_
    ·clear hF
     have hF:=a4
     refine AWP.block (AWP.seq ?_)
     obtain⟨k,a5,hF⟩:=bindb hF
     refine AWP.rg [(0,.idx Za a5)] [(0,(.ptr 0 0)),(2,(slc 10 Za d)),(8,(.own 1 (List.length b))),(10,(.ptr 2 0)),(11,(slc 10 Za a)),(12,(i64 (List.length a:Int))),(13,(i64 c))] [.cells (Zm g),bf 1 38 Zq b false,.cells (Za k)] (AWP.seq (AWP.seq ?_))
     obtain⟨a0,a6,hF⟩:=bindb hF
     refine AWP.rg0 [(1,.call Tryz.func98 [] (Zhk k a0 a6))] [(0,(.ptr 0 0)),(2,(slc 10 Za d)),(8,(.own 1 (List.length b))),(10,(.ptr 2 0)),(11,(slc 10 Za a)),(12,(i64 (List.length a:Int))),(13,(i64 c)),(19,(vb (!a0)))] ?_
     refine AWP.cif hF (fun a7 hF=>?_) (fun a7 hF=>?_)
     ·refine AWP.seq ?_
      obtain⟨a8,hF⟩:=chkb hF
      refine AWP.rg [(1,.litN),(2,.app Zq (fun _=>by kernel_rfl) a8)] [(0,(.ptr 0 0)),(2,(slc 10 Za d)),(8,(.own 1 (List.length (b++[([]:ZL)])))),(11,(slc 10 Za a)),(12,(i64 (List.length a:Int))),(13,(i64 c))] [.cells (Zm g),bf 1 38 Zq (b++[([]:ZL)]) false,.cells (Za k)] (AWP.exit (LeQ.start (LeQ.pk [0,2,8,11,12,13] 2 ?_)))
      exact⟨rfl,g,(b++[([]:ZL)]),d,(someb hF).symm,by kernel_rfl,by kernel_rfl⟩
     ·refine AWP.skip (AWP.seq ?_)
      obtain⟨j,a9,hF⟩:=bindb hF
      obtain⟨b0,hF⟩:=chkb hF
      refine AWP.rg [(5,.call Tryz.func57 [] (Zdc g d [k] j a9)),(7,.app Zq (fun _=>by kernel_rfl) b0)] [(0,(.ptr 0 0)),(2,(slc 10 Za d)),(8,(.own 1 (List.length (b++[j.1])))),(10,(.ptr 2 0)),(11,(slc 10 Za a)),(12,(i64 (List.length a:Int))),(13,(i64 c))] [.cells (Zm j.2),bf 1 38 Zq (b++[j.1]) false,.cells (Za k)] ?_
      obtain⟨q,b1,hF⟩:=bindb hF
      refine AWP.rg [(4,.call Tryz.func59 [] (Zhn j.2 d [k] q b1))] [(0,(.ptr 0 0)),(2,(slc 10 Za q.1)),(8,(.own 1 (List.length (b++[j.1])))),(11,(slc 10 Za a)),(12,(i64 (List.length a:Int))),(13,(i64 c))] [.cells (Zm q.2),bf 1 38 Zq (b++[j.1]) false,.cells (Za k)] (LeQ.start (LeQ.pk [0,2,8,11,12,13] 2 ?_))
      exact⟨rfl,q.2,(b++[j.1]),q.1,(someb hF).symm,by kernel_rfl,by kernel_rfl⟩
    ·rintro _ _ _ ⟨rfl,w,o,p,rfl,rfl,rfl⟩
     refine AWP.rg0 [] [(0,(.ptr 0 0)),(2,(slc 10 Za p)),(8,(.own 1 (List.length o))),(11,(slc 10 Za a)),(12,(i64 (List.length a:Int))),(13,(i64 (ZI (c + (1:Int)))))] (LeQ.start (LeQ.pk [0,2,8,11,12,13] 2 ?_))
     exact⟨y,Nat.lt_succ_self _,w,o,p,(ZI (c + (1:Int))),hF,by kernel_rfl,by kernel_rfl⟩
   ·refine AWP.exit (LeQ.start (LeQ.pk [2,8] 2 ?_))
    exact⟨rfl,g,b,d,(someb hF).symm,by kernel_rfl,by kernel_rfl⟩
 ·rintro _ _ _ ⟨rfl,x,m,v,rfl,rfl,rfl⟩
  refine AWP.seq (AWP.rg0 [] [(6,(.own 1 (List.length m))),(7,(slc 10 Za v))] (AWP.ret ?_))
  have hr:=someb hF
  subst hr
  exact(FnQ.f1 1 (.inr rfl) (.inr ⟨_,_,rfl,rfl,(.cons _ _ _ _ (Wk.ownT (i:=1) (s:=1) (t:=38) (l:=m) (sh:=false) (row:=Zq) (by kernel_rfl) (.inl rfl)) (.cons _ _ _ _ (.refl _) .nil))⟩))
def Zqk (r:(ZL × Int)):PV→List Blk→Prop:=fun p K=>p=(.tup [(slc 10 Za r.1),(i64 r.2)])∧K=[]
theorem Zql (g:ZL) (b:Int) (r:(ZL × Int)) (hF:Zgj g b=some r):ACall Tryz.prog glob 120 [(slc 10 Za g),(i64 b)] [] (Zqk r):=by
 refine ACall.body Tryz.func120 rfl (by kernel_rfl) ?_
 unfold Zgj at hF
 refine AWP.seq (AWP.rg0 [] [(0,(slc 10 Za g)),(1,(i64 b))] (AWP.seq ?_))
 obtain⟨a,v,hF⟩:=bindb hF
 refine AWP.rg0 [(1,.call Tryz.func140 [] (Ze3 g a v))] [(1,(i64 b)),(6,(slc 10 Za a.1)),(7,(i64 a.2))] (AWP.seq (AWP.seq (AWP.rg0 [] [(1,(i64 b)),(6,(slc 10 Za a.1)),(7,(i64 a.2)),(16,(vb (a.2 != (0:Int))))] ?_)))
 refine AWP.cif hF (fun w hF=>?_) (fun w hF=>?_)
 ·refine AWP.seq (AWP.rg0 [] [(4,nils),(5,(i64 a.2))] (AWP.ret ?_))
  have hr:=someb hF
  subst hr
  exact(FnQ.f1 0 (.inr rfl) (.inr ⟨_,_,rfl,rfl,(.cons _ _ _ _ (.nil 10) (.cons _ _ _ _ (.refl _) .nil))⟩))
 ·refine AWP.skip (AWP.seq ?_)
  obtain⟨x,hF⟩:=chkb hF
  refine AWP.rg [(1,.clone Tryz.func103 Za (fun _=>by kernel_rfl) x)] [(1,(i64 b)),(8,(.own 0 (List.length a.1)))] [bf 10 57 Za a.1 false] (AWP.seq (AWP.seq (AWP.rg0 [(1,.len Za a.1)] [(1,(i64 b)),(8,(.own 0 (List.length a.1))),(21,(i64 (List.length a.1:Int))),(22,(i64 (0:Int)))] ?_)))
  obtain⟨f,y,hF⟩:=bindb hF
  refine AWP.mid (fun e st H=>e=.normal∧st=[(8,(.own 0 (List.length f)))]∧H=[bf 10 57 Za f false]) ?_ ?_
  ·clear hF
   refine AWP.kp [1,8,21,22] 1 ?_
   refine AWP.bround (fun n st H=>∃ d,∃ c,Zdo b a n d c=some f∧st=[(1,(i64 b)),(8,(.own 0 (List.length d))),(21,(i64 (List.length a.1:Int))),(22,(i64 c))]∧H=[bf 10 57 Za d false]) fuel ⟨a.1,(0:Int),y,by kernel_rfl,by kernel_rfl⟩ ?_
   rintro l st H ⟨d,c,hF,rfl,rfl⟩
   cases l with
   | zero=>exact noneb hF
   | succ l=>
    rw [Zdo] at hF
    refine AWP.seq (AWP.rg0 [] [(1,(i64 b)),(8,(.own 0 (List.length d))),(21,(i64 (List.length a.1:Int))),(22,(i64 c)),(23,(vb (decide (c<(List.length a.1:Int)))))] (AWP.seq ?_))
    refine AWP.cif hF (fun z hF=>?_) (fun z hF=>?_)
    ·refine AWP.skip ?_
     obtain⟨i,a0,hF⟩:=bindb hF
     refine AWP.seq ?_
     refine AWP.mid (fun e st H=>e=.normal∧st=[(1,(i64 b)),(8,(.own 0 (List.length i))),(21,(i64 (List.length a.1:Int))),(22,(i64 c))]∧H=[bf 10 57 Za i false]) ?_ ?_
     ·clear hF
      have hF:=a0
      refine AWP.block (AWP.seq (AWP.rg0 [] [(1,(i64 b)),(8,(.own 0 (List.length d))),(9,(i64 c)),(21,(i64 (List.length a.1:Int))),(22,(i64 c))] (AWP.seq ?_)))
      obtain⟨p,j,hF⟩:=bindb hF
      replace j:=someb j
      refine AWP.to [(1,(i64 b)),(8,(.own 0 (List.length d))),(9,(i64 c)),(21,(i64 (List.length a.1:Int))),(22,(i64 c)),(30,(vb (p && (decide (b<(5:Int))))))] [bf 10 57 Za d false] ?_ ?_
      ·cases p with
       | false=>
        exact AWP.rgT [(2,.bool j)]
       | true=>
        exact AWP.rgT [(2,.bool j)]
      refine AWP.cif hF (fun a1 hF=>?_) (fun a1 hF=>?_)
      ·obtain⟨k,a2,hF⟩:=bindb hF
       obtain⟨m,q,hF⟩:=bindb hF
       obtain⟨u,hF⟩:=chkb hF
       refine AWP.dr [(4,.call Tryz.func119 [] (Zoh b k a2)),(6,.idx Za q),(7,.ixE Za d c u),(8,.stEd Za q (fun a3=>(Arr5.set m a3 (Zb.mk (0:Int) k))) 0 2 0 u)] 7 [] [] [] [(1,(i64 b)),(8,(.own 0 (List.length d))),(21,(i64 (List.length a.1:Int))),(22,(i64 c))] [bf 10 57 Za (List.set d (Int.toNat c) (Arr5.set m b (Zb.mk (0:Int) k))) false] ?_
       rw [show ([(1,(i64 b)),(8,(.own 0 (List.length d))),(21,(i64 (List.length a.1:Int))),(22,(i64 c))]:St)=[(1,(i64 b)),(8,(.own 0 (List.length (List.set d (Int.toNat c) (Arr5.set m b (Zb.mk (0:Int) k)))))),(21,(i64 (List.length a.1:Int))),(22,(i64 c))] by simp only [List.length_set]]
       refine LeQ.start (LeQ.pk [1,8,21,22] 1 ?_)
       have hr:=someb hF
       subst hr
       exact⟨rfl,by kernel_rfl,by kernel_rfl⟩
      ·refine AWP.skip (LeQ.start (LeQ.pk [1,8,21,22] 1 ?_))
       have hr:=someb hF
       subst hr
       exact⟨rfl,by kernel_rfl,by kernel_rfl⟩
     ·rintro _ _ _ ⟨rfl,rfl,rfl⟩
      refine AWP.rg0 [] [(1,(i64 b)),(8,(.own 0 (List.length i))),(21,(i64 (List.length a.1:Int))),(22,(i64 (ZI (c + (1:Int)))))] (LeQ.start (LeQ.pk [1,8,21,22] 1 ?_))
      exact⟨l,Nat.lt_succ_self _,i,(ZI (c + (1:Int))),hF,by kernel_rfl,by kernel_rfl⟩
    ·refine AWP.exit (LeQ.start (LeQ.pk [8] 1 ?_))
     have hr:=someb hF
     subst hr
     exact⟨rfl,by kernel_rfl,by kernel_rfl⟩
  ·rintro _ _ _ ⟨rfl,rfl,rfl⟩
   refine AWP.seq ?_
   refine AWP.share (s:=10) (t:=57) (xs:=List.map Za f) (sh:=false) (H':=[bf 10 57 Za f true]) 0 (by kernel_rfl) (by kernel_rfl) ?_
   obtain⟨o,a4,hF⟩:=bindb hF
   refine AWP.rg0 [(1,.call Tryz.func131 [.of Za f] (Ze8 f ([]:ZL) o a4))] [(4,(slc 10 Za o.1)),(5,(i64 o.2))] (AWP.ret ?_)
   have hr:=someb hF
   subst hr
   exact(FnQ.f0 0 (.inr rfl))
def Zml (r:(ZL × Zj)):PV→List Blk→Prop:=fun p K=>p=(slc 10 Za r.1)∧K=[.cells (Zm r.2)]
theorem Zhd (c:Zj) (a:ZL) (b:Int) (r:(ZL × Zj)) (hF:Zc2 c a b=some r):ACall Tryz.prog glob 72 [(.ptr 0 0),(slc 10 Za a),(i64 b)] [.cells (Zm c)] (Zml r):=by
 refine ACall.body Tryz.func72 rfl (by kernel_rfl) ?_
 unfold Zc2 at hF
 refine AWP.seq (AWP.rg0 [] [(0,(.ptr 0 0)),(1,(slc 10 Za a)),(2,(i64 b))] (AWP.seq ?_))
 obtain⟨d,g,hF⟩:=bindb hF
 obtain⟨f,i,hF⟩:=bindb hF
 refine AWP.rg [(3,.call Tryz.func120 [] (Zql a b d g)),(6,.call Tryz.func100 [] (Zeq c d.1 d.2 f i))] [(6,(slc 10 Za f.1))] [.cells (Zm f.2)] (AWP.ret ?_)
 have hr:=someb hF
 subst hr
 exact(FnQ.f0 1 (.inr rfl))
def Zlf (r:(ZL × Zj)):PV→List Blk→Prop:=fun p K=>p=(slc 10 Za r.1)∧K=[.cells (Zm r.2)]
theorem Zlg (o:Zj) (b:Zi) (c:ZL) (r:(ZL × Zj)) (hF:Zd3 o b c=some r):ACall Tryz.prog glob 71 [(.ptr 0 0),(Zin b),(slc 10 Za c)] [.cells (Zm o)] (Zlf r):=by
 refine ACall.body Tryz.func71 rfl (by kernel_rfl) ?_
 unfold Zd3 at hF
 refine AWP.seq (AWP.rg [] [(0,(.ptr 0 0)),(2,(slc 10 Za c)),(4,(.ptr 1 0))] [.cells (Zm o),.cells (Zf b)] (AWP.seq ?_))
 obtain⟨a1,hF⟩:=chkb hF
 refine AWP.rg [(1,.clone Tryz.func103 Za (fun _=>by kernel_rfl) a1)] [(0,(.ptr 0 0)),(4,(.ptr 1 0)),(7,(.own 2 (List.length c)))] [.cells (Zm o),.cells (Zf b),bf 10 57 Za c false] (AWP.seq (AWP.seq (AWP.rg0 [(1,.len Za c)] [(0,(.ptr 0 0)),(4,(.ptr 1 0)),(7,(.own 2 (List.length c))),(14,(i64 (List.length c:Int))),(15,(i64 (0:Int)))] ?_)))
 obtain⟨m,a2,hF⟩:=bindb hF
 refine AWP.mid (fun e st H=>e=.normal∧st=[(0,(.ptr 0 0)),(4,(.ptr 1 0)),(7,(.own 2 (List.length m)))]∧H=[.cells (Zm o),.cells (Zf b),bf 10 57 Za m false]) ?_ ?_
 ·clear hF
  refine AWP.kp [0,4,7,14,15] 3 ?_
  refine AWP.bround (fun n st H=>∃ f,∃ a,Zb2 b c n f a=some m∧st=[(0,(.ptr 0 0)),(4,(.ptr 1 0)),(7,(.own 2 (List.length f))),(14,(i64 (List.length c:Int))),(15,(i64 a))]∧H=[.cells (Zm o),.cells (Zf b),bf 10 57 Za f false]) fuel ⟨c,(0:Int),a2,by kernel_rfl,by kernel_rfl⟩ ?_
  rintro w st H ⟨f,a,hF,rfl,rfl⟩
  cases w with
  | zero=>exact noneb hF
  | succ w=>
   rw [Zb2] at hF
   refine AWP.seq (AWP.rg0 [] [(0,(.ptr 0 0)),(4,(.ptr 1 0)),(7,(.own 2 (List.length f))),(14,(i64 (List.length c:Int))),(15,(i64 a)),(16,(vb (decide (a<(List.length c:Int)))))] (AWP.seq ?_))
   refine AWP.cif hF (fun a3 hF=>?_) (fun a3 hF=>?_)
   ·refine AWP.skip (AWP.seq (AWP.block (AWP.seq (AWP.rg0 [] [(0,(.ptr 0 0)),(4,(.ptr 1 0)),(7,(.own 2 (List.length f))),(8,(i64 a)),(14,(i64 (List.length c:Int))),(15,(i64 a))] (AWP.seq ?_)))))
    obtain⟨p,y,hF⟩:=bindb hF
    refine AWP.rg [(9,.idx Za y),(10,.ixE Za f a (n:=5) (j:=(0:Int)) (by decide)),(11,.stE Za y ({ p with x0:=(Zb.mk (IntKind.wrap .u32 (ZI ((2:Int) * a))) (IntKind.wrap .u32 (ZI ((2:Int) * a)))) }:ZB))] [(0,(.ptr 0 0)),(4,(.ptr 1 0)),(7,(.own 2 (List.length f))),(8,(i64 a)),(14,(i64 (List.length c:Int))),(15,(i64 a))] [.cells (Zm o),.cells (Zf b),bf 10 57 Za (List.set f (Int.toNat a) ({ p with x0:=(Zb.mk (IntKind.wrap .u32 (ZI ((2:Int) * a))) (IntKind.wrap .u32 (ZI ((2:Int) * a)))) }:ZB)) false] ?_
    rw [show ([(0,(.ptr 0 0)),(4,(.ptr 1 0)),(7,(.own 2 (List.length f))),(8,(i64 a)),(14,(i64 (List.length c:Int))),(15,(i64 a))]:St)=[(0,(.ptr 0 0)),(4,(.ptr 1 0)),(7,(.own 2 (List.length (List.set f (Int.toNat a) ({ p with x0:=(Zb.mk (IntKind.wrap .u32 (ZI ((2:Int) * a))) (IntKind.wrap .u32 (ZI ((2:Int) * a)))) }:ZB))))),(8,(i64 a)),(14,(i64 (List.length c:Int))),(15,(i64 a))] by simp only [List.length_set]]
    obtain⟨q,z,hF⟩:=bindb hF
    refine AWP.dr [(4,.idx Za z),(5,.ixE Za (List.set f (Int.toNat a) ({ p with x0:=(Zb.mk (IntKind.wrap .u32 (ZI ((2:Int) * a))) (IntKind.wrap .u32 (ZI ((2:Int) * a)))) }:ZB)) a (n:=5) (j:=(3:Int)) (by decide)),(6,.stE Za z ({ q with x3:=b.Ports }:ZB))] 5 [] [] [] [(0,(.ptr 0 0)),(4,(.ptr 1 0)),(7,(.own 2 (List.length (List.set f (Int.toNat a) ({ p with x0:=(Zb.mk (IntKind.wrap .u32 (ZI ((2:Int) * a))) (IntKind.wrap .u32 (ZI ((2:Int) * a)))) }:ZB))))),(14,(i64 (List.length c:Int))),(15,(i64 a))] [.cells (Zm o),.cells (Zf b),bf 10 57 Za (List.set (List.set f (Int.toNat a) ({ p with x0:=(Zb.mk (IntKind.wrap .u32 (ZI ((2:Int) * a))) (IntKind.wrap .u32 (ZI ((2:Int) * a)))) }:ZB)) (Int.toNat a) ({ q with x3:=b.Ports }:ZB)) false] ?_
    rw [show ([(0,(.ptr 0 0)),(4,(.ptr 1 0)),(7,(.own 2 (List.length (List.set f (Int.toNat a) ({ p with x0:=(Zb.mk (IntKind.wrap .u32 (ZI ((2:Int) * a))) (IntKind.wrap .u32 (ZI ((2:Int) * a)))) }:ZB))))),(14,(i64 (List.length c:Int))),(15,(i64 a))]:St)=[(0,(.ptr 0 0)),(4,(.ptr 1 0)),(7,(.own 2 (List.length (List.set (List.set f (Int.toNat a) ({ p with x0:=(Zb.mk (IntKind.wrap .u32 (ZI ((2:Int) * a))) (IntKind.wrap .u32 (ZI ((2:Int) * a)))) }:ZB)) (Int.toNat a) ({ q with x3:=b.Ports }:ZB))))),(14,(i64 (List.length c:Int))),(15,(i64 a))] by simp only [List.length_set]]
    refine AWP.rg0 [] [(0,(.ptr 0 0)),(4,(.ptr 1 0)),(7,(.own 2 (List.length (List.set (List.set f (Int.toNat a) ({ p with x0:=(Zb.mk (IntKind.wrap .u32 (ZI ((2:Int) * a))) (IntKind.wrap .u32 (ZI ((2:Int) * a)))) }:ZB)) (Int.toNat a) ({ q with x3:=b.Ports }:ZB))))),(14,(i64 (List.length c:Int))),(15,(i64 (ZI (a + (1:Int)))))] (LeQ.start (LeQ.pk [0,4,7,14,15] 3 ?_))
    exact⟨w,Nat.lt_succ_self _,(List.set (List.set f (Int.toNat a) ({ p with x0:=(Zb.mk (IntKind.wrap .u32 (ZI ((2:Int) * a))) (IntKind.wrap .u32 (ZI ((2:Int) * a)))) }:ZB)) (Int.toNat a) ({ q with x3:=b.Ports }:ZB)),(ZI (a + (1:Int))),hF,by kernel_rfl,by kernel_rfl⟩
   ·refine AWP.exit (LeQ.start (LeQ.pk [0,4,7] 3 ?_))
    have hr:=someb hF
    subst hr
    exact⟨rfl,by kernel_rfl,by kernel_rfl⟩
 ·rintro _ _ _ ⟨rfl,rfl,rfl⟩
  refine AWP.seq ?_
  refine AWP.share (s:=10) (t:=57) (xs:=List.map Za m) (sh:=false) (H':=[.cells (Zm o),.cells (Zf b),bf 10 57 Za m true]) 2 (by kernel_rfl) (by kernel_rfl) ?_
  obtain⟨d,a4,hF⟩:=bindb hF
  obtain⟨a5,hF⟩:=chkb hF
  refine AWP.rg [(2,.call Tryz.func72 [.of Za m] (Zhd o m (0:Int) d a4)),(3,.clone Tryz.func103 Za (fun _=>by kernel_rfl) a5)] [(4,(.ptr 1 0)),(9,(.own 3 (List.length d.1)))] [.cells (Zm d.2),.cells (Zf b),bf 10 57 Za m true,bf 10 57 Za d.1 false] (AWP.seq (AWP.seq (AWP.rg0 [(1,.len Za d.1)] [(4,(.ptr 1 0)),(9,(.own 3 (List.length d.1))),(41,(i64 (List.length d.1:Int))),(42,(i64 (0:Int)))] ?_)))
  obtain⟨u,a6,hF⟩:=bindb hF
  refine AWP.mid (fun e st H=>e=.normal∧st=[(9,(.own 3 (List.length u)))]∧H=[.cells (Zm d.2),.cells (Zf b),bf 10 57 Za m true,bf 10 57 Za u false]) ?_ ?_
  ·clear hF
   refine AWP.kp [4,9,41,42] 4 ?_
   refine AWP.bround (fun n st H=>∃ k,∃ g,Zb3 b d n k g=some u∧st=[(4,(.ptr 1 0)),(9,(.own 3 (List.length k))),(41,(i64 (List.length d.1:Int))),(42,(i64 g))]∧H=[.cells (Zm d.2),.cells (Zf b),bf 10 57 Za m true,bf 10 57 Za k false]) fuel ⟨d.1,(0:Int),a6,by kernel_rfl,by kernel_rfl⟩ ?_
   rintro x st H ⟨k,g,hF,rfl,rfl⟩
   cases x with
   | zero=>exact noneb hF
   | succ x=>
    rw [Zb3] at hF
    refine AWP.seq (AWP.rg0 [] [(4,(.ptr 1 0)),(9,(.own 3 (List.length k))),(41,(i64 (List.length d.1:Int))),(42,(i64 g)),(43,(vb (decide (g<(List.length d.1:Int)))))] (AWP.seq ?_))
    refine AWP.cif hF (fun a7 hF=>?_) (fun a7 hF=>?_)
    ·refine AWP.skip (AWP.seq (AWP.block (AWP.seq (AWP.rg0 [] [(4,(.ptr 1 0)),(9,(.own 3 (List.length k))),(10,(i64 g)),(41,(i64 (List.length d.1:Int))),(42,(i64 g))] ?_))))
     obtain⟨v,a0,hF⟩:=bindb hF
     refine AWP.dr [(7,.idx Za a0),(8,.ixE Za k g (n:=5) (j:=(0:Int)) (by decide)),(9,.stE Za a0 ({ v with x0:=(Zb.mk b.Addr b.Addr) }:ZB))] 8 [] [] [] [(4,(.ptr 1 0)),(9,(.own 3 (List.length k))),(41,(i64 (List.length d.1:Int))),(42,(i64 g))] [.cells (Zm d.2),.cells (Zf b),bf 10 57 Za m true,bf 10 57 Za (List.set k (Int.toNat g) ({ v with x0:=(Zb.mk b.Addr b.Addr) }:ZB)) false] ?_
     rw [show ([(4,(.ptr 1 0)),(9,(.own 3 (List.length k))),(41,(i64 (List.length d.1:Int))),(42,(i64 g))]:St)=[(4,(.ptr 1 0)),(9,(.own 3 (List.length (List.set k (Int.toNat g) ({ v with x0:=(Zb.mk b.Addr b.Addr) }:ZB))))),(41,(i64 (List.length d.1:Int))),(42,(i64 g))] by simp only [List.length_set]]
     refine AWP.rg0 [] [(4,(.ptr 1 0)),(9,(.own 3 (List.length (List.set k (Int.toNat g) ({ v with x0:=(Zb.mk b.Addr b.Addr) }:ZB))))),(41,(i64 (List.length d.1:Int))),(42,(i64 (ZI (g + (1:Int)))))] (LeQ.start (LeQ.pk [4,9,41,42] 4 ?_))
     exact⟨x,Nat.lt_succ_self _,(List.set k (Int.toNat g) ({ v with x0:=(Zb.mk b.Addr b.Addr) }:ZB)),(ZI (g + (1:Int))),hF,by kernel_rfl,by kernel_rfl⟩
    ·refine AWP.exit (LeQ.start (LeQ.pk [9] 4 ?_))
     have hr:=someb hF
     subst hr
     exact⟨rfl,by kernel_rfl,by kernel_rfl⟩
  ·rintro _ _ _ ⟨rfl,rfl,rfl⟩
   refine AWP.seq (AWP.rg0 [] [(6,(.own 3 (List.length u)))] (AWP.ret ?_))
   have hr:=someb hF
   subst hr
   exact(FnQ.f1 1 (.inr rfl) (.inl (Wk.ownT (i:=3) (s:=10) (t:=57) (l:=u) (sh:=false) (row:=Za) (by kernel_rfl) (.inl rfl))))
def Zk4 (r:(ZL × Int)):PV→List Blk→Prop:=fun p K=>p=(.tup [(slc 10 Za r.1),(i64 r.2)])∧K=[]
theorem Zk5 (d:ZL) (c:ZL) (r:(ZL × Int)) (hF:Ze1 d c=some r):ACall Tryz.prog glob 133 [(slc 10 Za d),(slc 10 Za c),(.sc (.func (.func 132) #[] #[]))] [] (Zk4 r):=by
 refine ACall.body Tryz.func133 rfl (by kernel_rfl) ?_
 unfold Ze1 at hF
 refine AWP.seq (AWP.rg0 [] [(0,(slc 10 Za d)),(1,(slc 10 Za c)),(2,(.sc (.func (.func 132) #[] #[])))] (AWP.seq ?_))
 obtain⟨a,g,hF⟩:=bindb hF
 refine AWP.rg0 [(1,.call Tryz.func140 [] (Ze3 d a g))] [(1,(slc 10 Za c)),(2,(.sc (.func (.func 132) #[] #[]))),(8,(slc 10 Za a.1)),(9,(i64 a.2))] (AWP.seq (AWP.seq (AWP.rg0 [] [(1,(slc 10 Za c)),(2,(.sc (.func (.func 132) #[] #[]))),(8,(slc 10 Za a.1)),(9,(i64 a.2)),(17,(vb (a.2 != (0:Int))))] ?_)))
 refine AWP.cif hF (fun i hF=>?_) (fun i hF=>?_)
 ·refine AWP.seq (AWP.rg0 [] [(6,nils),(7,(i64 a.2))] (AWP.ret ?_))
  have hr:=someb hF
  subst hr
  exact(FnQ.f1 0 (.inr rfl) (.inr ⟨_,_,rfl,rfl,(.cons _ _ _ _ (.nil 10) (.cons _ _ _ _ (.refl _) .nil))⟩))
 ·refine AWP.skip (AWP.seq ?_)
  obtain⟨b,j,hF⟩:=bindb hF
  refine AWP.rg0 [(1,.call Tryz.func140 [] (Ze3 c b j))] [(2,(.sc (.func (.func 132) #[] #[]))),(8,(slc 10 Za a.1)),(9,(i64 b.2)),(10,(slc 10 Za b.1))] (AWP.seq (AWP.seq (AWP.rg0 [] [(2,(.sc (.func (.func 132) #[] #[]))),(8,(slc 10 Za a.1)),(9,(i64 b.2)),(10,(slc 10 Za b.1)),(25,(vb (b.2 != (0:Int))))] ?_)))
  refine AWP.cif hF (fun k hF=>?_) (fun k hF=>?_)
  ·refine AWP.seq (AWP.rg0 [] [(6,nils),(7,(i64 b.2))] (AWP.ret ?_))
   have hr:=someb hF
   subst hr
   exact(FnQ.f1 0 (.inr rfl) (.inr ⟨_,_,rfl,rfl,(.cons _ _ _ _ (.nil 10) (.cons _ _ _ _ (.refl _) .nil))⟩))
  ·refine AWP.skip (AWP.seq ?_)
   obtain⟨f,l,hF⟩:=bindb hF
   refine AWP.rg0 [(3,.call Tryz.func131 [] (Ze8 a.1 b.1 f l))] [(6,(slc 10 Za f.1)),(7,(i64 f.2))] (AWP.ret ?_)
   have hr:=someb hF
   subst hr
   exact(FnQ.f0 0 (.inr rfl))
def Zpo (r:(ZL × Int)):PV→List Blk→Prop:=fun p K=>p=(.tup [(slc 10 Za r.1),(i64 r.2)])∧K=[]
theorem Zpp (a:ZL) (b:ZL) (r:(ZL × Int)) (hF:Zf6 a b=some r):ACall Tryz.prog glob 102 [(slc 10 Za a),(slc 10 Za b)] [] (Zpo r):=by
 refine ACall.body Tryz.func102 rfl (by kernel_rfl) ?_
 unfold Zf6 at hF
 refine AWP.seq (AWP.rg0 [] [(0,(slc 10 Za a)),(1,(slc 10 Za b))] (AWP.seq ?_))
 obtain⟨c,d,hF⟩:=bindb hF
 refine AWP.rg0 [(2,.call Tryz.func133 [] (Zk5 a b c d))] [(4,(slc 10 Za c.1)),(5,(i64 c.2))] (AWP.ret ?_)
 have hr:=someb hF
 subst hr
 exact(FnQ.f0 0 (.inr rfl))
def Zl6 (r:(ZL × Zj)):PV→List Blk→Prop:=fun p K=>p=(slc 10 Za r.1)∧K=[.cells (Zm r.2)]
theorem Zfl (c:Zj) (a:ZL) (b:ZL) (r:(ZL × Zj)) (hF:Zca c a b=some r):ACall Tryz.prog glob 53 [(.ptr 0 0),(slc 10 Za a),(slc 10 Za b)] [.cells (Zm c)] (Zl6 r):=by
 refine ACall.body Tryz.func53 rfl (by kernel_rfl) ?_
 unfold Zca at hF
 refine AWP.seq (AWP.rg0 [] [(0,(.ptr 0 0)),(1,(slc 10 Za a)),(2,(slc 10 Za b))] (AWP.seq ?_))
 obtain⟨d,g,hF⟩:=bindb hF
 obtain⟨f,i,hF⟩:=bindb hF
 refine AWP.rg [(3,.call Tryz.func102 [] (Zpp a b d g)),(6,.call Tryz.func100 [] (Zeq c d.1 d.2 f i))] [(6,(slc 10 Za f.1))] [.cells (Zm f.2)] (AWP.ret ?_)
 have hr:=someb hF
 subst hr
 exact(FnQ.f0 1 (.inr rfl))
def Zlh (a:Zj) (r:(ZL × Int)):PV→List Blk→Prop:=fun p K=>p=(.tup [(slc 10 Za r.1),(i64 r.2)])∧K=[.cells (Zm a)]
theorem Zif (a:Zj) (b:ZL) (r:(ZL × Int)) (hF:Zc8 a b=some r):ACall Tryz.prog glob 55 [(.ptr 0 0),(slc 10 Za b)] [.cells (Zm a)] (Zlh a r):=by
 refine ACall.body Tryz.func55 rfl (by kernel_rfl) ?_
 unfold Zc8 at hF
 refine AWP.seq (AWP.rg0 [] [(0,(.ptr 0 0)),(1,(slc 10 Za b))] (AWP.seq (AWP.seq (AWP.rg0 [] [(0,(.ptr 0 0)),(1,(slc 10 Za b)),(10,(vb (a.f_err != (0:Int))))] ?_))))
 refine AWP.cif hF (fun c hF=>?_) (fun c hF=>?_)
 ·refine AWP.seq (AWP.dr [] 5 [] [] [] [(4,nils),(5,(i64 a.f_err))] [.cells (Zm a)] (AWP.ret ?_))
  have hr:=someb hF
  subst hr
  exact(FnQ.f1 1 (.inr rfl) (.inr ⟨_,_,rfl,rfl,(.cons _ _ _ _ (.nil 10) (.cons _ _ _ _ (.refl _) .nil))⟩))
 ·refine AWP.skip (AWP.seq ?_)
  obtain⟨d,hF⟩:=chkb hF
  refine AWP.rg [(1,.clone Tryz.func103 Za (fun _=>by kernel_rfl) d)] [(4,(.own 1 (List.length b))),(5,(i64 (0:Int)))] [.cells (Zm a),bf 10 57 Za b false] (AWP.ret ?_)
  have hr:=someb hF
  subst hr
  exact(FnQ.f1 1 (.inr rfl) (.inr ⟨_,_,rfl,rfl,(.cons _ _ _ _ (Wk.ownT (i:=1) (s:=10) (t:=57) (l:=b) (sh:=false) (row:=Za) (by kernel_rfl) (.inl rfl)) (.cons _ _ _ _ (.refl _) .nil))⟩))
def Znx (r:(ZL × Int)):PV→List Blk→Prop:=fun p K=>p=(.tup [(slc 10 Za r.1),(i64 r.2)])∧K=[]
theorem Zny (b:(List Zi)) (g:ZL) (r:(ZL × Int)) (hF:Zfe b g=some r):ACall Tryz.prog glob 24 [(slc 13 Zf b),(slc 10 Za g)] [] (Znx r):=by
 refine ACall.body Tryz.func24 rfl (by kernel_rfl) ?_
 unfold Zfe at hF
 refine AWP.seq (AWP.rg0 [] [(0,(slc 13 Zf b)),(1,(slc 10 Za g))] (AWP.seq (AWP.rg [] [(0,(slc 13 Zf b)),(1,(slc 10 Za g)),(6,(.ptr 0 0))] [.cells (Zm Zdu)] (AWP.seq ?_))))
 obtain⟨x,a0,hF⟩:=bindb hF
 obtain⟨s,a1,hF⟩:=bindb hF
 obtain⟨a,a2,hF⟩:=bindb hF
 refine AWP.rg [(1,.call Tryz.func69 [] (Zpg b x a0)),(3,.call Tryz.func51 [] (Ziz Zdu g s a1)),(4,.call Tryz.func49 [] (Zl5 s.2 x s.1 a a2))] [(0,(slc 13 Zf b)),(6,(.ptr 0 0)),(7,(slc 1 Zq a.1)),(8,(slc 10 Za a.2.1))] [.cells (Zm a.2.2)] (AWP.seq (AWP.rg0 [] [(0,(slc 13 Zf b)),(6,(.ptr 0 0)),(7,(slc 1 Zq a.1)),(8,(slc 10 Za a.2.1)),(9,nils)] (AWP.seq (AWP.seq (AWP.rg0 [(1,.len Zq a.1)] [(0,(slc 13 Zf b)),(6,(.ptr 0 0)),(8,(slc 10 Za a.2.1)),(9,nils),(20,(slc 1 Zq a.1)),(21,(i64 (List.length a.1:Int))),(22,(i64 (0:Int)))] ?_)))))
 obtain⟨y,a3,hF⟩:=bindb hF
 refine AWP.mid (fun e st H=>(e=.normal∧∃ k,∃ l,y=(k,l)∧st=[(6,(.ptr 0 0)),(8,(slc 10 Za a.2.1)),(9,(slc 10 Za l))]∧H=[.cells (Zm k)])) ?_ ?_
 ·clear hF
  refine AWP.wk (p:=nils) (q:=(slc 10 Za ([]:ZL))) (st':=[(9,(slc 10 Za ([]:ZL))),(0,(slc 13 Zf b)),(6,(.ptr 0 0)),(8,(slc 10 Za a.2.1)),(20,(slc 1 Zq a.1)),(21,(i64 (List.length a.1:Int))),(22,(i64 (0:Int)))]) 9 (by kernel_rfl) (.nil 10) (by kernel_rfl) ?_
  refine AWP.kp [0,6,8,9,20,21,22] 1 ?_
  refine AWP.bround (fun n st H=>∃ f,∃ d,∃ c,Zbx b a n f d c=some y∧st=[(0,(slc 13 Zf b)),(6,(.ptr 0 0)),(8,(slc 10 Za a.2.1)),(9,(slc 10 Za d)),(20,(slc 1 Zq a.1)),(21,(i64 (List.length a.1:Int))),(22,(i64 c))]∧H=[.cells (Zm f)]) fuel ⟨a.2.2,([]:ZL),(0:Int),a3,by kernel_rfl,by kernel_rfl⟩ ?_
  rintro t st H ⟨f,d,c,hF,rfl,rfl⟩
  cases t with
  | zero=>exact noneb hF
  | succ t=>
   rw [Zbx] at hF
   refine AWP.seq (AWP.rg0 [] [(0,(slc 13 Zf b)),(6,(.ptr 0 0)),(8,(slc 10 Za a.2.1)),(9,(slc 10 Za d)),(20,(slc 1 Zq a.1)),(21,(i64 (List.length a.1:Int))),(22,(i64 c)),(23,(vb (decide (c<(List.length a.1:Int)))))] (AWP.seq ?_))
   refine AWP.cif hF (fun a4 hF=>?_) (fun a4 hF=>?_)
   ·refine AWP.skip ?_
    obtain⟨a5,a6,hF⟩:=bindb hF
    refine AWP.seq ?_
    refine AWP.mid (fun e st H=>(e=.normal∧∃ m,∃ i,a5=(m,i)∧st=[(0,(slc 13 Zf b)),(6,(.ptr 0 0)),(8,(slc 10 Za a.2.1)),(9,(slc 10 Za i)),(20,(slc 1 Zq a.1)),(21,(i64 (List.length a.1:Int))),(22,(i64 c))]∧H=[.cells (Zm m)])) ?_ ?_
    ·clear hF
     have hF:=a6
     refine AWP.block (AWP.seq ?_)
     obtain⟨u,a7,hF⟩:=bindb hF
     refine AWP.rg0 [(1,.idx Zq a7)] [(0,(slc 13 Zf b)),(6,(.ptr 0 0)),(8,(slc 10 Za a.2.1)),(9,(slc 10 Za d)),(10,(i64 c)),(11,(slc 10 Za u)),(20,(slc 1 Zq a.1)),(21,(i64 (List.length a.1:Int))),(22,(i64 c))] (AWP.seq ?_)
     obtain⟨a8,a9,hF⟩:=bindb hF
     obtain⟨z,b0,hF⟩:=bindb hF
     refine AWP.rg0 [(2,.idx Zf a9),(4,.call Tryz.func70 [] (Zdp a8 z b0))] [(0,(slc 13 Zf b)),(6,(.ptr 0 0)),(8,(slc 10 Za a.2.1)),(9,(slc 10 Za d)),(10,(i64 c)),(11,(slc 10 Za u)),(20,(slc 1 Zq a.1)),(21,(i64 (List.length a.1:Int))),(22,(i64 c)),(31,(vb z))] ?_
     refine AWP.cif hF (fun b1 hF=>?_) (fun b1 hF=>?_)
     ·obtain⟨b2,b3,hF⟩:=bindb hF
      obtain⟨v,b4,hF⟩:=bindb hF
      obtain⟨j,b5,hF⟩:=bindb hF
      refine AWP.rg [(3,.idx Zf b3),(6,.call Tryz.func71 [] (Zlg f b2 u v b4)),(7,.call Tryz.func53 [] (Zfl v.2 d v.1 j b5))] [(0,(slc 13 Zf b)),(6,(.ptr 0 0)),(8,(slc 10 Za a.2.1)),(9,(slc 10 Za j.1)),(20,(slc 1 Zq a.1)),(21,(i64 (List.length a.1:Int))),(22,(i64 c))] [.cells (Zm j.2)] (LeQ.start (LeQ.pk [0,6,8,9,20,21,22] 1 ?_))
      exact⟨rfl,j.2,j.1,(someb hF).symm,by kernel_rfl,by kernel_rfl⟩
     ·refine AWP.skip (LeQ.start (LeQ.pk [0,6,8,9,20,21,22] 1 ?_))
      exact⟨rfl,f,d,(someb hF).symm,by kernel_rfl,by kernel_rfl⟩
    ·rintro _ _ _ ⟨rfl,m,i,rfl,rfl,rfl⟩
     refine AWP.rg0 [] [(0,(slc 13 Zf b)),(6,(.ptr 0 0)),(8,(slc 10 Za a.2.1)),(9,(slc 10 Za i)),(20,(slc 1 Zq a.1)),(21,(i64 (List.length a.1:Int))),(22,(i64 (ZI (c + (1:Int)))))] (LeQ.start (LeQ.pk [0,6,8,9,20,21,22] 1 ?_))
     exact⟨t,Nat.lt_succ_self _,m,i,(ZI (c + (1:Int))),hF,by kernel_rfl,by kernel_rfl⟩
   ·refine AWP.exit (LeQ.start (LeQ.pk [6,8,9] 1 ?_))
    exact⟨rfl,f,d,(someb hF).symm,by kernel_rfl,by kernel_rfl⟩
 ·rintro _ _ _ ⟨rfl,k,l,rfl,rfl,rfl⟩
  refine AWP.seq ?_
  obtain⟨o,b6,hF⟩:=bindb hF
  obtain⟨w,b7,hF⟩:=bindb hF
  refine AWP.rg [(2,.call Tryz.func53 [] (Zfl k l a.2.1 o b6)),(3,.call Tryz.func55 [] (Zif o.2 o.1 w b7))] [(4,(slc 10 Za w.1)),(5,(i64 w.2))] [.cells (Zm o.2)] (AWP.ret ?_)
  have hr:=someb hF
  subst hr
  exact(FnQ.f0 0 (.inr rfl))
def Zxh (r:ZB):PV→List Blk→Prop:=fun p K=>p=(Z9 r)∧K=[]
theorem Zrx (r:ZB) (hF:Zjd=some r):ACall Tryz.prog glob 56 [] [] (Zxh r):=by
 refine ACall.body Tryz.func56 rfl (by kernel_rfl) ?_
 unfold Zjd at hF
 refine AWP.seq (AWP.rg [] [(0,(.ptr 0 0))] [.cells (Za Zn)] (AWP.seq (AWP.rg [] [(0,(.ptr 0 0)),(1,(.ptr 1 0))] [.cells (Za Zn),.cells (Za Zn)] (AWP.seq (AWP.seq (AWP.rg0 [] [(0,(.ptr 0 0)),(1,(.ptr 1 0)),(4,(Zb6 Za5)),(5,(i64 (0:Int)))] ?_))))))
 obtain⟨c,i,hF⟩:=bindb hF
 refine AWP.mid (fun e st H=>e=.normal∧st=[(0,(.ptr 0 0)),(1,(.ptr 1 0))]∧H=[.cells (Za Zn),.cells (Za c)]) ?_ ?_
 ·clear hF
  refine AWP.kp [0,1,4,5] 2 ?_
  refine AWP.bround (fun n st H=>∃ b,∃ a,Ziq n b a=some c∧st=[(0,(.ptr 0 0)),(1,(.ptr 1 0)),(4,(Zb6 Za5)),(5,(i64 a))]∧H=[.cells (Za Zn),.cells (Za b)]) fuel ⟨Zn,(0:Int),i,by kernel_rfl,by kernel_rfl⟩ ?_
  rintro d st H ⟨b,a,hF,rfl,rfl⟩
  cases d with
  | zero=>exact noneb hF
  | succ d=>
   rw [Ziq] at hF
   refine AWP.seq (AWP.rg0 [] [(0,(.ptr 0 0)),(1,(.ptr 1 0)),(4,(Zb6 Za5)),(5,(i64 a)),(6,(vb (decide (a<(5:Int)))))] (AWP.seq ?_))
   refine AWP.cif hF (fun j hF=>?_) (fun j hF=>?_)
   ·refine AWP.skip (AWP.seq (AWP.block (AWP.seq ?_)))
    obtain⟨k,hF⟩:=chkb hF
    refine AWP.rg0 [(1,.ixA Zdd (Arr5.get Za5) k)] [(0,(.ptr 0 0)),(1,(.ptr 1 0)),(2,(i64 a)),(3,(u32 (Arr5.get Za5 a))),(4,(Zb6 Za5)),(5,(i64 a))] ?_
    obtain⟨f,hF⟩:=chkb hF
    refine AWP.rg [(2,.ixd f),(4,.stA (fun g=>Za (Arr5.set b g ({ (Arr5.get b g) with Hi:=(Arr5.get Za5 a) }:Zb))) 0 2 1 f)] [(0,(.ptr 0 0)),(1,(.ptr 1 0)),(4,(Zb6 Za5)),(5,(i64 a))] [.cells (Za Zn),.cells (Za (Arr5.set b a ({ (Arr5.get b a) with Hi:=(Arr5.get Za5 a) }:Zb)))] (AWP.rg0 [] [(0,(.ptr 0 0)),(1,(.ptr 1 0)),(4,(Zb6 Za5)),(5,(i64 (ZI (a + (1:Int)))))] (LeQ.start (LeQ.pk [0,1,4,5] 2 ?_)))
    exact⟨d,Nat.lt_succ_self _,(Arr5.set b a ({ (Arr5.get b a) with Hi:=(Arr5.get Za5 a) }:Zb)),(ZI (a + (1:Int))),hF,by kernel_rfl,by kernel_rfl⟩
   ·refine AWP.exit (LeQ.start (LeQ.pk [0,1] 2 ?_))
    have hr:=someb hF
    subst hr
    exact⟨rfl,by kernel_rfl,by kernel_rfl⟩
 ·rintro _ _ _ ⟨rfl,rfl,rfl⟩
  refine AWP.seq (AWP.rg [] [(0,(.ptr 0 0))] [.cells (Za c),.cells (Za c)] (AWP.ret ?_))
  have hr:=someb hF
  subst hr
  exact(FnQ.f0 0 (.inr rfl))
def Zl7 (r:(ZL × Int)):PV→List Blk→Prop:=fun p K=>p=(.tup [(slc 10 Za r.1),(i64 r.2)])∧K=[]
theorem Zl8 (a:(List Zi)) (l:ZL) (r:(ZL × Int)) (hF:Zef a l=some r):ACall Tryz.prog glob 25 [(slc 13 Zf a),(slc 10 Za l)] [] (Zl7 r):=by
 refine ACall.body Tryz.func25 rfl (by kernel_rfl) ?_
 unfold Zef at hF
 refine AWP.seq (AWP.rg0 [] [(0,(slc 13 Zf a)),(1,(slc 10 Za l))] (AWP.seq (AWP.rg [] [(0,(slc 13 Zf a)),(1,(slc 10 Za l)),(6,(.ptr 0 0))] [.cells (Zm Zdu)] (AWP.seq ?_))))
 obtain⟨c,a9,hF⟩:=bindb hF
 refine AWP.rg [(1,.call Tryz.func51 [] (Ziz Zdu l c a9))] [(0,(slc 13 Zf a)),(6,(.ptr 0 0)),(7,(slc 10 Za c.1))] [.cells (Zm c.2)] (AWP.seq (AWP.rg0 [] [(0,(slc 13 Zf a)),(6,(.ptr 0 0)),(7,(slc 10 Za c.1)),(8,nils)] (AWP.seq ?_)))
 obtain⟨m,b0,hF⟩:=bindb hF
 refine AWP.rg0 [(0,.call Tryz.func56 [] (Zrx m b0))] [(0,(slc 13 Zf a)),(6,(.ptr 0 0)),(7,(slc 10 Za c.1)),(8,nils),(9,(slc 10 Za [m]))] (AWP.seq (AWP.seq (AWP.rg0 [(1,.len Zf a)] [(6,(.ptr 0 0)),(7,(slc 10 Za c.1)),(8,nils),(9,(slc 10 Za [m])),(18,(slc 13 Zf a)),(19,(i64 (List.length a:Int))),(20,(i64 (0:Int)))] ?_)))
 obtain⟨a7,b1,hF⟩:=bindb hF
 refine AWP.mid (fun e st H=>(e=.normal∧∃ w,∃ x,∃ y,a7=(w,x,y)∧st=[(6,(.ptr 0 0)),(7,(slc 10 Za c.1)),(8,(slc 10 Za x)),(9,(slc 10 Za y))]∧H=[.cells (Zm w)])) ?_ ?_
 ·clear hF
  refine AWP.wk (p:=nils) (q:=(slc 10 Za ([]:ZL))) (st':=[(8,(slc 10 Za ([]:ZL))),(6,(.ptr 0 0)),(7,(slc 10 Za c.1)),(9,(slc 10 Za [m])),(18,(slc 13 Zf a)),(19,(i64 (List.length a:Int))),(20,(i64 (0:Int)))]) 8 (by kernel_rfl) (.nil 10) (by kernel_rfl) ?_
  refine AWP.kp [6,7,8,9,18,19,20] 1 ?_
  refine AWP.bround (fun n st H=>∃ i,∃ g,∃ f,∃ d,Zbc a c n i g f d=some a7∧st=[(6,(.ptr 0 0)),(7,(slc 10 Za c.1)),(8,(slc 10 Za g)),(9,(slc 10 Za f)),(18,(slc 13 Zf a)),(19,(i64 (List.length a:Int))),(20,(i64 d))]∧H=[.cells (Zm i)]) fuel ⟨c.2,([]:ZL),[m],(0:Int),b1,by kernel_rfl,by kernel_rfl⟩ ?_
  rintro a1 st H ⟨i,g,f,d,hF,rfl,rfl⟩
  cases a1 with
  | zero=>exact noneb hF
  | succ a1=>
   rw [Zbc] at hF
   refine AWP.seq (AWP.rg0 [] [(6,(.ptr 0 0)),(7,(slc 10 Za c.1)),(8,(slc 10 Za g)),(9,(slc 10 Za f)),(18,(slc 13 Zf a)),(19,(i64 (List.length a:Int))),(20,(i64 d)),(21,(vb (decide (d<(List.length a:Int)))))] (AWP.seq ?_))
   refine AWP.cif hF (fun b2 hF=>?_) (fun b2 hF=>?_)
   ·refine AWP.skip ?_
    obtain⟨b3,b4,hF⟩:=bindb hF
    refine AWP.seq ?_
    refine AWP.mid (fun e st H=>(e=.normal∧∃ z,∃ o,∃ s,b3=(z,o,s)∧st=[(6,(.ptr 0 0)),(7,(slc 10 Za c.1)),(8,(slc 10 Za o)),(9,(slc 10 Za s)),(18,(slc 13 Zf a)),(19,(i64 (List.length a:Int))),(20,(i64 d))]∧H=[.cells (Zm z)])) ?_ ?_
    ·clear hF
     have hF:=b4
     refine AWP.block (AWP.seq ?_)
     obtain⟨b,b5,hF⟩:=bindb hF
     refine AWP.rg [(0,.idx Zf b5)] [(6,(.ptr 0 0)),(7,(slc 10 Za c.1)),(8,(slc 10 Za g)),(9,(slc 10 Za f)),(11,(.ptr 1 0)),(18,(slc 13 Zf a)),(19,(i64 (List.length a:Int))),(20,(i64 d))] [.cells (Zm i),.cells (Zf b)] (AWP.seq (AWP.seq ?_))
     obtain⟨a8,b6,hF⟩:=bindb hF
     refine AWP.rg0 [(1,.call Tryz.func70 [] (Zdp b a8 b6))] [(6,(.ptr 0 0)),(7,(slc 10 Za c.1)),(8,(slc 10 Za g)),(9,(slc 10 Za f)),(11,(.ptr 1 0)),(18,(slc 13 Zf a)),(19,(i64 (List.length a:Int))),(20,(i64 d)),(26,(vb (!a8)))] ?_
     refine AWP.cif hF (fun b7 hF=>?_) (fun b7 hF=>?_)
     ·refine AWP.exit (LeQ.start (LeQ.pk [6,7,8,9,18,19,20] 1 ?_))
      exact⟨rfl,i,g,f,(someb hF).symm,by kernel_rfl,by kernel_rfl⟩
     ·refine AWP.skip (AWP.seq ?_)
      obtain⟨j,b8,hF⟩:=bindb hF
      refine AWP.rg [(0,.call Tryz.func56 [] (Zrx j b8))] [(6,(.ptr 0 0)),(7,(slc 10 Za c.1)),(8,(slc 10 Za g)),(9,(slc 10 Za f)),(11,(.ptr 1 0)),(12,(.ptr 2 0)),(18,(slc 13 Zf a)),(19,(i64 (List.length a:Int))),(20,(i64 d))] [.cells (Zm i),.cells (Zf b),.cells (Za j)] (AWP.seq (AWP.rg [] [(6,(.ptr 0 0)),(7,(slc 10 Za c.1)),(8,(slc 10 Za g)),(9,(slc 10 Za f)),(11,(.ptr 1 0)),(12,(.ptr 2 0)),(18,(slc 13 Zf a)),(19,(i64 (List.length a:Int))),(20,(i64 d))] [.cells (Zm i),.cells (Zf b),.cells (Za ({ j with x0:=(Zb.mk b.Addr b.Addr) }:ZB))] (AWP.seq (AWP.rg [] [(6,(.ptr 0 0)),(7,(slc 10 Za c.1)),(8,(slc 10 Za g)),(9,(slc 10 Za f)),(11,(.ptr 1 0)),(12,(.ptr 2 0)),(18,(slc 13 Zf a)),(19,(i64 (List.length a:Int))),(20,(i64 d))] [.cells (Zm i),.cells (Zf b),.cells (Za ({ ({ j with x0:=(Zb.mk b.Addr b.Addr) }:ZB) with x3:=b.Ports }:ZB))] (AWP.seq ?_)))))
      obtain⟨a2,b9,hF⟩:=bindb hF
      obtain⟨a3,c0,hF⟩:=bindb hF
      obtain⟨t,c1,hF⟩:=bindb hF
      refine AWP.rg [(3,.call Tryz.func57 [] (Zdc i c.1 [({ ({ j with x0:=(Zb.mk b.Addr b.Addr) }:ZB) with x3:=b.Ports }:ZB)] a2 b9)),(4,.call Tryz.func72 [] (Zhd a2.2 a2.1 (0:Int) a3 c0)),(5,.call Tryz.func72 [] (Zhd a3.2 a3.1 (3:Int) t c1))] [(6,(.ptr 0 0)),(7,(slc 10 Za c.1)),(8,(slc 10 Za g)),(9,(slc 10 Za f)),(11,(.ptr 1 0)),(13,(slc 10 Za t.1)),(18,(slc 13 Zf a)),(19,(i64 (List.length a:Int))),(20,(i64 d))] [.cells (Zm t.2),.cells (Zf b),.cells (Za ({ ({ j with x0:=(Zb.mk b.Addr b.Addr) }:ZB) with x3:=b.Ports }:ZB))] (AWP.seq ?_)
      obtain⟨a4,c2,hF⟩:=bindb hF
      obtain⟨u,c3,hF⟩:=bindb hF
      refine AWP.rg [(4,.call Tryz.func57 [] (Zdc t.2 t.1 [b.Match] a4 c2)),(6,.call Tryz.func57 [] (Zdc a4.2 a4.1 f u c3))] [(6,(.ptr 0 0)),(7,(slc 10 Za c.1)),(8,(slc 10 Za g)),(9,(slc 10 Za f)),(11,(.ptr 1 0)),(13,(slc 10 Za u.1)),(18,(slc 13 Zf a)),(19,(i64 (List.length a:Int))),(20,(i64 d))] [.cells (Zm u.2),.cells (Zf b),.cells (Za ({ ({ j with x0:=(Zb.mk b.Addr b.Addr) }:ZB) with x3:=b.Ports }:ZB))] (AWP.seq ?_)
      obtain⟨k,c4,hF⟩:=bindb hF
      refine AWP.rg [(2,.call Tryz.func53 [] (Zfl u.2 g u.1 k c4))] [(6,(.ptr 0 0)),(7,(slc 10 Za c.1)),(8,(slc 10 Za k.1)),(9,(slc 10 Za f)),(11,(.ptr 1 0)),(18,(slc 13 Zf a)),(19,(i64 (List.length a:Int))),(20,(i64 d))] [.cells (Zm k.2),.cells (Zf b),.cells (Za ({ ({ j with x0:=(Zb.mk b.Addr b.Addr) }:ZB) with x3:=b.Ports }:ZB))] ?_
      obtain⟨v,c5,hF⟩:=bindb hF
      refine AWP.rg [(4,.call Tryz.func59 [] (Zhn k.2 f [b.Match] v c5))] [(6,(.ptr 0 0)),(7,(slc 10 Za c.1)),(8,(slc 10 Za k.1)),(9,(slc 10 Za v.1)),(18,(slc 13 Zf a)),(19,(i64 (List.length a:Int))),(20,(i64 d))] [.cells (Zm v.2),.cells (Zf b),.cells (Za ({ ({ j with x0:=(Zb.mk b.Addr b.Addr) }:ZB) with x3:=b.Ports }:ZB))] (LeQ.start (LeQ.pk [6,7,8,9,18,19,20] 1 ?_))
      exact⟨rfl,v.2,k.1,v.1,(someb hF).symm,by kernel_rfl,by kernel_rfl⟩
    ·rintro _ _ _ ⟨rfl,z,o,s,rfl,rfl,rfl⟩
     refine AWP.rg0 [] [(6,(.ptr 0 0)),(7,(slc 10 Za c.1)),(8,(slc 10 Za o)),(9,(slc 10 Za s)),(18,(slc 13 Zf a)),(19,(i64 (List.length a:Int))),(20,(i64 (ZI (d + (1:Int)))))] (LeQ.start (LeQ.pk [6,7,8,9,18,19,20] 1 ?_))
     exact⟨a1,Nat.lt_succ_self _,z,o,s,(ZI (d + (1:Int))),hF,by kernel_rfl,by kernel_rfl⟩
   ·refine AWP.exit (LeQ.start (LeQ.pk [6,7,8,9] 1 ?_))
    exact⟨rfl,i,g,f,(someb hF).symm,by kernel_rfl,by kernel_rfl⟩
 ·rintro _ _ _ ⟨rfl,w,x,y,rfl,rfl,rfl⟩
  refine AWP.seq ?_
  obtain⟨a5,c6,hF⟩:=bindb hF
  obtain⟨a0,c7,hF⟩:=bindb hF
  obtain⟨a6,c8,hF⟩:=bindb hF
  refine AWP.rg [(3,.call Tryz.func57 [] (Zdc w y c.1 a5 c6)),(4,.call Tryz.func53 [] (Zfl a5.2 x a5.1 a0 c7)),(5,.call Tryz.func55 [] (Zif a0.2 a0.1 a6 c8))] [(4,(slc 10 Za a6.1)),(5,(i64 a6.2))] [.cells (Zm a0.2)] (AWP.ret ?_)
  have hr:=someb hF
  subst hr
  exact(FnQ.f0 0 (.inr rfl))
def Zm6 (r:(Zo × Ze)):PV→List Blk→Prop:=fun p K=>p=(Zcc r.1)∧K=[.cells (Zg r.2)]
theorem Zjk (a:Ze) (r:(Zo × Ze)) (hF:Zd1 a=some r):ACall Tryz.prog glob 13 [(.ptr 0 0)] [.cells (Zg a)] (Zm6 r):=by
 refine ACall.body Tryz.func13 rfl (by kernel_rfl) ?_
 unfold Zd1 at hF
 refine AWP.seq (AWP.rg [] [(0,(.ptr 0 0)),(2,(.ptr 1 0))] [.cells (Zg a),.cells (Zk Zec)] (AWP.seq ?_))
 obtain⟨b,i,hF⟩:=bindb hF
 obtain⟨c,j,hF⟩:=bindb hF
 obtain⟨g,k,hF⟩:=bindb hF
 obtain⟨l,m,hF⟩:=bindb hF
 obtain⟨d,n,hF⟩:=bindb hF
 obtain⟨f,o,hF⟩:=bindb hF
 refine AWP.dr [(1,.call Tryz.func45 [] (Zfq a b i)),(3,.call Tryz.func45 [] (Zfq b.2 c j)),(6,.call Tryz.func32 [] (Zu c.2 (6:Int) g k)),(7,.idx Zxx m),(10,.call Tryz.func46 [] (Zga g.2 (65535:Int) d n)),(13,.call Tryz.func46 [] (Zga d.2 (65535:Int) f o))] 16 [] [1,3,6,10,13] [] [(2,(.ptr 1 0))] [.cells (Zg f.2),.cells (Zk (Zo.mk b.1 c.1 l (IntKind.wrap .u16 d.1) (IntKind.wrap .u16 f.1)))] (AWP.ret ?_)
 have hr:=someb hF
 subst hr
 exact(FnQ.f0 1 (.inr rfl))
def Zqm (r:Zo):PV→List Blk→Prop:=fun p K=>p=(Zcc r)∧K=[]
theorem Zqn (a:(Arr5 Int)) (r:Zo) (hF:Zgf a=some r):ACall Tryz.prog glob 44 [(Zb6 a)] [] (Zqm r):=by
 refine ACall.body Tryz.func44 rfl (by kernel_rfl) ?_
 unfold Zgf at hF
 refine AWP.seq (AWP.rg [] [(1,(.ptr 0 0)),(2,(.ptr 1 0))] [.cells (Za4 a),.cells (Zk Zec)] (AWP.seq (AWP.rg [] [(2,(.ptr 1 0))] [.cells (Za4 a),.cells (Zk (Zo.mk a.x0 a.x1 (IntKind.wrap .u8 a.x2) (IntKind.wrap .u16 a.x3) (IntKind.wrap .u16 a.x4)))] (AWP.ret ?_))))
 have hr:=someb hF
 subst hr
 exact(FnQ.f0 0 (.inr rfl))
def Zok (r:(Zo × Ze)):PV→List Blk→Prop:=fun p K=>p=(Zcc r.1)∧K=[.cells (Zg r.2)]
theorem Zol (k:Ze) (f:ZL) (r:(Zo × Ze)) (hF:Zfm k f=some r):ACall Tryz.prog glob 11 [(.ptr 0 0),(slc 10 Za f)] [.cells (Zg k)] (Zok r):=by
 refine ACall.body Tryz.func11 rfl (by kernel_rfl) ?_
 unfold Zfm at hF
 refine AWP.seq (AWP.rg [] [(0,(.ptr 0 0)),(1,(slc 10 Za f)),(4,(.ptr 1 0))] [.cells (Zg k),.cells (Zk Zec)] (AWP.seq (AWP.seq ?_)))
 obtain⟨a8,l,hF⟩:=bindb hF
 replace l:=someb l
 obtain⟨m,v,hF⟩:=bindb hF
 refine AWP.to [(0,(.ptr 0 0)),(1,(slc 10 Za f)),(4,(.ptr 1 0)),(15,(vb m.1))] [.cells (Zg m.2),.cells (Zk Zec)] ?_ ?_
 ·cases a8 with
  | false=>
   have g:=ifF v rfl
   obtain⟨a9,b0,g⟩:=bindb g
   replace g:=someb g
   subst g
   exact AWP.rgT [(1,.len Za f),(3,.bool l),(5,.call Tryz.func32 [] (Zu k (4:Int) a9 b0))]
  | true=>
   have b1:=someb (ifT v rfl)
   subst b1
   exact AWP.rgT [(1,.len Za f),(3,.bool l)]
 refine AWP.cif hF (fun b2 hF=>?_) (fun b2 hF=>?_)
 ·refine AWP.seq ?_
  obtain⟨t,b3,hF⟩:=bindb hF
  refine AWP.rg [(1,.call Tryz.func13 [] (Zjk m.2 t b3))] [(4,(.ptr 1 0))] [.cells (Zg t.2),.cells (Zk t.1)] (AWP.ret ?_)
  have hr:=someb hF
  subst hr
  exact(FnQ.f0 1 (.inr rfl))
 ·refine AWP.skip (AWP.seq ?_)
  obtain⟨o,b4,hF⟩:=bindb hF
  obtain⟨b,b5,hF⟩:=bindb hF
  refine AWP.rg [(3,.len Za f),(4,.call Tryz.func32 [] (Zu m.2 (List.length f:Int) o b4)),(5,.idx Za b5)] [(0,(.ptr 0 0)),(4,(.ptr 1 0)),(5,(.ptr 2 0))] [.cells (Zg o.2),.cells (Zk Zec),.cells (Za b)] (AWP.seq (AWP.rg [] [(0,(.ptr 0 0)),(4,(.ptr 1 0)),(5,(.ptr 2 0)),(6,(.ptr 3 0))] [.cells (Zg o.2),.cells (Zk Zec),.cells (Za b),.cells (Za4 Zir)] (AWP.seq (AWP.seq (AWP.rg0 [] [(0,(.ptr 0 0)),(4,(.ptr 1 0)),(5,(.ptr 2 0)),(6,(.ptr 3 0)),(7,(i64 (0:Int)))] ?_)))))
  obtain⟨w,b6,hF⟩:=bindb hF
  refine AWP.mid (fun e st H=>(e=.normal∧∃ p,∃ i,w=(p,i)∧st=[(4,(.ptr 1 0)),(6,(.ptr 3 0))]∧H=[.cells (Zg p),.cells (Zk Zec),.cells (Za b),.cells (Za4 i)])) ?_ ?_
  ·clear hF
   refine AWP.kp [0,4,5,6,7] 4 ?_
   refine AWP.bround (fun n st H=>∃ j,∃ c,∃ a,Zbn b n j c a=some w∧st=[(0,(.ptr 0 0)),(4,(.ptr 1 0)),(5,(.ptr 2 0)),(6,(.ptr 3 0)),(7,(i64 a))]∧H=[.cells (Zg j),.cells (Zk Zec),.cells (Za b),.cells (Za4 c)]) fuel ⟨o.2,Zir,(0:Int),b6,by kernel_rfl,by kernel_rfl⟩ ?_
   rintro u st H ⟨j,c,a,hF,rfl,rfl⟩
   cases u with
   | zero=>exact noneb hF
   | succ u=>
    rw [Zbn] at hF
    refine AWP.seq (AWP.seq (AWP.rg0 [] [(0,(.ptr 0 0)),(4,(.ptr 1 0)),(5,(.ptr 2 0)),(6,(.ptr 3 0)),(7,(i64 a)),(26,(vb (decide (a<(5:Int)))))] ?_))
    refine AWP.cif hF (fun b7 hF=>?_) (fun b7 hF=>?_)
    ·refine AWP.skip (AWP.seq (AWP.block (AWP.seq ?_)))
     obtain⟨x,hF⟩:=chkb hF
     obtain⟨y,hF⟩:=chkb hF
     obtain⟨z,hF⟩:=chkb hF
     obtain⟨a0,hF⟩:=chkb hF
     obtain⟨a1,hF⟩:=chkb hF
     obtain⟨a2,hF⟩:=chkb hF
     obtain⟨a3,hF⟩:=chkb hF
     obtain⟨q,b8,hF⟩:=bindb hF
     obtain⟨d,b9,hF⟩:=bindb hF
     obtain⟨a4,hF⟩:=chkb hF
     refine AWP.dr [(2,.ixd x),(4,.ldA Zl (Arr5.get b) 0 2 0 x),(6,.ixd y),(8,.ldA Zl (Arr5.get b) 0 2 1 y),(10,.ixd z),(12,.ldA Zl (Arr5.get b) 0 2 0 z),(15,.ixd a0),(17,.ldA Zl (Arr5.get b) 0 2 1 a0),(20,.ixd a1),(22,.ldA Zl (Arr5.get b) 0 2 0 a1),(24,.ixd a2),(26,.ldA Zl (Arr5.get b) 0 2 1 a2),(28,.ixd a3),(30,.ldA Zl (Arr5.get b) 0 2 0 a3),(36,.call Tryz.func32 [] (Zu j (5:Int) q b8)),(37,.idx Zdd b9),(39,.ixd a4),(40,.stA (fun c0=>Za4 (Arr5.set c c0 d)) 0 1 0 a4)] 39 [] [36] [] [(0,(.ptr 0 0)),(4,(.ptr 1 0)),(5,(.ptr 2 0)),(6,(.ptr 3 0)),(7,(i64 a))] [.cells (Zg q.2),.cells (Zk Zec),.cells (Za b),.cells (Za4 (Arr5.set c a d))] ?_
     obtain⟨a5,hF⟩:=chkb hF
     obtain⟨s,c1,hF⟩:=bindb hF
     obtain⟨a6,hF⟩:=chkb hF
     refine AWP.dr [(2,.ixd a5),(3,.ldA Zdd (Arr5.get (Arr5.set c a d)) 0 1 0 a5),(5,.call Tryz.func43 [] (Zhj a s c1)),(7,.ixd a6),(8,.stA (fun c2=>Za4 (Arr5.set (Arr5.set c a d) c2 (iMin (Arr5.get (Arr5.set c a d) a) s))) 0 1 0 a6)] 7 [] [] [] [(0,(.ptr 0 0)),(4,(.ptr 1 0)),(5,(.ptr 2 0)),(6,(.ptr 3 0)),(7,(i64 a))] [.cells (Zg q.2),.cells (Zk Zec),.cells (Za b),.cells (Za4 (Arr5.set (Arr5.set c a d) a (iMin (Arr5.get (Arr5.set c a d) a) s)))] (AWP.rg0 [] [(0,(.ptr 0 0)),(4,(.ptr 1 0)),(5,(.ptr 2 0)),(6,(.ptr 3 0)),(7,(i64 (ZI (a + (1:Int)))))] (LeQ.start (LeQ.pk [0,4,5,6,7] 4 ?_)))
     exact⟨u,Nat.lt_succ_self _,q.2,(Arr5.set (Arr5.set c a d) a (iMin (Arr5.get (Arr5.set c a d) a) s)),(ZI (a + (1:Int))),hF,by kernel_rfl,by kernel_rfl⟩
    ·refine AWP.exit (LeQ.start (LeQ.pk [4,6] 4 ?_))
     exact⟨rfl,j,c,(someb hF).symm,by kernel_rfl,by kernel_rfl⟩
  ·rintro _ _ _ ⟨rfl,p,i,rfl,rfl,rfl⟩
   refine AWP.seq ?_
   obtain⟨a7,c3,hF⟩:=bindb hF
   refine AWP.rg [(1,.call Tryz.func44 [] (Zqn i a7 c3))] [(4,(.ptr 1 0))] [.cells (Zg p),.cells (Zk a7),.cells (Za b),.cells (Za4 i)] (AWP.ret ?_)
   have hr:=someb hF
   subst hr
   exact(FnQ.f0 1 (.inr rfl))
end Go.AM
set_option maxRecDepth 100000
namespace Go.AM
open Go Go.Proofs
def Zry (r:(Arr5 Int)):PV→List Blk→Prop:=fun p K=>p=(Zb6 r)∧K=[]
theorem Zlo (a:Zo) (r:(Arr5 Int)) (hF:Zfx a=some r):ACall Tryz.prog glob 73 [(Zcc a)] [] (Zry r):=by
 refine ACall.body Tryz.func73 rfl (by kernel_rfl) ?_
 unfold Zfx at hF
 refine AWP.seq (AWP.rg [] [(1,(.ptr 0 0)),(2,(.ptr 1 0))] [.cells (Zk a),.cells (Za4 Zir)] (AWP.seq (AWP.rg [] [(2,(.ptr 1 0))] [.cells (Zk a),.cells (Za4 (Arr5.mk a.Src a.Dst (IntKind.wrap .u32 a.Proto) (IntKind.wrap .u32 a.SrcPort) (IntKind.wrap .u32 a.DstPort)))] (AWP.ret ?_))))
 have hr:=someb hF
 subst hr
 exact(FnQ.f0 0 (.inr rfl))
def Zu2 (r:ZB):PV→List Blk→Prop:=fun p K=>p=(Z9 r)∧K=[]
theorem Zu3 (c:Zo) (r:ZB) (hF:Zhv c=some r):ACall Tryz.prog glob 26 [(Zcc c)] [] (Zu2 r):=by
 refine ACall.body Tryz.func26 rfl (by kernel_rfl) ?_
 unfold Zhv at hF
 refine AWP.seq (AWP.rg [] [(1,(.ptr 0 0)),(2,(.ptr 1 0))] [.cells (Zk c),.cells (Za Zn)] (AWP.seq (AWP.rg [] [(1,(.ptr 0 0)),(2,(.ptr 1 0)),(3,(.ptr 2 0))] [.cells (Zk c),.cells (Za Zn),.cells (Za Zn)] (AWP.seq ?_))))
 obtain⟨b,l,hF⟩:=bindb hF
 refine AWP.rg [(1,.call Tryz.func73 [] (Zlo c b l))] [(2,(.ptr 1 0)),(3,(.ptr 2 0)),(4,(.ptr 3 0))] [.cells (Zk c),.cells (Za Zn),.cells (Za Zn),.cells (Za4 b)] (AWP.seq (AWP.seq (AWP.rg0 [] [(2,(.ptr 1 0)),(3,(.ptr 2 0)),(4,(.ptr 3 0)),(5,(i64 (0:Int)))] ?_)))
 obtain⟨f,m,hF⟩:=bindb hF
 refine AWP.mid (fun e st H=>e=.normal∧st=[(2,(.ptr 1 0)),(3,(.ptr 2 0))]∧H=[.cells (Zk c),.cells (Za Zn),.cells (Za f),.cells (Za4 b)]) ?_ ?_
 ·clear hF
  refine AWP.kp [2,3,4,5] 4 ?_
  refine AWP.bround (fun n st H=>∃ d,∃ a,Zey b n d a=some f∧st=[(2,(.ptr 1 0)),(3,(.ptr 2 0)),(4,(.ptr 3 0)),(5,(i64 a))]∧H=[.cells (Zk c),.cells (Za Zn),.cells (Za d),.cells (Za4 b)]) fuel ⟨Zn,(0:Int),m,by kernel_rfl,by kernel_rfl⟩ ?_
  rintro g st H ⟨d,a,hF,rfl,rfl⟩
  cases g with
  | zero=>exact noneb hF
  | succ g=>
   rw [Zey] at hF
   refine AWP.seq (AWP.seq (AWP.rg0 [] [(2,(.ptr 1 0)),(3,(.ptr 2 0)),(4,(.ptr 3 0)),(5,(i64 a)),(9,(vb (decide (a<(5:Int)))))] ?_))
   refine AWP.cif hF (fun o hF=>?_) (fun o hF=>?_)
   ·refine AWP.skip (AWP.seq (AWP.block ?_))
    obtain⟨i,hF⟩:=chkb hF
    obtain⟨j,hF⟩:=chkb hF
    obtain⟨k,hF⟩:=chkb hF
    refine AWP.dr [(2,.ixd i),(3,.ldA Zdd (Arr5.get b) 0 1 0 i),(5,.ixd j),(6,.ldA Zdd (Arr5.get b) 0 1 0 j),(8,.ixd k),(9,.stA (fun p=>Za (Arr5.set d p (Zb.mk (Arr5.get b a) (Arr5.get b a)))) 0 2 0 k)] 8 [] [] [] [(2,(.ptr 1 0)),(3,(.ptr 2 0)),(4,(.ptr 3 0)),(5,(i64 a))] [.cells (Zk c),.cells (Za Zn),.cells (Za (Arr5.set d a (Zb.mk (Arr5.get b a) (Arr5.get b a)))),.cells (Za4 b)] (AWP.rg0 [] [(2,(.ptr 1 0)),(3,(.ptr 2 0)),(4,(.ptr 3 0)),(5,(i64 (ZI (a + (1:Int)))))] (LeQ.start (LeQ.pk [2,3,4,5] 4 ?_)))
    exact⟨g,Nat.lt_succ_self _,(Arr5.set d a (Zb.mk (Arr5.get b a) (Arr5.get b a))),(ZI (a + (1:Int))),hF,by kernel_rfl,by kernel_rfl⟩
   ·refine AWP.exit (LeQ.start (LeQ.pk [2,3] 4 ?_))
    have hr:=someb hF
    subst hr
    exact⟨rfl,by kernel_rfl,by kernel_rfl⟩
 ·rintro _ _ _ ⟨rfl,rfl,rfl⟩
  refine AWP.seq (AWP.rg [] [(2,(.ptr 1 0))] [.cells (Zk c),.cells (Za f),.cells (Za f),.cells (Za4 b)] (AWP.ret ?_))
  have hr:=someb hF
  subst hr
  exact(FnQ.f0 0 (.inr rfl))
def Zu4 (r:(Arr5 Int)):PV→List Blk→Prop:=fun p K=>p=(Zb6 r)∧K=[]
theorem Zom (a:Zo) (r:(Arr5 Int)) (hF:Zhu a=some r):ACall Tryz.prog glob 121 [(Zcc a)] [] (Zu4 r):=by
 refine ACall.body Tryz.func121 rfl (by kernel_rfl) ?_
 unfold Zhu at hF
 refine AWP.seq (AWP.rg [] [(1,(.ptr 0 0)),(2,(.ptr 1 0))] [.cells (Zk a),.cells (Za4 Zir)] (AWP.seq (AWP.rg [] [(2,(.ptr 1 0))] [.cells (Zk a),.cells (Za4 (Arr5.mk a.Src a.Dst (IntKind.wrap .u32 a.Proto) (IntKind.wrap .u32 a.SrcPort) (IntKind.wrap .u32 a.DstPort)))] (AWP.ret ?_))))
 have hr:=someb hF
 subst hr
 exact(FnQ.f0 0 (.inr rfl))
def Zmm (r:Bool):PV→List Blk→Prop:=fun p K=>p=(vb r)∧K=[]
abbrev Zsr (r:Bool):Exit→St→List Blk→Prop:=FnQ Tryz.prog Tryz.f76.results 0 (Zmm r)
theorem Zmn (a:ZB) (d:Zo) (r:Bool) (hF:Zgd a d=some r):ACall Tryz.prog glob 76 [(Z9 a),(Zcc d)] [] (Zmm r):=by
 refine ACall.body Tryz.func76 rfl (by kernel_rfl) ?_
 unfold Zgd at hF
 refine AWP.seq (AWP.rg [] [(2,(.ptr 0 0)),(3,(.ptr 1 0))] [.cells (Za a),.cells (Zk d)] (AWP.seq (AWP.seq ?_)))
 obtain⟨l,p,hF⟩:=bindb hF
 refine AWP.rg0 [(1,.call Tryz.func98 [] (Zhk a l p))] [(2,(.ptr 0 0)),(3,(.ptr 1 0)),(9,(vb (!l)))] ?_
 refine AWP.cif hF (fun q hF=>?_) (fun q hF=>?_)
 ·refine AWP.seq (AWP.rg0 [] [(4,(vb false))] (AWP.ret ?_))
  have hr:=someb hF
  subst hr
  exact(FnQ.f0 0 (.inr rfl))
 ·refine AWP.skip (AWP.seq (AWP.seq ?_))
  obtain⟨c,s,hF⟩:=bindb hF
  refine AWP.rg0 [(1,.call Tryz.func121 [] (Zom d c s))] [(2,(.ptr 0 0)),(11,(Zb6 c)),(12,(i64 (0:Int)))] ?_
  obtain⟨j,t,hF⟩:=bindb hF
  refine AWP.mid (fun e st H=>(e=.normal∧j=(.inl ())∧st=[]∧H=[.cells (Za a),.cells (Zk d)])∨(e=.ret∧∃ r,j=(.inr r)∧Zsr r e st H)) ?_ ?_
  ·clear hF
   refine AWP.kp [2,11,12] 2 ?_
   refine AWP.bround (fun n st H=>∃ b,Zdf a c n b=some j∧st=[(2,(.ptr 0 0)),(11,(Zb6 c)),(12,(i64 b))]∧H=[.cells (Za a),.cells (Zk d)]) fuel ⟨(0:Int),t,by kernel_rfl,by kernel_rfl⟩ ?_
   rintro k st H ⟨b,hF,rfl,rfl⟩
   cases k with
   | zero=>exact noneb hF
   | succ k=>
    rw [Zdf] at hF
    refine AWP.seq (AWP.rg0 [] [(2,(.ptr 0 0)),(11,(Zb6 c)),(12,(i64 b)),(13,(vb (decide (b<(5:Int)))))] (AWP.seq ?_))
    refine AWP.cif hF (fun u hF=>?_) (fun u hF=>?_)
    ·refine AWP.skip (AWP.seq (AWP.block (AWP.seq ?_)))
     obtain⟨v,hF⟩:=chkb hF
     refine AWP.rg0 [(1,.ixA Zdd (Arr5.get c) v)] [(2,(.ptr 0 0)),(5,(i64 b)),(6,(u32 (Arr5.get c b))),(11,(Zb6 c)),(12,(i64 b))] (AWP.seq ?_)
     obtain⟨g,hF⟩:=chkb hF
     obtain⟨w,i,hF⟩:=bindb hF
     replace i:=someb i
     obtain⟨x,m,hF⟩:=bindb hF
     refine AWP.to [(2,(.ptr 0 0)),(11,(Zb6 c)),(12,(i64 b)),(29,(vb x))] [.cells (Za a),.cells (Zk d)] ?_ ?_
     ·cases w with
      | false=>
       have f:=ifF m rfl
       obtain⟨o,f⟩:=chkb f
       replace f:=someb f
       subst f
       exact AWP.rgT [(2,.ixd g),(4,.ldA Zl (Arr5.get a) 0 2 0 g),(6,.bool i),(9,.ixd o),(11,.ldA Zl (Arr5.get a) 0 2 1 o)]
      | true=>
       have y:=someb (ifT m rfl)
       subst y
       exact AWP.rgT [(2,.ixd g),(4,.ldA Zl (Arr5.get a) 0 2 0 g),(6,.bool i)]
     refine AWP.cif hF (fun z hF=>?_) (fun z hF=>?_)
     ·refine AWP.seq (AWP.rg0 [] [(4,(vb false))] (AWP.ret ?_))
      exact LeQ.of (.inr ⟨rfl,false,(someb hF).symm,(FnQ.f0 0 (.inr rfl))⟩)
     ·refine AWP.skip (AWP.rg0 [] [(2,(.ptr 0 0)),(11,(Zb6 c)),(12,(i64 (ZI (b + (1:Int)))))] (LeQ.start (LeQ.pk [2,11,12] 2 ?_)))
      exact⟨k,Nat.lt_succ_self _,(ZI (b + (1:Int))),hF,by kernel_rfl,by kernel_rfl⟩
    ·refine AWP.exit (LeQ.start (LeQ.pk [] 2 ?_))
     exact(.inl ⟨rfl,(someb hF).symm,by kernel_rfl,by kernel_rfl⟩)
  ·rintro _ _ _ (⟨rfl,rfl,rfl,rfl⟩ | ⟨rfl,a0,rfl,hq⟩)
   ·refine AWP.seq (AWP.rg0 [] [(4,(vb true))] (AWP.ret ?_))
    have hr:=someb hF
    subst hr
    exact(FnQ.f0 0 (.inr rfl))
   ·have hr:=someb hF
    subst hr
    exact hq
def Zmo (a:Zo) (r:Bool):PV→List Blk→Prop:=fun p K=>p=(vb r)∧K=[.cells (Zk a)]
theorem Zmp (a:Zi) (b:Zo) (r:Bool) (hF:Zeo a b=some r):ACall Tryz.prog glob 75 [(Zin a),(.ptr 0 0)] [.cells (Zk b)] (Zmo b r):=by
 refine ACall.body Tryz.func75 rfl (by kernel_rfl) ?_
 unfold Zeo at hF
 refine AWP.seq (AWP.rg [] [(1,(.ptr 0 0)),(2,(.ptr 1 0))] [.cells (Zk b),.cells (Zf a)] (AWP.seq ?_))
 obtain⟨f,g,hF⟩:=bindb hF
 obtain⟨j,d,hF⟩:=bindb hF
 replace d:=someb d
 obtain⟨k,i,hF⟩:=bindb hF
 refine AWP.to [(3,(vb k))] [.cells (Zk b),.cells (Zf a)] ?_ ?_
 ·cases j with
  | false=>
   have l:=someb (ifF i rfl)
   subst l
   exact AWP.rgT [(1,.call Tryz.func70 [] (Zdp a f g)),(2,.bool d)]
  | true=>
   have c:=ifT i rfl
   obtain⟨m,n,c⟩:=bindb c
   replace c:=someb c
   subst c
   exact AWP.rgT [(1,.call Tryz.func70 [] (Zdp a f g)),(2,.bool d),(6,.call Tryz.func76 [] (Zmn a.Match b m n))]
 refine AWP.ret ?_
 have hr:=someb hF
 subst hr
 exact(FnQ.f0 1 (.inr rfl))
def Zdg (a:Zo) (r:Int):PV→List Blk→Prop:=fun p K=>p=(i64 r)∧K=[.cells (Zk a)]
abbrev Zf8 (a:Zo) (r:Int):Exit→St→List Blk→Prop:=FnQ Tryz.prog Tryz.f74.results 1 (Zdg a r)
theorem Zf9 (a:(List Zi)) (c:Zo) (r:Int) (hF:Za7 a c=some r):ACall Tryz.prog glob 74 [(slc 13 Zf a),(.fn 75 [(.ptr 0 0)])] [.cells (Zk c)] (Zdg c r):=by
 refine ACall.body Tryz.func74 rfl (by kernel_rfl) ?_
 unfold Za7 at hF
 refine AWP.seq (AWP.rg0 [] [(0,(slc 13 Zf a)),(1,(.fn 75 [(.ptr 0 0)]))] (AWP.seq (AWP.seq (AWP.rg0 [(1,.len Zf a)] [(0,(slc 13 Zf a)),(1,(.fn 75 [(.ptr 0 0)])),(7,(i64 (List.length a:Int))),(8,(i64 (0:Int)))] ?_))))
 obtain⟨d,i,hF⟩:=bindb hF
 refine AWP.mid (fun e st H=>(e=.normal∧d=(.inl ())∧st=[]∧H=[.cells (Zk c)])∨(e=.ret∧∃ r,d=(.inr r)∧Zf8 c r e st H)) ?_ ?_
 ·clear hF
  refine AWP.kp [0,1,7,8] 1 ?_
  refine AWP.bround (fun n st H=>∃ b,Z0 a c n b=some d∧st=[(0,(slc 13 Zf a)),(1,(.fn 75 [(.ptr 0 0)])),(7,(i64 (List.length a:Int))),(8,(i64 b))]∧H=[.cells (Zk c)]) fuel ⟨(0:Int),i,by kernel_rfl,by kernel_rfl⟩ ?_
  rintro f st H ⟨b,hF,rfl,rfl⟩
  cases f with
  | zero=>exact noneb hF
  | succ f=>
   rw [Z0] at hF
   refine AWP.seq (AWP.rg0 [] [(0,(slc 13 Zf a)),(1,(.fn 75 [(.ptr 0 0)])),(7,(i64 (List.length a:Int))),(8,(i64 b)),(9,(vb (decide (b<(List.length a:Int)))))] (AWP.seq ?_))
   refine AWP.cif hF (fun j hF=>?_) (fun j hF=>?_)
   ·refine AWP.skip (AWP.seq (AWP.block (AWP.seq (AWP.rg0 [] [(0,(slc 13 Zf a)),(1,(.fn 75 [(.ptr 0 0)])),(5,(i64 b)),(7,(i64 (List.length a:Int))),(8,(i64 b))] (AWP.seq ?_)))))
    obtain⟨k,l,hF⟩:=bindb hF
    obtain⟨g,m,hF⟩:=bindb hF
    refine AWP.rg0 [(3,.idx Zf l),(5,.callF Tryz.func75 [] (Zmp k c g m))] [(0,(slc 13 Zf a)),(1,(.fn 75 [(.ptr 0 0)])),(5,(i64 b)),(7,(i64 (List.length a:Int))),(8,(i64 b)),(16,(vb g))] ?_
    refine AWP.cif hF (fun o hF=>?_) (fun o hF=>?_)
    ·refine AWP.seq (AWP.rg0 [] [(4,(i64 b))] (AWP.ret ?_))
     exact LeQ.of (.inr ⟨rfl,b,(someb hF).symm,(FnQ.f0 1 (.inr rfl))⟩)
    ·refine AWP.skip (AWP.rg0 [] [(0,(slc 13 Zf a)),(1,(.fn 75 [(.ptr 0 0)])),(7,(i64 (List.length a:Int))),(8,(i64 (ZI (b + (1:Int)))))] (LeQ.start (LeQ.pk [0,1,7,8] 1 ?_)))
     exact⟨f,Nat.lt_succ_self _,(ZI (b + (1:Int))),hF,by kernel_rfl,by kernel_rfl⟩
   ·refine AWP.exit (LeQ.start (LeQ.pk [] 1 ?_))
    exact(.inl ⟨rfl,(someb hF).symm,by kernel_rfl,by kernel_rfl⟩)
 ·rintro _ _ _ (⟨rfl,rfl,rfl,rfl⟩ | ⟨rfl,p,rfl,hq⟩)
  ·refine AWP.seq (AWP.rg0 [] [(4,(i64 (-1:Int)))] (AWP.ret ?_))
   have hr:=someb hF
   subst hr
   exact(FnQ.f0 1 (.inr rfl))
  ·have hr:=someb hF
   subst hr
   exact hq
def Znz (r:Int):PV→List Blk→Prop:=fun p K=>p=(i64 r)∧K=[]
theorem Zn0 (a:(List Zi)) (b:Zo) (r:Int) (hF:Zea a b=some r):ACall Tryz.prog glob 27 [(slc 13 Zf a),(Zcc b)] [] (Znz r):=by
 refine ACall.body Tryz.func27 rfl (by kernel_rfl) ?_
 unfold Zea at hF
 refine AWP.seq (AWP.rg [] [(0,(slc 13 Zf a)),(3,(.ptr 0 0))] [.cells (Zk b)] (AWP.seq ?_))
 obtain⟨c,d,hF⟩:=bindb hF
 refine AWP.rg0 [(1,.q),(2,.call Tryz.func74 [] (Zf9 a b c d))] [(4,(i64 c))] (AWP.ret ?_)
 have hr:=someb hF
 subst hr
 exact(FnQ.f0 0 (.inr rfl))
def Zy2 (r:ZB):PV→List Blk→Prop:=fun p K=>p=(Z9 r)∧K=[]
theorem Zy3 (c:Zo) (r:ZB) (hF:Zk0 c=some r):ACall Tryz.prog glob 77 [(Zcc c)] [] (Zy2 r):=by
 refine ACall.body Tryz.func77 rfl (by kernel_rfl) ?_
 unfold Zk0 at hF
 refine AWP.seq (AWP.rg [] [(1,(.ptr 0 0)),(2,(.ptr 1 0))] [.cells (Zk c),.cells (Za Zn)] (AWP.seq (AWP.rg [] [(1,(.ptr 0 0)),(2,(.ptr 1 0)),(3,(.ptr 2 0))] [.cells (Zk c),.cells (Za Zn),.cells (Za Zn)] (AWP.seq (AWP.seq ?_)))))
 obtain⟨b,j,hF⟩:=bindb hF
 refine AWP.rg0 [(1,.call Tryz.func121 [] (Zom c b j))] [(2,(.ptr 1 0)),(3,(.ptr 2 0)),(7,(Zb6 b)),(8,(i64 (0:Int)))] ?_
 obtain⟨f,k,hF⟩:=bindb hF
 refine AWP.mid (fun e st H=>e=.normal∧st=[(2,(.ptr 1 0)),(3,(.ptr 2 0))]∧H=[.cells (Zk c),.cells (Za Zn),.cells (Za f)]) ?_ ?_
 ·clear hF
  refine AWP.kp [2,3,7,8] 3 ?_
  refine AWP.bround (fun n st H=>∃ d,∃ a,Zg2 b n d a=some f∧st=[(2,(.ptr 1 0)),(3,(.ptr 2 0)),(7,(Zb6 b)),(8,(i64 a))]∧H=[.cells (Zk c),.cells (Za Zn),.cells (Za d)]) fuel ⟨Zn,(0:Int),k,by kernel_rfl,by kernel_rfl⟩ ?_
  rintro g st H ⟨d,a,hF,rfl,rfl⟩
  cases g with
  | zero=>exact noneb hF
  | succ g=>
   rw [Zg2] at hF
   refine AWP.seq (AWP.rg0 [] [(2,(.ptr 1 0)),(3,(.ptr 2 0)),(7,(Zb6 b)),(8,(i64 a)),(9,(vb (decide (a<(5:Int)))))] (AWP.seq ?_))
   refine AWP.cif hF (fun l hF=>?_) (fun l hF=>?_)
   ·refine AWP.skip (AWP.seq (AWP.block (AWP.seq ?_)))
    obtain⟨m,hF⟩:=chkb hF
    refine AWP.rg0 [(1,.ixA Zdd (Arr5.get b) m)] [(2,(.ptr 1 0)),(3,(.ptr 2 0)),(4,(i64 a)),(5,(u32 (Arr5.get b a))),(7,(Zb6 b)),(8,(i64 a))] ?_
    obtain⟨i,hF⟩:=chkb hF
    refine AWP.rg [(4,.ixd i),(5,.stA (fun o=>Za (Arr5.set d o (Zb.mk (Arr5.get b a) (Arr5.get b a)))) 0 2 0 i)] [(2,(.ptr 1 0)),(3,(.ptr 2 0)),(7,(Zb6 b)),(8,(i64 a))] [.cells (Zk c),.cells (Za Zn),.cells (Za (Arr5.set d a (Zb.mk (Arr5.get b a) (Arr5.get b a))))] (AWP.rg0 [] [(2,(.ptr 1 0)),(3,(.ptr 2 0)),(7,(Zb6 b)),(8,(i64 (ZI (a + (1:Int)))))] (LeQ.start (LeQ.pk [2,3,7,8] 3 ?_)))
    exact⟨g,Nat.lt_succ_self _,(Arr5.set d a (Zb.mk (Arr5.get b a) (Arr5.get b a))),(ZI (a + (1:Int))),hF,by kernel_rfl,by kernel_rfl⟩
   ·refine AWP.exit (LeQ.start (LeQ.pk [2,3] 3 ?_))
    have hr:=someb hF
    subst hr
    exact⟨rfl,by kernel_rfl,by kernel_rfl⟩
 ·rintro _ _ _ ⟨rfl,rfl,rfl⟩
  refine AWP.seq (AWP.rg [] [(2,(.ptr 1 0))] [.cells (Zk c),.cells (Za f),.cells (Za f)] (AWP.ret ?_))
  have hr:=someb hF
  subst hr
  exact(FnQ.f0 0 (.inr rfl))
def Zqo (r:ZB):PV→List Blk→Prop:=fun p K=>p=(Z9 r)∧K=[]
theorem Zqp (a:Zi) (b:Zo) (r:ZB) (hF:Zfj a b=some r):ACall Tryz.prog glob 28 [(Zin a),(Zcc b)] [] (Zqo r):=by
 refine ACall.body Tryz.func28 rfl (by kernel_rfl) ?_
 unfold Zfj at hF
 refine AWP.seq (AWP.rg [] [(2,(.ptr 0 0)),(3,(.ptr 1 0)),(4,(.ptr 2 0))] [.cells (Zf a),.cells (Zk b),.cells (Za Zn)] (AWP.seq ?_))
 obtain⟨c,l,hF⟩:=bindb hF
 refine AWP.rg [(1,.call Tryz.func77 [] (Zy3 b c l))] [(2,(.ptr 0 0)),(3,(.ptr 1 0)),(4,(.ptr 2 0)),(5,(.ptr 3 0))] [.cells (Zf a),.cells (Zk b),.cells (Za Zn),.cells (Za c)] ?_
 obtain⟨g,m,hF⟩:=bindb hF
 refine AWP.seq ?_
 refine AWP.mid (fun e st H=>e=.normal∧st=[(4,(.ptr 2 0)),(5,(.ptr 3 0))]∧H=[.cells (Zf a),.cells (Zk b),.cells (Za Zn),.cells (Za g)]) ?_ ?_
 ·clear hF
  have hF:=m
  refine AWP.seq ?_
  obtain⟨i,j,hF⟩:=bindb hF
  obtain⟨n,f,hF⟩:=bindb hF
  replace f:=someb f
  obtain⟨o,k,hF⟩:=bindb hF
  refine AWP.to [(2,(.ptr 0 0)),(4,(.ptr 2 0)),(5,(.ptr 3 0)),(15,(vb o))] [.cells (Zf a),.cells (Zk b),.cells (Za Zn),.cells (Za c)] ?_ ?_
  ·cases n with
   | false=>
    have p:=someb (ifF k rfl)
    subst p
    exact AWP.rgT [(1,.call Tryz.func70 [] (Zdp a i j)),(2,.bool f)]
   | true=>
    have d:=ifT k rfl
    obtain⟨q,s,d⟩:=bindb d
    replace d:=someb d
    subst d
    exact AWP.rgT [(1,.call Tryz.func70 [] (Zdp a i j)),(2,.bool f),(6,.call Tryz.func76 [] (Zmn a.Match b q s))]
  refine AWP.cif hF (fun t hF=>?_) (fun t hF=>?_)
  ·refine AWP.seq (AWP.rg [] [(2,(.ptr 0 0)),(4,(.ptr 2 0)),(5,(.ptr 3 0))] [.cells (Zf a),.cells (Zk b),.cells (Za Zn),.cells (Za ({ c with x0:=(Zb.mk a.Addr a.Addr) }:ZB))] (AWP.rg [] [(4,(.ptr 2 0)),(5,(.ptr 3 0))] [.cells (Zf a),.cells (Zk b),.cells (Za Zn),.cells (Za ({ ({ c with x0:=(Zb.mk a.Addr a.Addr) }:ZB) with x3:=a.Ports }:ZB))] (LeQ.start (LeQ.pk [4,5] 4 ?_))))
   have hr:=someb hF
   subst hr
   exact⟨rfl,by kernel_rfl,by kernel_rfl⟩
  ·refine AWP.skip (LeQ.start (LeQ.pk [4,5] 4 ?_))
   have hr:=someb hF
   subst hr
   exact⟨rfl,by kernel_rfl,by kernel_rfl⟩
 ·rintro _ _ _ ⟨rfl,rfl,rfl⟩
  refine AWP.seq (AWP.rg [] [(4,(.ptr 2 0))] [.cells (Zf a),.cells (Zk b),.cells (Za g),.cells (Za g)] (AWP.ret ?_))
  have hr:=someb hF
  subst hr
  exact(FnQ.f0 0 (.inr rfl))
def Zlp (r:Bool):PV→List Blk→Prop:=fun p K=>p=(vb r)∧K=[]
abbrev Zrz (r:Bool):Exit→St→List Blk→Prop:=FnQ Tryz.prog Tryz.f96.results 0 (Zlp r)
theorem Zd8 (a:ZB) (r:Bool) (hF:Zdq a=some r):ACall Tryz.prog glob 96 [(Z9 a)] [] (Zlp r):=by
 refine ACall.body Tryz.func96 rfl (by kernel_rfl) ?_
 unfold Zdq at hF
 refine AWP.seq (AWP.rg [] [(1,(.ptr 0 0))] [.cells (Za a)] (AWP.seq (AWP.seq (AWP.rg0 [] [(1,(.ptr 0 0)),(3,(i64 (0:Int)))] ?_))))
 obtain⟨i,m,hF⟩:=bindb hF
 refine AWP.mid (fun e st H=>(e=.normal∧i=(.inl ())∧st=[]∧H=[.cells (Za a)])∨(e=.ret∧∃ r,i=(.inr r)∧Zrz r e st H)) ?_ ?_
 ·clear hF
  refine AWP.kp [1,3] 1 ?_
  refine AWP.bround (fun n st H=>∃ b,Zaa a n b=some i∧st=[(1,(.ptr 0 0)),(3,(i64 b))]∧H=[.cells (Za a)]) fuel ⟨(0:Int),m,by kernel_rfl,by kernel_rfl⟩ ?_
  rintro j st H ⟨b,hF,rfl,rfl⟩
  cases j with
  | zero=>exact noneb hF
  | succ j=>
   rw [Zaa] at hF
   refine AWP.seq (AWP.seq (AWP.rg0 [] [(1,(.ptr 0 0)),(3,(i64 b)),(5,(vb (decide (b<(5:Int)))))] ?_))
   refine AWP.cif hF (fun o hF=>?_) (fun o hF=>?_)
   ·refine AWP.skip (AWP.seq (AWP.block (AWP.seq ?_)))
    obtain⟨d,hF⟩:=chkb hF
    obtain⟨f,hF⟩:=chkb hF
    obtain⟨p,g,hF⟩:=bindb hF
    replace g:=someb g
    obtain⟨q,k,hF⟩:=bindb hF
    refine AWP.to [(1,(.ptr 0 0)),(3,(i64 b)),(25,(vb q))] [.cells (Za a)] ?_ ?_
    ·cases p with
     | false=>
      have c:=ifF k rfl
      obtain⟨l,c⟩:=chkb c
      obtain⟨s,t,c⟩:=bindb c
      replace c:=someb c
      subst c
      exact AWP.drT [(1,.ixd d),(3,.ldA Zl (Arr5.get a) 0 2 0 d),(5,.ixd f),(7,.ldA Zl (Arr5.get a) 0 2 1 f),(9,.bool g),(11,.ixd l),(13,.ldA Zl (Arr5.get a) 0 2 1 l),(15,.call Tryz.func43 [] (Zhj b s t))] 18 [] [] []
     | true=>
      have u:=someb (ifT k rfl)
      subst u
      exact AWP.drT [(1,.ixd d),(3,.ldA Zl (Arr5.get a) 0 2 0 d),(5,.ixd f),(7,.ldA Zl (Arr5.get a) 0 2 1 f),(9,.bool g)] 18 [] [] []
    refine AWP.cif hF (fun v hF=>?_) (fun v hF=>?_)
    ·refine AWP.seq (AWP.rg0 [] [(2,(vb false))] (AWP.ret ?_))
     exact LeQ.of (.inr ⟨rfl,false,(someb hF).symm,(FnQ.f0 0 (.inr rfl))⟩)
    ·refine AWP.skip (AWP.rg0 [] [(1,(.ptr 0 0)),(3,(i64 (ZI (b + (1:Int)))))] (LeQ.start (LeQ.pk [1,3] 1 ?_)))
     exact⟨j,Nat.lt_succ_self _,(ZI (b + (1:Int))),hF,by kernel_rfl,by kernel_rfl⟩
   ·refine AWP.exit (LeQ.start (LeQ.pk [] 1 ?_))
    exact(.inl ⟨rfl,(someb hF).symm,by kernel_rfl,by kernel_rfl⟩)
 ·rintro _ _ _ (⟨rfl,rfl,rfl,rfl⟩ | ⟨rfl,w,rfl,hq⟩)
  ·refine AWP.seq (AWP.rg0 [] [(2,(vb true))] (AWP.ret ?_))
   have hr:=someb hF
   subst hr
   exact(FnQ.f0 0 (.inr rfl))
  ·have hr:=someb hF
   subst hr
   exact hq
def Zkb (r:Bool):PV→List Blk→Prop:=fun p K=>p=(vb r)∧K=[]
abbrev Zon (r:Bool):Exit→St→List Blk→Prop:=FnQ Tryz.prog Tryz.f78.results 0 (Zkb r)
theorem Zoo (a:ZB) (c:Zo) (r:Bool) (hF:Zfn a c=some r):ACall Tryz.prog glob 78 [(Z9 a),(Zcc c)] [] (Zkb r):=by
 refine ACall.body Tryz.func78 rfl (by kernel_rfl) ?_
 unfold Zfn at hF
 refine AWP.seq (AWP.rg [] [(2,(.ptr 0 0)),(3,(.ptr 1 0))] [.cells (Za a),.cells (Zk c)] (AWP.seq ?_))
 obtain⟨b,s,hF⟩:=bindb hF
 refine AWP.rg [(1,.call Tryz.func73 [] (Zlo c b s))] [(2,(.ptr 0 0)),(5,(.ptr 2 0))] [.cells (Za a),.cells (Zk c),.cells (Za4 b)] (AWP.seq (AWP.seq (AWP.rg0 [] [(2,(.ptr 0 0)),(5,(.ptr 2 0)),(6,(i64 (0:Int)))] ?_)))
 obtain⟨k,t,hF⟩:=bindb hF
 refine AWP.mid (fun e st H=>(e=.normal∧k=(.inl ())∧st=[(2,(.ptr 0 0))]∧H=[.cells (Za a),.cells (Zk c),.cells (Za4 b)])∨(e=.ret∧∃ r,k=(.inr r)∧Zon r e st H)) ?_ ?_
 ·clear hF
  refine AWP.kp [2,5,6] 3 ?_
  refine AWP.bround (fun n st H=>∃ d,Zci a b n d=some k∧st=[(2,(.ptr 0 0)),(5,(.ptr 2 0)),(6,(i64 d))]∧H=[.cells (Za a),.cells (Zk c),.cells (Za4 b)]) fuel ⟨(0:Int),t,by kernel_rfl,by kernel_rfl⟩ ?_
  rintro l st H ⟨d,hF,rfl,rfl⟩
  cases l with
  | zero=>exact noneb hF
  | succ l=>
   rw [Zci] at hF
   refine AWP.seq (AWP.seq (AWP.rg0 [] [(2,(.ptr 0 0)),(5,(.ptr 2 0)),(6,(i64 d)),(10,(vb (decide (d<(5:Int)))))] ?_))
   refine AWP.cif hF (fun u hF=>?_) (fun u hF=>?_)
   ·refine AWP.skip (AWP.seq (AWP.block (AWP.seq ?_)))
    obtain⟨g,hF⟩:=chkb hF
    obtain⟨i,hF⟩:=chkb hF
    obtain⟨v,j,hF⟩:=bindb hF
    replace j:=someb j
    obtain⟨w,m,hF⟩:=bindb hF
    refine AWP.to [(2,(.ptr 0 0)),(5,(.ptr 2 0)),(6,(i64 d)),(30,(vb w))] [.cells (Za a),.cells (Zk c),.cells (Za4 b)] ?_ ?_
    ·cases v with
     | false=>
      have f:=ifF m rfl
      obtain⟨o,f⟩:=chkb f
      obtain⟨p,f⟩:=chkb f
      replace f:=someb f
      subst f
      exact AWP.drT [(1,.ixd g),(2,.ldA Zdd (Arr5.get b) 0 1 0 g),(4,.ixd i),(6,.ldA Zl (Arr5.get a) 0 2 0 i),(8,.bool j),(10,.ixd o),(11,.ldA Zdd (Arr5.get b) 0 1 0 o),(13,.ixd p),(15,.ldA Zl (Arr5.get a) 0 2 1 p)] 18 [] [] []
     | true=>
      have x:=someb (ifT m rfl)
      subst x
      exact AWP.drT [(1,.ixd g),(2,.ldA Zdd (Arr5.get b) 0 1 0 g),(4,.ixd i),(6,.ldA Zl (Arr5.get a) 0 2 0 i),(8,.bool j)] 18 [] [] []
    refine AWP.cif hF (fun y hF=>?_) (fun y hF=>?_)
    ·refine AWP.seq (AWP.rg0 [] [(4,(vb false))] (AWP.ret ?_))
     exact LeQ.of (.inr ⟨rfl,false,(someb hF).symm,(FnQ.f0 0 (.inr rfl))⟩)
    ·refine AWP.skip (AWP.rg0 [] [(2,(.ptr 0 0)),(5,(.ptr 2 0)),(6,(i64 (ZI (d + (1:Int)))))] (LeQ.start (LeQ.pk [2,5,6] 3 ?_)))
     exact⟨l,Nat.lt_succ_self _,(ZI (d + (1:Int))),hF,by kernel_rfl,by kernel_rfl⟩
   ·refine AWP.exit (LeQ.start (LeQ.pk [2] 3 ?_))
    exact(.inl ⟨rfl,(someb hF).symm,by kernel_rfl,by kernel_rfl⟩)
 ·rintro _ _ _ (⟨rfl,rfl,rfl,rfl⟩ | ⟨rfl,a0,rfl,hq⟩)
  ·refine AWP.seq ?_
   obtain⟨q,z,hF⟩:=bindb hF
   refine AWP.rg0 [(1,.call Tryz.func96 [] (Zd8 a q z))] [(4,(vb q))] (AWP.ret ?_)
   have hr:=someb hF
   subst hr
   exact(FnQ.f0 0 (.inr rfl))
  ·have hr:=someb hF
   subst hr
   exact hq
def Zkc (r:Bool):PV→List Blk→Prop:=fun p K=>p=(vb r)∧K=[]
abbrev Zop (r:Bool):Exit→St→List Blk→Prop:=FnQ Tryz.prog Tryz.f29.results 0 (Zkc r)
theorem Zft (a:ZL) (b:Zo) (r:Bool) (hF:Zep a b=some r):ACall Tryz.prog glob 29 [(slc 10 Za a),(Zcc b)] [] (Zkc r):=by
 refine ACall.body Tryz.func29 rfl (by kernel_rfl) ?_
 unfold Zep at hF
 refine AWP.seq (AWP.rg [] [(0,(slc 10 Za a)),(3,(.ptr 0 0))] [.cells (Zk b)] (AWP.seq (AWP.seq (AWP.rg0 [] [(0,(slc 10 Za a)),(3,(.ptr 0 0)),(5,(i64 (0:Int)))] ?_))))
 obtain⟨d,i,hF⟩:=bindb hF
 refine AWP.mid (fun e st H=>(e=.normal∧d=(.inl ())∧st=[]∧H=[.cells (Zk b)])∨(e=.ret∧∃ r,d=(.inr r)∧Zop r e st H)) ?_ ?_
 ·clear hF
  refine AWP.kp [0,3,5] 1 ?_
  refine AWP.bround (fun n st H=>∃ c,Zc3 a b n c=some d∧st=[(0,(slc 10 Za a)),(3,(.ptr 0 0)),(5,(i64 c))]∧H=[.cells (Zk b)]) fuel ⟨(0:Int),i,by kernel_rfl,by kernel_rfl⟩ ?_
  rintro f st H ⟨c,hF,rfl,rfl⟩
  cases f with
  | zero=>exact noneb hF
  | succ f=>
   rw [Zc3] at hF
   refine AWP.seq (AWP.seq (AWP.rg0 [(2,.len Za a)] [(0,(slc 10 Za a)),(3,(.ptr 0 0)),(5,(i64 c)),(9,(vb (decide (c<(List.length a:Int)))))] ?_))
   refine AWP.cif hF (fun j hF=>?_) (fun j hF=>?_)
   ·refine AWP.skip (AWP.seq (AWP.block (AWP.seq ?_)))
    obtain⟨k,l,hF⟩:=bindb hF
    obtain⟨g,m,hF⟩:=bindb hF
    refine AWP.dr [(2,.idx Za l),(5,.call Tryz.func78 [] (Zoo k b g m))] 6 [] [] [] [(0,(slc 10 Za a)),(3,(.ptr 0 0)),(5,(i64 c)),(17,(vb g))] [.cells (Zk b)] ?_
    refine AWP.cif hF (fun o hF=>?_) (fun o hF=>?_)
    ·refine AWP.seq (AWP.rg0 [] [(4,(vb true))] (AWP.ret ?_))
     exact LeQ.of (.inr ⟨rfl,true,(someb hF).symm,(FnQ.f0 0 (.inr rfl))⟩)
    ·refine AWP.skip (AWP.rg0 [] [(0,(slc 10 Za a)),(3,(.ptr 0 0)),(5,(i64 (ZI (c + (1:Int)))))] (LeQ.start (LeQ.pk [0,3,5] 1 ?_)))
     exact⟨f,Nat.lt_succ_self _,(ZI (c + (1:Int))),hF,by kernel_rfl,by kernel_rfl⟩
   ·refine AWP.exit (LeQ.start (LeQ.pk [] 1 ?_))
    exact(.inl ⟨rfl,(someb hF).symm,by kernel_rfl,by kernel_rfl⟩)
 ·rintro _ _ _ (⟨rfl,rfl,rfl,rfl⟩ | ⟨rfl,p,rfl,hq⟩)
  ·refine AWP.seq (AWP.rg0 [] [(4,(vb false))] (AWP.ret ?_))
   have hr:=someb hF
   subst hr
   exact(FnQ.f0 0 (.inr rfl))
  ·have hr:=someb hF
   subst hr
   exact hq
def Zr0 (r:ZL):PV→List Blk→Prop:=fun p K=>p=(slc 10 Za r)∧K=[]
theorem Zlq (a:ZL) (r:ZL) (hF:Zfz a=some r):ACall Tryz.prog glob 61 [(slc 10 Za a)] [] (Zr0 r):=by
 refine ACall.body Tryz.func61 rfl (by kernel_rfl) ?_
 unfold Zfz at hF
 refine AWP.seq (AWP.rg0 [] [(0,(slc 10 Za a))] (AWP.seq (AWP.rg0 [] [(0,(slc 10 Za a)),(3,nils)] ?_)))
 refine AWP.own (H':=[bf 10 57 Za ([]:ZL) false]) (st':=[(3,(.own 0 (List.length ([]:ZL)))),(0,(slc 10 Za a))]) 3 10 57 (by kernel_rfl) (by kernel_rfl) (by kernel_rfl) ?_
 refine AWP.pick (st':=[(0,(slc 10 Za a)),(3,(.own 0 (List.length ([]:ZL))))]) (ks:=[0,3]) (by kernel_rfl) ?_
 refine AWP.seq (AWP.seq (AWP.rg0 [] [(0,(slc 10 Za a)),(3,(.own 0 (List.length ([]:ZL)))),(4,(i64 (0:Int)))] ?_))
 obtain⟨d,m,hF⟩:=bindb hF
 refine AWP.mid (fun e st H=>e=.normal∧st=[(3,(.own 0 (List.length d)))]∧H=[bf 10 57 Za d false]) ?_ ?_
 ·clear hF
  refine AWP.kp [0,3,4] 1 ?_
  refine AWP.bround (fun n st H=>∃ c,∃ b,Zdy a n c b=some d∧st=[(0,(slc 10 Za a)),(3,(.own 0 (List.length c))),(4,(i64 b))]∧H=[bf 10 57 Za c false]) fuel ⟨([]:ZL),(0:Int),m,by kernel_rfl,by kernel_rfl⟩ ?_
  rintro g st H ⟨c,b,hF,rfl,rfl⟩
  cases g with
  | zero=>exact noneb hF
  | succ g=>
   rw [Zdy] at hF
   refine AWP.seq (AWP.seq (AWP.rg0 [(2,.len Za a)] [(0,(slc 10 Za a)),(3,(.own 0 (List.length c))),(4,(i64 b)),(8,(vb (decide (b<(List.length a:Int)))))] ?_))
   refine AWP.cif hF (fun o hF=>?_) (fun o hF=>?_)
   ·refine AWP.skip ?_
    obtain⟨f,p,hF⟩:=bindb hF
    refine AWP.seq ?_
    refine AWP.mid (fun e st H=>e=.normal∧st=[(0,(slc 10 Za a)),(3,(.own 0 (List.length f))),(4,(i64 b))]∧H=[bf 10 57 Za f false]) ?_ ?_
    ·clear hF
     have hF:=p
     refine AWP.block (AWP.seq ?_)
     obtain⟨q,u,hF⟩:=bindb hF
     obtain⟨j,v,hF⟩:=bindb hF
     refine AWP.rg0 [(2,.idx Za u),(4,.call Tryz.func96 [] (Zd8 q j v))] [(0,(slc 10 Za a)),(3,(.own 0 (List.length c))),(4,(i64 b)),(15,(vb j))] ?_
     refine AWP.cif hF (fun w hF=>?_) (fun w hF=>?_)
     ·obtain⟨k,x,hF⟩:=bindb hF
      obtain⟨y,hF⟩:=chkb hF
      refine AWP.rg [(3,.idx Za x),(6,.app Za (fun _=>by kernel_rfl) y)] [(0,(slc 10 Za a)),(3,(.own 0 (List.length (c++[k])))),(4,(i64 b))] [bf 10 57 Za (c++[k]) false] (LeQ.start (LeQ.pk [0,3,4] 1 ?_))
      have hr:=someb hF
      subst hr
      exact⟨rfl,by kernel_rfl,by kernel_rfl⟩
     ·refine AWP.skip (LeQ.start (LeQ.pk [0,3,4] 1 ?_))
      have hr:=someb hF
      subst hr
      exact⟨rfl,by kernel_rfl,by kernel_rfl⟩
    ·rintro _ _ _ ⟨rfl,rfl,rfl⟩
     refine AWP.rg0 [] [(0,(slc 10 Za a)),(3,(.own 0 (List.length f))),(4,(i64 (ZI (b + (1:Int)))))] (LeQ.start (LeQ.pk [0,3,4] 1 ?_))
     exact⟨g,Nat.lt_succ_self _,f,(ZI (b + (1:Int))),hF,by kernel_rfl,by kernel_rfl⟩
   ·refine AWP.exit (LeQ.start (LeQ.pk [3] 1 ?_))
    have hr:=someb hF
    subst hr
    exact⟨rfl,by kernel_rfl,by kernel_rfl⟩
 ·rintro _ _ _ ⟨rfl,rfl,rfl⟩
  refine AWP.seq (AWP.rg0 [] [(2,(.own 0 (List.length d)))] (AWP.ret ?_))
  have hr:=someb hF
  subst hr
  exact(FnQ.f1 0 (.inr rfl) (.inl (Wk.ownT (i:=0) (s:=10) (t:=57) (l:=d) (sh:=false) (row:=Za) (by kernel_rfl) (.inl rfl))))
def Zr1 (r:Bool):PV→List Blk→Prop:=fun p K=>p=(vb r)∧K=[]
theorem Zr2 (b:Int) (c:Bool) (a:Bool) (r:Bool) (hF:Zgv b c a=some r):ACall Tryz.prog glob 106 [(i64 b),(vb c),(vb a)] [] (Zr1 r):=by
 refine ACall.body Tryz.func106 rfl (by kernel_rfl) ?_
 unfold Zgv at hF
 refine AWP.seq (AWP.rg0 [] [(0,(i64 b)),(1,(vb c)),(2,(vb a))] (AWP.seq (AWP.seq (AWP.rg0 [] [(1,(vb c)),(2,(vb a)),(7,(i64 b))] (AWP.block (AWP.seq ?_))))))
 refine AWP.rg0 [] [(1,(vb c)),(2,(vb a)),(7,(i64 b)),(8,(vb (b == (0:Int))))] ?_
 refine AWP.cif hF (fun l hF=>?_) (fun l hF=>?_)
 ·refine AWP.seq ?_
  obtain⟨i,d,hF⟩:=bindb hF
  replace d:=someb d
  refine AWP.to [(6,(vb (i || a)))] [] ?_ ?_
  ·cases i with
   | false=>
    exact AWP.rgT [(1,.bool d)]
   | true=>
    exact AWP.rgT [(1,.bool d)]
  refine AWP.ret ?_
  have hr:=someb hF
  subst hr
  exact(FnQ.f0 0 (.inr rfl))
 ·refine AWP.seq (AWP.rg0 [] [(1,(vb c)),(2,(vb a)),(7,(i64 b)),(14,(vb (b == (1:Int))))] ?_)
  refine AWP.cif hF (fun m hF=>?_) (fun m hF=>?_)
  ·refine AWP.seq ?_
   obtain⟨j,f,hF⟩:=bindb hF
   replace f:=someb f
   refine AWP.to [(6,(vb (j && a)))] [] ?_ ?_
   ·cases j with
    | false=>
     exact AWP.rgT [(1,.bool f)]
    | true=>
     exact AWP.rgT [(1,.bool f)]
   refine AWP.ret ?_
   have hr:=someb hF
   subst hr
   exact(FnQ.f0 0 (.inr rfl))
  ·refine AWP.seq (AWP.rg0 [] [(1,(vb c)),(2,(vb a)),(20,(vb (b == (2:Int))))] ?_)
   refine AWP.cif hF (fun n hF=>?_) (fun n hF=>?_)
   ·refine AWP.seq ?_
    obtain⟨k,g,hF⟩:=bindb hF
    replace g:=someb g
    refine AWP.to [(6,(vb (k && (!a))))] [] ?_ ?_
    ·cases k with
     | false=>
      exact AWP.rgT [(1,.bool g)]
     | true=>
      exact AWP.rgT [(1,.bool g)]
    refine AWP.ret ?_
    have hr:=someb hF
    subst hr
    exact(FnQ.f0 0 (.inr rfl))
   ·refine AWP.skip (AWP.seq (AWP.rg0 [] [(6,(vb (!(c == a))))] (AWP.ret ?_)))
    have hr:=someb hF
    subst hr
    exact(FnQ.f0 0 (.inr rfl))
def Zss (r:Bool):PV→List Blk→Prop:=fun p K=>p=(vb r)∧K=[]
theorem Zst (b:Int) (c:Bool) (a:Bool) (r:Bool) (hF:Zhb b c a=some r):ACall Tryz.prog glob 107 [(i64 b),(vb c),(vb a)] [] (Zss r):=by
 refine ACall.body Tryz.func107 rfl (by kernel_rfl) ?_
 unfold Zhb at hF
 refine AWP.seq (AWP.rg0 [] [(0,(i64 b)),(1,(vb c)),(2,(vb a))] (AWP.seq (AWP.seq (AWP.rg0 [] [(1,(vb c)),(2,(vb a)),(7,(i64 b))] (AWP.block (AWP.seq ?_))))))
 refine AWP.rg0 [] [(1,(vb c)),(2,(vb a)),(7,(i64 b)),(8,(vb (b == (1:Int))))] ?_
 refine AWP.cif hF (fun j hF=>?_) (fun j hF=>?_)
 ·refine AWP.seq ?_
  obtain⟨g,d,hF⟩:=bindb hF
  replace d:=someb d
  refine AWP.to [(6,(vb (g || (!a))))] [] ?_ ?_
  ·cases g with
   | false=>
    exact AWP.rgT [(2,.bool d)]
   | true=>
    exact AWP.rgT [(2,.bool d)]
  refine AWP.ret ?_
  have hr:=someb hF
  subst hr
  exact(FnQ.f0 0 (.inr rfl))
 ·refine AWP.seq (AWP.rg0 [] [(1,(vb c)),(2,(vb a)),(16,(vb (b == (2:Int))))] ?_)
  refine AWP.cif hF (fun k hF=>?_) (fun k hF=>?_)
  ·refine AWP.seq (AWP.rg0 [] [(6,(vb (!c)))] (AWP.ret ?_))
   have hr:=someb hF
   subst hr
   exact(FnQ.f0 0 (.inr rfl))
  ·refine AWP.skip (AWP.seq ?_)
   obtain⟨i,f,hF⟩:=bindb hF
   replace f:=someb f
   refine AWP.to [(6,(vb (i && (!a))))] [] ?_ ?_
   ·cases i with
    | false=>
     exact AWP.rgT [(2,.bool f)]
    | true=>
     exact AWP.rgT [(2,.bool f)]
   refine AWP.ret ?_
   have hr:=someb hF
   subst hr
   exact(FnQ.f0 0 (.inr rfl))
def Zqq (r:(List Zb)):PV→List Blk→Prop:=fun p K=>p=(slc 2 Zl r)∧K=[]
theorem Zqr (c:ZL) (b:ZL) (a:Int) (r:(List Zb)) (hF:Zgg c b a=some r):ACall Tryz.prog glob 109 [(slc 10 Za c),(slc 10 Za b),(i64 a)] [] (Zqq r):=by
 refine ACall.body Tryz.func109 rfl (by kernel_rfl) ?_
 unfold Zgg at hF
 refine AWP.seq (AWP.rg0 [] [(0,(slc 10 Za c)),(1,(slc 10 Za b)),(2,(i64 a))] (AWP.seq (AWP.rg0 [] [(0,(slc 10 Za c)),(1,(slc 10 Za b)),(2,(i64 a)),(7,nils)] ?_)))
 refine AWP.own (H':=[bf 2 55 Zl ([]:(List Zb)) false]) (st':=[(7,(.own 0 (List.length ([]:(List Zb))))),(0,(slc 10 Za c)),(1,(slc 10 Za b)),(2,(i64 a))]) 7 2 55 (by kernel_rfl) (by kernel_rfl) (by kernel_rfl) ?_
 refine AWP.pick (st':=[(0,(slc 10 Za c)),(1,(slc 10 Za b)),(2,(i64 a)),(7,(.own 0 (List.length ([]:(List Zb)))))]) (ks:=[0,1,2,7]) (by kernel_rfl) ?_
 refine AWP.seq (AWP.seq (AWP.rg0 [] [(0,(slc 10 Za c)),(1,(slc 10 Za b)),(2,(i64 a)),(7,(.own 0 (List.length ([]:(List Zb))))),(8,(i64 (0:Int)))] ?_))
 obtain⟨k,x,hF⟩:=bindb hF
 refine AWP.mid (fun e st H=>e=.normal∧st=[(1,(slc 10 Za b)),(2,(i64 a)),(7,(.own 0 (List.length k)))]∧H=[bf 2 55 Zl k false]) ?_ ?_
 ·clear hF
  refine AWP.kp [0,1,2,7,8] 1 ?_
  refine AWP.bround (fun n st H=>∃ d,∃ g,Zdj c a n d g=some k∧st=[(0,(slc 10 Za c)),(1,(slc 10 Za b)),(2,(i64 a)),(7,(.own 0 (List.length d))),(8,(i64 g))]∧H=[bf 2 55 Zl d false]) fuel ⟨([]:(List Zb)),(0:Int),x,by kernel_rfl,by kernel_rfl⟩ ?_
  rintro q st H ⟨d,g,hF,rfl,rfl⟩
  cases q with
  | zero=>exact noneb hF
  | succ q=>
   rw [Zdj] at hF
   refine AWP.seq (AWP.seq (AWP.rg0 [(2,.len Za c)] [(0,(slc 10 Za c)),(1,(slc 10 Za b)),(2,(i64 a)),(7,(.own 0 (List.length d))),(8,(i64 g)),(13,(vb (decide (g<(List.length c:Int)))))] ?_))
   refine AWP.cif hF (fun y hF=>?_) (fun y hF=>?_)
   ·refine AWP.skip (AWP.seq (AWP.block ?_))
    obtain⟨m,z,hF⟩:=bindb hF
    obtain⟨v,hF⟩:=chkb hF
    obtain⟨a0,hF⟩:=chkb hF
    refine AWP.rg [(4,.idx Za z),(5,.ixd v),(6,.ldA Zl (Arr5.get m) 0 2 0 v),(8,.app Zl (fun _=>by kernel_rfl) a0)] [(0,(slc 10 Za c)),(1,(slc 10 Za b)),(2,(i64 a)),(7,(.own 0 (List.length (d++[(Arr5.get m a)])))),(8,(i64 g))] [bf 2 55 Zl (d++[(Arr5.get m a)]) false] (AWP.rg0 [] [(0,(slc 10 Za c)),(1,(slc 10 Za b)),(2,(i64 a)),(7,(.own 0 (List.length (d++[(Arr5.get m a)])))),(8,(i64 (ZI (g + (1:Int)))))] (LeQ.start (LeQ.pk [0,1,2,7,8] 1 ?_)))
    exact⟨q,Nat.lt_succ_self _,(d++[(Arr5.get m a)]),(ZI (g + (1:Int))),hF,by kernel_rfl,by kernel_rfl⟩
   ·refine AWP.exit (LeQ.start (LeQ.pk [1,2,7] 1 ?_))
    have hr:=someb hF
    subst hr
    exact⟨rfl,by kernel_rfl,by kernel_rfl⟩
 ·rintro _ _ _ ⟨rfl,rfl,rfl⟩
  refine AWP.seq (AWP.seq (AWP.rg0 [] [(1,(slc 10 Za b)),(2,(i64 a)),(7,(.own 0 (List.length k))),(9,(i64 (0:Int)))] ?_))
  obtain⟨o,a1,hF⟩:=bindb hF
  refine AWP.mid (fun e st H=>e=.normal∧st=[(7,(.own 0 (List.length o)))]∧H=[bf 2 55 Zl o false]) ?_ ?_
  ·clear hF
   refine AWP.kp [1,2,7,9] 1 ?_
   refine AWP.bround (fun n st H=>∃ f,∃ j,Zdk b a n f j=some o∧st=[(1,(slc 10 Za b)),(2,(i64 a)),(7,(.own 0 (List.length f))),(9,(i64 j))]∧H=[bf 2 55 Zl f false]) fuel ⟨k,(0:Int),a1,by kernel_rfl,by kernel_rfl⟩ ?_
   rintro u st H ⟨f,j,hF,rfl,rfl⟩
   cases u with
   | zero=>exact noneb hF
   | succ u=>
    rw [Zdk] at hF
    refine AWP.seq (AWP.seq (AWP.rg0 [(2,.len Za b)] [(1,(slc 10 Za b)),(2,(i64 a)),(7,(.own 0 (List.length f))),(9,(i64 j)),(28,(vb (decide (j<(List.length b:Int)))))] ?_))
    refine AWP.cif hF (fun a2 hF=>?_) (fun a2 hF=>?_)
    ·refine AWP.skip (AWP.seq (AWP.block ?_))
     obtain⟨p,a3,hF⟩:=bindb hF
     obtain⟨w,hF⟩:=chkb hF
     obtain⟨a4,hF⟩:=chkb hF
     refine AWP.rg [(4,.idx Za a3),(5,.ixd w),(6,.ldA Zl (Arr5.get p) 0 2 0 w),(8,.app Zl (fun _=>by kernel_rfl) a4)] [(1,(slc 10 Za b)),(2,(i64 a)),(7,(.own 0 (List.length (f++[(Arr5.get p a)])))),(9,(i64 j))] [bf 2 55 Zl (f++[(Arr5.get p a)]) false] (AWP.rg0 [] [(1,(slc 10 Za b)),(2,(i64 a)),(7,(.own 0 (List.length (f++[(Arr5.get p a)])))),(9,(i64 (ZI (j + (1:Int)))))] (LeQ.start (LeQ.pk [1,2,7,9] 1 ?_)))
     exact⟨u,Nat.lt_succ_self _,(f++[(Arr5.get p a)]),(ZI (j + (1:Int))),hF,by kernel_rfl,by kernel_rfl⟩
    ·refine AWP.exit (LeQ.start (LeQ.pk [7] 1 ?_))
     have hr:=someb hF
     subst hr
     exact⟨rfl,by kernel_rfl,by kernel_rfl⟩
  ·rintro _ _ _ ⟨rfl,rfl,rfl⟩
   refine AWP.seq (AWP.rg0 [] [(6,(.own 0 (List.length o)))] (AWP.ret ?_))
   have hr:=someb hF
   subst hr
   exact(FnQ.f1 0 (.inr rfl) (.inl (Wk.ownT (i:=0) (s:=2) (t:=55) (l:=o) (sh:=false) (row:=Zl) (by kernel_rfl) (.inl rfl))))
def Zqs (r:(List Int)):PV→List Blk→Prop:=fun p K=>p=(slc 1 Zc r)∧K=[]
theorem Zk6 (a:(List Int)) (b:Int) (j:Int) (r:(List Int)) (hF:Zfg a b j=some r):ACall Tryz.prog glob 136 [(slc 1 Zc a),(u64 b),(u32 j)] [] (Zqs r):=by
 refine ACall.body Tryz.func136 rfl (by kernel_rfl) ?_
 unfold Zfg at hF
 refine AWP.seq (AWP.rg0 [] [(0,(slc 1 Zc a)),(1,(u64 b)),(2,(u32 j))] (AWP.seq (AWP.seq (AWP.rg0 [] [(0,(slc 1 Zc a)),(1,(u64 b)),(11,(vb (decide (b > (IntKind.wrap .u64 j)))))] ?_))))
 refine AWP.cif hF (fun v hF=>?_) (fun v hF=>?_)
 ·refine AWP.seq (AWP.rg0 [] [(6,(slc 1 Zc a))] (AWP.ret ?_))
  have hr:=someb hF
  subst hr
  exact(FnQ.f0 0 (.inr rfl))
 ·refine AWP.skip (AWP.seq (AWP.rg0 [] [(0,(slc 1 Zc a)),(1,(u64 b)),(7,(i64 (0:Int)))] (AWP.seq ?_)))
  obtain⟨c,w,hF⟩:=bindb hF
  refine AWP.mid (fun e st H=>e=.normal∧st=[(0,(slc 1 Zc a)),(1,(u64 b)),(7,(i64 c))]∧H=[]) ?_ ?_
  ·clear hF
   refine AWP.kp [0,1,7] 0 ?_
   refine AWP.bround (fun n st H=>∃ d,Zdl a b n d=some c∧st=[(0,(slc 1 Zc a)),(1,(u64 b)),(7,(i64 d))]∧H=[]) fuel ⟨(0:Int),w,by kernel_rfl,by kernel_rfl⟩ ?_
   rintro p st H ⟨d,hF,rfl,rfl⟩
   cases p with
   | zero=>exact noneb hF
   | succ p=>
    rw [Zdl] at hF
    refine AWP.seq (AWP.seq ?_)
    obtain⟨x,k,hF⟩:=bindb hF
    replace k:=someb k
    obtain⟨y,q,hF⟩:=bindb hF
    refine AWP.to [(0,(slc 1 Zc a)),(1,(u64 b)),(7,(i64 d)),(24,(vb y))] [] ?_ ?_
    ·cases x with
     | false=>
      have z:=someb (ifF q rfl)
      subst z
      exact AWP.rgT [(2,.len Zc a),(4,.bool k)]
     | true=>
      have f:=ifT q rfl
      obtain⟨b2,a0,f⟩:=bindb f
      replace f:=someb f
      subst f
      exact AWP.rgT [(2,.len Zc a),(4,.bool k),(7,.idx Zc a0)]
    refine AWP.cif hF (fun a1 hF=>?_) (fun a1 hF=>?_)
    ·refine AWP.skip (AWP.block (AWP.rg0 [] [(0,(slc 1 Zc a)),(1,(u64 b)),(7,(i64 (ZI (d + (1:Int)))))] (LeQ.start (LeQ.pk [0,1,7] 0 ?_))))
     exact⟨p,Nat.lt_succ_self _,(ZI (d + (1:Int))),hF,by kernel_rfl,by kernel_rfl⟩
    ·refine AWP.exit (LeQ.start (LeQ.pk [0,1,7] 0 ?_))
     have hr:=someb hF
     subst hr
     exact⟨rfl,by kernel_rfl,by kernel_rfl⟩
  ·rintro _ _ _ ⟨rfl,rfl,rfl⟩
   refine AWP.seq (AWP.seq ?_)
   obtain⟨a2,o,hF⟩:=bindb hF
   replace o:=someb o
   obtain⟨a3,u,hF⟩:=bindb hF
   refine AWP.to [(0,(slc 1 Zc a)),(1,(u64 b)),(7,(i64 c)),(38,(vb a3))] [] ?_ ?_
   ·cases a2 with
    | false=>
     have a4:=someb (ifF u rfl)
     subst a4
     exact AWP.rgT [(2,.len Zc a),(4,.bool o)]
    | true=>
     have g:=ifT u rfl
     obtain⟨b3,a5,g⟩:=bindb g
     replace g:=someb g
     subst g
     exact AWP.rgT [(2,.len Zc a),(4,.bool o),(7,.idx Zc a5)]
   refine AWP.cif hF (fun a6 hF=>?_) (fun a6 hF=>?_)
   ·refine AWP.seq (AWP.rg0 [] [(6,(slc 1 Zc a))] (AWP.ret ?_))
    have hr:=someb hF
    subst hr
    exact(FnQ.f0 0 (.inr rfl))
   ·refine AWP.skip (AWP.seq ?_)
    obtain⟨a7,hF⟩:=chkb hF
    obtain⟨a8,hF⟩:=chkb hF
    obtain⟨a9,hF⟩:=chkb hF
    obtain⟨b0,hF⟩:=chkb hF
    obtain⟨b1,hF⟩:=chkb hF
    refine AWP.dr [(0,.m),(3,.slice Zc a a7),(4,.app Zc (fun _=>by kernel_rfl) a8),(7,.app Zc (fun _=>by kernel_rfl) a9),(10,.slice Zc a b0),(11,.app Zc (fun _=>by kernel_rfl) b1)] 12 [] [0,4,7,11] [] [(6,(.own 0 (List.length (((([]:(List Int))++(List.drop (Int.toNat (0:Int)) (List.take (Int.toNat c) a)))++[b])++(List.drop (Int.toNat c) (List.take (Int.toNat (List.length a:Int)) a))))))] [bf 1 134 Zc (((([]:(List Int))++(List.drop (Int.toNat (0:Int)) (List.take (Int.toNat c) a)))++[b])++(List.drop (Int.toNat c) (List.take (Int.toNat (List.length a:Int)) a))) false] (AWP.ret ?_)
    have hr:=someb hF
    subst hr
    exact(FnQ.f1 0 (.inr rfl) (.inl (Wk.ownT (i:=0) (s:=1) (t:=134) (l:=(((([]:(List Int))++(List.drop (Int.toNat (0:Int)) (List.take (Int.toNat c) a)))++[b])++(List.drop (Int.toNat c) (List.take (Int.toNat (List.length a:Int)) a)))) (sh:=false) (row:=Zc) (by kernel_rfl) (.inl rfl))))
def Zqt (r:(List Int)):PV→List Blk→Prop:=fun p K=>p=(slc 1 Zc r)∧K=[]
theorem Zqu (a:(List Zb)) (b:Int) (r:(List Int)) (hF:Zgh a b=some r):ACall Tryz.prog glob 108 [(slc 2 Zl a),(u32 b)] [] (Zqt r):=by
 refine ACall.body Tryz.func108 rfl (by kernel_rfl) ?_
 unfold Zgh at hF
 refine AWP.seq (AWP.rg0 [] [(0,(slc 2 Zl a)),(1,(u32 b))] (AWP.seq (AWP.rg0 [] [(0,(slc 2 Zl a)),(1,(u32 b)),(5,(slc 1 Zc [(0:Int)]))] (AWP.seq (AWP.seq (AWP.rg0 [] [(0,(slc 2 Zl a)),(1,(u32 b)),(5,(slc 1 Zc [(0:Int)])),(6,(i64 (0:Int)))] ?_))))))
 obtain⟨f,l,hF⟩:=bindb hF
 refine AWP.mid (fun e st H=>e=.normal∧st=[(5,(slc 1 Zc f))]∧H=[]) ?_ ?_
 ·clear hF
  refine AWP.kp [0,1,5,6] 0 ?_
  refine AWP.bround (fun n st H=>∃ d,∃ c,Zdm a b n d c=some f∧st=[(0,(slc 2 Zl a)),(1,(u32 b)),(5,(slc 1 Zc d)),(6,(i64 c))]∧H=[]) fuel ⟨[(0:Int)],(0:Int),l,by kernel_rfl,by kernel_rfl⟩ ?_
  rintro g st H ⟨d,c,hF,rfl,rfl⟩
  cases g with
  | zero=>exact noneb hF
  | succ g=>
   rw [Zdm] at hF
   refine AWP.seq (AWP.seq (AWP.rg0 [(2,.len Zl a)] [(0,(slc 2 Zl a)),(1,(u32 b)),(5,(slc 1 Zc d)),(6,(i64 c)),(11,(vb (decide (c<(List.length a:Int)))))] ?_))
   refine AWP.cif hF (fun m hF=>?_) (fun m hF=>?_)
   ·refine AWP.skip ?_
    obtain⟨i,o,hF⟩:=bindb hF
    refine AWP.seq ?_
    refine AWP.mid (fun e st H=>e=.normal∧st=[(0,(slc 2 Zl a)),(1,(u32 b)),(5,(slc 1 Zc i)),(6,(i64 c))]∧H=[]) ?_ ?_
    ·clear hF
     have hF:=o
     refine AWP.block (AWP.seq ?_)
     obtain⟨p,q,hF⟩:=bindb hF
     obtain⟨s,t,hF⟩:=bindb hF
     refine AWP.dr [(2,.idx Zl q),(7,.idx Zl t)] 11 [] [] [] [(0,(slc 2 Zl a)),(1,(u32 b)),(5,(slc 1 Zc d)),(6,(i64 c)),(24,(vb (decide (p.Lo≤s.Hi))))] [] ?_
     refine AWP.cif hF (fun u hF=>?_) (fun u hF=>?_)
     ·obtain⟨v,w,hF⟩:=bindb hF
      obtain⟨j,x,hF⟩:=bindb hF
      obtain⟨y,z,hF⟩:=bindb hF
      obtain⟨k,a0,hF⟩:=bindb hF
      refine AWP.dr [(3,.idx Zl w),(8,.call Tryz.func136 [] (Zk6 d (IntKind.wrap .u64 v.Lo) b j x)),(11,.idx Zl z),(17,.call Tryz.func136 [] (Zk6 j (IntKind.wrap .u64 ((IntKind.wrap .u64 y.Hi) + (1:Int))) b k a0))] 18 [] [] [] [(0,(slc 2 Zl a)),(1,(u32 b)),(5,(slc 1 Zc k)),(6,(i64 c))] [] (LeQ.start (LeQ.pk [0,1,5,6] 0 ?_))
      have hr:=someb hF
      subst hr
      exact⟨rfl,by kernel_rfl,by kernel_rfl⟩
     ·refine AWP.skip (LeQ.start (LeQ.pk [0,1,5,6] 0 ?_))
      have hr:=someb hF
      subst hr
      exact⟨rfl,by kernel_rfl,by kernel_rfl⟩
    ·rintro _ _ _ ⟨rfl,rfl,rfl⟩
     refine AWP.rg0 [] [(0,(slc 2 Zl a)),(1,(u32 b)),(5,(slc 1 Zc i)),(6,(i64 (ZI (c + (1:Int)))))] (LeQ.start (LeQ.pk [0,1,5,6] 0 ?_))
     exact⟨g,Nat.lt_succ_self _,i,(ZI (c + (1:Int))),hF,by kernel_rfl,by kernel_rfl⟩
   ·refine AWP.exit (LeQ.start (LeQ.pk [5] 0 ?_))
    have hr:=someb hF
    subst hr
    exact⟨rfl,by kernel_rfl,by kernel_rfl⟩
 ·rintro _ _ _ ⟨rfl,rfl,rfl⟩
  refine AWP.seq (AWP.rg0 [] [(4,(slc 1 Zc f))] (AWP.ret ?_))
  have hr:=someb hF
  subst hr
  exact(FnQ.f0 0 (.inr rfl))
def Zu5 (r:ZL):PV→List Blk→Prop:=fun p K=>p=(slc 10 Za r)∧K=[]
theorem Zoq (a:ZL) (b:Int) (c:Int) (r:ZL) (hF:Zhc a b c=some r):ACall Tryz.prog glob 110 [(slc 10 Za a),(i64 b),(u64 c)] [] (Zu5 r):=by
 refine ACall.body Tryz.func110 rfl (by kernel_rfl) ?_
 unfold Zhc at hF
 refine AWP.seq (AWP.rg0 [] [(0,(slc 10 Za a)),(1,(i64 b)),(2,(u64 c))] (AWP.seq (AWP.rg0 [] [(0,(slc 10 Za a)),(1,(i64 b)),(2,(u64 c)),(7,nils)] ?_)))
 refine AWP.own (H':=[bf 10 57 Za ([]:ZL) false]) (st':=[(7,(.own 0 (List.length ([]:ZL)))),(0,(slc 10 Za a)),(1,(i64 b)),(2,(u64 c))]) 7 10 57 (by kernel_rfl) (by kernel_rfl) (by kernel_rfl) ?_
 refine AWP.pick (st':=[(0,(slc 10 Za a)),(1,(i64 b)),(2,(u64 c)),(7,(.own 0 (List.length ([]:ZL))))]) (ks:=[0,1,2,7]) (by kernel_rfl) ?_
 refine AWP.seq (AWP.seq (AWP.rg0 [] [(0,(slc 10 Za a)),(1,(i64 b)),(2,(u64 c)),(7,(.own 0 (List.length ([]:ZL)))),(8,(i64 (0:Int)))] ?_))
 obtain⟨j,y,hF⟩:=bindb hF
 refine AWP.mid (fun e st H=>e=.normal∧st=[(7,(.own 0 (List.length j)))]∧H=[bf 10 57 Za j false]) ?_ ?_
 ·clear hF
  refine AWP.kp [0,1,2,7,8] 1 ?_
  refine AWP.bround (fun n st H=>∃ f,∃ d,Zez a b c n f d=some j∧st=[(0,(slc 10 Za a)),(1,(i64 b)),(2,(u64 c)),(7,(.own 0 (List.length f))),(8,(i64 d))]∧H=[bf 10 57 Za f false]) fuel ⟨([]:ZL),(0:Int),y,by kernel_rfl,by kernel_rfl⟩ ?_
  rintro p st H ⟨f,d,hF,rfl,rfl⟩
  cases p with
  | zero=>exact noneb hF
  | succ p=>
   rw [Zez] at hF
   refine AWP.seq (AWP.seq (AWP.rg0 [(2,.len Za a)] [(0,(slc 10 Za a)),(1,(i64 b)),(2,(u64 c)),(7,(.own 0 (List.length f))),(8,(i64 d)),(12,(vb (decide (d<(List.length a:Int)))))] ?_))
   refine AWP.cif hF (fun z hF=>?_) (fun z hF=>?_)
   ·refine AWP.skip ?_
    obtain⟨k,a0,hF⟩:=bindb hF
    refine AWP.seq ?_
    refine AWP.mid (fun e st H=>e=.normal∧st=[(0,(slc 10 Za a)),(1,(i64 b)),(2,(u64 c)),(7,(.own 0 (List.length k))),(8,(i64 d))]∧H=[bf 10 57 Za k false]) ?_ ?_
    ·clear hF
     have hF:=a0
     refine AWP.block (AWP.seq ?_)
     obtain⟨q,u,hF⟩:=bindb hF
     obtain⟨m,hF⟩:=chkb hF
     obtain⟨a1,o,hF⟩:=bindb hF
     replace o:=someb o
     obtain⟨a2,v,hF⟩:=bindb hF
     refine AWP.to [(0,(slc 10 Za a)),(1,(i64 b)),(2,(u64 c)),(7,(.own 0 (List.length f))),(8,(i64 d)),(36,(vb a2))] [bf 10 57 Za f false] ?_ ?_
     ·cases a1 with
      | false=>
       have a3:=someb (ifF v rfl)
       subst a3
       exact AWP.rgT [(3,.idx Za u),(4,.ixd m),(6,.ldA Zl (Arr5.get q) 0 2 0 m),(10,.bool o)]
      | true=>
       have g:=ifT v rfl
       obtain⟨a4,a5,g⟩:=bindb g
       obtain⟨w,g⟩:=chkb g
       replace g:=someb g
       subst g
       exact AWP.rgT [(3,.idx Za u),(4,.ixd m),(6,.ldA Zl (Arr5.get q) 0 2 0 m),(10,.bool o),(15,.idx Za a5),(16,.ixd w),(18,.ldA Zl (Arr5.get a4) 0 2 1 w)]
     refine AWP.cif hF (fun a6 hF=>?_) (fun a6 hF=>?_)
     ·obtain⟨x,a7,hF⟩:=bindb hF
      obtain⟨a8,hF⟩:=chkb hF
      refine AWP.rg [(3,.idx Za a7),(6,.app Za (fun _=>by kernel_rfl) a8)] [(0,(slc 10 Za a)),(1,(i64 b)),(2,(u64 c)),(7,(.own 0 (List.length (f++[x])))),(8,(i64 d))] [bf 10 57 Za (f++[x]) false] (LeQ.start (LeQ.pk [0,1,2,7,8] 1 ?_))
      have hr:=someb hF
      subst hr
      exact⟨rfl,by kernel_rfl,by kernel_rfl⟩
     ·refine AWP.skip (LeQ.start (LeQ.pk [0,1,2,7,8] 1 ?_))
      have hr:=someb hF
      subst hr
      exact⟨rfl,by kernel_rfl,by kernel_rfl⟩
    ·rintro _ _ _ ⟨rfl,rfl,rfl⟩
     refine AWP.rg0 [] [(0,(slc 10 Za a)),(1,(i64 b)),(2,(u64 c)),(7,(.own 0 (List.length k))),(8,(i64 (ZI (d + (1:Int)))))] (LeQ.start (LeQ.pk [0,1,2,7,8] 1 ?_))
     exact⟨p,Nat.lt_succ_self _,k,(ZI (d + (1:Int))),hF,by kernel_rfl,by kernel_rfl⟩
   ·refine AWP.exit (LeQ.start (LeQ.pk [7] 1 ?_))
    have hr:=someb hF
    subst hr
    exact⟨rfl,by kernel_rfl,by kernel_rfl⟩
 ·rintro _ _ _ ⟨rfl,rfl,rfl⟩
  refine AWP.seq (AWP.rg0 [] [(6,(.own 0 (List.length j)))] (AWP.ret ?_))
  have hr:=someb hF
  subst hr
  exact(FnQ.f1 0 (.inr rfl) (.inl (Wk.ownT (i:=0) (s:=10) (t:=57) (l:=j) (sh:=false) (row:=Za) (by kernel_rfl) (.inl rfl))))
def Zmq (r:Bool):PV→List Blk→Prop:=fun p K=>p=(vb r)∧K=[]
abbrev Zsu (r:Bool):Exit→St→List Blk→Prop:=FnQ Tryz.prog Tryz.f111.results 0 (Zmq r)
theorem Zsv (a:ZL) (b:ZL) (r:Bool) (hF:Zge a b=some r):ACall Tryz.prog glob 111 [(slc 10 Za a),(slc 10 Za b)] [] (Zmq r):=by
 refine ACall.body Tryz.func111 rfl (by kernel_rfl) ?_
 unfold Zge at hF
 refine AWP.seq (AWP.rg0 [] [(0,(slc 10 Za a)),(1,(slc 10 Za b))] (AWP.seq (AWP.seq (AWP.rg0 [(1,.len Za a),(3,.len Za b)] [(0,(slc 10 Za a)),(1,(slc 10 Za b)),(10,(vb ((List.length a:Int) != (List.length b:Int))))] ?_))))
 refine AWP.cif hF (fun g hF=>?_) (fun g hF=>?_)
 ·refine AWP.seq (AWP.rg0 [] [(4,(vb false))] (AWP.ret ?_))
  have hr:=someb hF
  subst hr
  exact(FnQ.f0 0 (.inr rfl))
 ·refine AWP.skip (AWP.seq (AWP.seq (AWP.rg0 [] [(0,(slc 10 Za a)),(1,(slc 10 Za b)),(5,(i64 (0:Int)))] ?_)))
  obtain⟨d,i,hF⟩:=bindb hF
  refine AWP.mid (fun e st H=>(e=.normal∧d=(.inl ())∧st=[]∧H=[])∨(e=.ret∧∃ r,d=(.inr r)∧Zsu r e st H)) ?_ ?_
  ·clear hF
   refine AWP.kp [0,1,5] 0 ?_
   refine AWP.bround (fun n st H=>∃ c,Zd4 a b n c=some d∧st=[(0,(slc 10 Za a)),(1,(slc 10 Za b)),(5,(i64 c))]∧H=[]) fuel ⟨(0:Int),i,by kernel_rfl,by kernel_rfl⟩ ?_
   rintro f st H ⟨c,hF,rfl,rfl⟩
   cases f with
   | zero=>exact noneb hF
   | succ f=>
    rw [Zd4] at hF
    refine AWP.seq (AWP.seq (AWP.rg0 [(2,.len Za a)] [(0,(slc 10 Za a)),(1,(slc 10 Za b)),(5,(i64 c)),(14,(vb (decide (c<(List.length a:Int)))))] ?_))
    refine AWP.cif hF (fun j hF=>?_) (fun j hF=>?_)
    ·refine AWP.skip (AWP.seq (AWP.block (AWP.seq ?_)))
     obtain⟨k,l,hF⟩:=bindb hF
     obtain⟨m,o,hF⟩:=bindb hF
     refine AWP.dr [(2,.idx Za l),(6,.idx Za o)] 9 [] [] [] [(0,(slc 10 Za a)),(1,(slc 10 Za b)),(5,(i64 c)),(25,(vb (!(Zfv k m))))] [] ?_
     refine AWP.cif hF (fun p hF=>?_) (fun p hF=>?_)
     ·refine AWP.seq (AWP.rg0 [] [(4,(vb false))] (AWP.ret ?_))
      exact LeQ.of (.inr ⟨rfl,false,(someb hF).symm,(FnQ.f0 0 (.inr rfl))⟩)
     ·refine AWP.skip (AWP.rg0 [] [(0,(slc 10 Za a)),(1,(slc 10 Za b)),(5,(i64 (ZI (c + (1:Int)))))] (LeQ.start (LeQ.pk [0,1,5] 0 ?_)))
      exact⟨f,Nat.lt_succ_self _,(ZI (c + (1:Int))),hF,by kernel_rfl,by kernel_rfl⟩
    ·refine AWP.exit (LeQ.start (LeQ.pk [] 0 ?_))
     exact(.inl ⟨rfl,(someb hF).symm,by kernel_rfl,by kernel_rfl⟩)
  ·rintro _ _ _ (⟨rfl,rfl,rfl,rfl⟩ | ⟨rfl,q,rfl,hq⟩)
   ·refine AWP.seq (AWP.rg0 [] [(4,(vb true))] (AWP.ret ?_))
    have hr:=someb hF
    subst hr
    exact(FnQ.f0 0 (.inr rfl))
   ·have hr:=someb hF
    subst hr
    exact hq
def Zlr (r:ZL):PV→List Blk→Prop:=fun p K=>p=(slc 10 Za r)∧K=[]
theorem Zpq:∀(nr:Nat) (b:ZL) (c:ZL) (d:Int) (a:Int) (r:ZL) (hF:Zcd nr b c d a=some r),ACall Tryz.prog glob 60 [(slc 10 Za b),(slc 10 Za c),(i64 d),(i64 a)] [] (Zlr r):=by
 intro nr
 induction nr with
 | zero=>intro b c d a r hF; exact noneb (by rw [Zcd] at hF; exact hF)
 | succ nr ih=>
  intro b c d a r hF
  refine ACall.body Tryz.func60 rfl (by kernel_rfl) ?_
  rw [Zcd] at hF
  refine AWP.seq (AWP.rg0 [] [(0,(slc 10 Za b)),(1,(slc 10 Za c)),(2,(i64 d)),(3,(i64 a))] (AWP.seq (AWP.seq (AWP.rg0 [] [(0,(slc 10 Za b)),(1,(slc 10 Za c)),(2,(i64 d)),(3,(i64 a)),(19,(vb (a == (5:Int))))] ?_))))
  refine AWP.cif hF (fun c4 hF=>?_) (fun c4 hF=>?_)
  ·refine AWP.seq (AWP.seq ?_)
   obtain⟨b4,c5,hF⟩:=bindb hF
   refine AWP.rg0 [(2,.len Za b),(5,.len Za c),(7,.call Tryz.func106 [] (Zr2 d (decide ((List.length b:Int) > (0:Int))) (decide ((List.length c:Int) > (0:Int))) b4 c5))] [(27,(vb b4))] ?_
   refine AWP.cif hF (fun c6 hF=>?_) (fun c6 hF=>?_)
   ·refine AWP.seq (AWP.rg0 [] [(8,(slc 10 Za [(Arr5.mk Zp Zp Zp Zp Zp)]))] (AWP.ret ?_))
    have hr:=someb hF
    subst hr
    exact(FnQ.f0 0 (.inr rfl))
   ·refine AWP.skip (AWP.seq (AWP.rg0 [] [(8,nils)] (AWP.ret ?_)))
    have hr:=someb hF
    subst hr
    exact(FnQ.f1 0 (.inr rfl) (.inl (.nil 10)))
  ·refine AWP.skip (AWP.seq (AWP.seq ?_))
   obtain⟨b5,c7,hF⟩:=bindb hF
   refine AWP.rg0 [(2,.len Za b),(5,.len Za c),(7,.call Tryz.func107 [] (Zst d (decide ((List.length b:Int) > (0:Int))) (decide ((List.length c:Int) > (0:Int))) b5 c7))] [(0,(slc 10 Za b)),(1,(slc 10 Za c)),(2,(i64 d)),(3,(i64 a)),(37,(vb b5))] ?_
   refine AWP.cif hF (fun c8 hF=>?_) (fun c8 hF=>?_)
   ·refine AWP.seq (AWP.rg0 [] [(8,nils)] (AWP.ret ?_))
    have hr:=someb hF
    subst hr
    exact(FnQ.f1 0 (.inr rfl) (.inl (.nil 10)))
   ·refine AWP.skip (AWP.seq (AWP.rg0 [] [(0,(slc 10 Za b)),(1,(slc 10 Za c)),(2,(i64 d)),(3,(i64 a)),(9,nils),(10,nils)] ?_))
    refine AWP.own (H':=[bf 10 57 Za ([]:ZL) false]) (st':=[(9,(.own 0 (List.length ([]:ZL)))),(0,(slc 10 Za b)),(1,(slc 10 Za c)),(2,(i64 d)),(3,(i64 a)),(10,nils)]) 9 10 57 (by kernel_rfl) (by kernel_rfl) (by kernel_rfl) ?_
    refine AWP.pick (st':=[(0,(slc 10 Za b)),(1,(slc 10 Za c)),(2,(i64 d)),(3,(i64 a)),(9,(.own 0 (List.length ([]:ZL)))),(10,nils)]) (ks:=[0,1,2,3,9,10]) (by kernel_rfl) ?_
    refine AWP.seq ?_
    obtain⟨b6,c9,hF⟩:=bindb hF
    obtain⟨b7,d0,hF⟩:=bindb hF
    obtain⟨f,d1,hF⟩:=bindb hF
    refine AWP.rg0 [(3,.call Tryz.func109 [] (Zqr b c a b6 c9)),(5,.call Tryz.func43 [] (Zhj a b7 d0)),(6,.call Tryz.func108 [] (Zqu b6 b7 f d1))] [(0,(slc 10 Za b)),(1,(slc 10 Za c)),(2,(i64 d)),(3,(i64 a)),(9,(.own 0 (List.length ([]:ZL)))),(10,nils),(11,(slc 1 Zc f))] (AWP.seq (AWP.seq (AWP.rg0 [] [(0,(slc 10 Za b)),(1,(slc 10 Za c)),(2,(i64 d)),(3,(i64 a)),(9,(.own 0 (List.length ([]:ZL)))),(10,nils),(11,(slc 1 Zc f)),(12,(i64 (0:Int)))] ?_)))
    obtain⟨a2,d2,hF⟩:=bindb hF
    refine AWP.mid (fun e st H=>e=.normal∧st=[(9,(.own 0 (List.length a2)))]∧H=[bf 10 57 Za a2 false]) ?_ ?_
    ·clear hF
     refine AWP.wk (p:=nils) (q:=(slc 10 Za ([]:ZL))) (st':=[(10,(slc 10 Za ([]:ZL))),(0,(slc 10 Za b)),(1,(slc 10 Za c)),(2,(i64 d)),(3,(i64 a)),(9,(.own 0 (List.length ([]:ZL)))),(11,(slc 1 Zc f)),(12,(i64 (0:Int)))]) 10 (by kernel_rfl) (.nil 10) (by kernel_rfl) ?_
     refine AWP.kp [0,1,2,3,9,10,11,12] 1 ?_
     refine AWP.bround (fun n st H=>∃ m,∃ o,∃ g,Zdw b c d a (Zcd nr) f n m o g=some a2∧st=[(0,(slc 10 Za b)),(1,(slc 10 Za c)),(2,(i64 d)),(3,(i64 a)),(9,(.own 0 (List.length m))),(10,(slc 10 Za o)),(11,(slc 1 Zc f)),(12,(i64 g))]∧H=[bf 10 57 Za m false]) fuel ⟨([]:ZL),([]:ZL),(0:Int),d2,by kernel_rfl,by kernel_rfl⟩ ?_
     rintro a9 st H ⟨m,o,g,hF,rfl,rfl⟩
     cases a9 with
     | zero=>exact noneb hF
     | succ a9=>
      rw [Zdw] at hF
      refine AWP.seq (AWP.seq (AWP.rg0 [(2,.len Zc f)] [(0,(slc 10 Za b)),(1,(slc 10 Za c)),(2,(i64 d)),(3,(i64 a)),(9,(.own 0 (List.length m))),(10,(slc 10 Za o)),(11,(slc 1 Zc f)),(12,(i64 g)),(48,(vb (decide (g<(List.length f:Int)))))] ?_))
      refine AWP.cif hF (fun d3 hF=>?_) (fun d3 hF=>?_)
      ·refine AWP.skip ?_
       obtain⟨d4,d5,hF⟩:=bindb hF
       refine AWP.seq ?_
       refine AWP.mid (fun e st H=>(e=.normal∧∃ a1,∃ a3,d4=(a1,a3)∧st=[(0,(slc 10 Za b)),(1,(slc 10 Za c)),(2,(i64 d)),(3,(i64 a)),(9,(.own 0 (List.length a1))),(10,(slc 10 Za a3)),(11,(slc 1 Zc f)),(12,(i64 g))]∧H=[bf 10 57 Za a1 false])) ?_ ?_
       ·clear hF
        have hF:=d5
        refine AWP.block (AWP.seq ?_)
        obtain⟨b0,d6,hF⟩:=bindb hF
        refine AWP.rg0 [(1,.call Tryz.func43 [] (Zhj a b0 d6))] [(0,(slc 10 Za b)),(1,(slc 10 Za c)),(2,(i64 d)),(3,(i64 a)),(9,(.own 0 (List.length m))),(10,(slc 10 Za o)),(11,(slc 1 Zc f)),(12,(i64 g)),(13,(u64 (IntKind.wrap .u64 b0)))] ?_
        obtain⟨j,d7,hF⟩:=bindb hF
        refine AWP.seq ?_
        refine AWP.mid (fun e st H=>e=.normal∧st=[(0,(slc 10 Za b)),(1,(slc 10 Za c)),(2,(i64 d)),(3,(i64 a)),(9,(.own 0 (List.length m))),(10,(slc 10 Za o)),(11,(slc 1 Zc f)),(12,(i64 g)),(13,(u64 j))]∧H=[bf 10 57 Za m false]) ?_ ?_
        ·clear hF
         have hF:=d7
         refine AWP.seq (AWP.rg0 [(3,.len Zc f)] [(0,(slc 10 Za b)),(1,(slc 10 Za c)),(2,(i64 d)),(3,(i64 a)),(9,(.own 0 (List.length m))),(10,(slc 10 Za o)),(11,(slc 1 Zc f)),(12,(i64 g)),(13,(u64 (IntKind.wrap .u64 b0))),(58,(vb (decide ((ZI (g + (1:Int)))<(List.length f:Int)))))] ?_)
         refine AWP.cif hF (fun d8 hF=>?_) (fun d8 hF=>?_)
         ·obtain⟨d9,e0,hF⟩:=bindb hF
          refine AWP.rg0 [(3,.idx Zc e0)] [(0,(slc 10 Za b)),(1,(slc 10 Za c)),(2,(i64 d)),(3,(i64 a)),(9,(.own 0 (List.length m))),(10,(slc 10 Za o)),(11,(slc 1 Zc f)),(12,(i64 g)),(13,(u64 (IntKind.wrap .u64 (d9 - (1:Int)))))] (LeQ.start (LeQ.pk [0,1,2,3,9,10,11,12,13] 1 ?_))
          have hr:=someb hF
          subst hr
          exact⟨rfl,by kernel_rfl,by kernel_rfl⟩
         ·refine AWP.skip (LeQ.start (LeQ.pk [0,1,2,3,9,10,11,12,13] 1 ?_))
          have hr:=someb hF
          subst hr
          exact⟨rfl,by kernel_rfl,by kernel_rfl⟩
        ·rintro _ _ _ ⟨rfl,rfl,rfl⟩
         refine AWP.seq ?_
         obtain⟨e1,e2,hF⟩:=bindb hF
         obtain⟨b8,e3,hF⟩:=bindb hF
         obtain⟨e4,e5,hF⟩:=bindb hF
         obtain⟨b9,e6,hF⟩:=bindb hF
         obtain⟨k,e7,hF⟩:=bindb hF
         refine AWP.dr [(4,.idx Zc e2),(6,.call Tryz.func110 [] (Zoq b a e1 b8 e3)),(11,.idx Zc e5),(13,.call Tryz.func110 [] (Zoq c a e4 b9 e6)),(17,.call Tryz.func60 [] (ih b8 b9 d (ZI (a + (1:Int))) k e7))] 18 [] [] [] [(0,(slc 10 Za b)),(1,(slc 10 Za c)),(2,(i64 d)),(3,(i64 a)),(9,(.own 0 (List.length m))),(10,(slc 10 Za o)),(11,(slc 1 Zc f)),(12,(i64 g)),(13,(u64 j)),(14,(slc 10 Za k))] [bf 10 57 Za m false] (AWP.seq (AWP.seq ?_))
         obtain⟨e8,a4,hF⟩:=bindb hF
         replace a4:=someb a4
         obtain⟨e9,a5,hF⟩:=bindb hF
         replace a5:=someb a5
         obtain⟨f2,b1,hF⟩:=bindb hF
         refine AWP.to [(0,(slc 10 Za b)),(1,(slc 10 Za c)),(2,(i64 d)),(3,(i64 a)),(9,(.own 0 (List.length m))),(10,(slc 10 Za o)),(11,(slc 1 Zc f)),(12,(i64 g)),(13,(u64 j)),(14,(slc 10 Za k)),(94,(vb f2))] [bf 10 57 Za m false] ?_ ?_
         ·cases e8 with
          | false=>
           subst a5
           have f3:=someb (ifF b1 rfl)
           subst f3
           exact AWP.rgT [(2,.bool a4)]
          | true=>
           cases e9 with
           | false=>
            have f4:=someb (ifF b1 rfl)
            subst f4
            exact AWP.rgT [(2,.bool a4),(4,.len Za k),(7,.bool a5)]
           | true=>
            have a6:=ifT b1 rfl
            obtain⟨f5,f6,a6⟩:=bindb a6
            replace a6:=someb a6
            subst a6
            exact AWP.rgT [(2,.bool a4),(4,.len Za k),(7,.bool a5),(10,.call Tryz.func111 [] (Zsv k o f5 f6))]
         refine AWP.cif hF (fun f7 hF=>?_) (fun f7 hF=>?_)
         ·refine AWP.seq (AWP.seq (AWP.rg0 [(1,.len Za m),(3,.len Za k)] [(0,(slc 10 Za b)),(1,(slc 10 Za c)),(2,(i64 d)),(3,(i64 a)),(9,(.own 0 (List.length m))),(10,(slc 10 Za o)),(11,(slc 1 Zc f)),(12,(i64 g)),(13,(u64 j)),(15,(i64 (ZI ((List.length m:Int) - (List.length k:Int)))))] ?_))
          obtain⟨a7,f8,hF⟩:=bindb hF
          refine AWP.mid (fun e st H=>e=.normal∧st=[(0,(slc 10 Za b)),(1,(slc 10 Za c)),(2,(i64 d)),(3,(i64 a)),(9,(.own 0 (List.length a7))),(10,(slc 10 Za o)),(11,(slc 1 Zc f)),(12,(i64 g))]∧H=[bf 10 57 Za a7 false]) ?_ ?_
          ·clear hF
           refine AWP.kp [0,1,2,3,9,10,11,12,13,15] 1 ?_
           refine AWP.bround (fun n st H=>∃ v,∃ u,Zdv a j n v u=some a7∧st=[(0,(slc 10 Za b)),(1,(slc 10 Za c)),(2,(i64 d)),(3,(i64 a)),(9,(.own 0 (List.length v))),(10,(slc 10 Za o)),(11,(slc 1 Zc f)),(12,(i64 g)),(13,(u64 j)),(15,(i64 u))]∧H=[bf 10 57 Za v false]) fuel ⟨m,(ZI ((List.length m:Int) - (List.length k:Int))),f8,by kernel_rfl,by kernel_rfl⟩ ?_
           rintro b2 st H ⟨v,u,hF,rfl,rfl⟩
           cases b2 with
           | zero=>exact noneb hF
           | succ b2=>
            rw [Zdv] at hF
            refine AWP.seq (AWP.seq (AWP.rg0 [(2,.len Za v)] [(0,(slc 10 Za b)),(1,(slc 10 Za c)),(2,(i64 d)),(3,(i64 a)),(9,(.own 0 (List.length v))),(10,(slc 10 Za o)),(11,(slc 1 Zc f)),(12,(i64 g)),(13,(u64 j)),(15,(i64 u)),(103,(vb (decide (u<(List.length v:Int)))))] ?_))
            refine AWP.cif hF (fun f9 hF=>?_) (fun f9 hF=>?_)
            ·refine AWP.skip (AWP.seq (AWP.block ?_))
             obtain⟨x,c0,hF⟩:=bindb hF
             obtain⟨c1,hF⟩:=chkb hF
             refine AWP.rg [(5,.idx Za c0),(6,.ixE Za v u c1),(7,.fdE Za v u),(8,.stEd Za c0 (fun c2=>(Arr5.set x c2 ({ (Arr5.get x c2) with Hi:=(IntKind.wrap .u32 j) }:Zb))) 0 2 1 c1)] [(0,(slc 10 Za b)),(1,(slc 10 Za c)),(2,(i64 d)),(3,(i64 a)),(9,(.own 0 (List.length v))),(10,(slc 10 Za o)),(11,(slc 1 Zc f)),(12,(i64 g)),(13,(u64 j)),(15,(i64 u))] [bf 10 57 Za (List.set v (Int.toNat u) (Arr5.set x a ({ (Arr5.get x a) with Hi:=(IntKind.wrap .u32 j) }:Zb))) false] ?_
             rw [show ([(0,(slc 10 Za b)),(1,(slc 10 Za c)),(2,(i64 d)),(3,(i64 a)),(9,(.own 0 (List.length v))),(10,(slc 10 Za o)),(11,(slc 1 Zc f)),(12,(i64 g)),(13,(u64 j)),(15,(i64 u))]:St)=[(0,(slc 10 Za b)),(1,(slc 10 Za c)),(2,(i64 d)),(3,(i64 a)),(9,(.own 0 (List.length (List.set v (Int.toNat u) (Arr5.set x a ({ (Arr5.get x a) with Hi:=(IntKind.wrap .u32 j) }:Zb)))))),(10,(slc 10 Za o)),(11,(slc 1 Zc f)),(12,(i64 g)),(13,(u64 j)),(15,(i64 u))] by simp only [List.length_set]]
             refine AWP.rg0 [] [(0,(slc 10 Za b)),(1,(slc 10 Za c)),(2,(i64 d)),(3,(i64 a)),(9,(.own 0 (List.length (List.set v (Int.toNat u) (Arr5.set x a ({ (Arr5.get x a) with Hi:=(IntKind.wrap .u32 j) }:Zb)))))),(10,(slc 10 Za o)),(11,(slc 1 Zc f)),(12,(i64 g)),(13,(u64 j)),(15,(i64 (ZI (u + (1:Int)))))] (LeQ.start (LeQ.pk [0,1,2,3,9,10,11,12,13,15] 1 ?_))
             exact⟨b2,Nat.lt_succ_self _,(List.set v (Int.toNat u) (Arr5.set x a ({ (Arr5.get x a) with Hi:=(IntKind.wrap .u32 j) }:Zb))),(ZI (u + (1:Int))),hF,by kernel_rfl,by kernel_rfl⟩
            ·refine AWP.exit (LeQ.start (LeQ.pk [0,1,2,3,9,10,11,12] 1 ?_))
             have hr:=someb hF
             subst hr
             exact⟨rfl,by kernel_rfl,by kernel_rfl⟩
          ·rintro _ _ _ ⟨rfl,rfl,rfl⟩
           refine AWP.exit (LeQ.start (LeQ.pk [0,1,2,3,9,10,11,12] 1 ?_))
           exact⟨rfl,a7,o,(someb hF).symm,by kernel_rfl,by kernel_rfl⟩
         ·refine AWP.skip (AWP.seq (AWP.rg0 [] [(0,(slc 10 Za b)),(1,(slc 10 Za c)),(2,(i64 d)),(3,(i64 a)),(9,(.own 0 (List.length m))),(10,(slc 10 Za k)),(11,(slc 1 Zc f)),(12,(i64 g)),(13,(u64 j)),(14,(slc 10 Za k))] (AWP.seq (AWP.rg0 [] [(0,(slc 10 Za b)),(1,(slc 10 Za c)),(2,(i64 d)),(3,(i64 a)),(9,(.own 0 (List.length m))),(10,(slc 10 Za k)),(11,(slc 1 Zc f)),(12,(i64 g)),(13,(u64 j)),(14,(slc 10 Za k)),(16,(i64 (0:Int)))] ?_))))
          obtain⟨a8,g0,hF⟩:=bindb hF
          refine AWP.mid (fun e st H=>e=.normal∧st=[(0,(slc 10 Za b)),(1,(slc 10 Za c)),(2,(i64 d)),(3,(i64 a)),(9,(.own 0 (List.length a8))),(10,(slc 10 Za k)),(11,(slc 1 Zc f)),(12,(i64 g))]∧H=[bf 10 57 Za a8 false]) ?_ ?_
          ·clear hF
           refine AWP.kp [0,1,2,3,9,10,11,12,13,14,16] 1 ?_
           refine AWP.bround (fun n st H=>∃ w,∃ y,Zc4 a f g j k n w y=some a8∧st=[(0,(slc 10 Za b)),(1,(slc 10 Za c)),(2,(i64 d)),(3,(i64 a)),(9,(.own 0 (List.length w))),(10,(slc 10 Za k)),(11,(slc 1 Zc f)),(12,(i64 g)),(13,(u64 j)),(14,(slc 10 Za k)),(16,(i64 y))]∧H=[bf 10 57 Za w false]) fuel ⟨m,(0:Int),g0,by kernel_rfl,by kernel_rfl⟩ ?_
           rintro b3 st H ⟨w,y,hF,rfl,rfl⟩
           cases b3 with
           | zero=>exact noneb hF
           | succ b3=>
            rw [Zc4] at hF
            refine AWP.seq (AWP.seq (AWP.rg0 [(2,.len Za k)] [(0,(slc 10 Za b)),(1,(slc 10 Za c)),(2,(i64 d)),(3,(i64 a)),(9,(.own 0 (List.length w))),(10,(slc 10 Za k)),(11,(slc 1 Zc f)),(12,(i64 g)),(13,(u64 j)),(14,(slc 10 Za k)),(16,(i64 y)),(118,(vb (decide (y<(List.length k:Int)))))] ?_))
            refine AWP.cif hF (fun g1 hF=>?_) (fun g1 hF=>?_)
            ·refine AWP.skip (AWP.seq (AWP.block (AWP.seq ?_)))
             obtain⟨z,g2,hF⟩:=bindb hF
             refine AWP.rg [(2,.idx Za g2)] [(0,(slc 10 Za b)),(1,(slc 10 Za c)),(2,(i64 d)),(3,(i64 a)),(9,(.own 0 (List.length w))),(10,(slc 10 Za k)),(11,(slc 1 Zc f)),(12,(i64 g)),(13,(u64 j)),(14,(slc 10 Za k)),(16,(i64 y)),(17,(.ptr 1 0))] [bf 10 57 Za w false,.cells (Za z)] (AWP.seq ?_)
             obtain⟨a0,g3,hF⟩:=bindb hF
             obtain⟨c3,hF⟩:=chkb hF
             refine AWP.rg [(3,.idx Zc g3),(9,.ixd c3),(10,.stA (fun g4=>Za (Arr5.set z g4 (Zb.mk (IntKind.wrap .u32 a0) (IntKind.wrap .u32 j)))) 0 2 0 c3)] [(0,(slc 10 Za b)),(1,(slc 10 Za c)),(2,(i64 d)),(3,(i64 a)),(9,(.own 0 (List.length w))),(10,(slc 10 Za k)),(11,(slc 1 Zc f)),(12,(i64 g)),(13,(u64 j)),(14,(slc 10 Za k)),(16,(i64 y)),(17,(.ptr 1 0))] [bf 10 57 Za w false,.cells (Za (Arr5.set z a (Zb.mk (IntKind.wrap .u32 a0) (IntKind.wrap .u32 j))))] ?_
             obtain⟨g5,hF⟩:=chkb hF
             refine AWP.rg [(3,.app Za (fun _=>by kernel_rfl) g5)] [(0,(slc 10 Za b)),(1,(slc 10 Za c)),(2,(i64 d)),(3,(i64 a)),(9,(.own 0 (List.length (w++[(Arr5.set z a (Zb.mk (IntKind.wrap .u32 a0) (IntKind.wrap .u32 j)))])))),(10,(slc 10 Za k)),(11,(slc 1 Zc f)),(12,(i64 g)),(13,(u64 j)),(14,(slc 10 Za k)),(16,(i64 y))] [bf 10 57 Za (w++[(Arr5.set z a (Zb.mk (IntKind.wrap .u32 a0) (IntKind.wrap .u32 j)))]) false,.cells (Za (Arr5.set z a (Zb.mk (IntKind.wrap .u32 a0) (IntKind.wrap .u32 j))))] (AWP.rg0 [] [(0,(slc 10 Za b)),(1,(slc 10 Za c)),(2,(i64 d)),(3,(i64 a)),(9,(.own 0 (List.length (w++[(Arr5.set z a (Zb.mk (IntKind.wrap .u32 a0) (IntKind.wrap .u32 j)))])))),(10,(slc 10 Za k)),(11,(slc 1 Zc f)),(12,(i64 g)),(13,(u64 j)),(14,(slc 10 Za k)),(16,(i64 (ZI (y + (1:Int)))))] (LeQ.start (LeQ.pk [0,1,2,3,9,10,11,12,13,14,16] 1 ?_)))
             exact⟨b3,Nat.lt_succ_self _,(w++[(Arr5.set z a (Zb.mk (IntKind.wrap .u32 a0) (IntKind.wrap .u32 j)))]),(ZI (y + (1:Int))),hF,by kernel_rfl,by kernel_rfl⟩
            ·refine AWP.exit (LeQ.start (LeQ.pk [0,1,2,3,9,10,11,12] 1 ?_))
             have hr:=someb hF
             subst hr
             exact⟨rfl,by kernel_rfl,by kernel_rfl⟩
          ·rintro _ _ _ ⟨rfl,rfl,rfl⟩
           refine LeQ.start (LeQ.pk [0,1,2,3,9,10,11,12] 1 ?_)
           exact⟨rfl,a8,k,(someb hF).symm,by kernel_rfl,by kernel_rfl⟩
       ·rintro _ _ _ ⟨rfl,a1,a3,rfl,rfl,rfl⟩
        refine AWP.rg0 [] [(0,(slc 10 Za b)),(1,(slc 10 Za c)),(2,(i64 d)),(3,(i64 a)),(9,(.own 0 (List.length a1))),(10,(slc 10 Za a3)),(11,(slc 1 Zc f)),(12,(i64 (ZI (g + (1:Int)))))] (LeQ.start (LeQ.pk [0,1,2,3,9,10,11,12] 1 ?_))
        exact⟨a9,Nat.lt_succ_self _,a1,a3,(ZI (g + (1:Int))),hF,by kernel_rfl,by kernel_rfl⟩
      ·refine AWP.exit (LeQ.start (LeQ.pk [9] 1 ?_))
       have hr:=someb hF
       subst hr
       exact⟨rfl,by kernel_rfl,by kernel_rfl⟩
    ·rintro _ _ _ ⟨rfl,rfl,rfl⟩
     refine AWP.seq (AWP.rg0 [] [(8,(.own 0 (List.length a2)))] (AWP.ret ?_))
     have hr:=someb hF
     subst hr
     exact(FnQ.f1 0 (.inr rfl) (.inl (Wk.ownT (i:=0) (s:=10) (t:=57) (l:=a2) (sh:=false) (row:=Za) (by kernel_rfl) (.inl rfl))))
theorem Zr3 (a:ZL) (b:ZL) (c:Int) (d:Int) (r:ZL) (hF:Zcd fuel a b c d=some r):ACall Tryz.prog glob 60 [(slc 10 Za a),(slc 10 Za b),(i64 c),(i64 d)] [] (Zlr r):=Zpq fuel a b c d r hF
def Zqv (r:Bool):PV→List Blk→Prop:=fun p K=>p=(vb r)∧K=[]
theorem Zk7 (a:ZL) (b:ZL) (r:Bool) (hF:Zgi a b=some r):ACall Tryz.prog glob 18 [(slc 10 Za a),(slc 10 Za b)] [] (Zqv r):=by
 refine ACall.body Tryz.func18 rfl (by kernel_rfl) ?_
 unfold Zgi at hF
 refine AWP.seq (AWP.rg0 [] [(0,(slc 10 Za a)),(1,(slc 10 Za b))] (AWP.seq ?_))
 obtain⟨d,g,hF⟩:=bindb hF
 obtain⟨f,i,hF⟩:=bindb hF
 obtain⟨c,j,hF⟩:=bindb hF
 refine AWP.rg0 [(1,.call Tryz.func61 [] (Zlq a d g)),(3,.call Tryz.func61 [] (Zlq b f i)),(4,.call Tryz.func60 [] (Zr3 d f (2:Int) (0:Int) c j)),(5,.len Za c)] [(4,(vb ((List.length c:Int) == (0:Int))))] (AWP.ret ?_)
 have hr:=someb hF
 subst hr
 exact(FnQ.f0 0 (.inr rfl))
def Zn1 (r:(ZB × Bool)):PV→List Blk→Prop:=fun p K=>p=(.tup [(Z9 r.1),(vb r.2)])∧K=[]
theorem Zn2 (a:ZB) (c:ZB) (r:(ZB × Bool)) (hF:Zfb a c=some r):ACall Tryz.prog glob 79 [(Z9 a),(Z9 c)] [] (Zn1 r):=by
 refine ACall.body Tryz.func79 rfl (by kernel_rfl) ?_
 unfold Zfb at hF
 refine AWP.seq (AWP.rg [] [(2,(.ptr 0 0)),(3,(.ptr 1 0)),(4,(.ptr 2 0))] [.cells (Za a),.cells (Za c),.cells (Za Zn)] (AWP.seq (AWP.rg [] [(2,(.ptr 0 0)),(3,(.ptr 1 0)),(4,(.ptr 2 0)),(6,(.ptr 3 0))] [.cells (Za a),.cells (Za c),.cells (Za Zn),.cells (Za Zn)] (AWP.seq (AWP.seq (AWP.rg0 [] [(2,(.ptr 0 0)),(3,(.ptr 1 0)),(4,(.ptr 2 0)),(6,(.ptr 3 0)),(7,(i64 (0:Int)))] ?_))))))
 obtain⟨d,z,hF⟩:=bindb hF
 refine AWP.mid (fun e st H=>e=.normal∧st=[(2,(.ptr 0 0)),(3,(.ptr 1 0)),(4,(.ptr 2 0)),(6,(.ptr 3 0))]∧H=[.cells (Za a),.cells (Za c),.cells (Za Zn),.cells (Za d)]) ?_ ?_
 ·clear hF
  refine AWP.kp [2,3,4,6,7] 4 ?_
  refine AWP.bround (fun n st H=>∃ f,∃ b,Zb7 a c n f b=some d∧st=[(2,(.ptr 0 0)),(3,(.ptr 1 0)),(4,(.ptr 2 0)),(6,(.ptr 3 0)),(7,(i64 b))]∧H=[.cells (Za a),.cells (Za c),.cells (Za Zn),.cells (Za f)]) fuel ⟨Zn,(0:Int),z,by kernel_rfl,by kernel_rfl⟩ ?_
  rintro l st H ⟨f,b,hF,rfl,rfl⟩
  cases l with
  | zero=>exact noneb hF
  | succ l=>
   rw [Zb7] at hF
   refine AWP.seq (AWP.seq (AWP.rg0 [] [(2,(.ptr 0 0)),(3,(.ptr 1 0)),(4,(.ptr 2 0)),(6,(.ptr 3 0)),(7,(i64 b)),(9,(vb (decide (b<(5:Int)))))] ?_))
   refine AWP.cif hF (fun a0 hF=>?_) (fun a0 hF=>?_)
   ·refine AWP.skip (AWP.seq (AWP.block ?_))
    obtain⟨q,hF⟩:=chkb hF
    obtain⟨s,hF⟩:=chkb hF
    obtain⟨t,hF⟩:=chkb hF
    obtain⟨u,hF⟩:=chkb hF
    obtain⟨v,hF⟩:=chkb hF
    refine AWP.dr [(2,.ixd q),(4,.ldA Zl (Arr5.get a) 0 2 0 q),(6,.ixd s),(8,.ldA Zl (Arr5.get c) 0 2 0 s),(11,.ixd t),(13,.ldA Zl (Arr5.get a) 0 2 1 t),(15,.ixd u),(17,.ldA Zl (Arr5.get c) 0 2 1 u),(20,.ixd v),(21,.stA (fun a1=>Za (Arr5.set f a1 (Zb.mk (iMax ((Arr5.get a b).Lo) ((Arr5.get c b).Lo)) (iMin ((Arr5.get a b).Hi) ((Arr5.get c b).Hi))))) 0 2 0 v)] 20 [] [] [] [(2,(.ptr 0 0)),(3,(.ptr 1 0)),(4,(.ptr 2 0)),(6,(.ptr 3 0)),(7,(i64 b))] [.cells (Za a),.cells (Za c),.cells (Za Zn),.cells (Za (Arr5.set f b (Zb.mk (iMax ((Arr5.get a b).Lo) ((Arr5.get c b).Lo)) (iMin ((Arr5.get a b).Hi) ((Arr5.get c b).Hi)))))] (AWP.rg0 [] [(2,(.ptr 0 0)),(3,(.ptr 1 0)),(4,(.ptr 2 0)),(6,(.ptr 3 0)),(7,(i64 (ZI (b + (1:Int)))))] (LeQ.start (LeQ.pk [2,3,4,6,7] 4 ?_)))
    exact⟨l,Nat.lt_succ_self _,(Arr5.set f b (Zb.mk (iMax ((Arr5.get a b).Lo) ((Arr5.get c b).Lo)) (iMin ((Arr5.get a b).Hi) ((Arr5.get c b).Hi)))),(ZI (b + (1:Int))),hF,by kernel_rfl,by kernel_rfl⟩
   ·refine AWP.exit (LeQ.start (LeQ.pk [2,3,4,6] 4 ?_))
    have hr:=someb hF
    subst hr
    exact⟨rfl,by kernel_rfl,by kernel_rfl⟩
 ·rintro _ _ _ ⟨rfl,rfl,rfl⟩
  refine AWP.seq (AWP.seq ?_)
  obtain⟨m,o,hF⟩:=bindb hF
  obtain⟨a2,g,hF⟩:=bindb hF
  replace g:=someb g
  obtain⟨b1,w,hF⟩:=bindb hF
  obtain⟨a3,i,hF⟩:=bindb hF
  replace i:=someb i
  obtain⟨a4,p,hF⟩:=bindb hF
  refine AWP.to [(4,(.ptr 2 0)),(6,(.ptr 3 0)),(45,(vb a4))] [.cells (Za a),.cells (Za c),.cells (Za Zn),.cells (Za d)] ?_ ?_
  ·cases a2 with
   | false=>
    have j:=ifF w rfl
    obtain⟨x,y,j⟩:=bindb j
    replace j:=someb j
    subst j
    cases a3 with
    | false=>
     have k:=ifF p rfl
     obtain⟨a5,a6,k⟩:=bindb k
     replace k:=someb k
     subst k
     exact AWP.rgT [(1,.call Tryz.func96 [] (Zd8 a m o)),(3,.bool g),(5,.call Tryz.func96 [] (Zd8 c x y)),(8,.bool i),(10,.call Tryz.func96 [] (Zd8 d a5 a6))]
    | true=>
     have a7:=someb (ifT p rfl)
     subst a7
     exact AWP.rgT [(1,.call Tryz.func96 [] (Zd8 a m o)),(3,.bool g),(5,.call Tryz.func96 [] (Zd8 c x y)),(8,.bool i)]
   | true=>
    have a8:=someb (ifT w rfl)
    subst a8
    subst i
    have a9:=someb (ifT p rfl)
    subst a9
    exact AWP.rgT [(1,.call Tryz.func96 [] (Zd8 a m o)),(3,.bool g)]
  refine AWP.cif hF (fun b0 hF=>?_) (fun b0 hF=>?_)
  ·refine AWP.seq (AWP.rg [] [(4,(.ptr 2 0)),(5,(vb false))] [.cells (Za a),.cells (Za c),.cells (Za (Arr5.mk Zp Zp Zp Zp Zp)),.cells (Za d)] (AWP.ret ?_))
   have hr:=someb hF
   subst hr
   exact(FnQ.f0 0 (.inr rfl))
  ·refine AWP.skip (AWP.seq (AWP.rg [] [(4,(.ptr 2 0)),(5,(vb true))] [.cells (Za a),.cells (Za c),.cells (Za d),.cells (Za d)] (AWP.ret ?_)))
   have hr:=someb hF
   subst hr
   exact(FnQ.f0 0 (.inr rfl))
def Zls (r:Bool):PV→List Blk→Prop:=fun p K=>p=(vb r)∧K=[]
abbrev Zr4 (r:Bool):Exit→St→List Blk→Prop:=FnQ Tryz.prog Tryz.f30.results 0 (Zls r)
theorem Zlt (a:ZL) (c:ZB) (r:Bool) (hF:Zgw a c=some r):ACall Tryz.prog glob 30 [(slc 10 Za a),(Z9 c)] [] (Zls r):=by
 refine ACall.body Tryz.func30 rfl (by kernel_rfl) ?_
 unfold Zgw at hF
 refine AWP.seq (AWP.rg [] [(0,(slc 10 Za a)),(3,(.ptr 0 0))] [.cells (Za c)] (AWP.seq (AWP.seq (AWP.rg0 [] [(0,(slc 10 Za a)),(3,(.ptr 0 0)),(5,(i64 (0:Int)))] ?_))))
 obtain⟨f,i,hF⟩:=bindb hF
 refine AWP.mid (fun e st H=>(e=.normal∧f=(.inl ())∧st=[]∧H=[.cells (Za c)])∨(e=.ret∧∃ r,f=(.inr r)∧Zr4 r e st H)) ?_ ?_
 ·clear hF
  refine AWP.kp [0,3,5] 1 ?_
  refine AWP.bround (fun n st H=>∃ b,Zdz a c n b=some f∧st=[(0,(slc 10 Za a)),(3,(.ptr 0 0)),(5,(i64 b))]∧H=[.cells (Za c)]) fuel ⟨(0:Int),i,by kernel_rfl,by kernel_rfl⟩ ?_
  rintro g st H ⟨b,hF,rfl,rfl⟩
  cases g with
  | zero=>exact noneb hF
  | succ g=>
   rw [Zdz] at hF
   refine AWP.seq (AWP.seq (AWP.rg0 [(2,.len Za a)] [(0,(slc 10 Za a)),(3,(.ptr 0 0)),(5,(i64 b)),(11,(vb (decide (b<(List.length a:Int)))))] ?_))
   refine AWP.cif hF (fun j hF=>?_) (fun j hF=>?_)
   ·refine AWP.skip (AWP.seq (AWP.block (AWP.seq ?_)))
    obtain⟨k,l,hF⟩:=bindb hF
    obtain⟨d,m,hF⟩:=bindb hF
    refine AWP.dr [(2,.idx Za l),(5,.call Tryz.func79 [] (Zn2 k c d m))] 11 [] [9,10] [] [(0,(slc 10 Za a)),(3,(.ptr 0 0)),(5,(i64 b)),(7,(vb d.2))] [.cells (Za c),.cells (Za d.1)] (AWP.seq (AWP.rg0 [] [(0,(slc 10 Za a)),(3,(.ptr 0 0)),(5,(i64 b)),(23,(vb d.2))] ?_))
    refine AWP.cif hF (fun o hF=>?_) (fun o hF=>?_)
    ·refine AWP.seq (AWP.rg0 [] [(4,(vb true))] (AWP.ret ?_))
     exact LeQ.of (.inr ⟨rfl,true,(someb hF).symm,(FnQ.f0 0 (.inr rfl))⟩)
    ·refine AWP.skip (AWP.rg0 [] [(0,(slc 10 Za a)),(3,(.ptr 0 0)),(5,(i64 (ZI (b + (1:Int)))))] (LeQ.start (LeQ.pk [0,3,5] 1 ?_)))
     exact⟨g,Nat.lt_succ_self _,(ZI (b + (1:Int))),hF,by kernel_rfl,by kernel_rfl⟩
   ·refine AWP.exit (LeQ.start (LeQ.pk [] 1 ?_))
    exact(.inl ⟨rfl,(someb hF).symm,by kernel_rfl,by kernel_rfl⟩)
 ·rintro _ _ _ (⟨rfl,rfl,rfl,rfl⟩ | ⟨rfl,p,rfl,hq⟩)
  ·refine AWP.seq (AWP.rg0 [] [(4,(vb false))] (AWP.ret ?_))
   have hr:=someb hF
   subst hr
   exact(FnQ.f0 0 (.inr rfl))
  ·have hr:=someb hF
   subst hr
   exact hq
def Zhf (r:Bool):PV→List Blk→Prop:=fun p K=>p=(vb r)∧K=[]
abbrev Zfu (r:Bool):Exit→St→List Blk→Prop:=FnQ Tryz.prog Tryz.f6.results 0 (Zhf r)
theorem Zkd (x:(List Int)) (a:Zo) (r:Bool) (hF:Zd6 x a=some r):ACall Tryz.prog glob 6 [(slc 1 Zag x),(Zcc a)] [] (Zhf r):=by
 refine ACall.body Tryz.func6 rfl (by kernel_rfl) ?_
 unfold Zd6 at hF
 refine AWP.seq (AWP.rg [] [(0,(slc 1 Zag x)),(3,(.ptr 0 0))] [.cells (Zk a)] (AWP.seq ?_))
 obtain⟨z,c5,hF⟩:=bindb hF
 refine AWP.rg [(1,.call Tryz.func8 [] (Zuz x z c5))] [(3,(.ptr 0 0)),(5,(.ptr 1 0))] [.cells (Zk a),.cells (Zg z)] (AWP.seq ?_)
 obtain⟨c,c6,hF⟩:=bindb hF
 obtain⟨b,c7,hF⟩:=bindb hF
 refine AWP.rg [(1,.call Tryz.func23 [] (Znq z (3:Int) true c c6)),(3,.call Tryz.func20 [] (Zns c.2 (3:Int) true b c7))] [(3,(.ptr 0 0)),(5,(.ptr 1 0)),(6,(slc 13 Zf c.1)),(7,(slc 10 Za b.1))] [.cells (Zk a),.cells (Zg b.2)] (AWP.seq ?_)
 obtain⟨f,c8,hF⟩:=bindb hF
 refine AWP.rg0 [(2,.call Tryz.func24 [] (Zny c.1 b.1 f c8))] [(3,(.ptr 0 0)),(5,(.ptr 1 0)),(6,(slc 13 Zf c.1)),(7,(slc 10 Za b.1)),(8,(slc 10 Za f.1)),(9,(i64 f.2))] (AWP.seq ?_)
 obtain⟨g,c9,hF⟩:=bindb hF
 refine AWP.rg0 [(2,.call Tryz.func25 [] (Zl8 c.1 b.1 g c9))] [(3,(.ptr 0 0)),(5,(.ptr 1 0)),(6,(slc 13 Zf c.1)),(7,(slc 10 Za b.1)),(8,(slc 10 Za f.1)),(9,(i64 f.2)),(10,(slc 10 Za g.1)),(11,(i64 g.2))] (AWP.seq (AWP.seq ?_))
 obtain⟨b8,y,hF⟩:=bindb hF
 replace y:=someb y
 refine AWP.to [(3,(.ptr 0 0)),(5,(.ptr 1 0)),(6,(slc 13 Zf c.1)),(7,(slc 10 Za b.1)),(8,(slc 10 Za f.1)),(9,(i64 f.2)),(10,(slc 10 Za g.1)),(11,(i64 g.2)),(39,(vb (b8 || (g.2 != (0:Int)))))] [.cells (Zk a),.cells (Zg b.2)] ?_ ?_
 ·cases b8 with
  | false=>
   exact AWP.rgT [(2,.bool y)]
  | true=>
   exact AWP.rgT [(2,.bool y)]
 refine AWP.cif hF (fun d0 hF=>?_) (fun d0 hF=>?_)
 ·refine AWP.seq ?_
  obtain⟨d1,p,hF⟩:=bindb hF
  replace p:=someb p
  obtain⟨d2,q,hF⟩:=bindb hF
  replace q:=someb q
  obtain⟨d3,a0,hF⟩:=bindb hF
  refine AWP.to [(4,(vb d3))] [.cells (Zk a),.cells (Zg b.2)] ?_ ?_
  ·cases d1 with
   | false=>
    cases d2 with
    | false=>
     have d4:=someb (ifF a0 rfl)
     subst d4
     exact AWP.rgT [(2,.bool p),(6,.bool q)]
    | true=>
     have s:=ifT a0 rfl
     obtain⟨a1,a2,s⟩:=bindb s
     replace s:=someb s
     subst s
     exact AWP.rgT [(2,.bool p),(6,.bool q),(7,.call Tryz.func14 [] (Zjz a1 a2))]
   | true=>
    subst q
    have t:=ifT a0 rfl
    obtain⟨a1,a2,t⟩:=bindb t
    replace t:=someb t
    subst t
    exact AWP.rgT [(2,.bool p),(7,.call Tryz.func14 [] (Zjz a1 a2))]
  refine AWP.ret ?_
  have hr:=someb hF
  subst hr
  exact(FnQ.f0 0 (.inr rfl))
 ·refine AWP.skip (AWP.seq ?_)
  obtain⟨i,d5,hF⟩:=bindb hF
  obtain⟨d,d6,hF⟩:=bindb hF
  refine AWP.dr [(3,.call Tryz.func11 [] (Zol b.2 b.1 i d5)),(5,.call Tryz.func13 [] (Zjk i.2 d d6))] 7 [] [3,5] [] [(6,(slc 13 Zf c.1)),(7,(slc 10 Za b.1)),(8,(slc 10 Za f.1)),(10,(slc 10 Za g.1)),(12,(slc 5 Zk [a,i.1,d.1]))] [.cells (Zk a),.cells (Zg d.2)] (AWP.seq (AWP.seq (AWP.rg0 [] [(6,(slc 13 Zf c.1)),(7,(slc 10 Za b.1)),(8,(slc 10 Za f.1)),(10,(slc 10 Za g.1)),(12,(slc 5 Zk [a,i.1,d.1])),(13,(i64 (0:Int)))] ?_)))
  obtain⟨a3,d7,hF⟩:=bindb hF
  refine AWP.mid (fun e st H=>(e=.normal∧a3=(.inl ())∧st=[]∧H=[.cells (Zk a),.cells (Zg d.2)])∨(e=.ret∧∃ r,a3=(.inr r)∧Zfu r e st H)) ?_ ?_
  ·clear hF
   refine AWP.kp [6,7,8,10,12,13] 2 ?_
   refine AWP.bround (fun n st H=>∃ j,Zaz a c b f g i d n j=some a3∧st=[(6,(slc 13 Zf c.1)),(7,(slc 10 Za b.1)),(8,(slc 10 Za f.1)),(10,(slc 10 Za g.1)),(12,(slc 5 Zk [a,i.1,d.1])),(13,(i64 j))]∧H=[.cells (Zk a),.cells (Zg d.2)]) fuel ⟨(0:Int),d7,by kernel_rfl,by kernel_rfl⟩ ?_
   rintro a4 st H ⟨j,hF,rfl,rfl⟩
   cases a4 with
   | zero=>exact noneb hF
   | succ a4=>
    rw [Zaz] at hF
    refine AWP.seq (AWP.seq (AWP.rg0 [(2,.len Zk [a,i.1,d.1])] [(6,(slc 13 Zf c.1)),(7,(slc 10 Za b.1)),(8,(slc 10 Za f.1)),(10,(slc 10 Za g.1)),(12,(slc 5 Zk [a,i.1,d.1])),(13,(i64 j)),(59,(vb (decide (j<(List.length [a,i.1,d.1]:Int)))))] ?_))
    refine AWP.cif hF (fun d8 hF=>?_) (fun d8 hF=>?_)
    ·refine AWP.skip ?_
     obtain⟨b9,d9,hF⟩:=bindb hF
     refine AWP.seq ?_
     refine AWP.mid (fun e st H=>(e=.normal∧b9=(.inl ())∧st=[(6,(slc 13 Zf c.1)),(7,(slc 10 Za b.1)),(8,(slc 10 Za f.1)),(10,(slc 10 Za g.1)),(12,(slc 5 Zk [a,i.1,d.1])),(13,(i64 j))]∧H=[.cells (Zk a),.cells (Zg d.2)])∨(e=.ret∧∃ r,b9=(.inr r)∧Zfu r e st H)) ?_ ?_
     ·clear hF
      have hF:=d9
      refine AWP.block (AWP.seq ?_)
      obtain⟨e0,e1,hF⟩:=bindb hF
      obtain⟨a5,e2,hF⟩:=bindb hF
      refine AWP.rg [(2,.idx Zk e1),(4,.call Tryz.func26 [] (Zu3 e0 a5 e2))] [(6,(slc 13 Zf c.1)),(7,(slc 10 Za b.1)),(8,(slc 10 Za f.1)),(10,(slc 10 Za g.1)),(12,(slc 5 Zk [a,i.1,d.1])),(13,(i64 j)),(14,(.ptr 2 0))] [.cells (Zk a),.cells (Zg d.2),.cells (Za a5)] ?_
      obtain⟨c0,e3,hF⟩:=bindb hF
      refine AWP.seq ?_
      refine AWP.mid (fun e st H=>(e=.normal∧∃ m,c0=(.inl m)∧st=[(6,(slc 13 Zf c.1)),(7,(slc 10 Za b.1)),(8,(slc 10 Za f.1)),(10,(slc 10 Za g.1)),(12,(slc 5 Zk [a,i.1,d.1])),(13,(i64 j)),(14,(.ptr 2 0))]∧H=[.cells (Zk a),.cells (Zg d.2),.cells (Za m)])∨(e=.ret∧∃ r,c0=(.inr r)∧Zfu r e st H)) ?_ ?_
      ·clear hF
       have hF:=e3
       refine AWP.seq ?_
       obtain⟨e4,e5,hF⟩:=bindb hF
       obtain⟨o,e6,hF⟩:=bindb hF
       refine AWP.rg0 [(3,.idx Zk e5),(5,.call Tryz.func27 [] (Zn0 c.1 e4 o e6))] [(6,(slc 13 Zf c.1)),(7,(slc 10 Za b.1)),(8,(slc 10 Za f.1)),(10,(slc 10 Za g.1)),(12,(slc 5 Zk [a,i.1,d.1])),(13,(i64 j)),(14,(.ptr 2 0)),(15,(i64 o))] (AWP.seq (AWP.rg0 [] [(6,(slc 13 Zf c.1)),(7,(slc 10 Za b.1)),(8,(slc 10 Za f.1)),(10,(slc 10 Za g.1)),(12,(slc 5 Zk [a,i.1,d.1])),(13,(i64 j)),(14,(.ptr 2 0)),(15,(i64 o)),(74,(vb (decide (o ≥ (0:Int)))))] ?_))
       refine AWP.cif hF (fun e7 hF=>?_) (fun e7 hF=>?_)
       ·refine AWP.seq (AWP.seq (AWP.rg0 [(2,.len Zf c.1)] [(6,(slc 13 Zf c.1)),(7,(slc 10 Za b.1)),(8,(slc 10 Za f.1)),(10,(slc 10 Za g.1)),(12,(slc 5 Zk [a,i.1,d.1])),(13,(i64 j)),(14,(.ptr 2 0)),(15,(i64 o)),(78,(vb (decide (o ≥ (List.length c.1:Int)))))] ?_))
        refine AWP.cif hF (fun e8 hF=>?_) (fun e8 hF=>?_)
        ·refine AWP.seq (AWP.rg0 [] [(4,(vb false))] (AWP.ret ?_))
         exact LeQ.of (.inr ⟨rfl,false,(someb hF).symm,(FnQ.f0 0 (.inr rfl))⟩)
        ·refine AWP.skip ?_
         obtain⟨e9,f1,hF⟩:=bindb hF
         obtain⟨f2,f3,hF⟩:=bindb hF
         obtain⟨a6,f4,hF⟩:=bindb hF
         refine AWP.dr [(2,.idx Zf f1),(6,.idx Zk f3),(8,.call Tryz.func28 [] (Zqp e9 f2 a6 f4))] 9 [] [] [] [(6,(slc 13 Zf c.1)),(7,(slc 10 Za b.1)),(8,(slc 10 Za f.1)),(10,(slc 10 Za g.1)),(12,(slc 5 Zk [a,i.1,d.1])),(13,(i64 j)),(14,(.ptr 2 0))] [.cells (Zk a),.cells (Zg d.2),.cells (Za a6)] (LeQ.start (LeQ.pk [6,7,8,10,12,13,14] 3 ?_))
         exact(.inl ⟨rfl,a6,(someb hF).symm,by kernel_rfl,by kernel_rfl⟩)
       ·refine AWP.skip (LeQ.start (LeQ.pk [6,7,8,10,12,13,14] 3 ?_))
        exact(.inl ⟨rfl,a5,(someb hF).symm,by kernel_rfl,by kernel_rfl⟩)
      ·rintro _ _ _ (⟨rfl,m,rfl,rfl,rfl⟩ | ⟨rfl,f5,rfl,hq⟩)
       ·refine AWP.seq ?_
        obtain⟨a7,a8,hF⟩:=bindb hF
        obtain⟨a9,b0,hF⟩:=bindb hF
        obtain⟨f6,u,hF⟩:=bindb hF
        replace u:=someb u
        obtain⟨g4,c1,hF⟩:=bindb hF
        obtain⟨f7,v,hF⟩:=bindb hF
        replace v:=someb v
        obtain⟨f8,b1,hF⟩:=bindb hF
        refine AWP.to [(6,(slc 13 Zf c.1)),(7,(slc 10 Za b.1)),(8,(slc 10 Za f.1)),(10,(slc 10 Za g.1)),(12,(slc 5 Zk [a,i.1,d.1])),(13,(i64 j)),(112,(vb f8))] [.cells (Zk a),.cells (Zg d.2),.cells (Za m)] ?_ ?_
        ·cases f6 with
         | false=>
          have f9:=someb (ifF c1 rfl)
          subst f9
          subst v
          have k:=ifF b1 rfl
          obtain⟨b2,b3,k⟩:=bindb k
          obtain⟨b4,b5,k⟩:=bindb k
          obtain⟨b6,b7,k⟩:=bindb k
          replace k:=someb k
          subst k
          exact AWP.drT [(3,.idx Zk a8),(5,.call Tryz.func29 [] (Zft b.1 a7 a9 b0)),(6,.bool u),(17,.idx Zk b3),(19,.call Tryz.func29 [] (Zft g.1 b2 b4 b5)),(22,.call Tryz.func30 [] (Zlt b.1 m b6 b7))] 25 [] [] []
         | true=>
          have w:=ifT c1 rfl
          obtain⟨c2,c3,w⟩:=bindb w
          replace w:=someb w
          subst w
          cases f7 with
          | false=>
           have l:=ifF b1 rfl
           obtain⟨b2,b3,l⟩:=bindb l
           obtain⟨b4,b5,l⟩:=bindb l
           obtain⟨b6,b7,l⟩:=bindb l
           replace l:=someb l
           subst l
           exact AWP.drT [(3,.idx Zk a8),(5,.call Tryz.func29 [] (Zft b.1 a7 a9 b0)),(6,.bool u),(10,.call Tryz.func18 [] (Zk7 [m] f.1 c2 c3)),(13,.bool v),(17,.idx Zk b3),(19,.call Tryz.func29 [] (Zft g.1 b2 b4 b5)),(22,.call Tryz.func30 [] (Zlt b.1 m b6 b7))] 25 [] [] []
          | true=>
           have g0:=someb (ifT b1 rfl)
           subst g0
           exact AWP.drT [(3,.idx Zk a8),(5,.call Tryz.func29 [] (Zft b.1 a7 a9 b0)),(6,.bool u),(10,.call Tryz.func18 [] (Zk7 [m] f.1 c2 c3)),(13,.bool v)] 25 [] [] []
        refine AWP.cif hF (fun g1 hF=>?_) (fun g1 hF=>?_)
        ·refine AWP.seq (AWP.rg0 [] [(4,(vb false))] (AWP.ret ?_))
         exact LeQ.of (.inr ⟨rfl,false,(someb hF).symm,(FnQ.f0 0 (.inr rfl))⟩)
        ·refine AWP.skip (LeQ.start (LeQ.pk [6,7,8,10,12,13] 2 ?_))
         exact(.inl ⟨rfl,(someb hF).symm,by kernel_rfl,by kernel_rfl⟩)
       ·exact LeQ.of (.inr ⟨rfl,f5,(someb hF).symm,hq⟩)
     ·rintro _ _ _ (⟨rfl,rfl,rfl,rfl⟩ | ⟨rfl,g2,rfl,hq⟩)
      ·refine AWP.rg0 [] [(6,(slc 13 Zf c.1)),(7,(slc 10 Za b.1)),(8,(slc 10 Za f.1)),(10,(slc 10 Za g.1)),(12,(slc 5 Zk [a,i.1,d.1])),(13,(i64 (ZI (j + (1:Int)))))] (LeQ.start (LeQ.pk [6,7,8,10,12,13] 2 ?_))
       exact⟨a4,Nat.lt_succ_self _,(ZI (j + (1:Int))),hF,by kernel_rfl,by kernel_rfl⟩
      ·exact LeQ.of (.inr ⟨rfl,g2,(someb hF).symm,hq⟩)
    ·refine AWP.exit (LeQ.start (LeQ.pk [] 2 ?_))
     exact(.inl ⟨rfl,(someb hF).symm,by kernel_rfl,by kernel_rfl⟩)
  ·rintro _ _ _ (⟨rfl,rfl,rfl,rfl⟩ | ⟨rfl,g5,rfl,hq⟩)
   ·refine AWP.seq ?_
    obtain⟨c4,g3,hF⟩:=bindb hF
    refine AWP.rg0 [(0,.call Tryz.func14 [] (Zjz c4 g3))] [(4,(vb c4))] (AWP.ret ?_)
    have hr:=someb hF
    subst hr
    exact(FnQ.f0 0 (.inr rfl))
   ·have hr:=someb hF
    subst hr
    exact hq
end Go.AM
set_option maxRecDepth 100000
namespace Go.AM
open Go
def Ok {α:Type} (x:Option α) (p:α→Prop):Prop:=∃ r,x=some r∧p r
theorem Ok.bind {α γ:Type} {x:Option α} {p:α→Prop} {f:α→Option γ} {q:γ→Prop} (h:Ok x p) (k:∀ v,p v→Ok (f v) q):Ok (x.bind f) q:=by
 obtain⟨v,rfl,hv⟩:=h
 exact k v hv
theorem Ok.ret {α:Type} {r:α} {p:α→Prop} (h:p r):Ok (some r) p:=⟨r,rfl,h⟩
theorem Ok.chk {α:Type} {c:Prop} [Decidable c] {x:Option α} {p:α→Prop} (hc:c) (h:Ok x p):Ok (if c then x else none) p:=by rw [if_pos hc]; exact h
theorem Ok.ite {α:Type} {c:Prop} [Decidable c] {x y:Option α} {p:α→Prop} (h1:c→Ok x p) (h2:¬ c→Ok y p):Ok (if c then x else y) p:=by
 split
 ·exact h1 (by assumption)
 ·exact h2 (by assumption)
theorem Ok.lift {α γ:Type} {b:α} {f:α→Option γ} {q:γ→Prop} (h:Ok (f b) q):Ok ((Option.some b).bind f) q:=h
theorem Ok.mono {α:Type} {x:Option α} {p q:α→Prop} (h:Ok x p) (k:∀ v,p v→q v):Ok x q:=by
 obtain⟨v,h1,h2⟩:=h
 exact⟨v,h1,k v h2⟩
theorem Ok.get {α:Type} {x:Option α} {p:α→Prop} (h:Ok x p) {r:α} (e:x=some r):p r:=by
 obtain⟨v,h1,h2⟩:=h
 rw [h1] at e; cases e; exact h2
theorem Ok.eq {α:Type} {x:Option α} {r:α} (h:Ok x (·=r)):x=some r:=by
 obtain⟨v,h1,rfl⟩:=h; exact h1
theorem Ok.idx {α:Type} {l:List α} {i:Int} {p:α→Prop} (h0:0≤i) (h1:i<l.length) (h:∀ x∈l,p x):Ok (idx l i) p:=by
 have hi:i.toNat<l.length:=by omega
 exact⟨l[i.toNat],by simp [AM.idx,h0,hi],h _ (List.getElem_mem hi)⟩
theorem Zaf {α:Type} {l:List α} {i:Nat} (h:i<l.length):AM.idx l (i:Int)=some l[i]:=by simp [AM.idx,h]
theorem wrap_u (k:IntKind) (b:Nat) (hs:k.signed=false) (hb:k.bits=b) (x:Int):k.wrap x=x % (2 ^ b:Int):=by
 subst hb; simp [IntKind.wrap,hs]
theorem wi64 {x:Int} (h0:-9223372036854775808≤x) (h1:x<9223372036854775808):IntKind.wrap .i64 x=x:=by
 simp only [IntKind.wrap,IntKind.bits,IntKind.signed]
 simp
 omega
theorem wu64 {x:Int} (h0:0≤x) (h1:x<18446744073709551616):IntKind.wrap .u64 x=x:=by
 simp only [IntKind.wrap,IntKind.bits,IntKind.signed]
 simp
 omega
theorem wu32 {x:Int} (h0:0≤x) (h1:x<4294967296):IntKind.wrap .u32 x=x:=by
 simp only [IntKind.wrap,IntKind.bits,IntKind.signed]
 simp
 omega
theorem Zgb (x:Int):0≤IntKind.wrap .u32 x∧IntKind.wrap .u32 x<4294967296:=by
 simp only [IntKind.wrap,IntKind.bits,IntKind.signed]
 simp
 omega
theorem Zr5 (x:Int):0≤IntKind.wrap .u16 x∧IntKind.wrap .u16 x<65536:=by
 simp only [IntKind.wrap,IntKind.bits,IntKind.signed]
 simp
 omega
theorem Zxi (x:Int):0≤IntKind.wrap .u64 x∧IntKind.wrap .u64 x<18446744073709551616:=by
 simp only [IntKind.wrap,IntKind.bits,IntKind.signed]
 simp
 omega
theorem Zy4 {k:Nat} (h:k<64):bShl .u64 1 (k:Int)=(2 ^ k:Nat):=by
 have h2:(2:Nat) ^ k<2 ^ 64:=Nat.pow_lt_pow_right (by omega) h
 unfold bShl
 have e:((1:Int) * 2 ^ min (k:Int).toNat (IntKind.bits .u64))=((2 ^ k:Nat):Int):=by
  rw [show IntKind.bits .u64=64 from rfl,Int.toNat_natCast,Nat.min_eq_left (by omega)]; simp
 have h3:((2 ^ k:Nat):Int)<18446744073709551616:=Int.ofNat_lt.2 h2
 rw [e]
 exact wu64 (Int.natCast_nonneg _) h3
structure TOk (t:Ze):Prop where
 h0:0≤t.f_i
 h1:t.f_i≤t.f_l.length
 h2:(t.f_l.length:Int)<9223372036854775808
theorem New_ok {l:List Int} (h:(l.length:Int)<9223372036854775808):Ok (Zjb l) TOk:=Ok.ret ⟨Int.le_refl 0,by simp,h⟩
theorem Mod_ok {x n:Int} (h1:1≤n) (h2:n<9223372036854775808):Ok (Zg9 x n) fun v=>0≤v∧v<n:=by
 unfold Zg9
 have hn:IntKind.wrap .u64 n=n:=wu64 (by omega) (by omega)
 rw [hn]
 have hx:=Zxi x
 have h3:0≤Int.tmod (IntKind.wrap .u64 x) n:=Int.tmod_nonneg _ hx.1
 have h4:Int.tmod (IntKind.wrap .u64 x) n<n:=Int.tmod_lt_of_pos _ (by omega)
 refine Ok.chk (by omega) (Ok.ret ?_)
 rw [wi64 (by omega) (by omega)]
 exact⟨h3,h4⟩
theorem Z0c {t:Ze} (ht:TOk t) (n:Int) (h2:n<9223372036854775808):Ok (Zt t n) fun r=>(0≤r.1∧(r.1<n∨r.1=0))∧TOk r.2:=by
 unfold Zt
 refine Ok.lift (Ok.ite (fun hc=>Ok.ret ⟨⟨by simp,.inr rfl⟩,ht⟩) fun hc=>?_)
 simp only [Bool.or_eq_true,decide_eq_true_eq] at hc
 have hc1:¬ n≤1:=fun h=>hc (.inl h)
 have hc2:¬ t.f_i ≥ t.f_l.length:=fun h=>hc (.inr h)
 have h0:=ht.h0
 have h1:=ht.h2
 have e1:IntKind.wrap .i64 (t.f_i + 1)=t.f_i + 1:=wi64 (by omega) (by omega)
 rw [e1]
 have e2:IntKind.wrap .i64 (t.f_i + 1 - 1)=t.f_i:=by rw [Int.add_sub_cancel]; exact wi64 (by omega) (by omega)
 rw [e2]
 refine Ok.bind (Ok.idx (p:=fun _=>True) h0 (by omega) fun _ _=>trivial) fun x _=>?_
 refine Ok.bind (Mod_ok (by omega) h2) fun v hv=>Ok.ret ⟨⟨hv.1,.inl hv.2⟩,?_⟩
 exact⟨by show 0≤t.f_i + 1; omega,by show t.f_i + 1≤t.f_l.length; omega,h1⟩
theorem Zcx {t:Ze} (ht:TOk t) (n:Int) (h1:1≤n) (h2:n<9223372036854775808):Ok (Zt t n) fun r=>(0≤r.1∧r.1<n)∧TOk r.2:=
 (Z0c ht n h2).mono fun r ⟨⟨h3,h4⟩,h5⟩=>⟨⟨h3,by omega⟩,h5⟩
def full:Arr5 Zb:=⟨⟨0,4294967295⟩,⟨0,4294967295⟩,⟨0,255⟩,⟨0,65535⟩,⟨0,65535⟩⟩
theorem Zws:Zha=some full:=by kernel_rfl
structure ROk (top:Int) (r:Zb):Prop where
 h0:0≤r.Lo
 h1:r.Lo≤r.Hi
 h2:r.Hi≤top
structure RIn (r:Zb):Prop where
 h0:0≤r.Lo
 h1:r.Lo<4294967296
 h2:0≤r.Hi
 h3:r.Hi<4294967296
theorem ROk.rin {top:Int} {r:Zb} (h:ROk top r) (ht:top<4294967296):RIn r:=⟨h.h0,by have:=h.h1; have:=h.h2; omega,by have:=h.h0; have:=h.h1; omega,by have:=h.h2; omega⟩
structure BOk (b:Arr5 Zb):Prop where
 h0:ROk 4294967295 b.x0
 h1:ROk 4294967295 b.x1
 h2:ROk 255 b.x2
 h3:ROk 65535 b.x3
 h4:ROk 65535 b.x4
structure BIn (b:Arr5 Zb):Prop where
 h0:RIn b.x0
 h1:RIn b.x1
 h2:RIn b.x2
 h3:RIn b.x3
 h4:RIn b.x4
theorem BOk.bin {b:Arr5 Zb} (h:BOk b):BIn b:=⟨h.h0.rin (by omega),h.h1.rin (by omega),h.h2.rin (by omega),h.h3.rin (by omega),h.h4.rin (by omega)⟩
theorem Zmr:BOk full:=⟨⟨by decide,by decide,by decide⟩,⟨by decide,by decide,by decide⟩,⟨by decide,by decide,by decide⟩,⟨by decide,by decide,by decide⟩,⟨by decide,by decide,by decide⟩⟩
def topOf (i:Int):Int:=if i=0 then 4294967295 else if i=1 then 4294967295 else if i=2 then 255 else 65535
theorem Top_eq (f:Int) (h0:0≤f) (h1:f<5):Ze6 f=some (topOf f):=by
 have hk:f=0∨f=1∨f=2∨f=3∨f=4:=by omega
 rcases hk with rfl | rfl | rfl | rfl | rfl <;> rfl
theorem fuel6:fuel=1180591620717411303418 + 6:=by kernel_rfl
theorem Zlu {t:Ze} (ht:TOk t) {top:Int} (h0:0≤top) (h1:top<4294967296):Ok (Zco t top) fun r=>(0≤r.1∧r.1≤top)∧TOk r.2:=by
 unfold Zco
 refine Ok.bind (Zcx ht 17 (by omega) (by omega)) fun r ⟨⟨h2,h3⟩,h4⟩=>?_
 have hw:=Zgb (Int.tdiv top 2)
 have hw2:=Zgb (top - 1)
 refine Ok.bind (Ok.idx (p:=fun x=>0≤x) h2 (by simpa using h3) fun x hx=>?_) fun x hx=>Ok.ret ⟨⟨?_,?_⟩,h4⟩
 ·simp only [List.mem_cons,List.not_mem_nil,or_false] at hx
  omega
 ·show 0≤iMin x top
  unfold iMin; split <;> omega
 ·show iMin x top≤top
  unfold iMin; split <;> omega
theorem Zqw {t:Ze} (ht:TOk t) {top:Int} (h0:0≤top) (h1:top<4294967296):Ok (Zdi t top) fun r=>ROk top r.1∧TOk r.2:=by
 unfold Zdi
 refine Ok.bind (Zlu ht h0 h1) fun r ⟨⟨h2,h3⟩,h4⟩=>Ok.bind (Zlu h4 h0 h1) fun s ⟨⟨h5,h6⟩,h7⟩=>Ok.ret ⟨⟨?_,?_,?_⟩,h7⟩
 ·show 0≤iMin r.1 s.1
  unfold iMin; split <;> omega
 ·show iMin r.1 s.1≤iMax r.1 s.1
  unfold iMin iMax; split <;> split <;> omega
 ·show iMax r.1 s.1≤top
  unfold iMax; split <;> omega
def subnets:List Zbl:=[⟨167772160,24⟩,⟨167772416,24⟩,⟨167772672,25⟩,⟨167772800,26⟩,⟨2886729728,16⟩,⟨3232237321,32⟩]
theorem Ztj {x:Int}:Ok (Zfw x) fun p=>p∈subnets:=by
 unfold Zfw
 refine Ok.bind (Mod_ok (by omega) (by omega)) fun r ⟨h0,h1⟩=>?_
 exact Ok.bind (Ok.idx (p:=fun p=>p∈subnets) h0 (by simpa using h1) fun x hx=>hx) fun x hx=>Ok.ret hx
theorem Of_ok {p:Zbl} (hp:p∈subnets):Ok (Zht p) fun r=>ROk 4294967295 r.1:=by
 simp only [subnets,List.mem_cons,List.not_mem_nil,or_false] at hp
 rcases hp with rfl | rfl | rfl | rfl | rfl | rfl
 ·exact⟨(⟨167772160,167772415⟩,true),by kernel_rfl,by decide,by decide,by decide⟩
 ·exact⟨(⟨167772416,167772671⟩,true),by kernel_rfl,by decide,by decide,by decide⟩
 ·exact⟨(⟨167772672,167772799⟩,true),by kernel_rfl,by decide,by decide,by decide⟩
 ·exact⟨(⟨167772800,167772863⟩,true),by kernel_rfl,by decide,by decide,by decide⟩
 ·exact⟨(⟨2886729728,2886795263⟩,true),by kernel_rfl,by decide,by decide,by decide⟩
 ·exact⟨(⟨3232237321,3232237321⟩,true),by kernel_rfl,by decide,by decide,by decide⟩
theorem Zms {t:Ze} (ht:TOk t):Ok (Zcp t) fun r=>(0≤r.1∧r.1≤4294967295)∧TOk r.2:=by
 unfold Zcp
 refine Ok.bind (Zcx ht 5 (by omega) (by omega)) fun r ⟨⟨h2,h3⟩,h4⟩=>Ok.ite (fun _=>?_) fun _=>?_
 ·refine Ok.bind (Zcx h4 6 (by omega) (by omega)) fun r ⟨⟨h2,h3⟩,h4⟩=>?_
  refine Ok.bind (Ok.idx (p:=fun x=>0≤x∧x≤4294967295) h2 (by simpa using h3) fun x hx=>?_) fun x hx=>Ok.ret ⟨hx,h4⟩
  simp only [List.mem_cons,List.not_mem_nil,or_false] at hx
  omega
 ·refine Ok.bind (Zcx h4 6 (by omega) (by omega)) fun r ⟨⟨h2,h3⟩,h4⟩=>Ok.bind Ztj fun p hp=>Ok.bind (Of_ok hp) fun q hq=>?_
  refine Ok.bind (Zcx h4 5 (by omega) (by omega)) fun r ⟨⟨h2,h3⟩,h4⟩=>?_
  refine Ok.bind (Ok.idx (p:=fun x=>0≤x∧x≤4294967295) h2 (by simpa using h3) fun x hx=>?_) fun x hx=>Ok.ret ⟨hx,h4⟩
  have g0:=hq.h0
  have g1:=hq.h1
  have g2:=hq.h2
  have w1:=Zgb (q.1.Lo + 5)
  have w2:=Zgb (q.1.Hi + 1)
  have w3:=Zgb (q.1.Lo - 1)
  simp only [List.mem_cons,List.not_mem_nil,or_false] at hx
  omega
theorem Zk8 {t:Ze} (ht:TOk t):Ok (Zcl t) fun r=>ROk 4294967295 r.1∧TOk r.2:=by
 unfold Zcl
 refine Ok.bind (Zcx ht 4 (by omega) (by omega)) fun r ⟨⟨h2,h3⟩,h4⟩=>Ok.ite (fun _=>?_) fun _=>Ok.ite (fun _=>?_) fun _=>Ok.ite (fun _=>?_) fun _=>?_
 ·exact Ok.bind (Zcx h4 6 (by omega) (by omega)) fun r ⟨⟨h2,h3⟩,h4⟩=>Ok.bind Ztj fun p hp=>Ok.bind (Of_ok hp) fun q hq=>Ok.ret ⟨hq,h4⟩
 ·refine Ok.bind (Zms h4) fun a ⟨⟨a1,a2⟩,a3⟩=>Ok.bind (Zms a3) fun b ⟨⟨b1,b2⟩,b3⟩=>Ok.ret ⟨⟨?_,?_,?_⟩,b3⟩
  ·show 0≤iMin a.1 b.1
   unfold iMin; split <;> omega
  ·show iMin a.1 b.1≤iMax a.1 b.1
   unfold iMin iMax; split <;> split <;> omega
  ·show iMax a.1 b.1≤4294967295
   unfold iMax; split <;> omega
 ·exact Ok.bind (Zms h4) fun a ⟨⟨a1,a2⟩,a3⟩=>Ok.ret ⟨⟨a1,Int.le_refl _,a2⟩,a3⟩
 ·exact Ok.ret ⟨⟨Int.le_refl _,(by decide:(0:Int)≤4294967295),Int.le_refl _⟩,h4⟩
theorem Ztk:∀(n:Nat) (t:Ze) (b:Arr5 Zb) (i:Int),TOk t→BOk b→i≤n→0≤i→i<100→Ok (Zcq (n + 1) t b i) fun r=>TOk r.1∧BOk r.2
 | 0,t,b,i,ht,hb,hi,h0,h9=>by
  rw [Zcq]
  exact Ok.ite (fun hc=>absurd (of_decide_eq_true hc) (by omega)) fun _=>Ok.ret ⟨ht,hb⟩
 | n + 1,t,b,i,ht,hb,hi,h0,h9=>by
  rw [Zcq]
  refine Ok.ite (fun hc=>?_) fun _=>Ok.ret ⟨ht,hb⟩
  have hc:=of_decide_eq_true hc
  refine Ok.bind (p:=fun r=>TOk r.1∧BOk r.2) ?_ fun r ⟨h1,h2⟩=>?_
  ·refine Ok.bind (Zcx ht 5 (by omega) (by omega)) fun r ⟨_,h4⟩=>Ok.ite (fun _=>?_) fun _=>Ok.ite (fun _=>?_) fun _=>Ok.ite (fun _=>?_) fun _=>Ok.ite (fun _=>?_) fun _=>?_
   ·exact Ok.bind (Zk8 h4) fun q ⟨g1,g2⟩=>Ok.ret ⟨g2,⟨g1,hb.h1,hb.h2,hb.h3,hb.h4⟩⟩
   ·exact Ok.bind (Zk8 h4) fun q ⟨g1,g2⟩=>Ok.ret ⟨g2,⟨hb.h0,g1,hb.h2,hb.h3,hb.h4⟩⟩
   ·refine Ok.bind (Zcx h4 6 (by omega) (by omega)) fun r ⟨⟨h2,h3⟩,h4⟩=>?_
    refine Ok.bind (Ok.idx (p:=fun x=>0≤x∧x≤255) h2 (by simpa using h3) fun x hx=>?_) fun x hx=>Ok.ret ⟨h4,⟨hb.h0,hb.h1,⟨hx.1,Int.le_refl _,hx.2⟩,hb.h3,hb.h4⟩⟩
    simp only [List.mem_cons,List.not_mem_nil,or_false] at hx
    omega
   ·exact Ok.bind (Zqw h4 (by omega) (by omega)) fun q ⟨g1,g2⟩=>Ok.ret ⟨g2,⟨hb.h0,hb.h1,hb.h2,g1,hb.h4⟩⟩
   ·exact Ok.bind (Zqw h4 (by omega) (by omega)) fun q ⟨g1,g2⟩=>Ok.ret ⟨g2,⟨hb.h0,hb.h1,hb.h2,hb.h3,g1⟩⟩
  ·obtain⟨r1,r2⟩:=r
   show Ok (Zcq (n + 1) r1 r2 (IntKind.wrap .i64 (i - 1))) _
   rw [wi64 (by omega) (by omega)]
   exact Ztk n r1 r2 (i - 1) h1 h2 (by omega) (by omega) (by omega)
theorem Box_ok {t:Ze} (ht:TOk t):Ok (Zf4 t) fun r=>BOk r.1∧TOk r.2:=by
 unfold Zf4
 rw [Zws]
 refine Ok.lift (Ok.bind (Zcx ht 3 (by omega) (by omega)) fun r ⟨⟨h2,h3⟩,h4⟩=>?_)
 have e:IntKind.wrap .i64 (1 + r.1)=1 + r.1:=wi64 (by omega) (by omega)
 rw [e]
 refine Ok.bind (Ztk 1180591620717411303423 r.2 full (1 + r.1) h4 Zmr (by omega) (by omega) (by omega)) fun q ⟨g1,g2⟩=>?_
 obtain⟨q1,q2⟩:=q
 exact Ok.ret ⟨g2,g1⟩
theorem five {k:Int} (h0:0≤k) (h1:k<5):k=0∨k=1∨k=2∨k=3∨k=4:=by omega
theorem wnext {k:Int} (h0:0≤k) (h1:k<1000000):IntKind.wrap .i64 (k + (1:Int))=k + 1:=wi64 (by omega) (by omega)
def sideBad (top:Int) (r:Zb):Bool:=decide (r.Lo > r.Hi) || decide (r.Hi > top)
theorem Zy5 {k:Int} (h0:0≤k) (h1:k<5):Arr5.get Za5 k=topOf k:=by
 rcases five h0 h1 with rfl | rfl | rfl | rfl | rfl <;> rfl
theorem vstep (b:Arr5 Zb) (n:Nat) {k:Int} (h0:0≤k) (h1:k<5):Zar b (n + 1) k=if sideBad (topOf k) (b.get k)=true then some (.inr false) else Zar b n (k + 1):=by
 rw [Zar,if_pos (decide_eq_true h1),if_pos ⟨h0,h1⟩,if_pos ⟨h0,h1⟩,Zy5 h0 h1,wnext h0 (by omega)]
 unfold sideBad
 cases decide ((b.get k).Lo > (b.get k).Hi) <;> simp
theorem rvstep (b:Arr5 Zb) (n:Nat) {k:Int} (h0:0≤k) (h1:k<5):Zaa b (n + 1) k=if sideBad (topOf k) (b.get k)=true then some (.inr false) else Zaa b n (k + 1):=by
 rw [Zaa,if_pos (decide_eq_true h1),if_pos ⟨h0,h1⟩,if_pos ⟨h0,h1⟩,if_pos ⟨h0,h1⟩,Top_eq k h0 h1,wnext h0 (by omega)]
 unfold sideBad
 cases decide ((b.get k).Lo > (b.get k).Hi) <;> simp
def vB (b:Arr5 Zb):Bool:=
 if sideBad 4294967295 b.x0=true then false else if sideBad 4294967295 b.x1=true then false else if sideBad 255 b.x2=true then false else if sideBad 65535 b.x3=true then false else if sideBad 65535 b.x4=true then false else true
theorem Zm7 (b:Arr5 Zb):Zgc b=some (vB b):=by
 unfold Zgc
 rw [fuel6]
 generalize (1180591620717411303418:Nat)=m
 have s0:Zar b (m + 6) 0=if sideBad 4294967295 b.x0=true then some (.inr false) else Zar b (m + 5) 1:=vstep b (m + 5) (by omega) (by omega)
 have s1:Zar b (m + 5) 1=if sideBad 4294967295 b.x1=true then some (.inr false) else Zar b (m + 4) 2:=vstep b (m + 4) (by omega) (by omega)
 have s2:Zar b (m + 4) 2=if sideBad 255 b.x2=true then some (.inr false) else Zar b (m + 3) 3:=vstep b (m + 3) (by omega) (by omega)
 have s3:Zar b (m + 3) 3=if sideBad 65535 b.x3=true then some (.inr false) else Zar b (m + 2) 4:=vstep b (m + 2) (by omega) (by omega)
 have s4:Zar b (m + 2) 4=if sideBad 65535 b.x4=true then some (.inr false) else Zar b (m + 1) 5:=vstep b (m + 1) (by omega) (by omega)
 have s5:Zar b (m + 1) 5=some (.inl ()):=by rw [Zar]; rfl
 rw [s0,s1,s2,s3,s4,s5]
 unfold vB
 repeat' split
 all_goals first | rfl | (simp_all; done) | skip
theorem Zke (b:Arr5 Zb):Zdq b=some (vB b):=by
 unfold Zdq
 rw [fuel6]
 generalize (1180591620717411303418:Nat)=m
 have s0:Zaa b (m + 6) 0=if sideBad 4294967295 b.x0=true then some (.inr false) else Zaa b (m + 5) 1:=rvstep b (m + 5) (by omega) (by omega)
 have s1:Zaa b (m + 5) 1=if sideBad 4294967295 b.x1=true then some (.inr false) else Zaa b (m + 4) 2:=rvstep b (m + 4) (by omega) (by omega)
 have s2:Zaa b (m + 4) 2=if sideBad 255 b.x2=true then some (.inr false) else Zaa b (m + 3) 3:=rvstep b (m + 3) (by omega) (by omega)
 have s3:Zaa b (m + 3) 3=if sideBad 65535 b.x3=true then some (.inr false) else Zaa b (m + 2) 4:=rvstep b (m + 2) (by omega) (by omega)
 have s4:Zaa b (m + 2) 4=if sideBad 65535 b.x4=true then some (.inr false) else Zaa b (m + 1) 5:=rvstep b (m + 1) (by omega) (by omega)
 have s5:Zaa b (m + 1) 5=some (.inl ()):=by rw [Zaa]; rfl
 rw [s0,s1,s2,s3,s4,s5]
 unfold vB
 repeat' split
 all_goals first | rfl | (simp_all; done) | skip
theorem vB_ok {b:Arr5 Zb} (hb:BIn b) (h:vB b=true):BOk b:=by
 unfold vB sideBad at h
 simp only [Bool.or_eq_true,decide_eq_true_eq] at h
 split at h; · cases h
 split at h; · cases h
 split at h; · cases h
 split at h; · cases h
 split at h; · cases h
 exact⟨⟨hb.h0.h0,by omega,by omega⟩,⟨hb.h1.h0,by omega,by omega⟩,⟨hb.h2.h0,by omega,by omega⟩,⟨hb.h3.h0,by omega,by omega⟩,⟨hb.h4.h0,by omega,by omega⟩⟩
theorem ok_vB {b:Arr5 Zb} (h:BOk b):vB b=true:=by
 obtain⟨⟨_,a1,a2⟩,⟨_,b1,b2⟩,⟨_,c1,c2⟩,⟨_,d1,d2⟩,⟨_,e1,e2⟩⟩:=h
 unfold vB sideBad
 simp only [Bool.or_eq_true,decide_eq_true_eq]
 rw [if_neg (by omega),if_neg (by omega),if_neg (by omega),if_neg (by omega),if_neg (by omega)]
theorem BIn.get {b:Arr5 Zb} (h:BIn b) (k:Int):RIn (b.get k):=by
 unfold Arr5.get
 split
 ·exact h.h0
 split
 ·exact h.h1
 split
 ·exact h.h2
 split
 ·exact h.h3
 ·exact h.h4
theorem BIn.set {b:Arr5 Zb} (h:BIn b) {r:Zb} (hr:RIn r) (k:Int):BIn (b.set k r):=by
 unfold Arr5.set
 split
 ·exact⟨hr,h.h1,h.h2,h.h3,h.h4⟩
 split
 ·exact⟨h.h0,hr,h.h2,h.h3,h.h4⟩
 split
 ·exact⟨h.h0,h.h1,hr,h.h3,h.h4⟩
 split
 ·exact⟨h.h0,h.h1,h.h2,hr,h.h4⟩
 ·exact⟨h.h0,h.h1,h.h2,h.h3,hr⟩
theorem BIn.setHi {b:Arr5 Zb} (h:BIn b) {v:Int} (h0:0≤v) (h1:v<4294967296) (k:Int):BIn (b.set k { (b.get k) with Hi:=v }):=by
 have hg:=h.get k
 generalize b.get k=r at hg ⊢
 exact BIn.set h (r:=⟨r.Lo,v⟩) (RIn.mk hg.h0 hg.h1 h0 h1) k
theorem BIn.setLo {b:Arr5 Zb} (h:BIn b) {v:Int} (h0:0≤v) (h1:v<4294967296) (k:Int):BIn (b.set k { (b.get k) with Lo:=v }):=by
 have hg:=h.get k
 generalize b.get k=r at hg ⊢
 exact BIn.set h (r:=⟨v,r.Hi⟩) (RIn.mk h0 h1 hg.h2 hg.h3) k
theorem Zpx {t:Ze} (ht:TOk t) {b:Arr5 Zb} (hb:BIn b):Ok (Zde t b) fun r=>BIn r.1∧TOk r.2:=by
 unfold Zde
 refine Ok.bind (Zcx ht 5 (by omega) (by omega)) fun r1 ⟨⟨h2,h3⟩,h4⟩=>?_
 refine Ok.bind (p:=fun o=>TOk o.1∧BIn o.2) ?_ fun o ⟨g1,g2⟩=>Ok.ret ⟨g2,g1⟩
 refine Ok.bind (Zcx h4 3 (by omega) (by omega)) fun r20 ⟨_,h6⟩=>?_
 have hk:0≤r1.1∧r1.1<5:=⟨h2,h3⟩
 have hg:=hb.get r1.1
 refine Ok.ite (fun _=>?_) fun _=>Ok.ite (fun _=>?_) fun _=>?_
 ·refine Ok.chk hk (Ok.chk hk (Ok.chk hk (Ok.chk hk (Ok.ret ⟨h6,?_⟩))))
  exact(hb.setLo hg.h2 hg.h3 _).setHi hg.h0 hg.h1 _
 ·exact Ok.chk hk (Ok.ret ⟨h6,hb.setHi (by decide) (by decide) _⟩)
 ·exact Ok.chk hk (Ok.ret ⟨h6,hb.set ⟨by decide,by decide,by decide,by decide⟩ _⟩)
def GB (wild:Bool) (b:Arr5 Zb):Prop:=BIn b∧(wild=false→BOk b)
theorem Zpy (wild:Bool):∀(n:Nat) (t:Ze) (l:List (Arr5 Zb)) (i:Int),TOk t→(∀ x∈l,GB wild x)→i≤n→0≤i→i<100→(l.length:Int) + i<1000 →
  Ok (Zb8 wild (n + 1) t l i) fun r=>TOk r.1∧(∀ x∈r.2,GB wild x)∧(r.2.length:Int)=l.length + i
 | 0,t,l,i,ht,hl,hi,h0,h9,hlen=>by
  rw [Zb8]
  exact Ok.ite (fun hc=>absurd (of_decide_eq_true hc) (by omega)) fun _=>Ok.ret ⟨ht,hl,by show (l.length:Int)=_; omega⟩
 | n + 1,t,l,i,ht,hl,hi,h0,h9,hlen=>by
  rw [Zb8]
  refine Ok.ite (fun hc=>?_) fun hc=>Ok.ret ⟨ht,hl,by simp at hc; show (l.length:Int)=_; omega⟩
  have hc:=of_decide_eq_true hc
  refine Ok.bind (p:=fun r=>TOk r.1∧(∀ x∈r.2,GB wild x)∧r.2.length=l.length + 1) ?_ fun r ⟨h1,h2,h3⟩=>?_
  ·refine Ok.bind (Box_ok ht) fun q ⟨g1,g2⟩=>?_
   refine Ok.bind (p:=fun o=>TOk o.1∧GB wild o.2) ?_ fun o ⟨k1,k2⟩=>?_
   ·refine Ok.lift ?_
    refine Ok.bind (p:=fun v=>TOk v.2∧(v.1=true→wild=true)) ?_ fun v ⟨k1,k2⟩=>?_
    ·refine Ok.ite (fun hw=>?_) fun _=>Ok.ret ⟨g2,fun h=>by cases h⟩
     exact Ok.bind (Zcx g2 8 (by omega) (by omega)) fun r190 ⟨_,h6⟩=>Ok.ret ⟨h6,fun _=>hw⟩
    ·refine Ok.ite (fun hv=>?_) fun _=>Ok.ret ⟨k1,g1.bin,fun _=>g1⟩
     refine Ok.bind (Zpx k1 g1.bin) fun r196 ⟨m1,m2⟩=>Ok.ret ⟨m2,m1,fun hw=>?_⟩
     rw [k2 hv] at hw; cases hw
   ·obtain⟨o1,o2⟩:=o
    refine Ok.chk (by simp only [List.length_singleton]; unfold lim; omega) (Ok.ret ⟨k1,fun x hx=>?_,by simp⟩)
    rcases List.mem_append.1 hx with hx | hx
    ·exact hl x hx
    ·simp only [List.mem_singleton] at hx; subst hx; exact k2
  ·obtain⟨r1,r2⟩:=r
   simp only at h1 h2 h3
   show Ok (Zb8 wild (n + 1) r1 r2 (IntKind.wrap .i64 (i - 1))) _
   rw [wi64 (by omega) (by omega)]
   refine(Zpy wild n r1 r2 (i - 1) h1 h2 (by omega) (by omega) (by omega) (by omega)).mono fun v ⟨e1,e2,e3⟩=>⟨e1,e2,?_⟩
   omega
theorem Zy6 (wild:Bool) {t:Ze} (ht:TOk t) {n:Int} (h0:0≤n) (h1:n<90):Ok (Zfc t n wild) fun r=>(∀ x∈r.1,GB wild x)∧(r.1.length:Int)≤n∧TOk r.2:=by
 unfold Zfc
 rw [wi64 (x:=n + 1) (by omega) (by omega)]
 refine Ok.bind (Zcx ht (n + 1) (by omega) (by omega)) fun r ⟨⟨h2,h3⟩,h4⟩=>?_
 refine Ok.bind (Zpy wild 1180591620717411303423 r.2 [] r.1 h4 (by simp) (by omega) h2 (by omega) (by simp; omega)) fun q ⟨g1,g2,g3⟩=>?_
 obtain⟨q1,q2⟩:=q
 refine Ok.ret ⟨g2,?_,g1⟩
 simp at g3
 show (q2.length:Int)≤n
 omega
theorem Zm8 (m:Nat) (h:m≤1000000000000):∃ n,fuel=n + m + 1:=⟨fuel - m - 1,by unfold fuel; omega⟩
theorem Z0d {t:List Int} (h:Zqg t):(t.length:Int)<9223372036854775808:=by have:=h.1; omega
end Go.AM
set_option maxRecDepth 100000
namespace Go.AM
open Go
theorem Ztl {ρ:Type} {L:Nat→Int→Option (Unit ⊕ ρ)} {bad:Int→Bool} {v:ρ}
  (step:∀ n (k:Int),0≤k→k<5→L (n + 1) k=if bad k=true then some (.inr v) else L n (k + 1)) (stop:∀ n,L (n + 1) 5=some (.inl ())) :
  L fuel 0=some (if (bad 0 || bad 1 || bad 2 || bad 3 || bad 4)=true then .inr v else .inl ()):=by
 rw [fuel6]
 rw [step _ 0 (by omega) (by omega),step _ (0 + 1) (by omega) (by omega),step _ (0 + 1 + 1) (by omega) (by omega),step _ (0 + 1 + 1 + 1) (by omega) (by omega),step _ (0 + 1 + 1 + 1 + 1) (by omega) (by omega)]
 rw [show (0:Int) + 1 + 1 + 1 + 1 + 1=5 from rfl,stop,show (0:Int) + 1=1 from rfl,show (1:Int) + 1=2 from rfl,show (2:Int) + 1=3 from rfl,show (3:Int) + 1=4 from rfl]
 cases bad 0 <;> cases bad 1 <;> cases bad 2 <;> cases bad 3 <;> cases bad 4 <;> rfl
theorem Zor {σ ρ:Type} {L:Nat→σ→Int→Option ρ} {f:σ→Int→σ} {fin:σ→ρ}
  (step:∀ n s (k:Int),0≤k→k<5→L (n + 1) s k=L n (f s k) (k + 1)) (stop:∀ n s,L (n + 1) s 5=some (fin s)) (s:σ) :
  L fuel s 0=some (fin (f (f (f (f (f s 0) 1) 2) 3) 4)):=by
 rw [fuel6]
 rw [step _ _ 0 (by omega) (by omega),step _ _ (0 + 1) (by omega) (by omega),step _ _ (0 + 1 + 1) (by omega) (by omega),step _ _ (0 + 1 + 1 + 1) (by omega) (by omega),step _ _ (0 + 1 + 1 + 1 + 1) (by omega) (by omega)]
 rw [show (0:Int) + 1 + 1 + 1 + 1 + 1=5 from rfl,stop,show (0:Int) + 1=1 from rfl,show (1:Int) + 1=2 from rfl,show (2:Int) + 1=3 from rfl,show (3:Int) + 1=4 from rfl]
theorem Z0e {σ ρ:Type} {L:Nat→σ→Int→Option ρ} {I:σ→Prop} {q:ρ→Prop}
  (step:∀ n s (k:Int),0≤k→k<5→I s→(∀ s',I s'→Ok (L n s' (k + 1)) q)→Ok (L (n + 1) s k) q) (stop:∀ n s,I s→Ok (L (n + 1) s 5) q) (s:σ) (hs:I s):Ok (L fuel s 0) q:=by
 rw [fuel6]
 refine step _ _ 0 (by omega) (by omega) hs fun s hs=>?_
 refine step _ _ 1 (by omega) (by omega) hs fun s hs=>?_
 refine step _ _ 2 (by omega) (by omega) hs fun s hs=>?_
 refine step _ _ 3 (by omega) (by omega) hs fun s hs=>?_
 refine step _ _ 4 (by omega) (by omega) hs fun s hs=>?_
 exact stop _ _ hs
theorem wsucc {i:Nat} (h:i<1000000000001):IntKind.wrap .i64 ((i:Int) + (1:Int))=((i + 1:Nat):Int):=by
 rw [wi64 (by omega) (by omega)]; omega
def findI {α ρ:Type} (g:Nat→α→Option ρ):Nat→List α→Option ρ
 | _,[]=>none
 | i,x :: xs=>match g i x with
  | some r=>some r
  | none=>findI g (i + 1) xs
def orS {ρ:Type}:Option ρ→Unit ⊕ ρ
 | some r=>.inr r
 | none=>.inl ()
theorem Zh3 {α ρ:Type} {L:Nat→Int→Option (Unit ⊕ ρ)} (l:List α) (g:Nat→α→Option ρ) (hl:l.length≤1000000000000)
  (step:∀ n (i:Nat) (h:i<l.length),L (n + 1) (i:Int)=match g i l[i] with
   | some r=>some (.inr r)
   | none=>L n ((i + 1:Nat):Int))
  (stop:∀ n,L (n + 1) (l.length:Int)=some (.inl ())):L fuel 0=some (orS (findI g 0 l)):=by
 have key:∀(m n i:Nat),i + m=l.length→L (n + m + 1) (i:Int)=some (orS (findI g i (l.drop i))):=by
  intro m
  induction m with
  | zero=>
   intro n i h
   have hi:i=l.length:=by omega
   subst hi
   rw [List.drop_length]
   exact stop _
  | succ m ih=>
   intro n i h
   have hi:i<l.length:=by omega
   rw [show n + (m + 1) + 1=(n + m + 1) + 1 by omega,step _ i hi,List.drop_eq_getElem_cons hi]
   simp only [findI]
   cases hg:g i l[i] with
   | some r=>rfl
   | none=>exact ih n (i + 1) (by omega)
 obtain⟨f,hf⟩:=Zm8 l.length hl
 rw [hf]
 exact key l.length f 0 (by omega)
def foldI {α σ:Type} (f:σ→Nat→α→σ):σ→Nat→List α→σ
 | s,_,[]=>s
 | s,i,x :: xs=>foldI f (f s i x) (i + 1) xs
theorem Zc7 {α σ ρ:Type} {L:Nat→σ→Int→Option ρ} (l:List α) (f:σ→Nat→α→σ) (fin:σ→ρ) (I:Nat→σ→Prop) (hl:l.length≤1000000000000)
  (step:∀ n s (i:Nat) (h:i<l.length),I i s→L (n + 1) s (i:Int)=L n (f s i l[i]) ((i + 1:Nat):Int)∧I (i + 1) (f s i l[i]))
  (stop:∀ n s,I l.length s→L (n + 1) s (l.length:Int)=some (fin s)) (s:σ) (hs:I 0 s):L fuel s 0=some (fin (foldI f s 0 l))∧I l.length (foldI f s 0 l):=by
 have key:∀(m n i:Nat) (s:σ),I i s→i + m=l.length→L (n + m + 1) s (i:Int)=some (fin (foldI f s i (l.drop i)))∧I l.length (foldI f s i (l.drop i)):=by
  intro m
  induction m with
  | zero=>
   intro n i s hs h
   have hi:i=l.length:=by omega
   subst hi
   rw [List.drop_length]
   exact⟨stop _ _ hs,hs⟩
  | succ m ih=>
   intro n i s hs h
   have hi:i<l.length:=by omega
   obtain⟨h1,h2⟩:=step (n + m + 1) s i hi hs
   rw [show n + (m + 1) + 1=(n + m + 1) + 1 by omega,h1,List.drop_eq_getElem_cons hi]
   simp only [foldI]
   exact ih n (i + 1) _ h2 (by omega)
 obtain⟨g,hg⟩:=Zm8 l.length hl
 rw [hg]
 exact key l.length g 0 s hs (by omega)
theorem Z0f {α σ ρ:Type} {L:Nat→σ→Int→Option ρ} (l:List α) (I:Nat→σ→Prop) {q:ρ→Prop} (hl:l.length≤1000000000000)
  (step:∀ n s (i:Nat),i<l.length→I i s→(∀ s',I (i + 1) s'→Ok (L n s' ((i + 1:Nat):Int)) q)→Ok (L (n + 1) s (i:Int)) q)
  (stop:∀ n s,I l.length s→Ok (L (n + 1) s (l.length:Int)) q) (s:σ) (hs:I 0 s):Ok (L fuel s 0) q:=by
 have key:∀(m n i:Nat) (s:σ),I i s→i + m=l.length→Ok (L (n + m + 1) s (i:Int)) q:=by
  intro m
  induction m with
  | zero=>
   intro n i s hs h
   have hi:i=l.length:=by omega
   subst hi
   exact stop _ _ hs
  | succ m ih=>
   intro n i s hs h
   rw [show n + (m + 1) + 1=(n + m + 1) + 1 by omega]
   exact step _ s i (by omega) hs fun s' hs'=>ih n (i + 1) s' hs' (by omega)
 obtain⟨g,hg⟩:=Zm8 l.length hl
 rw [hg]
 exact key l.length g 0 s hs (by omega)
theorem Zi0 {α β:Type} (g:α→β):∀(l:List α) (acc:List β) (i:Nat),foldI (fun s _ x=>s++[g x]) acc i l=acc++l.map g
 | [],acc,i=>by simp [foldI]
 | x :: xs,acc,i=>by simp only [foldI]; rw [Zi0 g xs]; simp
theorem Zr6 {α β:Type} (g:α→List β):∀(l:List α) (acc:List β) (i:Nat),foldI (fun s _ x=>s++g x) acc i l=acc++l.flatMap g
 | [],acc,i=>by simp [foldI]
 | x :: xs,acc,i=>by simp only [foldI]; rw [Zr6 g xs]; simp
end Go.AM

/- Parts of a proof, printed short. No condition. -/
import Derived.Test.YtkeeaccnnljimaaDoorProg
import Derived.Sort.AssemblyPlain
import Derived.Test.YtkeeaccnnljimaaDoorInQ3
set_option maxRecDepth 100000
namespace Go.AM
open Go Go.Proofs
def Zek (a:List Value) (r:(List Int)):PV→List Blk→Prop:=fun p K=>p=(.tup [])∧K=[.cells (cel Zc r a)]
abbrev Zf7 (a:List Value) (r:(List Int)):Exit→St→List Blk→Prop:=FnQ Tryd.prog Tryd.f92.results 1 (Zek a r)
theorem Zhx:∀(nr:Nat) (g:Nat) (a1:(List Int)) (d:List Value) (v:Int) (w:Int) (x:Int) (r:(List Int)) (hF:Z1 nr g a1 v w x=some r),ACall Tryd.prog glob 92 [(.vw 0 0 g),(i64 v),(i64 w),(i64 x)] [.cells (cel Zc a1 d)] (Zek d r):=by
 intro nr
 induction nr with
 | zero=>intro g a1 d v w x r hF; exact noneb (by rw [Z1] at hF; exact hF)
 | succ nr ih=>
  intro g a1 d v w x r hF
  refine ACall.body Tryd.func92 rfl (by kernel_rfl) ?_
  rw [Z1] at hF
  refine AWP.seq (AWP.rg0 [] [(0,(.vw 0 0 g)),(1,(i64 v)),(2,(i64 w)),(3,(i64 x)),(8,(vb true))] (AWP.seq (AWP.rg0 [] [(0,(.vw 0 0 g)),(1,(i64 v)),(2,(i64 w)),(3,(i64 x)),(8,(vb true)),(9,(vb true))] ?_)))
  obtain⟨b3,b9,hF⟩:=bindb hF
  refine AWP.mid (fun e st H=>(e=.ret∧∃ r,b3=r∧Zf7 d r e st H)) ?_ ?_
  ·clear hF
   refine AWP.kp [0,1,2,3,8,9] 1 ?_
   refine AWP.bround (fun n st H=>∃ o,∃ b,∃ a,∃ l,∃ j,∃ k,Zao g (Z1 nr) n o b a l j k=some b3∧st=[(0,(.vw 0 0 g)),(1,(i64 b)),(2,(i64 a)),(3,(i64 l)),(8,(vb j)),(9,(vb k))]∧H=[.cells (cel Zc o d)]) fuel ⟨a1,v,w,x,true,true,b9,by kernel_rfl,by kernel_rfl⟩ ?_
   rintro a2 st H ⟨o,b,a,l,j,k,hF,rfl,rfl⟩
   cases a2 with
   | zero=>exact noneb hF
   | succ a2=>
    rw [Zao] at hF
    refine AWP.block (AWP.seq (AWP.rg0 [] [(0,(.vw 0 0 g)),(1,(i64 b)),(2,(i64 a)),(3,(i64 l)),(8,(vb j)),(9,(vb k)),(10,(i64 (ZI (a - b))))] (AWP.seq (AWP.seq (AWP.rg0 [] [(0,(.vw 0 0 g)),(1,(i64 b)),(2,(i64 a)),(3,(i64 l)),(8,(vb j)),(9,(vb k)),(10,(i64 (ZI (a - b)))),(23,(vb (decide ((ZI (a - b))≤(12:Int)))))] ?_)))))
    refine AWP.cif hF (fun c0 hF=>?_) (fun c0 hF=>?_)
    ·refine AWP.seq ?_
     obtain⟨a5,c1,hF⟩:=bindb hF
     refine AWP.rg [(3,.callC Tryd.func94 [] (closedH.c (Zy (row:=Zc) (fun _=>rfl) o d) closedH.n) (closedH.c (Zy (row:=Zc) (fun _=>rfl) a5 d) closedH.n) (Zg1 g o d b a a5 c1))] [] [.cells (cel Zc a5 d)] (AWP.ret ?_)
     exact LeQ.of ⟨rfl,a5,(someb hF).symm,(FnQ.f0 1 (.inr rfl))⟩
    ·refine AWP.skip (AWP.seq (AWP.seq (AWP.rg0 [] [(0,(.vw 0 0 g)),(1,(i64 b)),(2,(i64 a)),(3,(i64 l)),(8,(vb j)),(9,(vb k)),(10,(i64 (ZI (a - b)))),(29,(vb (l == (0:Int))))] ?_)))
     refine AWP.cif hF (fun c2 hF=>?_) (fun c2 hF=>?_)
     ·refine AWP.seq ?_
      obtain⟨a6,c3,hF⟩:=bindb hF
      refine AWP.rg [(3,.callC Tryd.func95 [] (closedH.c (Zy (row:=Zc) (fun _=>rfl) o d) closedH.n) (closedH.c (Zy (row:=Zc) (fun _=>rfl) a6 d) closedH.n) (Zh9 g o d b a a6 c3))] [] [.cells (cel Zc a6 d)] (AWP.ret ?_)
      exact LeQ.of ⟨rfl,a6,(someb hF).symm,(FnQ.f0 1 (.inr rfl))⟩
     ·refine AWP.skip ?_
      obtain⟨c4,c5,hF⟩:=bindb hF
      refine AWP.seq ?_
      refine AWP.mid (fun e st H=>(e=.normal∧∃ q,∃ i,c4=(q,i)∧st=[(0,(.vw 0 0 g)),(1,(i64 b)),(2,(i64 a)),(3,(i64 i)),(8,(vb j)),(9,(vb k)),(10,(i64 (ZI (a - b))))]∧H=[.cells (cel Zc q d)])) ?_ ?_
      ·clear hF
       have hF:=c5
       refine AWP.seq (AWP.rg0 [] [(0,(.vw 0 0 g)),(1,(i64 b)),(2,(i64 a)),(3,(i64 l)),(8,(vb j)),(9,(vb k)),(10,(i64 (ZI (a - b)))),(35,(vb (!j)))] ?_)
       refine AWP.cif hF (fun c6 hF=>?_) (fun c6 hF=>?_)
       ·refine AWP.seq ?_
        obtain⟨a7,c7,hF⟩:=bindb hF
        refine AWP.rg [(3,.callC Tryd.func96 [] (closedH.c (Zy (row:=Zc) (fun _=>rfl) o d) closedH.n) (closedH.c (Zy (row:=Zc) (fun _=>rfl) a7 d) closedH.n) (Zg3 g o d b a a7 c7))] [(0,(.vw 0 0 g)),(1,(i64 b)),(2,(i64 a)),(3,(i64 l)),(8,(vb j)),(9,(vb k)),(10,(i64 (ZI (a - b))))] [.cells (cel Zc a7 d)] (AWP.rg0 [] [(0,(.vw 0 0 g)),(1,(i64 b)),(2,(i64 a)),(3,(i64 (ZI (l - (1:Int))))),(8,(vb j)),(9,(vb k)),(10,(i64 (ZI (a - b))))] (LeQ.start (LeQ.pk [0,1,2,3,8,9,10] 1 ?_)))
        exact⟨rfl,a7,(ZI (l - (1:Int))),(someb hF).symm,by kernel_rfl,by kernel_rfl⟩
       ·refine AWP.skip (LeQ.start (LeQ.pk [0,1,2,3,8,9,10] 1 ?_))
        exact⟨rfl,o,l,(someb hF).symm,by kernel_rfl,by kernel_rfl⟩
      ·rintro _ _ _ ⟨rfl,q,i,rfl,rfl,rfl⟩
       refine AWP.seq ?_
       obtain⟨m,c8,hF⟩:=bindb hF
       refine AWP.rg0 [(3,.callC Tryd.func97 [] (closedH.c (Zy (row:=Zc) (fun _=>rfl) q d) closedH.n) (closedH.c (Zy (row:=Zc) (fun _=>rfl) q d) closedH.n) (Zhk g q d b a m c8))] [(0,(.vw 0 0 g)),(1,(i64 b)),(2,(i64 a)),(3,(i64 i)),(8,(vb j)),(9,(vb k)),(10,(i64 (ZI (a - b)))),(11,(i64 m.1)),(12,(i64 m.2))] ?_
       obtain⟨c9,d0,hF⟩:=bindb hF
       refine AWP.seq ?_
       refine AWP.mid (fun e st H=>(e=.normal∧∃ y,∃ p,∃ a8,c9=(y,p,a8)∧st=[(0,(.vw 0 0 g)),(1,(i64 b)),(2,(i64 a)),(3,(i64 i)),(8,(vb j)),(9,(vb k)),(10,(i64 (ZI (a - b)))),(11,(i64 p)),(12,(i64 a8))]∧H=[.cells (cel Zc y d)])) ?_ ?_
       ·clear hF
        have hF:=d0
        refine AWP.seq (AWP.rg0 [] [(0,(.vw 0 0 g)),(1,(i64 b)),(2,(i64 a)),(3,(i64 i)),(8,(vb j)),(9,(vb k)),(10,(i64 (ZI (a - b)))),(11,(i64 m.1)),(12,(i64 m.2)),(50,(vb (m.2 == (2:Int))))] ?_)
        refine AWP.cif hF (fun d1 hF=>?_) (fun d1 hF=>?_)
        ·refine AWP.seq ?_
         obtain⟨a9,d2,hF⟩:=bindb hF
         refine AWP.rg [(3,.callC Tryd.func98 [] (closedH.c (Zy (row:=Zc) (fun _=>rfl) q d) closedH.n) (closedH.c (Zy (row:=Zc) (fun _=>rfl) a9 d) closedH.n) (Zhe g q d b a a9 d2))] [(0,(.vw 0 0 g)),(1,(i64 b)),(2,(i64 a)),(3,(i64 i)),(8,(vb j)),(9,(vb k)),(10,(i64 (ZI (a - b)))),(11,(i64 m.1))] [.cells (cel Zc a9 d)] (AWP.seq (AWP.rg0 [] [(0,(.vw 0 0 g)),(1,(i64 b)),(2,(i64 a)),(3,(i64 i)),(8,(vb j)),(9,(vb k)),(10,(i64 (ZI (a - b)))),(11,(i64 (ZI ((ZI (a - (1:Int))) - (ZI (m.1 - b))))))] (AWP.rg0 [] [(0,(.vw 0 0 g)),(1,(i64 b)),(2,(i64 a)),(3,(i64 i)),(8,(vb j)),(9,(vb k)),(10,(i64 (ZI (a - b)))),(11,(i64 (ZI ((ZI (a - (1:Int))) - (ZI (m.1 - b)))))),(12,(i64 (1:Int)))] (LeQ.start (LeQ.pk [0,1,2,3,8,9,10,11,12] 1 ?_)))))
         exact⟨rfl,a9,(ZI ((ZI (a - (1:Int))) - (ZI (m.1 - b)))),(1:Int),(someb hF).symm,by kernel_rfl,by kernel_rfl⟩
        ·refine AWP.skip (LeQ.start (LeQ.pk [0,1,2,3,8,9,10,11,12] 1 ?_))
         exact⟨rfl,q,m.1,m.2,(someb hF).symm,by kernel_rfl,by kernel_rfl⟩
       ·rintro _ _ _ ⟨rfl,y,p,a8,rfl,rfl,rfl⟩
        obtain⟨b4,d3,hF⟩:=bindb hF
        refine AWP.seq ?_
        refine AWP.mid (fun e st H=>(e=.normal∧∃ u,b4=(.inl u)∧st=[(0,(.vw 0 0 g)),(1,(i64 b)),(2,(i64 a)),(3,(i64 i)),(8,(vb j)),(9,(vb k)),(10,(i64 (ZI (a - b)))),(11,(i64 p))]∧H=[.cells (cel Zc u d)])∨(e=.ret∧∃ r,b4=(.inr r)∧Zf7 d r e st H)) ?_ ?_
        ·clear hF
         have hF:=d3
         refine AWP.seq ?_
         obtain⟨d4,a3,hF⟩:=bindb hF
         replace a3:=someb a3
         obtain⟨b5,a4,hF⟩:=bindb hF
         replace a4:=someb a4
         refine AWP.to [(0,(.vw 0 0 g)),(1,(i64 b)),(2,(i64 a)),(3,(i64 i)),(8,(vb j)),(9,(vb k)),(10,(i64 (ZI (a - b)))),(11,(i64 p)),(68,(vb (b5 && (a8 == (1:Int)))))] [.cells (cel Zc y d)] ?_ ?_
         ·cases d4 with
          | false=>
           subst a4
           exact AWP.rgT [(1,.bool a3)]
          | true=>
           cases b5 with
           | false=>
            exact AWP.rgT [(1,.bool a3),(4,.bool a4)]
           | true=>
            exact AWP.rgT [(1,.bool a3),(4,.bool a4)]
         refine AWP.cif hF (fun d5 hF=>?_) (fun d5 hF=>?_)
         ·refine AWP.seq ?_
          obtain⟨a0,d6,hF⟩:=bindb hF
          refine AWP.rg [(3,.callC Tryd.func99 [] (closedH.c (Zy (row:=Zc) (fun _=>rfl) y d) closedH.n) (closedH.c (Zy (row:=Zc) (fun _=>rfl) a0.2 d) closedH.n) (Zgd g y d b a a0 d6))] [(0,(.vw 0 0 g)),(1,(i64 b)),(2,(i64 a)),(3,(i64 i)),(8,(vb j)),(9,(vb k)),(10,(i64 (ZI (a - b)))),(11,(i64 p)),(72,(vb a0.1))] [.cells (cel Zc a0.2 d)] ?_
          refine AWP.cif hF (fun d7 hF=>?_) (fun d7 hF=>?_)
          ·refine AWP.ret ?_
           exact LeQ.of (.inr ⟨rfl,a0.2,(someb hF).symm,(FnQ.f0 1 (.inr rfl))⟩)
          ·refine AWP.skip (LeQ.start (LeQ.pk [0,1,2,3,8,9,10,11] 1 ?_))
           exact(.inl ⟨rfl,a0.2,(someb hF).symm,by kernel_rfl,by kernel_rfl⟩)
         ·refine AWP.skip (LeQ.start (LeQ.pk [0,1,2,3,8,9,10,11] 1 ?_))
          exact(.inl ⟨rfl,y,(someb hF).symm,by kernel_rfl,by kernel_rfl⟩)
        ·rintro _ _ _ (⟨rfl,u,rfl,rfl,rfl⟩ | ⟨rfl,d8,rfl,hq⟩)
         ·refine AWP.seq (AWP.seq ?_)
          obtain⟨d9,b0,hF⟩:=bindb hF
          replace b0:=someb b0
          obtain⟨e0,b6,hF⟩:=bindb hF
          refine AWP.to [(0,(.vw 0 0 g)),(1,(i64 b)),(2,(i64 a)),(3,(i64 i)),(8,(vb j)),(9,(vb k)),(10,(i64 (ZI (a - b)))),(11,(i64 p)),(87,(vb e0))] [.cells (cel Zc u d)] ?_ ?_
          ·cases d9 with
           | false=>
            have e1:=someb (ifF b6 rfl)
            subst e1
            exact AWP.drT [(2,.bool b0)] 15 [] [] []
           | true=>
            have t:=ifT b6 rfl
            obtain⟨e2,b7,t⟩:=bindb t
            obtain⟨e3,b8,t⟩:=bindb t
            obtain⟨e4,e5,t⟩:=bindb t
            replace t:=someb t
            subst t
            exact AWP.drT [(2,.bool b0),(6,.idxV (Zq b7)),(7,.ldV Zc (s:=1) (fun _=>rfl) d (Zp b7) (0 + Int.toNat (ZI (b - (1:Int))) * 1) (Nat.zero_add _) []),(10,.idxV (Zq b8)),(11,.ldV Zc (s:=1) (fun _=>rfl) d (Zp b8) (0 + Int.toNat p * 1) (Nat.zero_add _) []),(12,.call Tryd.func100 [] (Za4 e2 e3 e4 e5))] 15 [] [] []
          refine AWP.cif hF (fun e6 hF=>?_) (fun e6 hF=>?_)
          ·refine AWP.seq ?_
           obtain⟨z,e7,hF⟩:=bindb hF
           refine AWP.rg [(4,.callC Tryd.func101 [] (closedH.c (Zy (row:=Zc) (fun _=>rfl) u d) closedH.n) (closedH.c (Zy (row:=Zc) (fun _=>rfl) z.2 d) closedH.n) (Zgv g u d b a p z e7))] [(0,(.vw 0 0 g)),(2,(i64 a)),(3,(i64 i)),(8,(vb j)),(9,(vb k)),(13,(i64 z.1))] [.cells (cel Zc z.2 d)] (AWP.seq (AWP.rg0 [] [(0,(.vw 0 0 g)),(1,(i64 z.1)),(2,(i64 a)),(3,(i64 i)),(8,(vb j)),(9,(vb k))] (AWP.exit (LeQ.start (LeQ.pk [0,1,2,3,8,9] 1 ?_)))))
           exact⟨a2,Nat.lt_succ_self _,z.2,z.1,a,i,j,k,hF,by kernel_rfl,by kernel_rfl⟩
          ·refine AWP.skip (AWP.seq ?_)
           obtain⟨f,e8,hF⟩:=bindb hF
           refine AWP.rg [(4,.callC Tryd.func102 [] (closedH.c (Zy (row:=Zc) (fun _=>rfl) u d) closedH.n) (closedH.c (Zy (row:=Zc) (fun _=>rfl) f.2.2 d) closedH.n) (Zhw g u d b a p f e8))] [(0,(.vw 0 0 g)),(1,(i64 b)),(2,(i64 a)),(3,(i64 i)),(10,(i64 (ZI (a - b)))),(14,(i64 f.1)),(15,(vb f.2.1))] [.cells (cel Zc f.2.2 d)] (AWP.seq (AWP.rg0 [] [(0,(.vw 0 0 g)),(1,(i64 b)),(2,(i64 a)),(3,(i64 i)),(9,(vb f.2.1)),(10,(i64 (ZI (a - b)))),(14,(i64 f.1))] (AWP.seq (AWP.rg0 [] [(0,(.vw 0 0 g)),(1,(i64 b)),(2,(i64 a)),(3,(i64 i)),(9,(vb f.2.1)),(10,(i64 (ZI (a - b)))),(14,(i64 f.1)),(16,(i64 (ZI (f.1 - b)))),(17,(i64 (ZI (a - f.1))))] (AWP.seq (AWP.rg0 [] [(0,(.vw 0 0 g)),(1,(i64 b)),(2,(i64 a)),(3,(i64 i)),(9,(vb f.2.1)),(14,(i64 f.1)),(16,(i64 (ZI (f.1 - b)))),(17,(i64 (ZI (a - f.1)))),(18,(i64 (ZI (Int.tdiv (ZI (a - b)) (8:Int)))))] ?_))))))
           refine AWP.seq (AWP.rg0 [] [(0,(.vw 0 0 g)),(1,(i64 b)),(2,(i64 a)),(3,(i64 i)),(9,(vb f.2.1)),(14,(i64 f.1)),(16,(i64 (ZI (f.1 - b)))),(17,(i64 (ZI (a - f.1)))),(18,(i64 (ZI (Int.tdiv (ZI (a - b)) (8:Int))))),(113,(vb (decide ((ZI (f.1 - b))<(ZI (a - f.1))))))] ?_)
           refine AWP.cif hF (fun e9 hF=>?_) (fun e9 hF=>?_)
           ·refine AWP.seq (AWP.rg0 [] [(0,(.vw 0 0 g)),(1,(i64 b)),(2,(i64 a)),(3,(i64 i)),(8,(vb (decide ((ZI (f.1 - b)) ≥ (ZI (Int.tdiv (ZI (a - b)) (8:Int))))))),(9,(vb f.2.1)),(14,(i64 f.1))] (AWP.seq ?_))
            obtain⟨b1,f1,hF⟩:=bindb hF
            refine AWP.rg [(4,.callC Tryd.func92 [] (closedH.c (Zy (row:=Zc) (fun _=>rfl) f.2.2 d) closedH.n) (closedH.c (Zy (row:=Zc) (fun _=>rfl) b1 d) closedH.n) (ih g f.2.2 d b f.1 i b1 f1))] [(0,(.vw 0 0 g)),(2,(i64 a)),(3,(i64 i)),(8,(vb (decide ((ZI (f.1 - b)) ≥ (ZI (Int.tdiv (ZI (a - b)) (8:Int))))))),(9,(vb f.2.1)),(14,(i64 f.1))] [.cells (cel Zc b1 d)] (AWP.rg0 [] [(0,(.vw 0 0 g)),(1,(i64 (ZI (f.1 + (1:Int))))),(2,(i64 a)),(3,(i64 i)),(8,(vb (decide ((ZI (f.1 - b)) ≥ (ZI (Int.tdiv (ZI (a - b)) (8:Int))))))),(9,(vb f.2.1))] (LeQ.start (LeQ.pk [0,1,2,3,8,9] 1 ?_)))
            exact⟨a2,Nat.lt_succ_self _,b1,(ZI (f.1 + (1:Int))),a,i,(decide ((ZI (f.1 - b)) ≥ (ZI (Int.tdiv (ZI (a - b)) (8:Int))))),f.2.1,hF,by kernel_rfl,by kernel_rfl⟩
           ·refine AWP.seq (AWP.rg0 [] [(0,(.vw 0 0 g)),(1,(i64 b)),(2,(i64 a)),(3,(i64 i)),(8,(vb (decide ((ZI (a - f.1)) ≥ (ZI (Int.tdiv (ZI (a - b)) (8:Int))))))),(9,(vb f.2.1)),(14,(i64 f.1))] (AWP.seq ?_))
            obtain⟨b2,f2,hF⟩:=bindb hF
            refine AWP.rg [(5,.callC Tryd.func92 [] (closedH.c (Zy (row:=Zc) (fun _=>rfl) f.2.2 d) closedH.n) (closedH.c (Zy (row:=Zc) (fun _=>rfl) b2 d) closedH.n) (ih g f.2.2 d (ZI (f.1 + (1:Int))) a i b2 f2))] [(0,(.vw 0 0 g)),(1,(i64 b)),(3,(i64 i)),(8,(vb (decide ((ZI (a - f.1)) ≥ (ZI (Int.tdiv (ZI (a - b)) (8:Int))))))),(9,(vb f.2.1)),(14,(i64 f.1))] [.cells (cel Zc b2 d)] (AWP.rg0 [] [(0,(.vw 0 0 g)),(1,(i64 b)),(2,(i64 f.1)),(3,(i64 i)),(8,(vb (decide ((ZI (a - f.1)) ≥ (ZI (Int.tdiv (ZI (a - b)) (8:Int))))))),(9,(vb f.2.1))] (LeQ.start (LeQ.pk [0,1,2,3,8,9] 1 ?_)))
            exact⟨a2,Nat.lt_succ_self _,b2,b,f.1,i,(decide ((ZI (a - f.1)) ≥ (ZI (Int.tdiv (ZI (a - b)) (8:Int))))),f.2.1,hF,by kernel_rfl,by kernel_rfl⟩
         ·exact LeQ.of ⟨rfl,d8,(someb hF).symm,hq⟩
  ·rintro _ _ _ ⟨rfl,f3,rfl,hq⟩
   have hr:=someb hF
   subst hr
   exact hq
theorem Zil (a:Nat) (b:(List Int)) (c:List Value) (d:Int) (f:Int) (g:Int) (r:(List Int)) (hF:Z1 fuel a b d f g=some r):ACall Tryd.prog glob 92 [(.vw 0 0 a),(i64 d),(i64 f),(i64 g)] [.cells (cel Zc b c)] (Zek c r):=Zhx fuel a b c d f g r hF
def Zjf (a:List Value) (r:(List Int)):PV→List Blk→Prop:=fun p K=>p=(.tup [])∧K=[.cells (cel Zc r a)]
theorem Zjg (a:Nat) (d:(List Int)) (b:List Value) (r:(List Int)) (hF:Zcy a d=some r):ACall Tryd.prog glob 90 [(.vw 0 0 a)] [.cells (cel Zc d b)] (Zjf b r):=by
 refine ACall.body Tryd.func90 rfl (by kernel_rfl) ?_
 unfold Zcy at hF
 refine AWP.seq (AWP.rg0 [(1,.lenV a)] [(0,(.vw 0 0 a)),(2,(i64 (a:Int)))] ?_)
 obtain⟨g,i,hF⟩:=bindb hF
 obtain⟨f,j,hF⟩:=bindb hF
 refine AWP.rg [(4,.call Tryd.func93 [] (Zkw (IntKind.wrap .u64 (a:Int)) g i)),(5,.callC Tryd.func92 [] (closedH.c (Zy (row:=Zc) (fun _=>rfl) d b) closedH.n) (closedH.c (Zy (row:=Zc) (fun _=>rfl) f b) closedH.n) (Zil a d b (0:Int) (a:Int) g f j))] [] [.cells (cel Zc f b)] ?_
 have hr:=someb hF
 subst hr
 exact(FnQ.f0 1 (.inl rfl))
def Zf8 (a:List Value) (r:(Nat × (List Int))):PV→List Blk→Prop:=fun p K=>p=(.vw 0 0 r.1)∧K=[.cells (cel Zc r.2 a)]
abbrev Zim (a:List Value) (r:(Nat × (List Int))):Exit→St→List Blk→Prop:=FnQ Tryd.prog Tryd.f91.results 1 (Zf8 a r)
theorem Zin (a:Nat) (k:(List Int)) (c:List Value) (r:(Nat × (List Int))) (hF:Zck a k=some r):ACall Tryd.prog glob 91 [(.vw 0 0 a)] [.cells (cel Zc k c)] (Zf8 c r):=by
 refine ACall.body Tryd.func91 rfl (by kernel_rfl) ?_
 unfold Zck at hF
 refine AWP.seq (AWP.rg0 [] [(0,(.vw 0 0 a))] (AWP.seq (AWP.seq (AWP.rg0 [(1,.lenV a)] [(0,(.vw 0 0 a)),(8,(vb (decide ((a:Int)<(2:Int)))))] ?_))))
 refine AWP.cif hF (fun a2 hF=>?_) (fun a2 hF=>?_)
 ·refine AWP.seq (AWP.rg0 [] [(2,(.vw 0 0 a))] (AWP.ret ?_))
  have hr:=someb hF
  subst hr
  exact(FnQ.f0 1 (.inr rfl))
 ·refine AWP.skip (AWP.seq (AWP.seq (AWP.rg0 [] [(0,(.vw 0 0 a)),(3,(i64 (1:Int)))] ?_)))
  obtain⟨p,a3,hF⟩:=bindb hF
  refine AWP.mid (fun e st H=>(e=.normal∧p=(.inl ())∧st=[(0,(.vw 0 0 a))]∧H=[.cells (cel Zc k c)])∨(e=.ret∧∃ r,p=(.inr r)∧Zim c r e st H)) ?_ ?_
  ·clear hF
   refine AWP.kp [0,3] 1 ?_
   refine AWP.bround (fun n st H=>∃ b,Za3 a k n b=some p∧st=[(0,(.vw 0 0 a)),(3,(i64 b))]∧H=[.cells (cel Zc k c)]) fuel ⟨(1:Int),a3,by kernel_rfl,by kernel_rfl⟩ ?_
   rintro q st H ⟨b,hF,rfl,rfl⟩
   cases q with
   | zero=>exact noneb hF
   | succ q=>
    rw [Za3] at hF
    refine AWP.seq (AWP.seq (AWP.rg0 [(2,.lenV a)] [(0,(.vw 0 0 a)),(3,(i64 b)),(13,(vb (decide (b<(a:Int)))))] ?_))
    refine AWP.cif hF (fun a4 hF=>?_) (fun a4 hF=>?_)
    ·refine AWP.skip (AWP.seq (AWP.block (AWP.seq ?_)))
     obtain⟨a5,y,hF⟩:=bindb hF
     obtain⟨a6,z,hF⟩:=bindb hF
     refine AWP.dr [(2,.idxV (Zq y)),(3,.ldV Zc (s:=1) (fun _=>rfl) c (Zp y) (0 + Int.toNat b * 1) (Nat.zero_add _) []),(7,.idxV (Zq z)),(8,.ldV Zc (s:=1) (fun _=>rfl) c (Zp z) (0 + Int.toNat (ZI (b - (1:Int))) * 1) (Nat.zero_add _) [])] 10 [] [] [] [(0,(.vw 0 0 a)),(3,(i64 b)),(25,(vb (a5 == a6)))] [.cells (cel Zc k c)] ?_
     refine AWP.cif hF (fun a7 hF=>?_) (fun a7 hF=>?_)
     ·refine AWP.seq ?_
      obtain⟨m,hF⟩:=chkb hF
      refine AWP.rg0 [(2,.sliceV m)] [(0,(.vw 0 0 a)),(3,(i64 b)),(4,(.vw 0 (0 + Int.toNat b * 1) (Int.toNat (a:Int) - Int.toNat b)))] (AWP.seq (AWP.seq (AWP.rg0 [] [(0,(.vw 0 0 a)),(3,(i64 b)),(4,(.vw 0 (0 + Int.toNat b * 1) (Int.toNat (a:Int) - Int.toNat b))),(5,(i64 (1:Int)))] ?_)))
      obtain⟨a0,a8,hF⟩:=bindb hF
      refine AWP.mid (fun e st H=>(e=.normal∧∃ i,∃ d,a0=(i,d)∧st=[(0,(.vw 0 0 a)),(3,(i64 d))]∧H=[.cells (cel Zc i c)])) ?_ ?_
      ·clear hF
       refine AWP.kp [0,3,4,5] 1 ?_
       refine AWP.bround (fun n st H=>∃ j,∃ g,∃ f,Za2 a b n j g f=some a0∧st=[(0,(.vw 0 0 a)),(3,(i64 g)),(4,(.vw 0 (0 + Int.toNat b * 1) (Int.toNat (a:Int) - Int.toNat b))),(5,(i64 f))]∧H=[.cells (cel Zc j c)]) fuel ⟨k,b,(1:Int),a8,by kernel_rfl,by kernel_rfl⟩ ?_
       rintro t st H ⟨j,g,f,hF,rfl,rfl⟩
       cases t with
       | zero=>exact noneb hF
       | succ t=>
        rw [Za2] at hF
        refine AWP.seq (AWP.seq (AWP.rg0 [(2,.lenV (Int.toNat (a:Int) - Int.toNat b))] [(0,(.vw 0 0 a)),(3,(i64 g)),(4,(.vw 0 (0 + Int.toNat b * 1) (Int.toNat (a:Int) - Int.toNat b))),(5,(i64 f)),(32,(vb (decide (f<(((Int.toNat (a:Int) - Int.toNat b):Nat):Int)))))] ?_))
        refine AWP.cif hF (fun a9 hF=>?_) (fun a9 hF=>?_)
        ·refine AWP.skip ?_
         obtain⟨b0,b1,hF⟩:=bindb hF
         refine AWP.seq ?_
         refine AWP.mid (fun e st H=>(e=.normal∧∃ o,∃ l,b0=(o,l)∧st=[(0,(.vw 0 0 a)),(3,(i64 l)),(4,(.vw 0 (0 + Int.toNat b * 1) (Int.toNat (a:Int) - Int.toNat b))),(5,(i64 f))]∧H=[.cells (cel Zc o c)])) ?_ ?_
         ·clear hF
          have hF:=b1
          refine AWP.block (AWP.seq ?_)
          obtain⟨b2,u,hF⟩:=bindb hF
          obtain⟨b3,v,hF⟩:=bindb hF
          refine AWP.dr [(2,.idxV (Zj4 u)),(3,.ldV Zc (s:=1) (fun _=>rfl) c (Zo2 u) ((0 + Int.toNat b * 1) + Int.toNat f * 1) (Zqv m.1 (Zj4 u).1 _) []),(7,.idxV (Zj4 v)),(8,.ldV Zc (s:=1) (fun _=>rfl) c (Zo2 v) ((0 + Int.toNat b * 1) + Int.toNat (ZI (f - (1:Int))) * 1) (Zqv m.1 (Zj4 v).1 _) [])] 10 [] [] [] [(0,(.vw 0 0 a)),(3,(i64 g)),(4,(.vw 0 (0 + Int.toNat b * 1) (Int.toNat (a:Int) - Int.toNat b))),(5,(i64 f)),(44,(vb (b2 != b3)))] [.cells (cel Zc j c)] ?_
          refine AWP.cif hF (fun b4 hF=>?_) (fun b4 hF=>?_)
          ·refine AWP.seq ?_
           obtain⟨w,x,hF⟩:=bindb hF
           obtain⟨b8,a1,hF⟩:=bindb hF
           refine AWP.rg [(4,.idxV (Zj4 x)),(5,.ldV Zc (s:=1) (fun _=>rfl) c (Zo2 x) ((0 + Int.toNat b * 1) + Int.toNat f * 1) (Zqv m.1 (Zj4 x).1 _) []),(6,.idxV (Zq a1)),(7,.stV Zc (s:=1) (fun _=>rfl) c (Zp a1) w (0 + Int.toNat g * 1) (Nat.zero_add _) [])] [(0,(.vw 0 0 a)),(3,(i64 g)),(4,(.vw 0 (0 + Int.toNat b * 1) (Int.toNat (a:Int) - Int.toNat b))),(5,(i64 f))] [.cells (cel Zc (List.set j (Int.toNat g) w) c)] (AWP.rg0 [] [(0,(.vw 0 0 a)),(3,(i64 (ZI (g + (1:Int))))),(4,(.vw 0 (0 + Int.toNat b * 1) (Int.toNat (a:Int) - Int.toNat b))),(5,(i64 f))] (LeQ.start (LeQ.pk [0,3,4,5] 1 ?_)))
           exact⟨rfl,(List.set j (Int.toNat g) w),(ZI (g + (1:Int))),(someb hF).symm,by kernel_rfl,by kernel_rfl⟩
          ·refine AWP.skip (LeQ.start (LeQ.pk [0,3,4,5] 1 ?_))
           exact⟨rfl,j,g,(someb hF).symm,by kernel_rfl,by kernel_rfl⟩
         ·rintro _ _ _ ⟨rfl,o,l,rfl,rfl,rfl⟩
          refine AWP.rg0 [] [(0,(.vw 0 0 a)),(3,(i64 l)),(4,(.vw 0 (0 + Int.toNat b * 1) (Int.toNat (a:Int) - Int.toNat b))),(5,(i64 (ZI (f + (1:Int)))))] (LeQ.start (LeQ.pk [0,3,4,5] 1 ?_))
          exact⟨t,Nat.lt_succ_self _,o,l,(ZI (f + (1:Int))),hF,by kernel_rfl,by kernel_rfl⟩
        ·refine AWP.exit (LeQ.start (LeQ.pk [0,3] 1 ?_))
         exact⟨rfl,j,g,(someb hF).symm,by kernel_rfl,by kernel_rfl⟩
      ·rintro _ _ _ ⟨rfl,i,d,rfl,rfl,rfl⟩
       refine AWP.seq ?_
       obtain⟨b5,hF⟩:=chkb hF
       obtain⟨b6,hF⟩:=chkb hF
       refine AWP.rg [(2,.sliceV b5),(3,.clrV Zc (s:=1) (fun _=>rfl) (fun _=>rfl) c i (0:Int) (lo:=Int.toNat d) (n:=(Int.toNat (a:Int) - Int.toNat d)) b6 (0 + Int.toNat d * 1) (Nat.zero_add _))] [(0,(.vw 0 0 a)),(3,(i64 d))] [.cells (cel Zc (List.take (Int.toNat d) i++List.replicate (Int.toNat (a:Int) - Int.toNat d) (0:Int)++List.drop (Int.toNat d + (Int.toNat (a:Int) - Int.toNat d)) i) c)] (AWP.seq ?_)
       obtain⟨b7,hF⟩:=chkb hF
       refine AWP.rg0 [(2,.sliceV b7)] [(2,(.vw 0 0 (Int.toNat d)))] (AWP.ret ?_)
       exact LeQ.of (.inr ⟨rfl,((Int.toNat d),(List.take (Int.toNat d) i++List.replicate (Int.toNat (a:Int) - Int.toNat d) (0:Int)++List.drop (Int.toNat d + (Int.toNat (a:Int) - Int.toNat d)) i)),(someb hF).symm,(FnQ.f0 1 (.inr rfl))⟩)
     ·refine AWP.skip (AWP.rg0 [] [(0,(.vw 0 0 a)),(3,(i64 (ZI (b + (1:Int)))))] (LeQ.start (LeQ.pk [0,3] 1 ?_)))
      exact⟨q,Nat.lt_succ_self _,(ZI (b + (1:Int))),hF,by kernel_rfl,by kernel_rfl⟩
    ·refine AWP.exit (LeQ.start (LeQ.pk [0] 1 ?_))
     exact(.inl ⟨rfl,(someb hF).symm,by kernel_rfl,by kernel_rfl⟩)
  ·rintro _ _ _ (⟨rfl,rfl,rfl,rfl⟩ | ⟨rfl,b9,rfl,hq⟩)
   ·refine AWP.seq (AWP.rg0 [] [(2,(.vw 0 0 a))] (AWP.ret ?_))
    have hr:=someb hF
    subst hr
    exact(FnQ.f0 1 (.inr rfl))
   ·have hr:=someb hF
    subst hr
    exact hq
def Ze3 (r:(List Int)):PV→List Blk→Prop:=fun p K=>p=(slc 1 Zc r)∧K=[]
abbrev Zg4 (r:(List Int)):Exit→St→List Blk→Prop:=FnQ Tryd.prog Tryd.f91.results 0 (Ze3 r)
theorem Zg5 (r:(List Int)) (hF:Zcl=some r):ACall Tryd.prog glob 91 [(slc 1 Zc ([]:(List Int)))] [] (Ze3 r):=by
 refine ACall.body Tryd.func91 rfl (by kernel_rfl) ?_
 unfold Zcl at hF
 refine AWP.seq (AWP.rg0 [] [(0,(slc 1 Zc ([]:(List Int))))] (AWP.seq (AWP.seq (AWP.rg0 [(1,.len Zc ([]:(List Int)))] [(0,(slc 1 Zc ([]:(List Int)))),(8,(vb (decide ((List.length ([]:(List Int)):Int)<(2:Int)))))] ?_))))
 refine AWP.cif hF (fun j hF=>?_) (fun j hF=>?_)
 ·refine AWP.seq (AWP.rg0 [] [(2,(slc 1 Zc ([]:(List Int))))] (AWP.ret ?_))
  have hr:=someb hF
  subst hr
  exact(FnQ.f0 0 (.inr rfl))
 ·refine AWP.skip (AWP.seq (AWP.seq (AWP.rg0 [] [(0,(slc 1 Zc ([]:(List Int)))),(3,(i64 (1:Int)))] ?_)))
  obtain⟨d,k,hF⟩:=bindb hF
  refine AWP.mid (fun e st H=>(e=.normal∧d=(.inl ())∧st=[(0,(slc 1 Zc ([]:(List Int))))]∧H=[])∨(e=.ret∧∃ r,d=(.inr r)∧Zg4 r e st H)) ?_ ?_
  ·clear hF
   refine AWP.kp [0,3] 0 ?_
   refine AWP.bround (fun n st H=>∃ a,Zb9 n a=some d∧st=[(0,(slc 1 Zc ([]:(List Int)))),(3,(i64 a))]∧H=[]) fuel ⟨(1:Int),k,by kernel_rfl,by kernel_rfl⟩ ?_
   rintro f st H ⟨a,hF,rfl,rfl⟩
   cases f with
   | zero=>exact noneb hF
   | succ f=>
    rw [Zb9] at hF
    refine AWP.seq (AWP.seq (AWP.rg0 [(2,.len Zc ([]:(List Int)))] [(0,(slc 1 Zc ([]:(List Int)))),(3,(i64 a)),(13,(vb (decide (a<(List.length ([]:(List Int)):Int)))))] ?_))
    refine AWP.cif hF (fun l hF=>?_) (fun l hF=>?_)
    ·refine AWP.skip (AWP.seq (AWP.block (AWP.seq ?_)))
     obtain⟨m,o,hF⟩:=bindb hF
     obtain⟨p,q,hF⟩:=bindb hF
     refine AWP.dr [(2,.idx Zc o),(7,.idx Zc q)] 10 [] [] [] [(0,(slc 1 Zc ([]:(List Int)))),(3,(i64 a)),(25,(vb (m == p)))] [] ?_
     refine AWP.cif hF (fun s hF=>?_) (fun s hF=>?_)
     ·refine AWP.seq ?_
      obtain⟨t,hF⟩:=chkb hF
      refine AWP.rg0 [(2,.slice Zc ([]:(List Int)) t)] [(0,(slc 1 Zc ([]:(List Int)))),(3,(i64 a)),(4,(slc 1 Zc (List.drop (Int.toNat a) (List.take (Int.toNat (List.length ([]:(List Int)):Int)) ([]:(List Int))))))] (AWP.seq (AWP.seq (AWP.rg0 [] [(0,(slc 1 Zc ([]:(List Int)))),(3,(i64 a)),(4,(slc 1 Zc (List.drop (Int.toNat a) (List.take (Int.toNat (List.length ([]:(List Int)):Int)) ([]:(List Int)))))),(5,(i64 (1:Int)))] ?_)))
      obtain⟨i,u,hF⟩:=bindb hF
      refine AWP.mid (fun e st H=>e=.normal∧st=[(0,(slc 1 Zc ([]:(List Int)))),(3,(i64 i))]∧H=[]) ?_ ?_
      ·clear hF
       refine AWP.kp [0,3,4,5] 0 ?_
       refine AWP.bround (fun n st H=>∃ c,∃ b,Zb8 a n c b=some i∧st=[(0,(slc 1 Zc ([]:(List Int)))),(3,(i64 c)),(4,(slc 1 Zc (List.drop (Int.toNat a) (List.take (Int.toNat (List.length ([]:(List Int)):Int)) ([]:(List Int)))))),(5,(i64 b))]∧H=[]) fuel ⟨a,(1:Int),u,by kernel_rfl,by kernel_rfl⟩ ?_
       rintro g st H ⟨c,b,hF,rfl,rfl⟩
       cases g with
       | zero=>exact noneb hF
       | succ g=>
        rw [Zb8] at hF
        refine AWP.seq (AWP.seq (AWP.rg0 [(2,.len Zc (List.drop (Int.toNat a) (List.take (Int.toNat (List.length ([]:(List Int)):Int)) ([]:(List Int)))))] [(0,(slc 1 Zc ([]:(List Int)))),(3,(i64 c)),(4,(slc 1 Zc (List.drop (Int.toNat a) (List.take (Int.toNat (List.length ([]:(List Int)):Int)) ([]:(List Int)))))),(5,(i64 b)),(32,(vb (decide (b<(List.length (List.drop (Int.toNat a) (List.take (Int.toNat (List.length ([]:(List Int)):Int)) ([]:(List Int)))):Int)))))] ?_))
        refine AWP.cif hF (fun v hF=>?_) (fun v hF=>?_)
        ·refine AWP.skip ?_
         obtain⟨w,x,hF⟩:=bindb hF
         refine AWP.seq ?_
         refine AWP.mid (fun e st H=>(e=.normal∧w=()∧st=[(0,(slc 1 Zc ([]:(List Int)))),(3,(i64 c)),(4,(slc 1 Zc (List.drop (Int.toNat a) (List.take (Int.toNat (List.length ([]:(List Int)):Int)) ([]:(List Int)))))),(5,(i64 b))]∧H=[])) ?_ ?_
         ·clear hF
          have hF:=x
          refine AWP.block (AWP.seq ?_)
          obtain⟨y,z,hF⟩:=bindb hF
          obtain⟨a0,a1,hF⟩:=bindb hF
          refine AWP.dr [(2,.idx Zc z),(7,.idx Zc a1)] 10 [] [] [] [(0,(slc 1 Zc ([]:(List Int)))),(3,(i64 c)),(4,(slc 1 Zc (List.drop (Int.toNat a) (List.take (Int.toNat (List.length ([]:(List Int)):Int)) ([]:(List Int)))))),(5,(i64 b)),(44,(vb (y != a0)))] [] ?_
          refine AWP.cif hF (fun a2 hF=>?_) (fun a2 hF=>?_)
          ·refine AWP.seq ?_
           exact noneb hF
          ·refine AWP.skip (LeQ.start (LeQ.pk [0,3,4,5] 0 ?_))
           exact⟨rfl,(someb hF).symm,by kernel_rfl,by kernel_rfl⟩
         ·rintro _ _ _ ⟨rfl,rfl,rfl,rfl⟩
          refine AWP.rg0 [] [(0,(slc 1 Zc ([]:(List Int)))),(3,(i64 c)),(4,(slc 1 Zc (List.drop (Int.toNat a) (List.take (Int.toNat (List.length ([]:(List Int)):Int)) ([]:(List Int)))))),(5,(i64 (ZI (b + (1:Int)))))] (LeQ.start (LeQ.pk [0,3,4,5] 0 ?_))
          exact⟨g,Nat.lt_succ_self _,c,(ZI (b + (1:Int))),hF,by kernel_rfl,by kernel_rfl⟩
        ·refine AWP.exit (LeQ.start (LeQ.pk [0,3] 0 ?_))
         have hr:=someb hF
         subst hr
         exact⟨rfl,by kernel_rfl,by kernel_rfl⟩
      ·rintro _ _ _ ⟨rfl,rfl,rfl⟩
       refine AWP.seq ?_
       exact noneb hF
     ·refine AWP.skip (AWP.rg0 [] [(0,(slc 1 Zc ([]:(List Int)))),(3,(i64 (ZI (a + (1:Int)))))] (LeQ.start (LeQ.pk [0,3] 0 ?_)))
      exact⟨f,Nat.lt_succ_self _,(ZI (a + (1:Int))),hF,by kernel_rfl,by kernel_rfl⟩
    ·refine AWP.exit (LeQ.start (LeQ.pk [0] 0 ?_))
     exact(.inl ⟨rfl,(someb hF).symm,by kernel_rfl,by kernel_rfl⟩)
  ·rintro _ _ _ (⟨rfl,rfl,rfl,rfl⟩ | ⟨rfl,a3,rfl,hq⟩)
   ·refine AWP.seq (AWP.rg0 [] [(2,(slc 1 Zc ([]:(List Int))))] (AWP.ret ?_))
    have hr:=someb hF
    subst hr
    exact(FnQ.f0 0 (.inr rfl))
   ·have hr:=someb hF
    subst hr
    exact hq
def Zo5 (r:(List Int)):PV→List Blk→Prop:=fun p K=>p=(slc 1 Zc r)∧K=[]
theorem Zhy (b:Int) (a:(List ZL)) (r:(List Int)) (hF:Zdi b a=some r):ACall Tryd.prog glob 87 [(i64 b),(slc 1 Zj a)] [] (Zo5 r):=by
 refine ACall.body Tryd.func87 rfl (by kernel_rfl) ?_
 unfold Zdi at hF
 refine AWP.seq (AWP.rg0 [] [(0,(i64 b)),(1,(slc 1 Zj a))] (AWP.seq ?_))
 obtain⟨l,y,hF⟩:=bindb hF
 refine AWP.rg [(1,.call Tryd.func89 [] (Zv0 b l y)),(4,.m)] [(0,(i64 b)),(1,(slc 1 Zj a)),(5,(.own 0 (List.length [(0:Int),(IntKind.wrap .u64 ((IntKind.wrap .u64 l) + (1:Int)))])))] [bf 1 108 Zc [(0:Int),(IntKind.wrap .u64 ((IntKind.wrap .u64 l) + (1:Int)))] false] (AWP.seq (AWP.seq (AWP.rg0 [(1,.len Zj a)] [(0,(i64 b)),(5,(.own 0 (List.length [(0:Int),(IntKind.wrap .u64 ((IntKind.wrap .u64 l) + (1:Int)))]))),(15,(slc 1 Zj a)),(16,(i64 (List.length a:Int))),(17,(i64 (0:Int)))] ?_)))
 obtain⟨k,z,hF⟩:=bindb hF
 refine AWP.mid (fun e st H=>e=.normal∧st=[(5,(.own 0 (List.length k)))]∧H=[bf 1 108 Zc k false]) ?_ ?_
 ·clear hF
  refine AWP.kp [0,5,15,16,17] 1 ?_
  refine AWP.bround (fun n st H=>∃ j,∃ d,Zcu b a n j d=some k∧st=[(0,(i64 b)),(5,(.own 0 (List.length j))),(15,(slc 1 Zj a)),(16,(i64 (List.length a:Int))),(17,(i64 d))]∧H=[bf 1 108 Zc j false]) fuel ⟨[(0:Int),(IntKind.wrap .u64 ((IntKind.wrap .u64 l) + (1:Int)))],(0:Int),z,by kernel_rfl,by kernel_rfl⟩ ?_
  rintro q st H ⟨j,d,hF,rfl,rfl⟩
  cases q with
  | zero=>exact noneb hF
  | succ q=>
   rw [Zcu] at hF
   refine AWP.seq (AWP.rg0 [] [(0,(i64 b)),(5,(.own 0 (List.length j))),(15,(slc 1 Zj a)),(16,(i64 (List.length a:Int))),(17,(i64 d)),(18,(vb (decide (d<(List.length a:Int)))))] (AWP.seq ?_))
   refine AWP.cif hF (fun a0 hF=>?_) (fun a0 hF=>?_)
   ·refine AWP.skip (AWP.seq (AWP.block (AWP.seq ?_)))
    obtain⟨c,a1,hF⟩:=bindb hF
    refine AWP.rg0 [(0,.idx Zj a1)] [(0,(i64 b)),(5,(.own 0 (List.length j))),(7,(slc 10 Za c)),(15,(slc 1 Zj a)),(16,(i64 (List.length a:Int))),(17,(i64 d))] (AWP.seq (AWP.rg0 [(1,.len Za c)] [(0,(i64 b)),(5,(.own 0 (List.length j))),(15,(slc 1 Zj a)),(16,(i64 (List.length a:Int))),(17,(i64 d)),(21,(slc 10 Za c)),(22,(i64 (List.length c:Int))),(23,(i64 (0:Int)))] ?_))
    obtain⟨o,a2,hF⟩:=bindb hF
    refine AWP.mid (fun e st H=>e=.normal∧st=[(0,(i64 b)),(5,(.own 0 (List.length o))),(15,(slc 1 Zj a)),(16,(i64 (List.length a:Int))),(17,(i64 d))]∧H=[bf 1 108 Zc o false]) ?_ ?_
    ·clear hF
     refine AWP.kp [0,5,15,16,17,21,22,23] 1 ?_
     refine AWP.bround (fun n st H=>∃ g,∃ i,Zct b c n g i=some o∧st=[(0,(i64 b)),(5,(.own 0 (List.length g))),(15,(slc 1 Zj a)),(16,(i64 (List.length a:Int))),(17,(i64 d)),(21,(slc 10 Za c)),(22,(i64 (List.length c:Int))),(23,(i64 i))]∧H=[bf 1 108 Zc g false]) fuel ⟨j,(0:Int),a2,by kernel_rfl,by kernel_rfl⟩ ?_
     rintro t st H ⟨g,i,hF,rfl,rfl⟩
     cases t with
     | zero=>exact noneb hF
     | succ t=>
      rw [Zct] at hF
      refine AWP.seq (AWP.rg0 [] [(0,(i64 b)),(5,(.own 0 (List.length g))),(15,(slc 1 Zj a)),(16,(i64 (List.length a:Int))),(17,(i64 d)),(21,(slc 10 Za c)),(22,(i64 (List.length c:Int))),(23,(i64 i)),(24,(vb (decide (i<(List.length c:Int)))))] (AWP.seq ?_))
      refine AWP.cif hF (fun a3 hF=>?_) (fun a3 hF=>?_)
      ·refine AWP.skip (AWP.seq (AWP.block (AWP.seq ?_)))
       obtain⟨f,a4,hF⟩:=bindb hF
       refine AWP.rg [(0,.idx Za a4)] [(0,(i64 b)),(5,(.own 0 (List.length g))),(9,(.ptr 1 0)),(15,(slc 1 Zj a)),(16,(i64 (List.length a:Int))),(17,(i64 d)),(21,(slc 10 Za c)),(22,(i64 (List.length c:Int))),(23,(i64 i))] [bf 1 108 Zc g false,.cells (Za f)] ?_
       obtain⟨v,hF⟩:=chkb hF
       obtain⟨w,hF⟩:=chkb hF
       obtain⟨a5,hF⟩:=chkb hF
       refine AWP.dr [(2,.ixd v),(4,.ldA Zl (Arr5.get f) 0 2 0 v),(7,.ixd w),(9,.ldA Zl (Arr5.get f) 0 2 1 w),(13,.app Zc (fun _=>by kernel_rfl) a5)] 14 [] [13] [] [(0,(i64 b)),(5,(.own 0 (List.length (g++[(IntKind.wrap .u64 (Arr5.get f b).Lo),(IntKind.wrap .u64 ((IntKind.wrap .u64 (Arr5.get f b).Hi) + (1:Int)))])))),(15,(slc 1 Zj a)),(16,(i64 (List.length a:Int))),(17,(i64 d)),(21,(slc 10 Za c)),(22,(i64 (List.length c:Int))),(23,(i64 i))] [bf 1 108 Zc (g++[(IntKind.wrap .u64 (Arr5.get f b).Lo),(IntKind.wrap .u64 ((IntKind.wrap .u64 (Arr5.get f b).Hi) + (1:Int)))]) false,.cells (Za f)] (AWP.rg0 [] [(0,(i64 b)),(5,(.own 0 (List.length (g++[(IntKind.wrap .u64 (Arr5.get f b).Lo),(IntKind.wrap .u64 ((IntKind.wrap .u64 (Arr5.get f b).Hi) + (1:Int)))])))),(15,(slc 1 Zj a)),(16,(i64 (List.length a:Int))),(17,(i64 d)),(21,(slc 10 Za c)),(22,(i64 (List.length c:Int))),(23,(i64 (ZI (i + (1:Int)))))] (LeQ.start (LeQ.pk [0,5,15,16,17,21,22,23] 1 ?_)))
       exact⟨t,Nat.lt_succ_self _,(g++[(IntKind.wrap .u64 (Arr5.get f b).Lo),(IntKind.wrap .u64 ((IntKind.wrap .u64 (Arr5.get f b).Hi) + (1:Int)))]),(ZI (i + (1:Int))),hF,by kernel_rfl,by kernel_rfl⟩
      ·refine AWP.exit (LeQ.start (LeQ.pk [0,5,15,16,17] 1 ?_))
       have hr:=someb hF
       subst hr
       exact⟨rfl,by kernel_rfl,by kernel_rfl⟩
    ·rintro _ _ _ ⟨rfl,rfl,rfl⟩
     refine AWP.rg0 [] [(0,(i64 b)),(5,(.own 0 (List.length o))),(15,(slc 1 Zj a)),(16,(i64 (List.length a:Int))),(17,(i64 (ZI (d + (1:Int)))))] (LeQ.start (LeQ.pk [0,5,15,16,17] 1 ?_))
     exact⟨q,Nat.lt_succ_self _,o,(ZI (d + (1:Int))),hF,by kernel_rfl,by kernel_rfl⟩
   ·refine AWP.exit (LeQ.start (LeQ.pk [5] 1 ?_))
    have hr:=someb hF
    subst hr
    exact⟨rfl,by kernel_rfl,by kernel_rfl⟩
 ·rintro _ _ _ ⟨rfl,rfl,rfl⟩
  refine AWP.seq ?_
  obtain⟨a6,hF⟩:=chkb hF
  obtain⟨p,a7,hF⟩:=bindb hF
  obtain⟨x,hF⟩:=chkb hF
  refine AWP.rg [(1,.callB (s:=1) Zc Tryd.func90 (fun _=>rfl) a6 x (fun sp_=>Zjg (List.length k) k sp_ p a7))] [(5,(.own 0 (List.length k)))] [bf 1 108 Zc p false] ?_
  rw [show ([(5,(.own 0 (List.length k)))]:St)=[(5,(.own 0 (List.length p)))] by simp only [x]]
  refine AWP.seq ?_
  obtain⟨u,a8,hF⟩:=bindb hF
  refine AWP.rg [(1,.callBE (s:=1) Zc Tryd.func91 (fun _=>rfl) a8 (fun h sp_=>Zin (List.length p) p sp_ _ h) (fun h=>Zg5 _ h))] [(4,(slc 1 Zc (List.take u.1 u.2)))] [bf 1 108 Zc u.2 true] (AWP.ret ?_)
  have hr:=someb hF
  subst hr
  exact(FnQ.f0 0 (.inr rfl))
def Zly (r:ZL):PV→List Blk→Prop:=fun p K=>p=(slc 10 Za r)∧K=[]
theorem Zdn (a:ZL) (b:Int) (c:Int) (r:ZL) (hF:Zbu a b c=some r):ACall Tryd.prog glob 88 [(slc 10 Za a),(i64 b),(u32 c)] [] (Zly r):=by
 refine ACall.body Tryd.func88 rfl (by kernel_rfl) ?_
 unfold Zbu at hF
 refine AWP.seq (AWP.rg0 [] [(0,(slc 10 Za a)),(1,(i64 b)),(2,(u32 c))] (AWP.seq (AWP.rg0 [] [(0,(slc 10 Za a)),(1,(i64 b)),(2,(u32 c)),(7,nils)] ?_)))
 refine AWP.own (H':=[bf 10 50 Za ([]:ZL) false]) (st':=[(7,(.own 0 (List.length ([]:ZL)))),(0,(slc 10 Za a)),(1,(i64 b)),(2,(u32 c))]) 7 10 50 (by kernel_rfl) (by kernel_rfl) (by kernel_rfl) ?_
 refine AWP.pick (st':=[(0,(slc 10 Za a)),(1,(i64 b)),(2,(u32 c)),(7,(.own 0 (List.length ([]:ZL))))]) (ks:=[0,1,2,7]) (by kernel_rfl) ?_
 refine AWP.seq (AWP.seq (AWP.rg0 [(1,.len Za a)] [(1,(i64 b)),(2,(u32 c)),(7,(.own 0 (List.length ([]:ZL)))),(10,(slc 10 Za a)),(11,(i64 (List.length a:Int))),(12,(i64 (0:Int)))] ?_))
 obtain⟨j,w,hF⟩:=bindb hF
 refine AWP.mid (fun e st H=>e=.normal∧st=[(7,(.own 0 (List.length j)))]∧H=[bf 10 50 Za j false]) ?_ ?_
 ·clear hF
  refine AWP.kp [1,2,7,10,11,12] 1 ?_
  refine AWP.bround (fun n st H=>∃ d,∃ f,Zcf a b c n d f=some j∧st=[(1,(i64 b)),(2,(u32 c)),(7,(.own 0 (List.length d))),(10,(slc 10 Za a)),(11,(i64 (List.length a:Int))),(12,(i64 f))]∧H=[bf 10 50 Za d false]) fuel ⟨([]:ZL),(0:Int),w,by kernel_rfl,by kernel_rfl⟩ ?_
  rintro q st H ⟨d,f,hF,rfl,rfl⟩
  cases q with
  | zero=>exact noneb hF
  | succ q=>
   rw [Zcf] at hF
   refine AWP.seq (AWP.rg0 [] [(1,(i64 b)),(2,(u32 c)),(7,(.own 0 (List.length d))),(10,(slc 10 Za a)),(11,(i64 (List.length a:Int))),(12,(i64 f)),(13,(vb (decide (f<(List.length a:Int)))))] (AWP.seq ?_))
   refine AWP.cif hF (fun x hF=>?_) (fun x hF=>?_)
   ·refine AWP.skip ?_
    obtain⟨m,y,hF⟩:=bindb hF
    refine AWP.seq ?_
    refine AWP.mid (fun e st H=>e=.normal∧st=[(1,(i64 b)),(2,(u32 c)),(7,(.own 0 (List.length m))),(10,(slc 10 Za a)),(11,(i64 (List.length a:Int))),(12,(i64 f))]∧H=[bf 10 50 Za m false]) ?_ ?_
    ·clear hF
     have hF:=y
     refine AWP.block (AWP.seq ?_)
     obtain⟨g,z,hF⟩:=bindb hF
     refine AWP.rg [(0,.idx Za z)] [(1,(i64 b)),(2,(u32 c)),(7,(.own 0 (List.length d))),(9,(.ptr 1 0)),(10,(slc 10 Za a)),(11,(i64 (List.length a:Int))),(12,(i64 f))] [bf 10 50 Za d false,.cells (Za g)] (AWP.seq ?_)
     obtain⟨o,hF⟩:=chkb hF
     obtain⟨a0,p,hF⟩:=bindb hF
     replace p:=someb p
     obtain⟨a1,u,hF⟩:=bindb hF
     refine AWP.to [(1,(i64 b)),(2,(u32 c)),(7,(.own 0 (List.length d))),(9,(.ptr 1 0)),(10,(slc 10 Za a)),(11,(i64 (List.length a:Int))),(12,(i64 f)),(29,(vb a1))] [bf 10 50 Za d false,.cells (Za g)] ?_ ?_
     ·cases a0 with
      | false=>
       have a2:=someb (ifF u rfl)
       subst a2
       exact AWP.rgT [(1,.ixd o),(3,.ldA Zl (Arr5.get g) 0 2 0 o),(6,.bool p)]
      | true=>
       have k:=ifT u rfl
       obtain⟨v,k⟩:=chkb k
       replace k:=someb k
       subst k
       exact AWP.rgT [(1,.ixd o),(3,.ldA Zl (Arr5.get g) 0 2 0 o),(6,.bool p),(9,.ixd v),(11,.ldA Zl (Arr5.get g) 0 2 1 v)]
     refine AWP.cif hF (fun a3 hF=>?_) (fun a3 hF=>?_)
     ·obtain⟨a4,hF⟩:=chkb hF
      refine AWP.rg [(3,.app Za (fun _=>by kernel_rfl) a4)] [(1,(i64 b)),(2,(u32 c)),(7,(.own 0 (List.length (d++[g])))),(10,(slc 10 Za a)),(11,(i64 (List.length a:Int))),(12,(i64 f))] [bf 10 50 Za (d++[g]) false,.cells (Za g)] (LeQ.start (LeQ.pk [1,2,7,10,11,12] 1 ?_))
      have hr:=someb hF
      subst hr
      exact⟨rfl,by kernel_rfl,by kernel_rfl⟩
     ·refine AWP.skip (LeQ.start (LeQ.pk [1,2,7,10,11,12] 1 ?_))
      have hr:=someb hF
      subst hr
      exact⟨rfl,by kernel_rfl,by kernel_rfl⟩
    ·rintro _ _ _ ⟨rfl,rfl,rfl⟩
     refine AWP.rg0 [] [(1,(i64 b)),(2,(u32 c)),(7,(.own 0 (List.length m))),(10,(slc 10 Za a)),(11,(i64 (List.length a:Int))),(12,(i64 (ZI (f + (1:Int)))))] (LeQ.start (LeQ.pk [1,2,7,10,11,12] 1 ?_))
     exact⟨q,Nat.lt_succ_self _,m,(ZI (f + (1:Int))),hF,by kernel_rfl,by kernel_rfl⟩
   ·refine AWP.exit (LeQ.start (LeQ.pk [7] 1 ?_))
    have hr:=someb hF
    subst hr
    exact⟨rfl,by kernel_rfl,by kernel_rfl⟩
 ·rintro _ _ _ ⟨rfl,rfl,rfl⟩
  refine AWP.seq (AWP.rg0 [] [(6,(.own 0 (List.length j)))] (AWP.ret ?_))
  have hr:=someb hF
  subst hr
  exact(FnQ.f1 0 (.inr rfl) (.inl (Wk.ownT (i:=0) (s:=10) (t:=50) (l:=j) (sh:=false) (row:=Za) (by kernel_rfl) (.inl rfl))))
def Zeb (r:(ZL × Bool)):PV→List Blk→Prop:=fun p K=>p=(.tup [(slc 10 Za r.1),(vb r.2)])∧K=[]
abbrev Zfw (r:(ZL × Bool)):Exit→St→List Blk→Prop:=FnQ Tryd.prog Tryd.f85.results 0 (Zeb r)
theorem Zhr:∀(nr:Nat) (a:Int) (d:ZL) (f:ZL) (g:Int) (r:(ZL × Bool)) (hF:Zad nr a d f g=some r),ACall Tryd.prog glob 85 [(i64 a),(slc 10 Za d),(slc 10 Za f),(.sc (.func (.func 77) #[] #[])),(i64 g)] [] (Zeb r):=by
 intro nr
 induction nr with
 | zero=>intro a d f g r hF; exact noneb (by rw [Zad] at hF; exact hF)
 | succ nr ih=>
  intro a d f g r hF
  refine ACall.body Tryd.func85 rfl (by kernel_rfl) ?_
  rw [Zad] at hF
  refine AWP.seq (AWP.rg0 [] [(0,(i64 a)),(1,(slc 10 Za d)),(2,(slc 10 Za f)),(3,(.sc (.func (.func 77) #[] #[]))),(4,(i64 g))] (AWP.seq (AWP.seq (AWP.rg0 [] [(0,(i64 a)),(1,(slc 10 Za d)),(2,(slc 10 Za f)),(3,(.sc (.func (.func 77) #[] #[]))),(4,(i64 g)),(26,(vb (a == (5:Int))))] ?_))))
  refine AWP.cif hF (fun c8 hF=>?_) (fun c8 hF=>?_)
  ·refine AWP.seq (AWP.seq ?_)
   obtain⟨b8,c9,hF⟩:=bindb hF
   refine AWP.rg0 [(2,.len Za d),(5,.len Za f),(7,.call Tryd.func77 [] (Zje (decide ((List.length d:Int) > (0:Int))) (decide ((List.length f:Int) > (0:Int))) b8 c9))] [(34,(vb b8))] ?_
   refine AWP.cif hF (fun d0 hF=>?_) (fun d0 hF=>?_)
   ·refine AWP.seq (AWP.rg0 [] [(10,(slc 10 Za [(Arr5.mk Zr Zr Zr Zr Zr)])),(11,(vb true))] (AWP.ret ?_))
    have hr:=someb hF
    subst hr
    exact(FnQ.f0 0 (.inr rfl))
   ·refine AWP.skip (AWP.seq (AWP.rg0 [] [(10,nils),(11,(vb true))] (AWP.ret ?_)))
    have hr:=someb hF
    subst hr
    exact(FnQ.f1 0 (.inr rfl) (.inr ⟨_,_,rfl,rfl,(.cons _ _ _ _ (.nil 10) (.cons _ _ _ _ (.refl _) .nil))⟩))
  ·refine AWP.skip (AWP.seq (AWP.seq ?_))
   obtain⟨d1,b0,hF⟩:=bindb hF
   replace b0:=someb b0
   obtain⟨d2,b9,hF⟩:=bindb hF
   refine AWP.to [(0,(i64 a)),(1,(slc 10 Za d)),(2,(slc 10 Za f)),(3,(.sc (.func (.func 77) #[] #[]))),(4,(i64 g)),(47,(vb d2))] [] ?_ ?_
   ·cases d1 with
    | false=>
     have d3:=someb (ifF b9 rfl)
     subst d3
     exact AWP.rgT [(1,.len Za d),(3,.len Za f),(6,.bool b0)]
    | true=>
     have a3:=ifT b9 rfl
     obtain⟨d4,d5,a3⟩:=bindb a3
     replace a3:=someb a3
     subst a3
     exact AWP.rgT [(1,.len Za d),(3,.len Za f),(6,.bool b0),(8,.call Tryd.func77 [] (Zje false false d4 d5))]
   refine AWP.cif hF (fun d6 hF=>?_) (fun d6 hF=>?_)
   ·refine AWP.seq (AWP.rg0 [] [(10,nils),(11,(vb true))] (AWP.ret ?_))
    have hr:=someb hF
    subst hr
    exact(FnQ.f1 0 (.inr rfl) (.inr ⟨_,_,rfl,rfl,(.cons _ _ _ _ (.nil 10) (.cons _ _ _ _ (.refl _) .nil))⟩))
   ·refine AWP.skip (AWP.seq (AWP.rg0 [] [(0,(i64 a)),(1,(slc 10 Za d)),(2,(slc 10 Za f)),(3,(.sc (.func (.func 77) #[] #[]))),(4,(i64 g)),(12,nils)] ?_))
    refine AWP.own (H':=[bf 3 116 Zd ([]:(List Zg)) false]) (st':=[(12,(.own 0 (List.length ([]:(List Zg))))),(0,(i64 a)),(1,(slc 10 Za d)),(2,(slc 10 Za f)),(3,(.sc (.func (.func 77) #[] #[]))),(4,(i64 g))]) 12 3 116 (by kernel_rfl) (by kernel_rfl) (by kernel_rfl) ?_
    refine AWP.pick (st':=[(0,(i64 a)),(1,(slc 10 Za d)),(2,(slc 10 Za f)),(3,(.sc (.func (.func 77) #[] #[]))),(4,(i64 g)),(12,(.own 0 (List.length ([]:(List Zg)))))]) (ks:=[0,1,2,3,4,12]) (by kernel_rfl) ?_
    refine AWP.seq (AWP.rg0 [] [(0,(i64 a)),(1,(slc 10 Za d)),(2,(slc 10 Za f)),(3,(.sc (.func (.func 77) #[] #[]))),(4,(i64 g)),(12,(.own 0 (List.length ([]:(List Zg))))),(13,(i64 (0:Int)))] (AWP.seq ?_))
    obtain⟨k,d7,hF⟩:=bindb hF
    refine AWP.rg0 [(4,.call Tryd.func87 [] (Zhy a [d,f] k d7))] [(0,(i64 a)),(1,(slc 10 Za d)),(2,(slc 10 Za f)),(3,(.sc (.func (.func 77) #[] #[]))),(4,(i64 g)),(12,(.own 0 (List.length ([]:(List Zg))))),(13,(i64 (0:Int))),(14,(slc 1 Zc k))] (AWP.seq (AWP.seq (AWP.rg0 [] [(0,(i64 a)),(1,(slc 10 Za d)),(2,(slc 10 Za f)),(3,(.sc (.func (.func 77) #[] #[]))),(4,(i64 g)),(12,(.own 0 (List.length ([]:(List Zg))))),(13,(i64 (0:Int))),(14,(slc 1 Zc k)),(15,(i64 (0:Int)))] ?_)))
    obtain⟨b2,d8,hF⟩:=bindb hF
    refine AWP.mid (fun e st H=>(e=.normal∧∃ c,∃ b3,b2=(.inl (c,b3))∧st=[(0,(i64 a)),(12,(.own 0 (List.length c))),(13,(i64 b3))]∧H=[bf 3 116 Zd c false])∨(e=.ret∧∃ r,b2=(.inr r)∧Zfw r e st H)) ?_ ?_
    ·clear hF
     refine AWP.kp [0,1,2,3,4,12,13,14,15] 1 ?_
     refine AWP.bround (fun n st H=>∃ b,∃ o,∃ p,Zz a d f g (Zad nr) k n b o p=some b2∧st=[(0,(i64 a)),(1,(slc 10 Za d)),(2,(slc 10 Za f)),(3,(.sc (.func (.func 77) #[] #[]))),(4,(i64 g)),(12,(.own 0 (List.length b))),(13,(i64 o)),(14,(slc 1 Zc k)),(15,(i64 p))]∧H=[bf 3 116 Zd b false]) fuel ⟨([]:(List Zg)),(0:Int),(0:Int),d8,by kernel_rfl,by kernel_rfl⟩ ?_
     rintro b4 st H ⟨b,o,p,hF,rfl,rfl⟩
     cases b4 with
     | zero=>exact noneb hF
     | succ b4=>
      rw [Zz] at hF
      refine AWP.seq (AWP.seq (AWP.rg0 [(3,.len Zc k)] [(0,(i64 a)),(1,(slc 10 Za d)),(2,(slc 10 Za f)),(3,(.sc (.func (.func 77) #[] #[]))),(4,(i64 g)),(12,(.own 0 (List.length b))),(13,(i64 o)),(14,(slc 1 Zc k)),(15,(i64 p)),(57,(vb (decide ((ZI (p + (1:Int)))<(List.length k:Int)))))] ?_))
      refine AWP.cif hF (fun d9 hF=>?_) (fun d9 hF=>?_)
      ·refine AWP.skip ?_
       obtain⟨c0,e0,hF⟩:=bindb hF
       refine AWP.seq ?_
       refine AWP.mid (fun e st H=>(e=.normal∧∃ a2,∃ a4,c0=(.inl (a2,a4))∧st=[(0,(i64 a)),(1,(slc 10 Za d)),(2,(slc 10 Za f)),(3,(.sc (.func (.func 77) #[] #[]))),(4,(i64 g)),(12,(.own 0 (List.length a2))),(13,(i64 a4)),(14,(slc 1 Zc k)),(15,(i64 p))]∧H=[bf 3 116 Zd a2 false])∨(e=.ret∧∃ r,c0=(.inr r)∧Zfw r e st H)) ?_ ?_
       ·clear hF
        have hF:=e0
        refine AWP.block (AWP.seq ?_)
        obtain⟨w,e1,hF⟩:=bindb hF
        obtain⟨u,e2,hF⟩:=bindb hF
        refine AWP.dr [(2,.idx Zc e1),(8,.idx Zc e2)] 14 [] [13] [] [(0,(i64 a)),(1,(slc 10 Za d)),(2,(slc 10 Za f)),(3,(.sc (.func (.func 77) #[] #[]))),(4,(i64 g)),(12,(.own 0 (List.length b))),(13,(i64 o)),(14,(slc 1 Zc k)),(15,(i64 p)),(16,(.ptr 1 0))] [bf 3 116 Zd b false,.cells (Zl (Zb.mk (IntKind.wrap .u32 w) (IntKind.wrap .u32 (IntKind.wrap .u64 (u - (1:Int))))))] (AWP.seq ?_)
        obtain⟨c1,e3,hF⟩:=bindb hF
        obtain⟨c2,e4,hF⟩:=bindb hF
        obtain⟨m,e5,hF⟩:=bindb hF
        refine AWP.dr [(6,.call Tryd.func88 [] (Zdn d a (IntKind.wrap .u32 w) c1 e3)),(11,.call Tryd.func88 [] (Zdn f a (IntKind.wrap .u32 w) c2 e4)),(14,.call Tryd.func85 [] (ih (ZI (a + (1:Int))) c1 c2 g m e5))] 19 [] [] [] [(0,(i64 a)),(1,(slc 10 Za d)),(2,(slc 10 Za f)),(3,(.sc (.func (.func 77) #[] #[]))),(4,(i64 g)),(12,(.own 0 (List.length b))),(13,(i64 o)),(14,(slc 1 Zc k)),(15,(i64 p)),(16,(.ptr 1 0)),(17,(slc 10 Za m.1)),(18,(vb m.2))] [bf 3 116 Zd b false,.cells (Zl (Zb.mk (IntKind.wrap .u32 w) (IntKind.wrap .u32 (IntKind.wrap .u64 (u - (1:Int))))))] (AWP.seq (AWP.seq (AWP.rg0 [] [(0,(i64 a)),(1,(slc 10 Za d)),(2,(slc 10 Za f)),(3,(.sc (.func (.func 77) #[] #[]))),(4,(i64 g)),(12,(.own 0 (List.length b))),(13,(i64 o)),(14,(slc 1 Zc k)),(15,(i64 p)),(16,(.ptr 1 0)),(17,(slc 10 Za m.1)),(92,(vb (!m.2)))] ?_)))
        refine AWP.cif hF (fun e6 hF=>?_) (fun e6 hF=>?_)
        ·refine AWP.seq (AWP.rg0 [] [(10,nils),(11,(vb false))] (AWP.ret ?_))
         exact LeQ.of (.inr ⟨rfl,(([]:ZL),false),(someb hF).symm,(FnQ.f1 0 (.inr rfl) (.inr ⟨_,_,rfl,rfl,(.cons _ _ _ _ (.nil 10) (.cons _ _ _ _ (.refl _) .nil))⟩))⟩)
        ·refine AWP.skip (AWP.seq (AWP.seq (AWP.rg0 [(1,.len Za m.1)] [(0,(i64 a)),(1,(slc 10 Za d)),(2,(slc 10 Za f)),(3,(.sc (.func (.func 77) #[] #[]))),(4,(i64 g)),(12,(.own 0 (List.length b))),(13,(i64 o)),(14,(slc 1 Zc k)),(15,(i64 p)),(16,(.ptr 1 0)),(17,(slc 10 Za m.1)),(95,(vb ((List.length m.1:Int) == (0:Int))))] ?_)))
         refine AWP.cif hF (fun e7 hF=>?_) (fun e7 hF=>?_)
         ·refine AWP.exit (LeQ.start (LeQ.pk [0,1,2,3,4,12,13,14,15] 1 ?_))
          exact(.inl ⟨rfl,b,o,(someb hF).symm,by kernel_rfl,by kernel_rfl⟩)
         ·refine AWP.skip (AWP.seq (AWP.seq (AWP.rg0 [(1,.len Zd b)] [(0,(i64 a)),(1,(slc 10 Za d)),(2,(slc 10 Za f)),(3,(.sc (.func (.func 77) #[] #[]))),(4,(i64 g)),(12,(.own 0 (List.length b))),(13,(i64 o)),(14,(slc 1 Zc k)),(15,(i64 p)),(16,(.ptr 1 0)),(17,(slc 10 Za m.1)),(19,(i64 (List.length b:Int)))] (AWP.seq ?_))))
          obtain⟨e8,a5,hF⟩:=bindb hF
          replace a5:=someb a5
          obtain⟨h1,c3,hF⟩:=bindb hF
          obtain⟨e9,a6,hF⟩:=bindb hF
          replace a6:=someb a6
          obtain⟨f2,b5,hF⟩:=bindb hF
          refine AWP.to [(0,(i64 a)),(1,(slc 10 Za d)),(2,(slc 10 Za f)),(3,(.sc (.func (.func 77) #[] #[]))),(4,(i64 g)),(12,(.own 0 (List.length b))),(13,(i64 o)),(14,(slc 1 Zc k)),(15,(i64 p)),(16,(.ptr 1 0)),(17,(slc 10 Za m.1)),(19,(i64 (List.length b:Int))),(122,(vb f2))] [bf 3 116 Zd b false,.cells (Zl (Zb.mk (IntKind.wrap .u32 w) (IntKind.wrap .u32 (IntKind.wrap .u64 (u - (1:Int))))))] ?_ ?_
          ·cases e8 with
           | false=>
            have f3:=someb (ifF c3 rfl)
            subst f3
            subst a6
            have f4:=someb (ifF b5 rfl)
            subst f4
            exact AWP.drT [(2,.bool a5)] 25 [] [] []
           | true=>
            have a7:=ifT c3 rfl
            obtain⟨h2,b1,a7⟩:=bindb a7
            replace a7:=someb a7
            subst a7
            cases e9 with
            | false=>
             have f5:=someb (ifF b5 rfl)
             subst f5
             exact AWP.drT [(2,.bool a5),(6,.idx Zd b1),(7,.fdE Zd b (ZI ((List.length b:Int) - (1:Int)))),(8,.fdE Zd b (ZI ((List.length b:Int) - (1:Int)))),(9,.ldE Zd b1),(15,.bool a6)] 25 [] [] []
            | true=>
             have a1:=ifT b5 rfl
             obtain⟨f6,c4,a1⟩:=bindb a1
             obtain⟨f7,f8,a1⟩:=bindb a1
             replace a1:=someb a1
             subst a1
             exact AWP.drT [(2,.bool a5),(6,.idx Zd b1),(7,.fdE Zd b (ZI ((List.length b:Int) - (1:Int)))),(8,.fdE Zd b (ZI ((List.length b:Int) - (1:Int)))),(9,.ldE Zd b1),(15,.bool a6),(19,.idx Zd c4),(20,.fdE Zd b (ZI ((List.length b:Int) - (1:Int)))),(21,.ldE Zd c4),(23,.call Tryd.func84 [] (Zdd f6.f_rest m.1 f7 f8))] 25 [] [] []
          refine AWP.cif hF (fun f9 hF=>?_) (fun f9 hF=>?_)
          ·refine AWP.seq ?_
           obtain⟨z,c5,hF⟩:=bindb hF
           refine AWP.rg [(5,.idx Zd c5),(6,.fdE Zd b (ZI ((List.length b:Int) - (1:Int)))),(7,.fdE Zd b (ZI ((List.length b:Int) - (1:Int)))),(8,.stE Zd c5 ({ z with f_values:=({ z.f_values with Hi:=(IntKind.wrap .u32 (IntKind.wrap .u64 (u - (1:Int)))) }:Zb) }:Zg))] [(0,(i64 a)),(1,(slc 10 Za d)),(2,(slc 10 Za f)),(3,(.sc (.func (.func 77) #[] #[]))),(4,(i64 g)),(12,(.own 0 (List.length b))),(13,(i64 o)),(14,(slc 1 Zc k)),(15,(i64 p))] [bf 3 116 Zd (List.set b (Int.toNat (ZI ((List.length b:Int) - (1:Int)))) ({ z with f_values:=({ z.f_values with Hi:=(IntKind.wrap .u32 (IntKind.wrap .u64 (u - (1:Int)))) }:Zb) }:Zg)) false,.cells (Zl (Zb.mk (IntKind.wrap .u32 w) (IntKind.wrap .u32 (IntKind.wrap .u64 (u - (1:Int))))))] ?_
           rw [show ([(0,(i64 a)),(1,(slc 10 Za d)),(2,(slc 10 Za f)),(3,(.sc (.func (.func 77) #[] #[]))),(4,(i64 g)),(12,(.own 0 (List.length b))),(13,(i64 o)),(14,(slc 1 Zc k)),(15,(i64 p))]:St)=[(0,(i64 a)),(1,(slc 10 Za d)),(2,(slc 10 Za f)),(3,(.sc (.func (.func 77) #[] #[]))),(4,(i64 g)),(12,(.own 0 (List.length (List.set b (Int.toNat (ZI ((List.length b:Int) - (1:Int)))) ({ z with f_values:=({ z.f_values with Hi:=(IntKind.wrap .u32 (IntKind.wrap .u64 (u - (1:Int)))) }:Zb) }:Zg))))),(13,(i64 o)),(14,(slc 1 Zc k)),(15,(i64 p))] by simp only [List.length_set]]
           refine AWP.exit (LeQ.start (LeQ.pk [0,1,2,3,4,12,13,14,15] 1 ?_))
           exact(.inl ⟨rfl,(List.set b (Int.toNat (ZI ((List.length b:Int) - (1:Int)))) ({ z with f_values:=({ z.f_values with Hi:=(IntKind.wrap .u32 (IntKind.wrap .u64 (u - (1:Int)))) }:Zb) }:Zg)),o,(someb hF).symm,by kernel_rfl,by kernel_rfl⟩)
          ·refine AWP.skip (AWP.seq ?_)
           obtain⟨g0,hF⟩:=chkb hF
           refine AWP.rg [(5,.app Zd (fun _=>by kernel_rfl) g0)] [(0,(i64 a)),(1,(slc 10 Za d)),(2,(slc 10 Za f)),(3,(.sc (.func (.func 77) #[] #[]))),(4,(i64 g)),(12,(.own 0 (List.length (b++[(Zg.mk (Zb.mk (IntKind.wrap .u32 w) (IntKind.wrap .u32 (IntKind.wrap .u64 (u - (1:Int))))) m.1)])))),(13,(i64 o)),(14,(slc 1 Zc k)),(15,(i64 p)),(17,(slc 10 Za m.1))] [bf 3 116 Zd (b++[(Zg.mk (Zb.mk (IntKind.wrap .u32 w) (IntKind.wrap .u32 (IntKind.wrap .u64 (u - (1:Int))))) m.1)]) false,.cells (Zl (Zb.mk (IntKind.wrap .u32 w) (IntKind.wrap .u32 (IntKind.wrap .u64 (u - (1:Int))))))] (AWP.seq (AWP.rg0 [(2,.len Za m.1)] [(0,(i64 a)),(1,(slc 10 Za d)),(2,(slc 10 Za f)),(3,(.sc (.func (.func 77) #[] #[]))),(4,(i64 g)),(12,(.own 0 (List.length (b++[(Zg.mk (Zb.mk (IntKind.wrap .u32 w) (IntKind.wrap .u32 (IntKind.wrap .u64 (u - (1:Int))))) m.1)])))),(13,(i64 (ZI (o + (List.length m.1:Int))))),(14,(slc 1 Zc k)),(15,(i64 p))] (AWP.seq (AWP.rg0 [] [(0,(i64 a)),(1,(slc 10 Za d)),(2,(slc 10 Za f)),(3,(.sc (.func (.func 77) #[] #[]))),(4,(i64 g)),(12,(.own 0 (List.length (b++[(Zg.mk (Zb.mk (IntKind.wrap .u32 w) (IntKind.wrap .u32 (IntKind.wrap .u64 (u - (1:Int))))) m.1)])))),(13,(i64 (ZI (o + (List.length m.1:Int))))),(14,(slc 1 Zc k)),(15,(i64 p)),(143,(vb (decide ((ZI (o + (List.length m.1:Int))) > g))))] ?_))))
           refine AWP.cif hF (fun g1 hF=>?_) (fun g1 hF=>?_)
           ·refine AWP.seq (AWP.rg0 [] [(10,nils),(11,(vb false))] (AWP.ret ?_))
            exact LeQ.of (.inr ⟨rfl,(([]:ZL),false),(someb hF).symm,(FnQ.f1 0 (.inr rfl) (.inr ⟨_,_,rfl,rfl,(.cons _ _ _ _ (.nil 10) (.cons _ _ _ _ (.refl _) .nil))⟩))⟩)
           ·refine AWP.skip (LeQ.start (LeQ.pk [0,1,2,3,4,12,13,14,15] 1 ?_))
            exact(.inl ⟨rfl,(b++[(Zg.mk (Zb.mk (IntKind.wrap .u32 w) (IntKind.wrap .u32 (IntKind.wrap .u64 (u - (1:Int))))) m.1)]),(ZI (o + (List.length m.1:Int))),(someb hF).symm,by kernel_rfl,by kernel_rfl⟩)
       ·rintro _ _ _ (⟨rfl,a2,a4,rfl,rfl,rfl⟩ | ⟨rfl,g2,rfl,hq⟩)
        ·refine AWP.rg0 [] [(0,(i64 a)),(1,(slc 10 Za d)),(2,(slc 10 Za f)),(3,(.sc (.func (.func 77) #[] #[]))),(4,(i64 g)),(12,(.own 0 (List.length a2))),(13,(i64 a4)),(14,(slc 1 Zc k)),(15,(i64 (ZI (p + (1:Int)))))] (LeQ.start (LeQ.pk [0,1,2,3,4,12,13,14,15] 1 ?_))
         exact⟨b4,Nat.lt_succ_self _,a2,a4,(ZI (p + (1:Int))),hF,by kernel_rfl,by kernel_rfl⟩
        ·exact LeQ.of (.inr ⟨rfl,g2,(someb hF).symm,hq⟩)
      ·refine AWP.exit (LeQ.start (LeQ.pk [0,12,13] 1 ?_))
       exact(.inl ⟨rfl,b,o,(someb hF).symm,by kernel_rfl,by kernel_rfl⟩)
    ·rintro _ _ _ (⟨rfl,c,b3,rfl,rfl,rfl⟩ | ⟨rfl,h3,rfl,hq⟩)
     ·refine AWP.seq ?_
      obtain⟨g3,hF⟩:=chkb hF
      refine AWP.rg [(1,.mk0 Za g3)] [(0,(i64 a)),(12,(.own 0 (List.length c))),(20,(.own 1 (List.length ([]:ZL))))] [bf 3 116 Zd c false,bf 10 50 Za ([]:ZL) false] (AWP.seq (AWP.seq (AWP.rg0 [(1,.len Zd c)] [(0,(i64 a)),(20,(.own 1 (List.length ([]:ZL)))),(146,(.own 0 (List.length c))),(147,(i64 (List.length c:Int))),(148,(i64 (0:Int)))] ?_)))
      obtain⟨a8,g4,hF⟩:=bindb hF
      refine AWP.mid (fun e st H=>e=.normal∧st=[(20,(.own 1 (List.length a8)))]∧H=[bf 3 116 Zd c false,bf 10 50 Za a8 false]) ?_ ?_
      ·clear hF
       refine AWP.kp [0,20,146,147,148] 2 ?_
       refine AWP.bround (fun n st H=>∃ y,∃ q,Zw a c n y q=some a8∧st=[(0,(i64 a)),(20,(.own 1 (List.length y))),(146,(.own 0 (List.length c))),(147,(i64 (List.length c:Int))),(148,(i64 q))]∧H=[bf 3 116 Zd c false,bf 10 50 Za y false]) fuel ⟨([]:ZL),(0:Int),g4,by kernel_rfl,by kernel_rfl⟩ ?_
       rintro b6 st H ⟨y,q,hF,rfl,rfl⟩
       cases b6 with
       | zero=>exact noneb hF
       | succ b6=>
        rw [Zw] at hF
        refine AWP.seq (AWP.rg0 [] [(0,(i64 a)),(20,(.own 1 (List.length y))),(146,(.own 0 (List.length c))),(147,(i64 (List.length c:Int))),(148,(i64 q)),(149,(vb (decide (q<(List.length c:Int)))))] (AWP.seq ?_))
        refine AWP.cif hF (fun g5 hF=>?_) (fun g5 hF=>?_)
        ·refine AWP.skip (AWP.seq (AWP.block (AWP.seq ?_)))
         obtain⟨j,c6,hF⟩:=bindb hF
         refine AWP.rg [(0,.idx Zd c6),(1,.ldE Zd c6)] [(0,(i64 a)),(20,(.own 1 (List.length y))),(22,(.ptr 2 0)),(146,(.own 0 (List.length c))),(147,(i64 (List.length c:Int))),(148,(i64 q))] [bf 3 116 Zd c false,bf 10 50 Za y false,.cells (Zd j)] (AWP.seq (AWP.rg0 [(2,.len Za j.f_rest)] [(0,(i64 a)),(20,(.own 1 (List.length y))),(22,(.ptr 2 0)),(146,(.own 0 (List.length c))),(147,(i64 (List.length c:Int))),(148,(i64 q)),(153,(slc 10 Za j.f_rest)),(154,(i64 (List.length j.f_rest:Int))),(155,(i64 (0:Int)))] ?_))
         obtain⟨a9,g6,hF⟩:=bindb hF
         refine AWP.mid (fun e st H=>e=.normal∧st=[(0,(i64 a)),(20,(.own 1 (List.length a9))),(146,(.own 0 (List.length c))),(147,(i64 (List.length c:Int))),(148,(i64 q))]∧H=[bf 3 116 Zd c false,bf 10 50 Za a9 false,.cells (Zd j)]) ?_ ?_
         ·clear hF
          refine AWP.kp [0,20,22,146,147,148,153,154,155] 3 ?_
          refine AWP.bround (fun n st H=>∃ v,∃ x,Z0 a j n v x=some a9∧st=[(0,(i64 a)),(20,(.own 1 (List.length v))),(22,(.ptr 2 0)),(146,(.own 0 (List.length c))),(147,(i64 (List.length c:Int))),(148,(i64 q)),(153,(slc 10 Za j.f_rest)),(154,(i64 (List.length j.f_rest:Int))),(155,(i64 x))]∧H=[bf 3 116 Zd c false,bf 10 50 Za v false,.cells (Zd j)]) fuel ⟨y,(0:Int),g6,by kernel_rfl,by kernel_rfl⟩ ?_
          rintro b7 st H ⟨v,x,hF,rfl,rfl⟩
          cases b7 with
          | zero=>exact noneb hF
          | succ b7=>
           rw [Z0] at hF
           refine AWP.seq (AWP.rg0 [] [(0,(i64 a)),(20,(.own 1 (List.length v))),(22,(.ptr 2 0)),(146,(.own 0 (List.length c))),(147,(i64 (List.length c:Int))),(148,(i64 q)),(153,(slc 10 Za j.f_rest)),(154,(i64 (List.length j.f_rest:Int))),(155,(i64 x)),(156,(vb (decide (x<(List.length j.f_rest:Int)))))] (AWP.seq ?_))
           refine AWP.cif hF (fun g7 hF=>?_) (fun g7 hF=>?_)
           ·refine AWP.skip (AWP.seq (AWP.block (AWP.seq ?_)))
            obtain⟨a0,g8,hF⟩:=bindb hF
            refine AWP.rg [(0,.idx Za g8)] [(0,(i64 a)),(20,(.own 1 (List.length v))),(22,(.ptr 2 0)),(24,(.ptr 3 0)),(146,(.own 0 (List.length c))),(147,(i64 (List.length c:Int))),(148,(i64 q)),(153,(slc 10 Za j.f_rest)),(154,(i64 (List.length j.f_rest:Int))),(155,(i64 x))] [bf 3 116 Zd c false,bf 10 50 Za v false,.cells (Zd j),.cells (Za a0)] (AWP.seq ?_)
            obtain⟨c7,hF⟩:=chkb hF
            refine AWP.rg [(3,.ixd c7),(4,.stA (fun g9=>Za (Arr5.set a0 g9 j.f_values)) 0 2 0 c7)] [(0,(i64 a)),(20,(.own 1 (List.length v))),(22,(.ptr 2 0)),(24,(.ptr 3 0)),(146,(.own 0 (List.length c))),(147,(i64 (List.length c:Int))),(148,(i64 q)),(153,(slc 10 Za j.f_rest)),(154,(i64 (List.length j.f_rest:Int))),(155,(i64 x))] [bf 3 116 Zd c false,bf 10 50 Za v false,.cells (Zd j),.cells (Za (Arr5.set a0 a j.f_values))] ?_
            obtain⟨h0,hF⟩:=chkb hF
            refine AWP.rg [(3,.app Za (fun _=>by kernel_rfl) h0)] [(0,(i64 a)),(20,(.own 1 (List.length (v++[(Arr5.set a0 a j.f_values)])))),(22,(.ptr 2 0)),(146,(.own 0 (List.length c))),(147,(i64 (List.length c:Int))),(148,(i64 q)),(153,(slc 10 Za j.f_rest)),(154,(i64 (List.length j.f_rest:Int))),(155,(i64 x))] [bf 3 116 Zd c false,bf 10 50 Za (v++[(Arr5.set a0 a j.f_values)]) false,.cells (Zd j),.cells (Za (Arr5.set a0 a j.f_values))] (AWP.rg0 [] [(0,(i64 a)),(20,(.own 1 (List.length (v++[(Arr5.set a0 a j.f_values)])))),(22,(.ptr 2 0)),(146,(.own 0 (List.length c))),(147,(i64 (List.length c:Int))),(148,(i64 q)),(153,(slc 10 Za j.f_rest)),(154,(i64 (List.length j.f_rest:Int))),(155,(i64 (ZI (x + (1:Int)))))] (LeQ.start (LeQ.pk [0,20,22,146,147,148,153,154,155] 3 ?_)))
            exact⟨b7,Nat.lt_succ_self _,(v++[(Arr5.set a0 a j.f_values)]),(ZI (x + (1:Int))),hF,by kernel_rfl,by kernel_rfl⟩
           ·refine AWP.exit (LeQ.start (LeQ.pk [0,20,146,147,148] 3 ?_))
            have hr:=someb hF
            subst hr
            exact⟨rfl,by kernel_rfl,by kernel_rfl⟩
         ·rintro _ _ _ ⟨rfl,rfl,rfl⟩
          refine AWP.rg0 [] [(0,(i64 a)),(20,(.own 1 (List.length a9))),(146,(.own 0 (List.length c))),(147,(i64 (List.length c:Int))),(148,(i64 (ZI (q + (1:Int)))))] (LeQ.start (LeQ.pk [0,20,146,147,148] 2 ?_))
          exact⟨b6,Nat.lt_succ_self _,a9,(ZI (q + (1:Int))),hF,by kernel_rfl,by kernel_rfl⟩
        ·refine AWP.exit (LeQ.start (LeQ.pk [20] 2 ?_))
         have hr:=someb hF
         subst hr
         exact⟨rfl,by kernel_rfl,by kernel_rfl⟩
      ·rintro _ _ _ ⟨rfl,rfl,rfl⟩
       refine AWP.seq (AWP.rg0 [] [(10,(.own 1 (List.length a8))),(11,(vb true))] (AWP.ret ?_))
       have hr:=someb hF
       subst hr
       exact(FnQ.f1 0 (.inr rfl) (.inr ⟨_,_,rfl,rfl,(.cons _ _ _ _ (Wk.ownT (i:=1) (s:=10) (t:=50) (l:=a8) (sh:=false) (row:=Za) (by kernel_rfl) (.inl rfl)) (.cons _ _ _ _ (.refl _) .nil))⟩))
     ·have hr:=someb hF
      subst hr
      exact hq
theorem Zia (a:Int) (b:ZL) (c:ZL) (d:Int) (r:(ZL × Bool)) (hF:Zad fuel a b c d=some r):ACall Tryd.prog glob 85 [(i64 a),(slc 10 Za b),(slc 10 Za c),(.sc (.func (.func 77) #[] #[])),(i64 d)] [] (Zeb r):=Zhr fuel a b c d r hF
def Ziw (r:(ZL × Int)):PV→List Blk→Prop:=fun p K=>p=(.tup [(slc 10 Za r.1),(i64 r.2)])∧K=[]
theorem Zgb (b:ZL) (c:ZL) (r:(ZL × Int)) (hF:Zbk b c=some r):ACall Tryd.prog glob 76 [(slc 10 Za b),(slc 10 Za c),(.sc (.func (.func 77) #[] #[]))] [] (Ziw r):=by
 refine ACall.body Tryd.func76 rfl (by kernel_rfl) ?_
 unfold Zbk at hF
 refine AWP.seq (AWP.rg0 [] [(0,(slc 10 Za b)),(1,(slc 10 Za c)),(2,(.sc (.func (.func 77) #[] #[])))] (AWP.seq ?_))
 obtain⟨a,d,hF⟩:=bindb hF
 refine AWP.rg0 [(3,.call Tryd.func85 [] (Zia (0:Int) b c (4096:Int) a d))] [(8,(slc 10 Za a.1)),(9,(vb a.2))] (AWP.seq (AWP.seq (AWP.rg0 [] [(8,(slc 10 Za a.1)),(18,(vb (!a.2)))] ?_)))
 refine AWP.cif hF (fun f hF=>?_) (fun f hF=>?_)
 ·refine AWP.seq (AWP.rg0 [] [(6,nils),(7,(i64 (3:Int)))] (AWP.ret ?_))
  have hr:=someb hF
  subst hr
  exact(FnQ.f1 0 (.inr rfl) (.inr ⟨_,_,rfl,rfl,(.cons _ _ _ _ (.nil 10) (.cons _ _ _ _ (.refl _) .nil))⟩))
 ·refine AWP.skip (AWP.seq (AWP.rg0 [] [(6,(slc 10 Za a.1)),(7,(i64 (0:Int)))] (AWP.ret ?_)))
  have hr:=someb hF
  subst hr
  exact(FnQ.f0 0 (.inr rfl))
def Zkd (r:(ZL × Int)):PV→List Blk→Prop:=fun p K=>p=(.tup [(slc 10 Za r.1),(i64 r.2)])∧K=[]
abbrev Zo6 (r:(ZL × Int)):Exit→St→List Blk→Prop:=FnQ Tryd.prog Tryd.f66.results 0 (Zkd r)
theorem Zke (f:ZL) (r:(ZL × Int)) (hF:Zeu f=some r):ACall Tryd.prog glob 66 [(slc 10 Za f)] [] (Zkd r):=by
 refine ACall.body Tryd.func66 rfl (by kernel_rfl) ?_
 unfold Zeu at hF
 refine AWP.seq (AWP.rg0 [] [(0,(slc 10 Za f))] (AWP.seq (AWP.rg0 [] [(0,(slc 10 Za f)),(4,nils)] (AWP.seq (AWP.seq ?_)))))
 obtain⟨a,l,hF⟩:=bindb hF
 refine AWP.rg0 [(1,.call Tryd.func74 [] (Zhi f a l)),(2,.len Za a)] [(4,nils),(10,(slc 10 Za a)),(11,(i64 (List.length a:Int))),(12,(i64 (0:Int)))] ?_
 obtain⟨i,m,hF⟩:=bindb hF
 refine AWP.mid (fun e st H=>(e=.normal∧∃ g,i=(.inl g)∧st=[(4,(slc 10 Za g))]∧H=[])∨(e=.ret∧∃ r,i=(.inr r)∧Zo6 r e st H)) ?_ ?_
 ·clear hF
  refine AWP.wk (p:=nils) (q:=(slc 10 Za ([]:ZL))) (st':=[(4,(slc 10 Za ([]:ZL))),(10,(slc 10 Za a)),(11,(i64 (List.length a:Int))),(12,(i64 (0:Int)))]) 4 (by kernel_rfl) (.nil 10) (by kernel_rfl) ?_
  refine AWP.kp [4,10,11,12] 0 ?_
  refine AWP.bround (fun n st H=>∃ d,∃ b,Zdb a n d b=some i∧st=[(4,(slc 10 Za d)),(10,(slc 10 Za a)),(11,(i64 (List.length a:Int))),(12,(i64 b))]∧H=[]) fuel ⟨([]:ZL),(0:Int),m,by kernel_rfl,by kernel_rfl⟩ ?_
  rintro j st H ⟨d,b,hF,rfl,rfl⟩
  cases j with
  | zero=>exact noneb hF
  | succ j=>
   rw [Zdb] at hF
   refine AWP.seq (AWP.rg0 [] [(4,(slc 10 Za d)),(10,(slc 10 Za a)),(11,(i64 (List.length a:Int))),(12,(i64 b)),(13,(vb (decide (b<(List.length a:Int)))))] (AWP.seq ?_))
   refine AWP.cif hF (fun o hF=>?_) (fun o hF=>?_)
   ·refine AWP.skip (AWP.seq (AWP.block (AWP.seq ?_)))
    obtain⟨k,s,hF⟩:=bindb hF
    refine AWP.rg [(0,.idx Za s)] [(4,(slc 10 Za d)),(6,(.ptr 0 0)),(10,(slc 10 Za a)),(11,(i64 (List.length a:Int))),(12,(i64 b))] [.cells (Za k)] (AWP.seq ?_)
    obtain⟨c,t,hF⟩:=bindb hF
    refine AWP.rg0 [(3,.call Tryd.func76 [] (Zgb d [k] c t))] [(7,(slc 10 Za c.1)),(8,(i64 c.2)),(10,(slc 10 Za a)),(11,(i64 (List.length a:Int))),(12,(i64 b))] (AWP.seq (AWP.seq (AWP.rg0 [] [(7,(slc 10 Za c.1)),(8,(i64 c.2)),(10,(slc 10 Za a)),(11,(i64 (List.length a:Int))),(12,(i64 b)),(24,(vb (c.2 != (0:Int))))] ?_)))
    refine AWP.cif hF (fun u hF=>?_) (fun u hF=>?_)
    ·refine AWP.seq (AWP.rg0 [] [(2,nils),(3,(i64 c.2))] (AWP.ret ?_))
     exact LeQ.of (.inr ⟨rfl,(([]:ZL),c.2),(someb hF).symm,(FnQ.f1 0 (.inr rfl) (.inr ⟨_,_,rfl,rfl,(.cons _ _ _ _ (.nil 10) (.cons _ _ _ _ (.refl _) .nil))⟩))⟩)
    ·refine AWP.skip (AWP.rg0 [] [(4,(slc 10 Za c.1)),(10,(slc 10 Za a)),(11,(i64 (List.length a:Int))),(12,(i64 b))] (AWP.rg0 [] [(4,(slc 10 Za c.1)),(10,(slc 10 Za a)),(11,(i64 (List.length a:Int))),(12,(i64 (ZI (b + (1:Int)))))] (LeQ.start (LeQ.pk [4,10,11,12] 0 ?_))))
     exact⟨j,Nat.lt_succ_self _,c.1,(ZI (b + (1:Int))),hF,by kernel_rfl,by kernel_rfl⟩
   ·refine AWP.exit (LeQ.start (LeQ.pk [4] 0 ?_))
    exact(.inl ⟨rfl,d,(someb hF).symm,by kernel_rfl,by kernel_rfl⟩)
 ·rintro _ _ _ (⟨rfl,g,rfl,rfl,rfl⟩ | ⟨rfl,v,rfl,hq⟩)
  ·refine AWP.seq (AWP.rg0 [] [(2,(slc 10 Za g)),(3,(i64 (0:Int)))] (AWP.ret ?_))
   have hr:=someb hF
   subst hr
   exact(FnQ.f0 0 (.inr rfl))
  ·have hr:=someb hF
   subst hr
   exact hq
def Zll (r:(ZL × Zn)):PV→List Blk→Prop:=fun p K=>p=(slc 10 Za r.1)∧K=[.cells (Zo r.2)]
theorem Ze7 (c:Zn) (a:ZL) (b:Int) (r:(ZL × Zn)) (hF:Zcb c a b=some r):ACall Tryd.prog glob 65 [(.ptr 0 0),(slc 10 Za a),(i64 b)] [.cells (Zo c)] (Zll r):=by
 refine ACall.body Tryd.func65 rfl (by kernel_rfl) ?_
 unfold Zcb at hF
 refine AWP.seq (AWP.rg0 [] [(0,(.ptr 0 0)),(1,(slc 10 Za a)),(2,(i64 b))] ?_)
 obtain⟨d,f,hF⟩:=bindb hF
 refine AWP.seq ?_
 refine AWP.mid (fun e st H=>e=.normal∧st=[(0,(.ptr 0 0)),(1,(slc 10 Za a))]∧H=[.cells (Zo d)]) ?_ ?_
 ·clear hF
  have hF:=f
  refine AWP.seq (AWP.rg0 [] [(0,(.ptr 0 0)),(1,(slc 10 Za a)),(2,(i64 b)),(11,(vb (c.f_err == (0:Int))))] ?_)
  refine AWP.cif hF (fun g hF=>?_) (fun g hF=>?_)
  ·refine AWP.rg [] [(0,(.ptr 0 0)),(1,(slc 10 Za a))] [.cells (Zo ({ c with f_err:=b }:Zn))] (LeQ.start (LeQ.pk [0,1] 1 ?_))
   have hr:=someb hF
   subst hr
   exact⟨rfl,by kernel_rfl,by kernel_rfl⟩
  ·refine AWP.skip (LeQ.start (LeQ.pk [0,1] 1 ?_))
   have hr:=someb hF
   subst hr
   exact⟨rfl,by kernel_rfl,by kernel_rfl⟩
 ·rintro _ _ _ ⟨rfl,rfl,rfl⟩
  refine AWP.seq (AWP.seq (AWP.rg0 [] [(1,(slc 10 Za a)),(20,(vb (d.f_err != (0:Int))))] ?_))
  refine AWP.cif hF (fun i hF=>?_) (fun i hF=>?_)
  ·refine AWP.seq (AWP.rg0 [] [(6,nils)] (AWP.ret ?_))
   have hr:=someb hF
   subst hr
   exact(FnQ.f1 1 (.inr rfl) (.inl (.nil 10)))
  ·refine AWP.skip (AWP.seq (AWP.rg0 [] [(6,(slc 10 Za a))] (AWP.ret ?_)))
   have hr:=someb hF
   subst hr
   exact(FnQ.f0 1 (.inr rfl))
def Zlm (r:(ZL × Zn)):PV→List Blk→Prop:=fun p K=>p=(slc 10 Za r.1)∧K=[.cells (Zo r.2)]
theorem Zh2 (b:Zn) (a:ZL) (r:(ZL × Zn)) (hF:Zdf b a=some r):ACall Tryd.prog glob 42 [(.ptr 0 0),(slc 10 Za a)] [.cells (Zo b)] (Zlm r):=by
 refine ACall.body Tryd.func42 rfl (by kernel_rfl) ?_
 unfold Zdf at hF
 refine AWP.seq (AWP.rg0 [] [(0,(.ptr 0 0)),(1,(slc 10 Za a))] (AWP.seq (AWP.seq ?_)))
 obtain⟨f,g,hF⟩:=bindb hF
 refine AWP.rg0 [(1,.call Tryd.func64 [] (Zjw a f g))] [(0,(.ptr 0 0)),(1,(slc 10 Za a)),(6,(vb f))] ?_
 refine AWP.cif hF (fun i hF=>?_) (fun i hF=>?_)
 ·refine AWP.seq (AWP.rg0 [] [(4,(slc 10 Za a))] (AWP.ret ?_))
  have hr:=someb hF
  subst hr
  exact(FnQ.f0 1 (.inr rfl))
 ·refine AWP.skip (AWP.seq ?_)
  obtain⟨c,j,hF⟩:=bindb hF
  obtain⟨d,k,hF⟩:=bindb hF
  refine AWP.rg [(2,.call Tryd.func66 [] (Zke a c j)),(5,.call Tryd.func65 [] (Ze7 b c.1 c.2 d k))] [(4,(slc 10 Za d.1))] [.cells (Zo d.2)] (AWP.ret ?_)
  have hr:=someb hF
  subst hr
  exact(FnQ.f0 1 (.inr rfl))
def Zp5 (r:(ZL × Int)):PV→List Blk→Prop:=fun p K=>p=(.tup [(slc 10 Za r.1),(i64 r.2)])∧K=[]
theorem Ze8 (a:ZL) (r:(ZL × Int)) (hF:Zcx a=some r):ACall Tryd.prog glob 78 [(slc 10 Za a)] [] (Zp5 r):=by
 refine ACall.body Tryd.func78 rfl (by kernel_rfl) ?_
 unfold Zcx at hF
 refine AWP.seq (AWP.rg0 [] [(0,(slc 10 Za a))] (AWP.seq (AWP.seq ?_)))
 obtain⟨c,d,hF⟩:=bindb hF
 refine AWP.rg0 [(1,.call Tryd.func64 [] (Zjw a c d))] [(0,(slc 10 Za a)),(5,(vb c))] ?_
 refine AWP.cif hF (fun f hF=>?_) (fun f hF=>?_)
 ·refine AWP.seq (AWP.rg0 [] [(2,(slc 10 Za a)),(3,(i64 (0:Int)))] (AWP.ret ?_))
  have hr:=someb hF
  subst hr
  exact(FnQ.f0 0 (.inr rfl))
 ·refine AWP.skip (AWP.seq ?_)
  obtain⟨b,g,hF⟩:=bindb hF
  refine AWP.rg0 [(1,.call Tryd.func66 [] (Zke a b g))] [(2,(slc 10 Za b.1)),(3,(i64 b.2))] (AWP.ret ?_)
  have hr:=someb hF
  subst hr
  exact(FnQ.f0 0 (.inr rfl))
def Zo7 (r:Bool):PV→List Blk→Prop:=fun p K=>p=(vb r)∧K=[]
theorem Zkf (c:Bool) (a:Bool) (r:Bool) (hF:Zev c a=some r):ACall Tryd.prog glob 69 [(vb c),(vb a)] [] (Zo7 r):=by
 refine ACall.body Tryd.func69 rfl (by kernel_rfl) ?_
 unfold Zev at hF
 refine AWP.seq (AWP.rg0 [] [(0,(vb c)),(1,(vb a))] (AWP.seq ?_))
 obtain⟨d,b,hF⟩:=bindb hF
 replace b:=someb b
 refine AWP.to [(4,(vb (d && a)))] [] ?_ ?_
 ·cases d with
  | false=>
   exact AWP.rgT [(1,.bool b)]
  | true=>
   exact AWP.rgT [(1,.bool b)]
 refine AWP.ret ?_
 have hr:=someb hF
 subst hr
 exact(FnQ.f0 0 (.inr rfl))
def Zep (r:(ZL × Bool)):PV→List Blk→Prop:=fun p K=>p=(.tup [(slc 10 Za r.1),(vb r.2)])∧K=[]
abbrev Zgc (r:(ZL × Bool)):Exit→St→List Blk→Prop:=FnQ Tryd.prog Tryd.f85.results 0 (Zep r)
theorem Zib:∀(nr:Nat) (a:Int) (d:ZL) (f:ZL) (g:Int) (r:(ZL × Bool)) (hF:Zai nr a d f g=some r),ACall Tryd.prog glob 85 [(i64 a),(slc 10 Za d),(slc 10 Za f),(.sc (.func (.func 69) #[] #[])),(i64 g)] [] (Zep r):=by
 intro nr
 induction nr with
 | zero=>intro a d f g r hF; exact noneb (by rw [Zai] at hF; exact hF)
 | succ nr ih=>
  intro a d f g r hF
  refine ACall.body Tryd.func85 rfl (by kernel_rfl) ?_
  rw [Zai] at hF
  refine AWP.seq (AWP.rg0 [] [(0,(i64 a)),(1,(slc 10 Za d)),(2,(slc 10 Za f)),(3,(.sc (.func (.func 69) #[] #[]))),(4,(i64 g))] (AWP.seq (AWP.seq (AWP.rg0 [] [(0,(i64 a)),(1,(slc 10 Za d)),(2,(slc 10 Za f)),(3,(.sc (.func (.func 69) #[] #[]))),(4,(i64 g)),(26,(vb (a == (5:Int))))] ?_))))
  refine AWP.cif hF (fun c8 hF=>?_) (fun c8 hF=>?_)
  ·refine AWP.seq (AWP.seq ?_)
   obtain⟨b8,c9,hF⟩:=bindb hF
   refine AWP.rg0 [(2,.len Za d),(5,.len Za f),(7,.call Tryd.func69 [] (Zkf (decide ((List.length d:Int) > (0:Int))) (decide ((List.length f:Int) > (0:Int))) b8 c9))] [(34,(vb b8))] ?_
   refine AWP.cif hF (fun d0 hF=>?_) (fun d0 hF=>?_)
   ·refine AWP.seq (AWP.rg0 [] [(10,(slc 10 Za [(Arr5.mk Zr Zr Zr Zr Zr)])),(11,(vb true))] (AWP.ret ?_))
    have hr:=someb hF
    subst hr
    exact(FnQ.f0 0 (.inr rfl))
   ·refine AWP.skip (AWP.seq (AWP.rg0 [] [(10,nils),(11,(vb true))] (AWP.ret ?_)))
    have hr:=someb hF
    subst hr
    exact(FnQ.f1 0 (.inr rfl) (.inr ⟨_,_,rfl,rfl,(.cons _ _ _ _ (.nil 10) (.cons _ _ _ _ (.refl _) .nil))⟩))
  ·refine AWP.skip (AWP.seq (AWP.seq ?_))
   obtain⟨d1,b0,hF⟩:=bindb hF
   replace b0:=someb b0
   obtain⟨d2,b9,hF⟩:=bindb hF
   refine AWP.to [(0,(i64 a)),(1,(slc 10 Za d)),(2,(slc 10 Za f)),(3,(.sc (.func (.func 69) #[] #[]))),(4,(i64 g)),(47,(vb d2))] [] ?_ ?_
   ·cases d1 with
    | false=>
     have d3:=someb (ifF b9 rfl)
     subst d3
     exact AWP.rgT [(1,.len Za d),(3,.len Za f),(6,.bool b0)]
    | true=>
     have a3:=ifT b9 rfl
     obtain⟨d4,d5,a3⟩:=bindb a3
     replace a3:=someb a3
     subst a3
     exact AWP.rgT [(1,.len Za d),(3,.len Za f),(6,.bool b0),(8,.call Tryd.func69 [] (Zkf false false d4 d5))]
   refine AWP.cif hF (fun d6 hF=>?_) (fun d6 hF=>?_)
   ·refine AWP.seq (AWP.rg0 [] [(10,nils),(11,(vb true))] (AWP.ret ?_))
    have hr:=someb hF
    subst hr
    exact(FnQ.f1 0 (.inr rfl) (.inr ⟨_,_,rfl,rfl,(.cons _ _ _ _ (.nil 10) (.cons _ _ _ _ (.refl _) .nil))⟩))
   ·refine AWP.skip (AWP.seq (AWP.rg0 [] [(0,(i64 a)),(1,(slc 10 Za d)),(2,(slc 10 Za f)),(3,(.sc (.func (.func 69) #[] #[]))),(4,(i64 g)),(12,nils)] ?_))
    refine AWP.own (H':=[bf 3 116 Zd ([]:(List Zg)) false]) (st':=[(12,(.own 0 (List.length ([]:(List Zg))))),(0,(i64 a)),(1,(slc 10 Za d)),(2,(slc 10 Za f)),(3,(.sc (.func (.func 69) #[] #[]))),(4,(i64 g))]) 12 3 116 (by kernel_rfl) (by kernel_rfl) (by kernel_rfl) ?_
    refine AWP.pick (st':=[(0,(i64 a)),(1,(slc 10 Za d)),(2,(slc 10 Za f)),(3,(.sc (.func (.func 69) #[] #[]))),(4,(i64 g)),(12,(.own 0 (List.length ([]:(List Zg)))))]) (ks:=[0,1,2,3,4,12]) (by kernel_rfl) ?_
    refine AWP.seq (AWP.rg0 [] [(0,(i64 a)),(1,(slc 10 Za d)),(2,(slc 10 Za f)),(3,(.sc (.func (.func 69) #[] #[]))),(4,(i64 g)),(12,(.own 0 (List.length ([]:(List Zg))))),(13,(i64 (0:Int)))] (AWP.seq ?_))
    obtain⟨k,d7,hF⟩:=bindb hF
    refine AWP.rg0 [(4,.call Tryd.func87 [] (Zhy a [d,f] k d7))] [(0,(i64 a)),(1,(slc 10 Za d)),(2,(slc 10 Za f)),(3,(.sc (.func (.func 69) #[] #[]))),(4,(i64 g)),(12,(.own 0 (List.length ([]:(List Zg))))),(13,(i64 (0:Int))),(14,(slc 1 Zc k))] (AWP.seq (AWP.seq (AWP.rg0 [] [(0,(i64 a)),(1,(slc 10 Za d)),(2,(slc 10 Za f)),(3,(.sc (.func (.func 69) #[] #[]))),(4,(i64 g)),(12,(.own 0 (List.length ([]:(List Zg))))),(13,(i64 (0:Int))),(14,(slc 1 Zc k)),(15,(i64 (0:Int)))] ?_)))
    obtain⟨b2,d8,hF⟩:=bindb hF
    refine AWP.mid (fun e st H=>(e=.normal∧∃ c,∃ b3,b2=(.inl (c,b3))∧st=[(0,(i64 a)),(12,(.own 0 (List.length c))),(13,(i64 b3))]∧H=[bf 3 116 Zd c false])∨(e=.ret∧∃ r,b2=(.inr r)∧Zgc r e st H)) ?_ ?_
    ·clear hF
     refine AWP.kp [0,1,2,3,4,12,13,14,15] 1 ?_
     refine AWP.bround (fun n st H=>∃ b,∃ o,∃ p,Zbo a d f g (Zai nr) k n b o p=some b2∧st=[(0,(i64 a)),(1,(slc 10 Za d)),(2,(slc 10 Za f)),(3,(.sc (.func (.func 69) #[] #[]))),(4,(i64 g)),(12,(.own 0 (List.length b))),(13,(i64 o)),(14,(slc 1 Zc k)),(15,(i64 p))]∧H=[bf 3 116 Zd b false]) fuel ⟨([]:(List Zg)),(0:Int),(0:Int),d8,by kernel_rfl,by kernel_rfl⟩ ?_
     rintro b4 st H ⟨b,o,p,hF,rfl,rfl⟩
     cases b4 with
     | zero=>exact noneb hF
     | succ b4=>
      rw [Zbo] at hF
      refine AWP.seq (AWP.seq (AWP.rg0 [(3,.len Zc k)] [(0,(i64 a)),(1,(slc 10 Za d)),(2,(slc 10 Za f)),(3,(.sc (.func (.func 69) #[] #[]))),(4,(i64 g)),(12,(.own 0 (List.length b))),(13,(i64 o)),(14,(slc 1 Zc k)),(15,(i64 p)),(57,(vb (decide ((ZI (p + (1:Int)))<(List.length k:Int)))))] ?_))
      refine AWP.cif hF (fun d9 hF=>?_) (fun d9 hF=>?_)
      ·refine AWP.skip ?_
       obtain⟨c0,e0,hF⟩:=bindb hF
       refine AWP.seq ?_
       refine AWP.mid (fun e st H=>(e=.normal∧∃ a2,∃ a4,c0=(.inl (a2,a4))∧st=[(0,(i64 a)),(1,(slc 10 Za d)),(2,(slc 10 Za f)),(3,(.sc (.func (.func 69) #[] #[]))),(4,(i64 g)),(12,(.own 0 (List.length a2))),(13,(i64 a4)),(14,(slc 1 Zc k)),(15,(i64 p))]∧H=[bf 3 116 Zd a2 false])∨(e=.ret∧∃ r,c0=(.inr r)∧Zgc r e st H)) ?_ ?_
       ·clear hF
        have hF:=e0
        refine AWP.block (AWP.seq ?_)
        obtain⟨w,e1,hF⟩:=bindb hF
        obtain⟨u,e2,hF⟩:=bindb hF
        refine AWP.dr [(2,.idx Zc e1),(8,.idx Zc e2)] 14 [] [13] [] [(0,(i64 a)),(1,(slc 10 Za d)),(2,(slc 10 Za f)),(3,(.sc (.func (.func 69) #[] #[]))),(4,(i64 g)),(12,(.own 0 (List.length b))),(13,(i64 o)),(14,(slc 1 Zc k)),(15,(i64 p)),(16,(.ptr 1 0))] [bf 3 116 Zd b false,.cells (Zl (Zb.mk (IntKind.wrap .u32 w) (IntKind.wrap .u32 (IntKind.wrap .u64 (u - (1:Int))))))] (AWP.seq ?_)
        obtain⟨c1,e3,hF⟩:=bindb hF
        obtain⟨c2,e4,hF⟩:=bindb hF
        obtain⟨m,e5,hF⟩:=bindb hF
        refine AWP.dr [(6,.call Tryd.func88 [] (Zdn d a (IntKind.wrap .u32 w) c1 e3)),(11,.call Tryd.func88 [] (Zdn f a (IntKind.wrap .u32 w) c2 e4)),(14,.call Tryd.func85 [] (ih (ZI (a + (1:Int))) c1 c2 g m e5))] 19 [] [] [] [(0,(i64 a)),(1,(slc 10 Za d)),(2,(slc 10 Za f)),(3,(.sc (.func (.func 69) #[] #[]))),(4,(i64 g)),(12,(.own 0 (List.length b))),(13,(i64 o)),(14,(slc 1 Zc k)),(15,(i64 p)),(16,(.ptr 1 0)),(17,(slc 10 Za m.1)),(18,(vb m.2))] [bf 3 116 Zd b false,.cells (Zl (Zb.mk (IntKind.wrap .u32 w) (IntKind.wrap .u32 (IntKind.wrap .u64 (u - (1:Int))))))] (AWP.seq (AWP.seq (AWP.rg0 [] [(0,(i64 a)),(1,(slc 10 Za d)),(2,(slc 10 Za f)),(3,(.sc (.func (.func 69) #[] #[]))),(4,(i64 g)),(12,(.own 0 (List.length b))),(13,(i64 o)),(14,(slc 1 Zc k)),(15,(i64 p)),(16,(.ptr 1 0)),(17,(slc 10 Za m.1)),(92,(vb (!m.2)))] ?_)))
        refine AWP.cif hF (fun e6 hF=>?_) (fun e6 hF=>?_)
        ·refine AWP.seq (AWP.rg0 [] [(10,nils),(11,(vb false))] (AWP.ret ?_))
         exact LeQ.of (.inr ⟨rfl,(([]:ZL),false),(someb hF).symm,(FnQ.f1 0 (.inr rfl) (.inr ⟨_,_,rfl,rfl,(.cons _ _ _ _ (.nil 10) (.cons _ _ _ _ (.refl _) .nil))⟩))⟩)
        ·refine AWP.skip (AWP.seq (AWP.seq (AWP.rg0 [(1,.len Za m.1)] [(0,(i64 a)),(1,(slc 10 Za d)),(2,(slc 10 Za f)),(3,(.sc (.func (.func 69) #[] #[]))),(4,(i64 g)),(12,(.own 0 (List.length b))),(13,(i64 o)),(14,(slc 1 Zc k)),(15,(i64 p)),(16,(.ptr 1 0)),(17,(slc 10 Za m.1)),(95,(vb ((List.length m.1:Int) == (0:Int))))] ?_)))
         refine AWP.cif hF (fun e7 hF=>?_) (fun e7 hF=>?_)
         ·refine AWP.exit (LeQ.start (LeQ.pk [0,1,2,3,4,12,13,14,15] 1 ?_))
          exact(.inl ⟨rfl,b,o,(someb hF).symm,by kernel_rfl,by kernel_rfl⟩)
         ·refine AWP.skip (AWP.seq (AWP.seq (AWP.rg0 [(1,.len Zd b)] [(0,(i64 a)),(1,(slc 10 Za d)),(2,(slc 10 Za f)),(3,(.sc (.func (.func 69) #[] #[]))),(4,(i64 g)),(12,(.own 0 (List.length b))),(13,(i64 o)),(14,(slc 1 Zc k)),(15,(i64 p)),(16,(.ptr 1 0)),(17,(slc 10 Za m.1)),(19,(i64 (List.length b:Int)))] (AWP.seq ?_))))
          obtain⟨e8,a5,hF⟩:=bindb hF
          replace a5:=someb a5
          obtain⟨h1,c3,hF⟩:=bindb hF
          obtain⟨e9,a6,hF⟩:=bindb hF
          replace a6:=someb a6
          obtain⟨f2,b5,hF⟩:=bindb hF
          refine AWP.to [(0,(i64 a)),(1,(slc 10 Za d)),(2,(slc 10 Za f)),(3,(.sc (.func (.func 69) #[] #[]))),(4,(i64 g)),(12,(.own 0 (List.length b))),(13,(i64 o)),(14,(slc 1 Zc k)),(15,(i64 p)),(16,(.ptr 1 0)),(17,(slc 10 Za m.1)),(19,(i64 (List.length b:Int))),(122,(vb f2))] [bf 3 116 Zd b false,.cells (Zl (Zb.mk (IntKind.wrap .u32 w) (IntKind.wrap .u32 (IntKind.wrap .u64 (u - (1:Int))))))] ?_ ?_
          ·cases e8 with
           | false=>
            have f3:=someb (ifF c3 rfl)
            subst f3
            subst a6
            have f4:=someb (ifF b5 rfl)
            subst f4
            exact AWP.drT [(2,.bool a5)] 25 [] [] []
           | true=>
            have a7:=ifT c3 rfl
            obtain⟨h2,b1,a7⟩:=bindb a7
            replace a7:=someb a7
            subst a7
            cases e9 with
            | false=>
             have f5:=someb (ifF b5 rfl)
             subst f5
             exact AWP.drT [(2,.bool a5),(6,.idx Zd b1),(7,.fdE Zd b (ZI ((List.length b:Int) - (1:Int)))),(8,.fdE Zd b (ZI ((List.length b:Int) - (1:Int)))),(9,.ldE Zd b1),(15,.bool a6)] 25 [] [] []
            | true=>
             have a1:=ifT b5 rfl
             obtain⟨f6,c4,a1⟩:=bindb a1
             obtain⟨f7,f8,a1⟩:=bindb a1
             replace a1:=someb a1
             subst a1
             exact AWP.drT [(2,.bool a5),(6,.idx Zd b1),(7,.fdE Zd b (ZI ((List.length b:Int) - (1:Int)))),(8,.fdE Zd b (ZI ((List.length b:Int) - (1:Int)))),(9,.ldE Zd b1),(15,.bool a6),(19,.idx Zd c4),(20,.fdE Zd b (ZI ((List.length b:Int) - (1:Int)))),(21,.ldE Zd c4),(23,.call Tryd.func84 [] (Zdd f6.f_rest m.1 f7 f8))] 25 [] [] []
          refine AWP.cif hF (fun f9 hF=>?_) (fun f9 hF=>?_)
          ·refine AWP.seq ?_
           obtain⟨z,c5,hF⟩:=bindb hF
           refine AWP.rg [(5,.idx Zd c5),(6,.fdE Zd b (ZI ((List.length b:Int) - (1:Int)))),(7,.fdE Zd b (ZI ((List.length b:Int) - (1:Int)))),(8,.stE Zd c5 ({ z with f_values:=({ z.f_values with Hi:=(IntKind.wrap .u32 (IntKind.wrap .u64 (u - (1:Int)))) }:Zb) }:Zg))] [(0,(i64 a)),(1,(slc 10 Za d)),(2,(slc 10 Za f)),(3,(.sc (.func (.func 69) #[] #[]))),(4,(i64 g)),(12,(.own 0 (List.length b))),(13,(i64 o)),(14,(slc 1 Zc k)),(15,(i64 p))] [bf 3 116 Zd (List.set b (Int.toNat (ZI ((List.length b:Int) - (1:Int)))) ({ z with f_values:=({ z.f_values with Hi:=(IntKind.wrap .u32 (IntKind.wrap .u64 (u - (1:Int)))) }:Zb) }:Zg)) false,.cells (Zl (Zb.mk (IntKind.wrap .u32 w) (IntKind.wrap .u32 (IntKind.wrap .u64 (u - (1:Int))))))] ?_
           rw [show ([(0,(i64 a)),(1,(slc 10 Za d)),(2,(slc 10 Za f)),(3,(.sc (.func (.func 69) #[] #[]))),(4,(i64 g)),(12,(.own 0 (List.length b))),(13,(i64 o)),(14,(slc 1 Zc k)),(15,(i64 p))]:St)=[(0,(i64 a)),(1,(slc 10 Za d)),(2,(slc 10 Za f)),(3,(.sc (.func (.func 69) #[] #[]))),(4,(i64 g)),(12,(.own 0 (List.length (List.set b (Int.toNat (ZI ((List.length b:Int) - (1:Int)))) ({ z with f_values:=({ z.f_values with Hi:=(IntKind.wrap .u32 (IntKind.wrap .u64 (u - (1:Int)))) }:Zb) }:Zg))))),(13,(i64 o)),(14,(slc 1 Zc k)),(15,(i64 p))] by simp only [List.length_set]]
           refine AWP.exit (LeQ.start (LeQ.pk [0,1,2,3,4,12,13,14,15] 1 ?_))
           exact(.inl ⟨rfl,(List.set b (Int.toNat (ZI ((List.length b:Int) - (1:Int)))) ({ z with f_values:=({ z.f_values with Hi:=(IntKind.wrap .u32 (IntKind.wrap .u64 (u - (1:Int)))) }:Zb) }:Zg)),o,(someb hF).symm,by kernel_rfl,by kernel_rfl⟩)
          ·refine AWP.skip (AWP.seq ?_)
           obtain⟨g0,hF⟩:=chkb hF
           refine AWP.rg [(5,.app Zd (fun _=>by kernel_rfl) g0)] [(0,(i64 a)),(1,(slc 10 Za d)),(2,(slc 10 Za f)),(3,(.sc (.func (.func 69) #[] #[]))),(4,(i64 g)),(12,(.own 0 (List.length (b++[(Zg.mk (Zb.mk (IntKind.wrap .u32 w) (IntKind.wrap .u32 (IntKind.wrap .u64 (u - (1:Int))))) m.1)])))),(13,(i64 o)),(14,(slc 1 Zc k)),(15,(i64 p)),(17,(slc 10 Za m.1))] [bf 3 116 Zd (b++[(Zg.mk (Zb.mk (IntKind.wrap .u32 w) (IntKind.wrap .u32 (IntKind.wrap .u64 (u - (1:Int))))) m.1)]) false,.cells (Zl (Zb.mk (IntKind.wrap .u32 w) (IntKind.wrap .u32 (IntKind.wrap .u64 (u - (1:Int))))))] (AWP.seq (AWP.rg0 [(2,.len Za m.1)] [(0,(i64 a)),(1,(slc 10 Za d)),(2,(slc 10 Za f)),(3,(.sc (.func (.func 69) #[] #[]))),(4,(i64 g)),(12,(.own 0 (List.length (b++[(Zg.mk (Zb.mk (IntKind.wrap .u32 w) (IntKind.wrap .u32 (IntKind.wrap .u64 (u - (1:Int))))) m.1)])))),(13,(i64 (ZI (o + (List.length m.1:Int))))),(14,(slc 1 Zc k)),(15,(i64 p))] (AWP.seq (AWP.rg0 [] [(0,(i64 a)),(1,(slc 10 Za d)),(2,(slc 10 Za f)),(3,(.sc (.func (.func 69) #[] #[]))),(4,(i64 g)),(12,(.own 0 (List.length (b++[(Zg.mk (Zb.mk (IntKind.wrap .u32 w) (IntKind.wrap .u32 (IntKind.wrap .u64 (u - (1:Int))))) m.1)])))),(13,(i64 (ZI (o + (List.length m.1:Int))))),(14,(slc 1 Zc k)),(15,(i64 p)),(143,(vb (decide ((ZI (o + (List.length m.1:Int))) > g))))] ?_))))
           refine AWP.cif hF (fun g1 hF=>?_) (fun g1 hF=>?_)
           ·refine AWP.seq (AWP.rg0 [] [(10,nils),(11,(vb false))] (AWP.ret ?_))
            exact LeQ.of (.inr ⟨rfl,(([]:ZL),false),(someb hF).symm,(FnQ.f1 0 (.inr rfl) (.inr ⟨_,_,rfl,rfl,(.cons _ _ _ _ (.nil 10) (.cons _ _ _ _ (.refl _) .nil))⟩))⟩)
           ·refine AWP.skip (LeQ.start (LeQ.pk [0,1,2,3,4,12,13,14,15] 1 ?_))
            exact(.inl ⟨rfl,(b++[(Zg.mk (Zb.mk (IntKind.wrap .u32 w) (IntKind.wrap .u32 (IntKind.wrap .u64 (u - (1:Int))))) m.1)]),(ZI (o + (List.length m.1:Int))),(someb hF).symm,by kernel_rfl,by kernel_rfl⟩)
       ·rintro _ _ _ (⟨rfl,a2,a4,rfl,rfl,rfl⟩ | ⟨rfl,g2,rfl,hq⟩)
        ·refine AWP.rg0 [] [(0,(i64 a)),(1,(slc 10 Za d)),(2,(slc 10 Za f)),(3,(.sc (.func (.func 69) #[] #[]))),(4,(i64 g)),(12,(.own 0 (List.length a2))),(13,(i64 a4)),(14,(slc 1 Zc k)),(15,(i64 (ZI (p + (1:Int)))))] (LeQ.start (LeQ.pk [0,1,2,3,4,12,13,14,15] 1 ?_))
         exact⟨b4,Nat.lt_succ_self _,a2,a4,(ZI (p + (1:Int))),hF,by kernel_rfl,by kernel_rfl⟩
        ·exact LeQ.of (.inr ⟨rfl,g2,(someb hF).symm,hq⟩)
      ·refine AWP.exit (LeQ.start (LeQ.pk [0,12,13] 1 ?_))
       exact(.inl ⟨rfl,b,o,(someb hF).symm,by kernel_rfl,by kernel_rfl⟩)
    ·rintro _ _ _ (⟨rfl,c,b3,rfl,rfl,rfl⟩ | ⟨rfl,h3,rfl,hq⟩)
     ·refine AWP.seq ?_
      obtain⟨g3,hF⟩:=chkb hF
      refine AWP.rg [(1,.mk0 Za g3)] [(0,(i64 a)),(12,(.own 0 (List.length c))),(20,(.own 1 (List.length ([]:ZL))))] [bf 3 116 Zd c false,bf 10 50 Za ([]:ZL) false] (AWP.seq (AWP.seq (AWP.rg0 [(1,.len Zd c)] [(0,(i64 a)),(20,(.own 1 (List.length ([]:ZL)))),(146,(.own 0 (List.length c))),(147,(i64 (List.length c:Int))),(148,(i64 (0:Int)))] ?_)))
      obtain⟨a8,g4,hF⟩:=bindb hF
      refine AWP.mid (fun e st H=>e=.normal∧st=[(20,(.own 1 (List.length a8)))]∧H=[bf 3 116 Zd c false,bf 10 50 Za a8 false]) ?_ ?_
      ·clear hF
       refine AWP.kp [0,20,146,147,148] 2 ?_
       refine AWP.bround (fun n st H=>∃ y,∃ q,Zbq a c n y q=some a8∧st=[(0,(i64 a)),(20,(.own 1 (List.length y))),(146,(.own 0 (List.length c))),(147,(i64 (List.length c:Int))),(148,(i64 q))]∧H=[bf 3 116 Zd c false,bf 10 50 Za y false]) fuel ⟨([]:ZL),(0:Int),g4,by kernel_rfl,by kernel_rfl⟩ ?_
       rintro b6 st H ⟨y,q,hF,rfl,rfl⟩
       cases b6 with
       | zero=>exact noneb hF
       | succ b6=>
        rw [Zbq] at hF
        refine AWP.seq (AWP.rg0 [] [(0,(i64 a)),(20,(.own 1 (List.length y))),(146,(.own 0 (List.length c))),(147,(i64 (List.length c:Int))),(148,(i64 q)),(149,(vb (decide (q<(List.length c:Int)))))] (AWP.seq ?_))
        refine AWP.cif hF (fun g5 hF=>?_) (fun g5 hF=>?_)
        ·refine AWP.skip (AWP.seq (AWP.block (AWP.seq ?_)))
         obtain⟨j,c6,hF⟩:=bindb hF
         refine AWP.rg [(0,.idx Zd c6),(1,.ldE Zd c6)] [(0,(i64 a)),(20,(.own 1 (List.length y))),(22,(.ptr 2 0)),(146,(.own 0 (List.length c))),(147,(i64 (List.length c:Int))),(148,(i64 q))] [bf 3 116 Zd c false,bf 10 50 Za y false,.cells (Zd j)] (AWP.seq (AWP.rg0 [(2,.len Za j.f_rest)] [(0,(i64 a)),(20,(.own 1 (List.length y))),(22,(.ptr 2 0)),(146,(.own 0 (List.length c))),(147,(i64 (List.length c:Int))),(148,(i64 q)),(153,(slc 10 Za j.f_rest)),(154,(i64 (List.length j.f_rest:Int))),(155,(i64 (0:Int)))] ?_))
         obtain⟨a9,g6,hF⟩:=bindb hF
         refine AWP.mid (fun e st H=>e=.normal∧st=[(0,(i64 a)),(20,(.own 1 (List.length a9))),(146,(.own 0 (List.length c))),(147,(i64 (List.length c:Int))),(148,(i64 q))]∧H=[bf 3 116 Zd c false,bf 10 50 Za a9 false,.cells (Zd j)]) ?_ ?_
         ·clear hF
          refine AWP.kp [0,20,22,146,147,148,153,154,155] 3 ?_
          refine AWP.bround (fun n st H=>∃ v,∃ x,Zbp a j n v x=some a9∧st=[(0,(i64 a)),(20,(.own 1 (List.length v))),(22,(.ptr 2 0)),(146,(.own 0 (List.length c))),(147,(i64 (List.length c:Int))),(148,(i64 q)),(153,(slc 10 Za j.f_rest)),(154,(i64 (List.length j.f_rest:Int))),(155,(i64 x))]∧H=[bf 3 116 Zd c false,bf 10 50 Za v false,.cells (Zd j)]) fuel ⟨y,(0:Int),g6,by kernel_rfl,by kernel_rfl⟩ ?_
          rintro b7 st H ⟨v,x,hF,rfl,rfl⟩
          cases b7 with
          | zero=>exact noneb hF
          | succ b7=>
           rw [Zbp] at hF
           refine AWP.seq (AWP.rg0 [] [(0,(i64 a)),(20,(.own 1 (List.length v))),(22,(.ptr 2 0)),(146,(.own 0 (List.length c))),(147,(i64 (List.length c:Int))),(148,(i64 q)),(153,(slc 10 Za j.f_rest)),(154,(i64 (List.length j.f_rest:Int))),(155,(i64 x)),(156,(vb (decide (x<(List.length j.f_rest:Int)))))] (AWP.seq ?_))
           refine AWP.cif hF (fun g7 hF=>?_) (fun g7 hF=>?_)
           ·refine AWP.skip (AWP.seq (AWP.block (AWP.seq ?_)))
            obtain⟨a0,g8,hF⟩:=bindb hF
            refine AWP.rg [(0,.idx Za g8)] [(0,(i64 a)),(20,(.own 1 (List.length v))),(22,(.ptr 2 0)),(24,(.ptr 3 0)),(146,(.own 0 (List.length c))),(147,(i64 (List.length c:Int))),(148,(i64 q)),(153,(slc 10 Za j.f_rest)),(154,(i64 (List.length j.f_rest:Int))),(155,(i64 x))] [bf 3 116 Zd c false,bf 10 50 Za v false,.cells (Zd j),.cells (Za a0)] (AWP.seq ?_)
            obtain⟨c7,hF⟩:=chkb hF
            refine AWP.rg [(3,.ixd c7),(4,.stA (fun g9=>Za (Arr5.set a0 g9 j.f_values)) 0 2 0 c7)] [(0,(i64 a)),(20,(.own 1 (List.length v))),(22,(.ptr 2 0)),(24,(.ptr 3 0)),(146,(.own 0 (List.length c))),(147,(i64 (List.length c:Int))),(148,(i64 q)),(153,(slc 10 Za j.f_rest)),(154,(i64 (List.length j.f_rest:Int))),(155,(i64 x))] [bf 3 116 Zd c false,bf 10 50 Za v false,.cells (Zd j),.cells (Za (Arr5.set a0 a j.f_values))] ?_
            obtain⟨h0,hF⟩:=chkb hF
            refine AWP.rg [(3,.app Za (fun _=>by kernel_rfl) h0)] [(0,(i64 a)),(20,(.own 1 (List.length (v++[(Arr5.set a0 a j.f_values)])))),(22,(.ptr 2 0)),(146,(.own 0 (List.length c))),(147,(i64 (List.length c:Int))),(148,(i64 q)),(153,(slc 10 Za j.f_rest)),(154,(i64 (List.length j.f_rest:Int))),(155,(i64 x))] [bf 3 116 Zd c false,bf 10 50 Za (v++[(Arr5.set a0 a j.f_values)]) false,.cells (Zd j),.cells (Za (Arr5.set a0 a j.f_values))] (AWP.rg0 [] [(0,(i64 a)),(20,(.own 1 (List.length (v++[(Arr5.set a0 a j.f_values)])))),(22,(.ptr 2 0)),(146,(.own 0 (List.length c))),(147,(i64 (List.length c:Int))),(148,(i64 q)),(153,(slc 10 Za j.f_rest)),(154,(i64 (List.length j.f_rest:Int))),(155,(i64 (ZI (x + (1:Int)))))] (LeQ.start (LeQ.pk [0,20,22,146,147,148,153,154,155] 3 ?_)))
            exact⟨b7,Nat.lt_succ_self _,(v++[(Arr5.set a0 a j.f_values)]),(ZI (x + (1:Int))),hF,by kernel_rfl,by kernel_rfl⟩
           ·refine AWP.exit (LeQ.start (LeQ.pk [0,20,146,147,148] 3 ?_))
            have hr:=someb hF
            subst hr
            exact⟨rfl,by kernel_rfl,by kernel_rfl⟩
         ·rintro _ _ _ ⟨rfl,rfl,rfl⟩
          refine AWP.rg0 [] [(0,(i64 a)),(20,(.own 1 (List.length a9))),(146,(.own 0 (List.length c))),(147,(i64 (List.length c:Int))),(148,(i64 (ZI (q + (1:Int)))))] (LeQ.start (LeQ.pk [0,20,146,147,148] 2 ?_))
          exact⟨b6,Nat.lt_succ_self _,a9,(ZI (q + (1:Int))),hF,by kernel_rfl,by kernel_rfl⟩
        ·refine AWP.exit (LeQ.start (LeQ.pk [20] 2 ?_))
         have hr:=someb hF
         subst hr
         exact⟨rfl,by kernel_rfl,by kernel_rfl⟩
      ·rintro _ _ _ ⟨rfl,rfl,rfl⟩
       refine AWP.seq (AWP.rg0 [] [(10,(.own 1 (List.length a8))),(11,(vb true))] (AWP.ret ?_))
       have hr:=someb hF
       subst hr
       exact(FnQ.f1 0 (.inr rfl) (.inr ⟨_,_,rfl,rfl,(.cons _ _ _ _ (Wk.ownT (i:=1) (s:=10) (t:=50) (l:=a8) (sh:=false) (row:=Za) (by kernel_rfl) (.inl rfl)) (.cons _ _ _ _ (.refl _) .nil))⟩))
     ·have hr:=someb hF
      subst hr
      exact hq
theorem Zix (a:Int) (b:ZL) (c:ZL) (d:Int) (r:(ZL × Bool)) (hF:Zai fuel a b c d=some r):ACall Tryd.prog glob 85 [(i64 a),(slc 10 Za b),(slc 10 Za c),(.sc (.func (.func 69) #[] #[])),(i64 d)] [] (Zep r):=Zib fuel a b c d r hF
def Zjh (r:(ZL × Int)):PV→List Blk→Prop:=fun p K=>p=(.tup [(slc 10 Za r.1),(i64 r.2)])∧K=[]
theorem Zji (b:ZL) (c:ZL) (r:(ZL × Int)) (hF:Zcz b c=some r):ACall Tryd.prog glob 76 [(slc 10 Za b),(slc 10 Za c),(.sc (.func (.func 69) #[] #[]))] [] (Zjh r):=by
 refine ACall.body Tryd.func76 rfl (by kernel_rfl) ?_
 unfold Zcz at hF
 refine AWP.seq (AWP.rg0 [] [(0,(slc 10 Za b)),(1,(slc 10 Za c)),(2,(.sc (.func (.func 69) #[] #[])))] (AWP.seq ?_))
 obtain⟨a,d,hF⟩:=bindb hF
 refine AWP.rg0 [(3,.call Tryd.func85 [] (Zix (0:Int) b c (4096:Int) a d))] [(8,(slc 10 Za a.1)),(9,(vb a.2))] (AWP.seq (AWP.seq (AWP.rg0 [] [(8,(slc 10 Za a.1)),(18,(vb (!a.2)))] ?_)))
 refine AWP.cif hF (fun f hF=>?_) (fun f hF=>?_)
 ·refine AWP.seq (AWP.rg0 [] [(6,nils),(7,(i64 (3:Int)))] (AWP.ret ?_))
  have hr:=someb hF
  subst hr
  exact(FnQ.f1 0 (.inr rfl) (.inr ⟨_,_,rfl,rfl,(.cons _ _ _ _ (.nil 10) (.cons _ _ _ _ (.refl _) .nil))⟩))
 ·refine AWP.skip (AWP.seq (AWP.rg0 [] [(6,(slc 10 Za a.1)),(7,(i64 (0:Int)))] (AWP.ret ?_)))
  have hr:=someb hF
  subst hr
  exact(FnQ.f0 0 (.inr rfl))
def Zk7 (r:(ZL × Int)):PV→List Blk→Prop:=fun p K=>p=(.tup [(slc 10 Za r.1),(i64 r.2)])∧K=[]
theorem Zk8 (d:ZL) (c:ZL) (r:(ZL × Int)) (hF:Zex d c=some r):ACall Tryd.prog glob 68 [(slc 10 Za d),(slc 10 Za c),(.sc (.func (.func 69) #[] #[]))] [] (Zk7 r):=by
 refine ACall.body Tryd.func68 rfl (by kernel_rfl) ?_
 unfold Zex at hF
 refine AWP.seq (AWP.rg0 [] [(0,(slc 10 Za d)),(1,(slc 10 Za c)),(2,(.sc (.func (.func 69) #[] #[])))] (AWP.seq ?_))
 obtain⟨a,g,hF⟩:=bindb hF
 refine AWP.rg0 [(1,.call Tryd.func78 [] (Ze8 d a g))] [(1,(slc 10 Za c)),(2,(.sc (.func (.func 69) #[] #[]))),(8,(slc 10 Za a.1)),(9,(i64 a.2))] (AWP.seq (AWP.seq (AWP.rg0 [] [(1,(slc 10 Za c)),(2,(.sc (.func (.func 69) #[] #[]))),(8,(slc 10 Za a.1)),(9,(i64 a.2)),(17,(vb (a.2 != (0:Int))))] ?_)))
 refine AWP.cif hF (fun i hF=>?_) (fun i hF=>?_)
 ·refine AWP.seq (AWP.rg0 [] [(6,nils),(7,(i64 a.2))] (AWP.ret ?_))
  have hr:=someb hF
  subst hr
  exact(FnQ.f1 0 (.inr rfl) (.inr ⟨_,_,rfl,rfl,(.cons _ _ _ _ (.nil 10) (.cons _ _ _ _ (.refl _) .nil))⟩))
 ·refine AWP.skip (AWP.seq ?_)
  obtain⟨b,j,hF⟩:=bindb hF
  refine AWP.rg0 [(1,.call Tryd.func78 [] (Ze8 c b j))] [(2,(.sc (.func (.func 69) #[] #[]))),(8,(slc 10 Za a.1)),(9,(i64 b.2)),(10,(slc 10 Za b.1))] (AWP.seq (AWP.seq (AWP.rg0 [] [(2,(.sc (.func (.func 69) #[] #[]))),(8,(slc 10 Za a.1)),(9,(i64 b.2)),(10,(slc 10 Za b.1)),(25,(vb (b.2 != (0:Int))))] ?_)))
  refine AWP.cif hF (fun k hF=>?_) (fun k hF=>?_)
  ·refine AWP.seq (AWP.rg0 [] [(6,nils),(7,(i64 b.2))] (AWP.ret ?_))
   have hr:=someb hF
   subst hr
   exact(FnQ.f1 0 (.inr rfl) (.inr ⟨_,_,rfl,rfl,(.cons _ _ _ _ (.nil 10) (.cons _ _ _ _ (.refl _) .nil))⟩))
  ·refine AWP.skip (AWP.seq ?_)
   obtain⟨f,l,hF⟩:=bindb hF
   refine AWP.rg0 [(3,.call Tryd.func76 [] (Zji a.1 b.1 f l))] [(6,(slc 10 Za f.1)),(7,(i64 f.2))] (AWP.ret ?_)
   have hr:=someb hF
   subst hr
   exact(FnQ.f0 0 (.inr rfl))
def Zln (r:(ZL × Int)):PV→List Blk→Prop:=fun p K=>p=(.tup [(slc 10 Za r.1),(i64 r.2)])∧K=[]
theorem Zh3 (a:ZL) (b:ZL) (r:(ZL × Int)) (hF:Zdg a b=some r):ACall Tryd.prog glob 44 [(slc 10 Za a),(slc 10 Za b)] [] (Zln r):=by
 refine ACall.body Tryd.func44 rfl (by kernel_rfl) ?_
 unfold Zdg at hF
 refine AWP.seq (AWP.rg0 [] [(0,(slc 10 Za a)),(1,(slc 10 Za b))] (AWP.seq ?_))
 obtain⟨c,d,hF⟩:=bindb hF
 refine AWP.rg0 [(2,.call Tryd.func68 [] (Zk8 a b c d))] [(4,(slc 10 Za c.1)),(5,(i64 c.2))] (AWP.ret ?_)
 have hr:=someb hF
 subst hr
 exact(FnQ.f0 0 (.inr rfl))
def Zjs (r:(ZL × Zn)):PV→List Blk→Prop:=fun p K=>p=(slc 10 Za r.1)∧K=[.cells (Zo r.2)]
theorem Zjt (c:Zn) (a:ZL) (b:ZL) (r:(ZL × Zn)) (hF:Zc5 c a b=some r):ACall Tryd.prog glob 51 [(.ptr 0 0),(slc 10 Za a),(slc 10 Za b)] [.cells (Zo c)] (Zjs r):=by
 refine ACall.body Tryd.func51 rfl (by kernel_rfl) ?_
 unfold Zc5 at hF
 refine AWP.seq (AWP.rg0 [] [(0,(.ptr 0 0)),(1,(slc 10 Za a)),(2,(slc 10 Za b))] (AWP.seq ?_))
 obtain⟨d,g,hF⟩:=bindb hF
 obtain⟨f,i,hF⟩:=bindb hF
 refine AWP.rg [(3,.call Tryd.func44 [] (Zh3 a b d g)),(6,.call Tryd.func65 [] (Ze7 c d.1 d.2 f i))] [(6,(slc 10 Za f.1))] [.cells (Zo f.2)] (AWP.ret ?_)
 have hr:=someb hF
 subst hr
 exact(FnQ.f0 1 (.inr rfl))
def Zmp (r:Bool):PV→List Blk→Prop:=fun p K=>p=(vb r)∧K=[]
theorem Zi1 (c:Bool) (a:Bool) (r:Bool) (hF:Zdu c a=some r):ACall Tryd.prog glob 79 [(vb c),(vb a)] [] (Zmp r):=by
 refine ACall.body Tryd.func79 rfl (by kernel_rfl) ?_
 unfold Zdu at hF
 refine AWP.seq (AWP.rg0 [] [(0,(vb c)),(1,(vb a))] (AWP.seq ?_))
 obtain⟨d,b,hF⟩:=bindb hF
 replace b:=someb b
 refine AWP.to [(4,(vb (d && (!a))))] [] ?_ ?_
 ·cases d with
  | false=>
   exact AWP.rgT [(1,.bool b)]
  | true=>
   exact AWP.rgT [(1,.bool b)]
 refine AWP.ret ?_
 have hr:=someb hF
 subst hr
 exact(FnQ.f0 0 (.inr rfl))
def Zd2 (r:(ZL × Bool)):PV→List Blk→Prop:=fun p K=>p=(.tup [(slc 10 Za r.1),(vb r.2)])∧K=[]
abbrev Zfo (r:(ZL × Bool)):Exit→St→List Blk→Prop:=FnQ Tryd.prog Tryd.f85.results 0 (Zd2 r)
theorem Zhl:∀(nr:Nat) (a:Int) (d:ZL) (f:ZL) (g:Int) (r:(ZL × Bool)) (hF:Zac nr a d f g=some r),ACall Tryd.prog glob 85 [(i64 a),(slc 10 Za d),(slc 10 Za f),(.sc (.func (.func 79) #[] #[])),(i64 g)] [] (Zd2 r):=by
 intro nr
 induction nr with
 | zero=>intro a d f g r hF; exact noneb (by rw [Zac] at hF; exact hF)
 | succ nr ih=>
  intro a d f g r hF
  refine ACall.body Tryd.func85 rfl (by kernel_rfl) ?_
  rw [Zac] at hF
  refine AWP.seq (AWP.rg0 [] [(0,(i64 a)),(1,(slc 10 Za d)),(2,(slc 10 Za f)),(3,(.sc (.func (.func 79) #[] #[]))),(4,(i64 g))] (AWP.seq (AWP.seq (AWP.rg0 [] [(0,(i64 a)),(1,(slc 10 Za d)),(2,(slc 10 Za f)),(3,(.sc (.func (.func 79) #[] #[]))),(4,(i64 g)),(26,(vb (a == (5:Int))))] ?_))))
  refine AWP.cif hF (fun c8 hF=>?_) (fun c8 hF=>?_)
  ·refine AWP.seq (AWP.seq ?_)
   obtain⟨b8,c9,hF⟩:=bindb hF
   refine AWP.rg0 [(2,.len Za d),(5,.len Za f),(7,.call Tryd.func79 [] (Zi1 (decide ((List.length d:Int) > (0:Int))) (decide ((List.length f:Int) > (0:Int))) b8 c9))] [(34,(vb b8))] ?_
   refine AWP.cif hF (fun d0 hF=>?_) (fun d0 hF=>?_)
   ·refine AWP.seq (AWP.rg0 [] [(10,(slc 10 Za [(Arr5.mk Zr Zr Zr Zr Zr)])),(11,(vb true))] (AWP.ret ?_))
    have hr:=someb hF
    subst hr
    exact(FnQ.f0 0 (.inr rfl))
   ·refine AWP.skip (AWP.seq (AWP.rg0 [] [(10,nils),(11,(vb true))] (AWP.ret ?_)))
    have hr:=someb hF
    subst hr
    exact(FnQ.f1 0 (.inr rfl) (.inr ⟨_,_,rfl,rfl,(.cons _ _ _ _ (.nil 10) (.cons _ _ _ _ (.refl _) .nil))⟩))
  ·refine AWP.skip (AWP.seq (AWP.seq ?_))
   obtain⟨d1,b0,hF⟩:=bindb hF
   replace b0:=someb b0
   obtain⟨d2,b9,hF⟩:=bindb hF
   refine AWP.to [(0,(i64 a)),(1,(slc 10 Za d)),(2,(slc 10 Za f)),(3,(.sc (.func (.func 79) #[] #[]))),(4,(i64 g)),(47,(vb d2))] [] ?_ ?_
   ·cases d1 with
    | false=>
     have d3:=someb (ifF b9 rfl)
     subst d3
     exact AWP.rgT [(1,.len Za d),(3,.len Za f),(6,.bool b0)]
    | true=>
     have a3:=ifT b9 rfl
     obtain⟨d4,d5,a3⟩:=bindb a3
     replace a3:=someb a3
     subst a3
     exact AWP.rgT [(1,.len Za d),(3,.len Za f),(6,.bool b0),(8,.call Tryd.func79 [] (Zi1 false false d4 d5))]
   refine AWP.cif hF (fun d6 hF=>?_) (fun d6 hF=>?_)
   ·refine AWP.seq (AWP.rg0 [] [(10,nils),(11,(vb true))] (AWP.ret ?_))
    have hr:=someb hF
    subst hr
    exact(FnQ.f1 0 (.inr rfl) (.inr ⟨_,_,rfl,rfl,(.cons _ _ _ _ (.nil 10) (.cons _ _ _ _ (.refl _) .nil))⟩))
   ·refine AWP.skip (AWP.seq (AWP.rg0 [] [(0,(i64 a)),(1,(slc 10 Za d)),(2,(slc 10 Za f)),(3,(.sc (.func (.func 79) #[] #[]))),(4,(i64 g)),(12,nils)] ?_))
    refine AWP.own (H':=[bf 3 116 Zd ([]:(List Zg)) false]) (st':=[(12,(.own 0 (List.length ([]:(List Zg))))),(0,(i64 a)),(1,(slc 10 Za d)),(2,(slc 10 Za f)),(3,(.sc (.func (.func 79) #[] #[]))),(4,(i64 g))]) 12 3 116 (by kernel_rfl) (by kernel_rfl) (by kernel_rfl) ?_
    refine AWP.pick (st':=[(0,(i64 a)),(1,(slc 10 Za d)),(2,(slc 10 Za f)),(3,(.sc (.func (.func 79) #[] #[]))),(4,(i64 g)),(12,(.own 0 (List.length ([]:(List Zg)))))]) (ks:=[0,1,2,3,4,12]) (by kernel_rfl) ?_
    refine AWP.seq (AWP.rg0 [] [(0,(i64 a)),(1,(slc 10 Za d)),(2,(slc 10 Za f)),(3,(.sc (.func (.func 79) #[] #[]))),(4,(i64 g)),(12,(.own 0 (List.length ([]:(List Zg))))),(13,(i64 (0:Int)))] (AWP.seq ?_))
    obtain⟨k,d7,hF⟩:=bindb hF
    refine AWP.rg0 [(4,.call Tryd.func87 [] (Zhy a [d,f] k d7))] [(0,(i64 a)),(1,(slc 10 Za d)),(2,(slc 10 Za f)),(3,(.sc (.func (.func 79) #[] #[]))),(4,(i64 g)),(12,(.own 0 (List.length ([]:(List Zg))))),(13,(i64 (0:Int))),(14,(slc 1 Zc k))] (AWP.seq (AWP.seq (AWP.rg0 [] [(0,(i64 a)),(1,(slc 10 Za d)),(2,(slc 10 Za f)),(3,(.sc (.func (.func 79) #[] #[]))),(4,(i64 g)),(12,(.own 0 (List.length ([]:(List Zg))))),(13,(i64 (0:Int))),(14,(slc 1 Zc k)),(15,(i64 (0:Int)))] ?_)))
    obtain⟨b2,d8,hF⟩:=bindb hF
    refine AWP.mid (fun e st H=>(e=.normal∧∃ c,∃ b3,b2=(.inl (c,b3))∧st=[(0,(i64 a)),(12,(.own 0 (List.length c))),(13,(i64 b3))]∧H=[bf 3 116 Zd c false])∨(e=.ret∧∃ r,b2=(.inr r)∧Zfo r e st H)) ?_ ?_
    ·clear hF
     refine AWP.kp [0,1,2,3,4,12,13,14,15] 1 ?_
     refine AWP.bround (fun n st H=>∃ b,∃ o,∃ p,Zbe a d f g (Zac nr) k n b o p=some b2∧st=[(0,(i64 a)),(1,(slc 10 Za d)),(2,(slc 10 Za f)),(3,(.sc (.func (.func 79) #[] #[]))),(4,(i64 g)),(12,(.own 0 (List.length b))),(13,(i64 o)),(14,(slc 1 Zc k)),(15,(i64 p))]∧H=[bf 3 116 Zd b false]) fuel ⟨([]:(List Zg)),(0:Int),(0:Int),d8,by kernel_rfl,by kernel_rfl⟩ ?_
     rintro b4 st H ⟨b,o,p,hF,rfl,rfl⟩
     cases b4 with
     | zero=>exact noneb hF
     | succ b4=>
      rw [Zbe] at hF
      refine AWP.seq (AWP.seq (AWP.rg0 [(3,.len Zc k)] [(0,(i64 a)),(1,(slc 10 Za d)),(2,(slc 10 Za f)),(3,(.sc (.func (.func 79) #[] #[]))),(4,(i64 g)),(12,(.own 0 (List.length b))),(13,(i64 o)),(14,(slc 1 Zc k)),(15,(i64 p)),(57,(vb (decide ((ZI (p + (1:Int)))<(List.length k:Int)))))] ?_))
      refine AWP.cif hF (fun d9 hF=>?_) (fun d9 hF=>?_)
      ·refine AWP.skip ?_
       obtain⟨c0,e0,hF⟩:=bindb hF
       refine AWP.seq ?_
       refine AWP.mid (fun e st H=>(e=.normal∧∃ a2,∃ a4,c0=(.inl (a2,a4))∧st=[(0,(i64 a)),(1,(slc 10 Za d)),(2,(slc 10 Za f)),(3,(.sc (.func (.func 79) #[] #[]))),(4,(i64 g)),(12,(.own 0 (List.length a2))),(13,(i64 a4)),(14,(slc 1 Zc k)),(15,(i64 p))]∧H=[bf 3 116 Zd a2 false])∨(e=.ret∧∃ r,c0=(.inr r)∧Zfo r e st H)) ?_ ?_
       ·clear hF
        have hF:=e0
        refine AWP.block (AWP.seq ?_)
        obtain⟨w,e1,hF⟩:=bindb hF
        obtain⟨u,e2,hF⟩:=bindb hF
        refine AWP.dr [(2,.idx Zc e1),(8,.idx Zc e2)] 14 [] [13] [] [(0,(i64 a)),(1,(slc 10 Za d)),(2,(slc 10 Za f)),(3,(.sc (.func (.func 79) #[] #[]))),(4,(i64 g)),(12,(.own 0 (List.length b))),(13,(i64 o)),(14,(slc 1 Zc k)),(15,(i64 p)),(16,(.ptr 1 0))] [bf 3 116 Zd b false,.cells (Zl (Zb.mk (IntKind.wrap .u32 w) (IntKind.wrap .u32 (IntKind.wrap .u64 (u - (1:Int))))))] (AWP.seq ?_)
        obtain⟨c1,e3,hF⟩:=bindb hF
        obtain⟨c2,e4,hF⟩:=bindb hF
        obtain⟨m,e5,hF⟩:=bindb hF
        refine AWP.dr [(6,.call Tryd.func88 [] (Zdn d a (IntKind.wrap .u32 w) c1 e3)),(11,.call Tryd.func88 [] (Zdn f a (IntKind.wrap .u32 w) c2 e4)),(14,.call Tryd.func85 [] (ih (ZI (a + (1:Int))) c1 c2 g m e5))] 19 [] [] [] [(0,(i64 a)),(1,(slc 10 Za d)),(2,(slc 10 Za f)),(3,(.sc (.func (.func 79) #[] #[]))),(4,(i64 g)),(12,(.own 0 (List.length b))),(13,(i64 o)),(14,(slc 1 Zc k)),(15,(i64 p)),(16,(.ptr 1 0)),(17,(slc 10 Za m.1)),(18,(vb m.2))] [bf 3 116 Zd b false,.cells (Zl (Zb.mk (IntKind.wrap .u32 w) (IntKind.wrap .u32 (IntKind.wrap .u64 (u - (1:Int))))))] (AWP.seq (AWP.seq (AWP.rg0 [] [(0,(i64 a)),(1,(slc 10 Za d)),(2,(slc 10 Za f)),(3,(.sc (.func (.func 79) #[] #[]))),(4,(i64 g)),(12,(.own 0 (List.length b))),(13,(i64 o)),(14,(slc 1 Zc k)),(15,(i64 p)),(16,(.ptr 1 0)),(17,(slc 10 Za m.1)),(92,(vb (!m.2)))] ?_)))
        refine AWP.cif hF (fun e6 hF=>?_) (fun e6 hF=>?_)
        ·refine AWP.seq (AWP.rg0 [] [(10,nils),(11,(vb false))] (AWP.ret ?_))
         exact LeQ.of (.inr ⟨rfl,(([]:ZL),false),(someb hF).symm,(FnQ.f1 0 (.inr rfl) (.inr ⟨_,_,rfl,rfl,(.cons _ _ _ _ (.nil 10) (.cons _ _ _ _ (.refl _) .nil))⟩))⟩)
        ·refine AWP.skip (AWP.seq (AWP.seq (AWP.rg0 [(1,.len Za m.1)] [(0,(i64 a)),(1,(slc 10 Za d)),(2,(slc 10 Za f)),(3,(.sc (.func (.func 79) #[] #[]))),(4,(i64 g)),(12,(.own 0 (List.length b))),(13,(i64 o)),(14,(slc 1 Zc k)),(15,(i64 p)),(16,(.ptr 1 0)),(17,(slc 10 Za m.1)),(95,(vb ((List.length m.1:Int) == (0:Int))))] ?_)))
         refine AWP.cif hF (fun e7 hF=>?_) (fun e7 hF=>?_)
         ·refine AWP.exit (LeQ.start (LeQ.pk [0,1,2,3,4,12,13,14,15] 1 ?_))
          exact(.inl ⟨rfl,b,o,(someb hF).symm,by kernel_rfl,by kernel_rfl⟩)
         ·refine AWP.skip (AWP.seq (AWP.seq (AWP.rg0 [(1,.len Zd b)] [(0,(i64 a)),(1,(slc 10 Za d)),(2,(slc 10 Za f)),(3,(.sc (.func (.func 79) #[] #[]))),(4,(i64 g)),(12,(.own 0 (List.length b))),(13,(i64 o)),(14,(slc 1 Zc k)),(15,(i64 p)),(16,(.ptr 1 0)),(17,(slc 10 Za m.1)),(19,(i64 (List.length b:Int)))] (AWP.seq ?_))))
          obtain⟨e8,a5,hF⟩:=bindb hF
          replace a5:=someb a5
          obtain⟨h1,c3,hF⟩:=bindb hF
          obtain⟨e9,a6,hF⟩:=bindb hF
          replace a6:=someb a6
          obtain⟨f2,b5,hF⟩:=bindb hF
          refine AWP.to [(0,(i64 a)),(1,(slc 10 Za d)),(2,(slc 10 Za f)),(3,(.sc (.func (.func 79) #[] #[]))),(4,(i64 g)),(12,(.own 0 (List.length b))),(13,(i64 o)),(14,(slc 1 Zc k)),(15,(i64 p)),(16,(.ptr 1 0)),(17,(slc 10 Za m.1)),(19,(i64 (List.length b:Int))),(122,(vb f2))] [bf 3 116 Zd b false,.cells (Zl (Zb.mk (IntKind.wrap .u32 w) (IntKind.wrap .u32 (IntKind.wrap .u64 (u - (1:Int))))))] ?_ ?_
          ·cases e8 with
           | false=>
            have f3:=someb (ifF c3 rfl)
            subst f3
            subst a6
            have f4:=someb (ifF b5 rfl)
            subst f4
            exact AWP.drT [(2,.bool a5)] 25 [] [] []
           | true=>
            have a7:=ifT c3 rfl
            obtain⟨h2,b1,a7⟩:=bindb a7
            replace a7:=someb a7
            subst a7
            cases e9 with
            | false=>
             have f5:=someb (ifF b5 rfl)
             subst f5
             exact AWP.drT [(2,.bool a5),(6,.idx Zd b1),(7,.fdE Zd b (ZI ((List.length b:Int) - (1:Int)))),(8,.fdE Zd b (ZI ((List.length b:Int) - (1:Int)))),(9,.ldE Zd b1),(15,.bool a6)] 25 [] [] []
            | true=>
             have a1:=ifT b5 rfl
             obtain⟨f6,c4,a1⟩:=bindb a1
             obtain⟨f7,f8,a1⟩:=bindb a1
             replace a1:=someb a1
             subst a1
             exact AWP.drT [(2,.bool a5),(6,.idx Zd b1),(7,.fdE Zd b (ZI ((List.length b:Int) - (1:Int)))),(8,.fdE Zd b (ZI ((List.length b:Int) - (1:Int)))),(9,.ldE Zd b1),(15,.bool a6),(19,.idx Zd c4),(20,.fdE Zd b (ZI ((List.length b:Int) - (1:Int)))),(21,.ldE Zd c4),(23,.call Tryd.func84 [] (Zdd f6.f_rest m.1 f7 f8))] 25 [] [] []
          refine AWP.cif hF (fun f9 hF=>?_) (fun f9 hF=>?_)
          ·refine AWP.seq ?_
           obtain⟨z,c5,hF⟩:=bindb hF
           refine AWP.rg [(5,.idx Zd c5),(6,.fdE Zd b (ZI ((List.length b:Int) - (1:Int)))),(7,.fdE Zd b (ZI ((List.length b:Int) - (1:Int)))),(8,.stE Zd c5 ({ z with f_values:=({ z.f_values with Hi:=(IntKind.wrap .u32 (IntKind.wrap .u64 (u - (1:Int)))) }:Zb) }:Zg))] [(0,(i64 a)),(1,(slc 10 Za d)),(2,(slc 10 Za f)),(3,(.sc (.func (.func 79) #[] #[]))),(4,(i64 g)),(12,(.own 0 (List.length b))),(13,(i64 o)),(14,(slc 1 Zc k)),(15,(i64 p))] [bf 3 116 Zd (List.set b (Int.toNat (ZI ((List.length b:Int) - (1:Int)))) ({ z with f_values:=({ z.f_values with Hi:=(IntKind.wrap .u32 (IntKind.wrap .u64 (u - (1:Int)))) }:Zb) }:Zg)) false,.cells (Zl (Zb.mk (IntKind.wrap .u32 w) (IntKind.wrap .u32 (IntKind.wrap .u64 (u - (1:Int))))))] ?_
           rw [show ([(0,(i64 a)),(1,(slc 10 Za d)),(2,(slc 10 Za f)),(3,(.sc (.func (.func 79) #[] #[]))),(4,(i64 g)),(12,(.own 0 (List.length b))),(13,(i64 o)),(14,(slc 1 Zc k)),(15,(i64 p))]:St)=[(0,(i64 a)),(1,(slc 10 Za d)),(2,(slc 10 Za f)),(3,(.sc (.func (.func 79) #[] #[]))),(4,(i64 g)),(12,(.own 0 (List.length (List.set b (Int.toNat (ZI ((List.length b:Int) - (1:Int)))) ({ z with f_values:=({ z.f_values with Hi:=(IntKind.wrap .u32 (IntKind.wrap .u64 (u - (1:Int)))) }:Zb) }:Zg))))),(13,(i64 o)),(14,(slc 1 Zc k)),(15,(i64 p))] by simp only [List.length_set]]
           refine AWP.exit (LeQ.start (LeQ.pk [0,1,2,3,4,12,13,14,15] 1 ?_))
           exact(.inl ⟨rfl,(List.set b (Int.toNat (ZI ((List.length b:Int) - (1:Int)))) ({ z with f_values:=({ z.f_values with Hi:=(IntKind.wrap .u32 (IntKind.wrap .u64 (u - (1:Int)))) }:Zb) }:Zg)),o,(someb hF).symm,by kernel_rfl,by kernel_rfl⟩)
          ·refine AWP.skip (AWP.seq ?_)
           obtain⟨g0,hF⟩:=chkb hF
           refine AWP.rg [(5,.app Zd (fun _=>by kernel_rfl) g0)] [(0,(i64 a)),(1,(slc 10 Za d)),(2,(slc 10 Za f)),(3,(.sc (.func (.func 79) #[] #[]))),(4,(i64 g)),(12,(.own 0 (List.length (b++[(Zg.mk (Zb.mk (IntKind.wrap .u32 w) (IntKind.wrap .u32 (IntKind.wrap .u64 (u - (1:Int))))) m.1)])))),(13,(i64 o)),(14,(slc 1 Zc k)),(15,(i64 p)),(17,(slc 10 Za m.1))] [bf 3 116 Zd (b++[(Zg.mk (Zb.mk (IntKind.wrap .u32 w) (IntKind.wrap .u32 (IntKind.wrap .u64 (u - (1:Int))))) m.1)]) false,.cells (Zl (Zb.mk (IntKind.wrap .u32 w) (IntKind.wrap .u32 (IntKind.wrap .u64 (u - (1:Int))))))] (AWP.seq (AWP.rg0 [(2,.len Za m.1)] [(0,(i64 a)),(1,(slc 10 Za d)),(2,(slc 10 Za f)),(3,(.sc (.func (.func 79) #[] #[]))),(4,(i64 g)),(12,(.own 0 (List.length (b++[(Zg.mk (Zb.mk (IntKind.wrap .u32 w) (IntKind.wrap .u32 (IntKind.wrap .u64 (u - (1:Int))))) m.1)])))),(13,(i64 (ZI (o + (List.length m.1:Int))))),(14,(slc 1 Zc k)),(15,(i64 p))] (AWP.seq (AWP.rg0 [] [(0,(i64 a)),(1,(slc 10 Za d)),(2,(slc 10 Za f)),(3,(.sc (.func (.func 79) #[] #[]))),(4,(i64 g)),(12,(.own 0 (List.length (b++[(Zg.mk (Zb.mk (IntKind.wrap .u32 w) (IntKind.wrap .u32 (IntKind.wrap .u64 (u - (1:Int))))) m.1)])))),(13,(i64 (ZI (o + (List.length m.1:Int))))),(14,(slc 1 Zc k)),(15,(i64 p)),(143,(vb (decide ((ZI (o + (List.length m.1:Int))) > g))))] ?_))))
           refine AWP.cif hF (fun g1 hF=>?_) (fun g1 hF=>?_)
           ·refine AWP.seq (AWP.rg0 [] [(10,nils),(11,(vb false))] (AWP.ret ?_))
            exact LeQ.of (.inr ⟨rfl,(([]:ZL),false),(someb hF).symm,(FnQ.f1 0 (.inr rfl) (.inr ⟨_,_,rfl,rfl,(.cons _ _ _ _ (.nil 10) (.cons _ _ _ _ (.refl _) .nil))⟩))⟩)
           ·refine AWP.skip (LeQ.start (LeQ.pk [0,1,2,3,4,12,13,14,15] 1 ?_))
            exact(.inl ⟨rfl,(b++[(Zg.mk (Zb.mk (IntKind.wrap .u32 w) (IntKind.wrap .u32 (IntKind.wrap .u64 (u - (1:Int))))) m.1)]),(ZI (o + (List.length m.1:Int))),(someb hF).symm,by kernel_rfl,by kernel_rfl⟩)
       ·rintro _ _ _ (⟨rfl,a2,a4,rfl,rfl,rfl⟩ | ⟨rfl,g2,rfl,hq⟩)
        ·refine AWP.rg0 [] [(0,(i64 a)),(1,(slc 10 Za d)),(2,(slc 10 Za f)),(3,(.sc (.func (.func 79) #[] #[]))),(4,(i64 g)),(12,(.own 0 (List.length a2))),(13,(i64 a4)),(14,(slc 1 Zc k)),(15,(i64 (ZI (p + (1:Int)))))] (LeQ.start (LeQ.pk [0,1,2,3,4,12,13,14,15] 1 ?_))
         exact⟨b4,Nat.lt_succ_self _,a2,a4,(ZI (p + (1:Int))),hF,by kernel_rfl,by kernel_rfl⟩
        ·exact LeQ.of (.inr ⟨rfl,g2,(someb hF).symm,hq⟩)
      ·refine AWP.exit (LeQ.start (LeQ.pk [0,12,13] 1 ?_))
       exact(.inl ⟨rfl,b,o,(someb hF).symm,by kernel_rfl,by kernel_rfl⟩)
    ·rintro _ _ _ (⟨rfl,c,b3,rfl,rfl,rfl⟩ | ⟨rfl,h3,rfl,hq⟩)
     ·refine AWP.seq ?_
      obtain⟨g3,hF⟩:=chkb hF
      refine AWP.rg [(1,.mk0 Za g3)] [(0,(i64 a)),(12,(.own 0 (List.length c))),(20,(.own 1 (List.length ([]:ZL))))] [bf 3 116 Zd c false,bf 10 50 Za ([]:ZL) false] (AWP.seq (AWP.seq (AWP.rg0 [(1,.len Zd c)] [(0,(i64 a)),(20,(.own 1 (List.length ([]:ZL)))),(146,(.own 0 (List.length c))),(147,(i64 (List.length c:Int))),(148,(i64 (0:Int)))] ?_)))
      obtain⟨a8,g4,hF⟩:=bindb hF
      refine AWP.mid (fun e st H=>e=.normal∧st=[(20,(.own 1 (List.length a8)))]∧H=[bf 3 116 Zd c false,bf 10 50 Za a8 false]) ?_ ?_
      ·clear hF
       refine AWP.kp [0,20,146,147,148] 2 ?_
       refine AWP.bround (fun n st H=>∃ y,∃ q,Zbg a c n y q=some a8∧st=[(0,(i64 a)),(20,(.own 1 (List.length y))),(146,(.own 0 (List.length c))),(147,(i64 (List.length c:Int))),(148,(i64 q))]∧H=[bf 3 116 Zd c false,bf 10 50 Za y false]) fuel ⟨([]:ZL),(0:Int),g4,by kernel_rfl,by kernel_rfl⟩ ?_
       rintro b6 st H ⟨y,q,hF,rfl,rfl⟩
       cases b6 with
       | zero=>exact noneb hF
       | succ b6=>
        rw [Zbg] at hF
        refine AWP.seq (AWP.rg0 [] [(0,(i64 a)),(20,(.own 1 (List.length y))),(146,(.own 0 (List.length c))),(147,(i64 (List.length c:Int))),(148,(i64 q)),(149,(vb (decide (q<(List.length c:Int)))))] (AWP.seq ?_))
        refine AWP.cif hF (fun g5 hF=>?_) (fun g5 hF=>?_)
        ·refine AWP.skip (AWP.seq (AWP.block (AWP.seq ?_)))
         obtain⟨j,c6,hF⟩:=bindb hF
         refine AWP.rg [(0,.idx Zd c6),(1,.ldE Zd c6)] [(0,(i64 a)),(20,(.own 1 (List.length y))),(22,(.ptr 2 0)),(146,(.own 0 (List.length c))),(147,(i64 (List.length c:Int))),(148,(i64 q))] [bf 3 116 Zd c false,bf 10 50 Za y false,.cells (Zd j)] (AWP.seq (AWP.rg0 [(2,.len Za j.f_rest)] [(0,(i64 a)),(20,(.own 1 (List.length y))),(22,(.ptr 2 0)),(146,(.own 0 (List.length c))),(147,(i64 (List.length c:Int))),(148,(i64 q)),(153,(slc 10 Za j.f_rest)),(154,(i64 (List.length j.f_rest:Int))),(155,(i64 (0:Int)))] ?_))
         obtain⟨a9,g6,hF⟩:=bindb hF
         refine AWP.mid (fun e st H=>e=.normal∧st=[(0,(i64 a)),(20,(.own 1 (List.length a9))),(146,(.own 0 (List.length c))),(147,(i64 (List.length c:Int))),(148,(i64 q))]∧H=[bf 3 116 Zd c false,bf 10 50 Za a9 false,.cells (Zd j)]) ?_ ?_
         ·clear hF
          refine AWP.kp [0,20,22,146,147,148,153,154,155] 3 ?_
          refine AWP.bround (fun n st H=>∃ v,∃ x,Zbf a j n v x=some a9∧st=[(0,(i64 a)),(20,(.own 1 (List.length v))),(22,(.ptr 2 0)),(146,(.own 0 (List.length c))),(147,(i64 (List.length c:Int))),(148,(i64 q)),(153,(slc 10 Za j.f_rest)),(154,(i64 (List.length j.f_rest:Int))),(155,(i64 x))]∧H=[bf 3 116 Zd c false,bf 10 50 Za v false,.cells (Zd j)]) fuel ⟨y,(0:Int),g6,by kernel_rfl,by kernel_rfl⟩ ?_
          rintro b7 st H ⟨v,x,hF,rfl,rfl⟩
          cases b7 with
          | zero=>exact noneb hF
          | succ b7=>
           rw [Zbf] at hF
           refine AWP.seq (AWP.rg0 [] [(0,(i64 a)),(20,(.own 1 (List.length v))),(22,(.ptr 2 0)),(146,(.own 0 (List.length c))),(147,(i64 (List.length c:Int))),(148,(i64 q)),(153,(slc 10 Za j.f_rest)),(154,(i64 (List.length j.f_rest:Int))),(155,(i64 x)),(156,(vb (decide (x<(List.length j.f_rest:Int)))))] (AWP.seq ?_))
           refine AWP.cif hF (fun g7 hF=>?_) (fun g7 hF=>?_)
           ·refine AWP.skip (AWP.seq (AWP.block (AWP.seq ?_)))
            obtain⟨a0,g8,hF⟩:=bindb hF
            refine AWP.rg [(0,.idx Za g8)] [(0,(i64 a)),(20,(.own 1 (List.length v))),(22,(.ptr 2 0)),(24,(.ptr 3 0)),(146,(.own 0 (List.length c))),(147,(i64 (List.length c:Int))),(148,(i64 q)),(153,(slc 10 Za j.f_rest)),(154,(i64 (List.length j.f_rest:Int))),(155,(i64 x))] [bf 3 116 Zd c false,bf 10 50 Za v false,.cells (Zd j),.cells (Za a0)] (AWP.seq ?_)
            obtain⟨c7,hF⟩:=chkb hF
            refine AWP.rg [(3,.ixd c7),(4,.stA (fun g9=>Za (Arr5.set a0 g9 j.f_values)) 0 2 0 c7)] [(0,(i64 a)),(20,(.own 1 (List.length v))),(22,(.ptr 2 0)),(24,(.ptr 3 0)),(146,(.own 0 (List.length c))),(147,(i64 (List.length c:Int))),(148,(i64 q)),(153,(slc 10 Za j.f_rest)),(154,(i64 (List.length j.f_rest:Int))),(155,(i64 x))] [bf 3 116 Zd c false,bf 10 50 Za v false,.cells (Zd j),.cells (Za (Arr5.set a0 a j.f_values))] ?_
            obtain⟨h0,hF⟩:=chkb hF
            refine AWP.rg [(3,.app Za (fun _=>by kernel_rfl) h0)] [(0,(i64 a)),(20,(.own 1 (List.length (v++[(Arr5.set a0 a j.f_values)])))),(22,(.ptr 2 0)),(146,(.own 0 (List.length c))),(147,(i64 (List.length c:Int))),(148,(i64 q)),(153,(slc 10 Za j.f_rest)),(154,(i64 (List.length j.f_rest:Int))),(155,(i64 x))] [bf 3 116 Zd c false,bf 10 50 Za (v++[(Arr5.set a0 a j.f_values)]) false,.cells (Zd j),.cells (Za (Arr5.set a0 a j.f_values))] (AWP.rg0 [] [(0,(i64 a)),(20,(.own 1 (List.length (v++[(Arr5.set a0 a j.f_values)])))),(22,(.ptr 2 0)),(146,(.own 0 (List.length c))),(147,(i64 (List.length c:Int))),(148,(i64 q)),(153,(slc 10 Za j.f_rest)),(154,(i64 (List.length j.f_rest:Int))),(155,(i64 (ZI (x + (1:Int)))))] (LeQ.start (LeQ.pk [0,20,22,146,147,148,153,154,155] 3 ?_)))
            exact⟨b7,Nat.lt_succ_self _,(v++[(Arr5.set a0 a j.f_values)]),(ZI (x + (1:Int))),hF,by kernel_rfl,by kernel_rfl⟩
           ·refine AWP.exit (LeQ.start (LeQ.pk [0,20,146,147,148] 3 ?_))
            have hr:=someb hF
            subst hr
            exact⟨rfl,by kernel_rfl,by kernel_rfl⟩
         ·rintro _ _ _ ⟨rfl,rfl,rfl⟩
          refine AWP.rg0 [] [(0,(i64 a)),(20,(.own 1 (List.length a9))),(146,(.own 0 (List.length c))),(147,(i64 (List.length c:Int))),(148,(i64 (ZI (q + (1:Int)))))] (LeQ.start (LeQ.pk [0,20,146,147,148] 2 ?_))
          exact⟨b6,Nat.lt_succ_self _,a9,(ZI (q + (1:Int))),hF,by kernel_rfl,by kernel_rfl⟩
        ·refine AWP.exit (LeQ.start (LeQ.pk [20] 2 ?_))
         have hr:=someb hF
         subst hr
         exact⟨rfl,by kernel_rfl,by kernel_rfl⟩
      ·rintro _ _ _ ⟨rfl,rfl,rfl⟩
       refine AWP.seq (AWP.rg0 [] [(10,(.own 1 (List.length a8))),(11,(vb true))] (AWP.ret ?_))
       have hr:=someb hF
       subst hr
       exact(FnQ.f1 0 (.inr rfl) (.inr ⟨_,_,rfl,rfl,(.cons _ _ _ _ (Wk.ownT (i:=1) (s:=10) (t:=50) (l:=a8) (sh:=false) (row:=Za) (by kernel_rfl) (.inl rfl)) (.cons _ _ _ _ (.refl _) .nil))⟩))
     ·have hr:=someb hF
      subst hr
      exact hq
theorem Zhz (a:Int) (b:ZL) (c:ZL) (d:Int) (r:(ZL × Bool)) (hF:Zac fuel a b c d=some r):ACall Tryd.prog glob 85 [(i64 a),(slc 10 Za b),(slc 10 Za c),(.sc (.func (.func 79) #[] #[])),(i64 d)] [] (Zd2 r):=Zhl fuel a b c d r hF
def Zio (r:(ZL × Int)):PV→List Blk→Prop:=fun p K=>p=(.tup [(slc 10 Za r.1),(i64 r.2)])∧K=[]
theorem Zip (b:ZL) (c:ZL) (r:(ZL × Int)) (hF:Zcm b c=some r):ACall Tryd.prog glob 76 [(slc 10 Za b),(slc 10 Za c),(.sc (.func (.func 79) #[] #[]))] [] (Zio r):=by
 refine ACall.body Tryd.func76 rfl (by kernel_rfl) ?_
 unfold Zcm at hF
 refine AWP.seq (AWP.rg0 [] [(0,(slc 10 Za b)),(1,(slc 10 Za c)),(2,(.sc (.func (.func 79) #[] #[])))] (AWP.seq ?_))
 obtain⟨a,d,hF⟩:=bindb hF
 refine AWP.rg0 [(3,.call Tryd.func85 [] (Zhz (0:Int) b c (4096:Int) a d))] [(8,(slc 10 Za a.1)),(9,(vb a.2))] (AWP.seq (AWP.seq (AWP.rg0 [] [(8,(slc 10 Za a.1)),(18,(vb (!a.2)))] ?_)))
 refine AWP.cif hF (fun f hF=>?_) (fun f hF=>?_)
 ·refine AWP.seq (AWP.rg0 [] [(6,nils),(7,(i64 (3:Int)))] (AWP.ret ?_))
  have hr:=someb hF
  subst hr
  exact(FnQ.f1 0 (.inr rfl) (.inr ⟨_,_,rfl,rfl,(.cons _ _ _ _ (.nil 10) (.cons _ _ _ _ (.refl _) .nil))⟩))
 ·refine AWP.skip (AWP.seq (AWP.rg0 [] [(6,(slc 10 Za a.1)),(7,(i64 (0:Int)))] (AWP.ret ?_)))
  have hr:=someb hF
  subst hr
  exact(FnQ.f0 0 (.inr rfl))
def Zjy (r:(ZL × Int)):PV→List Blk→Prop:=fun p K=>p=(.tup [(slc 10 Za r.1),(i64 r.2)])∧K=[]
theorem Zjz (d:ZL) (c:ZL) (r:(ZL × Int)) (hF:Zea d c=some r):ACall Tryd.prog glob 68 [(slc 10 Za d),(slc 10 Za c),(.sc (.func (.func 79) #[] #[]))] [] (Zjy r):=by
 refine ACall.body Tryd.func68 rfl (by kernel_rfl) ?_
 unfold Zea at hF
 refine AWP.seq (AWP.rg0 [] [(0,(slc 10 Za d)),(1,(slc 10 Za c)),(2,(.sc (.func (.func 79) #[] #[])))] (AWP.seq ?_))
 obtain⟨a,g,hF⟩:=bindb hF
 refine AWP.rg0 [(1,.call Tryd.func78 [] (Ze8 d a g))] [(1,(slc 10 Za c)),(2,(.sc (.func (.func 79) #[] #[]))),(8,(slc 10 Za a.1)),(9,(i64 a.2))] (AWP.seq (AWP.seq (AWP.rg0 [] [(1,(slc 10 Za c)),(2,(.sc (.func (.func 79) #[] #[]))),(8,(slc 10 Za a.1)),(9,(i64 a.2)),(17,(vb (a.2 != (0:Int))))] ?_)))
 refine AWP.cif hF (fun i hF=>?_) (fun i hF=>?_)
 ·refine AWP.seq (AWP.rg0 [] [(6,nils),(7,(i64 a.2))] (AWP.ret ?_))
  have hr:=someb hF
  subst hr
  exact(FnQ.f1 0 (.inr rfl) (.inr ⟨_,_,rfl,rfl,(.cons _ _ _ _ (.nil 10) (.cons _ _ _ _ (.refl _) .nil))⟩))
 ·refine AWP.skip (AWP.seq ?_)
  obtain⟨b,j,hF⟩:=bindb hF
  refine AWP.rg0 [(1,.call Tryd.func78 [] (Ze8 c b j))] [(2,(.sc (.func (.func 79) #[] #[]))),(8,(slc 10 Za a.1)),(9,(i64 b.2)),(10,(slc 10 Za b.1))] (AWP.seq (AWP.seq (AWP.rg0 [] [(2,(.sc (.func (.func 79) #[] #[]))),(8,(slc 10 Za a.1)),(9,(i64 b.2)),(10,(slc 10 Za b.1)),(25,(vb (b.2 != (0:Int))))] ?_)))
  refine AWP.cif hF (fun k hF=>?_) (fun k hF=>?_)
  ·refine AWP.seq (AWP.rg0 [] [(6,nils),(7,(i64 b.2))] (AWP.ret ?_))
   have hr:=someb hF
   subst hr
   exact(FnQ.f1 0 (.inr rfl) (.inr ⟨_,_,rfl,rfl,(.cons _ _ _ _ (.nil 10) (.cons _ _ _ _ (.refl _) .nil))⟩))
  ·refine AWP.skip (AWP.seq ?_)
   obtain⟨f,l,hF⟩:=bindb hF
   refine AWP.rg0 [(3,.call Tryd.func76 [] (Zip a.1 b.1 f l))] [(6,(slc 10 Za f.1)),(7,(i64 f.2))] (AWP.ret ?_)
   have hr:=someb hF
   subst hr
   exact(FnQ.f0 0 (.inr rfl))
def Zlz (r:(ZL × Int)):PV→List Blk→Prop:=fun p K=>p=(.tup [(slc 10 Za r.1),(i64 r.2)])∧K=[]
theorem Zl0 (a:ZL) (b:ZL) (r:(ZL × Int)) (hF:Zeh a b=some r):ACall Tryd.prog glob 71 [(slc 10 Za a),(slc 10 Za b)] [] (Zlz r):=by
 refine ACall.body Tryd.func71 rfl (by kernel_rfl) ?_
 unfold Zeh at hF
 refine AWP.seq (AWP.rg0 [] [(0,(slc 10 Za a)),(1,(slc 10 Za b))] (AWP.seq ?_))
 obtain⟨c,d,hF⟩:=bindb hF
 refine AWP.rg0 [(2,.call Tryd.func68 [] (Zjz a b c d))] [(4,(slc 10 Za c.1)),(5,(i64 c.2))] (AWP.ret ?_)
 have hr:=someb hF
 subst hr
 exact(FnQ.f0 0 (.inr rfl))
def Zj0 (r:(ZL × Zn)):PV→List Blk→Prop:=fun p K=>p=(slc 10 Za r.1)∧K=[.cells (Zo r.2)]
theorem Zj1 (c:Zn) (a:ZL) (b:ZL) (r:(ZL × Zn)) (hF:Zdc c a b=some r):ACall Tryd.prog glob 52 [(.ptr 0 0),(slc 10 Za a),(slc 10 Za b)] [.cells (Zo c)] (Zj0 r):=by
 refine ACall.body Tryd.func52 rfl (by kernel_rfl) ?_
 unfold Zdc at hF
 refine AWP.seq (AWP.rg0 [] [(0,(.ptr 0 0)),(1,(slc 10 Za a)),(2,(slc 10 Za b))] (AWP.seq ?_))
 obtain⟨d,g,hF⟩:=bindb hF
 obtain⟨f,i,hF⟩:=bindb hF
 refine AWP.rg [(3,.call Tryd.func71 [] (Zl0 a b d g)),(6,.call Tryd.func65 [] (Ze7 c d.1 d.2 f i))] [(6,(slc 10 Za f.1))] [.cells (Zo f.2)] (AWP.ret ?_)
 have hr:=someb hF
 subst hr
 exact(FnQ.f0 1 (.inr rfl))
def Zk9 (r:((List ZL) × ZL × Zn)):PV→List Blk→Prop:=fun p K=>p=(.tup [(slc 1 Zj r.1),(slc 10 Za r.2.1)])∧K=[.cells (Zo r.2.2)]
theorem Zhs (u:Zn) (a:ZL) (f:ZL) (r:((List ZL) × ZL × Zn)) (hF:Zc7 u a f=some r):ACall Tryd.prog glob 40 [(.ptr 0 0),(slc 10 Za a),(slc 10 Za f)] [.cells (Zo u)] (Zk9 r):=by
 refine ACall.body Tryd.func40 rfl (by kernel_rfl) ?_
 unfold Zc7 at hF
 refine AWP.seq (AWP.rg0 [] [(0,(.ptr 0 0)),(1,(slc 10 Za a)),(2,(slc 10 Za f))] (AWP.seq (AWP.rg0 [] [(0,(.ptr 0 0)),(1,(slc 10 Za a)),(2,(slc 10 Za f)),(8,nils)] ?_)))
 refine AWP.own (H':=[.cells (Zo u),bf 1 53 Zj ([]:(List ZL)) false]) (st':=[(8,(.own 1 (List.length ([]:(List ZL))))),(0,(.ptr 0 0)),(1,(slc 10 Za a)),(2,(slc 10 Za f))]) 8 1 53 (by kernel_rfl) (by kernel_rfl) (by kernel_rfl) ?_
 refine AWP.pick (st':=[(0,(.ptr 0 0)),(1,(slc 10 Za a)),(2,(slc 10 Za f)),(8,(.own 1 (List.length ([]:(List ZL)))))]) (ks:=[0,1,2,8]) (by kernel_rfl) ?_
 refine AWP.seq (AWP.seq (AWP.rg0 [(1,.len Za a)] [(0,(.ptr 0 0)),(2,(slc 10 Za f)),(8,(.own 1 (List.length ([]:(List ZL))))),(11,(slc 10 Za a)),(12,(i64 (List.length a:Int))),(13,(i64 (0:Int)))] ?_))
 obtain⟨z,a1,hF⟩:=bindb hF
 refine AWP.mid (fun e st H=>(e=.normal∧∃ x,∃ m,∃ v,z=(x,m,v)∧st=[(2,(slc 10 Za v)),(8,(.own 1 (List.length m)))]∧H=[.cells (Zo x),bf 1 53 Zj m false])) ?_ ?_
 ·clear hF
  refine AWP.kp [0,2,8,11,12,13] 2 ?_
  refine AWP.bround (fun n st H=>∃ g,∃ b,∃ d,∃ c,Za8 a n g b d c=some z∧st=[(0,(.ptr 0 0)),(2,(slc 10 Za d)),(8,(.own 1 (List.length b))),(11,(slc 10 Za a)),(12,(i64 (List.length a:Int))),(13,(i64 c))]∧H=[.cells (Zo g),bf 1 53 Zj b false]) fuel ⟨u,([]:(List ZL)),f,(0:Int),a1,by kernel_rfl,by kernel_rfl⟩ ?_
  rintro y st H ⟨g,b,d,c,hF,rfl,rfl⟩
  cases y with
  | zero=>exact noneb hF
  | succ y=>
   rw [Za8] at hF
   refine AWP.seq (AWP.rg0 [] [(0,(.ptr 0 0)),(2,(slc 10 Za d)),(8,(.own 1 (List.length b))),(11,(slc 10 Za a)),(12,(i64 (List.length a:Int))),(13,(i64 c)),(14,(vb (decide (c<(List.length a:Int)))))] (AWP.seq ?_))
   refine AWP.cif hF (fun a2 hF=>?_) (fun a2 hF=>?_)
   ·refine AWP.skip ?_
    obtain⟨a3,a4,hF⟩:=bindb hF
    refine AWP.seq ?_
    refine AWP.mid (fun e st H=>(e=.normal∧∃ w,∃ o,∃ p,a3=(w,o,p)∧st=[(0,(.ptr 0 0)),(2,(slc 10 Za p)),(8,(.own 1 (List.length o))),(11,(slc 10 Za a)),(12,(i64 (List.length a:Int))),(13,(i64 c))]∧H=[.cells (Zo w),bf 1 53 Zj o false])) ?_ ?_
    ·clear hF
     have hF:=a4
     refine AWP.block (AWP.seq ?_)
     obtain⟨k,a5,hF⟩:=bindb hF
     refine AWP.rg [(0,.idx Za a5)] [(0,(.ptr 0 0)),(2,(slc 10 Za d)),(8,(.own 1 (List.length b))),(10,(.ptr 2 0)),(11,(slc 10 Za a)),(12,(i64 (List.length a:Int))),(13,(i64 c))] [.cells (Zo g),bf 1 53 Zj b false,.cells (Za k)] (AWP.seq (AWP.seq ?_))
     obtain⟨a0,a6,hF⟩:=bindb hF
     refine AWP.rg0 [(1,.call Tryd.func59 [] (Zgn k a0 a6))] [(0,(.ptr 0 0)),(2,(slc 10 Za d)),(8,(.own 1 (List.length b))),(10,(.ptr 2 0)),(11,(slc 10 Za a)),(12,(i64 (List.length a:Int))),(13,(i64 c)),(19,(vb (!a0)))] ?_
     refine AWP.cif hF (fun a7 hF=>?_) (fun a7 hF=>?_)
     ·refine AWP.seq ?_
      obtain⟨a8,hF⟩:=chkb hF
      refine AWP.rg [(1,.litN),(2,.app Zj (fun _=>by kernel_rfl) a8)] [(0,(.ptr 0 0)),(2,(slc 10 Za d)),(8,(.own 1 (List.length (b++[([]:ZL)])))),(11,(slc 10 Za a)),(12,(i64 (List.length a:Int))),(13,(i64 c))] [.cells (Zo g),bf 1 53 Zj (b++[([]:ZL)]) false,.cells (Za k)] (AWP.exit (LeQ.start (LeQ.pk [0,2,8,11,12,13] 2 ?_)))
      exact⟨rfl,g,(b++[([]:ZL)]),d,(someb hF).symm,by kernel_rfl,by kernel_rfl⟩
     ·refine AWP.skip (AWP.seq ?_)
      obtain⟨j,a9,hF⟩:=bindb hF
      obtain⟨b0,hF⟩:=chkb hF
      refine AWP.rg [(5,.call Tryd.func51 [] (Zjt g d [k] j a9)),(7,.app Zj (fun _=>by kernel_rfl) b0)] [(0,(.ptr 0 0)),(2,(slc 10 Za d)),(8,(.own 1 (List.length (b++[j.1])))),(10,(.ptr 2 0)),(11,(slc 10 Za a)),(12,(i64 (List.length a:Int))),(13,(i64 c))] [.cells (Zo j.2),bf 1 53 Zj (b++[j.1]) false,.cells (Za k)] ?_
      obtain⟨q,b1,hF⟩:=bindb hF
      refine AWP.rg [(4,.call Tryd.func52 [] (Zj1 j.2 d [k] q b1))] [(0,(.ptr 0 0)),(2,(slc 10 Za q.1)),(8,(.own 1 (List.length (b++[j.1])))),(11,(slc 10 Za a)),(12,(i64 (List.length a:Int))),(13,(i64 c))] [.cells (Zo q.2),bf 1 53 Zj (b++[j.1]) false,.cells (Za k)] (LeQ.start (LeQ.pk [0,2,8,11,12,13] 2 ?_))
      exact⟨rfl,q.2,(b++[j.1]),q.1,(someb hF).symm,by kernel_rfl,by kernel_rfl⟩
    ·rintro _ _ _ ⟨rfl,w,o,p,rfl,rfl,rfl⟩
     refine AWP.rg0 [] [(0,(.ptr 0 0)),(2,(slc 10 Za p)),(8,(.own 1 (List.length o))),(11,(slc 10 Za a)),(12,(i64 (List.length a:Int))),(13,(i64 (ZI (c + (1:Int)))))] (LeQ.start (LeQ.pk [0,2,8,11,12,13] 2 ?_))
     exact⟨y,Nat.lt_succ_self _,w,o,p,(ZI (c + (1:Int))),hF,by kernel_rfl,by kernel_rfl⟩
   ·refine AWP.exit (LeQ.start (LeQ.pk [2,8] 2 ?_))
    exact⟨rfl,g,b,d,(someb hF).symm,by kernel_rfl,by kernel_rfl⟩
 ·rintro _ _ _ ⟨rfl,x,m,v,rfl,rfl,rfl⟩
  refine AWP.seq (AWP.rg0 [] [(6,(.own 1 (List.length m))),(7,(slc 10 Za v))] (AWP.ret ?_))
  have hr:=someb hF
  subst hr
  exact(FnQ.f1 1 (.inr rfl) (.inr ⟨_,_,rfl,rfl,(.cons _ _ _ _ (Wk.ownT (i:=1) (s:=1) (t:=53) (l:=m) (sh:=false) (row:=Zj) (by kernel_rfl) (.inl rfl)) (.cons _ _ _ _ (.refl _) .nil))⟩))
def Zoa (r:ZL):PV→List Blk→Prop:=fun p K=>p=(slc 10 Za r)∧K=[]
theorem Zjx (b:Zk) (d:ZL) (r:ZL) (hF:Zem b d=some r):ACall Tryd.prog glob 43 [(Zjb b),(slc 10 Za d)] [] (Zoa r):=by
 refine ACall.body Tryd.func43 rfl (by kernel_rfl) ?_
 unfold Zem at hF
 refine AWP.seq (AWP.rg [] [(1,(slc 10 Za d)),(2,(.ptr 0 0))] [.cells (Zh b)] (AWP.seq ?_))
 obtain⟨a6,hF⟩:=chkb hF
 refine AWP.rg [(1,.clone Tryd.func67 Za (fun _=>by kernel_rfl) a6)] [(1,(slc 10 Za d)),(2,(.ptr 0 0)),(5,(.own 1 (List.length d)))] [.cells (Zh b),bf 10 50 Za d false] (AWP.seq (AWP.seq (AWP.rg0 [(1,.len Za d)] [(1,(slc 10 Za d)),(2,(.ptr 0 0)),(5,(.own 1 (List.length d))),(12,(i64 (List.length d:Int))),(13,(i64 (0:Int)))] ?_)))
 obtain⟨p,a7,hF⟩:=bindb hF
 refine AWP.mid (fun e st H=>e=.normal∧st=[(5,(.own 1 (List.length p)))]∧H=[.cells (Zh b),bf 10 50 Za p false]) ?_ ?_
 ·clear hF
  refine AWP.kp [1,2,5,12,13] 2 ?_
  refine AWP.bround (fun n st H=>∃ m,∃ c,Zc4 b d n m c=some p∧st=[(1,(slc 10 Za d)),(2,(.ptr 0 0)),(5,(.own 1 (List.length m))),(12,(i64 (List.length d:Int))),(13,(i64 c))]∧H=[.cells (Zh b),bf 10 50 Za m false]) fuel ⟨d,(0:Int),a7,by kernel_rfl,by kernel_rfl⟩ ?_
  rintro u st H ⟨m,c,hF,rfl,rfl⟩
  cases u with
  | zero=>exact noneb hF
  | succ u=>
   rw [Zc4] at hF
   refine AWP.seq (AWP.rg0 [] [(1,(slc 10 Za d)),(2,(.ptr 0 0)),(5,(.own 1 (List.length m))),(12,(i64 (List.length d:Int))),(13,(i64 c)),(14,(vb (decide (c<(List.length d:Int)))))] (AWP.seq ?_))
   refine AWP.cif hF (fun a8 hF=>?_) (fun a8 hF=>?_)
   ·refine AWP.skip (AWP.seq (AWP.block (AWP.seq (AWP.rg0 [] [(1,(slc 10 Za d)),(2,(.ptr 0 0)),(5,(.own 1 (List.length m))),(6,(i64 c)),(12,(i64 (List.length d:Int))),(13,(i64 c))] (AWP.seq (AWP.rg0 [] [(1,(slc 10 Za d)),(2,(.ptr 0 0)),(5,(.own 1 (List.length m))),(6,(i64 c)),(12,(i64 (List.length d:Int))),(13,(i64 c)),(17,(Zt b.From)),(18,(i64 (0:Int)))] ?_))))))
    obtain⟨q,a9,hF⟩:=bindb hF
    refine AWP.mid (fun e st H=>e=.normal∧st=[(1,(slc 10 Za d)),(2,(.ptr 0 0)),(5,(.own 1 (List.length q))),(12,(i64 (List.length d:Int))),(13,(i64 c))]∧H=[.cells (Zh b),bf 10 50 Za q false]) ?_ ?_
    ·clear hF
     refine AWP.kp [1,2,5,6,12,13,17,18] 2 ?_
     refine AWP.bround (fun n st H=>∃ g,∃ a,Zb0 b d c n g a=some q∧st=[(1,(slc 10 Za d)),(2,(.ptr 0 0)),(5,(.own 1 (List.length g))),(6,(i64 c)),(12,(i64 (List.length d:Int))),(13,(i64 c)),(17,(Zt b.From)),(18,(i64 a))]∧H=[.cells (Zh b),bf 10 50 Za g false]) fuel ⟨m,(0:Int),a9,by kernel_rfl,by kernel_rfl⟩ ?_
     rintro v st H ⟨g,a,hF,rfl,rfl⟩
     cases v with
     | zero=>exact noneb hF
     | succ v=>
      rw [Zb0] at hF
      refine AWP.seq (AWP.rg0 [] [(1,(slc 10 Za d)),(2,(.ptr 0 0)),(5,(.own 1 (List.length g))),(6,(i64 c)),(12,(i64 (List.length d:Int))),(13,(i64 c)),(17,(Zt b.From)),(18,(i64 a)),(19,(vb (decide (a<(5:Int)))))] (AWP.seq ?_))
      refine AWP.cif hF (fun b0 hF=>?_) (fun b0 hF=>?_)
      ·refine AWP.skip (AWP.seq (AWP.block (AWP.seq ?_)))
       obtain⟨b1,hF⟩:=chkb hF
       refine AWP.rg [(1,.ixA Zl (Arr5.get b.From) b1)] [(1,(slc 10 Za d)),(2,(.ptr 0 0)),(5,(.own 1 (List.length g))),(6,(i64 c)),(7,(i64 a)),(8,(.ptr 2 0)),(12,(i64 (List.length d:Int))),(13,(i64 c)),(17,(Zt b.From)),(18,(i64 a))] [.cells (Zh b),bf 10 50 Za g false,.cells (Zl (Arr5.get b.From a))] (AWP.seq ?_)
       obtain⟨w,hF⟩:=chkb hF
       obtain⟨j,b2,hF⟩:=bindb hF
       obtain⟨x,hF⟩:=chkb hF
       obtain⟨f,y,hF⟩:=bindb hF
       obtain⟨z,hF⟩:=chkb hF
       refine AWP.dr [(5,.ixd w),(7,.ldA Zl (Arr5.get b.To) 10 2 0 w),(11,.idx Za b2),(12,.ixd x),(14,.ldA Zl (Arr5.get j) 0 2 0 x),(19,.idx Za y),(20,.ixE Za g c z),(21,.fdE Za g c),(22,.stEd Za y (fun a0=>(Arr5.set f a0 ({ (Arr5.get f a0) with Lo:=(IntKind.wrap .u32 ((Arr5.get b.To a).Lo + (IntKind.wrap .u32 ((Arr5.get j a).Lo - (Arr5.get b.From a).Lo)))) }:Zb))) 0 2 0 z)] 20 [] [] [] [(1,(slc 10 Za d)),(2,(.ptr 0 0)),(5,(.own 1 (List.length g))),(6,(i64 c)),(7,(i64 a)),(8,(.ptr 2 0)),(12,(i64 (List.length d:Int))),(13,(i64 c)),(17,(Zt b.From)),(18,(i64 a))] [.cells (Zh b),bf 10 50 Za (List.set g (Int.toNat c) (Arr5.set f a ({ (Arr5.get f a) with Lo:=(IntKind.wrap .u32 ((Arr5.get b.To a).Lo + (IntKind.wrap .u32 ((Arr5.get j a).Lo - (Arr5.get b.From a).Lo)))) }:Zb))) false,.cells (Zl (Arr5.get b.From a))] ?_
       rw [show ([(1,(slc 10 Za d)),(2,(.ptr 0 0)),(5,(.own 1 (List.length g))),(6,(i64 c)),(7,(i64 a)),(8,(.ptr 2 0)),(12,(i64 (List.length d:Int))),(13,(i64 c)),(17,(Zt b.From)),(18,(i64 a))]:St)=[(1,(slc 10 Za d)),(2,(.ptr 0 0)),(5,(.own 1 (List.length (List.set g (Int.toNat c) (Arr5.set f a ({ (Arr5.get f a) with Lo:=(IntKind.wrap .u32 ((Arr5.get b.To a).Lo + (IntKind.wrap .u32 ((Arr5.get j a).Lo - (Arr5.get b.From a).Lo)))) }:Zb)))))),(6,(i64 c)),(7,(i64 a)),(8,(.ptr 2 0)),(12,(i64 (List.length d:Int))),(13,(i64 c)),(17,(Zt b.From)),(18,(i64 a))] by simp only [List.length_set]]
       obtain⟨a1,hF⟩:=chkb hF
       obtain⟨o,b3,hF⟩:=bindb hF
       obtain⟨a2,hF⟩:=chkb hF
       obtain⟨k,a3,hF⟩:=bindb hF
       obtain⟨a4,hF⟩:=chkb hF
       refine AWP.dr [(5,.ixd a1),(7,.ldA Zl (Arr5.get b.To) 10 2 0 a1),(11,.idx Za b3),(12,.ixd a2),(14,.ldA Zl (Arr5.get o) 0 2 1 a2),(19,.idx Za a3),(20,.ixE Za (List.set g (Int.toNat c) (Arr5.set f a ({ (Arr5.get f a) with Lo:=(IntKind.wrap .u32 ((Arr5.get b.To a).Lo + (IntKind.wrap .u32 ((Arr5.get j a).Lo - (Arr5.get b.From a).Lo)))) }:Zb))) c a4),(21,.fdE Za (List.set g (Int.toNat c) (Arr5.set f a ({ (Arr5.get f a) with Lo:=(IntKind.wrap .u32 ((Arr5.get b.To a).Lo + (IntKind.wrap .u32 ((Arr5.get j a).Lo - (Arr5.get b.From a).Lo)))) }:Zb))) c),(22,.stEd Za a3 (fun a5=>(Arr5.set k a5 ({ (Arr5.get k a5) with Hi:=(IntKind.wrap .u32 ((Arr5.get b.To a).Lo + (IntKind.wrap .u32 ((Arr5.get o a).Hi - (Arr5.get b.From a).Lo)))) }:Zb))) 0 2 1 a4)] 20 [] [] [] [(1,(slc 10 Za d)),(2,(.ptr 0 0)),(5,(.own 1 (List.length (List.set g (Int.toNat c) (Arr5.set f a ({ (Arr5.get f a) with Lo:=(IntKind.wrap .u32 ((Arr5.get b.To a).Lo + (IntKind.wrap .u32 ((Arr5.get j a).Lo - (Arr5.get b.From a).Lo)))) }:Zb)))))),(6,(i64 c)),(12,(i64 (List.length d:Int))),(13,(i64 c)),(17,(Zt b.From)),(18,(i64 a))] [.cells (Zh b),bf 10 50 Za (List.set (List.set g (Int.toNat c) (Arr5.set f a ({ (Arr5.get f a) with Lo:=(IntKind.wrap .u32 ((Arr5.get b.To a).Lo + (IntKind.wrap .u32 ((Arr5.get j a).Lo - (Arr5.get b.From a).Lo)))) }:Zb))) (Int.toNat c) (Arr5.set k a ({ (Arr5.get k a) with Hi:=(IntKind.wrap .u32 ((Arr5.get b.To a).Lo + (IntKind.wrap .u32 ((Arr5.get o a).Hi - (Arr5.get b.From a).Lo)))) }:Zb))) false,.cells (Zl (Arr5.get b.From a))] ?_
       rw [show ([(1,(slc 10 Za d)),(2,(.ptr 0 0)),(5,(.own 1 (List.length (List.set g (Int.toNat c) (Arr5.set f a ({ (Arr5.get f a) with Lo:=(IntKind.wrap .u32 ((Arr5.get b.To a).Lo + (IntKind.wrap .u32 ((Arr5.get j a).Lo - (Arr5.get b.From a).Lo)))) }:Zb)))))),(6,(i64 c)),(12,(i64 (List.length d:Int))),(13,(i64 c)),(17,(Zt b.From)),(18,(i64 a))]:St)=[(1,(slc 10 Za d)),(2,(.ptr 0 0)),(5,(.own 1 (List.length (List.set (List.set g (Int.toNat c) (Arr5.set f a ({ (Arr5.get f a) with Lo:=(IntKind.wrap .u32 ((Arr5.get b.To a).Lo + (IntKind.wrap .u32 ((Arr5.get j a).Lo - (Arr5.get b.From a).Lo)))) }:Zb))) (Int.toNat c) (Arr5.set k a ({ (Arr5.get k a) with Hi:=(IntKind.wrap .u32 ((Arr5.get b.To a).Lo + (IntKind.wrap .u32 ((Arr5.get o a).Hi - (Arr5.get b.From a).Lo)))) }:Zb)))))),(6,(i64 c)),(12,(i64 (List.length d:Int))),(13,(i64 c)),(17,(Zt b.From)),(18,(i64 a))] by simp only [List.length_set]]
       refine AWP.rg0 [] [(1,(slc 10 Za d)),(2,(.ptr 0 0)),(5,(.own 1 (List.length (List.set (List.set g (Int.toNat c) (Arr5.set f a ({ (Arr5.get f a) with Lo:=(IntKind.wrap .u32 ((Arr5.get b.To a).Lo + (IntKind.wrap .u32 ((Arr5.get j a).Lo - (Arr5.get b.From a).Lo)))) }:Zb))) (Int.toNat c) (Arr5.set k a ({ (Arr5.get k a) with Hi:=(IntKind.wrap .u32 ((Arr5.get b.To a).Lo + (IntKind.wrap .u32 ((Arr5.get o a).Hi - (Arr5.get b.From a).Lo)))) }:Zb)))))),(6,(i64 c)),(12,(i64 (List.length d:Int))),(13,(i64 c)),(17,(Zt b.From)),(18,(i64 (ZI (a + (1:Int)))))] (LeQ.start (LeQ.pk [1,2,5,6,12,13,17,18] 2 ?_))
       exact⟨v,Nat.lt_succ_self _,(List.set (List.set g (Int.toNat c) (Arr5.set f a ({ (Arr5.get f a) with Lo:=(IntKind.wrap .u32 ((Arr5.get b.To a).Lo + (IntKind.wrap .u32 ((Arr5.get j a).Lo - (Arr5.get b.From a).Lo)))) }:Zb))) (Int.toNat c) (Arr5.set k a ({ (Arr5.get k a) with Hi:=(IntKind.wrap .u32 ((Arr5.get b.To a).Lo + (IntKind.wrap .u32 ((Arr5.get o a).Hi - (Arr5.get b.From a).Lo)))) }:Zb))),(ZI (a + (1:Int))),hF,by kernel_rfl,by kernel_rfl⟩
      ·refine AWP.exit (LeQ.start (LeQ.pk [1,2,5,12,13] 2 ?_))
       have hr:=someb hF
       subst hr
       exact⟨rfl,by kernel_rfl,by kernel_rfl⟩
    ·rintro _ _ _ ⟨rfl,rfl,rfl⟩
     refine AWP.rg0 [] [(1,(slc 10 Za d)),(2,(.ptr 0 0)),(5,(.own 1 (List.length q))),(12,(i64 (List.length d:Int))),(13,(i64 (ZI (c + (1:Int)))))] (LeQ.start (LeQ.pk [1,2,5,12,13] 2 ?_))
     exact⟨u,Nat.lt_succ_self _,q,(ZI (c + (1:Int))),hF,by kernel_rfl,by kernel_rfl⟩
   ·refine AWP.exit (LeQ.start (LeQ.pk [5] 2 ?_))
    have hr:=someb hF
    subst hr
    exact⟨rfl,by kernel_rfl,by kernel_rfl⟩
 ·rintro _ _ _ ⟨rfl,rfl,rfl⟩
  refine AWP.seq (AWP.rg0 [] [(4,(.own 1 (List.length p)))] (AWP.ret ?_))
  have hr:=someb hF
  subst hr
  exact(FnQ.f1 0 (.inr rfl) (.inl (Wk.ownT (i:=1) (s:=10) (t:=50) (l:=p) (sh:=false) (row:=Za) (by kernel_rfl) (.inl rfl))))
def Zkg (r:(ZL × Int)):PV→List Blk→Prop:=fun p K=>p=(.tup [(slc 10 Za r.1),(i64 r.2)])∧K=[]
theorem Zkh (d:ZL) (c:ZL) (r:(ZL × Int)) (hF:Zei d c=some r):ACall Tryd.prog glob 68 [(slc 10 Za d),(slc 10 Za c),(.sc (.func (.func 77) #[] #[]))] [] (Zkg r):=by
 refine ACall.body Tryd.func68 rfl (by kernel_rfl) ?_
 unfold Zei at hF
 refine AWP.seq (AWP.rg0 [] [(0,(slc 10 Za d)),(1,(slc 10 Za c)),(2,(.sc (.func (.func 77) #[] #[])))] (AWP.seq ?_))
 obtain⟨a,g,hF⟩:=bindb hF
 refine AWP.rg0 [(1,.call Tryd.func78 [] (Ze8 d a g))] [(1,(slc 10 Za c)),(2,(.sc (.func (.func 77) #[] #[]))),(8,(slc 10 Za a.1)),(9,(i64 a.2))] (AWP.seq (AWP.seq (AWP.rg0 [] [(1,(slc 10 Za c)),(2,(.sc (.func (.func 77) #[] #[]))),(8,(slc 10 Za a.1)),(9,(i64 a.2)),(17,(vb (a.2 != (0:Int))))] ?_)))
 refine AWP.cif hF (fun i hF=>?_) (fun i hF=>?_)
 ·refine AWP.seq (AWP.rg0 [] [(6,nils),(7,(i64 a.2))] (AWP.ret ?_))
  have hr:=someb hF
  subst hr
  exact(FnQ.f1 0 (.inr rfl) (.inr ⟨_,_,rfl,rfl,(.cons _ _ _ _ (.nil 10) (.cons _ _ _ _ (.refl _) .nil))⟩))
 ·refine AWP.skip (AWP.seq ?_)
  obtain⟨b,j,hF⟩:=bindb hF
  refine AWP.rg0 [(1,.call Tryd.func78 [] (Ze8 c b j))] [(2,(.sc (.func (.func 77) #[] #[]))),(8,(slc 10 Za a.1)),(9,(i64 b.2)),(10,(slc 10 Za b.1))] (AWP.seq (AWP.seq (AWP.rg0 [] [(2,(.sc (.func (.func 77) #[] #[]))),(8,(slc 10 Za a.1)),(9,(i64 b.2)),(10,(slc 10 Za b.1)),(25,(vb (b.2 != (0:Int))))] ?_)))
  refine AWP.cif hF (fun k hF=>?_) (fun k hF=>?_)
  ·refine AWP.seq (AWP.rg0 [] [(6,nils),(7,(i64 b.2))] (AWP.ret ?_))
   have hr:=someb hF
   subst hr
   exact(FnQ.f1 0 (.inr rfl) (.inr ⟨_,_,rfl,rfl,(.cons _ _ _ _ (.nil 10) (.cons _ _ _ _ (.refl _) .nil))⟩))
  ·refine AWP.skip (AWP.seq ?_)
   obtain⟨f,l,hF⟩:=bindb hF
   refine AWP.rg0 [(3,.call Tryd.func76 [] (Zgb a.1 b.1 f l))] [(6,(slc 10 Za f.1)),(7,(i64 f.2))] (AWP.ret ?_)
   have hr:=someb hF
   subst hr
   exact(FnQ.f0 0 (.inr rfl))
def Zob (r:(ZL × Int)):PV→List Blk→Prop:=fun p K=>p=(.tup [(slc 10 Za r.1),(i64 r.2)])∧K=[]
theorem Zoc (a:ZL) (b:ZL) (r:(ZL × Int)) (hF:Zfh a b=some r):ACall Tryd.prog glob 70 [(slc 10 Za a),(slc 10 Za b)] [] (Zob r):=by
 refine ACall.body Tryd.func70 rfl (by kernel_rfl) ?_
 unfold Zfh at hF
 refine AWP.seq (AWP.rg0 [] [(0,(slc 10 Za a)),(1,(slc 10 Za b))] (AWP.seq ?_))
 obtain⟨c,d,hF⟩:=bindb hF
 refine AWP.rg0 [(2,.call Tryd.func68 [] (Zkh a b c d))] [(4,(slc 10 Za c.1)),(5,(i64 c.2))] (AWP.ret ?_)
 have hr:=someb hF
 subst hr
 exact(FnQ.f0 0 (.inr rfl))
def Zla (r:(ZL × Zn)):PV→List Blk→Prop:=fun p K=>p=(slc 10 Za r.1)∧K=[.cells (Zo r.2)]
theorem Zht (c:Zn) (a:ZL) (b:ZL) (r:(ZL × Zn)) (hF:Zc8 c a b=some r):ACall Tryd.prog glob 48 [(.ptr 0 0),(slc 10 Za a),(slc 10 Za b)] [.cells (Zo c)] (Zla r):=by
 refine ACall.body Tryd.func48 rfl (by kernel_rfl) ?_
 unfold Zc8 at hF
 refine AWP.seq (AWP.rg0 [] [(0,(.ptr 0 0)),(1,(slc 10 Za a)),(2,(slc 10 Za b))] (AWP.seq ?_))
 obtain⟨d,g,hF⟩:=bindb hF
 obtain⟨f,i,hF⟩:=bindb hF
 refine AWP.rg [(3,.call Tryd.func70 [] (Zoc a b d g)),(6,.call Tryd.func65 [] (Ze7 c d.1 d.2 f i))] [(6,(slc 10 Za f.1))] [.cells (Zo f.2)] (AWP.ret ?_)
 have hr:=someb hF
 subst hr
 exact(FnQ.f0 1 (.inr rfl))
def Zkp (a:Zn) (r:(ZL × Int)):PV→List Blk→Prop:=fun p K=>p=(.tup [(slc 10 Za r.1),(i64 r.2)])∧K=[.cells (Zo a)]
theorem Zkq (a:Zn) (b:ZL) (r:(ZL × Int)) (hF:Zdo a b=some r):ACall Tryd.prog glob 49 [(.ptr 0 0),(slc 10 Za b)] [.cells (Zo a)] (Zkp a r):=by
 refine ACall.body Tryd.func49 rfl (by kernel_rfl) ?_
 unfold Zdo at hF
 refine AWP.seq (AWP.rg0 [] [(0,(.ptr 0 0)),(1,(slc 10 Za b))] (AWP.seq (AWP.seq (AWP.rg0 [] [(0,(.ptr 0 0)),(1,(slc 10 Za b)),(10,(vb (a.f_err != (0:Int))))] ?_))))
 refine AWP.cif hF (fun c hF=>?_) (fun c hF=>?_)
 ·refine AWP.seq (AWP.dr [] 5 [] [] [] [(4,nils),(5,(i64 a.f_err))] [.cells (Zo a)] (AWP.ret ?_))
  have hr:=someb hF
  subst hr
  exact(FnQ.f1 1 (.inr rfl) (.inr ⟨_,_,rfl,rfl,(.cons _ _ _ _ (.nil 10) (.cons _ _ _ _ (.refl _) .nil))⟩))
 ·refine AWP.skip (AWP.seq ?_)
  obtain⟨d,hF⟩:=chkb hF
  refine AWP.rg [(1,.clone Tryd.func67 Za (fun _=>by kernel_rfl) d)] [(4,(.own 1 (List.length b))),(5,(i64 (0:Int)))] [.cells (Zo a),bf 10 50 Za b false] (AWP.ret ?_)
  have hr:=someb hF
  subst hr
  exact(FnQ.f1 1 (.inr rfl) (.inr ⟨_,_,rfl,rfl,(.cons _ _ _ _ (Wk.ownT (i:=1) (s:=10) (t:=50) (l:=b) (sh:=false) (row:=Za) (by kernel_rfl) (.inl rfl)) (.cons _ _ _ _ (.refl _) .nil))⟩))
def Zp6 (r:(ZL × Int)):PV→List Blk→Prop:=fun p K=>p=(.tup [(slc 10 Za r.1),(i64 r.2)])∧K=[]
theorem Zp7 (b:(List Zk)) (g:ZL) (r:(ZL × Int)) (hF:Zf3 b g=some r):ACall Tryd.prog glob 21 [(slc 20 Zh b),(slc 10 Za g)] [] (Zp6 r):=by
 refine ACall.body Tryd.func21 rfl (by kernel_rfl) ?_
 unfold Zf3 at hF
 refine AWP.seq (AWP.rg0 [] [(0,(slc 20 Zh b)),(1,(slc 10 Za g))] (AWP.seq (AWP.rg [] [(0,(slc 20 Zh b)),(1,(slc 10 Za g)),(6,(.ptr 0 0))] [.cells (Zo Zdh)] (AWP.seq ?_))))
 obtain⟨w,a0,hF⟩:=bindb hF
 obtain⟨s,a1,hF⟩:=bindb hF
 obtain⟨a,a2,hF⟩:=bindb hF
 refine AWP.rg [(1,.call Tryd.func41 [] (Zlj b w a0)),(3,.call Tryd.func42 [] (Zh2 Zdh g s a1)),(4,.call Tryd.func40 [] (Zhs s.2 w s.1 a a2))] [(0,(slc 20 Zh b)),(6,(.ptr 0 0)),(7,(slc 1 Zj a.1)),(8,(slc 10 Za a.2.1))] [.cells (Zo a.2.2)] (AWP.seq (AWP.rg0 [] [(0,(slc 20 Zh b)),(6,(.ptr 0 0)),(7,(slc 1 Zj a.1)),(8,(slc 10 Za a.2.1)),(9,nils)] (AWP.seq (AWP.seq (AWP.rg0 [(1,.len Zj a.1)] [(0,(slc 20 Zh b)),(6,(.ptr 0 0)),(8,(slc 10 Za a.2.1)),(9,nils),(20,(slc 1 Zj a.1)),(21,(i64 (List.length a.1:Int))),(22,(i64 (0:Int)))] ?_)))))
 obtain⟨x,a3,hF⟩:=bindb hF
 refine AWP.mid (fun e st H=>(e=.normal∧∃ k,∃ l,x=(k,l)∧st=[(6,(.ptr 0 0)),(8,(slc 10 Za a.2.1)),(9,(slc 10 Za l))]∧H=[.cells (Zo k)])) ?_ ?_
 ·clear hF
  refine AWP.wk (p:=nils) (q:=(slc 10 Za ([]:ZL))) (st':=[(9,(slc 10 Za ([]:ZL))),(0,(slc 20 Zh b)),(6,(.ptr 0 0)),(8,(slc 10 Za a.2.1)),(20,(slc 1 Zj a.1)),(21,(i64 (List.length a.1:Int))),(22,(i64 (0:Int)))]) 9 (by kernel_rfl) (.nil 10) (by kernel_rfl) ?_
  refine AWP.kp [0,6,8,9,20,21,22] 1 ?_
  refine AWP.bround (fun n st H=>∃ f,∃ d,∃ c,Zcn b a n f d c=some x∧st=[(0,(slc 20 Zh b)),(6,(.ptr 0 0)),(8,(slc 10 Za a.2.1)),(9,(slc 10 Za d)),(20,(slc 1 Zj a.1)),(21,(i64 (List.length a.1:Int))),(22,(i64 c))]∧H=[.cells (Zo f)]) fuel ⟨a.2.2,([]:ZL),(0:Int),a3,by kernel_rfl,by kernel_rfl⟩ ?_
  rintro t st H ⟨f,d,c,hF,rfl,rfl⟩
  cases t with
  | zero=>exact noneb hF
  | succ t=>
   rw [Zcn] at hF
   refine AWP.seq (AWP.rg0 [] [(0,(slc 20 Zh b)),(6,(.ptr 0 0)),(8,(slc 10 Za a.2.1)),(9,(slc 10 Za d)),(20,(slc 1 Zj a.1)),(21,(i64 (List.length a.1:Int))),(22,(i64 c)),(23,(vb (decide (c<(List.length a.1:Int)))))] (AWP.seq ?_))
   refine AWP.cif hF (fun a4 hF=>?_) (fun a4 hF=>?_)
   ·refine AWP.skip ?_
    obtain⟨a5,a6,hF⟩:=bindb hF
    refine AWP.seq ?_
    refine AWP.mid (fun e st H=>(e=.normal∧∃ m,∃ i,a5=(m,i)∧st=[(0,(slc 20 Zh b)),(6,(.ptr 0 0)),(8,(slc 10 Za a.2.1)),(9,(slc 10 Za i)),(20,(slc 1 Zj a.1)),(21,(i64 (List.length a.1:Int))),(22,(i64 c))]∧H=[.cells (Zo m)])) ?_ ?_
    ·clear hF
     have hF:=a6
     refine AWP.block (AWP.seq ?_)
     obtain⟨u,a7,hF⟩:=bindb hF
     refine AWP.rg0 [(1,.idx Zj a7)] [(0,(slc 20 Zh b)),(6,(.ptr 0 0)),(8,(slc 10 Za a.2.1)),(9,(slc 10 Za d)),(10,(i64 c)),(11,(slc 10 Za u)),(20,(slc 1 Zj a.1)),(21,(i64 (List.length a.1:Int))),(22,(i64 c))] (AWP.seq ?_)
     obtain⟨a8,a9,hF⟩:=bindb hF
     obtain⟨y,b0,hF⟩:=bindb hF
     refine AWP.rg0 [(2,.idx Zh a9),(4,.call Tryd.func35 [] (Zet a8 y b0))] [(0,(slc 20 Zh b)),(6,(.ptr 0 0)),(8,(slc 10 Za a.2.1)),(9,(slc 10 Za d)),(10,(i64 c)),(11,(slc 10 Za u)),(20,(slc 1 Zj a.1)),(21,(i64 (List.length a.1:Int))),(22,(i64 c)),(31,(vb y))] ?_
     refine AWP.cif hF (fun b1 hF=>?_) (fun b1 hF=>?_)
     ·obtain⟨b2,b3,hF⟩:=bindb hF
      obtain⟨z,b4,hF⟩:=bindb hF
      obtain⟨j,b5,hF⟩:=bindb hF
      refine AWP.rg [(3,.idx Zh b3),(6,.call Tryd.func43 [] (Zjx b2 u z b4)),(7,.call Tryd.func48 [] (Zht f d z j b5))] [(0,(slc 20 Zh b)),(6,(.ptr 0 0)),(8,(slc 10 Za a.2.1)),(9,(slc 10 Za j.1)),(20,(slc 1 Zj a.1)),(21,(i64 (List.length a.1:Int))),(22,(i64 c))] [.cells (Zo j.2)] (LeQ.start (LeQ.pk [0,6,8,9,20,21,22] 1 ?_))
      exact⟨rfl,j.2,j.1,(someb hF).symm,by kernel_rfl,by kernel_rfl⟩
     ·refine AWP.skip (LeQ.start (LeQ.pk [0,6,8,9,20,21,22] 1 ?_))
      exact⟨rfl,f,d,(someb hF).symm,by kernel_rfl,by kernel_rfl⟩
    ·rintro _ _ _ ⟨rfl,m,i,rfl,rfl,rfl⟩
     refine AWP.rg0 [] [(0,(slc 20 Zh b)),(6,(.ptr 0 0)),(8,(slc 10 Za a.2.1)),(9,(slc 10 Za i)),(20,(slc 1 Zj a.1)),(21,(i64 (List.length a.1:Int))),(22,(i64 (ZI (c + (1:Int)))))] (LeQ.start (LeQ.pk [0,6,8,9,20,21,22] 1 ?_))
     exact⟨t,Nat.lt_succ_self _,m,i,(ZI (c + (1:Int))),hF,by kernel_rfl,by kernel_rfl⟩
   ·refine AWP.exit (LeQ.start (LeQ.pk [6,8,9] 1 ?_))
    exact⟨rfl,f,d,(someb hF).symm,by kernel_rfl,by kernel_rfl⟩
 ·rintro _ _ _ ⟨rfl,k,l,rfl,rfl,rfl⟩
  refine AWP.seq ?_
  obtain⟨o,b6,hF⟩:=bindb hF
  obtain⟨v,b7,hF⟩:=bindb hF
  refine AWP.rg [(2,.call Tryd.func48 [] (Zht k l a.2.1 o b6)),(3,.call Tryd.func49 [] (Zkq o.2 o.1 v b7))] [(4,(slc 10 Za v.1)),(5,(i64 v.2))] [.cells (Zo o.2)] (AWP.ret ?_)
  have hr:=someb hF
  subst hr
  exact(FnQ.f0 0 (.inr rfl))
def Zi2 (r:(Bool × Int)):PV→List Blk→Prop:=fun p K=>p=(.tup [(vb r.1),(i64 r.2)])∧K=[]
abbrev Zi3 (r:(Bool × Int)):Exit→St→List Blk→Prop:=FnQ Tryd.prog Tryd.f17.results 0 (Zi2 r)
theorem Zi4 (f:(List Zk)) (k:ZL) (r:(Bool × Int)) (hF:Zdv f k=some r):ACall Tryd.prog glob 17 [(slc 20 Zh f),(slc 10 Za k)] [] (Zi2 r):=by
 refine ACall.body Tryd.func17 rfl (by kernel_rfl) ?_
 unfold Zdv at hF
 refine AWP.seq (AWP.rg0 [] [(0,(slc 20 Zh f)),(1,(slc 10 Za k))] (AWP.seq (AWP.seq ?_)))
 obtain⟨l,a8,hF⟩:=bindb hF
 refine AWP.rg0 [(2,.call Tryd.func21 [] (Zp7 f k l a8))] [(0,(slc 20 Zh f)),(1,(slc 10 Za k)),(7,(i64 l.2))] (AWP.seq (AWP.rg0 [] [(0,(slc 20 Zh f)),(1,(slc 10 Za k)),(7,(i64 l.2)),(26,(vb (l.2 != (0:Int))))] ?_))
 refine AWP.cif hF (fun a9 hF=>?_) (fun a9 hF=>?_)
 ·refine AWP.seq (AWP.rg0 [] [(4,(vb false)),(5,(i64 l.2))] (AWP.ret ?_))
  have hr:=someb hF
  subst hr
  exact(FnQ.f0 0 (.inr rfl))
 ·refine AWP.skip (AWP.seq (AWP.rg [] [(0,(slc 20 Zh f)),(1,(slc 10 Za k)),(8,(.ptr 0 0))] [.cells (Zo Zdh)] (AWP.seq ?_)))
  obtain⟨a3,b0,hF⟩:=bindb hF
  obtain⟨u,b1,hF⟩:=bindb hF
  obtain⟨b,b2,hF⟩:=bindb hF
  refine AWP.rg [(1,.call Tryd.func41 [] (Zlj f a3 b0)),(3,.call Tryd.func42 [] (Zh2 Zdh k u b1)),(4,.call Tryd.func40 [] (Zhs u.2 a3 u.1 b b2))] [(0,(slc 20 Zh f)),(9,(slc 1 Zj b.1)),(10,(slc 10 Za b.2.1))] [.cells (Zo b.2.2)] (AWP.seq (AWP.rg [(1,.m)] [(0,(slc 20 Zh f)),(9,(slc 1 Zj b.1)),(11,(.own 1 (List.length [b.2.1])))] [.cells (Zo b.2.2),bf 1 53 Zj [b.2.1] false] (AWP.seq (AWP.seq (AWP.rg0 [(1,.len Zj b.1)] [(0,(slc 20 Zh f)),(11,(.own 1 (List.length [b.2.1]))),(38,(slc 1 Zj b.1)),(39,(i64 (List.length b.1:Int))),(40,(i64 (0:Int)))] ?_)))))
  obtain⟨d,b3,hF⟩:=bindb hF
  refine AWP.mid (fun e st H=>e=.normal∧st=[(11,(.own 1 (List.length d)))]∧H=[.cells (Zo b.2.2),bf 1 53 Zj d false]) ?_ ?_
  ·clear hF
   refine AWP.kp [0,11,38,39,40] 2 ?_
   refine AWP.bround (fun n st H=>∃ j,∃ g,Zb4 f b n j g=some d∧st=[(0,(slc 20 Zh f)),(11,(.own 1 (List.length j))),(38,(slc 1 Zj b.1)),(39,(i64 (List.length b.1:Int))),(40,(i64 g))]∧H=[.cells (Zo b.2.2),bf 1 53 Zj j false]) fuel ⟨[b.2.1],(0:Int),b3,by kernel_rfl,by kernel_rfl⟩ ?_
   rintro v st H ⟨j,g,hF,rfl,rfl⟩
   cases v with
   | zero=>exact noneb hF
   | succ v=>
    rw [Zb4] at hF
    refine AWP.seq (AWP.rg0 [] [(0,(slc 20 Zh f)),(11,(.own 1 (List.length j))),(38,(slc 1 Zj b.1)),(39,(i64 (List.length b.1:Int))),(40,(i64 g)),(41,(vb (decide (g<(List.length b.1:Int)))))] (AWP.seq ?_))
    refine AWP.cif hF (fun b4 hF=>?_) (fun b4 hF=>?_)
    ·refine AWP.skip ?_
     obtain⟨p,b5,hF⟩:=bindb hF
     refine AWP.seq ?_
     refine AWP.mid (fun e st H=>e=.normal∧st=[(0,(slc 20 Zh f)),(11,(.own 1 (List.length p))),(38,(slc 1 Zj b.1)),(39,(i64 (List.length b.1:Int))),(40,(i64 g))]∧H=[.cells (Zo b.2.2),bf 1 53 Zj p false]) ?_ ?_
     ·clear hF
      have hF:=b5
      refine AWP.block (AWP.seq ?_)
      obtain⟨w,b6,hF⟩:=bindb hF
      refine AWP.rg0 [(1,.idx Zj b6)] [(0,(slc 20 Zh f)),(11,(.own 1 (List.length j))),(12,(i64 g)),(13,(slc 10 Za w)),(38,(slc 1 Zj b.1)),(39,(i64 (List.length b.1:Int))),(40,(i64 g))] (AWP.seq ?_)
      obtain⟨b7,b8,hF⟩:=bindb hF
      obtain⟨a4,b9,hF⟩:=bindb hF
      refine AWP.rg0 [(2,.idx Zh b8),(4,.call Tryd.func35 [] (Zet b7 a4 b9))] [(0,(slc 20 Zh f)),(11,(.own 1 (List.length j))),(12,(i64 g)),(13,(slc 10 Za w)),(38,(slc 1 Zj b.1)),(39,(i64 (List.length b.1:Int))),(40,(i64 g)),(49,(vb a4))] ?_
      refine AWP.cif hF (fun c0 hF=>?_) (fun c0 hF=>?_)
      ·obtain⟨c1,c2,hF⟩:=bindb hF
       obtain⟨x,c3,hF⟩:=bindb hF
       obtain⟨c4,hF⟩:=chkb hF
       refine AWP.rg [(3,.idx Zh c2),(6,.call Tryd.func43 [] (Zjx c1 w x c3)),(8,.app Zj (fun _=>by kernel_rfl) c4)] [(0,(slc 20 Zh f)),(11,(.own 1 (List.length (j++[x])))),(38,(slc 1 Zj b.1)),(39,(i64 (List.length b.1:Int))),(40,(i64 g))] [.cells (Zo b.2.2),bf 1 53 Zj (j++[x]) false] (LeQ.start (LeQ.pk [0,11,38,39,40] 2 ?_))
       have hr:=someb hF
       subst hr
       exact⟨rfl,by kernel_rfl,by kernel_rfl⟩
      ·refine AWP.skip (LeQ.start (LeQ.pk [0,11,38,39,40] 2 ?_))
       have hr:=someb hF
       subst hr
       exact⟨rfl,by kernel_rfl,by kernel_rfl⟩
     ·rintro _ _ _ ⟨rfl,rfl,rfl⟩
      refine AWP.rg0 [] [(0,(slc 20 Zh f)),(11,(.own 1 (List.length p))),(38,(slc 1 Zj b.1)),(39,(i64 (List.length b.1:Int))),(40,(i64 (ZI (g + (1:Int)))))] (LeQ.start (LeQ.pk [0,11,38,39,40] 2 ?_))
      exact⟨v,Nat.lt_succ_self _,p,(ZI (g + (1:Int))),hF,by kernel_rfl,by kernel_rfl⟩
    ·refine AWP.exit (LeQ.start (LeQ.pk [11] 2 ?_))
     have hr:=someb hF
     subst hr
     exact⟨rfl,by kernel_rfl,by kernel_rfl⟩
  ·rintro _ _ _ ⟨rfl,rfl,rfl⟩
   refine AWP.seq (AWP.seq (AWP.rg0 [(1,.len Zj d)] [(11,(.own 1 (List.length d))),(61,(i64 (List.length d:Int))),(62,(i64 (0:Int)))] ?_))
   obtain⟨y,c5,hF⟩:=bindb hF
   refine AWP.mid (fun e st H=>(e=.normal∧∃ z,y=(.inl z)∧st=[]∧H=[.cells (Zo b.2.2),bf 1 53 Zj z true])∨(e=.ret∧∃ r,y=(.inr r)∧Zi3 r e st H)) ?_ ?_
   ·clear hF
    refine AWP.share (s:=1) (t:=53) (xs:=List.map Zj d) (sh:=false) (H':=[.cells (Zo b.2.2),bf 1 53 Zj d true]) 1 (by kernel_rfl) (by kernel_rfl) ?_
    refine AWP.kp [11,61,62] 2 ?_
    refine AWP.bround (fun n st H=>∃ c,∃ a,Zb6 d n c a=some y∧st=[(11,(.own 1 (List.length c))),(61,(i64 (List.length d:Int))),(62,(i64 a))]∧H=[.cells (Zo b.2.2),bf 1 53 Zj c true]) fuel ⟨d,(0:Int),c5,by kernel_rfl,by kernel_rfl⟩ ?_
    rintro a0 st H ⟨c,a,hF,rfl,rfl⟩
    cases a0 with
    | zero=>exact noneb hF
    | succ a0=>
     rw [Zb6] at hF
     refine AWP.seq (AWP.rg0 [] [(11,(.own 1 (List.length c))),(61,(i64 (List.length d:Int))),(62,(i64 a)),(63,(vb (decide (a<(List.length d:Int)))))] (AWP.seq ?_))
     refine AWP.cif hF (fun c6 hF=>?_) (fun c6 hF=>?_)
     ·refine AWP.skip (AWP.seq (AWP.block (AWP.seq (AWP.rg0 [] [(11,(.own 1 (List.length c))),(14,(i64 a)),(61,(i64 (List.length d:Int))),(62,(i64 a))] (AWP.seq ?_)))))
      obtain⟨c7,hF⟩:=chkb hF
      refine AWP.rg0 [(2,.slice Zj c c7),(3,.len Zj (List.drop (Int.toNat (0:Int)) (List.take (Int.toNat a) c)))] [(11,(.own 1 (List.length c))),(14,(i64 a)),(61,(i64 (List.length d:Int))),(62,(i64 a)),(67,(slc 1 Zj (List.drop (Int.toNat (0:Int)) (List.take (Int.toNat a) c)))),(68,(i64 (List.length (List.drop (Int.toNat (0:Int)) (List.take (Int.toNat a) c)):Int))),(69,(i64 (0:Int)))] ?_
      obtain⟨a1,c8,hF⟩:=bindb hF
      refine AWP.mid (fun e st H=>(e=.normal∧a1=(.inl ())∧st=[(11,(.own 1 (List.length c))),(61,(i64 (List.length d:Int))),(62,(i64 a))]∧H=[.cells (Zo b.2.2),bf 1 53 Zj c true])∨(e=.ret∧∃ r,a1=(.inr r)∧Zi3 r e st H)) ?_ ?_
      ·clear hF
       refine AWP.kp [11,14,61,62,67,68,69] 2 ?_
       refine AWP.bround (fun n st H=>∃ i,Zb5 c a n i=some a1∧st=[(11,(.own 1 (List.length c))),(14,(i64 a)),(61,(i64 (List.length d:Int))),(62,(i64 a)),(67,(slc 1 Zj (List.drop (Int.toNat (0:Int)) (List.take (Int.toNat a) c)))),(68,(i64 (List.length (List.drop (Int.toNat (0:Int)) (List.take (Int.toNat a) c)):Int))),(69,(i64 i))]∧H=[.cells (Zo b.2.2),bf 1 53 Zj c true]) fuel ⟨(0:Int),c8,by kernel_rfl,by kernel_rfl⟩ ?_
       rintro a2 st H ⟨i,hF,rfl,rfl⟩
       cases a2 with
       | zero=>exact noneb hF
       | succ a2=>
        rw [Zb5] at hF
        refine AWP.seq (AWP.rg0 [] [(11,(.own 1 (List.length c))),(14,(i64 a)),(61,(i64 (List.length d:Int))),(62,(i64 a)),(67,(slc 1 Zj (List.drop (Int.toNat (0:Int)) (List.take (Int.toNat a) c)))),(68,(i64 (List.length (List.drop (Int.toNat (0:Int)) (List.take (Int.toNat a) c)):Int))),(69,(i64 i)),(70,(vb (decide (i<(List.length (List.drop (Int.toNat (0:Int)) (List.take (Int.toNat a) c)):Int)))))] (AWP.seq ?_))
        refine AWP.cif hF (fun c9 hF=>?_) (fun c9 hF=>?_)
        ·refine AWP.skip (AWP.seq (AWP.block (AWP.seq ?_)))
         obtain⟨a5,d0,hF⟩:=bindb hF
         refine AWP.rg0 [(0,.idx Zj d0)] [(11,(.own 1 (List.length c))),(14,(i64 a)),(16,(slc 10 Za a5)),(61,(i64 (List.length d:Int))),(62,(i64 a)),(67,(slc 1 Zj (List.drop (Int.toNat (0:Int)) (List.take (Int.toNat a) c)))),(68,(i64 (List.length (List.drop (Int.toNat (0:Int)) (List.take (Int.toNat a) c)):Int))),(69,(i64 i))] (AWP.seq ?_)
         obtain⟨d1,a6,hF⟩:=bindb hF
         obtain⟨o,d2,hF⟩:=bindb hF
         refine AWP.rg0 [(2,.idx Zj a6),(3,.ldE Zj a6),(5,.call Tryd.func44 [] (Zh3 d1 a5 o d2))] [(11,(.own 1 (List.length c))),(14,(i64 a)),(17,(slc 10 Za o.1)),(18,(i64 o.2)),(61,(i64 (List.length d:Int))),(62,(i64 a)),(67,(slc 1 Zj (List.drop (Int.toNat (0:Int)) (List.take (Int.toNat a) c)))),(68,(i64 (List.length (List.drop (Int.toNat (0:Int)) (List.take (Int.toNat a) c)):Int))),(69,(i64 i))] (AWP.seq ?_)
         obtain⟨a7,q,hF⟩:=bindb hF
         replace q:=someb q
         refine AWP.to [(11,(.own 1 (List.length c))),(14,(i64 a)),(61,(i64 (List.length d:Int))),(62,(i64 a)),(67,(slc 1 Zj (List.drop (Int.toNat (0:Int)) (List.take (Int.toNat a) c)))),(68,(i64 (List.length (List.drop (Int.toNat (0:Int)) (List.take (Int.toNat a) c)):Int))),(69,(i64 i)),(88,(vb (a7 || (decide ((List.length o.1:Int) > (0:Int))))))] [.cells (Zo b.2.2),bf 1 53 Zj c true] ?_ ?_
         ·cases a7 with
          | false=>
           exact AWP.rgT [(2,.bool q),(4,.len Za o.1)]
          | true=>
           exact AWP.rgT [(2,.bool q)]
         refine AWP.cif hF (fun d3 hF=>?_) (fun d3 hF=>?_)
         ·refine AWP.seq (AWP.rg0 [] [(4,(vb false)),(5,(i64 (0:Int)))] (AWP.ret ?_))
          exact LeQ.of (.inr ⟨rfl,(false,(0:Int)),(someb hF).symm,(FnQ.f0 0 (.inr rfl))⟩)
         ·refine AWP.skip (AWP.rg0 [] [(11,(.own 1 (List.length c))),(14,(i64 a)),(61,(i64 (List.length d:Int))),(62,(i64 a)),(67,(slc 1 Zj (List.drop (Int.toNat (0:Int)) (List.take (Int.toNat a) c)))),(68,(i64 (List.length (List.drop (Int.toNat (0:Int)) (List.take (Int.toNat a) c)):Int))),(69,(i64 (ZI (i + (1:Int)))))] (LeQ.start (LeQ.pk [11,14,61,62,67,68,69] 2 ?_)))
          exact⟨a2,Nat.lt_succ_self _,(ZI (i + (1:Int))),hF,by kernel_rfl,by kernel_rfl⟩
        ·refine AWP.exit (LeQ.start (LeQ.pk [11,61,62] 2 ?_))
         exact(.inl ⟨rfl,(someb hF).symm,by kernel_rfl,by kernel_rfl⟩)
      ·rintro _ _ _ (⟨rfl,rfl,rfl,rfl⟩ | ⟨rfl,d4,rfl,hq⟩)
       ·refine AWP.rg0 [] [(11,(.own 1 (List.length c))),(61,(i64 (List.length d:Int))),(62,(i64 (ZI (a + (1:Int)))))] (LeQ.start (LeQ.pk [11,61,62] 2 ?_))
        exact⟨a0,Nat.lt_succ_self _,c,(ZI (a + (1:Int))),hF,by kernel_rfl,by kernel_rfl⟩
       ·exact LeQ.of (.inr ⟨rfl,d4,(someb hF).symm,hq⟩)
     ·refine AWP.exit (LeQ.start (LeQ.pk [] 2 ?_))
      exact(.inl ⟨rfl,c,(someb hF).symm,by kernel_rfl,by kernel_rfl⟩)
   ·rintro _ _ _ (⟨rfl,z,rfl,rfl,rfl⟩ | ⟨rfl,d5,rfl,hq⟩)
    ·refine AWP.seq (AWP.rg0 [] [(4,(vb true)),(5,(i64 (0:Int)))] (AWP.ret ?_))
     have hr:=someb hF
     subst hr
     exact(FnQ.f0 0 (.inr rfl))
    ·have hr:=someb hF
     subst hr
     exact hq
def Zq0 (r:ZL):PV→List Blk→Prop:=fun p K=>p=(slc 10 Za r)∧K=[]
theorem Zlo (a:(List Zk)) (r:ZL) (hF:Zfk a=some r):ACall Tryd.prog glob 12 [(slc 20 Zh a)] [] (Zq0 r):=by
 refine ACall.body Tryd.func12 rfl (by kernel_rfl) ?_
 unfold Zfk at hF
 refine AWP.seq (AWP.rg0 [] [(0,(slc 20 Zh a))] (AWP.seq (AWP.rg0 [] [(0,(slc 20 Zh a)),(3,nils)] ?_)))
 refine AWP.own (H':=[bf 10 50 Za ([]:ZL) false]) (st':=[(3,(.own 0 (List.length ([]:ZL)))),(0,(slc 20 Zh a))]) 3 10 50 (by kernel_rfl) (by kernel_rfl) (by kernel_rfl) ?_
 refine AWP.pick (st':=[(0,(slc 20 Zh a)),(3,(.own 0 (List.length ([]:ZL))))]) (ks:=[0,3]) (by kernel_rfl) ?_
 refine AWP.seq (AWP.seq (AWP.rg0 [] [(0,(slc 20 Zh a)),(3,(.own 0 (List.length ([]:ZL)))),(4,(i64 (0:Int)))] ?_))
 obtain⟨d,k,hF⟩:=bindb hF
 refine AWP.mid (fun e st H=>e=.normal∧st=[(3,(.own 0 (List.length d)))]∧H=[bf 10 50 Za d false]) ?_ ?_
 ·clear hF
  refine AWP.kp [0,3,4] 1 ?_
  refine AWP.bround (fun n st H=>∃ b,∃ c,Zdp a n b c=some d∧st=[(0,(slc 20 Zh a)),(3,(.own 0 (List.length b))),(4,(i64 c))]∧H=[bf 10 50 Za b false]) fuel ⟨([]:ZL),(0:Int),k,by kernel_rfl,by kernel_rfl⟩ ?_
  rintro j st H ⟨b,c,hF,rfl,rfl⟩
  cases j with
  | zero=>exact noneb hF
  | succ j=>
   rw [Zdp] at hF
   refine AWP.seq (AWP.seq (AWP.rg0 [(2,.len Zh a)] [(0,(slc 20 Zh a)),(3,(.own 0 (List.length b))),(4,(i64 c)),(8,(vb (decide (c<(List.length a:Int)))))] ?_))
   refine AWP.cif hF (fun m hF=>?_) (fun m hF=>?_)
   ·refine AWP.skip (AWP.seq (AWP.block ?_))
    obtain⟨f,o,hF⟩:=bindb hF
    obtain⟨g,p,hF⟩:=bindb hF
    obtain⟨q,hF⟩:=chkb hF
    refine AWP.dr [(3,.idx Zh o),(8,.idx Zh p),(12,.app Za (fun _=>by kernel_rfl) q)] 13 [] [12] [] [(0,(slc 20 Zh a)),(3,(.own 0 (List.length (b++[f.From,g.To])))),(4,(i64 c))] [bf 10 50 Za (b++[f.From,g.To]) false] (AWP.rg0 [] [(0,(slc 20 Zh a)),(3,(.own 0 (List.length (b++[f.From,g.To])))),(4,(i64 (ZI (c + (1:Int)))))] (LeQ.start (LeQ.pk [0,3,4] 1 ?_)))
    exact⟨j,Nat.lt_succ_self _,(b++[f.From,g.To]),(ZI (c + (1:Int))),hF,by kernel_rfl,by kernel_rfl⟩
   ·refine AWP.exit (LeQ.start (LeQ.pk [3] 1 ?_))
    have hr:=someb hF
    subst hr
    exact⟨rfl,by kernel_rfl,by kernel_rfl⟩
 ·rintro _ _ _ ⟨rfl,rfl,rfl⟩
  refine AWP.seq (AWP.rg0 [] [(2,(.own 0 (List.length d)))] (AWP.ret ?_))
  have hr:=someb hF
  subst hr
  exact(FnQ.f1 0 (.inr rfl) (.inl (Wk.ownT (i:=0) (s:=10) (t:=50) (l:=d) (sh:=false) (row:=Za) (by kernel_rfl) (.inl rfl))))
def Zl1 (r:(Zm × Ze)):PV→List Blk→Prop:=fun p K=>p=(Zax r.1)∧K=[.cells (Zf r.2)]
theorem Zl2 (a:Ze) (r:(Zm × Ze)) (hF:Zeg a=some r):ACall Tryd.prog glob 29 [(.ptr 0 0)] [.cells (Zf a)] (Zl1 r):=by
 refine ACall.body Tryd.func29 rfl (by kernel_rfl) ?_
 unfold Zeg at hF
 refine AWP.seq (AWP.rg [] [(0,(.ptr 0 0)),(2,(.ptr 1 0))] [.cells (Zf a),.cells (Zi Za0)] (AWP.seq ?_))
 obtain⟨b,i,hF⟩:=bindb hF
 obtain⟨c,j,hF⟩:=bindb hF
 obtain⟨g,k,hF⟩:=bindb hF
 obtain⟨l,m,hF⟩:=bindb hF
 obtain⟨d,n,hF⟩:=bindb hF
 obtain⟨f,o,hF⟩:=bindb hF
 refine AWP.dr [(1,.call Tryd.func58 [] (Ze1 a b i)),(3,.call Tryd.func58 [] (Ze1 b.2 c j)),(6,.call Tryd.func18 [] (Zv c.2 (6:Int) g k)),(7,.idx Zvq m),(10,.call Tryd.func53 [] (Zdm g.2 (65535:Int) d n)),(13,.call Tryd.func53 [] (Zdm d.2 (65535:Int) f o))] 16 [] [1,3,6,10,13] [] [(2,(.ptr 1 0))] [.cells (Zf f.2),.cells (Zi (Zm.mk b.1 c.1 l (IntKind.wrap .u16 d.1) (IntKind.wrap .u16 f.1)))] (AWP.ret ?_)
 have hr:=someb hF
 subst hr
 exact(FnQ.f0 1 (.inr rfl))
def Zo8 (r:Zm):PV→List Blk→Prop:=fun p K=>p=(Zax r)∧K=[]
theorem Zo9 (a:(Arr5 Int)) (r:Zm) (hF:Zfn a=some r):ACall Tryd.prog glob 31 [(Zfi a)] [] (Zo8 r):=by
 refine ACall.body Tryd.func31 rfl (by kernel_rfl) ?_
 unfold Zfn at hF
 refine AWP.seq (AWP.rg [] [(1,(.ptr 0 0)),(2,(.ptr 1 0))] [.cells (Zag a),.cells (Zi Za0)] (AWP.seq (AWP.rg [] [(2,(.ptr 1 0))] [.cells (Zag a),.cells (Zi (Zm.mk a.x0 a.x1 (IntKind.wrap .u8 a.x2) (IntKind.wrap .u16 a.x3) (IntKind.wrap .u16 a.x4)))] (AWP.ret ?_))))
 have hr:=someb hF
 subst hr
 exact(FnQ.f0 0 (.inr rfl))
def Zm3 (r:(Zm × Ze)):PV→List Blk→Prop:=fun p K=>p=(Zax r.1)∧K=[.cells (Zf r.2)]
theorem Zjj (k:Ze) (f:ZL) (r:(Zm × Ze)) (hF:Zd5 k f=some r):ACall Tryd.prog glob 11 [(.ptr 0 0),(slc 10 Za f)] [.cells (Zf k)] (Zm3 r):=by
 refine ACall.body Tryd.func11 rfl (by kernel_rfl) ?_
 unfold Zd5 at hF
 refine AWP.seq (AWP.rg [] [(0,(.ptr 0 0)),(1,(slc 10 Za f)),(4,(.ptr 1 0))] [.cells (Zf k),.cells (Zi Za0)] (AWP.seq (AWP.seq ?_)))
 obtain⟨a8,l,hF⟩:=bindb hF
 replace l:=someb l
 obtain⟨m,v,hF⟩:=bindb hF
 refine AWP.to [(0,(.ptr 0 0)),(1,(slc 10 Za f)),(4,(.ptr 1 0)),(15,(vb m.1))] [.cells (Zf m.2),.cells (Zi Za0)] ?_ ?_
 ·cases a8 with
  | false=>
   have g:=ifF v rfl
   obtain⟨a9,b0,g⟩:=bindb g
   replace g:=someb g
   subst g
   exact AWP.rgT [(1,.len Za f),(3,.bool l),(5,.call Tryd.func18 [] (Zv k (4:Int) a9 b0))]
  | true=>
   have b1:=someb (ifT v rfl)
   subst b1
   exact AWP.rgT [(1,.len Za f),(3,.bool l)]
 refine AWP.cif hF (fun b2 hF=>?_) (fun b2 hF=>?_)
 ·refine AWP.seq ?_
  obtain⟨t,b3,hF⟩:=bindb hF
  refine AWP.rg [(1,.call Tryd.func29 [] (Zl2 m.2 t b3))] [(4,(.ptr 1 0))] [.cells (Zf t.2),.cells (Zi t.1)] (AWP.ret ?_)
  have hr:=someb hF
  subst hr
  exact(FnQ.f0 1 (.inr rfl))
 ·refine AWP.skip (AWP.seq ?_)
  obtain⟨o,b4,hF⟩:=bindb hF
  obtain⟨b,b5,hF⟩:=bindb hF
  refine AWP.rg [(3,.len Za f),(4,.call Tryd.func18 [] (Zv m.2 (List.length f:Int) o b4)),(5,.idx Za b5)] [(0,(.ptr 0 0)),(4,(.ptr 1 0)),(5,(.ptr 2 0))] [.cells (Zf o.2),.cells (Zi Za0),.cells (Za b)] (AWP.seq (AWP.rg [] [(0,(.ptr 0 0)),(4,(.ptr 1 0)),(5,(.ptr 2 0)),(6,(.ptr 3 0))] [.cells (Zf o.2),.cells (Zi Za0),.cells (Za b),.cells (Zag Zhu)] (AWP.seq (AWP.seq (AWP.rg0 [] [(0,(.ptr 0 0)),(4,(.ptr 1 0)),(5,(.ptr 2 0)),(6,(.ptr 3 0)),(7,(i64 (0:Int)))] ?_)))))
  obtain⟨w,b6,hF⟩:=bindb hF
  refine AWP.mid (fun e st H=>(e=.normal∧∃ p,∃ i,w=(p,i)∧st=[(4,(.ptr 1 0)),(6,(.ptr 3 0))]∧H=[.cells (Zf p),.cells (Zi Za0),.cells (Za b),.cells (Zag i)])) ?_ ?_
  ·clear hF
   refine AWP.kp [0,4,5,6,7] 4 ?_
   refine AWP.bround (fun n st H=>∃ j,∃ c,∃ a,Zbl b n j c a=some w∧st=[(0,(.ptr 0 0)),(4,(.ptr 1 0)),(5,(.ptr 2 0)),(6,(.ptr 3 0)),(7,(i64 a))]∧H=[.cells (Zf j),.cells (Zi Za0),.cells (Za b),.cells (Zag c)]) fuel ⟨o.2,Zhu,(0:Int),b6,by kernel_rfl,by kernel_rfl⟩ ?_
   rintro u st H ⟨j,c,a,hF,rfl,rfl⟩
   cases u with
   | zero=>exact noneb hF
   | succ u=>
    rw [Zbl] at hF
    refine AWP.seq (AWP.seq (AWP.rg0 [] [(0,(.ptr 0 0)),(4,(.ptr 1 0)),(5,(.ptr 2 0)),(6,(.ptr 3 0)),(7,(i64 a)),(26,(vb (decide (a<(5:Int)))))] ?_))
    refine AWP.cif hF (fun b7 hF=>?_) (fun b7 hF=>?_)
    ·refine AWP.skip (AWP.seq (AWP.block (AWP.seq ?_)))
     obtain⟨x,hF⟩:=chkb hF
     obtain⟨y,hF⟩:=chkb hF
     obtain⟨z,hF⟩:=chkb hF
     obtain⟨a0,hF⟩:=chkb hF
     obtain⟨a1,hF⟩:=chkb hF
     obtain⟨a2,hF⟩:=chkb hF
     obtain⟨a3,hF⟩:=chkb hF
     obtain⟨q,b8,hF⟩:=bindb hF
     obtain⟨d,b9,hF⟩:=bindb hF
     obtain⟨a4,hF⟩:=chkb hF
     refine AWP.dr [(2,.ixd x),(4,.ldA Zl (Arr5.get b) 0 2 0 x),(6,.ixd y),(8,.ldA Zl (Arr5.get b) 0 2 1 y),(10,.ixd z),(12,.ldA Zl (Arr5.get b) 0 2 0 z),(15,.ixd a0),(17,.ldA Zl (Arr5.get b) 0 2 1 a0),(20,.ixd a1),(22,.ldA Zl (Arr5.get b) 0 2 0 a1),(24,.ixd a2),(26,.ldA Zl (Arr5.get b) 0 2 1 a2),(28,.ixd a3),(30,.ldA Zl (Arr5.get b) 0 2 0 a3),(36,.call Tryd.func18 [] (Zv j (5:Int) q b8)),(37,.idx Zdl b9),(39,.ixd a4),(40,.stA (fun c0=>Zag (Arr5.set c c0 d)) 0 1 0 a4)] 39 [] [36] [] [(0,(.ptr 0 0)),(4,(.ptr 1 0)),(5,(.ptr 2 0)),(6,(.ptr 3 0)),(7,(i64 a))] [.cells (Zf q.2),.cells (Zi Za0),.cells (Za b),.cells (Zag (Arr5.set c a d))] ?_
     obtain⟨a5,hF⟩:=chkb hF
     obtain⟨s,c1,hF⟩:=bindb hF
     obtain⟨a6,hF⟩:=chkb hF
     refine AWP.dr [(2,.ixd a5),(3,.ldA Zdl (Arr5.get (Arr5.set c a d)) 0 1 0 a5),(5,.call Tryd.func30 [] (Zjr a s c1)),(7,.ixd a6),(8,.stA (fun c2=>Zag (Arr5.set (Arr5.set c a d) c2 (iMin (Arr5.get (Arr5.set c a d) a) s))) 0 1 0 a6)] 7 [] [] [] [(0,(.ptr 0 0)),(4,(.ptr 1 0)),(5,(.ptr 2 0)),(6,(.ptr 3 0)),(7,(i64 a))] [.cells (Zf q.2),.cells (Zi Za0),.cells (Za b),.cells (Zag (Arr5.set (Arr5.set c a d) a (iMin (Arr5.get (Arr5.set c a d) a) s)))] (AWP.rg0 [] [(0,(.ptr 0 0)),(4,(.ptr 1 0)),(5,(.ptr 2 0)),(6,(.ptr 3 0)),(7,(i64 (ZI (a + (1:Int)))))] (LeQ.start (LeQ.pk [0,4,5,6,7] 4 ?_)))
     exact⟨u,Nat.lt_succ_self _,q.2,(Arr5.set (Arr5.set c a d) a (iMin (Arr5.get (Arr5.set c a d) a) s)),(ZI (a + (1:Int))),hF,by kernel_rfl,by kernel_rfl⟩
    ·refine AWP.exit (LeQ.start (LeQ.pk [4,6] 4 ?_))
     exact⟨rfl,j,c,(someb hF).symm,by kernel_rfl,by kernel_rfl⟩
  ·rintro _ _ _ ⟨rfl,p,i,rfl,rfl,rfl⟩
   refine AWP.seq ?_
   obtain⟨a7,c3,hF⟩:=bindb hF
   refine AWP.rg [(1,.call Tryd.func31 [] (Zo9 i a7 c3))] [(4,(.ptr 1 0))] [.cells (Zf p),.cells (Zi a7),.cells (Za b),.cells (Zag i)] (AWP.ret ?_)
   have hr:=someb hF
   subst hr
   exact(FnQ.f0 1 (.inr rfl))
def Zp8 (r:(Arr5 Int)):PV→List Blk→Prop:=fun p K=>p=(Zfi r)∧K=[]
theorem Zkx (a:Zm) (r:(Arr5 Int)) (hF:Ze6 a=some r):ACall Tryd.prog glob 47 [(Zax a)] [] (Zp8 r):=by
 refine ACall.body Tryd.func47 rfl (by kernel_rfl) ?_
 unfold Ze6 at hF
 refine AWP.seq (AWP.rg [] [(1,(.ptr 0 0)),(2,(.ptr 1 0))] [.cells (Zi a),.cells (Zag Zhu)] (AWP.seq (AWP.rg [] [(2,(.ptr 1 0))] [.cells (Zi a),.cells (Zag (Arr5.mk a.Src a.Dst (IntKind.wrap .u32 a.Proto) (IntKind.wrap .u32 a.SrcPort) (IntKind.wrap .u32 a.DstPort)))] (AWP.ret ?_))))
 have hr:=someb hF
 subst hr
 exact(FnQ.f0 0 (.inr rfl))
end Go.AM
set_option maxRecDepth 100000
namespace Go.AM
open Go Go.Proofs
def Zky (r:Bool):PV→List Blk→Prop:=fun p K=>p=(vb r)∧K=[]
abbrev Zp9 (r:Bool):Exit→St→List Blk→Prop:=FnQ Tryd.prog Tryd.f56.results 0 (Zky r)
theorem Zqa (a:ZB) (r:Bool) (hF:Zf1 a=some r):ACall Tryd.prog glob 56 [(Zt a)] [] (Zky r):=by
 refine ACall.body Tryd.func56 rfl (by kernel_rfl) ?_
 unfold Zf1 at hF
 refine AWP.seq (AWP.rg [] [(1,(.ptr 0 0))] [.cells (Za a)] (AWP.seq (AWP.seq (AWP.rg0 [] [(1,(.ptr 0 0)),(3,(i64 (0:Int)))] ?_))))
 obtain⟨i,m,hF⟩:=bindb hF
 refine AWP.mid (fun e st H=>(e=.normal∧i=(.inl ())∧st=[]∧H=[.cells (Za a)])∨(e=.ret∧∃ r,i=(.inr r)∧Zp9 r e st H)) ?_ ?_
 ·clear hF
  refine AWP.kp [1,3] 1 ?_
  refine AWP.bround (fun n st H=>∃ b,Zaa a n b=some i∧st=[(1,(.ptr 0 0)),(3,(i64 b))]∧H=[.cells (Za a)]) fuel ⟨(0:Int),m,by kernel_rfl,by kernel_rfl⟩ ?_
  rintro j st H ⟨b,hF,rfl,rfl⟩
  cases j with
  | zero=>exact noneb hF
  | succ j=>
   rw [Zaa] at hF
   refine AWP.seq (AWP.seq (AWP.rg0 [] [(1,(.ptr 0 0)),(3,(i64 b)),(5,(vb (decide (b<(5:Int)))))] ?_))
   refine AWP.cif hF (fun o hF=>?_) (fun o hF=>?_)
   ·refine AWP.skip (AWP.seq (AWP.block (AWP.seq ?_)))
    obtain⟨d,hF⟩:=chkb hF
    obtain⟨f,hF⟩:=chkb hF
    obtain⟨p,g,hF⟩:=bindb hF
    replace g:=someb g
    obtain⟨q,k,hF⟩:=bindb hF
    refine AWP.to [(1,(.ptr 0 0)),(3,(i64 b)),(25,(vb q))] [.cells (Za a)] ?_ ?_
    ·cases p with
     | false=>
      have c:=ifF k rfl
      obtain⟨l,c⟩:=chkb c
      obtain⟨s,t,c⟩:=bindb c
      replace c:=someb c
      subst c
      exact AWP.drT [(1,.ixd d),(3,.ldA Zl (Arr5.get a) 0 2 0 d),(5,.ixd f),(7,.ldA Zl (Arr5.get a) 0 2 1 f),(9,.bool g),(11,.ixd l),(13,.ldA Zl (Arr5.get a) 0 2 1 l),(15,.call Tryd.func30 [] (Zjr b s t))] 18 [] [] []
     | true=>
      have u:=someb (ifT k rfl)
      subst u
      exact AWP.drT [(1,.ixd d),(3,.ldA Zl (Arr5.get a) 0 2 0 d),(5,.ixd f),(7,.ldA Zl (Arr5.get a) 0 2 1 f),(9,.bool g)] 18 [] [] []
    refine AWP.cif hF (fun v hF=>?_) (fun v hF=>?_)
    ·refine AWP.seq (AWP.rg0 [] [(2,(vb false))] (AWP.ret ?_))
     exact LeQ.of (.inr ⟨rfl,false,(someb hF).symm,(FnQ.f0 0 (.inr rfl))⟩)
    ·refine AWP.skip (AWP.rg0 [] [(1,(.ptr 0 0)),(3,(i64 (ZI (b + (1:Int)))))] (LeQ.start (LeQ.pk [1,3] 1 ?_)))
     exact⟨j,Nat.lt_succ_self _,(ZI (b + (1:Int))),hF,by kernel_rfl,by kernel_rfl⟩
   ·refine AWP.exit (LeQ.start (LeQ.pk [] 1 ?_))
    exact(.inl ⟨rfl,(someb hF).symm,by kernel_rfl,by kernel_rfl⟩)
 ·rintro _ _ _ (⟨rfl,rfl,rfl,rfl⟩ | ⟨rfl,w,rfl,hq⟩)
  ·refine AWP.seq (AWP.rg0 [] [(2,(vb true))] (AWP.ret ?_))
   have hr:=someb hF
   subst hr
   exact(FnQ.f0 0 (.inr rfl))
  ·have hr:=someb hF
   subst hr
   exact hq
def Zjk (r:Bool):PV→List Blk→Prop:=fun p K=>p=(vb r)∧K=[]
abbrev Zm4 (r:Bool):Exit→St→List Blk→Prop:=FnQ Tryd.prog Tryd.f46.results 0 (Zjk r)
theorem Zm5 (a:ZB) (c:Zm) (r:Bool) (hF:Ze0 a c=some r):ACall Tryd.prog glob 46 [(Zt a),(Zax c)] [] (Zjk r):=by
 refine ACall.body Tryd.func46 rfl (by kernel_rfl) ?_
 unfold Ze0 at hF
 refine AWP.seq (AWP.rg [] [(2,(.ptr 0 0)),(3,(.ptr 1 0))] [.cells (Za a),.cells (Zi c)] (AWP.seq ?_))
 obtain⟨b,s,hF⟩:=bindb hF
 refine AWP.rg [(1,.call Tryd.func47 [] (Zkx c b s))] [(2,(.ptr 0 0)),(5,(.ptr 2 0))] [.cells (Za a),.cells (Zi c),.cells (Zag b)] (AWP.seq (AWP.seq (AWP.rg0 [] [(2,(.ptr 0 0)),(5,(.ptr 2 0)),(6,(i64 (0:Int)))] ?_)))
 obtain⟨k,t,hF⟩:=bindb hF
 refine AWP.mid (fun e st H=>(e=.normal∧k=(.inl ())∧st=[(2,(.ptr 0 0))]∧H=[.cells (Za a),.cells (Zi c),.cells (Zag b)])∨(e=.ret∧∃ r,k=(.inr r)∧Zm4 r e st H)) ?_ ?_
 ·clear hF
  refine AWP.kp [2,5,6] 3 ?_
  refine AWP.bround (fun n st H=>∃ d,Zcc a b n d=some k∧st=[(2,(.ptr 0 0)),(5,(.ptr 2 0)),(6,(i64 d))]∧H=[.cells (Za a),.cells (Zi c),.cells (Zag b)]) fuel ⟨(0:Int),t,by kernel_rfl,by kernel_rfl⟩ ?_
  rintro l st H ⟨d,hF,rfl,rfl⟩
  cases l with
  | zero=>exact noneb hF
  | succ l=>
   rw [Zcc] at hF
   refine AWP.seq (AWP.seq (AWP.rg0 [] [(2,(.ptr 0 0)),(5,(.ptr 2 0)),(6,(i64 d)),(10,(vb (decide (d<(5:Int)))))] ?_))
   refine AWP.cif hF (fun u hF=>?_) (fun u hF=>?_)
   ·refine AWP.skip (AWP.seq (AWP.block (AWP.seq ?_)))
    obtain⟨g,hF⟩:=chkb hF
    obtain⟨i,hF⟩:=chkb hF
    obtain⟨v,j,hF⟩:=bindb hF
    replace j:=someb j
    obtain⟨w,m,hF⟩:=bindb hF
    refine AWP.to [(2,(.ptr 0 0)),(5,(.ptr 2 0)),(6,(i64 d)),(30,(vb w))] [.cells (Za a),.cells (Zi c),.cells (Zag b)] ?_ ?_
    ·cases v with
     | false=>
      have f:=ifF m rfl
      obtain⟨o,f⟩:=chkb f
      obtain⟨p,f⟩:=chkb f
      replace f:=someb f
      subst f
      exact AWP.drT [(1,.ixd g),(2,.ldA Zdl (Arr5.get b) 0 1 0 g),(4,.ixd i),(6,.ldA Zl (Arr5.get a) 0 2 0 i),(8,.bool j),(10,.ixd o),(11,.ldA Zdl (Arr5.get b) 0 1 0 o),(13,.ixd p),(15,.ldA Zl (Arr5.get a) 0 2 1 p)] 18 [] [] []
     | true=>
      have x:=someb (ifT m rfl)
      subst x
      exact AWP.drT [(1,.ixd g),(2,.ldA Zdl (Arr5.get b) 0 1 0 g),(4,.ixd i),(6,.ldA Zl (Arr5.get a) 0 2 0 i),(8,.bool j)] 18 [] [] []
    refine AWP.cif hF (fun y hF=>?_) (fun y hF=>?_)
    ·refine AWP.seq (AWP.rg0 [] [(4,(vb false))] (AWP.ret ?_))
     exact LeQ.of (.inr ⟨rfl,false,(someb hF).symm,(FnQ.f0 0 (.inr rfl))⟩)
    ·refine AWP.skip (AWP.rg0 [] [(2,(.ptr 0 0)),(5,(.ptr 2 0)),(6,(i64 (ZI (d + (1:Int)))))] (LeQ.start (LeQ.pk [2,5,6] 3 ?_)))
     exact⟨l,Nat.lt_succ_self _,(ZI (d + (1:Int))),hF,by kernel_rfl,by kernel_rfl⟩
   ·refine AWP.exit (LeQ.start (LeQ.pk [2] 3 ?_))
    exact(.inl ⟨rfl,(someb hF).symm,by kernel_rfl,by kernel_rfl⟩)
 ·rintro _ _ _ (⟨rfl,rfl,rfl,rfl⟩ | ⟨rfl,a0,rfl,hq⟩)
  ·refine AWP.seq ?_
   obtain⟨q,z,hF⟩:=bindb hF
   refine AWP.rg0 [(1,.call Tryd.func56 [] (Zqa a q z))] [(4,(vb q))] (AWP.ret ?_)
   have hr:=someb hF
   subst hr
   exact(FnQ.f0 0 (.inr rfl))
  ·have hr:=someb hF
   subst hr
   exact hq
def Zjl (r:Bool):PV→List Blk→Prop:=fun p K=>p=(vb r)∧K=[]
abbrev Zm6 (r:Bool):Exit→St→List Blk→Prop:=FnQ Tryd.prog Tryd.f19.results 0 (Zjl r)
theorem Zco (a:ZL) (b:Zm) (r:Bool) (hF:Zd7 a b=some r):ACall Tryd.prog glob 19 [(slc 10 Za a),(Zax b)] [] (Zjl r):=by
 refine ACall.body Tryd.func19 rfl (by kernel_rfl) ?_
 unfold Zd7 at hF
 refine AWP.seq (AWP.rg [] [(0,(slc 10 Za a)),(3,(.ptr 0 0))] [.cells (Zi b)] (AWP.seq (AWP.seq (AWP.rg0 [] [(0,(slc 10 Za a)),(3,(.ptr 0 0)),(5,(i64 (0:Int)))] ?_))))
 obtain⟨d,i,hF⟩:=bindb hF
 refine AWP.mid (fun e st H=>(e=.normal∧d=(.inl ())∧st=[]∧H=[.cells (Zi b)])∨(e=.ret∧∃ r,d=(.inr r)∧Zm6 r e st H)) ?_ ?_
 ·clear hF
  refine AWP.kp [0,3,5] 1 ?_
  refine AWP.bround (fun n st H=>∃ c,Zcw a b n c=some d∧st=[(0,(slc 10 Za a)),(3,(.ptr 0 0)),(5,(i64 c))]∧H=[.cells (Zi b)]) fuel ⟨(0:Int),i,by kernel_rfl,by kernel_rfl⟩ ?_
  rintro f st H ⟨c,hF,rfl,rfl⟩
  cases f with
  | zero=>exact noneb hF
  | succ f=>
   rw [Zcw] at hF
   refine AWP.seq (AWP.seq (AWP.rg0 [(2,.len Za a)] [(0,(slc 10 Za a)),(3,(.ptr 0 0)),(5,(i64 c)),(9,(vb (decide (c<(List.length a:Int)))))] ?_))
   refine AWP.cif hF (fun j hF=>?_) (fun j hF=>?_)
   ·refine AWP.skip (AWP.seq (AWP.block (AWP.seq ?_)))
    obtain⟨k,l,hF⟩:=bindb hF
    obtain⟨g,m,hF⟩:=bindb hF
    refine AWP.dr [(2,.idx Za l),(5,.call Tryd.func46 [] (Zm5 k b g m))] 6 [] [] [] [(0,(slc 10 Za a)),(3,(.ptr 0 0)),(5,(i64 c)),(17,(vb g))] [.cells (Zi b)] ?_
    refine AWP.cif hF (fun o hF=>?_) (fun o hF=>?_)
    ·refine AWP.seq (AWP.rg0 [] [(4,(vb true))] (AWP.ret ?_))
     exact LeQ.of (.inr ⟨rfl,true,(someb hF).symm,(FnQ.f0 0 (.inr rfl))⟩)
    ·refine AWP.skip (AWP.rg0 [] [(0,(slc 10 Za a)),(3,(.ptr 0 0)),(5,(i64 (ZI (c + (1:Int)))))] (LeQ.start (LeQ.pk [0,3,5] 1 ?_)))
     exact⟨f,Nat.lt_succ_self _,(ZI (c + (1:Int))),hF,by kernel_rfl,by kernel_rfl⟩
   ·refine AWP.exit (LeQ.start (LeQ.pk [] 1 ?_))
    exact(.inl ⟨rfl,(someb hF).symm,by kernel_rfl,by kernel_rfl⟩)
 ·rintro _ _ _ (⟨rfl,rfl,rfl,rfl⟩ | ⟨rfl,p,rfl,hq⟩)
  ·refine AWP.seq (AWP.rg0 [] [(4,(vb false))] (AWP.ret ?_))
   have hr:=someb hF
   subst hr
   exact(FnQ.f0 0 (.inr rfl))
  ·have hr:=someb hF
   subst hr
   exact hq
def Zsx (r:(Arr5 Int)):PV→List Blk→Prop:=fun p K=>p=(Zfi r)∧K=[]
theorem Zki (a:Zm) (r:(Arr5 Int)) (hF:Zgj a=some r):ACall Tryd.prog glob 60 [(Zax a)] [] (Zsx r):=by
 refine ACall.body Tryd.func60 rfl (by kernel_rfl) ?_
 unfold Zgj at hF
 refine AWP.seq (AWP.rg [] [(1,(.ptr 0 0)),(2,(.ptr 1 0))] [.cells (Zi a),.cells (Zag Zhu)] (AWP.seq (AWP.rg [] [(2,(.ptr 1 0))] [.cells (Zi a),.cells (Zag (Arr5.mk a.Src a.Dst (IntKind.wrap .u32 a.Proto) (IntKind.wrap .u32 a.SrcPort) (IntKind.wrap .u32 a.DstPort)))] (AWP.ret ?_))))
 have hr:=someb hF
 subst hr
 exact(FnQ.f0 0 (.inr rfl))
def Zlp (r:Bool):PV→List Blk→Prop:=fun p K=>p=(vb r)∧K=[]
abbrev Zq1 (r:Bool):Exit→St→List Blk→Prop:=FnQ Tryd.prog Tryd.f36.results 0 (Zlp r)
theorem Zq2 (a:ZB) (d:Zm) (r:Bool) (hF:Zgk a d=some r):ACall Tryd.prog glob 36 [(Zt a),(Zax d)] [] (Zlp r):=by
 refine ACall.body Tryd.func36 rfl (by kernel_rfl) ?_
 unfold Zgk at hF
 refine AWP.seq (AWP.rg [] [(2,(.ptr 0 0)),(3,(.ptr 1 0))] [.cells (Za a),.cells (Zi d)] (AWP.seq (AWP.seq ?_)))
 obtain⟨l,p,hF⟩:=bindb hF
 refine AWP.rg0 [(1,.call Tryd.func59 [] (Zgn a l p))] [(2,(.ptr 0 0)),(3,(.ptr 1 0)),(9,(vb (!l)))] ?_
 refine AWP.cif hF (fun q hF=>?_) (fun q hF=>?_)
 ·refine AWP.seq (AWP.rg0 [] [(4,(vb false))] (AWP.ret ?_))
  have hr:=someb hF
  subst hr
  exact(FnQ.f0 0 (.inr rfl))
 ·refine AWP.skip (AWP.seq (AWP.seq ?_))
  obtain⟨c,s,hF⟩:=bindb hF
  refine AWP.rg0 [(1,.call Tryd.func60 [] (Zki d c s))] [(2,(.ptr 0 0)),(11,(Zfi c)),(12,(i64 (0:Int)))] ?_
  obtain⟨j,t,hF⟩:=bindb hF
  refine AWP.mid (fun e st H=>(e=.normal∧j=(.inl ())∧st=[]∧H=[.cells (Za a),.cells (Zi d)])∨(e=.ret∧∃ r,j=(.inr r)∧Zq1 r e st H)) ?_ ?_
  ·clear hF
   refine AWP.kp [2,11,12] 2 ?_
   refine AWP.bround (fun n st H=>∃ b,Zc9 a c n b=some j∧st=[(2,(.ptr 0 0)),(11,(Zfi c)),(12,(i64 b))]∧H=[.cells (Za a),.cells (Zi d)]) fuel ⟨(0:Int),t,by kernel_rfl,by kernel_rfl⟩ ?_
   rintro k st H ⟨b,hF,rfl,rfl⟩
   cases k with
   | zero=>exact noneb hF
   | succ k=>
    rw [Zc9] at hF
    refine AWP.seq (AWP.rg0 [] [(2,(.ptr 0 0)),(11,(Zfi c)),(12,(i64 b)),(13,(vb (decide (b<(5:Int)))))] (AWP.seq ?_))
    refine AWP.cif hF (fun u hF=>?_) (fun u hF=>?_)
    ·refine AWP.skip (AWP.seq (AWP.block (AWP.seq ?_)))
     obtain⟨v,hF⟩:=chkb hF
     refine AWP.rg0 [(1,.ixA Zdl (Arr5.get c) v)] [(2,(.ptr 0 0)),(5,(i64 b)),(6,(u32 (Arr5.get c b))),(11,(Zfi c)),(12,(i64 b))] (AWP.seq ?_)
     obtain⟨g,hF⟩:=chkb hF
     obtain⟨w,i,hF⟩:=bindb hF
     replace i:=someb i
     obtain⟨x,m,hF⟩:=bindb hF
     refine AWP.to [(2,(.ptr 0 0)),(11,(Zfi c)),(12,(i64 b)),(29,(vb x))] [.cells (Za a),.cells (Zi d)] ?_ ?_
     ·cases w with
      | false=>
       have f:=ifF m rfl
       obtain⟨o,f⟩:=chkb f
       replace f:=someb f
       subst f
       exact AWP.rgT [(2,.ixd g),(4,.ldA Zl (Arr5.get a) 0 2 0 g),(6,.bool i),(9,.ixd o),(11,.ldA Zl (Arr5.get a) 0 2 1 o)]
      | true=>
       have y:=someb (ifT m rfl)
       subst y
       exact AWP.rgT [(2,.ixd g),(4,.ldA Zl (Arr5.get a) 0 2 0 g),(6,.bool i)]
     refine AWP.cif hF (fun z hF=>?_) (fun z hF=>?_)
     ·refine AWP.seq (AWP.rg0 [] [(4,(vb false))] (AWP.ret ?_))
      exact LeQ.of (.inr ⟨rfl,false,(someb hF).symm,(FnQ.f0 0 (.inr rfl))⟩)
     ·refine AWP.skip (AWP.rg0 [] [(2,(.ptr 0 0)),(11,(Zfi c)),(12,(i64 (ZI (b + (1:Int)))))] (LeQ.start (LeQ.pk [2,11,12] 2 ?_)))
      exact⟨k,Nat.lt_succ_self _,(ZI (b + (1:Int))),hF,by kernel_rfl,by kernel_rfl⟩
    ·refine AWP.exit (LeQ.start (LeQ.pk [] 2 ?_))
     exact(.inl ⟨rfl,(someb hF).symm,by kernel_rfl,by kernel_rfl⟩)
  ·rintro _ _ _ (⟨rfl,rfl,rfl,rfl⟩ | ⟨rfl,a0,rfl,hq⟩)
   ·refine AWP.seq (AWP.rg0 [] [(4,(vb true))] (AWP.ret ?_))
    have hr:=someb hF
    subst hr
    exact(FnQ.f0 0 (.inr rfl))
   ·have hr:=someb hF
    subst hr
    exact hq
def Zod (a:Zm) (r:Bool):PV→List Blk→Prop:=fun p K=>p=(vb r)∧K=[.cells (Zi a)]
theorem Zoe (a:Zk) (b:Zm) (r:Bool) (hF:Zfe a b=some r):ACall Tryd.prog glob 34 [(Zjb a),(.ptr 0 0)] [.cells (Zi b)] (Zod b r):=by
 refine ACall.body Tryd.func34 rfl (by kernel_rfl) ?_
 unfold Zfe at hF
 refine AWP.seq (AWP.rg [] [(1,(.ptr 0 0)),(2,(.ptr 1 0))] [.cells (Zi b),.cells (Zh a)] (AWP.seq ?_))
 obtain⟨f,g,hF⟩:=bindb hF
 obtain⟨j,d,hF⟩:=bindb hF
 replace d:=someb d
 obtain⟨k,i,hF⟩:=bindb hF
 refine AWP.to [(3,(vb k))] [.cells (Zi b),.cells (Zh a)] ?_ ?_
 ·cases j with
  | false=>
   have l:=someb (ifF i rfl)
   subst l
   exact AWP.rgT [(1,.call Tryd.func35 [] (Zet a f g)),(2,.bool d)]
  | true=>
   have c:=ifT i rfl
   obtain⟨m,n,c⟩:=bindb c
   replace c:=someb c
   subst c
   exact AWP.rgT [(1,.call Tryd.func35 [] (Zet a f g)),(2,.bool d),(6,.call Tryd.func36 [] (Zq2 a.From b m n))]
 refine AWP.ret ?_
 have hr:=someb hF
 subst hr
 exact(FnQ.f0 1 (.inr rfl))
def Zdk (a:Zm) (r:Int):PV→List Blk→Prop:=fun p K=>p=(i64 r)∧K=[.cells (Zi a)]
abbrev Zfs (a:Zm) (r:Int):Exit→St→List Blk→Prop:=FnQ Tryd.prog Tryd.f33.results 1 (Zdk a r)
theorem Zft (a:(List Zk)) (c:Zm) (r:Int) (hF:Zbi a c=some r):ACall Tryd.prog glob 33 [(slc 20 Zh a),(.fn 34 [(.ptr 0 0)])] [.cells (Zi c)] (Zdk c r):=by
 refine ACall.body Tryd.func33 rfl (by kernel_rfl) ?_
 unfold Zbi at hF
 refine AWP.seq (AWP.rg0 [] [(0,(slc 20 Zh a)),(1,(.fn 34 [(.ptr 0 0)]))] (AWP.seq (AWP.seq (AWP.rg0 [(1,.len Zh a)] [(0,(slc 20 Zh a)),(1,(.fn 34 [(.ptr 0 0)])),(7,(i64 (List.length a:Int))),(8,(i64 (0:Int)))] ?_))))
 obtain⟨d,i,hF⟩:=bindb hF
 refine AWP.mid (fun e st H=>(e=.normal∧d=(.inl ())∧st=[]∧H=[.cells (Zi c)])∨(e=.ret∧∃ r,d=(.inr r)∧Zfs c r e st H)) ?_ ?_
 ·clear hF
  refine AWP.kp [0,1,7,8] 1 ?_
  refine AWP.bround (fun n st H=>∃ b,Z4 a c n b=some d∧st=[(0,(slc 20 Zh a)),(1,(.fn 34 [(.ptr 0 0)])),(7,(i64 (List.length a:Int))),(8,(i64 b))]∧H=[.cells (Zi c)]) fuel ⟨(0:Int),i,by kernel_rfl,by kernel_rfl⟩ ?_
  rintro f st H ⟨b,hF,rfl,rfl⟩
  cases f with
  | zero=>exact noneb hF
  | succ f=>
   rw [Z4] at hF
   refine AWP.seq (AWP.rg0 [] [(0,(slc 20 Zh a)),(1,(.fn 34 [(.ptr 0 0)])),(7,(i64 (List.length a:Int))),(8,(i64 b)),(9,(vb (decide (b<(List.length a:Int)))))] (AWP.seq ?_))
   refine AWP.cif hF (fun j hF=>?_) (fun j hF=>?_)
   ·refine AWP.skip (AWP.seq (AWP.block (AWP.seq (AWP.rg0 [] [(0,(slc 20 Zh a)),(1,(.fn 34 [(.ptr 0 0)])),(5,(i64 b)),(7,(i64 (List.length a:Int))),(8,(i64 b))] (AWP.seq ?_)))))
    obtain⟨k,l,hF⟩:=bindb hF
    obtain⟨g,m,hF⟩:=bindb hF
    refine AWP.rg0 [(3,.idx Zh l),(5,.callF Tryd.func34 [] (Zoe k c g m))] [(0,(slc 20 Zh a)),(1,(.fn 34 [(.ptr 0 0)])),(5,(i64 b)),(7,(i64 (List.length a:Int))),(8,(i64 b)),(16,(vb g))] ?_
    refine AWP.cif hF (fun o hF=>?_) (fun o hF=>?_)
    ·refine AWP.seq (AWP.rg0 [] [(4,(i64 b))] (AWP.ret ?_))
     exact LeQ.of (.inr ⟨rfl,b,(someb hF).symm,(FnQ.f0 1 (.inr rfl))⟩)
    ·refine AWP.skip (AWP.rg0 [] [(0,(slc 20 Zh a)),(1,(.fn 34 [(.ptr 0 0)])),(7,(i64 (List.length a:Int))),(8,(i64 (ZI (b + (1:Int)))))] (LeQ.start (LeQ.pk [0,1,7,8] 1 ?_)))
     exact⟨f,Nat.lt_succ_self _,(ZI (b + (1:Int))),hF,by kernel_rfl,by kernel_rfl⟩
   ·refine AWP.exit (LeQ.start (LeQ.pk [] 1 ?_))
    exact(.inl ⟨rfl,(someb hF).symm,by kernel_rfl,by kernel_rfl⟩)
 ·rintro _ _ _ (⟨rfl,rfl,rfl,rfl⟩ | ⟨rfl,p,rfl,hq⟩)
  ·refine AWP.seq (AWP.rg0 [] [(4,(i64 (-1:Int)))] (AWP.ret ?_))
   have hr:=someb hF
   subst hr
   exact(FnQ.f0 1 (.inr rfl))
  ·have hr:=someb hF
   subst hr
   exact hq
def Zqb (r:Int):PV→List Blk→Prop:=fun p K=>p=(i64 r)∧K=[]
theorem Zqc (a:(List Zk)) (b:Zm) (r:Int) (hF:Zf2 a b=some r):ACall Tryd.prog glob 14 [(slc 20 Zh a),(Zax b)] [] (Zqb r):=by
 refine ACall.body Tryd.func14 rfl (by kernel_rfl) ?_
 unfold Zf2 at hF
 refine AWP.seq (AWP.rg [] [(0,(slc 20 Zh a)),(3,(.ptr 0 0))] [.cells (Zi b)] (AWP.seq ?_))
 obtain⟨c,d,hF⟩:=bindb hF
 refine AWP.rg0 [(1,.q),(2,.call Tryd.func33 [] (Zft a b c d))] [(4,(i64 c))] (AWP.ret ?_)
 have hr:=someb hF
 subst hr
 exact(FnQ.f0 0 (.inr rfl))
def Zt0 (r:Int):PV→List Blk→Prop:=fun p K=>p=(u32 r)∧K=[]
theorem Zt1 (b:Zm) (a:Int) (r:Int) (hF:Zhp b a=some r):ACall Tryd.prog glob 38 [(Zax b),(i64 a)] [] (Zt0 r):=by
 refine ACall.body Tryd.func38 rfl (by kernel_rfl) ?_
 unfold Zhp at hF
 refine AWP.seq (AWP.rg [] [(1,(i64 a)),(2,(.ptr 0 0))] [.cells (Zi b)] (AWP.seq (AWP.seq ?_)))
 obtain⟨f,c,hF⟩:=bindb hF
 replace c:=someb c
 refine AWP.to [(1,(i64 a)),(2,(.ptr 0 0)),(10,(vb (f || (decide (a ≥ (5:Int))))))] [.cells (Zi b)] ?_ ?_
 ·cases f with
  | false=>
   exact AWP.rgT [(2,.bool c)]
  | true=>
   exact AWP.rgT [(2,.bool c)]
 refine AWP.cif hF (fun g hF=>?_) (fun g hF=>?_)
 ·refine AWP.seq (AWP.rg0 [] [(4,(u32 (0:Int)))] (AWP.ret ?_))
  have hr:=someb hF
  subst hr
  exact(FnQ.f0 0 (.inr rfl))
 ·refine AWP.skip (AWP.seq ?_)
  obtain⟨d,i,hF⟩:=bindb hF
  obtain⟨j,hF⟩:=chkb hF
  refine AWP.rg0 [(1,.call Tryd.func60 [] (Zki b d i)),(3,.ixA Zdl (Arr5.get d) j)] [(4,(u32 (Arr5.get d a)))] (AWP.ret ?_)
  have hr:=someb hF
  subst hr
  exact(FnQ.f0 0 (.inr rfl))
def Zsy (r:Zm):PV→List Blk→Prop:=fun p K=>p=(Zax r)∧K=[]
theorem Zsz (a:(Arr5 Int)) (r:Zm) (hF:Zgy a=some r):ACall Tryd.prog glob 61 [(Zfi a)] [] (Zsy r):=by
 refine ACall.body Tryd.func61 rfl (by kernel_rfl) ?_
 unfold Zgy at hF
 refine AWP.seq (AWP.rg [] [(1,(.ptr 0 0)),(2,(.ptr 1 0))] [.cells (Zag a),.cells (Zi Za0)] (AWP.seq (AWP.rg [] [(2,(.ptr 1 0))] [.cells (Zag a),.cells (Zi (Zm.mk a.x0 a.x1 (IntKind.wrap .u8 a.x2) (IntKind.wrap .u16 a.x3) (IntKind.wrap .u16 a.x4)))] (AWP.ret ?_))))
 have hr:=someb hF
 subst hr
 exact(FnQ.f0 0 (.inr rfl))
def Zvb (r:Zm):PV→List Blk→Prop:=fun p K=>p=(Zax r)∧K=[]
theorem Zvc (a:Zm) (c:Int) (b:Int) (r:Zm) (hF:Zii a c b=some r):ACall Tryd.prog glob 37 [(Zax a),(i64 c),(u32 b)] [] (Zvb r):=by
 refine ACall.body Tryd.func37 rfl (by kernel_rfl) ?_
 unfold Zii at hF
 refine AWP.seq (AWP.rg [] [(1,(i64 c)),(2,(u32 b)),(3,(.ptr 0 0)),(6,(.ptr 1 0))] [.cells (Zi a),.cells (Zi Za0)] (AWP.seq (AWP.seq ?_)))
 obtain⟨n,f,hF⟩:=bindb hF
 replace f:=someb f
 obtain⟨o,g,hF⟩:=bindb hF
 replace g:=someb g
 obtain⟨p,j,hF⟩:=bindb hF
 refine AWP.to [(1,(i64 c)),(2,(u32 b)),(3,(.ptr 0 0)),(6,(.ptr 1 0)),(20,(vb p))] [.cells (Zi a),.cells (Zi Za0)] ?_ ?_
 ·cases n with
  | false=>
   cases o with
   | false=>
    have i:=ifF j rfl
    obtain⟨k,i⟩:=chkb i
    replace i:=someb i
    subst i
    exact AWP.rgT [(2,.bool f),(6,.bool g),(9,.ixd k),(10,.ldA Zdl (Arr5.get Zdx) 0 1 0 k)]
   | true=>
    have q:=someb (ifT j rfl)
    subst q
    exact AWP.rgT [(2,.bool f),(6,.bool g)]
  | true=>
   subst g
   have s:=someb (ifT j rfl)
   subst s
   exact AWP.rgT [(2,.bool f)]
 refine AWP.cif hF (fun t hF=>?_) (fun t hF=>?_)
 ·refine AWP.seq (AWP.rg [] [(6,(.ptr 1 0))] [.cells (Zi a),.cells (Zi a)] (AWP.ret ?_))
  have hr:=someb hF
  subst hr
  exact(FnQ.f0 0 (.inr rfl))
 ·refine AWP.skip (AWP.seq ?_)
  obtain⟨d,u,hF⟩:=bindb hF
  refine AWP.rg [(1,.call Tryd.func60 [] (Zki a d u))] [(1,(i64 c)),(2,(u32 b)),(6,(.ptr 1 0)),(7,(.ptr 2 0))] [.cells (Zi a),.cells (Zi Za0),.cells (Zag d)] (AWP.seq ?_)
  obtain⟨l,hF⟩:=chkb hF
  refine AWP.rg [(2,.ixd l),(3,.stA (fun v=>Zag (Arr5.set d v b)) 0 1 0 l)] [(6,(.ptr 1 0)),(7,(.ptr 2 0))] [.cells (Zi a),.cells (Zi Za0),.cells (Zag (Arr5.set d c b))] (AWP.seq ?_)
  obtain⟨m,w,hF⟩:=bindb hF
  refine AWP.rg [(1,.call Tryd.func61 [] (Zsz (Arr5.set d c b) m w))] [(6,(.ptr 1 0))] [.cells (Zi a),.cells (Zi m),.cells (Zag (Arr5.set d c b))] (AWP.ret ?_)
  have hr:=someb hF
  subst hr
  exact(FnQ.f0 0 (.inr rfl))
def Zqd (r:Zm):PV→List Blk→Prop:=fun p K=>p=(Zax r)∧K=[]
theorem Zgs (c:(List Zk)) (a:Zm) (r:Zm) (hF:Ze4 c a=some r):ACall Tryd.prog glob 15 [(slc 20 Zh c),(Zax a)] [] (Zqd r):=by
 refine ACall.body Tryd.func15 rfl (by kernel_rfl) ?_
 unfold Ze4 at hF
 refine AWP.seq (AWP.rg [] [(0,(slc 20 Zh c)),(3,(.ptr 0 0)),(4,(.ptr 1 0))] [.cells (Zi a),.cells (Zi Za0)] (AWP.seq ?_))
 obtain⟨d,p,hF⟩:=bindb hF
 refine AWP.rg0 [(2,.call Tryd.func14 [] (Zqc c a d p))] [(0,(slc 20 Zh c)),(3,(.ptr 0 0)),(4,(.ptr 1 0)),(5,(i64 d))] (AWP.seq (AWP.seq (AWP.rg0 [] [(0,(slc 20 Zh c)),(3,(.ptr 0 0)),(4,(.ptr 1 0)),(5,(i64 d)),(13,(vb (decide (d<(0:Int)))))] ?_)))
 refine AWP.cif hF (fun q hF=>?_) (fun q hF=>?_)
 ·refine AWP.seq (AWP.rg [] [(4,(.ptr 1 0))] [.cells (Zi a),.cells (Zi a)] (AWP.ret ?_))
  have hr:=someb hF
  subst hr
  exact(FnQ.f0 0 (.inr rfl))
 ·refine AWP.skip (AWP.seq (AWP.rg [] [(0,(slc 20 Zh c)),(3,(.ptr 0 0)),(4,(.ptr 1 0)),(5,(i64 d)),(6,(.ptr 2 0))] [.cells (Zi a),.cells (Zi Za0),.cells (Zi a)] (AWP.seq (AWP.seq ?_))))
  obtain⟨f,s,hF⟩:=bindb hF
  refine AWP.rg0 [(2,.idx Zh s)] [(0,(slc 20 Zh c)),(3,(.ptr 0 0)),(4,(.ptr 1 0)),(5,(i64 d)),(6,(.ptr 2 0)),(20,(Zt f.From)),(21,(i64 (0:Int)))] ?_
  obtain⟨i,t,hF⟩:=bindb hF
  refine AWP.mid (fun e st H=>e=.normal∧st=[(4,(.ptr 1 0)),(6,(.ptr 2 0))]∧H=[.cells (Zi a),.cells (Zi Za0),.cells (Zi i)]) ?_ ?_
  ·clear hF
   refine AWP.kp [0,3,4,5,6,20,21] 3 ?_
   refine AWP.bround (fun n st H=>∃ g,∃ b,Zci c a d f n g b=some i∧st=[(0,(slc 20 Zh c)),(3,(.ptr 0 0)),(4,(.ptr 1 0)),(5,(i64 d)),(6,(.ptr 2 0)),(20,(Zt f.From)),(21,(i64 b))]∧H=[.cells (Zi a),.cells (Zi Za0),.cells (Zi g)]) fuel ⟨a,(0:Int),t,by kernel_rfl,by kernel_rfl⟩ ?_
   rintro j st H ⟨g,b,hF,rfl,rfl⟩
   cases j with
   | zero=>exact noneb hF
   | succ j=>
    rw [Zci] at hF
    refine AWP.seq (AWP.rg0 [] [(0,(slc 20 Zh c)),(3,(.ptr 0 0)),(4,(.ptr 1 0)),(5,(i64 d)),(6,(.ptr 2 0)),(20,(Zt f.From)),(21,(i64 b)),(22,(vb (decide (b<(5:Int)))))] (AWP.seq ?_))
    refine AWP.cif hF (fun u hF=>?_) (fun u hF=>?_)
    ·refine AWP.skip (AWP.seq (AWP.block (AWP.seq ?_)))
     obtain⟨v,hF⟩:=chkb hF
     refine AWP.rg [(1,.ixA Zl (Arr5.get f.From) v)] [(0,(slc 20 Zh c)),(3,(.ptr 0 0)),(4,(.ptr 1 0)),(5,(i64 d)),(6,(.ptr 2 0)),(7,(i64 b)),(8,(.ptr 3 0)),(20,(Zt f.From)),(21,(i64 b))] [.cells (Zi a),.cells (Zi Za0),.cells (Zi g),.cells (Zl (Arr5.get f.From b))] ?_
     obtain⟨l,w,hF⟩:=bindb hF
     obtain⟨m,hF⟩:=chkb hF
     obtain⟨o,x,hF⟩:=bindb hF
     obtain⟨k,y,hF⟩:=bindb hF
     refine AWP.dr [(5,.idx Zh w),(7,.ixd m),(9,.ldA Zl (Arr5.get l.To) 10 2 0 m),(12,.call Tryd.func38 [] (Zt1 a b o x)),(17,.call Tryd.func37 [] (Zvc g b (IntKind.wrap .u32 ((Arr5.get l.To b).Lo + (IntKind.wrap .u32 (o - (Arr5.get f.From b).Lo)))) k y))] 18 [] [] [] [(0,(slc 20 Zh c)),(3,(.ptr 0 0)),(4,(.ptr 1 0)),(5,(i64 d)),(6,(.ptr 2 0)),(20,(Zt f.From)),(21,(i64 b))] [.cells (Zi a),.cells (Zi Za0),.cells (Zi k),.cells (Zl (Arr5.get f.From b))] (AWP.rg0 [] [(0,(slc 20 Zh c)),(3,(.ptr 0 0)),(4,(.ptr 1 0)),(5,(i64 d)),(6,(.ptr 2 0)),(20,(Zt f.From)),(21,(i64 (ZI (b + (1:Int)))))] (LeQ.start (LeQ.pk [0,3,4,5,6,20,21] 3 ?_)))
     exact⟨j,Nat.lt_succ_self _,k,(ZI (b + (1:Int))),hF,by kernel_rfl,by kernel_rfl⟩
    ·refine AWP.exit (LeQ.start (LeQ.pk [4,6] 3 ?_))
     have hr:=someb hF
     subst hr
     exact⟨rfl,by kernel_rfl,by kernel_rfl⟩
  ·rintro _ _ _ ⟨rfl,rfl,rfl⟩
   refine AWP.seq (AWP.rg [] [(4,(.ptr 1 0))] [.cells (Zi a),.cells (Zi i),.cells (Zi i)] (AWP.ret ?_))
   have hr:=someb hF
   subst hr
   exact(FnQ.f0 0 (.inr rfl))
def Zs0 (r:ZB):PV→List Blk→Prop:=fun p K=>p=(Zt r)∧K=[]
theorem Zs1 (c:Zm) (r:ZB) (hF:Zgz c=some r):ACall Tryd.prog glob 20 [(Zax c)] [] (Zs0 r):=by
 refine ACall.body Tryd.func20 rfl (by kernel_rfl) ?_
 unfold Zgz at hF
 refine AWP.seq (AWP.rg [] [(1,(.ptr 0 0)),(2,(.ptr 1 0))] [.cells (Zi c),.cells (Za Zs)] (AWP.seq (AWP.rg [] [(1,(.ptr 0 0)),(2,(.ptr 1 0)),(3,(.ptr 2 0))] [.cells (Zi c),.cells (Za Zs),.cells (Za Zs)] (AWP.seq ?_))))
 obtain⟨b,l,hF⟩:=bindb hF
 refine AWP.rg [(1,.call Tryd.func47 [] (Zkx c b l))] [(2,(.ptr 1 0)),(3,(.ptr 2 0)),(4,(.ptr 3 0))] [.cells (Zi c),.cells (Za Zs),.cells (Za Zs),.cells (Zag b)] (AWP.seq (AWP.seq (AWP.rg0 [] [(2,(.ptr 1 0)),(3,(.ptr 2 0)),(4,(.ptr 3 0)),(5,(i64 (0:Int)))] ?_)))
 obtain⟨f,m,hF⟩:=bindb hF
 refine AWP.mid (fun e st H=>e=.normal∧st=[(2,(.ptr 1 0)),(3,(.ptr 2 0))]∧H=[.cells (Zi c),.cells (Za Zs),.cells (Za f),.cells (Zag b)]) ?_ ?_
 ·clear hF
  refine AWP.kp [2,3,4,5] 4 ?_
  refine AWP.bround (fun n st H=>∃ d,∃ a,Zej b n d a=some f∧st=[(2,(.ptr 1 0)),(3,(.ptr 2 0)),(4,(.ptr 3 0)),(5,(i64 a))]∧H=[.cells (Zi c),.cells (Za Zs),.cells (Za d),.cells (Zag b)]) fuel ⟨Zs,(0:Int),m,by kernel_rfl,by kernel_rfl⟩ ?_
  rintro g st H ⟨d,a,hF,rfl,rfl⟩
  cases g with
  | zero=>exact noneb hF
  | succ g=>
   rw [Zej] at hF
   refine AWP.seq (AWP.seq (AWP.rg0 [] [(2,(.ptr 1 0)),(3,(.ptr 2 0)),(4,(.ptr 3 0)),(5,(i64 a)),(9,(vb (decide (a<(5:Int)))))] ?_))
   refine AWP.cif hF (fun o hF=>?_) (fun o hF=>?_)
   ·refine AWP.skip (AWP.seq (AWP.block ?_))
    obtain⟨i,hF⟩:=chkb hF
    obtain⟨j,hF⟩:=chkb hF
    obtain⟨k,hF⟩:=chkb hF
    refine AWP.dr [(2,.ixd i),(3,.ldA Zdl (Arr5.get b) 0 1 0 i),(5,.ixd j),(6,.ldA Zdl (Arr5.get b) 0 1 0 j),(8,.ixd k),(9,.stA (fun p=>Za (Arr5.set d p (Zb.mk (Arr5.get b a) (Arr5.get b a)))) 0 2 0 k)] 8 [] [] [] [(2,(.ptr 1 0)),(3,(.ptr 2 0)),(4,(.ptr 3 0)),(5,(i64 a))] [.cells (Zi c),.cells (Za Zs),.cells (Za (Arr5.set d a (Zb.mk (Arr5.get b a) (Arr5.get b a)))),.cells (Zag b)] (AWP.rg0 [] [(2,(.ptr 1 0)),(3,(.ptr 2 0)),(4,(.ptr 3 0)),(5,(i64 (ZI (a + (1:Int)))))] (LeQ.start (LeQ.pk [2,3,4,5] 4 ?_)))
    exact⟨g,Nat.lt_succ_self _,(Arr5.set d a (Zb.mk (Arr5.get b a) (Arr5.get b a))),(ZI (a + (1:Int))),hF,by kernel_rfl,by kernel_rfl⟩
   ·refine AWP.exit (LeQ.start (LeQ.pk [2,3] 4 ?_))
    have hr:=someb hF
    subst hr
    exact⟨rfl,by kernel_rfl,by kernel_rfl⟩
 ·rintro _ _ _ ⟨rfl,rfl,rfl⟩
  refine AWP.seq (AWP.rg [] [(2,(.ptr 1 0))] [.cells (Zi c),.cells (Za f),.cells (Za f),.cells (Zag b)] (AWP.ret ?_))
  have hr:=someb hF
  subst hr
  exact(FnQ.f0 0 (.inr rfl))
def Zju (r:Bool):PV→List Blk→Prop:=fun p K=>p=(vb r)∧K=[]
theorem Zjv (a1:(List Int)) (g:Zm) (i:Zm) (r:Bool) (hF:Zdy a1 g i=some r):ACall Tryd.prog glob 4 [(slc 1 Zaf a1),(Zax g),(Zax i)] [] (Zju r):=by
 refine ACall.body Tryd.func4 rfl (by kernel_rfl) ?_
 unfold Zdy at hF
 refine AWP.seq (AWP.rg [] [(0,(slc 1 Zaf a1)),(4,(.ptr 0 0)),(5,(.ptr 1 0))] [.cells (Zi g),.cells (Zi i)] (AWP.seq ?_))
 obtain⟨a6,b9,hF⟩:=bindb hF
 refine AWP.rg [(1,.call Tryd.func6 [] (Zsu a1 a6 b9))] [(4,(.ptr 0 0)),(5,(.ptr 1 0)),(7,(.ptr 2 0))] [.cells (Zi g),.cells (Zi i),.cells (Zf a6)] (AWP.seq ?_)
 obtain⟨b,c0,hF⟩:=bindb hF
 obtain⟨a,c1,hF⟩:=bindb hF
 refine AWP.rg [(1,.call Tryd.func7 [] (Zmi a6 (3:Int) true b c0)),(3,.call Tryd.func16 [] (Zml b.2 (3:Int) true a c1))] [(4,(.ptr 0 0)),(5,(.ptr 1 0)),(7,(.ptr 2 0)),(8,(slc 20 Zh b.1)),(9,(slc 10 Za a.1))] [.cells (Zi g),.cells (Zi i),.cells (Zf a.2)] (AWP.seq ?_)
 obtain⟨f,c2,hF⟩:=bindb hF
 refine AWP.rg0 [(2,.call Tryd.func17 [] (Zi4 b.1 a.1 f c2))] [(4,(.ptr 0 0)),(5,(.ptr 1 0)),(7,(.ptr 2 0)),(8,(slc 20 Zh b.1)),(9,(slc 10 Za a.1)),(10,(vb f.1)),(11,(i64 f.2))] (AWP.seq (AWP.seq (AWP.rg0 [] [(4,(.ptr 0 0)),(5,(.ptr 1 0)),(7,(.ptr 2 0)),(8,(slc 20 Zh b.1)),(9,(slc 10 Za a.1)),(10,(vb f.1)),(11,(i64 f.2)),(27,(vb (f.2 != (0:Int))))] ?_)))
 refine AWP.cif hF (fun c3 hF=>?_) (fun c3 hF=>?_)
 ·refine AWP.seq ?_
  obtain⟨c4,o,hF⟩:=bindb hF
  replace o:=someb o
  obtain⟨c5,p,hF⟩:=bindb hF
  replace p:=someb p
  obtain⟨c6,a7,hF⟩:=bindb hF
  refine AWP.to [(6,(vb c6))] [.cells (Zi g),.cells (Zi i),.cells (Zf a.2)] ?_ ?_
  ·cases c4 with
   | false=>
    subst p
    have c7:=someb (ifF a7 rfl)
    subst c7
    exact AWP.rgT [(2,.bool o)]
   | true=>
    cases c5 with
    | false=>
     have c8:=someb (ifF a7 rfl)
     subst c8
     exact AWP.rgT [(2,.bool o),(6,.bool p)]
    | true=>
     have q:=ifT a7 rfl
     obtain⟨c9,d0,q⟩:=bindb q
     replace q:=someb q
     subst q
     exact AWP.rgT [(2,.bool o),(6,.bool p),(7,.call Tryd.func10 [] (Zlg c9 d0))]
  refine AWP.ret ?_
  have hr:=someb hF
  subst hr
  exact(FnQ.f0 0 (.inr rfl))
 ·refine AWP.skip ?_
  obtain⟨d1,d2,hF⟩:=bindb hF
  refine AWP.seq ?_
  refine AWP.mid (fun e st H=>(e=.normal∧∃ c,∃ d,∃ s,d1=(c,d,s)∧st=[(4,(.ptr 0 0)),(5,(.ptr 1 0)),(8,(slc 20 Zh b.1)),(9,(slc 10 Za a.1)),(10,(vb f.1))]∧H=[.cells (Zi c),.cells (Zi d),.cells (Zf s)])) ?_ ?_
  ·clear hF
   have hF:=d2
   refine AWP.seq ?_
   obtain⟨t,d3,hF⟩:=bindb hF
   refine AWP.rg [(1,.call Tryd.func18 [] (Zv a.2 (2:Int) t d3))] [(4,(.ptr 0 0)),(5,(.ptr 1 0)),(7,(.ptr 2 0)),(8,(slc 20 Zh b.1)),(9,(slc 10 Za a.1)),(10,(vb f.1)),(39,(vb (t.1 == (0:Int))))] [.cells (Zi g),.cells (Zi i),.cells (Zf t.2)] ?_
   refine AWP.cif hF (fun d4 hF=>?_) (fun d4 hF=>?_)
   ·obtain⟨b0,d5,hF⟩:=bindb hF
    obtain⟨a2,d6,hF⟩:=bindb hF
    obtain⟨b1,d7,hF⟩:=bindb hF
    obtain⟨u,d8,hF⟩:=bindb hF
    refine AWP.rg [(2,.call Tryd.func12 [] (Zlo b.1 b0 d5)),(3,.call Tryd.func11 [] (Zjj t.2 b0 a2 d6)),(6,.call Tryd.func12 [] (Zlo b.1 b1 d7)),(7,.call Tryd.func11 [] (Zjj a2.2 b1 u d8))] [(4,(.ptr 0 0)),(5,(.ptr 1 0)),(8,(slc 20 Zh b.1)),(9,(slc 10 Za a.1)),(10,(vb f.1))] [.cells (Zi a2.1),.cells (Zi u.1),.cells (Zf u.2)] (LeQ.start (LeQ.pk [4,5,8,9,10] 3 ?_))
    exact⟨rfl,a2.1,u.1,u.2,(someb hF).symm,by kernel_rfl,by kernel_rfl⟩
   ·refine AWP.skip (LeQ.start (LeQ.pk [4,5,8,9,10] 3 ?_))
    exact⟨rfl,g,i,t.2,(someb hF).symm,by kernel_rfl,by kernel_rfl⟩
  ·rintro _ _ _ ⟨rfl,c,d,s,rfl,rfl,rfl⟩
   refine AWP.seq (AWP.seq ?_)
   obtain⟨v,w,hF⟩:=bindb hF
   obtain⟨d9,j,hF⟩:=bindb hF
   replace j:=someb j
   obtain⟨f7,b2,hF⟩:=bindb hF
   obtain⟨e0,k,hF⟩:=bindb hF
   replace k:=someb k
   obtain⟨e1,l,hF⟩:=bindb hF
   replace l:=someb l
   obtain⟨f8,a3,hF⟩:=bindb hF
   obtain⟨b3,m,hF⟩:=bindb hF
   replace m:=someb m
   refine AWP.to [(4,(.ptr 0 0)),(8,(slc 20 Zh b.1)),(72,(vb (b3 && f.1)))] [.cells (Zi c),.cells (Zi d),.cells (Zf s)] ?_ ?_
   ·cases d9 with
    | false=>
     have e2:=someb (ifF b2 rfl)
     subst e2
     subst k
     subst l
     have e3:=someb (ifF a3 rfl)
     subst e3
     subst m
     exact AWP.drT [(2,.call Tryd.func19 [] (Zco a.1 c v w)),(3,.bool j)] 25 [] [] []
    | true=>
     have x:=ifT b2 rfl
     obtain⟨a4,a5,x⟩:=bindb x
     replace x:=someb x
     subst x
     cases e0 with
     | false=>
      subst l
      have e4:=someb (ifF a3 rfl)
      subst e4
      subst m
      exact AWP.drT [(2,.call Tryd.func19 [] (Zco a.1 c v w)),(3,.bool j),(6,.call Tryd.func19 [] (Zco a.1 d a4 a5)),(8,.bool k)] 25 [] [] []
     | true=>
      cases e1 with
      | false=>
       have e5:=someb (ifF a3 rfl)
       subst e5
       subst m
       exact AWP.drT [(2,.call Tryd.func19 [] (Zco a.1 c v w)),(3,.bool j),(6,.call Tryd.func19 [] (Zco a.1 d a4 a5)),(8,.bool k),(13,.bool l)] 25 [] [] []
      | true=>
       have n:=ifT a3 rfl
       obtain⟨b4,b5,n⟩:=bindb n
       obtain⟨b6,b7,n⟩:=bindb n
       replace n:=someb n
       subst n
       cases b3 with
       | false=>
        exact AWP.drT [(2,.call Tryd.func19 [] (Zco a.1 c v w)),(3,.bool j),(6,.call Tryd.func19 [] (Zco a.1 d a4 a5)),(8,.bool k),(13,.bool l),(16,.call Tryd.func15 [] (Zgs b.1 c b4 b5)),(19,.call Tryd.func15 [] (Zgs b.1 d b6 b7)),(22,.bool m)] 25 [] [] []
       | true=>
        exact AWP.drT [(2,.call Tryd.func19 [] (Zco a.1 c v w)),(3,.bool j),(6,.call Tryd.func19 [] (Zco a.1 d a4 a5)),(8,.bool k),(13,.bool l),(16,.call Tryd.func15 [] (Zgs b.1 c b4 b5)),(19,.call Tryd.func15 [] (Zgs b.1 d b6 b7)),(22,.bool m)] 25 [] [] []
   refine AWP.cif hF (fun e6 hF=>?_) (fun e6 hF=>?_)
   ·refine AWP.seq (AWP.rg0 [] [(6,(vb false))] (AWP.ret ?_))
    have hr:=someb hF
    subst hr
    exact(FnQ.f0 0 (.inr rfl))
   ·refine AWP.skip (AWP.seq ?_)
    obtain⟨b8,e7,hF⟩:=bindb hF
    obtain⟨a8,e8,hF⟩:=bindb hF
    refine AWP.rg0 [(2,.call Tryd.func20 [] (Zs1 c b8 e7)),(4,.call Tryd.func17 [] (Zi4 b.1 [b8] a8 e8))] [(12,(vb a8.1)),(13,(i64 a8.2))] (AWP.seq ?_)
    obtain⟨e9,y,hF⟩:=bindb hF
    replace y:=someb y
    obtain⟨f1,z,hF⟩:=bindb hF
    replace z:=someb z
    obtain⟨f2,a9,hF⟩:=bindb hF
    refine AWP.to [(6,(vb f2))] [.cells (Zi c),.cells (Zi d),.cells (Zf s)] ?_ ?_
    ·cases e9 with
     | false=>
      subst z
      have f3:=someb (ifF a9 rfl)
      subst f3
      exact AWP.rgT [(1,.bool y)]
     | true=>
      cases f1 with
      | false=>
       have f4:=someb (ifF a9 rfl)
       subst f4
       exact AWP.rgT [(1,.bool y),(5,.bool z)]
      | true=>
       have a0:=ifT a9 rfl
       obtain⟨f5,f6,a0⟩:=bindb a0
       replace a0:=someb a0
       subst a0
       exact AWP.rgT [(1,.bool y),(5,.bool z),(6,.call Tryd.func10 [] (Zlg f5 f6))]
    refine AWP.ret ?_
    have hr:=someb hF
    subst hr
    exact(FnQ.f0 0 (.inr rfl))
end Go.AM
set_option maxRecDepth 100000
namespace Go.AM
open Go
def Ok {α:Type} (x:Option α) (p:α→Prop):Prop:=∃ r,x=some r∧p r
theorem Ok.bind {α γ:Type} {x:Option α} {p:α→Prop} {f:α→Option γ} {q:γ→Prop} (h:Ok x p) (k:∀ v,p v→Ok (f v) q):Ok (x.bind f) q:=by
 obtain⟨v,rfl,hv⟩:=h
 exact k v hv
theorem Ok.ret {α:Type} {r:α} {p:α→Prop} (h:p r):Ok (some r) p:=⟨r,rfl,h⟩
theorem Ok.chk {α:Type} {c:Prop} [Decidable c] {x:Option α} {p:α→Prop} (hc:c) (h:Ok x p):Ok (if c then x else none) p:=by rw [if_pos hc]; exact h
theorem Ok.ite {α:Type} {c:Prop} [Decidable c] {x y:Option α} {p:α→Prop} (h1:c→Ok x p) (h2:¬ c→Ok y p):Ok (if c then x else y) p:=by
 split
 ·exact h1 (by assumption)
 ·exact h2 (by assumption)
theorem Ok.lift {α γ:Type} {b:α} {f:α→Option γ} {q:γ→Prop} (h:Ok (f b) q):Ok ((Option.some b).bind f) q:=h
theorem Ok.mono {α:Type} {x:Option α} {p q:α→Prop} (h:Ok x p) (k:∀ v,p v→q v):Ok x q:=by
 obtain⟨v,h1,h2⟩:=h
 exact⟨v,h1,k v h2⟩
theorem Ok.get {α:Type} {x:Option α} {p:α→Prop} (h:Ok x p) {r:α} (e:x=some r):p r:=by
 obtain⟨v,h1,h2⟩:=h
 rw [h1] at e; cases e; exact h2
theorem Ok.eq {α:Type} {x:Option α} {r:α} (h:Ok x (·=r)):x=some r:=by
 obtain⟨v,h1,rfl⟩:=h; exact h1
theorem Ok.idx {α:Type} {l:List α} {i:Int} {p:α→Prop} (h0:0≤i) (h1:i<l.length) (h:∀ x∈l,p x):Ok (idx l i) p:=by
 have hi:i.toNat<l.length:=by omega
 exact⟨l[i.toNat],by simp [AM.idx,h0,hi],h _ (List.getElem_mem hi)⟩
theorem Zbh {α:Type} {l:List α} {i:Nat} (h:i<l.length):AM.idx l (i:Int)=some l[i]:=by simp [AM.idx,h]
theorem wrap_u (k:IntKind) (b:Nat) (hs:k.signed=false) (hb:k.bits=b) (x:Int):k.wrap x=x % (2 ^ b:Int):=by
 subst hb; simp [IntKind.wrap,hs]
theorem wi64 {x:Int} (h0:-9223372036854775808≤x) (h1:x<9223372036854775808):IntKind.wrap .i64 x=x:=by
 simp only [IntKind.wrap,IntKind.bits,IntKind.signed]
 simp
 omega
theorem wu64 {x:Int} (h0:0≤x) (h1:x<18446744073709551616):IntKind.wrap .u64 x=x:=by
 simp only [IntKind.wrap,IntKind.bits,IntKind.signed]
 simp
 omega
theorem wu32 {x:Int} (h0:0≤x) (h1:x<4294967296):IntKind.wrap .u32 x=x:=by
 simp only [IntKind.wrap,IntKind.bits,IntKind.signed]
 simp
 omega
theorem Zdz (x:Int):0≤IntKind.wrap .u32 x∧IntKind.wrap .u32 x<4294967296:=by
 simp only [IntKind.wrap,IntKind.bits,IntKind.signed]
 simp
 omega
theorem Zqe (x:Int):0≤IntKind.wrap .u16 x∧IntKind.wrap .u16 x<65536:=by
 simp only [IntKind.wrap,IntKind.bits,IntKind.signed]
 simp
 omega
theorem Zvd (x:Int):0≤IntKind.wrap .u64 x∧IntKind.wrap .u64 x<18446744073709551616:=by
 simp only [IntKind.wrap,IntKind.bits,IntKind.signed]
 simp
 omega
theorem Zws {k:Nat} (h:k<64):bShl .u64 1 (k:Int)=(2 ^ k:Nat):=by
 have h2:(2:Nat) ^ k<2 ^ 64:=Nat.pow_lt_pow_right (by omega) h
 unfold bShl
 have e:((1:Int) * 2 ^ min (k:Int).toNat (IntKind.bits .u64))=((2 ^ k:Nat):Int):=by
  rw [show IntKind.bits .u64=64 from rfl,Int.toNat_natCast,Nat.min_eq_left (by omega)]; simp
 have h3:((2 ^ k:Nat):Int)<18446744073709551616:=Int.ofNat_lt.2 h2
 rw [e]
 exact wu64 (Int.natCast_nonneg _) h3
structure TOk (t:Ze):Prop where
 h0:0≤t.f_i
 h1:t.f_i≤t.f_l.length
 h2:(t.f_l.length:Int)<9223372036854775808
theorem New_ok {l:List Int} (h:(l.length:Int)<9223372036854775808):Ok (Zig l) TOk:=Ok.ret ⟨Int.le_refl 0,by simp,h⟩
theorem Mod_ok {x n:Int} (h1:1≤n) (h2:n<9223372036854775808):Ok (Zgg x n) fun v=>0≤v∧v<n:=by
 unfold Zgg
 have hn:IntKind.wrap .u64 n=n:=wu64 (by omega) (by omega)
 rw [hn]
 have hx:=Zvd x
 have h3:0≤Int.tmod (IntKind.wrap .u64 x) n:=Int.tmod_nonneg _ hx.1
 have h4:Int.tmod (IntKind.wrap .u64 x) n<n:=Int.tmod_lt_of_pos _ (by omega)
 refine Ok.chk (by omega) (Ok.ret ?_)
 rw [wi64 (by omega) (by omega)]
 exact⟨h3,h4⟩
theorem Zxu {t:Ze} (ht:TOk t) (n:Int) (h2:n<9223372036854775808):Ok (Zu t n) fun r=>(0≤r.1∧(r.1<n∨r.1=0))∧TOk r.2:=by
 unfold Zu
 refine Ok.lift (Ok.ite (fun hc=>Ok.ret ⟨⟨by simp,.inr rfl⟩,ht⟩) fun hc=>?_)
 simp only [Bool.or_eq_true,decide_eq_true_eq] at hc
 have hc1:¬ n≤1:=fun h=>hc (.inl h)
 have hc2:¬ t.f_i ≥ t.f_l.length:=fun h=>hc (.inr h)
 have h0:=ht.h0
 have h1:=ht.h2
 have e1:IntKind.wrap .i64 (t.f_i + 1)=t.f_i + 1:=wi64 (by omega) (by omega)
 rw [e1]
 have e2:IntKind.wrap .i64 (t.f_i + 1 - 1)=t.f_i:=by rw [Int.add_sub_cancel]; exact wi64 (by omega) (by omega)
 rw [e2]
 refine Ok.bind (Ok.idx (p:=fun _=>True) h0 (by omega) fun _ _=>trivial) fun x _=>?_
 refine Ok.bind (Mod_ok (by omega) h2) fun v hv=>Ok.ret ⟨⟨hv.1,.inl hv.2⟩,?_⟩
 exact⟨by show 0≤t.f_i + 1; omega,by show t.f_i + 1≤t.f_l.length; omega,h1⟩
theorem Zb7 {t:Ze} (ht:TOk t) (n:Int) (h1:1≤n) (h2:n<9223372036854775808):Ok (Zu t n) fun r=>(0≤r.1∧r.1<n)∧TOk r.2:=
 (Zxu ht n h2).mono fun r ⟨⟨h3,h4⟩,h5⟩=>⟨⟨h3,by omega⟩,h5⟩
def full:Arr5 Zb:=⟨⟨0,4294967295⟩,⟨0,4294967295⟩,⟨0,255⟩,⟨0,65535⟩,⟨0,65535⟩⟩
theorem Zup:Zgh=some full:=by kernel_rfl
structure ROk (top:Int) (r:Zb):Prop where
 h0:0≤r.Lo
 h1:r.Lo≤r.Hi
 h2:r.Hi≤top
structure RIn (r:Zb):Prop where
 h0:0≤r.Lo
 h1:r.Lo<4294967296
 h2:0≤r.Hi
 h3:r.Hi<4294967296
theorem ROk.rin {top:Int} {r:Zb} (h:ROk top r) (ht:top<4294967296):RIn r:=⟨h.h0,by have:=h.h1; have:=h.h2; omega,by have:=h.h0; have:=h.h1; omega,by have:=h.h2; omega⟩
structure BOk (b:Arr5 Zb):Prop where
 h0:ROk 4294967295 b.x0
 h1:ROk 4294967295 b.x1
 h2:ROk 255 b.x2
 h3:ROk 65535 b.x3
 h4:ROk 65535 b.x4
structure BIn (b:Arr5 Zb):Prop where
 h0:RIn b.x0
 h1:RIn b.x1
 h2:RIn b.x2
 h3:RIn b.x3
 h4:RIn b.x4
theorem BOk.bin {b:Arr5 Zb} (h:BOk b):BIn b:=⟨h.h0.rin (by omega),h.h1.rin (by omega),h.h2.rin (by omega),h.h3.rin (by omega),h.h4.rin (by omega)⟩
theorem Zlq:BOk full:=⟨⟨by decide,by decide,by decide⟩,⟨by decide,by decide,by decide⟩,⟨by decide,by decide,by decide⟩,⟨by decide,by decide,by decide⟩,⟨by decide,by decide,by decide⟩⟩
def topOf (i:Int):Int:=if i=0 then 4294967295 else if i=1 then 4294967295 else if i=2 then 255 else 65535
theorem Top_eq (f:Int) (h0:0≤f) (h1:f<5):Zfz f=some (topOf f):=by
 have hk:f=0∨f=1∨f=2∨f=3∨f=4:=by omega
 rcases hk with rfl | rfl | rfl | rfl | rfl <;> rfl
theorem fuel6:fuel=1180591620717411303418 + 6:=by kernel_rfl
theorem Zh4 {t:Ze} (ht:TOk t) {top:Int} (h0:0≤top) (h1:top<4294967296):Ok (Zbs t top) fun r=>(0≤r.1∧r.1≤top)∧TOk r.2:=by
 unfold Zbs
 refine Ok.bind (Zb7 ht 17 (by omega) (by omega)) fun r ⟨⟨h2,h3⟩,h4⟩=>?_
 have hw:=Zdz (Int.tdiv top 2)
 have hw2:=Zdz (top - 1)
 refine Ok.bind (Ok.idx (p:=fun x=>0≤x) h2 (by simpa using h3) fun x hx=>?_) fun x hx=>Ok.ret ⟨⟨?_,?_⟩,h4⟩
 ·simp only [List.mem_cons,List.not_mem_nil,or_false] at hx
  omega
 ·show 0≤iMin x top
  unfold iMin; split <;> omega
 ·show iMin x top≤top
  unfold iMin; split <;> omega
theorem Zs2 {t:Ze} (ht:TOk t) {top:Int} (h0:0≤top) (h1:top<4294967296):Ok (Zdt t top) fun r=>ROk top r.1∧TOk r.2:=by
 unfold Zdt
 refine Ok.bind (Zh4 ht h0 h1) fun r ⟨⟨h2,h3⟩,h4⟩=>Ok.bind (Zh4 h4 h0 h1) fun s ⟨⟨h5,h6⟩,h7⟩=>Ok.ret ⟨⟨?_,?_,?_⟩,h7⟩
 ·show 0≤iMin r.1 s.1
  unfold iMin; split <;> omega
 ·show iMin r.1 s.1≤iMax r.1 s.1
  unfold iMin iMax; split <;> split <;> omega
 ·show iMax r.1 s.1≤top
  unfold iMax; split <;> omega
def subnets:List Za6:=[⟨167772160,24⟩,⟨167772416,24⟩,⟨167772672,25⟩,⟨167772800,26⟩,⟨2886729728,16⟩,⟨3232237321,32⟩]
theorem Zm7 {x:Int}:Ok (Zef x) fun p=>p∈subnets:=by
 unfold Zef
 refine Ok.bind (Mod_ok (by omega) (by omega)) fun r ⟨h0,h1⟩=>?_
 exact Ok.bind (Ok.idx (p:=fun p=>p∈subnets) h0 (by simpa using h1) fun x hx=>hx) fun x hx=>Ok.ret hx
theorem Of_ok {p:Za6} (hp:p∈subnets):Ok (Zgi p) fun r=>ROk 4294967295 r.1:=by
 simp only [subnets,List.mem_cons,List.not_mem_nil,or_false] at hp
 rcases hp with rfl | rfl | rfl | rfl | rfl | rfl
 ·exact⟨(⟨167772160,167772415⟩,true),by kernel_rfl,by decide,by decide,by decide⟩
 ·exact⟨(⟨167772416,167772671⟩,true),by kernel_rfl,by decide,by decide,by decide⟩
 ·exact⟨(⟨167772672,167772799⟩,true),by kernel_rfl,by decide,by decide,by decide⟩
 ·exact⟨(⟨167772800,167772863⟩,true),by kernel_rfl,by decide,by decide,by decide⟩
 ·exact⟨(⟨2886729728,2886795263⟩,true),by kernel_rfl,by decide,by decide,by decide⟩
 ·exact⟨(⟨3232237321,3232237321⟩,true),by kernel_rfl,by decide,by decide,by decide⟩
theorem Zlr {t:Ze} (ht:TOk t):Ok (Zch t) fun r=>(0≤r.1∧r.1≤4294967295)∧TOk r.2:=by
 unfold Zch
 refine Ok.bind (Zb7 ht 5 (by omega) (by omega)) fun r ⟨⟨h2,h3⟩,h4⟩=>Ok.ite (fun _=>?_) fun _=>?_
 ·refine Ok.bind (Zb7 h4 6 (by omega) (by omega)) fun r ⟨⟨h2,h3⟩,h4⟩=>?_
  refine Ok.bind (Ok.idx (p:=fun x=>0≤x∧x≤4294967295) h2 (by simpa using h3) fun x hx=>?_) fun x hx=>Ok.ret ⟨hx,h4⟩
  simp only [List.mem_cons,List.not_mem_nil,or_false] at hx
  omega
 ·refine Ok.bind (Zb7 h4 6 (by omega) (by omega)) fun r ⟨⟨h2,h3⟩,h4⟩=>Ok.bind Zm7 fun p hp=>Ok.bind (Of_ok hp) fun q hq=>?_
  refine Ok.bind (Zb7 h4 5 (by omega) (by omega)) fun r ⟨⟨h2,h3⟩,h4⟩=>?_
  refine Ok.bind (Ok.idx (p:=fun x=>0≤x∧x≤4294967295) h2 (by simpa using h3) fun x hx=>?_) fun x hx=>Ok.ret ⟨hx,h4⟩
  have g0:=hq.h0
  have g1:=hq.h1
  have g2:=hq.h2
  have w1:=Zdz (q.1.Lo + 5)
  have w2:=Zdz (q.1.Hi + 1)
  have w3:=Zdz (q.1.Lo - 1)
  simp only [List.mem_cons,List.not_mem_nil,or_false] at hx
  omega
theorem Zm8 {t:Ze} (ht:TOk t):Ok (Zc0 t) fun r=>ROk 4294967295 r.1∧TOk r.2:=by
 unfold Zc0
 refine Ok.bind (Zb7 ht 4 (by omega) (by omega)) fun r ⟨⟨h2,h3⟩,h4⟩=>Ok.ite (fun _=>?_) fun _=>Ok.ite (fun _=>?_) fun _=>Ok.ite (fun _=>?_) fun _=>?_
 ·exact Ok.bind (Zb7 h4 6 (by omega) (by omega)) fun r ⟨⟨h2,h3⟩,h4⟩=>Ok.bind Zm7 fun p hp=>Ok.bind (Of_ok hp) fun q hq=>Ok.ret ⟨hq,h4⟩
 ·refine Ok.bind (Zlr h4) fun a ⟨⟨a1,a2⟩,a3⟩=>Ok.bind (Zlr a3) fun b ⟨⟨b1,b2⟩,b3⟩=>Ok.ret ⟨⟨?_,?_,?_⟩,b3⟩
  ·show 0≤iMin a.1 b.1
   unfold iMin; split <;> omega
  ·show iMin a.1 b.1≤iMax a.1 b.1
   unfold iMin iMax; split <;> split <;> omega
  ·show iMax a.1 b.1≤4294967295
   unfold iMax; split <;> omega
 ·exact Ok.bind (Zlr h4) fun a ⟨⟨a1,a2⟩,a3⟩=>Ok.ret ⟨⟨a1,Int.le_refl _,a2⟩,a3⟩
 ·exact Ok.ret ⟨⟨Int.le_refl _,(by decide:(0:Int)≤4294967295),Int.le_refl _⟩,h4⟩
theorem Zrr:∀(n:Nat) (t:Ze) (b:Arr5 Zb) (i:Int),TOk t→BOk b→i≤n→0≤i→i<100→Ok (Zcj (n + 1) t b i) fun r=>TOk r.1∧BOk r.2
 | 0,t,b,i,ht,hb,hi,h0,h9=>by
  rw [Zcj]
  exact Ok.ite (fun hc=>absurd (of_decide_eq_true hc) (by omega)) fun _=>Ok.ret ⟨ht,hb⟩
 | n + 1,t,b,i,ht,hb,hi,h0,h9=>by
  rw [Zcj]
  refine Ok.ite (fun hc=>?_) fun _=>Ok.ret ⟨ht,hb⟩
  have hc:=of_decide_eq_true hc
  refine Ok.bind (p:=fun r=>TOk r.1∧BOk r.2) ?_ fun r ⟨h1,h2⟩=>?_
  ·refine Ok.bind (Zb7 ht 5 (by omega) (by omega)) fun r ⟨_,h4⟩=>Ok.ite (fun _=>?_) fun _=>Ok.ite (fun _=>?_) fun _=>Ok.ite (fun _=>?_) fun _=>Ok.ite (fun _=>?_) fun _=>?_
   ·exact Ok.bind (Zm8 h4) fun q ⟨g1,g2⟩=>Ok.ret ⟨g2,⟨g1,hb.h1,hb.h2,hb.h3,hb.h4⟩⟩
   ·exact Ok.bind (Zm8 h4) fun q ⟨g1,g2⟩=>Ok.ret ⟨g2,⟨hb.h0,g1,hb.h2,hb.h3,hb.h4⟩⟩
   ·refine Ok.bind (Zb7 h4 6 (by omega) (by omega)) fun r ⟨⟨h2,h3⟩,h4⟩=>?_
    refine Ok.bind (Ok.idx (p:=fun x=>0≤x∧x≤255) h2 (by simpa using h3) fun x hx=>?_) fun x hx=>Ok.ret ⟨h4,⟨hb.h0,hb.h1,⟨hx.1,Int.le_refl _,hx.2⟩,hb.h3,hb.h4⟩⟩
    simp only [List.mem_cons,List.not_mem_nil,or_false] at hx
    omega
   ·exact Ok.bind (Zs2 h4 (by omega) (by omega)) fun q ⟨g1,g2⟩=>Ok.ret ⟨g2,⟨hb.h0,hb.h1,hb.h2,g1,hb.h4⟩⟩
   ·exact Ok.bind (Zs2 h4 (by omega) (by omega)) fun q ⟨g1,g2⟩=>Ok.ret ⟨g2,⟨hb.h0,hb.h1,hb.h2,hb.h3,g1⟩⟩
  ·obtain⟨r1,r2⟩:=r
   show Ok (Zcj (n + 1) r1 r2 (IntKind.wrap .i64 (i - 1))) _
   rw [wi64 (by omega) (by omega)]
   exact Zrr n r1 r2 (i - 1) h1 h2 (by omega) (by omega) (by omega)
theorem Box_ok {t:Ze} (ht:TOk t):Ok (Zff t) fun r=>BOk r.1∧TOk r.2:=by
 unfold Zff
 rw [Zup]
 refine Ok.lift (Ok.bind (Zb7 ht 3 (by omega) (by omega)) fun r ⟨⟨h2,h3⟩,h4⟩=>?_)
 have e:IntKind.wrap .i64 (1 + r.1)=1 + r.1:=wi64 (by omega) (by omega)
 rw [e]
 refine Ok.bind (Zrr 1180591620717411303423 r.2 full (1 + r.1) h4 Zlq (by omega) (by omega) (by omega)) fun q ⟨g1,g2⟩=>?_
 obtain⟨q1,q2⟩:=q
 exact Ok.ret ⟨g2,g1⟩
theorem five {k:Int} (h0:0≤k) (h1:k<5):k=0∨k=1∨k=2∨k=3∨k=4:=by omega
theorem wnext {k:Int} (h0:0≤k) (h1:k<1000000):IntKind.wrap .i64 (k + (1:Int))=k + 1:=wi64 (by omega) (by omega)
def sideBad (top:Int) (r:Zb):Bool:=decide (r.Lo > r.Hi) || decide (r.Hi > top)
theorem Zs3 {k:Int} (h0:0≤k) (h1:k<5):Arr5.get Zdx k=topOf k:=by
 rcases five h0 h1 with rfl | rfl | rfl | rfl | rfl <;> rfl
theorem vstep (b:Arr5 Zb) (n:Nat) {k:Int} (h0:0≤k) (h1:k<5):Zaq b (n + 1) k=if sideBad (topOf k) (b.get k)=true then some (.inr false) else Zaq b n (k + 1):=by
 rw [Zaq,if_pos (decide_eq_true h1),if_pos ⟨h0,h1⟩,if_pos ⟨h0,h1⟩,Zs3 h0 h1,wnext h0 (by omega)]
 unfold sideBad
 cases decide ((b.get k).Lo > (b.get k).Hi) <;> simp
theorem rvstep (b:Arr5 Zb) (n:Nat) {k:Int} (h0:0≤k) (h1:k<5):Zaa b (n + 1) k=if sideBad (topOf k) (b.get k)=true then some (.inr false) else Zaa b n (k + 1):=by
 rw [Zaa,if_pos (decide_eq_true h1),if_pos ⟨h0,h1⟩,if_pos ⟨h0,h1⟩,if_pos ⟨h0,h1⟩,Top_eq k h0 h1,wnext h0 (by omega)]
 unfold sideBad
 cases decide ((b.get k).Lo > (b.get k).Hi) <;> simp
def vB (b:Arr5 Zb):Bool:=
 if sideBad 4294967295 b.x0=true then false else if sideBad 4294967295 b.x1=true then false else if sideBad 255 b.x2=true then false else if sideBad 65535 b.x3=true then false else if sideBad 65535 b.x4=true then false else true
theorem Zkj (b:Arr5 Zb):Zew b=some (vB b):=by
 unfold Zew
 rw [fuel6]
 generalize (1180591620717411303418:Nat)=m
 have s0:Zaq b (m + 6) 0=if sideBad 4294967295 b.x0=true then some (.inr false) else Zaq b (m + 5) 1:=vstep b (m + 5) (by omega) (by omega)
 have s1:Zaq b (m + 5) 1=if sideBad 4294967295 b.x1=true then some (.inr false) else Zaq b (m + 4) 2:=vstep b (m + 4) (by omega) (by omega)
 have s2:Zaq b (m + 4) 2=if sideBad 255 b.x2=true then some (.inr false) else Zaq b (m + 3) 3:=vstep b (m + 3) (by omega) (by omega)
 have s3:Zaq b (m + 3) 3=if sideBad 65535 b.x3=true then some (.inr false) else Zaq b (m + 2) 4:=vstep b (m + 2) (by omega) (by omega)
 have s4:Zaq b (m + 2) 4=if sideBad 65535 b.x4=true then some (.inr false) else Zaq b (m + 1) 5:=vstep b (m + 1) (by omega) (by omega)
 have s5:Zaq b (m + 1) 5=some (.inl ()):=by rw [Zaq]; rfl
 rw [s0,s1,s2,s3,s4,s5]
 unfold vB
 repeat' split
 all_goals first | rfl | (simp_all; done) | skip
theorem Zv1 (b:Arr5 Zb):Zf1 b=some (vB b):=by
 unfold Zf1
 rw [fuel6]
 generalize (1180591620717411303418:Nat)=m
 have s0:Zaa b (m + 6) 0=if sideBad 4294967295 b.x0=true then some (.inr false) else Zaa b (m + 5) 1:=rvstep b (m + 5) (by omega) (by omega)
 have s1:Zaa b (m + 5) 1=if sideBad 4294967295 b.x1=true then some (.inr false) else Zaa b (m + 4) 2:=rvstep b (m + 4) (by omega) (by omega)
 have s2:Zaa b (m + 4) 2=if sideBad 255 b.x2=true then some (.inr false) else Zaa b (m + 3) 3:=rvstep b (m + 3) (by omega) (by omega)
 have s3:Zaa b (m + 3) 3=if sideBad 65535 b.x3=true then some (.inr false) else Zaa b (m + 2) 4:=rvstep b (m + 2) (by omega) (by omega)
 have s4:Zaa b (m + 2) 4=if sideBad 65535 b.x4=true then some (.inr false) else Zaa b (m + 1) 5:=rvstep b (m + 1) (by omega) (by omega)
 have s5:Zaa b (m + 1) 5=some (.inl ()):=by rw [Zaa]; rfl
 rw [s0,s1,s2,s3,s4,s5]
 unfold vB
 repeat' split
 all_goals first | rfl | (simp_all; done) | skip
theorem vB_ok {b:Arr5 Zb} (hb:BIn b) (h:vB b=true):BOk b:=by
 unfold vB sideBad at h
 simp only [Bool.or_eq_true,decide_eq_true_eq] at h
 split at h; · cases h
 split at h; · cases h
 split at h; · cases h
 split at h; · cases h
 split at h; · cases h
 exact⟨⟨hb.h0.h0,by omega,by omega⟩,⟨hb.h1.h0,by omega,by omega⟩,⟨hb.h2.h0,by omega,by omega⟩,⟨hb.h3.h0,by omega,by omega⟩,⟨hb.h4.h0,by omega,by omega⟩⟩
theorem ok_vB {b:Arr5 Zb} (h:BOk b):vB b=true:=by
 obtain⟨⟨_,a1,a2⟩,⟨_,b1,b2⟩,⟨_,c1,c2⟩,⟨_,d1,d2⟩,⟨_,e1,e2⟩⟩:=h
 unfold vB sideBad
 simp only [Bool.or_eq_true,decide_eq_true_eq]
 rw [if_neg (by omega),if_neg (by omega),if_neg (by omega),if_neg (by omega),if_neg (by omega)]
theorem BIn.get {b:Arr5 Zb} (h:BIn b) (k:Int):RIn (b.get k):=by
 unfold Arr5.get
 split
 ·exact h.h0
 split
 ·exact h.h1
 split
 ·exact h.h2
 split
 ·exact h.h3
 ·exact h.h4
theorem BIn.set {b:Arr5 Zb} (h:BIn b) {r:Zb} (hr:RIn r) (k:Int):BIn (b.set k r):=by
 unfold Arr5.set
 split
 ·exact⟨hr,h.h1,h.h2,h.h3,h.h4⟩
 split
 ·exact⟨h.h0,hr,h.h2,h.h3,h.h4⟩
 split
 ·exact⟨h.h0,h.h1,hr,h.h3,h.h4⟩
 split
 ·exact⟨h.h0,h.h1,h.h2,hr,h.h4⟩
 ·exact⟨h.h0,h.h1,h.h2,h.h3,hr⟩
theorem BIn.setHi {b:Arr5 Zb} (h:BIn b) {v:Int} (h0:0≤v) (h1:v<4294967296) (k:Int):BIn (b.set k { (b.get k) with Hi:=v }):=by
 have hg:=h.get k
 generalize b.get k=r at hg ⊢
 exact BIn.set h (r:=⟨r.Lo,v⟩) (RIn.mk hg.h0 hg.h1 h0 h1) k
theorem BIn.setLo {b:Arr5 Zb} (h:BIn b) {v:Int} (h0:0≤v) (h1:v<4294967296) (k:Int):BIn (b.set k { (b.get k) with Lo:=v }):=by
 have hg:=h.get k
 generalize b.get k=r at hg ⊢
 exact BIn.set h (r:=⟨v,r.Hi⟩) (RIn.mk h0 h1 hg.h2 hg.h3) k
theorem Zom {t:Ze} (ht:TOk t) {b:Arr5 Zb} (hb:BIn b):Ok (Zc6 t b) fun r=>BIn r.1∧TOk r.2:=by
 unfold Zc6
 refine Ok.bind (Zb7 ht 5 (by omega) (by omega)) fun r1 ⟨⟨h2,h3⟩,h4⟩=>?_
 refine Ok.bind (p:=fun o=>TOk o.1∧BIn o.2) ?_ fun o ⟨g1,g2⟩=>Ok.ret ⟨g2,g1⟩
 refine Ok.bind (Zb7 h4 3 (by omega) (by omega)) fun r20 ⟨_,h6⟩=>?_
 have hk:0≤r1.1∧r1.1<5:=⟨h2,h3⟩
 have hg:=hb.get r1.1
 refine Ok.ite (fun _=>?_) fun _=>Ok.ite (fun _=>?_) fun _=>?_
 ·refine Ok.chk hk (Ok.chk hk (Ok.chk hk (Ok.chk hk (Ok.ret ⟨h6,?_⟩))))
  exact(hb.setLo hg.h2 hg.h3 _).setHi hg.h0 hg.h1 _
 ·exact Ok.chk hk (Ok.ret ⟨h6,hb.setHi (by decide) (by decide) _⟩)
 ·exact Ok.chk hk (Ok.ret ⟨h6,hb.set ⟨by decide,by decide,by decide,by decide⟩ _⟩)
def GB (wild:Bool) (b:Arr5 Zb):Prop:=BIn b∧(wild=false→BOk b)
theorem Zon (wild:Bool):∀(n:Nat) (t:Ze) (l:List (Arr5 Zb)) (i:Int),TOk t→(∀ x∈l,GB wild x)→i≤n→0≤i→i<100→(l.length:Int) + i<1000 →
  Ok (Zb2 wild (n + 1) t l i) fun r=>TOk r.1∧(∀ x∈r.2,GB wild x)∧(r.2.length:Int)=l.length + i
 | 0,t,l,i,ht,hl,hi,h0,h9,hlen=>by
  rw [Zb2]
  exact Ok.ite (fun hc=>absurd (of_decide_eq_true hc) (by omega)) fun _=>Ok.ret ⟨ht,hl,by show (l.length:Int)=_; omega⟩
 | n + 1,t,l,i,ht,hl,hi,h0,h9,hlen=>by
  rw [Zb2]
  refine Ok.ite (fun hc=>?_) fun hc=>Ok.ret ⟨ht,hl,by simp at hc; show (l.length:Int)=_; omega⟩
  have hc:=of_decide_eq_true hc
  refine Ok.bind (p:=fun r=>TOk r.1∧(∀ x∈r.2,GB wild x)∧r.2.length=l.length + 1) ?_ fun r ⟨h1,h2,h3⟩=>?_
  ·refine Ok.bind (Box_ok ht) fun q ⟨g1,g2⟩=>?_
   refine Ok.bind (p:=fun o=>TOk o.1∧GB wild o.2) ?_ fun o ⟨k1,k2⟩=>?_
   ·refine Ok.lift ?_
    refine Ok.bind (p:=fun v=>TOk v.2∧(v.1=true→wild=true)) ?_ fun v ⟨k1,k2⟩=>?_
    ·refine Ok.ite (fun hw=>?_) fun _=>Ok.ret ⟨g2,fun h=>by cases h⟩
     exact Ok.bind (Zb7 g2 8 (by omega) (by omega)) fun r190 ⟨_,h6⟩=>Ok.ret ⟨h6,fun _=>hw⟩
    ·refine Ok.ite (fun hv=>?_) fun _=>Ok.ret ⟨k1,g1.bin,fun _=>g1⟩
     refine Ok.bind (Zom k1 g1.bin) fun r196 ⟨m1,m2⟩=>Ok.ret ⟨m2,m1,fun hw=>?_⟩
     rw [k2 hv] at hw; cases hw
   ·obtain⟨o1,o2⟩:=o
    refine Ok.chk (by simp only [List.length_singleton]; unfold lim; omega) (Ok.ret ⟨k1,fun x hx=>?_,by simp⟩)
    rcases List.mem_append.1 hx with hx | hx
    ·exact hl x hx
    ·simp only [List.mem_singleton] at hx; subst hx; exact k2
  ·obtain⟨r1,r2⟩:=r
   simp only at h1 h2 h3
   show Ok (Zb2 wild (n + 1) r1 r2 (IntKind.wrap .i64 (i - 1))) _
   rw [wi64 (by omega) (by omega)]
   refine(Zon wild n r1 r2 (i - 1) h1 h2 (by omega) (by omega) (by omega) (by omega)).mono fun v ⟨e1,e2,e3⟩=>⟨e1,e2,?_⟩
   omega
theorem Zwt (wild:Bool) {t:Ze} (ht:TOk t) {n:Int} (h0:0≤n) (h1:n<90):Ok (Zes t n wild) fun r=>(∀ x∈r.1,GB wild x)∧(r.1.length:Int)≤n∧TOk r.2:=by
 unfold Zes
 rw [wi64 (x:=n + 1) (by omega) (by omega)]
 refine Ok.bind (Zb7 ht (n + 1) (by omega) (by omega)) fun r ⟨⟨h2,h3⟩,h4⟩=>?_
 refine Ok.bind (Zon wild 1180591620717411303423 r.2 [] r.1 h4 (by simp) (by omega) h2 (by omega) (by simp; omega)) fun q ⟨g1,g2,g3⟩=>?_
 obtain⟨q1,q2⟩:=q
 refine Ok.ret ⟨g2,?_,g1⟩
 simp at g3
 show (q2.length:Int)≤n
 omega
theorem Zl3 (m:Nat) (h:m≤1000000000000):∃ n,fuel=n + m + 1:=⟨fuel - m - 1,by unfold fuel; omega⟩
theorem Zxv {t:List Int} (h:Zo4 t):(t.length:Int)<9223372036854775808:=by have:=h.1; omega
end Go.AM
set_option maxRecDepth 100000
namespace Go.AM
open Go
theorem Zm9 {ρ:Type} {L:Nat→Int→Option (Unit ⊕ ρ)} {bad:Int→Bool} {v:ρ}
  (step:∀ n (k:Int),0≤k→k<5→L (n + 1) k=if bad k=true then some (.inr v) else L n (k + 1)) (stop:∀ n,L (n + 1) 5=some (.inl ())) :
  L fuel 0=some (if (bad 0 || bad 1 || bad 2 || bad 3 || bad 4)=true then .inr v else .inl ()):=by
 rw [fuel6]
 rw [step _ 0 (by omega) (by omega),step _ (0 + 1) (by omega) (by omega),step _ (0 + 1 + 1) (by omega) (by omega),step _ (0 + 1 + 1 + 1) (by omega) (by omega),step _ (0 + 1 + 1 + 1 + 1) (by omega) (by omega)]
 rw [show (0:Int) + 1 + 1 + 1 + 1 + 1=5 from rfl,stop,show (0:Int) + 1=1 from rfl,show (1:Int) + 1=2 from rfl,show (2:Int) + 1=3 from rfl,show (3:Int) + 1=4 from rfl]
 cases bad 0 <;> cases bad 1 <;> cases bad 2 <;> cases bad 3 <;> cases bad 4 <;> rfl
theorem Zv2 {σ ρ:Type} {L:Nat→σ→Int→Option ρ} {f:σ→Int→σ} {fin:σ→ρ}
  (step:∀ n s (k:Int),0≤k→k<5→L (n + 1) s k=L n (f s k) (k + 1)) (stop:∀ n s,L (n + 1) s 5=some (fin s)) (s:σ) :
  L fuel s 0=some (fin (f (f (f (f (f s 0) 1) 2) 3) 4)):=by
 rw [fuel6]
 rw [step _ _ 0 (by omega) (by omega),step _ _ (0 + 1) (by omega) (by omega),step _ _ (0 + 1 + 1) (by omega) (by omega),step _ _ (0 + 1 + 1 + 1) (by omega) (by omega),step _ _ (0 + 1 + 1 + 1 + 1) (by omega) (by omega)]
 rw [show (0:Int) + 1 + 1 + 1 + 1 + 1=5 from rfl,stop,show (0:Int) + 1=1 from rfl,show (1:Int) + 1=2 from rfl,show (2:Int) + 1=3 from rfl,show (3:Int) + 1=4 from rfl]
theorem Zxw {σ ρ:Type} {L:Nat→σ→Int→Option ρ} {I:σ→Prop} {q:ρ→Prop}
  (step:∀ n s (k:Int),0≤k→k<5→I s→(∀ s',I s'→Ok (L n s' (k + 1)) q)→Ok (L (n + 1) s k) q) (stop:∀ n s,I s→Ok (L (n + 1) s 5) q) (s:σ) (hs:I s):Ok (L fuel s 0) q:=by
 rw [fuel6]
 refine step _ _ 0 (by omega) (by omega) hs fun s hs=>?_
 refine step _ _ 1 (by omega) (by omega) hs fun s hs=>?_
 refine step _ _ 2 (by omega) (by omega) hs fun s hs=>?_
 refine step _ _ 3 (by omega) (by omega) hs fun s hs=>?_
 refine step _ _ 4 (by omega) (by omega) hs fun s hs=>?_
 exact stop _ _ hs
theorem wsucc {i:Nat} (h:i<1000000000001):IntKind.wrap .i64 ((i:Int) + (1:Int))=((i + 1:Nat):Int):=by
 rw [wi64 (by omega) (by omega)]; omega
def findI {α ρ:Type} (g:Nat→α→Option ρ):Nat→List α→Option ρ
 | _,[]=>none
 | i,x :: xs=>match g i x with
  | some r=>some r
  | none=>findI g (i + 1) xs
def orS {ρ:Type}:Option ρ→Unit ⊕ ρ
 | some r=>.inr r
 | none=>.inl ()
theorem Zjm {α ρ:Type} {L:Nat→Int→Option (Unit ⊕ ρ)} (l:List α) (g:Nat→α→Option ρ) (hl:l.length≤1000000000000)
  (step:∀ n (i:Nat) (h:i<l.length),L (n + 1) (i:Int)=match g i l[i] with
   | some r=>some (.inr r)
   | none=>L n ((i + 1:Nat):Int))
  (stop:∀ n,L (n + 1) (l.length:Int)=some (.inl ())):L fuel 0=some (orS (findI g 0 l)):=by
 have key:∀(m n i:Nat),i + m=l.length→L (n + m + 1) (i:Int)=some (orS (findI g i (l.drop i))):=by
  intro m
  induction m with
  | zero=>
   intro n i h
   have hi:i=l.length:=by omega
   subst hi
   rw [List.drop_length]
   exact stop _
  | succ m ih=>
   intro n i h
   have hi:i<l.length:=by omega
   rw [show n + (m + 1) + 1=(n + m + 1) + 1 by omega,step _ i hi,List.drop_eq_getElem_cons hi]
   simp only [findI]
   cases hg:g i l[i] with
   | some r=>rfl
   | none=>exact ih n (i + 1) (by omega)
 obtain⟨f,hf⟩:=Zl3 l.length hl
 rw [hf]
 exact key l.length f 0 (by omega)
def foldI {α σ:Type} (f:σ→Nat→α→σ):σ→Nat→List α→σ
 | s,_,[]=>s
 | s,i,x :: xs=>foldI f (f s i x) (i + 1) xs
theorem Zfj {α σ ρ:Type} {L:Nat→σ→Int→Option ρ} (l:List α) (f:σ→Nat→α→σ) (fin:σ→ρ) (I:Nat→σ→Prop) (hl:l.length≤1000000000000)
  (step:∀ n s (i:Nat) (h:i<l.length),I i s→L (n + 1) s (i:Int)=L n (f s i l[i]) ((i + 1:Nat):Int)∧I (i + 1) (f s i l[i]))
  (stop:∀ n s,I l.length s→L (n + 1) s (l.length:Int)=some (fin s)) (s:σ) (hs:I 0 s):L fuel s 0=some (fin (foldI f s 0 l))∧I l.length (foldI f s 0 l):=by
 have key:∀(m n i:Nat) (s:σ),I i s→i + m=l.length→L (n + m + 1) s (i:Int)=some (fin (foldI f s i (l.drop i)))∧I l.length (foldI f s i (l.drop i)):=by
  intro m
  induction m with
  | zero=>
   intro n i s hs h
   have hi:i=l.length:=by omega
   subst hi
   rw [List.drop_length]
   exact⟨stop _ _ hs,hs⟩
  | succ m ih=>
   intro n i s hs h
   have hi:i<l.length:=by omega
   obtain⟨h1,h2⟩:=step (n + m + 1) s i hi hs
   rw [show n + (m + 1) + 1=(n + m + 1) + 1 by omega,h1,List.drop_eq_getElem_cons hi]
   simp only [foldI]
   exact ih n (i + 1) _ h2 (by omega)
 obtain⟨g,hg⟩:=Zl3 l.length hl
 rw [hg]
 exact key l.length g 0 s hs (by omega)
theorem Zxx {α σ ρ:Type} {L:Nat→σ→Int→Option ρ} (l:List α) (I:Nat→σ→Prop) {q:ρ→Prop} (hl:l.length≤1000000000000)
  (step:∀ n s (i:Nat),i<l.length→I i s→(∀ s',I (i + 1) s'→Ok (L n s' ((i + 1:Nat):Int)) q)→Ok (L (n + 1) s (i:Int)) q)
  (stop:∀ n s,I l.length s→Ok (L (n + 1) s (l.length:Int)) q) (s:σ) (hs:I 0 s):Ok (L fuel s 0) q:=by
 have key:∀(m n i:Nat) (s:σ),I i s→i + m=l.length→Ok (L (n + m + 1) s (i:Int)) q:=by
  intro m
  induction m with
  | zero=>
   intro n i s hs h
   have hi:i=l.length:=by omega
   subst hi
   exact stop _ _ hs
  | succ m ih=>
   intro n i s hs h
   rw [show n + (m + 1) + 1=(n + m + 1) + 1 by omega]
   exact step _ s i (by omega) hs fun s' hs'=>ih n (i + 1) s' hs' (by omega)
 obtain⟨g,hg⟩:=Zl3 l.length hl
 rw [hg]
 exact key l.length g 0 s hs (by omega)
theorem Zna {α β:Type} (g:α→β):∀(l:List α) (acc:List β) (i:Nat),foldI (fun s _ x=>s++[g x]) acc i l=acc++l.map g
 | [],acc,i=>by simp [foldI]
 | x :: xs,acc,i=>by simp only [foldI]; rw [Zna g xs]; simp
theorem Zqf {α β:Type} (g:α→List β):∀(l:List α) (acc:List β) (i:Nat),foldI (fun s _ x=>s++g x) acc i l=acc++l.flatMap g
 | [],acc,i=>by simp [foldI]
 | x :: xs,acc,i=>by simp only [foldI]; rw [Zqf g xs]; simp
end Go.AM
set_option maxRecDepth 100000
namespace Go.AM
open Go
instance decRg:DecidableEq Zb:=fun a b=>
 if h:a.Lo=b.Lo∧a.Hi=b.Hi then .isTrue (by cases a; cases b; obtain⟨h1,h2⟩:=h; simp only at h1 h2; rw [h1,h2]) else .isFalse fun e=>h (by rw [e]; exact⟨rfl,rfl⟩)
def inR (v:Int) (r:Zb):Bool:=decide (r.Lo≤v) && decide (v≤r.Hi)
def mB:List Zb→List Int→Bool
 | [],[]=>true
 | r :: b,v :: p=>inR v r && mB b p
 | _,_=>false
def mS (l:List (List Zb)) (p:List Int):Bool:=l.any (mB · p)
def atv (l:List (List Zb)) (v:Int):List (List Zb):=l.flatMap fun b=>match b with
 | r :: b'=>if inR v r then [b'] else []
 | []=>[]
def vP:List Int→List Int→Prop
 | [],[]=>True
 | t :: ts,v :: p=>0≤v∧v≤t∧vP ts p
 | _,_=>False
def vR:List Int→List Zb→Prop
 | [],[]=>True
 | t :: ts,r :: b=>0≤r.Lo∧r.Lo≤r.Hi∧r.Hi≤t∧vR ts b
 | _,_=>False
theorem Zh5 (l:List (List Zb)) (v:Int) (p:List Int):mS l (v :: p)=mS (atv l v) p:=by
 induction l with
 | nil=>rfl
 | cons b l ih=>
  have e:mS (b :: l) (v :: p)=(mB b (v :: p) || mS l (v :: p)):=rfl
  rw [e,ih]
  cases b with
  | nil=>rfl
  | cons r b=>
   have e2:atv ((r :: b) :: l) v=(if inR v r then [b] else [])++atv l v:=rfl
   rw [e2]
   unfold mS
   rw [List.any_append]
   simp only [mB]
   cases inR v r <;> simp
theorem mS_app (a b:List (List Zb)) (p:List Int):mS (a++b) p=(mS a p || mS b p):=by unfold mS; rw [List.any_append]
theorem mS_nil (p:List Int):mS [] p=false:=rfl
theorem Zxy (a b:List (List Zb)) (v:Int):atv (a++b) v=atv a v++atv b v:=by unfold atv; rw [List.flatMap_append]
theorem mS_iff {l:List (List Zb)} {p:List Int}:mS l p=true ↔ ∃ b∈l,mB b p=true:=by unfold mS; rw [List.any_eq_true]
abbrev Cell:=Zb × List (List Zb)
def gp (y x:Cell):Prop:=y.1.Hi<x.1.Lo∧(y.1.Hi + 1=x.1.Lo→y.2 ≠ x.2)
def lk (c:List Cell) (v:Int):List (List Zb):=c.flatMap fun x=>if inR v x.1 then x.2 else []
def flt (c:List Cell):List (List Zb):=c.flatMap fun x=>x.2.map (x.1 :: ·)
structure Ord (t:Int) (c:List Cell):Prop where
 pw:c.Pairwise gp
 ok:∀ x∈c,0≤x.1.Lo∧x.1.Lo≤x.1.Hi∧x.1.Hi≤t∧x.2 ≠ []
def CF:List Int→List (List Zb)→Prop
 | [],l=>l=[]∨l=[[]]
 | t :: ts,l=>∃ c,l=flt c∧Ord t c∧∀ x∈c,CF ts x.2
theorem lk_app (a b:List Cell) (v:Int):lk (a++b) v=lk a v++lk b v:=by unfold lk; rw [List.flatMap_append]
theorem Zhf (x:Cell) (b:List Cell) (v:Int):lk (x :: b) v=(if inR v x.1 then x.2 else [])++lk b v:=rfl
theorem Zfm (a b:List Cell):flt (a++b)=flt a++flt b:=by unfold flt; rw [List.flatMap_append]
theorem Zg6 (x:Cell) (b:List Cell):flt (x :: b)=x.2.map (x.1 :: ·)++flt b:=rfl
theorem Zuq (r:Zb) (v:Int):∀(l:List (List Zb)),atv (l.map (r :: ·)) v=if inR v r then l else []
 | []=>by simp [atv]
 | b :: l=>by
  have e:atv ((b :: l).map (r :: ·)) v=(if inR v r then [b] else [])++atv (l.map (r :: ·)) v:=rfl
  rw [e,Zuq r v l]
  split <;> rfl
theorem Zj5 (c:List Cell) (v:Int):atv (flt c) v=lk c v:=by
 induction c with
 | nil=>rfl
 | cons x c ih=>rw [Zg6,Zhf,Zxy,Zuq,ih]
theorem Zc1 {v:Int} {r:Zb}:inR v r=true ↔ r.Lo≤v∧v≤r.Hi:=by unfold inR; simp
theorem Znb {c:List Cell} {v:Int} (h:∀ x∈c,¬ (x.1.Lo≤v∧v≤x.1.Hi)):lk c v=[]:=by
 induction c with
 | nil=>rfl
 | cons x c ih=>
  rw [Zhf,ih fun y hy=>h y (List.mem_cons_of_mem _ hy),if_neg (by rw [Zc1]; exact h x (List.mem_cons_self ..))]; rfl
theorem Ord.tail {t:Int} {x:Cell} {c:List Cell} (h:Ord t (x :: c)):Ord t c:=⟨(List.pairwise_cons.1 h.pw).2,fun y hy=>h.ok y (List.mem_cons_of_mem _ hy)⟩
theorem lk_mem {t:Int}:∀ {c:List Cell},Ord t c→∀ {x:Cell},x∈c→∀ {v:Int},x.1.Lo≤v→v≤x.1.Hi→lk c v=x.2
 | [],_,_,h,_,_,_=>(by cases h)
 | y :: c,ho,x,hx,v,h1,h2=>by
  have hp:=List.pairwise_cons.1 ho.pw
  rw [Zhf]
  rcases List.mem_cons.1 hx with rfl | hx
  ·rw [if_pos (Zc1.2 ⟨h1,h2⟩),Znb,List.append_nil]
   intro z hz
   have:=(hp.1 z hz).1
   omega
  ·have:=(hp.1 x hx).1
   rw [if_neg (by rw [Zc1]; omega),lk_mem ho.tail hx h1 h2]; rfl
theorem Zns {c:List Cell} {v:Int} (h:lk c v ≠ []):∃ x∈c,x.1.Lo≤v∧v≤x.1.Hi:=by
 apply Classical.byContradiction
 intro hn
 exact h (Znb fun x hx hv=>hn ⟨x,hx,hv⟩)
theorem Ord.inj {t:Int}:∀ {c c':List Cell},Ord t c→Ord t c'→(∀ v,lk c v=lk c' v)→c=c'
 | [],[],_,_,_=>rfl
 | [],y :: c',_,h',h=>by
  have hy:=h'.ok y (List.mem_cons_self ..)
  have:=h y.1.Lo
  rw [lk_mem h' (List.mem_cons_self ..) (Int.le_refl _) hy.2.1] at this
  exact absurd this.symm hy.2.2.2
 | x :: c,[],h,_,he=>by
  have hy:=h.ok x (List.mem_cons_self ..)
  have:=he x.1.Lo
  rw [lk_mem h (List.mem_cons_self ..) (Int.le_refl _) hy.2.1] at this
  exact absurd this hy.2.2.2
 | x :: c,y :: c',h,h',he=>by
  have hx:=h.ok x (List.mem_cons_self ..)
  have hy:=h'.ok y (List.mem_cons_self ..)
  have px:=List.pairwise_cons.1 h.pw
  have py:=List.pairwise_cons.1 h'.pw
  have low:∀ {x:Cell} {c c':List Cell} {y:Cell},Ord t (x :: c)→Ord t (y :: c')→(∀ v,lk (x :: c) v=lk (y :: c') v)→y.1.Lo≤x.1.Lo:=by
   intro x c c' y h h' he
   have hx:=h.ok x (List.mem_cons_self ..)
   have py:=List.pairwise_cons.1 h'.pw
   have h1:=he x.1.Lo
   rw [lk_mem h (List.mem_cons_self ..) (Int.le_refl _) hx.2.1] at h1
   obtain⟨z,hz,h2,h3⟩:=Zns (c:=y :: c') (v:=x.1.Lo) (by rw [← h1]; exact hx.2.2.2)
   rcases List.mem_cons.1 hz with rfl | hz
   ·exact h2
   ·have:=(py.1 z hz).1
    have:=(h'.ok y (List.mem_cons_self ..)).2.1
    omega
  have e1:x.1.Lo=y.1.Lo:=Int.le_antisymm (low h' h fun v=>(he v).symm) (low h h' he)
  have e2:x.2=y.2:=by
   have h1:=he x.1.Lo
   rw [lk_mem h (List.mem_cons_self ..) (Int.le_refl _) hx.2.1,lk_mem h' (List.mem_cons_self ..) (by omega) (by omega)] at h1
   exact h1
  have hi:∀ {x:Cell} {c c':List Cell} {y:Cell},Ord t (x :: c)→Ord t (y :: c')→(∀ v,lk (x :: c) v=lk (y :: c') v)→x.1.Lo=y.1.Lo→x.2=y.2→¬ x.1.Hi<y.1.Hi:=by
   intro x c c' y h h' he e1 e2 hlt
   have hx:=h.ok x (List.mem_cons_self ..)
   have px:=List.pairwise_cons.1 h.pw
   have h1:=he (x.1.Hi + 1)
   rw [lk_mem h' (v:=x.1.Hi + 1) (List.mem_cons_self ..) (by omega) (by omega)] at h1
   obtain⟨z,hz,h2,h3⟩:=Zns (c:=x :: c) (v:=x.1.Hi + 1) (by rw [h1,← e2]; exact hx.2.2.2)
   rcases List.mem_cons.1 hz with rfl | hzc
   ·omega
   ·have hg:=px.1 z hzc
    rw [lk_mem h hz h2 h3,← e2] at h1
    exact hg.2 (by have:=hg.1; omega) h1.symm
  have e3:x.1.Hi=y.1.Hi:=by
   have a1:=hi h h' he e1 e2
   have a2:=hi h' h (fun v=>(he v).symm) e1.symm e2.symm
   omega
  have exy:x=y:=by
   obtain⟨⟨a,b⟩,r⟩:=x
   obtain⟨⟨a',b'⟩,r'⟩:=y
   simp only at e1 e2 e3
   subst e1 e2 e3
   rfl
  subst exy
  congr 1
  refine Ord.inj h.tail h'.tail fun v=>?_
  have h1:=he v
  rw [Zhf,Zhf] at h1
  exact List.append_cancel_left h1
theorem CF_nil:∀ ts,CF ts []
 | []=>.inl rfl
 | _ :: _=>⟨[],rfl,⟨List.Pairwise.nil,fun _ h=>(by cases h)⟩,fun _ h=>(by cases h)⟩
theorem CF_lk {ts:List Int} {t:Int} {c:List Cell} (h:Ord t c) (hc:∀ x∈c,CF ts x.2) (v:Int):CF ts (lk c v):=by
 by_cases hv:lk c v=[]
 ·rw [hv]; exact CF_nil ts
 ·obtain⟨x,hx,h1,h2⟩:=Zns hv
  rw [lk_mem h hx h1 h2]
  exact hc x hx
theorem lk_out {t:Int} {c:List Cell} (h:Ord t c) {v:Int} (hv:v<0∨t<v):lk c v=[]:=
 Znb fun x hx=>by have:=h.ok x hx; omega
theorem CF_inj:∀(ts:List Int) {l l':List (List Zb)},CF ts l→CF ts l'→(∀ p,vP ts p→mS l p=mS l' p)→l=l'
 | [],l,l',h,h',he=>by
  have:=he [] trivial
  rcases h with rfl | rfl <;> rcases h' with rfl | rfl
  ·rfl
  ·simp [mS,mB] at this
  ·simp [mS,mB] at this
  ·rfl
 | t :: ts,l,l',h,h',he=>by
  obtain⟨c,rfl,ho,hc⟩:=h
  obtain⟨c',rfl,ho',hc'⟩:=h'
  rw [Ord.inj ho ho' fun v=>?_]
  by_cases hv:0≤v∧v≤t
  ·refine CF_inj ts (CF_lk ho hc v) (CF_lk ho' hc' v) fun p hp=>?_
   have:=he (v :: p) ⟨hv.1,hv.2,hp⟩
   rw [Zh5,Zh5,Zj5,Zj5] at this
   exact this
  ·rw [lk_out ho (by omega),lk_out ho' (by omega)]
def joinC (c:List Cell) (lo hi:Int) (rest:List (List Zb)):List Cell:=
 if rest=[] then c else match c.getLast? with
  | some y=>if y.1.Hi + 1=lo∧y.2=rest then c.dropLast++[(⟨y.1.Lo,hi⟩,rest)] else c++[(⟨lo,hi⟩,rest)]
  | none=>c++[(⟨lo,hi⟩,rest)]
structure Upto (g:Int→List (List Zb)) (p:Int) (c:List Cell):Prop where
 ord:Ord (p - 1) c
 at_:∀ v,lk c v=if 0≤v∧v<p then g v else []
theorem Ord.mono {t t':Int} (h:t≤t') {c:List Cell} (ho:Ord t c):Ord t' c:=⟨ho.pw,fun x hx=>by have:=ho.ok x hx; exact⟨this.1,this.2.1,by omega,this.2.2.2⟩⟩
theorem Upto.nil (g:Int→List (List Zb)):Upto g 0 []:=⟨⟨List.Pairwise.nil,fun _ h=>(by cases h)⟩,fun v=>by rw [if_neg (by omega)]; rfl⟩
theorem Upto.inj {g:Int→List (List Zb)} {p:Int} {c c':List Cell} (h:Upto g p c) (h':Upto g p c'):c=c':=Ord.inj h.ord h'.ord fun v=>by rw [h.at_,h'.at_]
theorem lk_one (lo hi:Int) (rest:List (List Zb)) (v:Int):lk [(⟨lo,hi⟩,rest)] v=if lo≤v∧v≤hi then rest else []:=by
 rw [Zhf]
 show _++[]=_
 rw [List.append_nil]
 by_cases h:lo≤v∧v≤hi
 ·rw [if_pos h,if_pos (Zc1.2 h)]
 ·rw [if_neg h,if_neg (by rw [Zc1]; exact h)]
theorem Upto.step {g:Int→List (List Zb)} {p q:Int} {c:List Cell} (h:Upto g p c) (hp:0≤p) (hq:p<q) (hg:∀ v,p≤v→v<q→g v=g p):Upto g q (joinC c p (q - 1) (g p)):=by
 unfold joinC
 by_cases hr:g p=[]
 ·rw [if_pos hr]
  refine⟨h.ord.mono (by omega),fun v=>?_⟩
  rw [h.at_]
  by_cases h1:0≤v∧v<p
  ·rw [if_pos h1,if_pos ⟨h1.1,by omega⟩]
  ·rw [if_neg h1]
   split
   ·rw [hg v (by omega) (by omega),hr]
   ·rfl
 ·rw [if_neg hr]
  have snoc:∀(d:List Cell) (lo:Int),d.Pairwise gp→(∀ x∈d,0≤x.1.Lo∧x.1.Lo≤x.1.Hi∧x.1.Hi≤p - 1∧x.2 ≠ [])→(∀ y∈d,gp y (⟨lo,q - 1⟩,g p))→0≤lo→lo≤p →
    Ord (q - 1) (d++[(⟨lo,q - 1⟩,g p)]):=by
   intro d lo h1 h2 h3 h4 h5
   refine⟨List.pairwise_append.2 ⟨h1,List.pairwise_singleton ..,fun y hy x hx=>by rw [List.mem_singleton] at hx; subst hx; exact h3 y hy⟩,fun x hx=>?_⟩
   rcases List.mem_append.1 hx with hx | hx
   ·have:=h2 x hx
    exact⟨this.1,this.2.1,by omega,this.2.2.2⟩
   ·rw [List.mem_singleton] at hx
    subst hx
    exact⟨h4,by show lo≤q - 1; omega,by show q - 1≤q - 1; omega,hr⟩
  have look:∀ v,lk c v++(if p≤v∧v≤q - 1 then g p else [])=if 0≤v∧v<q then g v else []:=by
   intro v
   rw [h.at_]
   by_cases h1:0≤v∧v<p
   ·rw [if_pos h1,if_neg (show ¬ (p≤v∧v≤q - 1) by omega),if_pos (show 0≤v∧v<q by omega),List.append_nil]
   ·rw [if_neg h1,List.nil_append]
    by_cases h2:p≤v∧v≤q - 1
    ·rw [if_pos h2,if_pos (by omega),hg v h2.1 (by omega)]
    ·rw [if_neg h2,if_neg (by omega)]
  cases hl:c.getLast? with
  | none=>
   rw [List.getLast?_eq_none_iff] at hl
   subst hl
   refine⟨snoc [] p List.Pairwise.nil (fun _ h=>(by cases h)) (fun _ h=>(by cases h)) hp (Int.le_refl _),fun v=>?_⟩
   rw [lk_app,lk_one]
   exact look v
  | some y=>
   obtain⟨d,rfl⟩:=List.getLast?_eq_some_iff.1 hl
   have hyo:=h.ord.ok y (List.mem_append_right _ (List.mem_singleton.2 rfl))
   have hpw:=List.pairwise_append.1 h.ord.pw
   have hbe:∀ x∈d,gp x y:=fun x hx=>hpw.2.2 x hx y (List.mem_singleton.2 rfl)
   simp only
   by_cases hj:y.1.Hi + 1=p∧y.2=g p
   ·rw [if_pos hj,List.dropLast_concat]
    refine⟨snoc d y.1.Lo hpw.1 (fun x hx=>h.ord.ok x (List.mem_append_left _ hx)) (fun x hx=>⟨(hbe x hx).1,by rw [← hj.2]; exact(hbe x hx).2⟩) hyo.1 (by omega),fun v=>?_⟩
    rw [lk_app,lk_one,← look v,lk_app,List.append_assoc]
    congr 1
    obtain⟨⟨ylo,yhi⟩,yr⟩:=y
    rw [lk_one]
    simp only at hj hyo ⊢
    obtain⟨h1,rfl⟩:=hj
    by_cases h2:ylo≤v∧v≤yhi
    ·rw [if_pos h2,if_neg (show ¬ (p≤v∧v≤q - 1) by omega),if_pos (show ylo≤v∧v≤q - 1 by omega),List.append_nil]
    ·rw [if_neg h2,List.nil_append]
     by_cases h3:p≤v∧v≤q - 1
     ·rw [if_pos h3,if_pos (show ylo≤v∧v≤q - 1 by omega)]
     ·rw [if_neg h3,if_neg (show ¬ (ylo≤v∧v≤q - 1) by omega)]
   ·rw [if_neg hj]
    refine⟨snoc (d++[y]) p h.ord.pw h.ord.ok (fun x hx=>⟨?_,fun e1 e2=>?_⟩) hp (Int.le_refl _),fun v=>?_⟩
    ·have:=h.ord.ok x hx
     show x.1.Hi<p
     omega
    ·simp only at e1 e2
     rcases List.mem_append.1 hx with hx | hx
     ·have:=(hbe x hx).1
      omega
     ·rw [List.mem_singleton] at hx
      subst hx
      exact hj ⟨e1,e2⟩
    ·rw [lk_app,lk_one]
     exact look v
theorem Upto.exists_ (g:Int→List (List Zb)):∀ n:Nat,∃ c,Upto g n c
 | 0=>⟨[],Upto.nil g⟩
 | n + 1=>by
  obtain⟨c,h⟩:=Upto.exists_ g n
  refine⟨_,h.step (q:=((n + 1:Nat):Int)) (by omega) (by omega) fun v h1 h2=>?_⟩
  rw [show v=(n:Int) by omega]
structure Is (op:Bool→Bool→Bool) (ts:List Int) (a b l:List (List Zb)):Prop where
 cf:CF ts l
 mem:∀ p,vP ts p→mS l p=op (mS a p) (mS b p)
theorem Is.inj {op:Bool→Bool→Bool} {ts:List Int} {a b l l':List (List Zb)} (h:Is op ts a b l) (h':Is op ts a b l'):l=l':=
 CF_inj ts h.cf h'.cf fun p hp=>by rw [h.mem p hp,h'.mem p hp]
theorem Is.exists_ (op:Bool→Bool→Bool):∀(ts:List Int),(∀ t∈ts,0≤t)→∀ a b,∃ l,Is op ts a b l
 | [],_,a,b=>by
  by_cases h:op (mS a []) (mS b [])=true
  ·exact⟨[[]],.inr rfl,fun p hp=>by cases p with | nil=>rw [h]; rfl | cons _ _=>exact hp.elim⟩
  ·exact⟨[],.inl rfl,fun p hp=>by cases p with | nil=>rw [Bool.not_eq_true] at h; rw [h]; rfl | cons _ _=>exact hp.elim⟩
 | t :: ts,ht,a,b=>by
  have ih:=fun v=>Is.exists_ op ts (fun x hx=>ht x (List.mem_cons_of_mem _ hx)) (atv a v) (atv b v)
  have h0:=ht t (List.mem_cons_self ..)
  obtain⟨c,hc⟩:=Upto.exists_ (fun v=>(ih v).choose) (t + 1).toNat
  have hg:=fun v=>(ih v).choose_spec
  refine⟨flt c,⟨c,rfl,hc.ord.mono (by omega),fun x hx=>?_⟩,fun p hp=>?_⟩
  ·have hx2:=hc.ord.ok x hx
   have:=hc.at_ x.1.Lo
   rw [lk_mem hc.ord hx (Int.le_refl _) hx2.2.1,if_pos (by omega)] at this
   rw [this]
   exact(hg _).cf
  ·cases p with
   | nil=>exact hp.elim
   | cons v p=>
    rw [Zh5,Zj5,hc.at_,if_pos (by have:=hp.1; have:=hp.2.1; omega),(hg v).mem p hp.2.2,Zh5,Zh5]
theorem Is.at_ {op:Bool→Bool→Bool} {t:Int} {ts:List Int} {a b:List (List Zb)} {c:List Cell} (ho:Ord t c) (hc:∀ x∈c,CF ts x.2) (h:Is op (t :: ts) a b (flt c)) {v:Int} (h0:0≤v) (h1:v≤t) :
  Is op ts (atv a v) (atv b v) (lk c v):=
 ⟨CF_lk ho hc v,fun p hp=>by have:=h.mem (v :: p) ⟨h0,h1,hp⟩; rw [Zh5,Zh5,Zh5,Zj5] at this; exact this⟩
end Go.AM
set_option maxRecDepth 100000
namespace Go.AM
open Go
def runC (g:Int→List (List Zb)):List Cell→List Int→List Cell
 | c,p :: q :: ps=>runC g (joinC c p (q - 1) (g p)) (q :: ps)
 | c,[_]=>c
 | c,[]=>c
theorem Zf0 (r:Zb) (rest:List (List Zb)):(flt [(r,rest)]).length=rest.length:=by
 simp [flt]
theorem Zv3 (c:List Cell) (lo hi:Int) (rest:List (List Zb)):(flt c).length≤(flt (joinC c lo hi rest)).length∧(flt (joinC c lo hi rest)).length≤(flt c).length + rest.length:=by
 unfold joinC
 split
 ·omega
 ·split
  ·rename_i y hl
   obtain⟨d,rfl⟩:=List.getLast?_eq_some_iff.1 hl
   split
   ·rename_i hj
    rw [List.dropLast_concat,Zfm,Zfm,List.length_append,List.length_append,Zf0]
    obtain⟨yr,yrest⟩:=y
    rw [Zf0]
    have:=congrArg List.length hj.2
    simp only at this ⊢
    omega
   ·rw [Zfm (d++[y]),List.length_append,Zf0]; omega
  ·rw [Zfm,List.length_append,Zf0]; omega
theorem Zrs (g:Int→List (List Zb)):∀(ps:List Int) (c:List Cell),(flt c).length≤(flt (runC g c ps)).length
 | [],_=>Nat.le_refl _
 | [_],_=>Nat.le_refl _
 | p :: q :: ps,c=>Nat.le_trans (Zv3 c p (q - 1) (g p)).1 (Zrs g (q :: ps) _)
def Steps (g:Int→List (List Zb)):List Int→Prop
 | p :: q :: ps=>p<q∧(∀ v,p≤v→v<q→g v=g p)∧Steps g (q :: ps)
 | [_]=>True
 | []=>False
theorem Upto.run {g:Int→List (List Zb)}:∀ {ps:List Int} {p:Int} {c:List Cell},0≤p→Steps g (p :: ps)→Upto g p c→∃ q,(p :: ps).getLast? = some q∧Upto g q (runC g c (p :: ps))
 | [],p,c,_,_,h=>⟨p,rfl,h⟩
 | q :: ps,p,c,h0,hs,h=>by
  obtain⟨h1,h2,h3⟩:=hs
  obtain⟨z,hz,hu⟩:=Upto.run (ps:=ps) (p:=q) (by omega) h3 (h.step h0 h1 h2)
  exact⟨z,by rw [List.getLast?_cons_cons]; exact hz,hu⟩
theorem Zxz {g:Int→List (List Zb)} {t:Int} {c:List Cell} {ps:List Int} (hs:Steps g (0 :: ps)) (hl:(0 :: ps).getLast? = some (t + 1)) (ho:Ord t c) (hg:∀ v,0≤v→v≤t→lk c v=g v):runC g [] (0 :: ps)=c:=by
 obtain⟨q,h1,h2⟩:=Upto.run (Int.le_refl 0) hs (Upto.nil g)
 rw [hl,Option.some.injEq] at h1
 subst h1
 refine Ord.inj (h2.ord.mono (t':=t) (by omega)) ho fun v=>?_
 rw [h2.at_]
 by_cases hv:0≤v∧v<t + 1
 ·rw [if_pos hv,hg v hv.1 (by omega)]
 ·rw [if_neg hv,lk_out ho (by omega)]
def Cut (ps:List Int) (l:List (List Zb)):Prop:=∀ b∈l,∀ r b',b=r :: b'→r.Lo∈ps∧r.Hi + 1∈ps
theorem Zwu {l:List (List Zb)} {p q:Int} (h:∀ b∈l,∀ r b',b=r :: b'→¬ (p<r.Lo∧r.Lo<q)∧¬ (p<r.Hi + 1∧r.Hi + 1<q)) {v:Int} (h1:p≤v) (h2:v<q):atv l v=atv l p:=by
 unfold atv
 induction l with
 | nil=>rfl
 | cons b l ih=>
  rw [List.flatMap_cons,List.flatMap_cons,ih fun x hx=>h x (List.mem_cons_of_mem _ hx)]
  congr 1
  cases b with
  | nil=>rfl
  | cons r b=>
   have hb:=h (r :: b) (List.mem_cons_self ..) r b rfl
   have:inR v r=inR p r:=by
    rw [Bool.eq_iff_iff,Zc1,Zc1]
    omega
   simp only [this]
theorem Zr7:∀ {ps:List Int},ps.Pairwise (·<·)→∀ {i:Nat} (h:i + 1<ps.length),∀ x∈ps,¬ (ps[i]<x∧x<ps[i + 1]):=by
 intro ps hp i h x hx hc
 obtain⟨j,hj,rfl⟩:=List.getElem_of_mem hx
 have hm:=List.pairwise_iff_getElem.1 hp
 rcases Nat.lt_trichotomy j i with h1 | h1 | h1
 ·have:=hm j i hj (by omega) h1; omega
 ·subst h1; omega
 ·rcases Nat.lt_or_eq_of_le (show i + 1≤j by omega) with h2 | h2
  ·have:=hm (i + 1) j (by omega) hj h2; omega
  ·subst h2; omega
theorem Zs4 {g:Int→List (List Zb)}:∀ {ps:List Int},ps ≠ []→ps.Pairwise (·<·)→(∀ i (h:i + 1<ps.length),∀ v,ps[i]≤v→v<ps[i + 1]→g v=g ps[i])→Steps g ps
 | [],h,_,_=>h rfl
 | [_],_,_,_=>trivial
 | p :: q :: ps,_,hp,hg=>by
  refine⟨(List.pairwise_cons.1 hp).1 q (List.mem_cons_self ..),fun v h1 h2=>hg 0 (by simp) v h1 h2,Zs4 (List.cons_ne_nil _ _) (List.pairwise_cons.1 hp).2 fun i h v h1 h2=>?_⟩
  have:=hg (i + 1) (by simp at h ⊢; omega) v
  simpa using this h1 h2
structure Nx (t:Int) (ts:List Int) (last:Option Cell) (c:List Cell):Prop where
 ord:Ord t c
 cf:∀ x∈c,CF ts x.2
 gap:∀ y∈last,∀ x∈c,gp y x
theorem Nx.nil (t:Int) (ts:List Int) (last:Option Cell):Nx t ts last []:=⟨⟨List.Pairwise.nil,fun _ h=>(by cases h)⟩,fun _ h=>(by cases h),fun _ _ _ h=>(by cases h)⟩
theorem CF_iff {t:Int} {ts:List Int} {l:List (List Zb)}:CF (t :: ts) l ↔ ∃ c,l=flt c∧Nx t ts none c:=
 ⟨fun⟨c,h1,h2,h3⟩=>⟨c,h1,h2,h3,fun _ h=>(by cases h)⟩,fun⟨c,h1,h2⟩=>⟨c,h1,h2.ord,h2.cf⟩⟩
theorem Nx.run {t:Int} {ts:List Int} {last:Option Cell} {r:Zb} {run:List (List Zb)} {l:List (List Zb)} (hrun:run ≠ []) (hl:∀ b,l.head? = some b→∃ r' b',b=r' :: b'∧r' ≠ r) :
  (∃ c,run.map (r :: ·)++l=flt c∧Nx t ts last c) ↔ (0≤r.Lo∧r.Lo≤r.Hi∧r.Hi≤t)∧CF ts run∧(∀ y∈last,gp y (r,run))∧∃ c,l=flt c∧Nx t ts (some (r,run)) c:=by
 constructor
 ·rintro⟨c,hc,hn⟩
  cases c with
  | nil=>
   have:run.map (r :: ·)=[]:=(List.append_eq_nil_iff.1 hc).1
   simp at this
   exact absurd this hrun
  | cons x c=>
   rw [Zg6] at hc
   have hx:=hn.ord.ok x (List.mem_cons_self ..)
   have hp:=List.pairwise_cons.1 hn.ord.pw
   have key:∀(u w:List (List Zb)) (l l':List (List Zb)),u ≠ []→w ≠ []→(∀ b,l.head? = some b→∃ r' b',b=r' :: b'∧r' ≠ r)→(∀ b,l'.head? = some b→∃ r' b',b=r' :: b'∧r' ≠ x.1) →
     u.map (r :: ·)++l=w.map (x.1 :: ·)++l'→r=x.1∧u=w∧l=l':=by
    intro u w l l' hu hw g1 g2 he
    have hr:r=x.1:=by
     cases u with
     | nil=>exact absurd rfl hu
     | cons b u=>cases w with
      | nil=>exact absurd rfl hw
      | cons d w=>
       simp only [List.map_cons,List.cons_append,List.cons.injEq] at he
       exact he.1.1
    refine⟨hr,?_⟩
    rw [← hr] at he g2
    clear hu hw
    induction u generalizing w with
    | nil=>cases w with
     | nil=>exact⟨rfl,by simpa using he⟩
     | cons d w=>
      simp only [List.map_nil,List.nil_append,List.map_cons,List.cons_append] at he
      obtain⟨r',b',e1,e2⟩:=g1 (r :: d) (by rw [he]; rfl)
      simp only [List.cons.injEq] at e1
      exact absurd e1.1.symm e2
    | cons b u ih=>cases w with
     | nil=>
      simp only [List.map_nil,List.nil_append,List.map_cons,List.cons_append] at he
      obtain⟨r',b',e1,e2⟩:=g2 (r :: b) (by rw [← he]; rfl)
      simp only [List.cons.injEq] at e1
      exact absurd e1.1.symm e2
     | cons d w=>
      simp only [List.map_cons,List.cons_append,List.cons.injEq,true_and] at he
      obtain⟨i1,i2⟩:=ih w he.2
      exact⟨by rw [he.1,i1],i2⟩
   have hnext:∀ b,(flt c).head? = some b→∃ r' b',b=r' :: b'∧r' ≠ x.1:=by
    intro b hb
    cases c with
    | nil=>simp [flt] at hb
    | cons z c=>
     have hz:=hn.ord.ok z (List.mem_cons_of_mem _ (List.mem_cons_self ..))
     rw [Zg6] at hb
     cases hz2:z.2 with
     | nil=>exact absurd hz2 hz.2.2.2
     | cons d w=>
      rw [hz2] at hb
      simp only [List.map_cons,List.cons_append,List.head?_cons,Option.some.injEq] at hb
      refine⟨z.1,d,hb.symm,fun e=>?_⟩
      have:=(hp.1 z (List.mem_cons_self ..)).1
      rw [e] at this
      omega
   obtain⟨e1,e2,e3⟩:=key run x.2 l (flt c) hrun hx.2.2.2 hl hnext hc
   subst e1 e2 e3
   exact⟨⟨hx.1,hx.2.1,hx.2.2.1⟩,hn.cf x (List.mem_cons_self ..),fun y hy=>hn.gap y hy x (List.mem_cons_self ..),c,rfl,hn.ord.tail,fun z hz=>hn.cf z (List.mem_cons_of_mem _ hz),fun y hy z hz=>by
    have:x=y:=by simpa using hy
    subst this
    exact hp.1 z hz⟩
 ·rintro⟨h1,h2,h3,c,rfl,hn⟩
  refine⟨(r,run) :: c,rfl,⟨List.pairwise_cons.2 ⟨fun z hz=>hn.gap _ rfl z hz,hn.ord.pw⟩,fun x hx=>?_⟩,fun x hx=>?_,fun y hy x hx=>?_⟩
  ·rcases List.mem_cons.1 hx with rfl | hx
   ·exact⟨h1.1,h1.2.1,h1.2.2,hrun⟩
   ·exact hn.ord.ok x hx
  ·rcases List.mem_cons.1 hx with rfl | hx
   ·exact h2
   ·exact hn.cf x hx
  ·rcases List.mem_cons.1 hx with rfl | hx
   ·exact h3 y hy
   ·have g1:=h3 y hy
    have g2:=hn.gap _ rfl x hx
    have g3:=g1.1
    have g4:=g2.1
    simp only at g3 g4
    exact⟨by omega,fun e=>by omega⟩
end Go.AM
set_option maxRecDepth 100000
namespace Go.AM
open Go
theorem Z2 {d:Array Int} {n i:Nat} (hn:d.size=n) (h:i<n):idxn n d.toList (i:Int)=some d[i]!:=by
 have hi:i<d.size:=by omega
 unfold idxn
 rw [if_pos ⟨by omega,by omega⟩]
 simp [AM.idx,hi]
theorem Zwv (d:Array Int) (i:Nat) (x:Int):d.toList.set i x=(d.setIfInBounds i x).toList:=by simp
theorem Zd3 {d:Array Int} {n i j:Nat} {x:Int} (hn:d.size=n) (h:j<n):∃ y,idxn n (d.toList.set i x) (j:Int)=some y:=by
 rw [Zwv]
 exact⟨_,Z2 (by simpa using hn) h⟩
theorem Zd8 (d:Array Int) (i j:Nat):(d.toList.set i d[j]!).set j d[i]! = (Sort.swp d i j).toList:=by
 unfold Sort.swp; simp
theorem swp_sz (d:Array Int) (i j:Nat):(Sort.swp d i j).size=d.size:=Sort.swp_size d i j
theorem Zen (x y:Int):Zab x y=some (Sort.ltInt x y):=by
 unfold Zab Zez Sort.ltInt
 simp
abbrev sB:Nat:=1000000000
theorem wpred {j:Nat} (h:j + 1<1000000000000):IntKind.wrap .i64 (((j + 1:Nat):Int) - (1:Int))=(j:Int):=by
 rw [wi64 (by omega) (by omega)]; omega
theorem wsuc {j:Nat} (h:j + 1<1000000000000):IntKind.wrap .i64 ((j:Int) + (1:Int))=((j + 1:Nat):Int):=by
 rw [wi64 (by omega) (by omega)]; omega
theorem wadd {i j:Nat} (h:i + j<1000000000000):IntKind.wrap .i64 ((i:Int) + (j:Int))=((i + j:Nat):Int):=by
 rw [wi64 (by omega) (by omega)]; omega
theorem wsub {i j:Nat} (h:i<1000000000000) (hj:j≤i):IntKind.wrap .i64 ((i:Int) - (j:Int))=((i - j:Nat):Int):=by
 rw [wi64 (by omega) (by omega)]; omega
theorem Zoo {n a:Nat} (hB:n≤sB):∀(j m:Nat) (d:Array Int),d.size=n→j<n→j<m→Zaj n (a:Int) m d.toList (j:Int)=some (Sort.insInner Sort.ltInt a j d).toList
 | 0,m + 1,d,hd,hj,hm=>by
  rw [Zaj,decide_eq_false (by omega)]
  simp [Sort.insInner]
 | j + 1,m + 1,d,hd,hj,hm=>by
  have ih:=Zoo (a:=a) hB j m
  rw [Zaj,Sort.insInner]
  unfold sB at hB
  simp only [wpred (show j + 1<1000000000000 by omega),Z2 hd hj,Z2 hd (show j<n by omega),Option.bind_some,Zen,Int.toNat_natCast]
  by_cases h:j + 1 > a
  ·have h':((j + 1:Nat):Int) > (a:Int):=by omega
   simp only [decide_eq_true h,decide_eq_true h',if_true,Option.bind_some,Bool.true_and]
   cases hl:Sort.ltInt d[j + 1]! d[j]! with
   | false=>simp
   | true=>
    obtain⟨y,hy⟩:=Zd3 (i:=j + 1) (x:=d[j]!) hd (show j<n by omega)
    simp only [if_true,hy,Option.bind_some,Zd8]
    exact ih _ (by rw [swp_sz,hd]) (by omega) (by omega)
  ·have h':¬ ((j + 1:Nat):Int) > (a:Int):=by omega
   rw [decide_eq_false h,decide_eq_false h']
   simp
theorem Zt2 {n a b:Nat} (hB:n≤sB) (hb:b≤n):∀(k i m:Nat) (d:Array Int),d.size=n→b - i=k→k<m→i≤sB + 1→Zak n (a:Int) (b:Int) m d.toList (i:Int)=some (Sort.insOuter Sort.ltInt a b i d).toList:=by
 unfold sB at hB
 intro k
 induction k with
 | zero=>
  intro i m d hd hk hm hi
  cases m with
  | zero=>omega
  | succ m=>
  rw [Zak,Sort.insOuter,if_neg (by simp; omega),if_neg (by omega)]
 | succ k ih=>
  intro i m d hd hk hm hi
  cases m with
  | zero=>omega
  | succ m=>
  rw [Zak,Sort.insOuter,if_pos (by simp; omega),if_pos (by omega)]
  rw [Zoo (a:=a) (show n≤sB by unfold sB; omega) i fuel d hd (by omega) (by unfold fuel; omega)]
  simp only [Option.bind_some]
  unfold sB at hi
  rw [wsuc (by omega)]
  refine ih (i + 1) m _ ?_ (by omega) (by omega) (by unfold sB; omega)
  exact insInner_sz _ _ hd
where
 insInner_sz {n a:Nat}:∀(j:Nat) (d:Array Int),d.size=n→(Sort.insInner Sort.ltInt a j d).size=n
  | 0,d,hd=>hd
  | j + 1,d,hd=>by
   rw [Sort.insInner]
   split
   ·exact insInner_sz j _ (by rw [swp_sz,hd])
   ·exact hd
theorem Zpa {n a b:Nat} (hB:n≤sB) (hb:b≤n) (hab:a≤b) {d:Array Int} (hd:d.size=n):Zbw n d.toList (a:Int) (b:Int)=some (Sort.insertionSort Sort.ltInt d a b).toList:=by
 unfold Zbw Sort.insertionSort
 have h:(a:Int) + 1=((a + 1:Nat):Int):=by omega
 unfold sB at hB
 rw [wsuc (by omega),Zt2 (show n≤sB by unfold sB; omega) hb (b - (a + 1)) (a + 1) fuel d hd rfl (by unfold fuel; omega) (by unfold sB; omega)]
 rfl
def sTail (a0:Nat) (a3 a4:Int) (n95:Nat) (v46:List Int) (v47 v109:Int):Option (List Int ⊕ List Int):=
    (idxn a0 v46 (IntKind.wrap .i64 (a4 + v47))).bind fun(x124:Int)=>
    (idxn a0 v46 (IntKind.wrap .i64 (a4 + v109))).bind fun(x126:Int)=>
    (Zab x124 x126).bind fun(r128:Bool)=>
    if (!r128)=true then
     some (.inr v46)
    else
     (idxn a0 v46 (IntKind.wrap .i64 (a4 + v109))).bind fun(x130:Int)=>
     (idxn a0 v46 (IntKind.wrap .i64 (a4 + v47))).bind fun(x132:Int)=>
     (idxn a0 v46 (IntKind.wrap .i64 (a4 + v47))).bind fun(_:Int)=>
     (idxn a0 (List.set v46 (Int.toNat (IntKind.wrap .i64 (a4 + v47))) x130) (IntKind.wrap .i64 (a4 + v109))).bind fun(_:Int)=>
     Zae a0 a3 a4 n95 (List.set (List.set v46 (Int.toNat (IntKind.wrap .i64 (a4 + v47))) x130) (Int.toNat (IntKind.wrap .i64 (a4 + v109))) x132) v109
def outS (l:List Int) (o:List Int ⊕ List Int):Prop:=o=.inl l∨o=.inr l
theorem Zww {n hi first root c m:Nat} (hB:n≤sB) (hf:first + hi≤n) (hr:root<hi) (hc:c<hi) {d:Array Int} (hd:d.size=n) {r:Array Int}
  (ih:Sort.ltInt d[first + root]! d[first + c]! = true→Ok (Zae n (hi:Int) (first:Int) m (Sort.swp d (first + root) (first + c)).toList (c:Int)) (outS r.toList)) (hs:Sort.ltInt d[first + root]! d[first + c]! = false→r=d) :
  Ok (sTail n (hi:Int) (first:Int) m d.toList (root:Int) (c:Int)) (outS r.toList):=by
 unfold sB at hB
 unfold sTail
 rw [wadd (i:=first) (j:=root) (by omega),wadd (i:=first) (j:=c) (by omega)]
 simp only [Z2 hd (show first + root<n by omega),Z2 hd (show first + c<n by omega),Option.bind_some,Zen,Int.toNat_natCast]
 cases hl:Sort.ltInt d[first + root]! d[first + c]! with
 | false=>rw [hs hl]; exact⟨_,rfl,Or.inr rfl⟩
 | true=>
  obtain⟨y,hy⟩:=Zd3 (i:=first + root) (x:=d[first + c]!) hd (show first + c<n by omega)
  simp only [Bool.not_true,Bool.false_eq_true,if_false,hy,Option.bind_some,Zd8]
  exact ih hl
theorem Zt3 {n hi first:Nat} (hB:n≤sB) (hf:first + hi≤n):∀(k root m:Nat) (d:Array Int),d.size=n→hi - root≤k→k<m→root≤n →
  Ok (Zae n (hi:Int) (first:Int) m d.toList (root:Int)) (outS (Sort.siftDown Sort.ltInt hi first root d).toList):=by
 intro k
 induction k with
 | zero=>
  intro root m d hd hk hm hr
  cases m with
  | zero=>omega
  | succ m=>
  unfold sB at hB
  rw [Zae,Sort.siftDown,dif_pos (by omega),if_pos]
  ·exact⟨_,rfl,Or.inl rfl⟩
  ·rw [wi64 (x:=2 * (root:Int)) (by omega) (by omega),wi64 (by omega) (by omega)]; exact decide_eq_true (by omega)
 | succ k ih=>
  intro root m d hd hk hm hr
  cases m with
  | zero=>omega
  | succ m=>
  have hB':=hB
  unfold sB at hB
  have e1:IntKind.wrap .i64 (IntKind.wrap .i64 (2 * (root:Int)) + 1)=((2 * root + 1:Nat):Int):=by
   rw [wi64 (x:=2 * (root:Int)) (by omega) (by omega),wi64 (by omega) (by omega)]; omega
  rw [Zae,Sort.siftDown]
  rw [e1]
  by_cases h:2 * root + 1 ≥ hi
  ·rw [dif_pos h,if_pos (decide_eq_true (by omega))]
   exact⟨_,rfl,Or.inl rfl⟩
  ·rw [dif_neg h,if_neg (by simp; omega)]
   have hst:∀ c:Nat,c<hi→root<c→Ok (sTail n (hi:Int) (first:Int) m d.toList (root:Int) (c:Int)) (outS (if (!Sort.ltInt d[first + root]! d[first + c]!)=true then d else Sort.siftDown Sort.ltInt hi first c (Sort.swp d (first + root) (first + c))).toList):=fun c hc hrc=>by
    refine Zww hB' hf (by omega) hc hd (fun hl=>?_) (fun hl=>?_)
    ·rw [hl]
     simp only [Bool.not_true,Bool.false_eq_true,if_false]
     exact ih c m _ (by rw [swp_sz,hd]) (by omega) (by omega) (by omega)
    ·rw [hl]; rfl
   have e2:IntKind.wrap .i64 (((2 * root + 1:Nat):Int) + 1)=((2 * root + 2:Nat):Int):=wsuc (by omega)
   have e3:IntKind.wrap .i64 (IntKind.wrap .i64 ((first:Int) + ((2 * root + 1:Nat):Int)) + 1)=((first + (2 * root + 1) + 1:Nat):Int):=by
    rw [wadd (by omega)]; exact wsuc (by omega)
   have e4:IntKind.wrap .i64 ((first:Int) + ((2 * root + 1:Nat):Int))=((first + (2 * root + 1):Nat):Int):=wadd (by omega)
   rw [e2,e3,e4]
   by_cases h2:2 * root + 1 + 1<hi
   ·have h2':((2 * root + 2:Nat):Int)<(hi:Int):=by omega
    simp only [decide_eq_true h2,decide_eq_true h2',Option.bind_some,if_true,Z2 hd (show first + (2 * root + 1)<n by omega),Z2 hd (show first + (2 * root + 1) + 1<n by omega),Zen,Bool.true_and]
    cases hl:Sort.ltInt d[first + (2 * root + 1)]! d[first + (2 * root + 1) + 1]! with
    | false=>
     simp only [Bool.false_eq_true,if_false,Option.bind_some]
     have q:=hst (2 * root + 1) (by omega) (by omega)
     simp only [sTail,Zen,Option.bind_some] at q
     exact q
    | true=>
     simp only [if_true,Option.bind_some,dif_pos (show 2 * root + 2<hi from h2)]
     have q:=hst (2 * root + 2) (by omega) (by omega)
     simp only [sTail,Zen,Option.bind_some] at q
     exact q
   ·have h2':¬ ((2 * root + 2:Nat):Int)<(hi:Int):=by omega
    simp only [decide_eq_false h2,decide_eq_false h2',Option.bind_some,Bool.false_eq_true,if_false,Bool.false_and]
    exact hst (2 * root + 1) (by omega) (by omega)
theorem Zq3 {n hi first:Nat}:∀(k root:Nat) (d:Array Int),d.size=n→hi - root≤k→(Sort.siftDown Sort.ltInt hi first root d).size=n:=by
 intro k
 induction k with
 | zero=>intro root d hd hk; rw [Sort.siftDown,dif_pos (by omega)]; exact hd
 | succ k ih=>
  intro root d hd hk
  rw [Sort.siftDown]
  split
  ·exact hd
  ·split
   ·split
    ·exact hd
    ·split
     ·exact ih _ _ (by rw [swp_sz,hd]) (by omega)
     ·exact hd
   ·split
    ·exact hd
    ·exact ih _ _ (by rw [swp_sz,hd]) (by omega)
theorem Zqg {n hi first root:Nat} (hB:n≤sB) (hf:first + hi≤n) (hr:root≤n) {d:Array Int} (hd:d.size=n):Zbv n d.toList (root:Int) (hi:Int) (first:Int)=some (Sort.siftDown Sort.ltInt hi first root d).toList:=by
 unfold Zbv
 obtain⟨o,e,ho⟩:=Zt3 hB hf (hi - root) root fuel d hd (Nat.le_refl _) (by unfold fuel; unfold sB at hB; omega) hr
 rw [e]
 rcases ho with rfl | rfl <;> rfl
theorem Znc {n a b:Nat} (hB:n≤sB) (hab:a≤b) (hb:b≤n):∀(k m:Nat) (d:Array Int),d.size=n→k≤n + 1→k<m →
  Zay n (a:Int) (b:Int) m d.toList ((k:Int) - 1)=some (Sort.heapBuild Sort.ltInt (b - a) a k d).toList
 | 0,m + 1,d,hd,hk,hm=>by
  rw [Zay,if_neg (by simp)]; rfl
 | k + 1,m + 1,d,hd,hk,hm=>by
  have hB':=hB
  unfold sB at hB
  rw [Zay,if_pos (decide_eq_true (by omega)),show ((k + 1:Nat):Int) - 1=(k:Int) by omega,wsub (by omega) hab,Zqg hB' (by omega) (by omega) hd]
  simp only [Option.bind_some]
  rw [wi64 (by omega) (by omega),Sort.heapBuild]
  exact Znc hB' hab hb k m _ (Zq3 _ _ _ hd (Nat.le_refl _)) (by omega) (by omega)
theorem Zqh {n a b:Nat} (hB:n≤sB) (hb:b≤n):∀(k m:Nat) (d:Array Int),d.size=n→a + k≤b→k<m →
  Zaz n (a:Int) m d.toList ((k:Int) - 1)=some (Sort.heapPop Sort.ltInt a k d).toList
 | 0,m + 1,d,hd,hk,hm=>by
  rw [Zaz,if_neg (by simp)]; rfl
 | k + 1,m + 1,d,hd,hk,hm=>by
  have hB':=hB
  unfold sB at hB
  rw [Zaz,if_pos (decide_eq_true (by omega)),show ((k + 1:Nat):Int) - 1=(k:Int) by omega,wadd (by omega)]
  obtain⟨y,hy⟩:=Zd3 (i:=a) (x:=d[a + k]!) hd (show a + k<n by omega)
  simp only [Z2 hd (show a + k<n by omega),Z2 hd (show a<n by omega),Option.bind_some,Int.toNat_natCast,hy,Zd8]
  have e:=Zqg (root:=0) (hi:=k) (first:=a) hB' (by omega) (by omega) (show (Sort.swp d a (a + k)).size=n by rw [swp_sz,hd])
  rw [show ((0:Nat):Int)=0 from rfl] at e
  rw [e]
  simp only [Option.bind_some]
  rw [wi64 (by omega) (by omega),Sort.heapPop]
  exact Zqh hB' hb k m _ (Zq3 _ _ _ (by rw [swp_sz,hd]) (Nat.le_refl _)) (by omega) (by omega)
theorem Zrt {n hi first:Nat}:∀(k:Nat) (d:Array Int),d.size=n→(Sort.heapBuild Sort.ltInt hi first k d).size=n
 | 0,_,hd=>hd
 | k + 1,d,hd=>by rw [Sort.heapBuild]; exact Zrt k _ (Zq3 _ _ _ hd (Nat.le_refl _))
theorem Zt4 {n a b:Nat} (hB:n≤sB) (hab:a<b) (hb:b≤n) {d:Array Int} (hd:d.size=n):Zce n d.toList (a:Int) (b:Int)=some (Sort.heapSort Sort.ltInt d a b).toList:=by
 have hB':=hB
 unfold sB at hB
 unfold Zce Sort.heapSort
 have e:IntKind.wrap .i64 (Int.tdiv (IntKind.wrap .i64 (IntKind.wrap .i64 ((b:Int) - (a:Int)) - 1)) 2)=(((b - a - 1) / 2 + 1:Nat):Int) - 1:=by
  rw [wsub (by omega) (by omega),wi64 (x:=((b - a:Nat):Int) - 1) (by omega) (by omega)]
  rw [Int.tdiv_eq_ediv_of_nonneg (by omega),wi64 (by omega) (by omega)]
  omega
 rw [e,Znc hB' (by omega) hb _ _ _ hd (by omega) (by unfold fuel; omega)]
 simp only [Option.bind_some]
 rw [wsub (by omega) (by omega),wi64 (x:=((b - a:Nat):Int) - 1) (by omega) (by omega),Zqh hB' hb (b - a) fuel _ (Zrt _ _ hd) (by omega) (by unfold fuel; omega)]
 rfl
end Go.AM
set_option maxRecDepth 100000
namespace Go.AM
open Go
theorem Zve {n:Nat} (hB:n≤sB):∀(k i j m:Nat) (d:Array Int),d.size=n→j - i≤k→k<m→j<n→i≤n →
  Zal n m d.toList (i:Int) (j:Int)=some (Sort.reverseLoop i j d).toList:=by
 intro k
 induction k with
 | zero=>
  intro i j m d hd hk hm hj hi
  cases m with
  | zero=>omega
  | succ m=>rw [Zal,Sort.reverseLoop,if_neg (by simp; omega),if_neg (by omega)]
 | succ k ih=>
  intro i j m d hd hk hm hj hi
  cases m with
  | zero=>omega
  | succ m=>
  have hB':=hB
  unfold sB at hB
  rw [Zal,Sort.reverseLoop]
  by_cases h:i<j
  ·rw [if_pos (decide_eq_true (by omega)),if_pos h]
   obtain⟨y,hy⟩:=Zd3 (i:=i) (x:=d[j]!) hd hj
   simp only [Z2 hd hj,Z2 hd (show i<n by omega),Option.bind_some,Int.toNat_natCast,hy,Zd8]
   obtain⟨j',rfl⟩:∃ j',j=j' + 1:=⟨j - 1,by omega⟩
   rw [wsuc (by omega),wpred (by omega)]
   exact ih (i + 1) j' m _ (by rw [swp_sz,hd]) (by omega) (by omega) (by omega) (by omega)
  ·rw [if_neg (by simp; omega),if_neg h]
theorem Zqi {n a b:Nat} (hB:n≤sB) (hab:a<b) (hb:b≤n) {d:Array Int} (hd:d.size=n):Za9 n d.toList (a:Int) (b:Int)=some (Sort.reverseRange d a b).toList:=by
 have hB':=hB
 unfold sB at hB
 unfold Za9 Sort.reverseRange
 obtain⟨b',rfl⟩:∃ b',b=b' + 1:=⟨b - 1,by omega⟩
 rw [wpred (by omega),Zve hB' (b' - a) a b' fuel d hd (Nat.le_refl _) (by unfold fuel; omega) (by omega) (by omega)]
 rfl
theorem up_eq {n a:Nat} {L:Nat→Int→Option Int} (hB:n≤sB) {d:Array Int} (p:Int→Bool) {j:Nat} (hj:j<n) (_ha:a<n)
  (step:∀ m (i:Nat),i≤sB + 1→L (m + 1) (i:Int)=if i≤j∧p d[i]! = true then L m ((i + 1:Nat):Int) else some (i:Int)) :
  ∀(k i m:Nat),j + 1 - i≤k→k<m→i≤j + 2→L m (i:Int)=some ((Sort.scanUp p d j i:Nat):Int):=by
 unfold sB at hB
 intro k
 induction k with
 | zero=>
  intro i m hk hm hi
  cases m with
  | zero=>omega
  | succ m=>
  rw [step m i (by unfold sB; omega),if_neg (by omega),Sort.scanUp,if_neg (by simp; omega)]
 | succ k ih=>
  intro i m hk hm hi
  cases m with
  | zero=>omega
  | succ m=>
  rw [step m i (by unfold sB; omega),Sort.scanUp]
  by_cases h:i≤j∧p d[i]! = true
  ·rw [if_pos h,if_pos (by simp [h.1,h.2])]
   exact ih (i + 1) m (by omega) (by omega) (by omega)
  ·rw [if_neg h,if_neg (by simpa using h)]
theorem Zq4 {n i:Nat} {L:Nat→Int→Option Int} (hi:0<i) {d:Array Int} (p:Int→Bool)
  (step:∀ m (j:Nat),j<n→L (m + 1) (j:Int)=if i≤j∧p d[j]! = true then L m ((j:Int) - 1) else some (j:Int)) :
  ∀(j m:Nat),j<m→j<n→L m (j:Int)=some ((Sort.scanDown p d i j:Nat):Int):=by
 intro j
 induction j with
 | zero=>
  intro m hm hj
  cases m with
  | zero=>omega
  | succ m=>rw [step m 0 hj,if_neg (by omega)]; rfl
 | succ j ih=>
  intro m hm hj
  cases m with
  | zero=>omega
  | succ m=>
  rw [step m (j + 1) hj,Sort.scanDown]
  by_cases h:i≤j + 1∧p d[j + 1]! = true
  ·rw [if_pos h,if_pos (by simp [h.1,h.2]),show ((j + 1:Nat):Int) - 1=(j:Int) by omega]
   exact ih m (by omega) (by omega)
  ·rw [if_neg h,if_neg (by simpa using h)]
theorem pe2_eq {n a j:Nat} (hB:n≤sB) {d:Array Int} (hd:d.size=n) (ha:a<n) (hj:j<n) (i:Nat) (hi:i≤j + 2):Zar n (a:Int) d.toList (j:Int) fuel (i:Int)=some ((Sort.scanUp (fun x=>!Sort.ltInt d[a]! x) d j i:Nat):Int):=by
 refine up_eq hB (d:=d) (fun x=>!Sort.ltInt d[a]! x) hj ha (fun m i hi=>?_) (j + 1) i fuel (by omega) (by unfold sB at hB; unfold fuel; omega) hi
 unfold sB at hB hi
 rw [Zar]
 by_cases h:i≤j
 ·rw [decide_eq_true (show (i:Int)≤(j:Int) by omega)]
  simp only [Option.bind_some,if_true,Z2 hd ha,Z2 hd (show i<n by omega),Zen,wsuc (show i + 1<1000000000000 by omega),h,true_and]
 ·rw [decide_eq_false (show ¬ (i:Int)≤(j:Int) by omega)]
  simp [h]
theorem pe3_eq {n a i:Nat} (hB:n≤sB) {d:Array Int} (hd:d.size=n) (ha:a<n) (hi:0<i) (j:Nat) (hj:j<n):Zas n (a:Int) d.toList (i:Int) fuel (j:Int)=some ((Sort.scanDown (fun x=>Sort.ltInt d[a]! x) d i j:Nat):Int):=by
 refine Zq4 hi (n:=n) (d:=d) (fun x=>Sort.ltInt d[a]! x) (fun m j hj=>?_) j fuel (by unfold sB at hB; unfold fuel; omega) hj
 unfold sB at hB
 rw [Zas]
 by_cases h:i≤j
 ·rw [decide_eq_true (show (i:Int)≤(j:Int) by omega)]
  simp only [Option.bind_some,if_true,Z2 hd ha,Z2 hd hj,Zen,wi64 (show -9223372036854775808≤(j:Int) - 1 by omega) (show (j:Int) - 1<9223372036854775808 by omega),h,true_and]
 ·rw [decide_eq_false (show ¬ (i:Int)≤(j:Int) by omega)]
  simp [h]
theorem pe1_eq {n a:Nat} (hB:n≤sB) (ha:a<n):∀(k i j m:Nat) (d:Array Int),d.size=n→j + 1 - i≤k→k<m→i≤j + 2→a<i→j<n →
  Zah n (a:Int) m d.toList (i:Int) (j:Int)=some ((Sort.partEqLoop Sort.ltInt a i j d).2.toList,((Sort.partEqLoop Sort.ltInt a i j d).1:Int)):=by
 intro k
 induction k with
 | zero=>
  intro i j m d hd hk hm hij hai hj
  cases m with
  | zero=>omega
  | succ m=>
  have h1:Sort.scanUp (fun x=>!Sort.ltInt d[a]! x) d j i=i:=by rw [Sort.scanUp,if_neg (by simp; omega)]
  have h2:Sort.scanDown (fun x=>Sort.ltInt d[a]! x) d i j≤j:=Sort.scanDown_le _ _ _ _
  rw [Zah,pe2_eq hB hd ha hj i hij,Sort.partEqLoop_eq,h1]
  simp only [Option.bind_some]
  rw [pe3_eq hB hd ha (by omega) j hj]
  simp only [Option.bind_some]
  rw [if_pos (decide_eq_true (by omega)),if_pos (by omega)]
 | succ k ih=>
  intro i j m d hd hk hm hij hai hj
  cases m with
  | zero=>omega
  | succ m=>
  have hB':=hB
  unfold sB at hB
  rw [Zah,pe2_eq hB' hd ha hj i hij,Sort.partEqLoop_eq]
  simp only [Option.bind_some]
  have g1:=Sort.scanUp_ge (fun x=>!Sort.ltInt d[a]! x) d j i
  generalize Sort.scanUp (fun x=>!Sort.ltInt d[a]! x) d j i=i2 at g1 ⊢
  rw [pe3_eq hB' hd ha (by omega) j hj]
  simp only [Option.bind_some]
  have g2:=Sort.scanDown_le (fun x=>Sort.ltInt d[a]! x) d i2 j
  generalize Sort.scanDown (fun x=>Sort.ltInt d[a]! x) d i2 j=j2 at g2 ⊢
  by_cases h:i2 > j2
  ·rw [if_pos (decide_eq_true (by omega)),if_pos h]
  ·rw [if_neg (by simp; omega),if_neg h]
   obtain⟨y,hy⟩:=Zd3 (i:=i2) (x:=d[j2]!) hd (show j2<n by omega)
   simp only [Z2 hd (show j2<n by omega),Z2 hd (show i2<n by omega),Option.bind_some,Int.toNat_natCast,hy,Zd8]
   obtain⟨j',rfl⟩:∃ j',j2=j' + 1:=⟨j2 - 1,by omega⟩
   rw [wsuc (by omega),wpred (by omega)]
   exact ih (i2 + 1) j' m _ (by rw [swp_sz,hd]) (by omega) (by omega) (by omega) (by omega) (by omega)
theorem Zof {n a b p:Nat} (hB:n≤sB) (hb:b≤n) (hp0:a≤p) (hp:p<b) {d:Array Int} (hd:d.size=n) :
  Zbr n d.toList (a:Int) (b:Int) (p:Int)=some (((Sort.partitionEqual Sort.ltInt d a b p).1:Int),(Sort.partitionEqual Sort.ltInt d a b p).2.toList):=by
 have hB':=hB
 unfold sB at hB
 unfold Zbr Sort.partitionEqual
 obtain⟨y,hy⟩:=Zd3 (i:=a) (x:=d[p]!) hd (show p<n by omega)
 simp only [Z2 hd (show p<n by omega),Z2 hd (show a<n by omega),Option.bind_some,Int.toNat_natCast,hy,Zd8]
 obtain⟨b',rfl⟩:∃ b',b=b' + 1:=⟨b - 1,by omega⟩
 rw [wsuc (by omega),wpred (by omega),pe1_eq hB' (by omega) (b' + 1 - (a + 1)) (a + 1) b' fuel _ (by rw [swp_sz,hd]) (Nat.le_refl _) (by unfold fuel; omega) (by omega) (by omega) (by omega)]
 rfl
theorem pa4_eq {n a j:Nat} (hB:n≤sB) {d:Array Int} (hd:d.size=n) (ha:a<n) (hj:j<n) (i:Nat) (hi:i≤j + 2):Zbc n (a:Int) d.toList (j:Int) fuel (i:Int)=some ((Sort.scanUp (fun x=>Sort.ltInt x d[a]!) d j i:Nat):Int):=by
 refine up_eq hB (d:=d) (fun x=>Sort.ltInt x d[a]!) hj ha (fun m i hi=>?_) (j + 1) i fuel (by omega) (by unfold sB at hB; unfold fuel; omega) hi
 unfold sB at hB hi
 rw [Zbc]
 by_cases h:i≤j
 ·rw [decide_eq_true (show (i:Int)≤(j:Int) by omega)]
  simp only [Option.bind_some,if_true,Z2 hd ha,Z2 hd (show i<n by omega),Zen,wsuc (show i + 1<1000000000000 by omega),h,true_and]
 ·rw [decide_eq_false (show ¬ (i:Int)≤(j:Int) by omega)]
  simp [h]
theorem pa5_eq {n a i:Nat} (hB:n≤sB) {d:Array Int} (hd:d.size=n) (ha:a<n) (hi:0<i) (j:Nat) (hj:j<n):Zbd n (a:Int) d.toList (i:Int) fuel (j:Int)=some ((Sort.scanDown (fun x=>!Sort.ltInt x d[a]!) d i j:Nat):Int):=by
 refine Zq4 hi (n:=n) (d:=d) (fun x=>!Sort.ltInt x d[a]!) (fun m j hj=>?_) j fuel (by unfold sB at hB; unfold fuel; omega) hj
 unfold sB at hB
 rw [Zbd]
 by_cases h:i≤j
 ·rw [decide_eq_true (show (i:Int)≤(j:Int) by omega)]
  simp only [Option.bind_some,if_true,Z2 hd ha,Z2 hd hj,Zen,wi64 (show -9223372036854775808≤(j:Int) - 1 by omega) (show (j:Int) - 1<9223372036854775808 by omega),h,true_and]
 ·rw [decide_eq_false (show ¬ (i:Int)≤(j:Int) by omega)]
  simp [h]
theorem pa3_eq {n a:Nat} (hB:n≤sB) (ha:a<n):∀(k i j m:Nat) (d:Array Int),d.size=n→j + 1 - i≤k→k<m→i≤j + 2→a<i→j<n →
  Zat n (a:Int) m d.toList (i:Int) (j:Int)=some ((Sort.partLoop Sort.ltInt a i j d).2.toList,((Sort.partLoop Sort.ltInt a i j d).1:Int)):=by
 intro k
 induction k with
 | zero=>
  intro i j m d hd hk hm hij hai hj
  cases m with
  | zero=>omega
  | succ m=>
  have h1:Sort.scanUp (fun x=>Sort.ltInt x d[a]!) d j i=i:=by rw [Sort.scanUp,if_neg (by simp; omega)]
  have h2:Sort.scanDown (fun x=>!Sort.ltInt x d[a]!) d i j≤j:=Sort.scanDown_le _ _ _ _
  rw [Zat,pa4_eq hB hd ha hj i hij,Sort.partLoop_eq,h1]
  simp only [Option.bind_some]
  rw [pa5_eq hB hd ha (by omega) j hj]
  simp only [Option.bind_some]
  rw [if_pos (decide_eq_true (by omega)),if_pos (by omega)]
 | succ k ih=>
  intro i j m d hd hk hm hij hai hj
  cases m with
  | zero=>omega
  | succ m=>
  have hB':=hB
  unfold sB at hB
  rw [Zat,pa4_eq hB' hd ha hj i hij,Sort.partLoop_eq]
  simp only [Option.bind_some]
  have g1:=Sort.scanUp_ge (fun x=>Sort.ltInt x d[a]!) d j i
  generalize Sort.scanUp (fun x=>Sort.ltInt x d[a]!) d j i=i2 at g1 ⊢
  rw [pa5_eq hB' hd ha (by omega) j hj]
  simp only [Option.bind_some]
  have g2:=Sort.scanDown_le (fun x=>!Sort.ltInt x d[a]!) d i2 j
  generalize Sort.scanDown (fun x=>!Sort.ltInt x d[a]!) d i2 j=j2 at g2 ⊢
  by_cases h:i2 > j2
  ·rw [if_pos (decide_eq_true (by omega)),if_pos h]
  ·rw [if_neg (by simp; omega),if_neg h]
   obtain⟨y,hy⟩:=Zd3 (i:=i2) (x:=d[j2]!) hd (show j2<n by omega)
   simp only [Z2 hd (show j2<n by omega),Z2 hd (show i2<n by omega),Option.bind_some,Int.toNat_natCast,hy,Zd8]
   obtain⟨j',rfl⟩:∃ j',j2=j' + 1:=⟨j2 - 1,by omega⟩
   rw [wsuc (by omega),wpred (by omega)]
   exact ih (i2 + 1) j' m _ (by rw [swp_sz,hd]) (by omega) (by omega) (by omega) (by omega) (by omega)
theorem pa1_eq {n a b p:Nat} (hB:n≤sB) {d:Array Int} (hd:d.size=n) (hb:b≤n) (hab:a<b) (i:Nat) (hi:i≤b - 1 + 2) :
  Zba n d.toList (a:Int) (b:Int) (p:Int) d[p]! d[a]! fuel (i:Int)=some ((Sort.scanUp (fun x=>Sort.ltInt x (Sort.swp d a p)[a]!) (Sort.swp d a p) (b - 1) i:Nat):Int):=by
 refine up_eq hB (d:=Sort.swp d a p) (fun x=>Sort.ltInt x (Sort.swp d a p)[a]!) (show b - 1<n by omega) (show a<n by omega) (fun m i hi=>?_) b i fuel (by omega) (by unfold sB at hB; unfold fuel; omega) hi
 unfold sB at hB hi
 have hd':(Sort.swp d a p).size=n:=by rw [swp_sz,hd]
 have e1:IntKind.wrap .i64 ((b:Int) - 1)=((b - 1:Nat):Int):=by rw [wi64 (by omega) (by omega)]; omega
 rw [Zba,e1]
 simp only [Int.toNat_natCast,Zd8]
 by_cases h:i≤b - 1
 ·rw [decide_eq_true (show (i:Int)≤((b - 1:Nat):Int) by omega)]
  simp only [Option.bind_some,if_true,Z2 hd' (show a<n by omega),Z2 hd' (show i<n by omega),Zen,wsuc (show i + 1<1000000000000 by omega),h,true_and]
 ·rw [decide_eq_false (show ¬ (i:Int)≤((b - 1:Nat):Int) by omega)]
  simp [h]
theorem pa2_eq {n a p i:Nat} (hB:n≤sB) {d:Array Int} (hd:d.size=n) (ha:a<n) (hi:0<i) (j:Nat) (hj:j<n) :
  Zbb n d.toList (a:Int) (p:Int) d[p]! d[a]! (i:Int) fuel (j:Int)=some ((Sort.scanDown (fun x=>!Sort.ltInt x (Sort.swp d a p)[a]!) (Sort.swp d a p) i j:Nat):Int):=by
 refine Zq4 hi (n:=n) (d:=Sort.swp d a p) (fun x=>!Sort.ltInt x (Sort.swp d a p)[a]!) (fun m j hj=>?_) j fuel (by unfold sB at hB; unfold fuel; omega) hj
 unfold sB at hB
 have hd':(Sort.swp d a p).size=n:=by rw [swp_sz,hd]
 rw [Zbb]
 simp only [Int.toNat_natCast,Zd8]
 by_cases h:i≤j
 ·rw [decide_eq_true (show (i:Int)≤(j:Int) by omega)]
  simp only [Option.bind_some,if_true,Z2 hd' ha,Z2 hd' hj,Zen,wi64 (show -9223372036854775808≤(j:Int) - 1 by omega) (show (j:Int) - 1<9223372036854775808 by omega),h,true_and]
 ·rw [decide_eq_false (show ¬ (i:Int)≤(j:Int) by omega)]
  simp [h]
theorem Zt5 {n a:Nat}:∀(k i j:Nat) (d:Array Int),d.size=n→j + 1 - i≤k→(Sort.partLoop Sort.ltInt a i j d).2.size=n:=by
 intro k
 induction k with
 | zero=>
  intro i j d hd hk
  have h1:Sort.scanUp (fun x=>Sort.ltInt x d[a]!) d j i=i:=by rw [Sort.scanUp,if_neg (by simp; omega)]
  have h2:Sort.scanDown (fun x=>!Sort.ltInt x d[a]!) d i j≤j:=Sort.scanDown_le _ _ _ _
  rw [Sort.partLoop_eq,h1,if_pos (by omega)]; exact hd
 | succ k ih=>
  intro i j d hd hk
  rw [Sort.partLoop_eq]
  have g1:=Sort.scanUp_ge (fun x=>Sort.ltInt x d[a]!) d j i
  have g2:=Sort.scanDown_le (fun x=>!Sort.ltInt x d[a]!) d (Sort.scanUp (fun x=>Sort.ltInt x d[a]!) d j i) j
  split
  ·exact hd
  ·exact ih _ _ _ (by rw [swp_sz,hd]) (by omega)
theorem Zt6 {a:Nat}:∀(k i j:Nat) (d:Array Int),j + 1 - i≤k→(Sort.partLoop Sort.ltInt a i j d).1≤j:=by
 intro k
 induction k with
 | zero=>
  intro i j d hk
  have h1:Sort.scanUp (fun x=>Sort.ltInt x d[a]!) d j i=i:=by rw [Sort.scanUp,if_neg (by simp; omega)]
  have h2:Sort.scanDown (fun x=>!Sort.ltInt x d[a]!) d i j≤j:=Sort.scanDown_le _ _ _ _
  rw [Sort.partLoop_eq,h1,if_pos (by omega)]; exact h2
 | succ k ih=>
  intro i j d hk
  rw [Sort.partLoop_eq]
  have g1:=Sort.scanUp_ge (fun x=>Sort.ltInt x d[a]!) d j i
  have g2:=Sort.scanDown_le (fun x=>!Sort.ltInt x d[a]!) d (Sort.scanUp (fun x=>Sort.ltInt x d[a]!) d j i) j
  split
  ·exact g2
  ·exact Nat.le_trans (ih _ _ _ (by omega)) (by omega)
theorem Zs5 {n a b p:Nat} (hB:n≤sB) (hb:b≤n) (hp0:a≤p) (hp:p<b) {d:Array Int} (hd:d.size=n) :
  Zca n d.toList (a:Int) (b:Int) (p:Int)=some (((Sort.partition Sort.ltInt d a b p).1:Int),(Sort.partition Sort.ltInt d a b p).2.1,(Sort.partition Sort.ltInt d a b p).2.2.toList):=by
 have hB':=hB
 unfold sB at hB
 have hd':(Sort.swp d a p).size=n:=by rw [swp_sz,hd]
 unfold Zca Sort.partition
 obtain⟨y,hy⟩:=Zd3 (i:=a) (x:=d[p]!) hd (show p<n by omega)
 have e1:IntKind.wrap .i64 ((b:Int) - 1)=((b - 1:Nat):Int):=by rw [wi64 (by omega) (by omega)]; omega
 simp only [Z2 hd (show p<n by omega),Z2 hd (show a<n by omega),Option.bind_some,Int.toNat_natCast,hy,Zd8]
 rw [wsuc (by omega),pa1_eq hB' hd hb (by omega) (a + 1) (by omega),e1]
 simp only [Option.bind_some]
 have g1:=Sort.scanUp_ge (fun x=>Sort.ltInt x (Sort.swp d a p)[a]!) (Sort.swp d a p) (b - 1) (a + 1)
 generalize Sort.scanUp (fun x=>Sort.ltInt x (Sort.swp d a p)[a]!) (Sort.swp d a p) (b - 1) (a + 1)=i at g1 ⊢
 rw [pa2_eq hB' hd (by omega) (by omega) (b - 1) (by omega)]
 simp only [Option.bind_some]
 have g2:=Sort.scanDown_le (fun x=>!Sort.ltInt x (Sort.swp d a p)[a]!) (Sort.swp d a p) i (b - 1)
 generalize Sort.scanDown (fun x=>!Sort.ltInt x (Sort.swp d a p)[a]!) (Sort.swp d a p) i (b - 1)=j at g2 ⊢
 by_cases h:i > j
 ·rw [if_pos (decide_eq_true (by omega)),if_pos h]
  obtain⟨y,hy⟩:=Zd3 (i:=j) (x:=(Sort.swp d a p)[a]!) hd' (show a<n by omega)
  simp only [Z2 hd' (show j<n by omega),Z2 hd' (show a<n by omega),Option.bind_some,Int.toNat_natCast,hy,Zd8]
 ·rw [if_neg (by simp; omega),if_neg h]
  obtain⟨y,hy⟩:=Zd3 (i:=i) (x:=(Sort.swp d a p)[j]!) hd' (show j<n by omega)
  simp only [Z2 hd' (show j<n by omega),Z2 hd' (show i<n by omega),Option.bind_some,Int.toNat_natCast,hy,Zd8]
  obtain⟨j',rfl⟩:∃ j',j=j' + 1:=⟨j - 1,by omega⟩
  have hd2:(Sort.swp (Sort.swp d a p) i (j' + 1)).size=n:=by rw [swp_sz,hd']
  rw [wsuc (by omega),wpred (by omega),pa3_eq hB' (by omega) (j' + 1 - (i + 1)) (i + 1) j' fuel _ hd2 (Nat.le_refl _) (by unfold fuel; omega) (by omega) (by omega) (by omega)]
  simp only [Option.bind_some,Nat.add_sub_cancel]
  have hz:=Zt5 (a:=a) (j' + 1 - (i + 1)) (i + 1) j' _ hd2 (Nat.le_refl _)
  have hl:=Zt6 (a:=a) (j' + 1 - (i + 1)) (i + 1) j' (Sort.swp (Sort.swp d a p) i (j' + 1)) (Nat.le_refl _)
  generalize Sort.partLoop Sort.ltInt a (i + 1) j' (Sort.swp (Sort.swp d a p) i (j' + 1))=r at hz hl ⊢
  obtain⟨r1,r2⟩:=r
  simp only at hz hl ⊢
  obtain⟨y,hy⟩:=Zd3 (i:=r1) (x:=r2[a]!) hz (show a<n by omega)
  simp only [Z2 hz (show r1<n by omega),Z2 hz (show a<n by omega),Option.bind_some,Int.toNat_natCast,hy,Zd8]
end Go.AM
